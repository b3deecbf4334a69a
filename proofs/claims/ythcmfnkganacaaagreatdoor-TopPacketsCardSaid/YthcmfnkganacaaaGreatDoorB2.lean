/-
  A REGION THAT DRAWS ITS ORDER: each order by itself, but that what may change places with all others goes first; so does a load of a variable that nobody writes any more.
  No condition: the theorems hold for every program that follows Go's mixed orders.
-/
import Derived.Test.YthcmfnkganacaaaGreatDoorA7
import Derived.Test.YthcmfnkganacaaaGreatDoorA6
import Derived.Lib.Walk
import Derived.Lib.ConvBytes
import Derived.Lib.AtoiAllMem
import Derived.Laws.Closers25
import Derived.Laws.Closers25b
import Derived.WalkKit
import Derived.Laws.Externs
import Derived.Laws.FloatArith
import Derived.WalkLawsBesides
import Derived.Test.YthcmfnkganacaaaGreatDoorA3
import Derived.Sort.OwnSorted
import Derived.Test.YthcmfnkganacaaaGreatDoorA5
set_option linter.unusedVariables false
set_option linter.unusedSimpArgs false
set_option maxRecDepth 100000
namespace Go.Proofs.YthcmfnkganacaaaGreatDoor.Vc
section
open Go.RowKit Go.Proofs Go.Shelf
theorem zdE {w:World} {F:Nat→Prop} {vs:Array Value} {d1 d2 d3:D} (hsz:vs.size=3) (h: ∀ (i:Nat) d',[d1,d2,d3][i]? =some d' → ∃ v,vs[i]? =some v∧R1 w F noM v d'): ∃ a b c,vs= #[a,b,c]∧R1 w F noM a d1∧R1 w F noM b d2∧R1 w F noM c d3:=by
 obtain ⟨l⟩:=vs
 match l,hsz with
 | [a,b,c],_=>
  obtain ⟨x,hx,h1⟩:=h 0 d1 rfl
  obtain ⟨y,hy,h2⟩:=h 1 d2 rfl
  obtain ⟨z,hz,h3⟩:=h 2 d3 rfl
  simp at hx hy hz
  subst hx hy hz
  exact ⟨_,_,_,rfl,h1,h2,h3⟩
def E114o:List Bs→D:=fun x=> .own 9 tS x
def zpn (N:Nat) (s p:Bs):Option (List Bs):=F114 s p
theorem zpo (N:Nat) (s p:Bs): ∀ r,zpn N s p=some r→Spec Tryz.prog 114 [.val tS s,.val tS p] (E114o r):=P114 s p
def E115:Bs→D:=fun x=>encV tS x
def F115 (N:Nat) (s p:Bs):Option Bs:=zhg s p
theorem P115 (N:Nat) (s p:Bs): ∀ r,F115 N s p=some r→Spec Tryz.prog 115 [.val tS s,.val tS p] (E115 r):=fun r h=>zdB h
def E431:Bs→D:=fun x=>encV tS x
def F431 (N:Nat) (s p:Bs):Option Bs:=zmt s p
theorem P431 (N:Nat) (s p:Bs): ∀ r,F431 N s p=some r→Spec Tryz.prog 431 [.val tS s,.val tS p] (E431 r):=fun r h=>zfi h
def E138:Int×Bool→D:=fun x=> .tup [encV tI x.1,encV .err x.2]
def F138 (N:Nat) (s:Bs):Option (Int×Bool):=ziu s
theorem P138 (N:Nat) (s:Bs): ∀ r,F138 N s=some r→Spec Tryz.prog 138 [.val tS s] (E138 r):=fun r h=>zhf h
def E116:Bool→D:=fun x=>encV tB x
def F116 (N:Nat) (s p:Bs):Option Bool:=if s.length≤1000000 then some (Lib.hasSuffix s p) else none
theorem P116 (N:Nat) (s p:Bs): ∀ r,F116 N s p=some r→Spec Tryz.prog 116 [.val tS s,.val tS p] (E116 r):=fun r h=>by
 unfold F116 at h
 split at h
 ·rename_i hl
  cases h
  refine qA (zw (fn:=Tryz.f116) rfl rfl rfl) fun w vs F hF hgl hsz hargs=> ?_
  obtain ⟨a,b,rfl,h1,h2⟩:=yt hsz hargs
  obtain ⟨S,rfl,rfl⟩:=arg_str h1
  obtain ⟨Q,rfl,rfl⟩:=arg_str h2
  exact ⟨_,fun _=>rfl,Tryz.strings_HasSuffix S Q w (by rw [strSize];omega)⟩
 ·cases h
def E216:Int→D:=fun x=>encV tI x
def F216 (N:Nat) (s p:Bs):Option Int:=if s.length<4294967281 then some (Lib.index s p) else none
theorem P216 (N:Nat) (s p:Bs): ∀ r,F216 N s p=some r→Spec Tryz.prog 216 [.val .str s,.val .str p] (E216 r):=fun r h=>by
 unfold F216 at h
 split at h
 ·rename_i hl
  cases h
  refine qA (zw (fn:=Tryz.f216) rfl rfl rfl) fun w vs F hF hgl hsz hargs=> ?_
  obtain ⟨a,b,rfl,h1,h2⟩:=yt hsz hargs
  obtain ⟨S,rfl,rfl⟩:=arg_str h1
  obtain ⟨Q,rfl,rfl⟩:=arg_str h2
  obtain ⟨_,m,hm⟩:=hgl.int (g:=0) (by kernel_rfl)
  exact ⟨_,fun _=>rfl,Tryz.stringslite_Index S Q m w (by rw [strSize];exact hl) hm⟩
 ·cases h
def E433:Bs→D:=fun x=>encV tS x
def F433 (N:Nat) (s p q:Bs):Option Bs:=if s.length<4294967281∧1≤p.length∧s.length+Lib.countB ⟨s.toArray⟩ ⟨p.toArray⟩*q.length≤140737488355328 then some (Lib.replaceAll s p q) else none
theorem P433 (N:Nat) (s p q:Bs): ∀ r,F433 N s p q=some r→Spec Tryz.prog 433 [.val tS s,.val tS p,.val tS q] (E433 r):=fun r h=>by
 unfold F433 at h
 split at h
 ·rename_i hl
  cases h
  refine zaq (u:=tS) (x:=Lib.replaceAll s p q) (zw (fn:=Tryz.f433) rfl rfl rfl) fun w vs F hF hgl hsz hargs=> ?_
  obtain ⟨a,b,c,rfl,h1,h2,h3⟩:=zdE hsz hargs
  obtain ⟨S,rfl,rfl⟩:=arg_str h1
  obtain ⟨Q,rfl,rfl⟩:=arg_str h2
  obtain ⟨T,rfl,rfl⟩:=arg_str h3
  obtain ⟨_,m,hm⟩:=hgl.int (g:=0) (by kernel_rfl)
  exact ⟨_,fun _ _=>⟨_,rfl,by simp⟩,Tryz.strings_ReplaceAll S Q T m w (by rw [strSize];exact hl.1) hm (by rw [strSize];exact hl.2.1) (by rw [strSize,strSize];exact hl.2.2)⟩
 ·cases h
def zgi (c:UInt8):Option Nat:=
 if 48≤c.toNat∧c.toNat≤57 then some (c.toNat - 48) else
 if 97≤(c ||| 32).toNat∧(c ||| 32).toNat≤102 then some ((c ||| 32).toNat - 87) else none
def pu16:List UInt8→Nat→Nat×Nat
 | [],n=>(n,0)
 | c::r,n=>match zgi c with
  | none=>(0,2)
  | some d=>if n*16+d≤281474976710655 then pu16 r (n*16+d) else (281474976710655,1)
def zaK:List UInt8→Nat×Nat
 | []=>(0,2)
 | l=>pu16 l 0
def puV (x:Nat×Nat):Value:= .tuple #[.int .u64 x.1,if x.2=0 then .nilIface else .iface 394 (.int .i64 x.2)]
end
section
open Go.RowKit Go.Proofs Go.Shelf
theorem zmy: ∀ n:Fin 256,bits .or .u8 ((n.val:Nat):Int) 32=(((n.val.toUInt8 ||| 32:UInt8).toNat:Nat):Int):=by decide
theorem zrI (c:UInt8):bits .or .u8 (c.toNat:Int) 32=(((c ||| 32:UInt8).toNat:Nat):Int):=by
 have h:=zmy ⟨c.toNat,c.toNat_lt⟩
 simpa using h
set_option maxHeartbeats 32000000 in
theorem zpp (t:ByteArray) (hne:t.size≠0) (hmax:t.size≤1000000) (w:World):
  Calls Tryz.prog 384 #[.string t,.int .i64 16,.int .i64 48] w fun e w' =>e= .returned (puV (pu16 t.data.toList 0))∧w' =Lib.bytesWorld w 5 t:=by
 have mixed:=mixed
 have hemp:t.toList.isEmpty=false:=by
  rw [← decide_eq_emptyBytes]
  exact decide_eq_false (fun h=>hne (by rw [h];rfl))
 have hcv:=Lib.run_convert_string_bytes (P:=Tryz.prog) w 9 195 5 t (u:= .string) Tryz.underlying9 Tryz.underlying195 Tryz.underlying5
 have hB: ∀ j,j<t.size→(Lib.bytesWorld w 5 t).cell? ⟨w.heap.size,j,none⟩=some (.int .u8 (t.data.toList.getD j 0).toNat):=fun j hj=>Lib.bytesWorld_cell w 5 t j hj
 obtain ⟨W1,hW1⟩: ∃ W1,W1=Lib.bytesWorld w 5 t:=⟨_,rfl⟩
 rw [← hW1] at hcv hB ⊢
 clear hW1
 obtain ⟨bs,hL⟩: ∃ bs,bs=t.data.toList:=⟨_,rfl⟩
 have hLn:bs.length=t.size:=by rw [hL,Lib.size_eq]
 rw [← hL] at hB ⊢
 clear hL
 have hmv:IntKind.u64.wrap (IntKind.u64.wrap 281474976710656 - 1)=281474976710655:=by
  rw [IntKind.wrap_u64,IntKind.wrap_u64]
  decide
 go_enter Tryz.func384,Tryz.ntmps384
 go_wp2
 go_loop [12,13,101] (fun vu vn vi=> ∃ (k acc:Nat) (a:Int),vu= .bool false∧vn= .int .u64 a∧vi= .int .i64 k∧k≤t.size∧Hid (a=(acc:Int)∧acc≤281474976710655∧pu16 bs 0=pu16 (bs.drop k) acc))
  (fun _ _ vi=>t.size - (intOf vi).toNat)
 case atStart=>exact ⟨0,0,0,rfl,rfl,rfl,by omega,rfl,by omega,rfl⟩
 case round=>
  obtain ⟨k,acc,a,rfl,rfl,rfl,hk,hh⟩:=hrel
  obtain ⟨ha,hacc,hdec⟩:=hh.out
  clear hh
  have a0:0≤a:=by omega
  have a1:a<281474976710656:=by omega
  by_cases hkn:k<t.size
  ·have hc:=hB k hkn
   have hdrop:bs.drop k=bs[k]'(by omega)::bs.drop (k+1):=List.drop_eq_getElem_cons (by omega)
   have hget:bs.getD k 0=bs[k]'(by omega):=by simp [List.getD,List.getElem?_eq_getElem (show k<bs.length by omega)]
   rw [hdrop] at hdec
   rw [hget] at hc
   generalize bs[k]'(by omega)=c at hc hdec
   have hc256:c.toNat<256:=c.toNat_lt
   have hlow:=zrI c
   have hl256:(c ||| 32:UInt8).toNat<256:=(c ||| 32:UInt8).toNat_lt
   have hu:bits .or .u8 95 32=127:=by decide
   clear hB hdrop hget
   by_cases hdig:48≤c.toNat∧c.toNat≤57
   ·obtain ⟨hd0,hd1⟩:=hdig
    have hD:zgi c=some (c.toNat - 48):=by simp [zgi,hd0,hd1]
    by_cases hov:acc*16+(c.toNat - 48)≤281474976710655
    ·have hF:pu16 (c::bs.drop (k+1)) acc=pu16 (bs.drop (k+1)) (acc*16+(c.toNat - 48)):=by simp [pu16,hD,hov]
     have HN:Hid (a*16+((c.toNat:Int) - 48)=((acc*16+(c.toNat - 48):Nat):Int)∧acc*16+(c.toNat - 48)≤281474976710655∧pu16 bs 0=pu16 (bs.drop (k+1)) (acc*16+(c.toNat - 48))):=Lib.hid ⟨by omega,by omega,hdec.trans hF⟩
     have iov:a*16+((c.toNat:Int) - 48)≤281474976710655:=by omega
     clear hacc hF hov hdec ha hlow hl256 hu hD
     go_wp2
     refine ⟨⟨k+1,acc*16+(c.toNat - 48),a*16+((c.toNat:Int) - 48),rfl,(by first | rfl | (congr 1;omega)),(by first | rfl | (congr 1;omega)),by omega,HN⟩,by simp [intOf];omega⟩
    ·have hF:pu16 (c::bs.drop (k+1)) acc=(281474976710655,1):=by simp [pu16,hD,hov]
     rw [hF] at hdec
     have iov:281474976710655<a*16+((c.toNat:Int) - 48):=by omega
     clear hacc hF hov ha hlow hl256 hu hD
     go_wp2
     go_ret2
     all_goals first | exact ⟨rfl,rfl⟩ | exact ⟨by rw [hdec];rfl,rfl⟩
   ·by_cases hx:97≤(c ||| 32:UInt8).toNat∧(c ||| 32:UInt8).toNat≤102
    ·have hD:zgi c=some ((c ||| 32).toNat - 87):=by unfold zgi;rw [if_neg hdig,if_pos hx]
     have h95:(c.toNat:Int)≠95:=by
      intro h
      rw [h,hu] at hlow
      omega
     generalize (c ||| 32:UInt8).toNat=L at hlow hl256 hx hD
     obtain ⟨hx0,hx1⟩:=hx
     by_cases hov:acc*16+(L - 87)≤281474976710655
     ·have hF:pu16 (c::bs.drop (k+1)) acc=pu16 (bs.drop (k+1)) (acc*16+(L - 87)):=by simp [pu16,hD,hov]
      have HN:Hid (a*16+((L:Int) - 87)=((acc*16+(L - 87):Nat):Int)∧acc*16+(L - 87)≤281474976710655∧pu16 bs 0=pu16 (bs.drop (k+1)) (acc*16+(L - 87))):=Lib.hid ⟨by omega,by omega,hdec.trans hF⟩
      have iov:a*16+((L:Int) - 87)≤281474976710655:=by omega
      clear hacc hF hov hdec ha hD
      go_wp2_with (go_at_call 439;refine (Tryz.internal_strconv_lower _ _).mono ?_;rintro e w' ⟨rfl,rfl⟩)
      all_goals first | (exfalso;omega) | refine ⟨⟨k+1,acc*16+(L - 87),a*16+((L:Int) - 87),rfl,(by first | rfl | (congr 1;omega)),(by first | rfl | (congr 1;omega)),by omega,HN⟩,by simp [intOf];omega⟩
     ·have hF:pu16 (c::bs.drop (k+1)) acc=(281474976710655,1):=by simp [pu16,hD,hov]
      rw [hF] at hdec
      have iov:281474976710655<a*16+((L:Int) - 87):=by omega
      clear hacc hF hov ha hD
      go_wp2_with (go_at_call 439;refine (Tryz.internal_strconv_lower _ _).mono ?_;rintro e w' ⟨rfl,rfl⟩)
      all_goals first | (exfalso;omega) | (go_ret2;first | exact ⟨rfl,rfl⟩ | exact ⟨by rw [hdec];rfl,rfl⟩)
    ·have hD:zgi c=none:=by simp only [zgi];rw [if_neg hdig,if_neg hx]
     have hF:pu16 (c::bs.drop (k+1)) acc=(0,2):=by simp [pu16,hD]
     rw [hF] at hdec
     generalize (c ||| 32:UInt8).toNat=L at hlow hl256 hx hD
     clear hacc hF ha hD
     go_wp2_with (go_at_call 439;refine (Tryz.internal_strconv_lower _ _).mono ?_;rintro e w' ⟨rfl,rfl⟩)
     all_goals go_ret2
     all_goals first | exact ⟨rfl,rfl⟩ | exact ⟨by rw [hdec];rfl,rfl⟩
  ·have hkk:k=t.size:=by omega
   subst hkk
   have hF:pu16 (bs.drop t.size) acc=(acc,0):=by rw [List.drop_eq_nil_of_le (by omega)];rfl
   rw [hF] at hdec
   subst ha
   clear hacc hF a0 a1
   go_wp2
   go_ret2
   all_goals first | exact ⟨rfl,rfl⟩ | exact ⟨by rw [hdec];rfl,rfl⟩
set_option maxHeartbeats 4000000 in
theorem zmz (w:World):
  Calls Tryz.prog 384 #[.string ⟨#[]⟩,.int .i64 16,.int .i64 48] w fun e w' =>e= .returned (puV (0,2))∧w' =w:=by
 have mixed:=mixed
 have hemp:(ByteArray.mk #[]).toList.isEmpty=true:=by
  rw [← decide_eq_emptyBytes]
  exact decide_eq_true rfl
 go_enter Tryz.func384,Tryz.ntmps384
 go_wp2
 go_ret2
 all_goals exact ⟨rfl,rfl⟩
end
section
open Go.RowKit Go.Proofs Go.Shelf
theorem zrJ (t:ByteArray) (hmax:t.size≤1000000) (w:World):
  Calls Tryz.prog 384 #[.string t,.int .i64 16,.int .i64 48] w fun e w' =>e= .returned (puV (zaK t.data.toList))∧Below w.heap.size w w' :=by
 by_cases hne:t.size=0
 ·have ht:t=⟨#[]⟩:=by
   cases t with
   | mk d=>
    have:d.size=0:=hne
    rw [Array.size_eq_zero_iff] at this
    rw [this]
  subst ht
  refine (zmz w).mono ?_
  rintro e w' ⟨rfl,rfl⟩
  exact ⟨rfl,Below.refl _ _⟩
 ·refine (zpp t hne hmax w).mono ?_
  rintro e w' ⟨rfl,rfl⟩
  have hl:t.data.toList≠[]:=by
   intro h
   have:=congrArg List.length h
   exact hne ((strSize t).trans this)
  refine ⟨?_,?_⟩
  ·cases hh:t.data.toList with
   | nil=>exact absurd hh hl
   | cons a l=>rfl
  ·exact ⟨rfl,rfl,rfl,by rw [Lib.bytesWorld_size];omega,fun j hj=>Lib.bytesWorld_at_old w _ t j hj⟩
theorem zhj {w w' :World} {F:Nat→Prop} (hgl:Glb Tryz.prog w F) (hb:Below w.heap.size w w') {g:Nat} (hg:errVar Tryz.prog g=true): ∃ ev,w'.cell? ⟨g,0,none⟩=some ev∧(ev= .nilIface∨ ∃ te pe,ev= .iface te pe):=by
 obtain ⟨tp,p,e,fr,h⟩:=hgl.err hg
 have hl:g<w.heap.size:=(Array.getElem?_eq_some_iff.1 h).1
 refine ⟨.iface tp p,?_,.inr ⟨_,_,rfl⟩⟩
 unfold World.cell?
 rw [hb.block g hl,h]
 rfl
theorem zpq {w:World} {F B:Nat→Prop} {n:Int} {v:Value} {b:Bool} (h:(v= .nilIface∧b=false)∨(b=true∧ ∃ tp p,v= .iface tp p)):RR w F B none (.tuple #[.int .u64 n,v]) (.tup [encV (.int .u64) n,encV .err b]):=
 ⟨_,rfl,rfl,fun j d hj=>by
  match j,hj with
  | 0,hj=>cases hj;exact ⟨_,rfl,rfl⟩
  | 1,hj=>
   cases hj
   rcases h with ⟨rfl,rfl⟩ | ⟨rfl,tp,p,rfl⟩
   ·exact ⟨_,rfl,_,rfl,.inl ⟨rfl,rfl⟩⟩
   ·exact ⟨_,rfl,_,rfl,.inr ⟨rfl,tp,p,rfl⟩⟩⟩
theorem znY: ∀ (l:List UInt8) (n:Nat),(pu16 l n).2=0∨(pu16 l n).2=1∨(pu16 l n).2=2
 | [],n=> .inl rfl
 | c::r,n=>by
  unfold pu16
  split
  ·exact .inr (.inr rfl)
  ·split
   ·exact znY r _
   ·exact .inr (.inl rfl)
def E432:Int×Bool→D:=fun x=> .tup [encV (.int .u64) x.1,encV .err x.2]
def F432 (N:Nat) (s:Bs) (b n:Int):Option (Int×Bool):=if b=16∧n=48∧s.length≤1000000 then some (((zaK s).1:Int),(zaK s).2 !=0) else none
set_option maxHeartbeats 8000000 in
theorem P432 (N:Nat) (s:Bs) (b n:Int): ∀ r,F432 N s b n=some r→Spec Tryz.prog 432 [.val tS s,.val tI b,.val tI n] (E432 r):=fun r h=>by
 have mixed:=mixed
 unfold F432 at h
 split at h
 ·rename_i hl
  obtain ⟨rfl,rfl,hl⟩:=hl
  cases h
  refine ⟨zw (fn:=Tryz.f432) rfl rfl rfl,fun w vs F hF hgl hsz hargs=> ?_⟩
  obtain ⟨a,b,c,rfl,h1,h2,h3⟩:=zdE hsz hargs
  obtain ⟨S,rfl,rfl⟩:=arg_str h1
  obtain rfl:=zaJ h2
  obtain rfl:=zaJ h3
  clear hsz hargs h1 h2 h3
  have hS:S.size≤1000000:=by rw [strSize];exact hl
  have key: ∀ (e:Ending) (w' :World) (v:Value),e= .returned (.tuple #[.int .u64 ((zaK S.data.toList).1:Int),v])→((v= .nilIface∧((zaK S.data.toList).2 !=0)=false)∨(((zaK S.data.toList).2 !=0)=true∧ ∃ tp p,v= .iface tp p))→Below w.heap.size w w' → ∃ v F' G,e= .returned v∧Below w.heap.size w w' ∧(∀ g,F g→F' g)∧(∀ g,F' g→g<w'.heap.size∧(F g∨w.heap.size≤g))∧
   (∀ g,G=some g→w.heap.size≤g∧ ¬F' g∧g<w'.heap.size)∧RR w' F' (fun g=>w.heap.size≤g) G v (E432 (((zaK S.data.toList).1:Int),(zaK S.data.toList).2 !=0)):=by
   rintro e w' v rfl hv hb
   exact ⟨_,F,none,rfl,hb,fun _ h=>h,fun g hg=>⟨Nat.lt_of_lt_of_le (hF g hg) hb.size,.inl hg⟩,fun g hg=>(by cases hg),zpq hv⟩
  have hP:=zrJ S hS w
  have h2:(zaK S.data.toList).2=0∨(zaK S.data.toList).2=1∨(zaK S.data.toList).2=2:=by
   cases S.data.toList with
   | nil=>exact .inr (.inr rfl)
   | cons c r=>exact znY _ _
  generalize zaK S.data.toList=x at hP h2 key
  obtain ⟨v,k⟩:=x
  rcases h2 with h2 | h2 | h2
  ·simp only at h2
   subst h2
   have hP' :Calls Tryz.prog 384 #[.string S,.int .i64 16,.int .i64 48] w fun e w' =>e= .returned (.tuple #[.int .u64 (v:Int),.nilIface])∧Below w.heap.size w w' :=hP
   clear hP
   refine Calls.mono (R:=fun e w' =>e= .returned (.tuple #[.int .u64 (v:Int),.nilIface])∧Below w.heap.size w w') ?_ fun e w' he=>key e w' _ he.1 (.inl ⟨rfl,rfl⟩) he.2
   clear key
   go_enter Tryz.func432,Tryz.ntmps432
   go_wp2_with (go_at_call 384;refine hP'.mono ?_;rintro e w' ⟨rfl,hb⟩)
   go_ret2
   exact ⟨rfl,hb⟩
  ·simp only at h2
   subst h2
   have hP' :Calls Tryz.prog 384 #[.string S,.int .i64 16,.int .i64 48] w fun e w' =>e= .returned (.tuple #[.int .u64 (v:Int),.iface 394 (.int .i64 1)])∧Below w.heap.size w w' :=hP
   clear hP
   refine Calls.mono (R:=fun e w' => ∃ tp p,e= .returned (.tuple #[.int .u64 (v:Int),.iface tp p])∧Below w.heap.size w w') ?_ fun e w' he=>(by obtain ⟨tp,p,h1,h2⟩:=he;exact key e w' _ h1 (.inr ⟨rfl,tp,p,rfl⟩) h2)
   clear key
   go_enter Tryz.func432,Tryz.ntmps432
   go_wp2_with (first
    | (go_at_call 384;refine hP'.mono ?_;rintro e w1 ⟨rfl,hb⟩;obtain ⟨ev,hv,hev⟩:=zhj hgl hb (g:=4) (by kernel_rfl))
    | (go_at_call 218;refine (Tryz.strconv_toError_range _ S 16 48 ev _ (by omega) hv hev).mono ?_;rintro e w2 ⟨N2,rfl,_,_,hb2⟩))
   go_ret2
   exact ⟨_,_,rfl,hb.trans (hb2.mono hb.size)⟩
  ·simp only at h2
   subst h2
   have hP' :Calls Tryz.prog 384 #[.string S,.int .i64 16,.int .i64 48] w fun e w' =>e= .returned (.tuple #[.int .u64 (v:Int),.iface 394 (.int .i64 2)])∧Below w.heap.size w w' :=hP
   clear hP
   refine Calls.mono (R:=fun e w' => ∃ tp p,e= .returned (.tuple #[.int .u64 (v:Int),.iface tp p])∧Below w.heap.size w w') ?_ fun e w' he=>(by obtain ⟨tp,p,h1,h2⟩:=he;exact key e w' _ h1 (.inr ⟨rfl,tp,p,rfl⟩) h2)
   clear key
   go_enter Tryz.func432,Tryz.ntmps432
   go_wp2_with (first
    | (go_at_call 384;refine hP'.mono ?_;rintro e w1 ⟨rfl,hb⟩;obtain ⟨ev,hv,hev⟩:=zhj hgl hb (g:=3) (by kernel_rfl))
    | (go_at_call 218;refine (Tryz.strconv_toError_syntax _ S 16 48 ev _ (by omega) hv hev).mono ?_;rintro e w2 ⟨N2,rfl,_,_,hb2⟩))
   go_ret2
   exact ⟨_,_,rfl,hb.trans (hb2.mono hb.size)⟩
 ·cases h
end
section
open Go.RowKit
def E137:(Bs×Bs×Bool)→D:=fun x=> .tup [encV tS x.1,encV tS x.2.1,encV tB x.2.2]
noncomputable def V137 (N:Nat) (a0:Bs) (a1:Bs):Vt (Bs×Bs×Bool) (Option D) (fun q=>some (E137 q)):=
 .c1 (P216 N a0 a1) (fun x1=> .br (decide ((0:Int)≤x1)) (.ck ((0:Int)≤0∧(0:Int)≤x1∧x1≤(a0.length:Int)) (.ck ((0:Int)≤(IntKind.i64.wrap (x1+(a1.length:Int)))∧(IntKind.i64.wrap (x1+(a1.length:Int)))≤(a0.length:Int)∧(a0.length:Int)≤(a0.length:Int)) (.leaf ((slc a0 0 x1),(slc a0 (IntKind.i64.wrap (x1+(a1.length:Int))) (a0.length:Int)),true)))) (.leaf (a0,([]:Bs),false)))
noncomputable def F137 (N:Nat) (a0:Bs) (a1:Bs):Option (Bs×Bs×Bool):=(V137 N a0 a1).eval
def t137:List (Nat×List Nat×List (Nat×Sh)):=[]
theorem P137 (N:Nat) (a0:Bs) (a1:Bs): ∀ r,F137 N a0 a1=some r→Spec Tryz.prog 137 [.val tS a0,.val tS a1] (E137 r):=fun r h=>zk (fn:=Tryz.f137) rfl rfl rfl rfl false (zb (tbl:=t137) (μ:=[]) mixed _ _ _ (by
 have h1:=Vt.sound _ h
 refine Eq.mp ?_ h1
 kernel_rfl))
def E76:(Bs×Bs×Bool)→D:=fun x=> .tup [encV tS x.1,encV tS x.2.1,encV tB x.2.2]
noncomputable def V76 (N:Nat) (a0:Bs) (a1:Bs):Vt (Bs×Bs×Bool) (Option D) (fun q=>some (E76 q)):=
 .c3 (P137 N a0 a1) (fun x1 x2 x3=> .leaf (x1,x2,x3))
noncomputable def F76 (N:Nat) (a0:Bs) (a1:Bs):Option (Bs×Bs×Bool):=(V76 N a0 a1).eval
def t76:List (Nat×List Nat×List (Nat×Sh)):=[]
theorem P76 (N:Nat) (a0:Bs) (a1:Bs): ∀ r,F76 N a0 a1=some r→Spec Tryz.prog 76 [.val tS a0,.val tS a1] (E76 r):=fun r h=>zk (fn:=Tryz.f76) rfl rfl rfl rfl false (zb (tbl:=t76) (μ:=[]) mixed _ _ _ (by
 have h1:=Vt.sound _ h
 refine Eq.mp ?_ h1
 kernel_rfl))
def E437:(Int×Bool)→D:=fun x=> .tup [encV tI x.1,encV tB x.2]
noncomputable def V437 (N:Nat) (a0:Bs):Vt (Int×Bool) (Option D) (fun q=>some (E437 q)):=
 .c3 (P76 N a0 ([46]:Bs)) (fun x1 x2 x3=> .c2 (P138 N x1) (fun x4 x5=> .br x5 (.leaf (0,false)) (.br (decide ((6:Int)<(x1.length:Int))) (.leaf (0,false)) (.br (decide (x4<0)) (.leaf (0,false)) (.c1 (P139 N x4) (fun x6=> .br (!(x6==x1)) (.leaf (0,false)) (.br (!x3) (.leaf ((IntKind.i64.wrap (1000*x4)),true)) (.c1 (P82 N ([48]:Bs) (imax (IntKind.i64.wrap (3 - (x2.length:Int))) 0)) (fun x7=> .ck (room (x2.length+x7.length)) (.c2 (P138 N (x2++x7)) (fun x8 x9=> .br x9 (.leaf (0,false)) (.br (decide ((x2.length:Int)<1)) (.leaf (0,false)) (.br (decide ((3:Int)<(x2.length:Int))) (.leaf (0,false)) (.c1 (P431 N x2 ([48,49,50,51,52,53,54,55,56,57]:Bs)) (fun x10=> .br (!(x10==([]:Bs))) (.leaf (0,false)) (.c1 (P116 N x2 ([48]:Bs)) (fun x11=> .br x11 (.leaf (0,false)) (.leaf ((IntKind.i64.wrap ((IntKind.i64.wrap (1000*x4))+x8)),true)))))))))))))))))))
noncomputable def F437 (N:Nat) (a0:Bs):Option (Int×Bool):=(V437 N a0).eval
def t437:List (Nat×List Nat×List (Nat×Sh)):=[]
theorem P437 (N:Nat) (a0:Bs): ∀ r,F437 N a0=some r→Spec Tryz.prog 437 [.val tS a0] (E437 r):=fun r h=>zk (fn:=Tryz.f437) rfl rfl rfl rfl false (zb (tbl:=t437) (μ:=[]) mixed _ _ _ (by
 have h1:=Vt.sound _ h
 refine Eq.mp ?_ h1
 kernel_rfl))
end
end Go.Proofs.YthcmfnkganacaaaGreatDoor.Vc
namespace Ieee.Format
theorem read_word (f:Format) (neg:Bool) {r:Nat} (h:r≤f.infRung): ∃ m p,f.read (f.word neg r)= .number neg m p∨f.read (f.word neg r)= .infinity neg:=by
 have hs:=f.infRung_lt
 have h1:f.word neg r % f.signWeight=r:=by
  unfold word
  split
  ·rw [Nat.add_mod_left,Nat.mod_eq_of_lt (by omega)]
  ·rw [Nat.mod_eq_of_lt (by omega)]
 have h2:(f.word neg r / f.signWeight % 2==1)=neg:=by
  unfold word
  cases neg
  ·simp [Nat.div_eq_of_lt (show r<f.signWeight by omega)]
  ·simp [Nat.add_div_left r (show 0<f.signWeight by omega),Nat.div_eq_of_lt (show r<f.signWeight by omega)]
 unfold read
 simp only [h1,h2]
 by_cases c1:r<f.binade
 ·exact ⟨_,_,.inl (by rw [if_pos c1])⟩
 ·by_cases c2:r<f.infRung
  ·exact ⟨_,_,.inl (by rw [if_neg c1,if_pos c2])⟩
  ·exact ⟨0,0,.inr (by rw [if_neg c1,if_neg c2,if_pos (by omega)])⟩
theorem read_nearest (f:Format) (neg:Bool) (mag:Nat) (place:Int): ∃ m p,f.read (f.nearest neg mag place)= .number neg m p∨f.read (f.nearest neg mag place)= .infinity neg:=by
 unfold nearest
 dsimp only
 split
 ·exact f.read_word neg (Nat.zero_le _)
 ·exact f.read_word neg (Nat.min_le_right ..)
end Ieee.Format
namespace Go.Proofs.YthcmfnkganacaaaGreatDoor.Vc
open Go.RowKit Go.Proofs Go.Shelf
theorem zfk (n:Int): ∃ r,floatBits .quo .f64 (floatOfInt .f64 n) 4652007308841189376=some r:=by
 have hr:Ieee.double.read 4652007308841189376= .number false 8796093022208000 (-43):=by kernel_rfl
 obtain ⟨m,p,h⟩:=Ieee.double.read_nearest (n<0) n.natAbs 0
 show ∃ r,((Ieee.double.read (Ieee.double.nearest (n<0) n.natAbs 0)).quotient (Ieee.double.fractionBits+2) (Ieee.double.read 4652007308841189376)).map Ieee.double.write=some r
 rw [hr]
 rcases h with h | h
 ·rw [h];exact ⟨_,rfl⟩
 ·rw [h];exact ⟨_,rfl⟩
def dv (n:Int):Nat:=(floatBits .quo .f64 (floatOfInt .f64 n) 4652007308841189376).getD 0
theorem dv_eq (n:Int):floatBits .quo .f64 (floatOfInt .f64 n) 4652007308841189376=some (dv n):=by
 obtain ⟨r,h⟩:=zfk n
 unfold dv
 rw [h];rfl
theorem zhk (n:Int) (w:World):(callFunc 473 #[.int .u64 n]).run Tryz.prog w= .ok (.value (.float .f64 n.toNat)) w:=by
 rw [run_callFunc_extern Tryz.func473 (by kernel_rfl) (by kernel_rfl) (by kernel_rfl) (e:=Extern.MathFloatBits.float64frombits) (by kernel_rfl)]
 rfl
theorem zrK (n:Nat) (w:World):(callFunc 478 #[.float .f64 n]).run Tryz.prog w= .ok (.value (.int .u64 n)) w:=by
 rw [run_callFunc_extern Tryz.func478 (by kernel_rfl) (by kernel_rfl) (by kernel_rfl) (e:=Extern.MathFloatBits.float64bits) (by kernel_rfl)]
 rfl
set_option maxHeartbeats 4000000 in
theorem zmA (w:World):Calls Tryz.prog 422 #[] w fun e w' =>e= .returned (.float .f64 9221120237041090561)∧w' =w:=by
 have mixed:=mixed
 have hx:=zhk
 go_enter Tryz.func422,Tryz.ntmps422
 go_wp2
 go_ret
 exact ⟨rfl,rfl⟩
set_option maxHeartbeats 4000000 in
theorem zkd (w:World):Calls Tryz.prog 423 #[.int .i64 1] w fun e w' =>e= .returned (.float .f64 9218868437227405312)∧w' =w:=by
 have mixed:=mixed
 have hx:=zhk
 go_enter Tryz.func423,Tryz.ntmps423
 go_wp2
 go_ret
 exact ⟨rfl,rfl⟩
set_option maxHeartbeats 4000000 in
theorem zke (w:World):Calls Tryz.prog 423 #[.int .i64 (-1)] w fun e w' =>e= .returned (.float .f64 18442240474082181120)∧w' =w:=by
 have mixed:=mixed
 have hx:=zhk
 go_enter Tryz.func423,Tryz.ntmps423
 go_wp2
 go_ret
 exact ⟨rfl,rfl⟩
def zed (s:Bs):Nat×Bool:=if s=[110,97,110] then (9221120237041090561,true) else if s=[105,110,102] then (9218868437227405312,true) else if s=[45,105,110,102] then (18442240474082181120,true) else (0,false)
theorem zdF (s:ByteArray) (l:List UInt8):s=⟨l.toArray⟩↔s.data.toList=l:=by
 constructor
 ·rintro rfl;simp
 ·intro h;subst h;simp
set_option maxHeartbeats 4000000 in
theorem zkf (s:ByteArray) (w:World):Calls Tryz.prog 435 #[.string s] w fun e w' =>e= .returned (.tuple #[.float .f64 (zed s.data.toList).1,.bool (zed s.data.toList).2])∧w' =w:=by
 have mixed:=mixed
 have e1:=zdF s [110,97,110]
 have e2:=zdF s [105,110,102]
 have e3:=zdF s [45,105,110,102]
 unfold zed
 simp only [← e1,← e2,← e3]
 clear e1 e2 e3
 by_cases c1:s=⟨#[110,97,110]⟩
 ·subst c1
  go_enter Tryz.func435,Tryz.ntmps435
  go_wp2_with (go_at_call 422;refine (zmA _).mono ?_;rintro e w' ⟨rfl,rfl⟩)
  go_ret2
  exact ⟨rfl,rfl⟩
 ·by_cases c2:s=⟨#[105,110,102]⟩
  ·subst c2
   go_enter Tryz.func435,Tryz.ntmps435
   go_wp2_with (go_at_call 423;refine (zkd _).mono ?_;rintro e w' ⟨rfl,rfl⟩)
   go_ret2
   exact ⟨rfl,rfl⟩
  ·by_cases c3:s=⟨#[45,105,110,102]⟩
   ·subst c3
    go_enter Tryz.func435,Tryz.ntmps435
    go_wp2_with (go_at_call 423;refine (zke _).mono ?_;rintro e w' ⟨rfl,rfl⟩)
    go_ret2
    exact ⟨rfl,rfl⟩
   ·rw [if_neg c1,if_neg c2,if_neg c3]
    have d1:(s.toList==[110,97,110])=false:=by simpa [Lib.toList_data] using fun h=>c1 ((zdF s _).2 h)
    have d2:(s.toList==[105,110,102])=false:=by simpa [Lib.toList_data] using fun h=>c2 ((zdF s _).2 h)
    have d3:(s.toList==[45,105,110,102])=false:=by simpa [Lib.toList_data] using fun h=>c3 ((zdF s _).2 h)
    go_enter Tryz.func435,Tryz.ntmps435
    go_wp2
    go_ret2
    exact ⟨rfl,rfl⟩
def cps (f:Nat):Nat:=(bits .or .u64 (bits .andNot .u64 (f:Int) 9223372036854775808) (bits .and .u64 ((13830554455654793216:Nat):Int) 9223372036854775808)).toNat
set_option maxHeartbeats 4000000 in
theorem zmB (f:Nat) (w:World):Calls Tryz.prog 438 #[.float .f64 f,.float .f64 13830554455654793216] w fun e w' =>e= .returned (.float .f64 (cps f))∧w' =w:=by
 have mixed:=mixed
 have hx:=zhk
 have hy:=zrK
 unfold cps
 go_enter Tryz.func438,Tryz.ntmps438
 go_wp2
 go_ret
 exact ⟨rfl,rfl⟩
noncomputable def F380 (N:Nat) (s:Bs):Option (Nat×Bool):=
 if (zed s).2=true then some (zed s) else
 (F437 N (Lib.trimPrefix s [45])).bind fun r=>if r.2=true then some (if Lib.hasPrefix s [45]=true then cps (dv r.1) else dv r.1,true) else some (0,false)
def E380:Nat×Bool→D:=fun x=> .tup [encV .flt x.1,encV tB x.2]
end Go.Proofs.YthcmfnkganacaaaGreatDoor.Vc
namespace Go.Proofs.YthcmfnkganacaaaGreatDoor.Vc
section
open Go.RowKit Go.Proofs Go.Shelf
theorem zmC {w:World} {F:Nat→Prop} {v:Value} {b:Bool} (h:R1 w F noM v (.val .bool b)):v= .bool b:=by
 simpa [R1,R0,RV] using h
theorem zhl {N:Nat} {S:ByteArray} {r:Int×Bool} (h:F437 N S.data.toList=some r) {w:World} {F:Nat→Prop} (hF: ∀ g,F g→g<w.heap.size) (hgl:Glb Tryz.prog w F):
  Calls Tryz.prog 437 #[.string S] w fun e w' =>e= .returned (.tuple #[.int .i64 r.1,.bool r.2])∧Below w.heap.size w w' :=by
 refine ((P437 N S.data.toList r h).2 w #[.string S] F hF hgl rfl ?_).mono ?_
 ·intro i d' hd
  match i,hd with
  | 0,hd=>cases hd;exact ⟨_,rfl,_,rfl,rfl⟩
 ·rintro e w' ⟨v,F',G,rfl,hb,_,_,_,vs,rfl,hsz,hv⟩
  obtain ⟨x,y,rfl⟩:=znU hsz
  obtain ⟨x',hx,h1⟩:=hv 0 _ rfl
  obtain ⟨y',hy,h2⟩:=hv 1 _ rfl
  have:x=x' :=by simpa using hx
  subst this
  have:y=y' :=by simpa using hy
  subst this
  obtain rfl:=zaJ (w:=w') (F:=F') h1
  obtain rfl:=zmC (w:=w') (F:=F') h2
  exact ⟨rfl,hb⟩
theorem zrL {w:World} {F B:Nat→Prop} {n:Nat} {b:Bool}:RR w F B none (.tuple #[.float .f64 n,.bool b]) (.tup [encV .flt n,encV tB b]):=
 ⟨_,rfl,rfl,fun j d hj=>by
  match j,hj with
  | 0,hj=>cases hj;exact ⟨_,rfl,rfl⟩
  | 1,hj=>cases hj;exact ⟨_,rfl,rfl⟩⟩
set_option maxHeartbeats 8000000 in
theorem P380 (N:Nat) (s:Bs): ∀ r,F380 N s=some r→Spec Tryz.prog 380 [.val tS s] (E380 r):=fun r h=>by
 have mixed:=mixed
 refine ⟨zw (fn:=Tryz.f380) rfl rfl rfl,fun w vs F hF hgl hsz hargs=> ?_⟩
 obtain ⟨a,rfl,h1⟩:=zcN hsz hargs
 obtain ⟨S,rfl,rfl⟩:=arg_str h1
 clear hsz hargs h1
 unfold F380 at h
 have key: ∀ x:Nat×Bool,r=x→ ∀ (e:Ending) (w' :World),(e= .returned (.tuple #[.float .f64 x.1,.bool x.2])∧Below w.heap.size w w')→ ∃ v F' G,e= .returned v∧Below w.heap.size w w' ∧(∀ g,F g→F' g)∧(∀ g,F' g→g<w'.heap.size∧(F g∨w.heap.size≤g))∧
   (∀ g,G=some g→w.heap.size≤g∧ ¬F' g∧g<w'.heap.size)∧RR w' F' (fun g=>w.heap.size≤g) G v (E380 r):=by
  rintro x rfl e w' ⟨rfl,hb⟩
  exact ⟨_,F,none,rfl,hb,fun _ h=>h,fun g hg=>⟨Nat.lt_of_lt_of_le (hF g hg) hb.size,.inl hg⟩,fun g hg=>(by cases hg),zrL⟩
 have hE:Calls Tryz.prog 435 #[.string S] w fun e w' =>e= .returned (.tuple #[.float .f64 (zed S.data.toList).1,.bool (zed S.data.toList).2])∧w' =w:=zkf S w
 by_cases c:(zed S.data.toList).2=true
 ·rw [if_pos c] at h
  cases h
  refine Calls.mono ?_ (key _ rfl)
  rw [c] at hE
  rw [c]
  go_enter Tryz.func380,Tryz.ntmps380
  go_wp2_with (go_at_call 435;refine hE.mono ?_;rintro e w' ⟨rfl,rfl⟩)
  go_ret2
  exact ⟨rfl,Below.refl _ _⟩
 ·have cf:(zed S.data.toList).2=false:=by simpa using c
  rw [if_neg c] at h
  rw [cf] at hE
  have hC:=Tryz.strings_CutPrefix S ⟨#[45]⟩ w
  generalize hx:F437 N (Lib.trimPrefix S.data.toList [45])=fx at h
  match fx,hx with
  | none,_=>cases h
  | some (n,false),hx=>
   have hr:r=(0,false):=by simpa using h.symm
   refine Calls.mono ?_ (key _ hr)
   have hD:=zhl (N:=N) (S:=⟨(Lib.trimPrefix S.data.toList [45]).toArray⟩) (r:=(n,false)) (by simpa using hx) hF hgl
   clear hx h hr key
   go_enter Tryz.func380,Tryz.ntmps380
   go_wp2_with (first
    | (go_at_call 435;refine hE.mono ?_;rintro e w' ⟨rfl,rfl⟩)
    | (go_at_call 436;refine hC.mono ?_;rintro e w' ⟨rfl,rfl⟩)
    | (go_at_call 437;refine hD.mono ?_;rintro e w' ⟨rfl,hb⟩))
   go_ret2
   exact ⟨rfl,hb⟩
  | some (n,true),hx=>
   have hr:r=(if Lib.hasPrefix S.data.toList [45]=true then cps (dv n) else dv n,true):=by simpa using h.symm
   refine Calls.mono ?_ (key _ hr)
   have hD:=zhl (N:=N) (S:=⟨(Lib.trimPrefix S.data.toList [45]).toArray⟩) (r:=(n,true)) (by simpa using hx) hF hgl
   have hq: ∀ w,(binOp .quo 430 (.float .f64 (floatOfInt .f64 n)) (.float .f64 4652007308841189376)).run Tryz.prog w= .ok (.float .f64 (dv n)) w:=fun w=>run_float_arith w _ _ _ _ _ _ (dv_eq n)
   have hcv: ∀ w,(convert 3 430 (.int .i64 n)).run Tryz.prog w= .ok (.float .f64 (floatOfInt .f64 n)) w:=fun w=>run_convert_int_float _ _ _ _ _ n (by kernel_rfl) (by kernel_rfl)
   have hK:=fun w=>zmB (dv n) w
   clear hx h hr key
   by_cases hp:Lib.hasPrefix S.data.toList [45]=true
   ·rw [if_pos hp]
    have hp' :Lib.hasPrefix S.data.toList (ByteArray.mk #[45]).data.toList=true:=hp
    rw [hp'] at hC
    go_enter Tryz.func380,Tryz.ntmps380
    go_wp2_with (first
     | (go_at_call 435;refine hE.mono ?_;rintro e w' ⟨rfl,rfl⟩)
     | (go_at_call 436;refine hC.mono ?_;rintro e w' ⟨rfl,rfl⟩)
     | (go_at_call 437;refine hD.mono ?_;rintro e w' ⟨rfl,hb⟩)
     | (go_at_call 438;refine (hK _).mono ?_;rintro e w'' ⟨rfl,rfl⟩))
    go_ret2
    exact ⟨rfl,hb⟩
   ·rw [if_neg hp]
    have hp' :Lib.hasPrefix S.data.toList (ByteArray.mk #[45]).data.toList=false:=by simpa using hp
    rw [hp'] at hC
    go_enter Tryz.func380,Tryz.ntmps380
    go_wp2_with (first
     | (go_at_call 435;refine hE.mono ?_;rintro e w' ⟨rfl,rfl⟩)
     | (go_at_call 436;refine hC.mono ?_;rintro e w' ⟨rfl,rfl⟩)
     | (go_at_call 437;refine hD.mono ?_;rintro e w' ⟨rfl,hb⟩))
    go_ret2
    exact ⟨rfl,hb⟩
end
section
open Go.RowKit Go.Sort Go.Proofs
theorem zkg {P:Program} {f:FuncId} {e:TypeId} {xs ys:List (List UInt8)} {ds:List D} (hlen:ys.length=xs.length)
  (hent: ∀ (args:Array Value) (w:World),(callFunc f args).run P w= .ok (.enter f args) w)
  (hnil: ∀ (A:Option Addr) (vs:Array Value) (w:World) (F:Nat→Prop),xs=[]→(∀ (i:Nat) d',ds[i]? =some d' → ∃ v,vs[i]? =some v∧R1 w F noM v d')→vs.size=ds.length→
   Calls P f (#[.slice A 0 0]++vs) w fun en w' =>en= .returned (.tuple #[])∧w.grownBy w' none)
  (h: ∀ (w:World) (g cap:Nat) (vs:Array Value) (F:Nat→Prop),(∀ (i:Nat) d',ds[i]? =some d' → ∃ v,vs[i]? =some v∧R1 w F noM v d')→vs.size=ds.length→g<w.heap.size→
   Go.Sort.Holds encStr w g 0 xs.toArray→xs.length≤maxLen→
   Calls P f (#[.slice (some ⟨g,0,none⟩) xs.length cap]++vs) w fun en w' =>en= .returned (.tuple #[])∧ ∃ n os,w' =grow (putRow encStr (Sort.ahead w n) g 0 ys.toArray) os):
  zcq P f e .str xs ds ys (.tup []):=by
 refine ⟨hent,fun w v0 vs F G0 hF hgl hown hsz hargs=> ?_⟩
 have hret: ∀ (w' :World) F2 M2,R w' F2 M2 (.tuple #[]) (.tup []):=fun w' F2 M2=>⟨#[],rfl,rfl,fun j d hj=>by simp at hj⟩
 rcases hown with ⟨hx,hG,A,hv⟩ | ⟨g,cap,us,hG,hB,hv,hh,hle,hcap,hus,hH⟩
 ·subst hv
  refine (hnil A vs w F hx hargs hsz).mono ?_
  rintro en w' ⟨rfl,hg⟩
  have hy:ys=[]:=by
   rw [hx] at hlen
   exact List.length_eq_zero_iff.1 hlen
  exact ⟨_,F,rfl,by rw [hG];exact hg,fun _ hg=>hg,fun g hgF=>⟨Nat.lt_of_lt_of_le (hF g hgF) hg.size,.inl hgF⟩,hret w',.inl ⟨hy,hG,A,rfl⟩⟩
 ·subst hv
  have hcells:us.toList.take xs.length=xs.map encStr:=by
   apply List.ext_getElem?
   intro j
   by_cases hj:j<xs.length
   ·have hx:xs[j]? =some xs[j]:=List.getElem?_eq_getElem hj
    obtain ⟨s,h1,h2⟩:=hH j _ hx
    simp only [Ty.width,Nat.mul_one] at h1
    rw [List.getElem?_take_of_lt hj,List.getElem?_map,hx]
    have h3:(us.toList.drop j)[0]? =some (.string s):=by
     have:((us.toList.drop j).take 1)[0]? =some (.string s):=by rw [h1];rfl
     rw [List.getElem?_take_of_lt (by omega)] at this
     exact this
    rw [List.getElem?_drop,Nat.add_zero] at h3
    rw [h3]
    simp only [Option.map_some,encStr,← h2]
   ·rw [List.getElem?_take_eq_none (by omega),List.getElem?_eq_none (by simp;omega)]
  have hlt:g<w.heap.size:=(Array.getElem?_eq_some_iff.1 hh).1
  refine (h w g cap vs F hargs hsz hlt (holds_of_block hh hcells) (by omega)).mono ?_
  rintro en w' ⟨rfl,n,os,rfl⟩
  have hgr:w.grownBy (grow (putRow encStr (Sort.ahead w n) g 0 ys.toArray) os) (some g):=grownBy_sorted _
  refine ⟨_,F,rfl,by rw [hG];exact hgr,fun _ hg=>hg,fun b hb=>⟨Nat.lt_of_lt_of_le (hF b hb) hgr.size,.inl hb⟩,hret _,.inr ⟨g,cap,_,hG,trivial,by rw [hlen],heap_sorted _ hh,by omega,hcap,by simp [putCells,hus],?_⟩⟩
  intro i y hy
  have hi:i<ys.length:=(List.getElem?_eq_some_iff.1 hy).1
  refine ⟨⟨y.toArray⟩,?_,by simp⟩
  simp only [Ty.width,Nat.mul_one]
  have ht:=take_putCells us ys (by simp only [Ty.width,Nat.mul_one] at hus;omega)
  have h1:(putCells encStr 0 ys.toArray us).toList[i]? =some (encStr y):=by
   have:((putCells encStr 0 ys.toArray us).toList.take ys.length)[i]? =(ys.map encStr)[i]? :=by rw [ht]
   rw [List.getElem?_take_of_lt hi,List.getElem?_map,hy] at this
   exact this
  have hlt2:=(List.getElem?_eq_some_iff.1 h1)
  obtain ⟨hl,he⟩:=hlt2
  rw [List.drop_eq_getElem_cons hl,he]
  rfl
end
section
open Go.RowKit Go.Sort Go.Proofs
noncomputable def zpr (_:Nat) (a0:List Bs):Option (List Bs):=some a0.reverse
theorem P119r (N:Nat) (a0:List Bs): ∀ r,zpr N a0=some r→zcq Tryz.prog 119 9 tS a0 [] r (.tup []):=fun r h=>by
 have:a0.reverse=r:=by simpa [zpr] using h
 subst this
 refine zkg (by simp) (zw (fn:=Tryz.f119) rfl rfl rfl) (fun A vs w F _ _ hsz=> ?_) (fun w g cap vs F _ hsz _ hH hl=> ?_)
 ·have hv:vs= #[]:=Array.eq_empty_of_size_eq_zero (by simpa using hsz)
  subst hv
  refine (Tryz.slices_Reverse_string_empty A 0 w).mono ?_
  rintro en w' ⟨rfl,rfl⟩
  exact ⟨rfl,⟨rfl,rfl,rfl,Nat.le_refl _,fun _ _ _=>rfl⟩⟩
 ·have hv:vs= #[]:=Array.eq_empty_of_size_eq_zero (by simpa using hsz)
  subst hv
  refine (Tryz.slices_Reverse_string g 0 cap a0 w hH (by unfold maxLen at hl;omega)).mono ?_
  rintro en w' ⟨rfl,n,rfl⟩
  exact ⟨rfl,n,#[],by rw [grow_empty]⟩
end
section
open Go.RowKit
section
variable {Q Z:Type} {E:Q→Z}
@[simp] theorem ze (q:Q):(Vt.leaf q:Vt Q Z E).eval=some q:=rfl
@[simp] theorem zi (b:Bool) (x y:Vt Q Z E):(Vt.br b x y).eval=if b=true then x.eval else y.eval:=by cases b<;>rfl
theorem zrM (p:Prop) [d:Decidable p] (x:Vt Q Z E):(Vt.ck p x).eval=if p then x.eval else none:=by
 show chkO p d x.eval=_
 cases d with
 | isTrue h=>rw [if_pos h];rfl
 | isFalse h=>rw [if_neg h];rfl
theorem zn {p:Prop} [d:Decidable p] (h:p) (x:Vt Q Z E):(Vt.ck p x).eval=x.eval:=by rw [zrM,if_pos h]
theorem ev_nq (p:Prop) [d:Decidable p] [dq:DecidableEq Q] (x y:Vt Q Z E) {q:Q} (hy:y.eval=some q) (hx:p→x.eval=some q):(Vt.nq p x y).eval=some q:=by
 show nilO p d dq x.eval y.eval=_
 unfold nilO
 split
 ·rename_i h;rw [hx h,hy];simp only
  split
  ·rfl
  ·rename_i h2 _;exact absurd rfl h2
 ·exact hy
theorem zkh (x y:Vt Q Z E) {q:Q} (hx:x.eval=some q) (hy:y.eval=some q):(Vt.nb x y).eval=some q:=ev_nq (d:=isTrue trivial) (dq:=Classical.typeDecidableEq Q) _ _ _ hy fun _=>hx
variable {P:Program} {g:FuncId} {ds:List D}
@[simp] theorem zm {a:Type} {e:a→D} {o:Option a} (h: ∀ x,o=some x→Spec P g ds (e x)) (k:a→Vt Q Z E):(Vt.c1 h k).eval=o.bind fun x=>(k x).eval:=rfl
theorem zhm {a b α:Type} (o:Option (a×b)) (k:a→b→Option α):zq6 o k=o.bind fun x=>k x.1 x.2:=by cases o<;>rfl
theorem zmD {a b c α:Type} (o:Option (a×b×c)) (k:a→b→c→Option α):zq7 o k=o.bind fun x=>k x.1 x.2.1 x.2.2:=by cases o<;>rfl
theorem zmE {a b c d α:Type} (o:Option (a×b×c×d)) (k:a→b→c→d→Option α):zq8 o k=o.bind fun x=>k x.1 x.2.1 x.2.2.1 x.2.2.2:=by cases o<;>rfl
@[simp] theorem zM {a b:Type} {e:a×b→D} {o:Option (a×b)} (h: ∀ x,o=some x→Spec P g ds (e x)) (k:a→b→Vt Q Z E):(Vt.c2 h k).eval=o.bind fun x=>(k x.1 x.2).eval:=zhm _ _
@[simp] theorem zP {a b c:Type} {e:a×b×c→D} {o:Option (a×b×c)} (h: ∀ x,o=some x→Spec P g ds (e x)) (k:a→b→c→Vt Q Z E):(Vt.c3 h k).eval=o.bind fun x=>(k x.1 x.2.1 x.2.2).eval:=zmD _ _
@[simp] theorem zS {a b c d:Type} {e:a×b×c×d→D} {o:Option (a×b×c×d)} (h: ∀ x,o=some x→Spec P g ds (e x)) (k:a→b→c→d→Vt Q Z E):(Vt.c4 h k).eval=o.bind fun x=>(k x.1 x.2.1 x.2.2.1 x.2.2.2).eval:=zmE _ _
@[simp] theorem zN {a:Type} {s:a→Prop} {o:Option a} (h: ∀ x,o=some x→s x) (k:a→Vt Q Z E):(Vt.cr h k).eval=o.bind fun x=>(k x).eval:=rfl
@[simp] theorem zD {a b:Type} {s:a×b→Prop} {o:Option (a×b)} (h: ∀ x,o=some x→s x) (k:a→b→Vt Q Z E):(Vt.cr2 h k).eval=o.bind fun x=>(k x.1 x.2).eval:=zhm _ _
end
section
variable {P:Program} {Z:Type} {rd:St→Z} {R:Type} {n:Nat} {l:List (Nat×Sh)} {EO:R→Z} {b:Code} {o:Option (Lp (shTy l).I R)} {x0:(shTy l).I} {n2:Nat} {l2:List (Nat×Sh)} {ids2:List Nat}
@[simp] theorem zU (h: ∀ o',o=some o' →S P (.loop b) (zh n l x0) (zK rd l (encO n l [] EO o'))):(Vt.f0 h).eval=lp0 o id:=rfl
@[simp] theorem zB {i:Nat} (h: ∀ o',o=some o' →S P (.loop b) (zh n l x0) (zK rd l (encO n l [i] EO o'))) (k:(shTy l).I→Vt R Z EO):(Vt.f1 h k).eval=lp1 o id fun x=>(k x).eval:=rfl
@[simp] theorem zV {i i' :Nat} (h: ∀ o',o=some o' →S P (.loop b) (zh n l x0) (zK rd l (encO n l [i,i'] EO o'))) (k k' :(shTy l).I→Vt R Z EO):(Vt.f2 h k k').eval=lp2 o id (fun x=>(k x).eval) fun x=>(k' x).eval:=rfl
@[simp] theorem ev_g1 {i:Nat} (h: ∀ o',o=some o' →S P (.loop b) (zh n l x0) (zK rd l (encO n l [i] EO o'))) (k:(shTy l).I→Vt (Lp (shTy l2).I R) (O3 Z) (encO n2 l2 ids2 EO)):(Vt.g1 h k).eval=lp1 o .ret fun x=>(k x).eval:=rfl
end
section
variable {Q Z:Type} {E:Q→Z} {X R:Type}
theorem zmF {o:Option (Lp X R)} {rt:R→Q} {s0:X→Prop} {sr:Z→Prop} {h0: ∀ x,o=some (.brk 0 x)→s0 x} {hr: ∀ r,o=some (.ret r)→sr (E (rt r))} {k:X→Vt Q Z E}:
  (Vt.loop1 X R o rt s0 sr h0 hr k:Vt Q Z E).eval=lp1 o rt fun x=>(k x).eval:=rfl
end
@[simp] theorem yX {X R α:Type} (x:X) (rt:R→α) (k:X→Option α):lp1 (some (.brk 0 x)) rt k=k x:=rfl
@[simp] theorem zgj {X R α:Type} (r:R) (rt:R→α) (k:X→Option α):lp1 (some (.ret r)) rt k=some (rt r):=rfl
@[simp] theorem za {α β:Type} (x:α) (f:α→Option β):(some x).bind f=f x:=rfl
theorem zz {n:Int} (h1: -9223372036854775808≤n) (h2:n≤9223372036854775807):IntKind.i64.wrap n=n:=by
 unfold IntKind.wrap
 simp [IntKind.signed,IntKind.bits,Int.bmod]
 split<;>omega
theorem ziz {X R:Type} {step:X→Option (Lp X R)} (I:X→Prop) (m:X→Nat) (g:X→Lp X R)
  (h: ∀ x,I x→(∃ y,step x=some (.next y)∧I y∧m y<m x∧g y=g x)∨(step x=some (g x)∧ ∀ y,g x≠ .next y)): ∀ (N:Nat) (x:X),I x→m x<N→zl step N x=some (g x)
 | 0,x,_,hm=>by omega
 | N+1,x,hx,hm=>by
  unfold zl
  rcases h x hx with ⟨y,h1,h2,h3,h4⟩ | ⟨h1,h2⟩
  ·rw [h1]
   dsimp only
   rw [← h4]
   exact ziz I m g h N y h2 (by omega)
  ·rw [h1]
   cases hg:g x with
   | next y=>exact absurd hg (h2 y)
   | brk j y=>rfl
   | ret r=>rfl
theorem zA {X R:Type} {step:X→Option (Lp X R)} (I:X→Prop) (m:X→Nat) (Post:Lp X R→Prop)
  (h: ∀ x,I x→ ∃ o,step x=some o∧((∃ y,o= .next y∧I y∧m y<m x)∨((∀ y,o≠ .next y)∧Post o))): ∀ (N:Nat) (x:X),I x→m x<N→ ∃ o,zl step N x=some o∧Post o
 | 0,x,_,hm=>by omega
 | N+1,x,hx,hm=>by
  unfold zl
  obtain ⟨o,h1,⟨y,rfl,h2,h3⟩ | ⟨h2,h3⟩⟩:=h x hx
  ·rw [h1]
   exact zA I m Post h N y h2 (by omega)
  ·rw [h1]
   cases o with
   | next y=>exact absurd rfl (h2 y)
   | brk j y=>exact ⟨_,rfl,h3⟩
   | ret r=>exact ⟨_,rfl,h3⟩
theorem zfl {X R:Type} {step:X→Option (Lp X R)} (n:Nat) (p:Nat→Bool) (mk:Int→X) (r:R)
  (hs: ∀ i:Int,0≤i→i≤n→(∀ j:Nat,(j:Int)<i→p j=true)→step (mk i)=some (if i<n then (if p i.toNat=true then .next (mk (i+1)) else .ret r) else .brk 0 (mk i))) (N:Nat) (hN:n<N):
  zl step N (mk 0)=some (if (List.range n).all p=true then .brk 0 (mk n) else .ret r):=by
 have key: ∀ (k:Nat) (N:Nat) (i:Nat),i+k=n→k<N→(∀ j:Nat,j<i→p j=true)→zl step N (mk i)=some (if (List.range' i k).all p=true then .brk 0 (mk n) else .ret r):=by
  intro k
  induction k with
  | zero=>
   intro N i hi hN hj
   obtain ⟨N,rfl⟩: ∃ M,N=M+1:=⟨N - 1,by omega⟩
   have:i=n:=by omega
   subst this
   unfold zl
   rw [hs _ (by omega) (by omega) (fun j h=>hj j (by omega))];simp
  | succ k ih=>
   intro N i hi hN hj
   obtain ⟨N,rfl⟩: ∃ M,N=M+1:=⟨N - 1,by omega⟩
   unfold zl
   rw [hs _ (by omega) (by omega) (fun j h=>hj j (by omega)),if_pos (by omega)]
   simp only [Int.toNat_natCast,List.range'_succ,List.all_cons]
   by_cases hp:p i=true
   ·simp only [hp,if_true,Bool.true_and]
    refine ih N (i+1) (by omega) (by omega) fun j h=> ?_
    rcases Nat.lt_or_ge j i with h' | h'
    ·exact hj j h'
    ·have:j=i:=by omega
     subst this;exact hp
   ·simp [hp]
 have:=key n N 0 (by omega) hN (fun j h=>by omega)
 rwa [List.range_eq_range']
theorem zee {X R:Type} {step:X→Option (Lp X R)} (n:Nat) (p:Nat→Bool) (mk:Int→X) (r:R)
  (hs: ∀ i:Int,0≤i→i≤n→step (mk i)=some (if i<n then (if p i.toNat=true then .next (mk (i+1)) else .ret r) else .brk 0 (mk i))) (N:Nat) (hN:n<N):
  zl step N (mk 0)=some (if (List.range n).all p=true then .brk 0 (mk n) else .ret r):=zfl n p mk r (fun i h0 h1 _=>hs i h0 h1) N hN
theorem zfm {X R A:Type} {step:X→Option (Lp X R)} (n:Nat) (f:A→Nat→A) (mk:A→Int→X) (I:A→Nat→Prop) (hI: ∀ a i,I a i→i<n→I (f a i) (i+1))
  (hs: ∀ a (i:Nat),I a i→i≤n→step (mk a (i:Int))=some (if i<n then .next (mk (f a i) ((i:Int)+1)) else .brk 0 (mk a i))) (a0:A) (i0:Nat) (h0:I a0 i0) (hi:i0≤n) (N:Nat) (hN:n - i0<N):
  zl step N (mk a0 i0)=some (.brk 0 (mk ((List.range' i0 (n - i0)).foldl f a0) n)):=by
 have key: ∀ (k:Nat) (N:Nat) (i:Nat) (a:A),i+k=n→k<N→I a i→zl step N (mk a i)=some (.brk 0 (mk ((List.range' i k).foldl f a) n)):=by
  intro k
  induction k with
  | zero=>
   intro N i a hi hN hIa
   obtain ⟨N,rfl⟩: ∃ M,N=M+1:=⟨N - 1,by omega⟩
   have:i=n:=by omega
   subst this
   unfold zl
   rw [hs _ _ hIa (by omega)];simp
  | succ k ih=>
   intro N i a hi hN hIa
   obtain ⟨N,rfl⟩: ∃ M,N=M+1:=⟨N - 1,by omega⟩
   unfold zl
   rw [hs _ _ hIa (by omega),if_pos (by omega)]
   simp only [List.range'_succ,List.foldl_cons]
   exact ih N (i+1) _ (by omega) (by omega) (hI _ _ hIa (by omega))
 exact key (n - i0) N i0 a0 (by omega) hN h0
theorem zdG {X R A:Type} {step:X→Option (Lp X R)} (n:Nat) (f:A→Nat→A) (mk:A→Int→X) (I:A→Nat→Prop) (hI: ∀ a i,I a i→i<n→I (f a i) (i+1))
  (hs: ∀ a (i:Nat),I a i→i≤n→step (mk a (i:Int))=some (if i<n then .next (mk (f a i) ((i:Int)+1)) else .brk 0 (mk a i))) (a0:A) (h0:I a0 0) (N:Nat) (hN:n<N):
  zl step N (mk a0 0)=some (.brk 0 (mk ((List.range n).foldl f a0) n)):=by
 have:=zfm n f mk I hI hs a0 0 h0 (Nat.zero_le _) N (by omega)
 rw [List.range_eq_range']
 exact this
theorem zdH {A B:Type} (p:A→Bool) (g:A→B) (l:List A) (acc:List B):l.foldl (fun acc k=>if p k=true then acc++[g k] else acc) acc=acc++(l.filter p).map g:=by
 induction l generalizing acc with
 | nil=>simp
 | cons x l ih=>
  simp only [List.foldl_cons,List.filter_cons]
  rw [ih]
  split<;>simp
theorem zdI {α:Type} [BEq α] [LawfulBEq α] (d:α) {a b:List α} (h:a.length=b.length):((List.range a.length).all fun i=>a.getD i d==b.getD i d)=true↔a=b:=by
 constructor
 ·intro hh
  apply List.ext_getElem h
  intro i h1 h2
  have:=List.all_eq_true.1 hh i (by simpa using h1)
  simpa [h1,h2] using this
 ·rintro rfl
  simp
theorem zmG {α:Type} (d:α) (p:α→Bool) (l:List α):(List.range l.length).all (fun i=>p (l.getD i d))=l.all p:=by
 rw [Bool.eq_iff_iff]
 simp only [List.all_eq_true,List.mem_range]
 constructor
 ·intro h x hx
  obtain ⟨i,hi,rfl⟩:=List.getElem_of_mem hx
  simpa [hi] using h i hi
 ·intro h i hi
  rw [List.getD_eq_getElem?_getD,List.getElem?_eq_getElem hi]
  exact h _ (List.getElem_mem hi)
theorem zfn {α:Type} (b:Bool) (x y:α):(if (!b)=true then some y else some x)=some (if b=true then x else y):=by cases b<;>rfl
theorem zcP: ∀ (x:List UInt8),Op.bytesLess x x=false
 | []=>rfl
 | a::x=>by simp [Op.bytesLess,zcP x]
theorem jH: ∀ {x y z:List UInt8},Op.bytesLess x y=true→Op.bytesLess y z=true→Op.bytesLess x z=true
 | _,[],_,h,_=>by simp [Op.bytesLess] at h
 | _,_::_,[],_,h=>by simp [Op.bytesLess] at h
 | [],_::_,_::_,_,_=>rfl
 | a::x,b::y,c::z,h1,h2=>by
  simp only [Op.bytesLess,Bool.or_eq_true,decide_eq_true_eq,Bool.and_eq_true,beq_iff_eq] at *
  rcases h1 with h1 | ⟨rfl,h1⟩<;>rcases h2 with h2 | ⟨rfl,h2⟩
  ·exact .inl (UInt8.lt_trans h1 h2)
  ·exact .inl h1
  ·exact .inl h2
  ·exact .inr ⟨rfl,jH h1 h2⟩
theorem zhn: ∀ (x y:List UInt8),(Op.bytesLess x y||x==y)= !Op.bytesLess y x
 | [],[]=>rfl
 | [],_::_=>rfl
 | _::_,[]=>rfl
 | a::x,b::y=>by
  have ih:=zhn x y
  simp only [Op.bytesLess]
  by_cases hab:a=b
  ·subst hab
   have: ¬ a<a:=UInt8.lt_irrefl a
   simpa [this] using ih
  ·have hor:a<b∨b<a:=by
    rcases Nat.lt_or_gt_of_ne (fun h=>hab (UInt8.toNat_inj.1 h)) with h | h
    ·exact .inl (UInt8.lt_iff_toNat_lt.2 h)
    ·exact .inr (UInt8.lt_iff_toNat_lt.2 h)
   rcases hor with h | h
   ·have h' : ¬ b<a:=fun h' =>UInt8.lt_irrefl a (UInt8.lt_trans h h')
    simp [h,h',hab,Ne.symm hab]
   ·have h' : ¬ a<b:=fun h' =>UInt8.lt_irrefl a (UInt8.lt_trans h' h)
    simp [h,h',hab,Ne.symm hab]
theorem zmH {x y:List UInt8} (h:Op.bytesLess x y=true):Op.bytesLess y x=false:=by
 cases h' :Op.bytesLess y x with
 | false=>rfl
 | true=>have:=jH h h';rw [zcP] at this;cases this
end
section
open Go.RowKit
def ldFz (σ:St) (o:Oper):Bool:=
 match o.guard with
 | some _=>false
 | none=>match o.op with
  | .load _ x=>match ev σ x with
   | .ept _=>true
   | _=>false
  | _=>false
def zho (ops:Array Oper) (done bl:List Nat) (k:Nat) (ok:Oper):Nat→List Oper→Bool
 | _,[]=>true
 | j,o::r=>(hasN j done||(Nat.beq j k||(hasN j bl||ok.apart ops o)))&&zho ops done bl k ok (j+1) r
def zhp (P:Program) (σ:St) (ops:Array Oper) (done:List Nat) (k:Nat):Bool:=
 match ops.toList.drop k with
 | ok::r=>z6 ok.op&&(zeV P ops done (qD .any k (k+1) r []) k ok 0 ops.toList||(ldFz σ ok&&zho ops done (qD .any k (k+1) r []) k ok 0 ops.toList))
 | []=>false
def zmI (P:Program) (σ:St) (ops:Array Oper) (done:List Nat):List Nat→Option Nat
 | []=>none
 | k::r=>bif zhp P σ ops done k then some k else zmI P σ ops done r
def wprB (P:Program) (μ:List Nat) (ops:Array Oper):Nat→List Nat→St→(St→Prop)→Prop
 | 0,done,σ,K=>match rdyL .any done 0 ops.toList with
  | []=>K σ
  | _::_=>False
 | f+1,done,σ,K=>match rdyL .any done 0 ops.toList with
  | []=>K σ
  | i::r=>match zmI P σ ops done (i::r) with
   | some k=>zc9 P μ ops k σ fun σ' =>wprB P μ ops f (k::done) σ' K
   | none=>allA (fun k=>zc9 P μ ops k σ fun σ' =>wprB P μ ops f (k::done) σ' K) (i::r)
section
variable {P:Program} {w0:W0 P} {w:World} {F0 F:Nat→Prop} {M:Nat→Option MO} {σ:St} {a:Act} {μ:List Nat} {ops:Array Oper} {md:Region.Mode} {Z:World→Prop}
theorem zki {t:TypeId} {cs:List D} {K:D→Prop} (hk:zb5 P t cs K) (p:Addr)
  (hc: ∀ (j:Nat) c,cs[j]? =some c→ ∃ u,w.cell? (p.add j)=some u): ∃ v,∀ w',(∀ j,w'.cell? (p.add j)=w.cell? (p.add j))→(loadVar t p).run P w' = .ok v w' :=by
 unfold zb5 at hk
 cases hagg:zat P t with
 | none=>rw [hagg] at hk;exact hk.elim
 | some b=>
 cases b with
 | true=>
  rw [hagg] at hk
  have hk' :(bif Nat.ble (zu P t) cs.length then K (.agg (cs.take (zu P t))) else False):=hk
  cases hble:Nat.ble (zu P t) cs.length with
  | false=>rw [hble] at hk';exact hk'.elim
  | true=>
   have hle:zu P t≤cs.length:=by simpa using hble
   refine ⟨.agg ((List.range (zu P t)).map fun j=>(w.cell? (p.add j)).getD undef).toArray,fun w' hw=> ?_⟩
   obtain ⟨hag,i,hi,hi2⟩:=jg hagg w'
   have hl:=run_loadCells (P:=P) w' p i.size (fun j=>(w.cell? (p.add j)).getD undef) (fun j hj=>by
    rw [hw]
    obtain ⟨u,hu⟩:=hc j (cs.getD j .bad) (by simp [List.getD,List.getElem?_eq_getElem (show j<cs.length by omega)])
    rw [hu];rfl)
   simp [loadVar,hag,sizeOf,typeInfo,hi,hl,hi2]
 | false=>
  rw [hagg] at hk
  cases cs with
  | nil=>exact hk.elim
  | cons c r=>
   obtain ⟨u,h1⟩:=hc 0 c rfl
   refine ⟨u,fun w' hw=> ?_⟩
   obtain ⟨hag,_⟩:=jg hagg w'
   have h0:=hw 0
   have:p.add 0=p:=by simp [Addr.add]
   rw [this] at h0 h1
   simp [loadVar,hag,h0,h1]
def FixV (P:Program) (Z:World→Prop) (o:Oper) (a:Act):Prop:= ∃ v,∀ w',Z w' →(execOp a.eval o).run P w' = .ok (.value v) w'
theorem zkj {i:Nat} {o:Oper} (ho:ops[i]? =some o) {K K' :Act→World→Prop} {a:Act} {w:World} (h: ∀ v w',K (a.put o.dst v) w' →K' (a.put o.dst v) w') (hh:gOp P ops i K a w):gOp P ops i K' a w:=by
 unfold gOp at *
 rw [ho] at hh ⊢
 exact zZ (fun v w' =>h v w') hh
theorem zps {k:Nat} {ok:Oper} (hk:ops[k]? =some ok) (hst:z6 ok.op=true) {K:Act→World→Prop} {a:Act} {w:World} (h:gOp P ops k (fun a' w' =>K a' w' ∧Z w') a w):Z w:=by
 unfold gOp at h
 rw [hk] at h
 dsimp only at h
 unfold opT at h
 split at h
 ·exact h.2
 ·rw [hst] at h
  dsimp only at h
  obtain ⟨v,_,h2⟩:=h
  exact h2.2
theorem zkk (hsel:Region.noSelect ops=true) {k j:Nat} {ok oj:Oper} (hk:ops[k]? =some ok) (hj:ops[j]? =some oj) (hst:z6 ok.op=true) {K:Act→World→Prop} {a:Act} {w:World} (hz:Z w)
  (hc:yI P ops ok oj=true∨(ok.apart ops oj=true∧FixV P Z ok a))
  (h:gOp P ops k (fun a' w' =>gOp P ops j (fun a'' w'' =>K a'' w'' ∧Z w'') a' w' ∧Z w') a w):gOp P ops j (fun a' w' =>gOp P ops k (fun a'' w'' =>K a'' w'' ∧Z w'') a' w' ∧Z w') a w:=by
 rcases hc with hc | ⟨hap,v0,hv0⟩
 ·have h1:=zgS hsel hk hj hc (qR (fun a' w' hh=>hh.1) h)
  exact qR (fun a' w' hh=>⟨hh,zps hk hst hh⟩) h1
 ·obtain ⟨h1,h2,h3⟩:=Oper.apart_spec hap
  have sk:=fun cs b=>Region.noSelect_spec hsel k ok cs b hk
  have sj:=fun cs b=>Region.noSelect_spec hsel j oj cs b hj
  have key: ∀ v,gOp P ops j (fun a'' w'' =>K a'' w'' ∧Z w'') (a.put ok.dst v) w→(∀ w',Z w' →(Region.wanted ok (yielded ops a.tmps)=true→(execOp a.eval ok).run P w' = .ok (.value v) w'))→(Region.wanted ok (yielded ops a.tmps)=false→v=undef)→
    gOp P ops j (fun a' w' =>gOp P ops k (fun a'' w'' =>K a'' w'' ∧Z w'') a' w' ∧Z w') a w:=by
   intro v hh hr hu
   unfold gOp at hh ⊢
   rw [hj] at hh ⊢
   dsimp only at hh ⊢
   rw [zd4 sj a w ok.dst v h1] at hh
   refine zZ (fun u w' hKZ=>⟨?_,hKZ.2⟩) hh
   rw [hk]
   dsimp only
   rw [zd4 sk a w' oj.dst u h3]
   unfold opT
   cases hw:Region.wanted ok (yielded ops a.tmps) with
   | false=>
    dsimp only
    rw [← Act.put_comm a undef u h2]
    rw [← hu hw]
    exact hKZ
   | true=>
    rw [hst]
    dsimp only
    refine ⟨v,hr w' hKZ.2 hw,?_⟩
    rw [← Act.put_comm a v u h2]
    exact hKZ
  have h' :=h
  unfold gOp at h'
  rw [hk] at h'
  dsimp only at h'
  unfold opT at h'
  cases hw:Region.wanted ok (yielded ops a.tmps) with
  | false=>
   rw [hw] at h'
   dsimp only at h'
   exact key undef h'.1 (fun w' _ hw2=>by rw [hw] at hw2;cases hw2) (fun _=>rfl)
  | true=>
   rw [hw,hst] at h'
   dsimp only at h'
   obtain ⟨v,hr,hh⟩:=h'
   have hvv:v=v0:=by
    have:=hv0 w hz
    rw [hr] at this
    cases this;rfl
   subst hvv
   exact key v hh.1 (fun w' hz' _=>hv0 w' hz') (fun hw2=>by rw [hw] at hw2;cases hw2)
def zba (P:Program) (Z:World→Prop) (md:Region.Mode) (ops:Array Oper) (Q:Act→World→Prop):Nat→Array Bool→Act→World→Prop
 | 0,listed,a,w=>Region.ready md ops listed=[]∧Q a w
 | f+1,listed,a,w=>(Region.ready md ops listed=[]→Q a w)∧ ∀ i∈Region.ready md ops listed,gOp P ops i (fun a' w' =>zba P Z md ops Q f (listed.setIfInBounds i true) a' w' ∧Z w') a w
theorem zcQ {Z Z' :World→Prop} {Q:Act→World→Prop} (hZ: ∀ w,Z w→Z' w): ∀ (f:Nat) (listed:Array Bool) (a:Act) (w:World),zba P Z md ops Q f listed a w→zba P Z' md ops Q f listed a w
 | 0,_,_,_,h=>h
 | f+1,_,_,_,h=>⟨h.1,fun i hi=>qR (fun a' w' hh=>⟨zcQ hZ f _ _ _ hh.1,hZ _ hh.2⟩) (h.2 i hi)⟩
theorem zcR {Q:Act→World→Prop}: ∀ (f:Nat) (listed:Array Bool) (a:Act) (w:World),zba P Z md ops Q f listed a w→jP P md ops Q f listed a w
 | 0,_,_,_,h=>h
 | f+1,_,_,_,h=>⟨h.1,fun i hi=>qR (fun a' w' hh=>zcR f _ _ _ hh.1) (h.2 i hi)⟩
theorem zfo {Q:Act→World→Prop} (hsel:Region.noSelect ops=true) {k:Nat} {ok:Oper} (hk:ops[k]? =some ok) (hst:z6 ok.op=true):
  ∀ (f:Nat) (listed:Array Bool) (a:Act) (w:World),Z w→ja md ops listed→
   (∀ j oj,ops[j]? =some oj→j≠k→listed.getD j true=false→zlF md ops k j∨yI P ops ok oj=true∨(ok.apart ops oj=true∧FixV P Z ok a))→
   k∈Region.ready md ops listed→gOp P ops k (fun a' w' =>zba P Z md ops Q f (listed.setIfInBounds k true) a' w' ∧Z w') a w→zba P Z md ops Q (f+1) listed a w:=by
 intro f
 induction f with
 | zero=>
  intro listed a w hz inv hc hr H
  refine ⟨fun h=>(by rw [h] at hr;cases hr),fun j hj=> ?_⟩
  by_cases hjk:j=k
  ·subst hjk;exact H
  ·exfalso
   have hj' :=ready_mono hj hjk
   unfold gOp at H
   rw [hk] at H
   dsimp only at H
   have:Region.ready md ops (listed.setIfInBounds k true)=[]:=by
    unfold opT at H
    split at H
    ·exact H.1.1
    ·rw [hst] at H
     dsimp only at H
     obtain ⟨v,_,h2⟩:=H
     exact h2.1.1
   rw [this] at hj'
   cases hj'
 | succ f ih=>
  intro listed a w hz inv hc hr H
  refine ⟨fun h=>(by rw [h] at hr;cases hr),fun j hj=> ?_⟩
  by_cases hjk:j=k
  ·subst hjk;exact H
  ·obtain ⟨hjun,oj,hoj,_⟩:=mem_ready.1 hj
   have hkun:=yl (mem_ready.1 hr).1
   rcases hc j oj hoj hjk hjun with hw | hcm
   ·exact absurd hj (hw listed inv hkun).2
   ·have hap:ok.apart ops oj=true:=by
     rcases hcm with h | h
     ·simp only [yI,Bool.and_eq_true] at h;exact h.1
     ·exact h.1
    obtain ⟨_,_,h3⟩:=Oper.apart_spec hap
    have sk:=fun cs b=>Region.noSelect_spec hsel k ok cs b hk
    have h1:gOp P ops k (fun a' w' =>gOp P ops j (fun a'' w'' =>zba P Z md ops Q f ((listed.setIfInBounds k true).setIfInBounds j true) a'' w'' ∧Z w'') a' w' ∧Z w') a w:=qR (fun a' w' h=>⟨h.1.2 j (ready_mono hj hjk),h.2⟩) H
    have h2:=zkk hsel hk hoj hst hz hcm h1
    refine zkj hoj (fun u w' h=>⟨ih (listed.setIfInBounds j true) _ w' h.2 (inv.set hj) (fun i oi hoi hik hun=> ?_) (ready_mono hr (Ne.symm hjk)) ?_,h.2⟩) h2
    ·have hun' :listed.getD i true=false:=by
      by_cases hji:j=i
      ·subst hji;exact hjun
      ·rw [getD_set_ne true hji] at hun;exact hun
     rcases hc i oi hoi hik hun' with h4 | h4 | ⟨h4,v,hv⟩
     ·exact .inl h4
     ·exact .inr (.inl h4)
     ·exact .inr (.inr ⟨h4,v,fun w1 hz1=>by rw [execOp_put ok sk a oj.dst u h3];exact hv w1 hz1⟩)
    ·rw [Array.setIfInBounds_comm _ _ hjk]
     exact h.1
theorem Inv.rebase (h:Inv w0 F0 F M σ a w): ∃ w1:W0 P,Inv w1 F F M σ a w∧(∀ F' M' σ' a' w',Inv w1 F F' M' σ' a' w' →Inv w0 F0 F' M' σ' a' w')∧(∀ w',w1.Bel w' →w0.Bel w')∧(∀ w',w1.Bel w' → ∀ g,F g→w'.heap[g]? =w.heap[g]?):=by
 have hX: ∀ g,(∃ i mi,M i=some mi∧mi.g=some g)→ ¬F g∧w0.nw g∧g<w.heap.size:=fun g ⟨i,mi,h1,h2⟩=>h.mine i mi g h1 h2
 have hbel: ∀ w' :World,BelX w (fun g=> ∃ i mi,M i=some mi∧mi.g=some g) w' →w0.Bel w' :=fun w' hb=>
  ⟨hb.os.trans h.below.os,hb.tape.trans h.below.tape,hb.output.trans h.below.output,Nat.le_trans h.below.size hb.size,fun k hk hx=>(hb.block k (Nat.lt_of_lt_of_le hk h.below.size) (fun hm=>by
   rcases (hX k hm).2.1 with h1 | h1
   ·omega
   ·exact hx h1)).trans (h.below.block k hk hx)⟩
 have hnw: ∀ g,(w.heap.size≤g∨ ∃ i mi,M i=some mi∧mi.g=some g)→w0.nw g:=fun g hg=>by
  rcases hg with hg | hg
  ·exact h.below.new hg
  ·exact (hX g hg).2.1
 refine ⟨⟨w,fun g=> ∃ i mi,M i=some mi∧mi.g=some g,w0.p,fun g hg=> ?_⟩,⟨h.defers,h.size,h.slots,fun id o ho=> ?_,h.apart,fun i mi g h1 h2=>⟨(h.mine i mi g h1 h2).1,.inr ⟨i,mi,h1,h2⟩,(h.mine i mi g h1 h2).2.2⟩,fun g hg=>⟨(h.flt g hg).1,.inl hg⟩,fun g hg=> ?_,⟨rfl,rfl,rfl,Nat.le_refl _,fun _ _ _=>rfl⟩,h.pins⟩,fun F' M' σ' a' w' k=>⟨k.defers,k.size,k.slots,fun id o ho=> ?_,k.apart,fun i mi g h1 h2=>⟨(k.mine i mi g h1 h2).1,hnw g (k.mine i mi g h1 h2).2.1,(k.mine i mi g h1 h2).2.2⟩,fun g hg=>⟨(k.flt g hg).1,?_⟩,fun g hg=> ?_,hbel w' k.below,k.pins⟩,fun w' hb=>hbel w' hb,fun w' hb g hg=>hb.block g (h.flt g hg).1 fun hm=>(hX g hm).1 hg⟩
 ·have hF:=h.fle g (.inr hg)
  exact ⟨(h.flt g hF).1,fun hm=>(hX g hm).1 hF,(h.glb g hg).2⟩
 ·obtain ⟨mo,h1,h2⟩:=h.obs id o ho
  refine ⟨mo,h1,?_⟩
  cases o with
  | cells _ t cs=>exact h2
  | arr t xs=>exact h2
  | row _ e t xs=>exact ⟨h2.1,h2.2.setB fun g hg=> .inr ⟨id,mo,h1,hg⟩⟩
  | buf e xs=>exact ⟨h2.1,h2.2.1.setB fun g hg=> .inr ⟨id,mo,h1,hg⟩,h2.2.2⟩
 ·rcases hg with hg | hg
  ·exact hg
  ·exact h.fle g (.inr hg)
 ·obtain ⟨mo,h1,h2⟩:=k.obs id o ho
  refine ⟨mo,h1,?_⟩
  cases o with
  | cells _ t cs=>exact h2
  | arr t xs=>exact h2
  | row _ e t xs=>exact ⟨h2.1,h2.2.imp hnw⟩
  | buf e xs=>exact ⟨h2.1,h2.2.1.imp hnw,h2.2.2⟩
 ·rcases (k.flt g hg).2 with h1 | h1
  ·exact (h.flt g h1).2
  ·exact .inr (hnw g h1)
 ·rcases hg with hg | hg
  ·exact k.fle g (.inl (h.fle g (.inl hg)))
  ·exact k.fle g (.inr hg)
theorem zcS {done bl:List Nat} {k:Nat} {ok:Oper}: ∀ (l:List Oper) (j:Nat),(∀ i,l[i]? =ops[j+i]?)→zho ops done bl k ok j l=true→
  ∀ i oi,j≤i→ops[i]? =some oi→hasN i done=true∨i=k∨i∈bl∨ok.apart ops oi=true
 | [],j,hl,_,i,oi,hji,hoi=>by
  have:=hl (i - j)
  rw [show j+(i - j)=i by omega,hoi] at this
  simp at this
 | o::r,j,hl,h,i,oi,hji,hoi=>by
  simp only [zho,Bool.and_eq_true,Bool.or_eq_true] at h
  by_cases hij:i=j
  ·subst hij
   have:o=oi:=by
    have h0:=hl 0
    rw [Nat.add_zero,hoi] at h0
    simpa using h0
   subst this
   rcases h.1 with h1 | h1 | h1 | h1
   ·exact .inl h1
   ·exact .inr (.inl (Nat.eq_of_beq_eq_true h1))
   ·exact .inr (.inr (.inl (jZ h1)))
   ·exact .inr (.inr (.inr h1))
  ·exact zcS r (j+1) (fun i=>by have:=hl (i+1);simpa [Nat.add_assoc,Nat.add_comm 1 i] using this) h.2 i oi (by omega) hoi
theorem zdJ {done:List Nat}: ∀ {l:List Nat} {k:Nat},zmI P σ ops done l=some k→k∈l∧zhp P σ ops done k=true
 | i::r,k,h=>by
  unfold zmI at h
  cases hf:zhp P σ ops done i with
  | true=>
   rw [hf] at h
   have:i=k:=by simpa using h
   subst this
   exact ⟨List.mem_cons_self,hf⟩
  | false=>
   rw [hf] at h
   obtain ⟨h1,h2⟩:=zdJ (l:=r) h
   exact ⟨List.mem_cons_of_mem _ h1,h2⟩
theorem zmJ (h:Inv w0 F0 F M σ a w) {o:Oper} (hf:ldFz σ o=true) {k:Nat} (ho:ops[k]? =some o) {K:St→Prop} (hk:zc9 P μ ops k σ K) {Z:World→Prop} (hZ: ∀ w',Z w' → ∀ g,F g→w'.heap[g]? =w.heap[g]?):FixV P Z o a:=by
 unfold ldFz at hf
 split at hf
 ·cases hf
 rename_i hgd
 split at hf
 ·rename_i t x hop
  split at hf
  ·rename_i cs hev
   unfold zc9 at hk
   split at hk
   ·rename_i o' r hd
    have ho' :ops[k]? =some o' :=by
     have:=congrArg List.head? hd
     rw [List.head?_drop] at this
     simpa using this
    have:o' =o:=Option.some.inj (ho'.symm.trans ho)
    subst this
    unfold wpr at hk
    rw [hgd] at hk
    dsimp only at hk
    unfold wpo at hk
    rw [hop] at hk
    dsimp only at hk
    unfold wpq at hk
    dsimp only at hk
    rw [hev] at hk
    have hx:=h.ev x
    rw [hev] at hx
    obtain ⟨ad,us,h1,h2,h3,h4,h5⟩:=hx
    obtain ⟨v,hv⟩:=zki (w:=w) hk ad fun j c hj=>by
     obtain ⟨u,h6,h7⟩:=h5 j c hj
     exact ⟨u,(h3 j u h6).1⟩
    refine ⟨v,fun w' hz=> ?_⟩
    have he:execOp a.eval o' =(do let v ← loadVar t ad;Pure.pure (Next.value v)):=by
     unfold execOp;rw [hop];simp only [h1,Instr.loadAt,Instr.sureAddr];rfl
    rw [he,Sem.run_bind,hv w' fun j=>World.cell?_of_block (by rw [z7];exact hZ w' hz _ h2)]
    rfl
   ·exact hk.elim
  ·cases hf
 ·cases hf
theorem znZ (hsel:Region.noSelect ops=true) (he:qE .any 0 ops.toList=true) {K:St→Prop}:
  ∀ (f:Nat) (done:List Nat) (listed:Array Bool) (σ:St) (w0:W0 P) (F0 F:Nat→Prop) (M:Nat→Option MO) (a:Act) (w:World) (Q:Act→World→Prop),(∀ σ' F' M' a' w',K σ' →Inv w0 F0 F' M' σ' a' w' →Q a' w')→
   Dn ops done listed→ja .any ops listed→Inv w0 F0 F M σ a w→wprB P μ ops f done σ K→zba P (fun w' =>w0.Bel w') .any ops Q f listed a w
 | 0,done,listed,σ,w0,F0,F,M,a,w,Q,hQ,hd,hcl,hI,hk=>by
  unfold wprB at hk
  have hr:=qI hd he ops.toList 0 (by simp)
  split at hk
  ·rename_i hnil
   refine ⟨List.eq_nil_iff_forall_not_mem.2 fun i hi=> ?_,hQ _ _ _ _ _ hk hI⟩
   have:=(hr i).2 ⟨Nat.zero_le _,hi⟩
   rw [hnil] at this;cases this
  ·exact hk.elim
 | f+1,done,listed,σ,w0,F0,F,M,a,w,Q,hQ,hd,hcl,hI,hk=>by
  unfold wprB at hk
  have hr:=qI hd he ops.toList 0 (by simp)
  split at hk
  ·rename_i hnil
   have hno: ∀ i,i∉Region.ready .any ops listed:=fun i hi=>by
    have:=(hr i).2 ⟨Nat.zero_le _,hi⟩
    rw [hnil] at this;cases this
   exact ⟨fun _=>hQ _ _ _ _ _ hk hI,fun i hi=>absurd hi (hno i)⟩
  ·rename_i i0 r hcons
   have hstep: ∀ (w1:W0 P) (F1:Nat→Prop),Inv w1 F1 F M σ a w→(∀ σ' F' M' a' w',K σ' →Inv w1 F1 F' M' σ' a' w' →Q a' w')→ ∀ k,k∈Region.ready .any ops listed→zc9 P μ ops k σ (fun σ' =>wprB P μ ops f (k::done) σ' K)→
     gOp P ops k (fun a' w' =>zba P (fun w' =>w1.Bel w') .any ops Q f (listed.setIfInBounds k true) a' w' ∧w1.Bel w') a w:=fun w1 F1 hI1 hQ1 k hkr hs=>by
    obtain ⟨_,ok,hok,_⟩:=mem_ready.1 hkr
    have hklt:k<ops.size:=(Array.getElem?_eq_some_iff.1 hok).1
    exact zjk hI1 hs fun σ' F' M' a' w' hK' hI' =>⟨znZ hsel he f (k::done) _ σ' w1 F1 F' M' a' w' Q hQ1 (hd.set hklt) (hcl.set hkr) hI' hK',hI'.below⟩
   split at hk
   ·rename_i k hp
    obtain ⟨hkm,hfo⟩:=zdJ hp
    have hkr:=((hr k).1 (by rw [hcons];exact hkm)).2
    obtain ⟨hkun,ok,hok,_⟩:=mem_ready.1 hkr
    unfold zhp at hfo
    split at hfo
    ·rename_i ok' r' hdr
     have e1:ok' =ok:=by
      have:=congrArg List.head? hdr
      rw [List.head?_drop] at this
      have h2:ops[k]? =some ok' :=by simpa using this
      rw [hok] at h2;exact (Option.some.inj h2).symm
     subst e1
     have hl' : ∀ i,r'[i]? =ops[(k+1)+i]? :=fun i=>by
      have:(ops.toList.drop k)[i+1]? =(ok' ::r')[i+1]? :=by rw [hdr]
      rw [List.getElem?_drop,List.getElem?_cons_succ] at this
      rw [← this,show k+(i+1)=k+1+i by omega];simp
     simp only [Bool.and_eq_true,Bool.or_eq_true] at hfo
     obtain ⟨hst,hfo⟩:=hfo
     obtain ⟨w1,hI1,hback,hbel,hfix⟩:=hI.rebase
     refine zcQ hbel _ _ _ _ (zfo hsel hok hst f listed a w hI1.below hcl (fun j oj hoj hjk hun=> ?_) hkr (hstep w1 F hI1 (fun σ' F' M' a' w' hK hI' =>hQ _ _ _ _ _ hK (hback _ _ _ _ _ hI')) k hkr hk))
     have hjlt:j<ops.size:=(Array.getElem?_eq_some_iff.1 hoj).1
     rcases hfo with hfo | ⟨hld,hfo⟩
     ·rcases jC ops.toList 0 (by simp) hfo j oj (Nat.zero_le _) hoj with h1 | h1 | h1 | h1
      ·rw [hd.eq j hjlt,h1] at hun;cases hun
      ·exact absurd h1 hjk
      ·exact .inl (yq r' (k+1) [] hl' (by simp) j h1)
      ·exact .inr (.inl h1)
     ·rcases zcS ops.toList 0 (by simp) hfo j oj (Nat.zero_le _) hoj with h1 | h1 | h1 | h1
      ·rw [hd.eq j hjlt,h1] at hun;cases hun
      ·exact absurd h1 hjk
      ·exact .inl (yq r' (k+1) [] hl' (by simp) j h1)
      ·exact .inr (.inr ⟨h1,zmJ hI1 hld hok hk hfix⟩)
    ·cases hfo
   ·refine ⟨fun h0=> ?_,fun i hi=>hstep w0 F0 hI hQ i hi (zcH hk i (by rw [← hcons];exact (hr i).2 ⟨Nat.zero_le _,hi⟩))⟩
    have:=((hr i0).1 (by rw [hcons];exact List.mem_cons_self)).2
    rw [h0] at this;cases this
theorem zkl (hm:P.follows .mixedOrders=true) {id:Nat} (ha:zda ops=true) {σ:St} {k:Exit→St→Prop} (hk:wprB P μ ops ops.size [] σ (k .normal)):S P (.region id ops true) σ k:=fun w0 F0 F M a w h=>by
 simp only [zda,Bool.and_eq_true] at ha
 have hdrew:Inv w0 F0 F M σ a { w with drawn:=w.drawn+1 }:=h.grow (Below.refl _ _).drew
 refine wp_region_any hm (jn (Q:=fun a' w' => ∃ σ' F' M',k .normal σ' ∧Inv w0 F0 F' M' σ' a' w') (fun _ _ h=>h) _ _ _ _ (zcR (Z:=fun w' =>w0.Bel w') _ _ _ _ ?_))
 refine znZ ha.1 ha.2 ops.size [] (Array.replicate ops.size false) σ w0 F0 F M a _ _ (fun σ' F' M' a' w' hK hI=>⟨σ',F',M',hK,hI⟩) ⟨by simp,fun j hj=>by simp [hj,hasN]⟩ (fun j oj hj hl=> ?_) hdrew hk
 have hlt:j<ops.size:=(Array.getElem?_eq_some_iff.1 hj).1
 simp [hlt] at hl
end
end
end Go.Proofs.YthcmfnkganacaaaGreatDoor.Vc
