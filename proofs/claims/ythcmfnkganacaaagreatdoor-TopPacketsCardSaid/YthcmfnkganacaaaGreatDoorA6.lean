/-
  WHAT THE FUNCTIONS DO WITH DATA, printed by a program from the translation. No condition.
-/
import Derived.Test.YthcmfnkganacaaaGreatDoorA3
import Derived.Test.YthcmfnkganacaaaGreatDoorA5
import Derived.Test.YthcmfnkganacaaaGreatDoorA1
import Derived.Shelf.Strings.Builder1
import Derived.Laws.Externs
import Derived.Lib.Overlaps
import Derived.Lib.Walk
import Derived.Shelf.RegionOpenPlain
import Derived.Lib.AppendZerosOnto
set_option linter.unusedVariables false
set_option linter.unusedSimpArgs false
set_option maxRecDepth 100000
namespace Go.Proofs.YthcmfnkganacaaaGreatDoor.Vc
section
section
open Go.RowKit Go.Proofs
theorem qA {P:Program} {f:FuncId} {ds:List D} {u:Ty} {x:u.I} (hent: ∀ (args:Array Value) (w:World),(callFunc f args).run P w= .ok (.enter f args) w)
  (h: ∀ (w:World) (vs:Array Value) (F:Nat→Prop),(∀ g,F g→g<w.heap.size)→Glb P w F→vs.size=ds.length→(∀ (i:Nat) d',ds[i]? =some d' → ∃ v,vs[i]? =some v∧R1 w F noM v d')→
   ∃ v,(∀ F2,R1 w F2 noM v (encV u x))∧Calls P f vs w fun e w' =>e= .returned v∧w' =w):Spec P f ds (encV u x):=by
 refine ⟨hent,fun w vs F hF hgl hsz hargs=> ?_⟩
 obtain ⟨v,hv,hc⟩:=h w vs F hF hgl hsz hargs
 refine hc.mono ?_
 rintro e w' ⟨rfl,rfl⟩
 exact ⟨v,F,none,rfl,Below.refl _ _,fun _ z=>z,fun g hg=>⟨hF g hg,.inl hg⟩,fun g hg=>(by cases hg),RR0.toRR (zaa ⟨u,x,rfl⟩ (hv F))⟩
theorem znU {vs:Array Value} (h:vs.size=2): ∃ a b,vs= #[a,b]:=by
 obtain ⟨l⟩:=vs
 match l,h with
 | [a,b],_=>exact ⟨a,b,rfl⟩
theorem arg_str {w:World} {F:Nat→Prop} {v:Value} {s:Bs} (h:R1 w F noM v (.val .str s)): ∃ S:ByteArray,v= .string S∧S.data.toList=s:=by
 obtain ⟨S,h1,h2⟩:=h
 exact ⟨S,by simpa using h1,h2⟩
theorem zaJ {w:World} {F:Nat→Prop} {v:Value} {k:IntKind} {n:Int} (h:R1 w F noM v (.val (.int k) n)):v= .int k n:=by
 have h:[v]=[Value.int k n]:=h
 simpa using h
theorem yt {w:World} {F:Nat→Prop} {vs:Array Value} {d1 d2:D} (hsz:vs.size=2) (h: ∀ (i:Nat) d',[d1,d2][i]? =some d' → ∃ v,vs[i]? =some v∧R1 w F noM v d'): ∃ a b,vs= #[a,b]∧R1 w F noM a d1∧R1 w F noM b d2:=by
 obtain ⟨a,b,rfl⟩:=znU hsz
 obtain ⟨x,h1,h2⟩:=h 0 d1 rfl
 obtain ⟨y,h3,h4⟩:=h 1 d2 rfl
 have:a=x:=by simpa using h1
 subst this
 have:b=y:=by simpa using h3
 subst this
 exact ⟨a,b,rfl,h2,h4⟩
def E429:Int→D:=fun x=>encV tI x
def F429 (N:Nat) (s:Bs) (c:Int):Option Int:=some (Lib.indexByte s c.toNat.toUInt8)
theorem P429 (N:Nat) (s:Bs) (c:Int): ∀ r,F429 N s c=some r→Spec Tryz.prog 429 [.val .str s,.val (.int .u8) c] (E429 r):=fun r h=>by
 cases h
 refine qA (zw (fn:=Tryz.f429) rfl rfl rfl) fun w vs F hF hgl hsz hargs=> ?_
 obtain ⟨a,b,rfl,h1,h2⟩:=yt hsz hargs
 obtain ⟨S,rfl,rfl⟩:=arg_str h1
 obtain rfl:=zaJ h2
 exact ⟨_,fun _=>rfl,Tryz.strings_IndexByte S c w⟩
def E181:Int→D:=fun x=>encV tI x
def F181 (N:Nat) (s p:Bs):Option Int:=if s.length<4294967281 then some (Lib.index s p) else none
theorem P181 (N:Nat) (s p:Bs): ∀ r,F181 N s p=some r→Spec Tryz.prog 181 [.val .str s,.val .str p] (E181 r):=fun r h=>by
 unfold F181 at h
 split at h
 ·rename_i hl
  cases h
  refine qA (zw (fn:=Tryz.f181) rfl rfl rfl) fun w vs F hF hgl hsz hargs=> ?_
  obtain ⟨a,b,rfl,h1,h2⟩:=yt hsz hargs
  obtain ⟨S,rfl,rfl⟩:=arg_str h1
  obtain ⟨Q,rfl,rfl⟩:=arg_str h2
  obtain ⟨_,m,hm⟩:=hgl.int (g:=0) (by kernel_rfl)
  exact ⟨_,fun _=>rfl,Tryz.strings_Index S Q m w (by rw [strSize];exact hl) hm⟩
 ·cases h
def E125:Bool→D:=fun x=>encV tB x
def F125 (N:Nat) (s p:Bs):Option Bool:=some (Lib.hasPrefix s p)
theorem P125 (N:Nat) (s p:Bs): ∀ r,F125 N s p=some r→Spec Tryz.prog 125 [.val .str s,.val .str p] (E125 r):=fun r h=>by
 cases h
 refine qA (zw (fn:=Tryz.f125) rfl rfl rfl) fun w vs F hF hgl hsz hargs=> ?_
 obtain ⟨a,b,rfl,h1,h2⟩:=yt hsz hargs
 obtain ⟨S,rfl,rfl⟩:=arg_str h1
 obtain ⟨Q,rfl,rfl⟩:=arg_str h2
 exact ⟨_,fun _=>rfl,Tryz.strings_HasPrefix S Q w⟩
end
section
open Go.RowKit Go.Proofs Go.Sort
def E139:Bs→D:=fun x=>encV tS x
def F139 (N:Nat) (n:Int):Option Bs:=if -9223372036854775808≤n∧n≤9223372036854775807 then some (Lib.itoa n) else none
theorem P139 (N:Nat) (n:Int): ∀ r,F139 N n=some r→Spec Tryz.prog 139 [.val (.int .i64) n] (E139 r):=fun r h=>by
 unfold F139 at h
 split at h
 ·rename_i hn
  cases h
  refine ⟨zw (fn:=Tryz.f139) rfl rfl rfl,fun w vs F hF hgl hsz hargs=> ?_⟩
  obtain ⟨v,rfl⟩: ∃ v,vs= #[v]:=by
   have h1:vs.size=1:=by simpa using hsz
   refine ⟨vs[0],Array.ext (by simp [h1]) fun i h2 h3=> ?_⟩
   have:i=0:=by omega
   subst this;rfl
  obtain ⟨v',hv1,hv2⟩:=hargs 0 _ rfl
  have hv3:v' =v:=by simpa using hv1.symm
  subst hv3
  have:=zaJ hv2
  subst this
  obtain ⟨g,hg1,hg2⟩: ∃ g,Tryz.prog.globalNamed "internal/strconv.uint64pow10" =some g∧tabVar Tryz.prog g=some Lib.pow10Tab:=⟨5,by kernel_rfl,by kernel_rfl⟩
  obtain ⟨_,e,fr,hh⟩:=hgl.tab hg2
  have htab:Lib.TabIs Tryz.prog w "internal/strconv.uint64pow10" .u64 Lib.pow10Tab:=by
   unfold Lib.TabIs World.var?
   rw [hg1]
   simp only [Option.bind_some,hh]
  have hC:=Tryz.strconv_Itoa n hn.1 hn.2 w htab
  refine Calls.mono hC ?_
  rintro en w' ⟨rfl,k,os,rfl⟩
  have hb:Below w.heap.size w (grow (w.drewN k) os):=⟨rfl,rfl,rfl,by rw [size_grow];simp,fun j hj=>by rw [heap_grow_old _ _ (by simpa using hj)];rfl⟩
  exact ⟨_,F,none,rfl,hb,fun _ h=>h,fun g hg=>⟨Nat.lt_of_lt_of_le (hF g hg) hb.size,.inl hg⟩,fun g hg=>(by cases hg),⟨_,rfl,by simp⟩⟩
 ·cases h
end
end
section
open Go.RowKit Go.Proofs
theorem ziq {w:World} {a:Addr} {v:Value} (h:w.cell? a=some v):a.spot=none∧a.block<w.heap.size:=by
 unfold World.cell? at h
 split at h
 ·rename_i c e fr hb
  split at h
  ·cases h
  ·rename_i h2
   refine ⟨?_,(Array.getElem?_eq_some_iff.1 hb).1⟩
   cases hq:a.spot with
   | none=>rfl
   | some q=>rw [hq] at h2;exact absurd rfl h2
 ·cases h
theorem txtJ {w:World} {F:Nat→Prop} {x:List Bs} {v:Value} (h:RV w F (.list .str) x [v]):(x=[]∧ ∃ A c,v= .slice A 0 c)∨
  ∃ (b o c:Nat) (xs:List ByteArray),v= .slice (some ⟨b,o,none⟩) xs.length c∧xs.map (fun s:ByteArray=>s.data.toList)=x∧xs.length≤c∧b<w.heap.size∧ ∀ (j:Nat) y,xs[j]? =some y→w.cell? ⟨b,o+j,none⟩=some (.string y):=by
 obtain ⟨A,c,h1,h2,h3,h4⟩:=h
 have hv:v= .slice A x.length c:=by simpa using h1
 rcases Nat.eq_zero_or_pos x.length with h0 | h0
 ·exact .inl ⟨List.length_eq_zero_iff.1 h0,A,c,by rw [hv,h0]⟩
 ·right
  obtain ⟨a0,us0,ha0,_,hu0,hr0⟩:=h4 0 x[0] (List.getElem?_eq_getElem h0)
  obtain ⟨hsp,hbk⟩:a0.spot=none∧a0.block<w.heap.size:=by
   obtain ⟨s0,hs0,_⟩:=hu0
   subst hs0
   have:=(hr0 0 (.string s0) rfl).1
   rw [Nat.zero_mul] at this
   exact ziq this
  have hl:(x.map fun b=>(⟨b.toArray⟩:ByteArray)).length=x.length:=by simp
  refine ⟨a0.block,a0.off,c,x.map fun b=>⟨b.toArray⟩,by rw [hv,ha0,hl,← hsp],by simp [Function.comp_def],by rw [hl];exact h2,hbk,fun j y hy=> ?_⟩
  have hj:j<x.length:=by
   have:=(List.getElem?_eq_some_iff.1 hy).1
   rwa [hl] at this
  obtain ⟨a,us,ha,_,hu,hr⟩:=h4 j x[j] (List.getElem?_eq_getElem hj)
  have ea:a=a0:=by rw [ha] at ha0;injection ha0
  subst ea
  obtain ⟨s,hs1,hs2⟩:=hu
  subst hs1
  have hr1:=(hr 0 (.string s) rfl).1
  have hw:(Ty.width .str)=1:=rfl
  rw [hw,Nat.mul_one] at hr1
  have hadd:(a.add j).add 0=⟨a.block,a.off+j,none⟩:=by
   show a.add j=_
   unfold Addr.add
   split
   ·rename_i h;subst h;rw [← hsp]
    rfl
   ·rfl
  rw [hadd] at hr1
  rw [hr1]
  rw [List.getElem?_map,List.getElem?_eq_getElem hj] at hy
  injection hy with hy
  rw [← hy]
  congr 1
  congr 1
  rw [← hs2]
def E55:Bs→D:=fun x=>encV tS x
def F55 (N:Nat) (xs:List Bs) (sep:Bs):Option Bs:=if xs.length≤1000000∧(Lib.join xs sep).length≤100000000 then some (Lib.join xs sep) else none
theorem P55 (N:Nat) (xs:List Bs) (sep:Bs): ∀ r,F55 N xs sep=some r→Spec Tryz.prog 55 [.val (.list tS) xs,.val tS sep] (E55 r):=fun r h=>by
 unfold F55 at h
 split at h
 ·rename_i hc
  cases h
  refine ⟨zw (fn:=Tryz.f55) rfl rfl rfl,fun w vs F hF hgl hsz hargs=> ?_⟩
  obtain ⟨v,s,rfl,hv,hs⟩:=yt (hsz:=by simpa using hsz) hargs
  obtain ⟨S,rfl,hS⟩:=arg_str hs
  have fin: ∀ w',Below w.heap.size w w' → ∃ v F' G,(Ending.returned (Value.string ⟨(Lib.join xs sep).toArray⟩):Ending)= .returned v∧Below w.heap.size w w' ∧(∀ g,F g→F' g)∧(∀ g,F' g→g<w'.heap.size∧(F g∨w.heap.size≤g))∧
   (∀ g,G=some g→w.heap.size≤g∧ ¬F' g∧g<w'.heap.size)∧RR w' F' (fun g=>w.heap.size≤g) G v (E55 (Lib.join xs sep)):=fun w' hb=>
   ⟨_,F,none,rfl,hb,fun _ h=>h,fun g hg=>⟨Nat.lt_of_lt_of_le (hF g hg) hb.size,.inl hg⟩,fun g hg=>(by cases hg),⟨_,rfl,by simp⟩⟩
  rcases txtJ hv with ⟨hx,A,c,rfl⟩ | ⟨b,o,c,ys,rfl,hys,hcap,hbk,hcells⟩
  ·subst hx
   refine Calls.mono (Tryz.strings_Join_none A c S w) ?_
   rintro en w' ⟨rfl,rfl⟩
   exact fin _ ⟨rfl,rfl,rfl,Nat.le_refl _,fun _ _=>rfl⟩
  ·have hC:=Tryz.strings_Join b o c ys S w hcells hbk (by have:=congrArg List.length hys;simp at this;omega) hcap (by rw [hys,hS];omega)
   rw [hys,hS] at hC
   refine Calls.mono hC ?_
   rintro en w' ⟨rfl,hb⟩
   exact fin _ hb
 ·cases h
end
section
open Go.RowKit Go.Proofs
def E82:Bs→D:=fun x=>encV tS x
def F82 (N:Nat) (s:Bs) (c:Int):Option Bs:=if 0≤c∧c≤1000∧s.length≤1000 then some (Lib.repeatL s c.toNat) else none
theorem P82 (N:Nat) (s:Bs) (c:Int): ∀ r,F82 N s c=some r→Spec Tryz.prog 82 [.val tS s,.val tI c] (E82 r):=fun r h=>by
 unfold F82 at h
 split at h
 ·rename_i hc
  obtain ⟨h0,h1,h2⟩:=hc
  cases h
  refine ⟨zw (fn:=Tryz.f82) rfl rfl rfl,fun w vs F hF hgl hsz hargs=> ?_⟩
  obtain ⟨v,n,rfl,hv,hn⟩:=yt (hsz:=hsz) hargs
  obtain ⟨S,rfl,hS⟩:=arg_str hv
  have hn' :n= .int .i64 c:=zaJ hn
  subst hn'
  have hlen:S.size≤1000:=by
   have:S.data.toList.length=s.length:=congrArg List.length hS
   rw [Array.length_toList] at this
   show S.data.size≤1000
   omega
  obtain ⟨k,rfl⟩: ∃ k:Nat,c=(k:Int):=⟨c.toNat,by omega⟩
  have hmul:S.size*k≤1000*1000:=Nat.mul_le_mul hlen (by omega)
  have hC:=Tryz.strings_Repeat S k w (by omega) (by omega)
  rw [hS] at hC
  refine Calls.mono hC ?_
  rintro en w' ⟨rfl,hb⟩
  exact ⟨_,F,none,rfl,hb,fun _ h=>h,fun g hg=>⟨Nat.lt_of_lt_of_le (hF g hg) hb.size,.inl hg⟩,fun g hg=>(by cases hg),⟨_,rfl,by simp⟩⟩
 ·cases h
end
section
section
open Go.Shelf Go.RowKit Go.Proofs
theorem zge (w:World) (g n:Nat):BelX w (fun k=>k=g) (w.drew.freeze ⟨g,0,none⟩ n):=by
 unfold World.freeze
 split
 ·exact ⟨rfl,rfl,rfl,Nat.le_refl _,fun _ _ _=>rfl⟩
 ·refine ⟨rfl,rfl,rfl,by simp,fun k _ hk=> ?_⟩
  simp only [Array.getElem?_modify]
  rw [if_neg (fun e=>hk e.symm)]
  rfl
section
variable {P:Program} {ρ:Ren}
set_option maxHeartbeats 2000000 in
set_option maxRecDepth 100000 in
theorem zo6 (L:Lays.n169 P ρ) (X:Builder.Extra P ρ) (b g cap:Nat) (cur:Array Value) (p:Value) (l:List UInt8) (w:World) (hbk:w.heap[b]? =some (.cells #[p,.slice (some ⟨g,0,none⟩) l.length cap] (ρ.t 72) (0,0)))
  (hg:w.heap[g]? =some (.cells cur (ρ.t 5) (0,0))) (hnc:l.length≤cap) (hcm:cap≤maxLen) (hcs:cur.size=cap) (htake:cur.toList.take l.length=Lib.byteCells l) (h0:l≠[]):
  Calls P (ρ.f 169) #[.pointer (some ⟨b,0,none⟩)] w fun e w' =>e= .returned (.string ⟨l.toArray⟩)∧BelX w (fun k=>k=g) w' :=by
 have hl0:l.length≠0:=by simpa using h0
 have hlen:(Lib.byteCells l).length=l.length:=Lib.byteCells_length l
 have c1:w.drew.cell? ⟨b,1,none⟩=some (.slice (some ⟨g,0,none⟩) l.length cap):=by
  have:w.drew.heap[b]? =some (.cells #[p,.slice (some ⟨g,0,none⟩) l.length cap] (ρ.t 72) (0,0)):=hbk
  rw [Lib.cell_of_heap this];rfl
 have hSD:(Builtin.unsafeSliceData_ #[(ρ.t 37)] (ρ.t 127) #[.slice (some ⟨g,0,none⟩) l.length cap]).run P w.drew= .ok (.pointer (some ⟨g,0,none⟩)) w.drew:=
  Lib.run_unsafeSliceData_row _ _ _ _ _ _ (by omega)
 have hUS:(Builtin.unsafeString_ #[(ρ.t 127),(ρ.t 3)] (ρ.t 9) #[.pointer (some ⟨g,0,none⟩),.int .i64 l.length]).run P w.drew= .ok (.string ⟨l.toArray⟩) (w.drew.freeze ⟨g,0,none⟩ l.length):=by
  refine Lib.run_unsafeString_row w.drew (ρ.t 127) (ρ.t 3) (ρ.t 9) (ρ.t 5) L.t127 X.cellsByte g cur.size (by have hg' :w.drew.heap[g]? =some (.cells cur (ρ.t 5) (0,0)):=hg;simp [World.shape?,hg']) l h0 (by omega) (by unfold maxLen at hcm;omega) ?_
  intro j x hx
  have hg' :w.drew.heap[g]? =some (.cells cur (ρ.t 5) (0,0)):=hg
  rw [show (⟨g,0,none⟩:Addr).add j=⟨g,j,none⟩ by simp [Addr.add_lit],Lib.cell_of_heap hg']
  have hj:(Lib.byteCells l)[j]? =some (.int .u8 x.toNat):=by simp [Lib.byteCells,hx]
  rw [← htake,List.getElem?_take] at hj
  split at hj
  ·simpa using hj
  ·cases hj
 have mixed:=L.mixed
 have t72:=L.t72;have a72:=L.a72;have z72:=L.z72;have v72:=L.v72;have u72:=run_underlying L.t72
 have t70:=L.t70;have a70:=L.a70;have z70:=L.z70;have v70:=L.v70;have u70:=run_underlying L.t70
 have t37:=L.t37;have a37:=L.a37;have z37:=L.z37;have v37:=L.v37;have u37:=run_underlying L.t37
 have t127:=L.t127;have a127:=L.a127;have z127:=L.z127;have v127:=L.v127;have u127:=run_underlying L.t127
 have t3:=L.t3;have a3:=L.a3;have z3:=L.z3;have v3:=L.v3;have u3:=run_underlying L.t3
 have t9:=L.t9;have a9:=L.a9;have z9:=L.z9;have v9:=L.v9;have u9:=run_underlying L.t9
 have t5:=X.t5;have a5:=X.a5;have z5:=X.z5;have v5:=X.v5;have u5:=run_underlying X.t5
 go_enter L.f169,Body.n169_ntmps ρ
 go_wp2
 go_region_o
 all_goals (go_wp2;go_ret;exact ⟨rfl,zge w g _⟩)
end
end
section
open Go.RowKit Go.Proofs
theorem zo7 (b:Nat) (w:World) (h0:w.cell? ⟨b,0,none⟩=some (.pointer (some ⟨b,0,none⟩))):
  Calls Tryz.prog 188 #[.pointer (some ⟨b,0,none⟩)] w fun e w' =>e= .returned (.tuple #[])∧w' =w:=by
 obtain ⟨j,hj,_⟩:=Option.map_eq_some_iff.1 Tryz.Builder_Extra_169.sizeBuilder
 go_enter Tryz.func188,Tryz.ntmps188
 go_wp2
 rw [Lib.run_neq_ptr_same w _ Tryz.underlying194 hj]
 go_wp2
 go_end0
 exact ⟨rfl,rfl⟩
theorem zma (b:Nat) (w:World) (h0:w.cell? ⟨b,0,none⟩=some (.pointer none)) (hsh:w.shape? b=some (197,2)) (hfz:w.frozen? ⟨b,0,none⟩=false):
  Calls Tryz.prog 188 #[.pointer (some ⟨b,0,none⟩)] w fun e w' =>e= .returned (.tuple #[])∧w' =w.setCell ⟨b,0,none⟩ (.pointer (some ⟨b,0,none⟩)):=by
 obtain ⟨j,hj,hjs⟩:=Option.map_eq_some_iff.1 Tryz.Builder_Extra_169.sizeBuilder
 go_enter Tryz.func188,Tryz.ntmps188
 go_wp2
 rw [Lib.run_to_unsafe w ⟨b,0,none⟩ Tryz.underlying194 Tryz.underlying381 hj (by rw [hjs];decide) hsh (Nat.zero_lt_succ 1)]
 simp only [Result.andThen]
 rw [Oper.upon_value]
 go_wp2
 rw [run_callFunc_extern Tryz.func305 (by kernel_rfl) (by kernel_rfl) (by kernel_rfl) (e:=Extern.AbiNoEscape.same) (by kernel_rfl)]
 rw [Lib.run_noEscape]
 simp only [Result.andThen]
 rw [Oper.upon_value]
 go_wp2
 rw [Lib.run_from_unsafe w ⟨b,0,none⟩ Tryz.underlying381 Tryz.underlying194 hj hsh Tryz.Builder_Extra_169.liesBuilder]
 simp only [Result.andThen]
 rw [Oper.upon_value]
 go_wp2
 go_end0
 exact ⟨rfl,rfl⟩
theorem zjO {w:World} {F B:Nat→Prop} {b:Nat} {T e:TypeId} {x:Bool×List Int} {ms:Nat→Option MO} {us:Array Value} (h:GrsR w F B b ms 0 [.slf,.row e (.int .u8)] x us.toList):
  ∃ p mo,us= #[p,mo.v]∧(p= .pointer none∨p= .pointer (some ⟨b,0,none⟩))∧ms 1=some mo∧mo.k=1∧OwnR w F B mo.g mo.v e (.int .u8) x.2:=by
 obtain ⟨u1,u2,h1,h2,h3⟩:=h
 obtain ⟨mo,h4,rfl,h5,h6⟩:=h3
 have hp: ∃ p,u1=[p]∧(p= .pointer none∨p= .pointer (some ⟨b,0,none⟩)):=by
  rcases h2 with h2 | h2
  ·exact ⟨_,h2,.inl rfl⟩
  ·exact ⟨_,h2,.inr rfl⟩
 obtain ⟨p,rfl,hp⟩:=hp
 exact ⟨p,mo,Array.toList_inj.1 (by simpa using h1),hp,h4,h5,h6⟩
theorem zrf {w:World} {F B:Nat→Prop} {b:Nat} {e:TypeId} {x:Bool×List Int} {ms:Nat→Option MO} {p:Value} {mo:MO} (hp:p= .pointer none∨p= .pointer (some ⟨b,0,none⟩)) (hm:ms 1=some mo) (hk:mo.k=1)
  (ho:OwnR w F B mo.g mo.v e (.int .u8) x.2):GrsR w F B b ms 0 [.slf,.row e (.int .u8)] x (#[p,mo.v]:Array Value).toList:=
 ⟨[p],[mo.v],rfl,hp.imp (fun h=>by rw [h]) (fun h=>by rw [h]),mo,hm,rfl,hk,ho⟩
theorem cc_G {e:TypeId} (x:Bool×List Int):q8 Tryz.prog 188 197 [.slf,.row e (.int .u8)] x [] x (.tup []):=by
 refine ⟨zw (fn:=Tryz.f188) rfl rfl rfl,fun w b vs F ms hF hgl hX hG hsz hargs=> ?_⟩
 have hvs:vs= #[]:=Array.eq_empty_of_size_eq_zero hsz
 subst hvs
 obtain ⟨us,hus,hgr⟩:=hG.cells
 obtain ⟨p,mo,rfl,hp,hm,hk,ho⟩:=zjO (T:=0) hgr
 have hret: ∀ (w' :World) F2 M2,R w' F2 M2 (.tuple #[]) (.tup []):=fun w' F2 M2=>⟨#[],rfl,rfl,fun j d hj=>by simp at hj⟩
 rcases hp with rfl | rfl
 ·refine (zma b w (by rw [Lib.cell_of_heap hus];rfl) (by simp [World.shape?,hus]) (by simp [World.frozen?,hus])).mono ?_
  rintro en w' ⟨rfl,rfl⟩
  have hsz' :(w.setCell ⟨b,0,none⟩ (.pointer (some ⟨b,0,none⟩))).heap.size=w.heap.size:=by simp [World.setCell]
  have hoth: ∀ k,k≠b→(w.setCell ⟨b,0,none⟩ (.pointer (some ⟨b,0,none⟩))).heap[k]? =w.heap[k]? :=fun k hk=>Below.heap_setCell _ _ _ _ hk
  have hb:=Joins.block_setCell (i:=0) hus (.pointer (some ⟨b,0,none⟩))
  refine ⟨_,F,ms,rfl,⟨rfl,rfl,rfl,by rw [hsz'];exact Nat.le_refl _,fun k _ hx=>hoth k fun e=>hx (.inl e)⟩,fun _ z=>z,fun g hg=>⟨by rw [hsz'];exact hF g hg,.inl hg⟩,fun g hg=>⟨(hX g hg).1,by rw [hsz'];exact (hX g hg).2,.inl hg⟩,
   ⟨⟨_,hb,zrf (.inr rfl) hm hk (ho.keep (fun g hg=>hoth g fun e=>(hX b (.inl rfl)).1 (e ▸ hg)) (fun _ z=>z) fun g hg=>hoth g fun e=>hG.off 1 mo hm (e ▸ hg))⟩,hG.apart,hG.off⟩,hret _⟩
 ·refine (zo7 b w (by rw [Lib.cell_of_heap hus];rfl)).mono ?_
  rintro en w' ⟨rfl,rfl⟩
  exact ⟨_,F,ms,rfl,⟨rfl,rfl,rfl,Nat.le_refl _,fun _ _ _=>rfl⟩,fun _ z=>z,fun g hg=>⟨hF g hg,.inl hg⟩,fun g hg=>⟨(hX g hg).1,(hX g hg).2,.inl hg⟩,hG,hret _⟩
def E188g:Bool×List Int→D:=fun _=> .tup []
def F188g (N:Nat) (x:Bool×List Int):Option (Bool×List Int):=some x
theorem P188g (N:Nat) (x:Bool×List Int): ∀ r,F188g N x=some r→q8 Tryz.prog 188 197 [.slf,.row 5 (.int .u8)] x [] r (E188g r):=fun r h=>by
 cases h
 exact cc_G x
theorem zjP {P:Program} {f:FuncId} {T e:TypeId} {x y:Bool×List Int} {ds:List D} {d:D} (h:q8 P f T [.slf,.row e (.int .u8)] x ds y d) (hy:y.2≠[]):q8 P f T [.slf,.buf e] x ds y d:=by
 refine ⟨h.1,fun w b vs F ms hF hgl hX hG hsz hargs=> ?_⟩
 have hG' :GrR w F (fun _=>True) b T [.slf,.row e (.int .u8)] x ms:=by
  refine ⟨?_,hG.apart,hG.off⟩
  obtain ⟨us,hus,u1,u2,h1,h2,mo,h4,h5,h6,h7,_⟩:=hG.cells
  exact ⟨us,hus,u1,u2,h1,h2,mo,h4,h5,h6,h7⟩
 refine (h.2 w b vs F ms hF hgl hX hG' hsz hargs).mono ?_
 rintro en w' ⟨v,F',ms',he,hbel,hFF,hlt,hX',hG2,hr⟩
 refine ⟨v,F',ms',he,hbel,hFF,hlt,hX',⟨?_,hG2.apart,hG2.off⟩,hr⟩
 obtain ⟨us,hus,u1,u2,h1,h2,mo,h4,h5,h6,h7⟩:=hG2.cells
 refine ⟨us,hus,u1,u2,h1,h2,mo,h4,h5,h6,h7,fun hg=> ?_⟩
 rcases h7 with ⟨h8,_⟩ | ⟨g,_,_,h8,_⟩
 ·exact absurd h8 hy
 ·rw [hg] at h8;cases h8
theorem zir {w:World} {F:Nat→Prop} {xs:List Int} {us:Array Value} (hh:Holds w F (.int .u8) xs us.toList) (hx: ∀ n∈xs,0≤n∧n<256) (hl:xs.length≤us.size):us.toList.take xs.length=Lib.byteCells (strOf xs):=by
 apply List.ext_getElem?
 intro i
 unfold Lib.byteCells strOf
 rw [List.map_map,List.getElem?_map,List.getElem?_take]
 by_cases hi:i<xs.length
 ·rw [if_pos hi,List.getElem?_eq_getElem hi]
  have h1:(us.toList.drop (i*1)).take 1=[Value.int .u8 xs[i]]:=hh i xs[i] (List.getElem?_eq_getElem hi)
  have hlt:i<us.toList.length:=by simp;omega
  rw [Nat.mul_one,List.drop_eq_getElem_cons hlt] at h1
  have h2:us.toList[i]=Value.int .u8 xs[i]:=by simpa using h1
  rw [List.getElem?_eq_getElem hlt,h2]
  obtain ⟨h3,h4⟩:=hx xs[i] (List.getElem_mem hi)
  simp only [Option.map_some,Function.comp,Option.some.injEq,Value.int.injEq,true_and]
  rw [UInt8.toNat_ofNat']
  omega
 ·rw [if_neg hi,List.getElem?_eq_none (by omega)]
  rfl
def E112:List UInt8→D:=fun x=>encV tS x
def zo8 (N:Nat) (x:Bool×List Int):Option (List UInt8):=if x.2.all (fun n=>decide (0≤n∧n<256))=true then some (strOf x.2) else none
theorem P112k (N:Nat) (x:Bool×List Int): ∀ r,zo8 N x=some r→ziP Tryz.prog 112 197 [.slf,.buf 5] x [] (E112 r):=fun r h=>by
 unfold zo8 at h
 split at h
 ·rename_i hall
  cases h
  have hx: ∀ n∈x.2,0≤n∧n<256:=fun n hn=>by simpa using List.all_eq_true.1 hall n hn
  refine ⟨zw (fn:=Tryz.f112) rfl rfl rfl,fun w b vs F ms hF hgl hX hG hsz hargs=> ?_⟩
  have hvs:vs= #[]:=Array.eq_empty_of_size_eq_zero hsz
  subst hvs
  obtain ⟨us,hus,u1,u2,h1,h2,mo,h4,rfl,h6,h7,hex⟩:=hG.cells
  have hp: ∃ p,us= #[p,mo.v]:=by
   rcases h2 with rfl | rfl
   ·exact ⟨_,Array.toList_inj.1 (by simpa using h1)⟩
   ·exact ⟨_,Array.toList_inj.1 (by simpa using h1)⟩
  obtain ⟨p,rfl⟩:=hp
  have hret: ∀ (s:List UInt8) (w' :World) F2 M2,R w' F2 M2 (.string ⟨s.toArray⟩) (encV tS s):=fun s w' F2 M2=>⟨_,rfl,by simp⟩
  have hbelow: ∀ {w' :World},Below w.heap.size w w' →BelX w (grX b ms) w' :=fun hb=>⟨hb.os,hb.tape,hb.output,hb.size,fun k hk _=>hb.block k hk⟩
  rcases h7 with ⟨h8,h9,_⟩ | ⟨g,cap,us',h8,_,h10,h11,h12,h13,h14,h15⟩
  ·have hv:=hex h9
   rw [hv] at hus
   refine (Any.Builder_String_nil Tryz.lays169 Tryz.Builder_Extra_169 w.heap.size b p w hus).mono ?_
   rintro en w' ⟨rfl,hb⟩
   rw [h8]
   exact ⟨_,rfl,hbelow hb,hret [] _⟩
  ·rw [h10] at hus
   by_cases hne:x.2=[]
   ·rw [hne] at hus ⊢
    simp only [List.length_nil] at hus
    by_cases hc0:cap=0
    ·subst hc0
     refine (Any.Builder_String_noroom Tryz.lays169 Tryz.Builder_Extra_169 w.heap.size b g p us' w (Nat.le_refl _) hus h11).mono ?_
     rintro en w' ⟨rfl,hb⟩
     exact ⟨_,rfl,hbelow hb,hret [] _⟩
    ·refine (Any.Builder_String_room Tryz.lays169 Tryz.Builder_Extra_169 w.heap.size b g cap p w hc0 hus).mono ?_
     rintro en w' ⟨rfl,hb⟩
     exact ⟨_,rfl,hbelow hb,hret [] _⟩
   ·have hsl:(strOf x.2).length=x.2.length:=by unfold strOf;rw [List.length_map]
    have hw:us'.size=cap:=by rw [h14];simp [Ty.width]
    refine (zo6 Tryz.lays169 Tryz.Builder_Extra_169 b g cap us' p (strOf x.2) w (by rw [hsl];exact hus) h11 (by rw [hsl];exact h12) h13 hw (by rw [hsl];exact zir h15 hx (by rw [hw];exact h12)) (fun e=>hne (List.eq_nil_of_length_eq_zero (by rw [← hsl,e];rfl)))).mono ?_
    rintro en w' ⟨rfl,hb⟩
    exact ⟨_,rfl,⟨hb.os,hb.tape,hb.output,hb.size,fun k hk hx=>hb.block k hk fun e=>hx (.inr ⟨1,mo,h4,by rw [h8,e]⟩)⟩,hret _ _⟩
 ·cases h
end
end
section
open Go.RowKit Go.Proofs Go.Lib
section
variable {P:Program} {w:World}
theorem yV (dT sT ty elem:TypeId) (k:Nat) (g o dLen dCap:Nat) (a:Addr) (sLen sCap:Nat) (us:Array Value) (T:TypeId) (cs:List Value)
  (hu:P.underlying dT=some (.slice elem)) (hs:(P.info? elem).map (·.size)=some k) (hg:w.heap[g]? =some (.cells us T (0,0))) (hn:cs.length=Nat.min sLen dLen*k)
  (hsrc: ∀ j v,cs[j]? =some v→w.cell? (a.add j)=some v) (hfit:o+cs.length≤us.size) (h1: ∀ v∈cs,v.oneCell' =true):
  (Builtin.copy_ #[dT,sT] ty #[.slice (some ⟨g,o,none⟩) dLen dCap,.slice (some a) sLen sCap]).run P w= .ok (goInt (Nat.min sLen dLen)) (w.setRow g (us.toList.take o++cs++us.toList.drop (o+cs.length)).toArray):=by
 have hl:=run_loadCells_list (P:=P) w a cs hsrc
 have hst:=run_storeCells_at P g o T cs 0 us w hg (by simpa using hfit) h1
 cases hq:P.info? elem with
 | none=>simp [hq] at hs
 | some i=>
  have hi:i.size=k:=by simpa [hq] using hs
  simp only [Nat.add_zero] at hst
  simp [Builtin.copy_,run_underlying hu,Builtin.lenOf,Builtin.firstCells,sizeOf,typeInfo,hq,hi,← hn,hl,hst]
theorem za7 (tS tR e:TypeId) (ht:P.underlying tS=some (.slice e)) (size:Nat) (hz: ∀ w,(Go.sizeOf e).run P w= .ok size w) (a b:Addr) (la ca lb cb:Nat) (hne:a.block≠b.block) (va:Value) (hva:w.cell? a=some va)
  (us:Array Value) (T:TypeId) (hb:w.heap[b.block]? =some (.cells us T (0,0))) (hus:us.size≠0):
  (Extern.SlicesOverlaps.overlaps #[tS,tS] #[tR] #[.slice (some a) la ca,.slice (some b) lb cb]).run P w= .ok (.bool false) w:=by
 have hnb:(a.block !=b.block)=true:=by simpa using hne
 have hnb' :(a.block==b.block)=false:=by simpa using hne
 have hsb:w.shape? b.block=some (T,us.size):=by simp [World.shape?,hb]
 have hfb: ∀ o,w.frozen? { block:=b.block,off:=o,spot:=none }=false:=fun o=>by simp [World.frozen?,hb]
 have hfb' :w.frozen? b=false:=by unfold World.frozen?;rw [hb];simp
 have hsa: ∃ tA kA,w.shape? a.block=some (tA,kA+1):=by
  unfold World.cell? at hva
  unfold World.shape?
  cases hq:w.heap[a.block]? with
  | none=>rw [hq] at hva;simp at hva
  | some ob=>
   rw [hq] at hva
   cases ob<;>simp at hva ⊢
   rename_i c _ _
   have:=(Array.getElem?_eq_some_iff.1 hva.2).1
   omega
 obtain ⟨tA,kA,hsa⟩:=hsa
 cases hk:us.size with
 | zero=>exact absurd hk hus
 | succ kB=>
  rw [hk] at hsb
  conv=>
   lhs
   arg 2
   whnf
  have hbind: ∀ {α β:Type} (s:Sem α) (f:α→Sem β) (w:World),(Sem.bind s f).run P w=(s.run P w).andThen fun x w' =>(f x).run P w' :=fun s f w=>Sem.run_bind' P s f w
  have hprog: ∀ {α:Type} (k:Program→Sem α) (w:World),(Sem.program k).run P w=(k P).run P w:=fun k w=>rfl
  rw [hprog,hbind,hbind]
  have hg0:(#[tS,tS]:Array TypeId)[0]=tS:=rfl
  have hpure: ∀ {α:Type} (x:α) (w:World),(Sem.pure x).run P w= .ok x w:=fun x w=>rfl
  simp only [Sem.run_pure,hpure,Result.andThen_ok,hg0]
  rw [ht]
  simp only [Sem.run_pure,Result.andThen_ok,Sem.run_bind,hz]
  by_cases h0:la=0∨lb=0∨size=0
  ·simp [h0]
  ·cases hfa:w.frozen? a<;>cases hfe:w.frozen? { block:=a.block,off:=kA+1,spot:=none }<;>simp [h0,hnb,hnb',frozen,noView,viewAt,mayBeOne,stringish,shape,Sem.run,hsa,hsb,hfb,hfb',hfa,hfe]
theorem qV {g:Nat} {us:Array Value} {T:TypeId} (hg:w.heap[g]? =some (.cells us T (0,0))) (j:Nat):w.cell? ⟨g,j,none⟩=us[j]? :=by
 simp [World.cell?,hg]
def patch (us:List Value) (o:Nat) (cs:List Value):List Value:=us.take o++cs++us.drop (o+cs.length)
theorem qJ (a:Addr):a.add 0=a:=by
 obtain ⟨b,o,s⟩:=a
 cases s<;>simp [Addr.add]
theorem zhc {o:Oper} {a:Act} {K:Act→World→Prop} {Q:Exit→Act→World→Prop} (d s:Operand) (t t' :TypeId) (ho:o.op= .call { callee:= .builtin .copy,args:= #[d,s],argTypes:= #[t,t'] }) (v u:Value) (hd:a.eval d=v) (hs:a.eval s=u)
  {v' :Value} {w' :World} (hr:(Builtin.copy_ #[t,t'] o.type #[v,u]).run P w= .ok v' w') (h:K (a.put o.dst v') w'):o.wp P a w K Q:=by
 have:(execOp a.eval o).run P w= .ok (.value v') w' :=by
  unfold execOp
  rw [ho]
  simp only [resolve,invoke,builtin,Sem.run_bind,Sem.run_pure,Result.andThen_ok,List.map_toArray,List.map_cons,List.map_nil,hd,hs,hr]
 unfold Oper.wp
 rw [this]
 exact h
theorem za8 {ops:Array Oper} {rest:List Oper} {o:Oper} {a:Act} {Q:Exit→Act→World→Prop} (hgd:o.guard=none) (d s:Operand) (t t' :TypeId) (ho:o.op= .call { callee:= .builtin .copy,args:= #[d,s],argTypes:= #[t,t'] })
  (v u:Value) (hd:a.eval d=v) (hs:a.eval s=u) {v' :Value} {w' :World} (hr:(Builtin.copy_ #[t,t'] o.type #[v,u]).run P w= .ok v' w') (h:wpList P ops Q rest (a.put o.dst v') w'):wpList P ops Q (o::rest) a w:=
 wpList_plain hgd fun _ hK=>zhc d s t t' ho v u hd hs hr (hK _ _ h)
theorem jq {ops:Array Oper} {o:Oper} {a:Act} {K:Act→World→Prop} {Q:Exit→Act→World→Prop} {E:Prop} (hg:o.guard=none) (d s:Operand) (t t' :TypeId) (ho:o.op= .call { callee:= .builtin .copy,args:= #[d,s],argTypes:= #[t,t'] })
  (v u:Value) (hd:a.eval d=v) (hs:a.eval s=u) {v' :Value} {w' :World} (hr:(Builtin.copy_ #[t,t'] o.type #[v,u]).run P w= .ok v' w') (h:K (a.put o.dst v') w'):
  if Region.wanted o (yielded ops a.tmps)=true then o.wp P a w K Q else E:=by
 have hw:Region.wanted o (yielded ops a.tmps)=true:=by simp [Region.wanted,hg]
 rw [if_pos hw]
 exact zhc d s t t' ho v u hd hs hr h
set_option maxHeartbeats 4000000 in
set_option maxRecDepth 100000 in
theorem zjQ (g n c i m vc:Nat) (va:Addr) (us:Array Value) (vs:List Value) (hi:i<n) (hm:0<m) (hroom:n+m≤c) (hc63:c≤9223372036854775807) (hvb:va.block≠g) (hus:us.size=c*3) (hvl:vs.length=m*3)
  (hg:w.heap[g]? =some (.cells us 86 (0,0))) (hone: ∀ j v,j<n*3→us[j]? =some v→v.oneCell' =true) (hvs: ∀ j v,vs[j]? =some v→w.cell? (va.add j)=some v) (h1v: ∀ v∈vs,v.oneCell' =true):
  Calls Tryz.prog 341 #[.slice (some ⟨g,0,none⟩) n c,.int .i64 i,.slice (some va) m vc] w fun e w' =>
   e= .returned (.slice (some ⟨g,0,none⟩) (n+m) c)∧w' =(w.drew.setRow g (patch us.toList ((i+m)*3) ((us.toList.drop (i*3)).take ((n - i)*3))).toArray).setRow g (patch (patch us.toList ((i+m)*3) ((us.toList.drop (i*3)).take ((n - i)*3))) (i*3) vs).toArray:=by
 have hz1: ¬ ((m:Int)=0):=by omega
 have hz2: ¬ ((i:Int)=(n:Int)):=by omega
 have mixed:=mixed
 have hul:us.toList.length=c*3:=by rw [Array.length_toList];exact hus
 obtain ⟨va0,hva0⟩: ∃ v,vs[0]? =some v:=⟨_,List.getElem?_eq_getElem (by omega)⟩
 have hcell0:w.cell? va=some va0:=by have:=hvs 0 va0 hva0;rwa [qJ] at this
 have hov: ∀ lb cb,(callFunc 394 #[.slice (some va) m vc,.slice (some ⟨g,(i+m)*3,none⟩) lb cb]).run Tryz.prog w= .ok (.value (.bool false)) w:=fun lb cb=>by
  rw [run_callFunc_extern Tryz.func394 (by kernel_rfl) (by kernel_rfl) (by kernel_rfl) (e:=Extern.SlicesOverlaps.overlaps #[22,22] #[4]) (by kernel_rfl),
   za7 22 4 86 Tryz.underlying22 3 Tryz.sizeOf86 va ⟨g,(i+m)*3,none⟩ m vc lb cb hvb va0 hcell0 us 86 hg (by omega)]
  rfl
 have hsz:(Tryz.prog.info? 86).map (·.size)=some 3:=by kernel_rfl
 have hw1:IntKind.i64.wrap ((i:Int)+(m:Int))=(i:Int)+(m:Int):=by rw [IntKind.wrap_i64];omega
 have hb1:(0:Int)≤(i:Int)+(m:Int):=by omega
 have hin:i≤n:=by omega
 have htn:((i:Int)+(m:Int)).toNat=i+m:=by omega
 have hb2: ¬ (c=i+m):=by omega
 have hb3:(i:Int)≤(n:Int)+(m:Int):=by omega
 have hb4: ¬ (c=i):=by omega
 obtain ⟨cs,hcs⟩: ∃ cs,(us.toList.drop (i*3)).take ((n - i)*3)=cs:=⟨_,rfl⟩
 have hcl:cs.length=(n - i)*3:=by rw [← hcs,List.length_take,List.length_drop];omega
 obtain ⟨U1,hU1⟩: ∃ U1:Array Value,(patch us.toList ((i+m)*3) cs).toArray=U1:=⟨_,rfl⟩
 have hU1s:U1.size=c*3:=by rw [← hU1];simp only [patch,List.size_toArray,List.length_append,List.length_take,List.length_drop];omega
 rw [hcs,hU1]
 have hcp1: ∀ ty dc sc,(Builtin.copy_ #[22,22] ty #[.slice (some ⟨g,(i+m)*3,none⟩) (n+m - (i+m)) dc,.slice (some ⟨g,i*3,none⟩) (n+m - i) sc]).run Tryz.prog w.drew= .ok (goInt (Nat.min (n+m - i) (n+m - (i+m)))) (w.drew.setRow g U1):=fun ty dc sc=>by
  have:=yV (w:=w.drew) 22 22 ty 86 3 g ((i+m)*3) (n+m - (i+m)) dc ⟨g,i*3,none⟩ (n+m - i) sc us 86 cs Tryz.underlying22 hsz hg
   (by rw [hcl];simp only [Nat.min_def];split<;>omega)
   (fun j v hj=>by
    rw [add_lit,qV (w:=w.drew) hg]
    rw [← hcs,List.getElem?_take] at hj
    split at hj
    ·rw [List.getElem?_drop] at hj;simpa using hj
    ·cases hj)
   (by omega) (fun v hv=>by
    obtain ⟨j,hj,rfl⟩:=List.getElem_of_mem hv
    refine hone (i*3+j) _ (by omega) ?_
    have:cs[j]? =some cs[j]:=List.getElem?_eq_getElem hj
    rw [← this,← hcs,List.getElem?_take,if_pos (by omega),List.getElem?_drop];simp)
  rw [this,← hU1];rfl
 have hg1: ∀ W:World,(∀ k,W.heap[k]? =(w.drew.setRow g U1).heap[k]?)→W.heap[g]? =some (.cells U1 86 (0,0)):=fun W hW=>by rw [hW];exact setRow_heap w.drew g us U1 86 (0,0) hg
 have hcp2: ∀ (W:World),(∀ k,W.heap[k]? =(w.drew.setRow g U1).heap[k]?)→ ∀ ty dc,(Builtin.copy_ #[22,22] ty #[.slice (some ⟨g,i*3,none⟩) (n+m - i) dc,.slice (some va) m vc]).run Tryz.prog W= .ok (goInt (Nat.min m (n+m - i))) (W.setRow g (patch U1.toList (i*3) vs).toArray):=fun W hW ty dc=>
  yV (w:=W) 22 22 ty 86 3 g (i*3) (n+m - i) dc va m vc U1 86 vs Tryz.underlying22 hsz (hg1 W hW) (by rw [hvl];simp only [Nat.min_def];split<;>omega)
   (fun j v hj=>by
    have:W.cell? (va.add j)=w.cell? (va.add j):=by
     have h3:W.heap[(va.add j).block]? =w.heap[(va.add j).block]? :=by rw [hW,setRow_other w.drew g _ U1 (by rw [z7];exact hvb)];rfl
     unfold World.cell?;rw [h3]
    rw [this];exact hvs j v hj)
   (by omega) h1v
 go_enter Tryz.func341,Tryz.ntmps341
 go_wp2_with (simp only [hov])
 go_region_law_o (refine jq rfl _ _ 22 22 rfl _ _ (by simp [Act.eval,Act.put]) (by simp [Act.eval,Act.put]) (hcp1 _ _ _) ?_)
 go_wp2_with (at_builtin;refine za8 rfl _ _ 22 22 rfl _ _ rfl rfl (hcp2 _ (fun _=>rfl) _ _) ?_)
 go_ret
 first | exact ⟨rfl,rfl⟩ | exact ⟨rfl,by rw [← hU1]⟩
set_option maxHeartbeats 4000000 in
set_option maxRecDepth 100000 in
theorem zmb (base va:Option Addr) (n c i vc:Nat) (hi:i≤n) (hnc:n≤c) (hc63:c≤9223372036854775807):
  Calls Tryz.prog 341 #[.slice base n c,.int .i64 i,.slice va 0 vc] w fun e w' =>e= .returned (.slice base n c)∧w' =w:=by
 have mixed:=mixed
 have h1:(i:Int)≤(n:Int):=by omega
 have h2:(n:Int)≤(c:Int):=by omega
 cases base with
 | none=>
  go_enter Tryz.func341,Tryz.ntmps341
  go_wp2
  all_goals (go_ret;exact ⟨rfl,rfl⟩)
 | some a=>
  obtain ⟨ab,ao,asp⟩:=a
  go_enter Tryz.func341,Tryz.ntmps341
  go_wp2
  all_goals (go_ret;exact ⟨rfl,rfl⟩)
set_option maxHeartbeats 4000000 in
set_option maxRecDepth 100000 in
theorem zo9 (base va:Option Addr) (n c m vc:Nat) (hm:0<m) (hnc:n≤c) (hc63:c≤9223372036854775807) {v' :Value} {w' :World} (hr: ∀ ty,(Builtin.append_ #[22,22] ty #[.slice base n c,.slice va m vc]).run Tryz.prog w= .ok v' w'):
  Calls Tryz.prog 341 #[.slice base n c,.int .i64 n,.slice va m vc] w fun e w'' =>e= .returned v' ∧w'' =w' :=by
 have mixed:=mixed
 have hz1: ¬ ((m:Int)=0):=by omega
 have h2:(n:Int)≤(c:Int):=by omega
 cases base with
 | none=>
  go_enter Tryz.func341,Tryz.ntmps341
  go_wp2_with (at_builtin;refine Lib.wpList_append_run _ rfl _ _ _ _ rfl _ _ rfl rfl _ _ (hr _) ?_)
  all_goals (go_ret;exact ⟨rfl,rfl⟩)
 | some a=>
  obtain ⟨ab,ao,asp⟩:=a
  go_enter Tryz.func341,Tryz.ntmps341
  go_wp2_with (at_builtin;refine Lib.wpList_append_run _ rfl _ _ _ _ rfl _ _ rfl rfl _ _ (hr _) ?_)
  all_goals (go_ret;exact ⟨rfl,rfl⟩)
set_option maxHeartbeats 4000000 in
set_option maxRecDepth 100000 in
theorem zmc (g n c i m vc:Nat) (va:Addr) (us:Array Value) (vs:List Value) (hi:i<n) (hm:0<m) (hnc:n≤c) (hroom:c<n+m) (hbig:(n+m)*32≤140737488355328) (hus:us.size=c*3) (hvl:vs.length=m*3)
  (hg:w.heap[g]? =some (.cells us 86 (0,0))) (hone: ∀ j v,j<n*3→us[j]? =some v→v.oneCell' =true) (hvs: ∀ j v,vs[j]? =some v→w.cell? (va.add j)=some v) (h1v: ∀ v∈vs,v.oneCell' =true)
  {z:Value} {q:TypeInfo} (hq:Tryz.prog.info? 86=some q) (hqs:q.size=3) (hqb:q.bytes=32) (hz:q.zero=some z) (hzs:z.cells.size=3):
  Calls Tryz.prog 341 #[.slice (some ⟨g,0,none⟩) n c,.int .i64 i,.slice (some va) m vc] w fun e w' =>
   ∃ (G:Nat) (U0:Array Value),e= .returned (.slice (some ⟨w.heap.size,0,none⟩) (n+m) G)∧n+m≤G∧G≤maxLen∧U0.size=G*3∧U0.toList.take (i*3)=us.toList.take (i*3)∧
    Below w.heap.size w w' ∧w'.heap.size=w.heap.size+1∧
    w'.heap[w.heap.size]? =some (.cells (patch (patch U0.toList (i*3) vs) ((i+m)*3) ((us.toList.drop (i*3)).take ((n - i)*3))).toArray 86 (0,0)):=by
 have hz1: ¬ ((m:Int)=0):=by omega
 have hz2: ¬ ((i:Int)=(n:Int)):=by omega
 have hz3:(c:Int)<(n:Int)+(m:Int):=by omega
 have mixed:=mixed
 have hul:us.toList.length=c*3:=by rw [Array.length_toList];exact hus
 have hsz:(Tryz.prog.info? 86).map (·.size)=some 3:=by rw [hq];simp [hqs]
 have hgw:g<w.heap.size:=(Array.getElem?_eq_some_iff.1 hg).1
 obtain ⟨va0,hva0⟩: ∃ v,vs[0]? =some v:=⟨_,List.getElem?_eq_getElem (by omega)⟩
 have hcell0:w.cell? va=some va0:=by have:=hvs 0 va0 hva0;rwa [qJ] at this
 have hvw:va.block<w.heap.size:=by
  unfold World.cell? at hcell0
  cases hh:w.heap[va.block]? with
  | none=>rw [hh] at hcell0;simp at hcell0
  | some o=>exact (Array.getElem?_eq_some_iff.1 hh).1
 have hkk:(n:Int)+(m:Int) - (i:Int)=((n+m - i:Nat):Int):=by omega
 have hik:i+(n+m - i)=n+m:=by omega
 obtain ⟨cs,hcs⟩: ∃ cs,(us.toList.drop (i*3)).take ((n - i)*3)=cs:=⟨_,rfl⟩
 have hcl:cs.length=(n - i)*3:=by rw [← hcs,List.length_take,List.length_drop];omega
 have hold:(Builtin.firstCells q.size i (.slice (some ⟨g,0,none⟩) i c)).run Tryz.prog w.drew= .ok (us.toList.take (i*3)).toArray w.drew:=by
  rw [hqs]
  exact run_firstCells_some w.drew 3 i ⟨g,0,none⟩ i c (us.toList.take (i*3)) (by rw [List.length_take];omega) (fun j v hj=>by
   rw [add_lit,qV (w:=w.drew) hg]
   rw [List.getElem?_take] at hj
   split at hj
   ·simpa using hj
   ·cases hj)
 obtain ⟨G,hG⟩: ∃ G,G=grownCap w (n+m) c 86:=⟨_,rfl⟩
 obtain ⟨U0,hU0⟩: ∃ U0:Array Value,U0=(us.toList.take (i*3)).toArray++Builtin.zeroCells z.cells (n+m - i)++Builtin.zeroCells z.cells (G - (n+m)):=⟨_,rfl⟩
 obtain ⟨W1,hW1⟩: ∃ W1,W1=w.drew.alloc (.cells U0 86):=⟨_,rfl⟩
 have hGn:n+m≤G:=by rw [hG];exact grownCap_ge w _ _ _
 have hGm:G≤maxLen:=by rw [hG];exact grownCap_le_maxLen w (n+m) c 86 (by unfold maxLen;omega)
 have hG63:G≤9223372036854775807:=hGm
 have hU0s:U0.size=G*3:=by
  rw [hU0]
  simp only [Array.size_append,List.size_toArray,List.length_take,size_zeroCells,hzs]
  omega
 have hU0t:U0.toList.take (i*3)=us.toList.take (i*3):=by
  rw [hU0,Array.toList_append,Array.toList_append,List.append_assoc,List.take_append_of_le_length (by rw [List.length_take];omega),List.take_take,Nat.min_self]
 have hrz: ∀ ty,(Builtin.append_ #[22,3] ty #[.slice (some ⟨g,0,none⟩) i c,.int .i64 ((n:Int)+(m:Int) - (i:Int))]).run Tryz.prog w= .ok (.slice (some ⟨w.heap.size,0,none⟩) (n+m) G) W1:=fun ty=>by
  have h:=Lib.run_append_grow_zeros w 22 3 ty 86 q z .i64 .i64 Tryz.underlying22 Tryz.underlying3 hq hz (some ⟨g,0,none⟩) i c (us.toList.take (i*3)) hold (n+m - i) (by omega) (by omega) (by omega) (by omega) (by rw [hqb];omega) (by rw [hqb,hik];exact growslice_fits hroom hbig)
  rw [hik] at h
  rw [hkk,hW1,hU0,hG]
  exact h
 have hW1h:W1.heap[w.heap.size]? =some (.cells U0 86 (0,0)):=by rw [hW1];exact heap_alloc_new w.drew _
 have hW1o: ∀ k,k<w.heap.size→W1.heap[k]? =w.heap[k]? :=fun k hk=>by rw [hW1];exact Below.heap_alloc w.drew _ k hk
 have hOld: ∀ (W:World),(∀ k,k<w.heap.size→W.heap[k]? =w.heap[k]?)→ ∀ a:Addr,a.block<w.heap.size→W.cell? a=w.cell? a:=fun W hW a ha=>by unfold World.cell?;rw [hW _ ha]
 obtain ⟨U1,hU1⟩: ∃ U1:Array Value,(patch U0.toList (i*3) vs).toArray=U1:=⟨_,rfl⟩
 have hU0l:U0.toList.length=G*3:=by rw [Array.length_toList];exact hU0s
 have hU1s:U1.size=G*3:=by rw [← hU1];simp only [patch,List.size_toArray,List.length_append,List.length_take,List.length_drop];omega
 have hcpA: ∀ (W:World),(∀ k,W.heap[k]? =W1.heap[k]?)→ ∀ ty dc,(Builtin.copy_ #[22,22] ty #[.slice (some ⟨w.heap.size,i*3,none⟩) (n+m - i) dc,.slice (some va) m vc]).run Tryz.prog W= .ok (goInt (Nat.min m (n+m - i))) (W.setRow w.heap.size U1):=fun W hW ty dc=>by
  rw [← hU1]
  exact yV (w:=W) 22 22 ty 86 3 w.heap.size (i*3) (n+m - i) dc va m vc U0 86 vs Tryz.underlying22 hsz (by rw [hW];exact hW1h) (by rw [hvl];simp only [Nat.min_def];split<;>omega)
   (fun j v hj=>by
    rw [hOld W (fun k hk=>by rw [hW];exact hW1o k hk) _ (by rw [z7];exact hvw)]
    exact hvs j v hj)
   (by omega) h1v
 have hcpB: ∀ (W:World),(∀ k,W.heap[k]? =(W1.setRow w.heap.size U1).heap[k]?)→ ∀ ty dc sc,(Builtin.copy_ #[22,22] ty #[.slice (some ⟨w.heap.size,(i+m)*3,none⟩) (n+m - (i+m)) dc,.slice (some ⟨g,i*3,none⟩) (n - i) sc]).run Tryz.prog W=
   .ok (goInt (Nat.min (n - i) (n+m - (i+m)))) (W.setRow w.heap.size (patch U1.toList ((i+m)*3) cs).toArray):=fun W hW ty dc sc=>
  yV (w:=W) 22 22 ty 86 3 w.heap.size ((i+m)*3) (n+m - (i+m)) dc ⟨g,i*3,none⟩ (n - i) sc U1 86 cs Tryz.underlying22 hsz (by rw [hW];exact setRow_heap W1 w.heap.size U0 U1 86 (0,0) hW1h) (by rw [hcl];simp only [Nat.min_def];split<;>omega)
   (fun j v hj=>by
    rw [hOld W (fun k hk=>by rw [hW,setRow_other W1 w.heap.size k U1 (by omega)];exact hW1o k hk) _ (by rw [z7];exact hgw)]
    rw [add_lit,qV hg]
    rw [← hcs,List.getElem?_take] at hj
    split at hj
    ·rw [List.getElem?_drop] at hj;simpa using hj
    ·cases hj)
   (by omega) (fun v hv=>by
    obtain ⟨j,hj,rfl⟩:=List.getElem_of_mem hv
    refine hone (i*3+j) _ (by omega) ?_
    have:cs[j]? =some cs[j]:=List.getElem?_eq_getElem hj
    rw [← this,← hcs,List.getElem?_take,if_pos (by omega),List.getElem?_drop];simp)
 have hGi: ¬ (G=i):=by omega
 have hGim: ¬ (G=i+m):=by omega
 have hci: ¬ (c=i):=by omega
 have hw1:IntKind.i64.wrap ((i:Int)+(m:Int))=(i:Int)+(m:Int):=by rw [IntKind.wrap_i64];omega
 have hb1:(0:Int)≤(i:Int)+(m:Int):=by omega
 have hin:i≤n:=by omega
 have htn:((i:Int)+(m:Int)).toNat=i+m:=by omega
 have hb3:(i:Int)≤(n:Int):=by omega
 have fin: ∀ (w' :World),(∀ k,w'.heap[k]? =((W1.setRow w.heap.size U1).setRow w.heap.size (patch U1.toList ((i+m)*3) cs).toArray).heap[k]?)→w'.os=w.os→w'.tape=w.tape→w'.output=w.output→w'.heap.size=w.heap.size+1→
   Below w.heap.size w w' ∧w'.heap.size=w.heap.size+1∧w'.heap[w.heap.size]? =some (.cells (patch (patch U0.toList (i*3) vs) ((i+m)*3) cs).toArray 86 (0,0)):=fun w' hh h1 h2 h3 h4=>by
  refine ⟨⟨h1,h2,h3,by omega,fun k hk=> ?_⟩,h4,?_⟩
  ·rw [hh,setRow_other _ _ k _ (by omega),setRow_other _ _ k _ (by omega)];exact hW1o k hk
  ·rw [hh,setRow_heap _ w.heap.size U1 _ 86 (0,0) (setRow_heap W1 w.heap.size U0 U1 86 (0,0) hW1h),← hU1]
 rw [hcs]
 subst hW1
 have hE1: ∀ k:Nat,((w.alloc (.cells U0 86)).drew).heap[k]? =(w.drew.alloc (.cells U0 86)).heap[k]? :=fun k=>rfl
 have hE2: ∀ k:Nat,(((w.alloc (.cells U0 86)).drew.setRow w.heap.size U1).drew).heap[k]? =((w.drew.alloc (.cells U0 86)).setRow w.heap.size U1).heap[k]? :=fun k=>rfl
 clear hkk hik hold hU0 hG
 go_enter Tryz.func341,Tryz.ntmps341
 go_wp2_with (first
  | (at_builtin;refine Lib.wpList_append_run _ rfl _ _ _ _ rfl _ _ rfl rfl _ _ (hrz _) ?_)
  | (at_builtin;refine za8 rfl _ _ 22 22 rfl _ _ rfl rfl (hcpA _ hE1 _ _) ?_))
 go_region_law_o (refine jq rfl _ _ 22 22 rfl (.slice (some ⟨w.heap.size,(i+m)*3,none⟩) (n+m - (i+m)) (G - (i+m))) (.slice (some ⟨g,i*3,none⟩) (n - i) (c - i)) (by simp [Act.eval,Act.put]) (by simp [Act.eval,Act.put]) (hcpB _ hE2 3 (G - (i+m)) (c - i)) ?_)
 go_wp2
 go_ret
 exact ⟨G,U0,rfl,hGn,hGm,hU0s,hU0t,fin _ (fun _=>rfl) rfl rfl rfl (by simp)⟩
theorem zdx {us cs vs:List Value} {i n m k:Nat} (hi:i≤n) (hc:cs.length=(n - i)*k) (hv:vs.length=m*k) (hu:(n+m)*k≤us.length):
  patch (patch us ((i+m)*k) cs) (i*k) vs=(us.take (i*k)++vs++cs)++us.drop ((n+m)*k):=by
 have e1:(i+m)*k+cs.length=(n+m)*k:=by rw [hc,← Nat.add_mul];congr 1;omega
 have e2:i*k+vs.length=(i+m)*k:=by rw [hv,← Nat.add_mul]
 have l1:(i+m)*k≤us.length:=by omega
 unfold patch
 have l3:(us.take ((i+m)*k)).length=(i+m)*k:=by rw [List.length_take];omega
 rw [e2,e1,List.append_assoc (us.take ((i+m)*k)),List.take_append_of_le_length (by omega),List.take_take,Nat.min_eq_left (by omega),List.drop_left' l3]
 simp only [List.append_assoc]
theorem zhd {us cs vs:List Value} {i n m k:Nat} (hi:i≤n) (hc:cs.length=(n - i)*k) (hv:vs.length=m*k) (hu:(n+m)*k≤us.length):
  patch (patch us (i*k) vs) ((i+m)*k) cs=(us.take (i*k)++vs++cs)++us.drop ((n+m)*k):=by
 have e1:(i+m)*k+cs.length=(n+m)*k:=by rw [hc,← Nat.add_mul];congr 1;omega
 have e2:i*k+vs.length=(i+m)*k:=by rw [hv,← Nat.add_mul]
 have l1:(i+m)*k≤us.length:=by omega
 have l2:(us.take (i*k)++vs).length=(i+m)*k:=by rw [List.length_append,List.length_take];omega
 unfold patch
 rw [e2,e1,List.take_left' l2]
 rw [show (n+m)*k=(i+m)*k+((n+m)*k - (i+m)*k) by omega,← List.drop_drop,List.drop_left' l2,List.drop_drop]
theorem yL {F:Nat→Prop} {t:Ty} {xs:List t.I} {us:List Value} (h:Holds w F t xs us) (i:Nat):Holds w F t (xs.take i) (us.take (i*t.width)):=fun j x hj=>by
 rw [List.getElem?_take] at hj
 split at hj
 ·rename_i hlt
  have:=h j x hj
  have hle:j*t.width+t.width≤i*t.width:=by rw [← Nat.succ_mul];exact Nat.mul_le_mul_right _ hlt
  rw [List.drop_take,List.take_take,Nat.min_eq_left (by omega)]
  exact this
 ·cases hj
theorem zap {F:Nat→Prop} {t:Ty} {xs:List t.I} {us:List Value} (h:Holds w F t xs us) (i n:Nat) (hn:xs.length≤n):Holds w F t (xs.drop i) ((us.drop (i*t.width)).take ((n - i)*t.width)):=fun j x hj=>by
 rw [List.getElem?_drop] at hj
 have hlt:=(List.getElem?_eq_some_iff.1 hj).1
 have:=h (i+j) x hj
 have hle:j*t.width+t.width≤(n - i)*t.width:=by rw [← Nat.succ_mul];exact Nat.mul_le_mul_right _ (by omega)
 rw [List.drop_take,List.take_take,Nat.min_eq_left (by omega),List.drop_drop,← Nat.add_mul]
 exact this
theorem zfd {F:Nat→Prop} {xs ys:List tLn.I} {us vs r:List Value} {i:Nat} (hi:i≤xs.length) (hx:Holds w F tLn xs us) (hul:xs.length*3≤us.length) (hy:Holds w F tLn ys vs) (hvl:vs.length=ys.length*3):
  Holds w F tLn (xs.take i++ys++xs.drop i) ((us.take (i*3)++vs++(us.drop (i*3)).take ((xs.length - i)*3))++r):=by
 have w3:tLn.width=3:=rfl
 have h1:=yL hx i
 have h2:=zap hx i xs.length (Nat.le_refl _)
 rw [w3] at h1 h2
 have l1:(us.take (i*3)).length=(xs.take i).length*tLn.width:=by rw [List.length_take,List.length_take,w3];omega
 have h3:=h1.append l1 hy
 have l3:(us.take (i*3)++vs).length=(xs.take i++ys).length*tLn.width:=by rw [List.length_append,List.length_append,l1,hvl,w3];omega
 have h4:=h3.append l3 h2
 refine h4.more ?_
 have l4:((us.drop (i*3)).take ((xs.length - i)*3)).length=(xs.length - i)*3:=by rw [List.length_take,List.length_drop];omega
 have l5:(xs.take i++ys++xs.drop i).length=(xs.take i++ys).length+(xs.length - i):=by rw [List.length_append,List.length_drop]
 rw [List.length_append,l3,l4,l5,w3,Nat.add_mul]
end
def E341t:List Ln→D:=fun x=> .own 86 tLn x
def zmd (N:Nat) (s:List Ln) (i:Int) (v:List Ln):Option (List Ln):=if 0≤i∧i≤s.length∧s.length+v.length≤1000000 then some (s.take i.toNat++v++s.drop i.toNat) else none
theorem zcc {w:World} {F:Nat→Prop} {vs:Array Value} {d1 d2:D} (hsz:vs.size=2) (h: ∀ (i:Nat) d',[d1,d2][i]? =some d' → ∃ v,vs[i]? =some v∧R1 w F noM v d'): ∃ a b,vs= #[a,b]∧R1 w F noM a d1∧R1 w F noM b d2:=by
 obtain ⟨l⟩:=vs
 match l,hsz with
 | [a,b],_=>
  obtain ⟨x,h1,h2⟩:=h 0 d1 rfl
  obtain ⟨y,h3,h4⟩:=h 1 d2 rfl
  have:a=x:=by simpa using h1
  subst this
  have:b=y:=by simpa using h3
  subst this
  exact ⟨a,b,rfl,h2,h4⟩
set_option maxRecDepth 100000 in
theorem P341t (N:Nat) (s:List Ln) (i:Int) (v:List Ln): ∀ r,zmd N s i v=some r→jT Tryz.prog 341 86 tLn s [.val tI i,.val (.list tLn) v] (E341t r):=fun r h=>by
 unfold zmd at h
 split at h
 ·rename_i hc
  obtain ⟨h0,h1,h2⟩:=hc
  cases h
  obtain ⟨i,rfl⟩: ∃ k:Nat,i=(k:Int):=⟨i.toNat,by omega⟩
  rw [Int.toNat_natCast]
  have hi:i≤s.length:=by omega
  refine ⟨zw (fn:=Tryz.f341) rfl rfl rfl,fun w v0 vs F G0 hF hgl hown hsz hargs=> ?_⟩
  obtain ⟨vi,vv,rfl,hi1,hv1⟩:=zcc hsz hargs
  have hvi:vi= .int .i64 i:=by have h:[vi]=[Value.int .i64 (i:Int)]:=hi1;simpa using h
  subst hvi
  obtain ⟨A,vc,news,hsrc⟩:=Src.of_data (w:=w) (F:=F) (t:=tLn) (xs:=v) (v:=vv) hv1
  have hform:=hsrc.form
  have hlen:news.length=v.length*3:=hsrc.len
  have hholds:=hsrc.holds
  obtain ⟨q,hq,hqs,hqb,z,hz,hzs⟩: ∃ q:TypeInfo,Tryz.prog.info? 86=some q∧q.size=3∧q.bytes=32∧ ∃ z,q.zero=some z∧z.cells.size=3:=⟨_,rfl,by kernel_rfl,by kernel_rfl,_,rfl,by kernel_rfl⟩
  have hGF: ∀ g,G0=some g→ ¬F g:=fun g hg=>by
   rcases hown with ⟨_,h3,_⟩ | ⟨g',_,_,h3,h4,_⟩
   ·rw [h3] at hg;cases hg
   ·rw [h3] at hg;cases hg;exact h4.2
  have hnc: ∃ base c,v0= .slice base s.length c∧s.length≤c∧c≤maxLen:=by
   rcases hown with ⟨h3,_,A0,h4⟩ | ⟨g,cap,us,h3,_,h5,_,h7,h8,_⟩
   ·exact ⟨A0,0,by rw [h4,h3];rfl,by rw [h3];exact Nat.le_refl _,Nat.zero_le _⟩
   ·exact ⟨_,cap,h5,h7,h8⟩
  obtain ⟨base,c,hv0,hnc1,hnc2⟩:=hnc
  have hc63:c≤9223372036854775807:=hnc2
  rcases Nat.eq_zero_or_pos v.length with hm0 | hm0
  ·
   have hv:v=[]:=List.eq_nil_of_length_eq_zero hm0
   subst hv
   rw [hform,hv0]
   refine (zmb base A s.length c i vc hi hnc1 hc63).mono ?_
   rintro en w' ⟨rfl,rfl⟩
   rw [hv0] at hown
   refine ⟨_,F,G0,rfl,⟨rfl,rfl,rfl,Nat.le_refl _,fun _ _ _=>rfl⟩,fun _ z=>z,fun g hg=>⟨hF g hg,.inl hg⟩,fun g hg=>⟨.inr hg,hGF g hg,?_⟩,?_⟩
   ·rcases hown with ⟨_,h3,_⟩ | ⟨g',_,_,h3,h4,_⟩
    ·rw [h3] at hg;cases hg
    ·rw [h3] at hg;cases hg;exact h4.1
   ·show OwnR w' F (fun _=>True) G0 _ _ tLn _
    rw [List.append_nil,List.take_append_drop]
    rcases hown with h3 | ⟨g',cap,us,h3,h4,h5⟩
    ·exact .inl h3
    ·exact .inr ⟨g',cap,us,h3,trivial,h5⟩
  ·obtain ⟨va,hA,hread⟩:=hsrc.at_ hm0
   subst hA
   have hones:=hholds.one hlen
   have hvs: ∀ (j:Nat) x,news[j]? =some x→w.cell? (va.add j)=some x:=fun j x hj=>(hread j x hj).1
   by_cases hin:i=s.length
   ·
    subst hin
    obtain ⟨v',w',G',hr,hgr,hown',hG'⟩:=zd0 (B:=fun _=>True) (ty:=22) (u:=tLn) Tryz.underlying22 hq hz hqs hzs (by omega) (G:=G0) (v:=v0) (xs:=s) (by
      rcases hown with h3 | ⟨g',cap,us,h3,h4,h5⟩
      ·exact .inl h3
      ·exact .inr ⟨g',cap,us,h3,trivial,h5⟩) hsrc (by omega) trivial hF hGF
    have hty: ∀ ty,(Builtin.append_ #[22,22] ty #[.slice base s.length c,.slice (some va) v.length vc]).run Tryz.prog w= .ok v' w' :=fun ty=>by
     rw [← hv0,← hform];exact hr
    rw [hform,hv0]
    refine (zo9 base (some va) s.length c v.length vc hm0 hnc1 hc63 hty).mono ?_
    rintro en w'' ⟨rfl,rfl⟩
    refine ⟨v',F,G',rfl,hgr,fun _ z=>z,fun g hg=>⟨Nat.lt_of_lt_of_le (hF g hg) hgr.size,.inl hg⟩,fun g hg=> ?_,?_⟩
    ·obtain ⟨k1,k2⟩:=hG' g hg
     refine ⟨k2.symm.imp id id,fun hFg=> ?_,k1⟩
     rcases k2 with k2 | k2
     ·exact hGF g k2 hFg
     ·have:=hF g hFg;omega
    ·show OwnR w'' F (fun _=>True) G' v' _ tLn _
     rw [List.take_length,List.drop_length,List.append_nil]
     exact hown'
   ·
    have hlt:i<s.length:=by omega
    rcases hown with ⟨h3,_⟩ | ⟨g,cap,us,hG0,hB,h5,h6,h7,h8,h9,h10⟩
    ·rw [h3] at hlt;simp at hlt
    ·rw [h5] at hv0
     injection hv0 with e1 e2 e3
     subst e1;subst e3
     have hus:us.size=cap*3:=h9
     have hul:us.toList.length=cap*3:=by rw [Array.length_toList];exact hus
     have hle3:s.length*3≤us.toList.length:=by omega
     have hone: ∀ j v,j<s.length*3→us[j]? =some v→v.oneCell' =true:=fun j v hj hv=>by
      have hx:Holds w F tLn s (us.toList.take (s.length*3)):=by have:=yL h10 s.length;rwa [List.take_length] at this
      have:=hx.one (by rw [List.length_take];show _=s.length*3;omega)
      exact this v (List.mem_of_getElem? (i:=j) (by rw [List.getElem?_take,if_pos hj];simpa using hv))
     have hvb:va.block≠g:=fun e=>by
      obtain ⟨A2,c2,k1,_,_,k4⟩:=hv1
      obtain ⟨a2,us2,k5,k6,_⟩:=k4 0 _ (List.getElem?_eq_getElem hm0)
      have k7:vv= .slice A2 v.length c2:=by simpa using k1
      rw [hform] at k7
      injection k7 with k8
      rw [k5] at k8
      injection k8 with k9
      rw [← k9,e] at k6
      exact hB.2 k6
     have hcl:((us.toList.drop (i*3)).take ((s.length - i)*3)).length=(s.length - i)*3:=by rw [List.length_take,List.length_drop];omega
     rw [hform,h5]
     by_cases hroom:s.length+v.length≤cap
     ·refine (zjQ g s.length cap i v.length vc va us news hlt hm0 hroom hc63 hvb hus hlen h6 hone hvs hones).mono ?_
      rintro en w' ⟨rfl,rfl⟩
      rw [zdx hi hcl hlen (by omega)]
      obtain ⟨U1,hU1⟩: ∃ U1:Array Value,(patch us.toList ((i+v.length)*3) ((us.toList.drop (i*3)).take ((s.length - i)*3))).toArray=U1:=⟨_,rfl⟩
      rw [hU1,setRow_setRow]
      obtain ⟨U2,hU2⟩: ∃ U2:List Value,(us.toList.take (i*3)++news++(us.toList.drop (i*3)).take ((s.length - i)*3))++us.toList.drop ((s.length+v.length)*3)=U2:=⟨_,rfl⟩
      have hU2l:U2.length=cap*3:=by rw [← hU2];simp only [List.length_append,List.length_take,List.length_drop];omega
      have hs:Same F w (w.drew.setRow g U2.toArray):=fun b hb=>by rw [setRow_other w.drew g b _ (fun e=>by subst e;exact hB.2 hb)];rfl
      rw [hU2]
      refine ⟨_,F,some g,rfl,?_,fun _ z=>z,fun k hk=>⟨by have:=hF k hk;simpa using this,.inl hk⟩,fun k hk=> ?_,.inr ⟨g,cap,U2.toArray,rfl,trivial,?_,setRow_heap w.drew g us _ _ (0,0) h6,?_,h8,by show U2.toArray.size=cap*3;simpa using hU2l,?_⟩⟩
      ·rw [hG0];exact ⟨rfl,rfl,rfl,by simp,fun k _ hk=>by rw [setRow_other w.drew g k _ (fun e=>hk (by rw [e]))];rfl⟩
      ·cases hk;exact ⟨.inr hG0,hB.2,by simpa using hB.1⟩
      ·congr 1;simp only [List.length_append,List.length_take,List.length_drop];omega
      ·simp only [List.length_append,List.length_take,List.length_drop];omega
      ·rw [← hU2]
       exact (zfd hi h10 hle3 hholds hlen).keep hs (fun _ z=>z)
     ·refine (zmc g s.length cap i v.length vc va us news hlt hm0 h7 (by omega) (by omega) hus hlen h6 hone hvs hones hq hqs hqb hz hzs).mono ?_
      rintro en w' ⟨G,U0,rfl,k1,k2,k3,k4,k5,k6,k7⟩
      have hU0l:U0.toList.length=G*3:=by rw [Array.length_toList];exact k3
      rw [zhd hi hcl hlen (by omega),k4] at k7
      have hs:Same F w w' :=fun b hb=>k5.block b (hF b hb)
      obtain ⟨U2,hU2⟩: ∃ U2:List Value,(us.toList.take (i*3)++news++(us.toList.drop (i*3)).take ((s.length - i)*3))++U0.toList.drop ((s.length+v.length)*3)=U2:=⟨_,rfl⟩
      have hU2l:U2.length=G*3:=by rw [← hU2];simp only [List.length_append,List.length_take,List.length_drop];omega
      rw [hU2] at k7
      refine ⟨_,F,some w.heap.size,rfl,⟨k5.os,k5.tape,k5.output,by omega,fun k hk _=>k5.block k hk⟩,fun _ z=>z,fun k hk=>⟨by have:=hF k hk;omega,.inl hk⟩,fun k hk=> ?_,.inr ⟨w.heap.size,G,U2.toArray,rfl,trivial,?_,k7,?_,k2,by show U2.toArray.size=G*3;simpa using hU2l,?_⟩⟩
      ·cases hk;exact ⟨.inl (Nat.le_refl _),fun hFg=>by have:=hF _ hFg;omega,by omega⟩
      ·congr 1;simp only [List.length_append,List.length_take,List.length_drop];omega
      ·simp only [List.length_append,List.length_take,List.length_drop];omega
      ·rw [← hU2]
       exact (zfd hi h10 hle3 hholds hlen).keep hs (fun _ z=>z)
 ·cases h
end
section
open Go.RowKit Go.Proofs Go.Lib
section
variable {P:Program} {w:World}
theorem zdy (t ty elem:TypeId) (z:Value) (g o n c:Nat) (us:Array Value) (T:TypeId) (hu:P.underlying t=some (.slice elem)) (hz:P.info? elem >>= (·.zero)=some z) (hg:w.heap[g]? =some (.cells us T (0,0))) (hn:0<n)
  (hfit:o+(Builtin.zeroCells z.cells n).size≤us.size) (h1: ∀ v∈(Builtin.zeroCells z.cells n).toList,v.oneCell' =true):
  (Builtin.clear_ #[t] ty #[.slice (some ⟨g,o,none⟩) n c]).run P w= .ok (.tuple #[]) (w.setRow g (patch us.toList o (Builtin.zeroCells z.cells n).toList).toArray):=by
 have hst:=run_storeCells_at P g o T (Builtin.zeroCells z.cells n).toList 0 us w hg (by simpa using hfit) h1
 obtain ⟨k,rfl⟩: ∃ k,n=k+1:=⟨n - 1,by omega⟩
 cases hq:P.info? elem with
 | none=>simp [hq] at hz
 | some i=>
  have hi:i.zero=some z:=by simpa [hq] using hz
  simp only [Nat.add_zero] at hst
  simp [Builtin.clear_,run_underlying hu,zeroValue,typeInfo,hq,hi,hst,patch]
theorem zpa {o:Oper} {a:Act} {K:Act→World→Prop} {Q:Exit→Act→World→Prop} (d s:Operand) (t t' :TypeId) (ho:o.op= .call { callee:= .builtin .append,args:= #[d,s],argTypes:= #[t,t'] }) (v u:Value) (hd:a.eval d=v) (hs:a.eval s=u)
  {v' :Value} {w' :World} (hr:(Builtin.append_ #[t,t'] o.type #[v,u]).run P w= .ok v' w') (h:K (a.put o.dst v') w'):o.wp P a w K Q:=by
 have:(execOp a.eval o).run P w= .ok (.value v') w' :=by
  unfold execOp
  rw [ho]
  simp only [resolve,invoke,builtin,Sem.run_bind,Sem.run_pure,Result.andThen_ok,List.map_toArray,List.map_cons,List.map_nil,hd,hs,hr]
 unfold Oper.wp
 rw [this]
 exact h
theorem zfe {ops:Array Oper} {o:Oper} {a:Act} {K:Act→World→Prop} {Q:Exit→Act→World→Prop} {E:Prop} (hg:o.guard=none) (d s:Operand) (t t' :TypeId) (ho:o.op= .call { callee:= .builtin .append,args:= #[d,s],argTypes:= #[t,t'] })
  (v u:Value) (hd:a.eval d=v) (hs:a.eval s=u) {v' :Value} {w' :World} (hr:(Builtin.append_ #[t,t'] o.type #[v,u]).run P w= .ok v' w') (h:K (a.put o.dst v') w'):
  if Region.wanted o (yielded ops a.tmps)=true then o.wp P a w K Q else E:=by
 have hw:Region.wanted o (yielded ops a.tmps)=true:=by simp [Region.wanted,hg]
 rw [if_pos hw]
 exact zpa d s t t' ho v u hd hs hr h
theorem zjR {o:Oper} {a:Act} {K:Act→World→Prop} {Q:Exit→Act→World→Prop} (d:Operand) (t:TypeId) (ho:o.op= .call { callee:= .builtin .clear,args:= #[d],argTypes:= #[t] }) (v:Value) (hd:a.eval d=v)
  {v' :Value} {w' :World} (hr:(Builtin.clear_ #[t] o.type #[v]).run P w= .ok v' w') (h:K (a.put o.dst v') w'):o.wp P a w K Q:=by
 have:(execOp a.eval o).run P w= .ok (.value v') w' :=by
  unfold execOp
  rw [ho]
  simp only [resolve,invoke,builtin,Sem.run_bind,Sem.run_pure,Result.andThen_ok,List.map_toArray,List.map_cons,List.map_nil,hd,hr]
 unfold Oper.wp
 rw [this]
 exact h
theorem zdz {ops:Array Oper} {rest:List Oper} {o:Oper} {a:Act} {Q:Exit→Act→World→Prop} (hgd:o.guard=none) (d:Operand) (t:TypeId) (ho:o.op= .call { callee:= .builtin .clear,args:= #[d],argTypes:= #[t] })
  (v:Value) (hd:a.eval d=v) {v' :Value} {w' :World} (hr:(Builtin.clear_ #[t] o.type #[v]).run P w= .ok v' w') (h:wpList P ops Q rest (a.put o.dst v') w'):wpList P ops Q (o::rest) a w:=
 wpList_plain hgd fun _ hK=>zjR d t ho v hd hr (hK _ _ h)
set_option maxHeartbeats 4000000 in
set_option maxRecDepth 100000 in
theorem zme (base:Option Addr) (n c i:Nat) (hi:i≤n) (hnc:n≤c) (hc63:c≤9223372036854775807):
  Calls Tryz.prog 235 #[.slice base n c,.int .i64 i,.int .i64 i] w fun e w' =>e= .returned (.slice base n c)∧w' =w:=by
 have mixed:=mixed
 have h1:(i:Int)≤(n:Int):=by omega
 have h2:(n:Int)≤(c:Int):=by omega
 cases base with
 | none=>
  go_enter Tryz.func235,Tryz.ntmps235
  go_wp2
  all_goals (go_ret;exact ⟨rfl,rfl⟩)
 | some a=>
  obtain ⟨ab,ao,asp⟩:=a
  go_enter Tryz.func235,Tryz.ntmps235
  go_wp2
  all_goals (go_ret;exact ⟨rfl,rfl⟩)
set_option maxHeartbeats 4000000 in
set_option maxRecDepth 100000 in
theorem zmf (g n c i j:Nat) (us:Array Value) (hij:i<j) (hj:j≤n) (hnc:n≤c) (hc63:c≤9223372036854775807) (hus:us.size=c*3)
  (hg:w.heap[g]? =some (.cells us 86 (0,0))) (hone: ∀ k v,k<n*3→us[k]? =some v→v.oneCell' =true)
  {z:Value} {q:TypeInfo} (hq:Tryz.prog.info? 86=some q) (hqs:q.size=3) (hz:q.zero=some z) (hzs:z.cells.size=3) (hz1: ∀ v∈(Builtin.zeroCells z.cells (j - i)).toList,v.oneCell' =true):
  Calls Tryz.prog 235 #[.slice (some ⟨g,0,none⟩) n c,.int .i64 i,.int .i64 j] w fun e w' =>
   e= .returned (.slice (some ⟨g,0,none⟩) (i+(n - j)) c)∧w' =(w.drew.setRow g (patch us.toList (i*3) ((us.toList.drop (j*3)).take ((n - j)*3))).toArray).setRow g
    (patch (patch us.toList (i*3) ((us.toList.drop (j*3)).take ((n - j)*3))) ((i+(n - j))*3) (Builtin.zeroCells z.cells (j - i)).toList).toArray:=by
 have mixed:=mixed
 have hul:us.toList.length=c*3:=by rw [Array.length_toList];exact hus
 have hne: ¬ ((i:Int)=(j:Int)):=by omega
 have b1:(i:Int)≤(j:Int):=by omega
 have b2:(j:Int)≤(n:Int):=by omega
 have b3:(n:Int)≤(c:Int):=by omega
 have b4:(i:Int)≤(c:Int):=by omega
 have b5:(i:Int)≤(n:Int):=by omega
 have b6:i≤c:=by omega
 have b7:j≤c:=by omega
 obtain ⟨cs,hcs⟩: ∃ cs,(us.toList.drop (j*3)).take ((n - j)*3)=cs:=⟨_,rfl⟩
 have hcl:cs.length=(n - j)*3:=by rw [← hcs,List.length_take,List.length_drop];omega
 obtain ⟨U1,hU1⟩: ∃ U1:Array Value,(patch us.toList (i*3) cs).toArray=U1:=⟨_,rfl⟩
 have hU1s:U1.size=c*3:=by rw [← hU1];simp only [patch,List.size_toArray,List.length_append,List.length_take,List.length_drop];omega
 rw [hcs,hU1]
 obtain ⟨A,hA,hsrc⟩: ∃ A:Addr,(if c=j then some (⟨g,0,none⟩:Addr) else some ⟨g,j*3,none⟩)=some A∧(∀ t u,cs[t]? =some u→w.drew.cell? (A.add t)=some u):=by
  by_cases h:c=j
  ·refine ⟨⟨g,0,none⟩,by simp [h],fun t u hu=> ?_⟩
   have h0:cs.length=0:=by rw [hcl];omega
   rw [List.length_eq_zero_iff.1 h0] at hu
   simp at hu
  ·refine ⟨⟨g,j*3,none⟩,by simp [h],fun t u hu=> ?_⟩
   rw [add_lit,qV (w:=w.drew) hg]
   rw [← hcs,List.getElem?_take] at hu
   split at hu
   ·rw [List.getElem?_drop] at hu;simpa using hu
   ·cases hu
 have hones: ∀ v∈cs,v.oneCell' =true:=fun v hv=>by
  obtain ⟨k,hk,rfl⟩:=List.getElem_of_mem hv
  refine hone (j*3+k) _ (by omega) ?_
  have:cs[k]? =some cs[k]:=List.getElem?_eq_getElem hk
  rw [← this,← hcs,List.getElem?_take,if_pos (by omega),List.getElem?_drop];simp
 have hap: ∀ ty,(Builtin.append_ #[22,22] ty #[.slice (some ⟨g,0,none⟩) i c,.slice (some A) (n - j) (c - j)]).run Tryz.prog w.drew= .ok (.slice (some ⟨g,0,none⟩) (i+(n - j)) c) (w.drew.setRow g U1):=fun ty=>by
  have h:=run_append_room (P:=Tryz.prog) w.drew 22 ty 86 q Tryz.underlying22 hq g i c us hg A (n - j) (c - j) cs (by rw [hqs];exact hcl) hsrc hones (by omega) (by rw [hqs];omega)
  rw [hqs] at h
  rw [← hU1]
  exact h
 have hg1: ∀ W:World,(∀ k:Nat,W.heap[k]? =(w.drew.setRow g U1).heap[k]?)→W.heap[g]? =some (.cells U1 86 (0,0)):=fun W hW=>by rw [hW];exact setRow_heap w.drew g us U1 86 (0,0) hg
 have hzl:(Builtin.zeroCells z.cells (j - i)).size=(j - i)*3:=by rw [size_zeroCells,hzs]
 have hcr: ∀ (W:World),(∀ k:Nat,W.heap[k]? =(w.drew.setRow g U1).heap[k]?)→ ∀ ty,(Builtin.clear_ #[22] ty #[.slice (some ⟨g,(i+(n - j))*3,none⟩) (n - (i+(n - j))) (c - (i+(n - j)))]).run Tryz.prog W=
   .ok (.tuple #[]) (W.setRow g (patch U1.toList ((i+(n - j))*3) (Builtin.zeroCells z.cells (j - i)).toList).toArray):=fun W hW ty=>by
  have e:n - (i+(n - j))=j - i:=by omega
  rw [e]
  exact zdy (w:=W) 22 ty 86 z g ((i+(n - j))*3) (j - i) (c - (i+(n - j))) U1 86 Tryz.underlying22 (by rw [hq];exact hz) (hg1 W hW) (by omega) (by rw [hzl];omega) hz1
 have b8:(i:Int)+(n - j:Nat)≤(n:Int):=by omega
 have b9: ¬ (c=i+(n - j)):=by omega
 clear hzl hz1 hzs hz
 generalize (Builtin.zeroCells z.cells (j - i)).toList=zs at hcr ⊢
 clear z
 go_enter Tryz.func235,Tryz.ntmps235
 go_wp2
 go_region_law_o (refine zfe rfl _ _ 22 22 rfl (.slice (some ⟨g,0,none⟩) i c) (.slice (some A) (n - j) (c - j)) (by simp [Act.eval,Act.put]) (by rw [← hA];simp [Act.eval,Act.put]) (hap _) ?_)
 go_wp2_with (at_builtin;refine zdz rfl _ 22 rfl _ rfl (hcr _ (fun _=>rfl) _) ?_)
 go_ret
 first | exact ⟨rfl,rfl⟩ | exact ⟨rfl,by rw [← hU1]⟩
theorem zcd {zs:Array Value} (h: ∀ v∈zs,v.oneCell' =true) (n:Nat): ∀ v∈(Builtin.zeroCells zs n).toList,v.oneCell' =true:=fun v hv=>by
 rw [Array.mem_toList_iff] at hv
 unfold Builtin.zeroCells at hv
 obtain ⟨i,hi,rfl⟩:=Array.mem_map.1 hv
 rw [Array.mem_range] at hi
 have hp:0<zs.size:=by
  rcases Nat.eq_zero_or_pos zs.size with h0 | h0
  ·rw [h0] at hi;simp at hi
  ·exact h0
 have hlt:i % zs.size<zs.size:=Nat.mod_lt _ hp
 rw [getElem!_pos zs _ hlt]
 exact h _ (Array.getElem_mem hlt)
theorem zff {us cs zs:List Value} {a b:Nat} (ha:a≤us.length) (hb:b=a+cs.length): ∃ r,patch (patch us a cs) b zs=(us.take a++cs)++r:=by
 subst hb
 refine ⟨zs++(us.take a++cs++us.drop (a+cs.length)).drop (a+cs.length+zs.length),?_⟩
 have l:(us.take a++cs).length=a+cs.length:=by rw [List.length_append,List.length_take];omega
 have h:(us.take a++cs++us.drop (a+cs.length)).take (a+cs.length)=us.take a++cs:=List.take_left' l
 unfold patch
 rw [h,List.append_assoc (us.take a++cs) zs]
theorem qW {us cs:List Value} {a:Nat} (h:a+cs.length≤us.length):(patch us a cs).length=us.length:=by
 unfold patch;simp only [List.length_append,List.length_take,List.length_drop];omega
theorem zjS {F:Nat→Prop} {xs:List tLn.I} {us r:List Value} {i j:Nat} (hi:i≤j) (hj:j≤xs.length) (hx:Holds w F tLn xs us) (hul:xs.length*3≤us.length):
  Holds w F tLn (xs.take i++xs.drop j) ((us.take (i*3)++(us.drop (j*3)).take ((xs.length - j)*3))++r):=by
 have w3:tLn.width=3:=rfl
 have h1:=yL hx i
 have h2:=zap hx j xs.length (Nat.le_refl _)
 rw [w3] at h1 h2
 have l1:(us.take (i*3)).length=(xs.take i).length*tLn.width:=by rw [List.length_take,List.length_take,w3];omega
 have h3:=h1.append l1 h2
 refine h3.more ?_
 have l4:((us.drop (j*3)).take ((xs.length - j)*3)).length=(xs.length - j)*3:=by rw [List.length_take,List.length_drop];omega
 rw [List.length_append,l1,l4,List.length_append,List.length_take,List.length_drop,w3]
 omega
end
def E235t:List Ln→D:=fun x=> .own 86 tLn x
def zmg (N:Nat) (s:List Ln) (i j:Int):Option (List Ln):=if 0≤i∧i≤j∧j≤s.length then some (s.take i.toNat++s.drop j.toNat) else none
set_option maxRecDepth 100000 in
theorem P235t (N:Nat) (s:List Ln) (i j:Int): ∀ r,zmg N s i j=some r→jT Tryz.prog 235 86 tLn s [.val tI i,.val tI j] (E235t r):=fun r h=>by
 unfold zmg at h
 split at h
 ·rename_i hc
  obtain ⟨h0,h1,h2⟩:=hc
  cases h
  obtain ⟨i,rfl⟩: ∃ k:Nat,i=(k:Int):=⟨i.toNat,by omega⟩
  obtain ⟨j,rfl⟩: ∃ k:Nat,j=(k:Int):=⟨j.toNat,by omega⟩
  rw [Int.toNat_natCast,Int.toNat_natCast]
  have hij:i≤j:=by omega
  have hj:j≤s.length:=by omega
  refine ⟨zw (fn:=Tryz.f235) rfl rfl rfl,fun w v0 vs F G0 hF hgl hown hsz hargs=> ?_⟩
  obtain ⟨vi,vj,rfl,hi1,hj1⟩:=zcc hsz hargs
  have hvi:vi= .int .i64 i:=by have h:[vi]=[Value.int .i64 (i:Int)]:=hi1;simpa using h
  have hvj:vj= .int .i64 j:=by have h:[vj]=[Value.int .i64 (j:Int)]:=hj1;simpa using h
  subst hvi
  subst hvj
  have hGF: ∀ g,G0=some g→ ¬F g:=fun g hg=>by
   rcases hown with ⟨_,h3,_⟩ | ⟨g',_,_,h3,h4,_⟩
   ·rw [h3] at hg;cases hg
   ·rw [h3] at hg;cases hg;exact h4.2
  have hnc: ∃ base c,v0= .slice base s.length c∧s.length≤c∧c≤maxLen:=by
   rcases hown with ⟨h3,_,A0,h4⟩ | ⟨g,cap,us,h3,_,h5,_,h7,h8,_⟩
   ·exact ⟨A0,0,by rw [h4,h3];rfl,by rw [h3];exact Nat.le_refl _,Nat.zero_le _⟩
   ·exact ⟨_,cap,h5,h7,h8⟩
  obtain ⟨base,c,hv0,hnc1,hnc2⟩:=hnc
  have hc63:c≤9223372036854775807:=hnc2
  rcases Nat.lt_or_eq_of_le hij with hlt | rfl
  ·rcases hown with ⟨h3,_⟩ | ⟨g,cap,us,hG0,hB,h5,h6,h7,h8,h9,h10⟩
   ·rw [h3] at hj;simp at hj;omega
   ·rw [h5] at hv0
    injection hv0 with e1 e2 e3
    subst e1;subst e3
    obtain ⟨q,hq,hqs,z,hz,hzs,hz1⟩: ∃ q:TypeInfo,Tryz.prog.info? 86=some q∧q.size=3∧ ∃ z,q.zero=some z∧z.cells.size=3∧ ∀ v∈z.cells,v.oneCell' =true:=
     ⟨_,rfl,by kernel_rfl,_,rfl,by kernel_rfl,fun v hv=>by
      have:v∈[Value.int .i64 0,.string ⟨#[]⟩,.int .i64 0]:=Array.mem_toList_iff.2 hv
      simp only [List.mem_cons,List.not_mem_nil,or_false] at this
      rcases this with rfl | rfl | rfl<;>rfl⟩
    have hus:us.size=cap*3:=h9
    have hul:us.toList.length=cap*3:=by rw [Array.length_toList];exact hus
    have hle3:s.length*3≤us.toList.length:=by omega
    have hone: ∀ k v,k<s.length*3→us[k]? =some v→v.oneCell' =true:=fun k v hk hv=>by
     have hx:Holds w F tLn s (us.toList.take (s.length*3)):=by have:=yL h10 s.length;rwa [List.take_length] at this
     have:=hx.one (by rw [List.length_take];show _=s.length*3;omega)
     exact this v (List.mem_of_getElem? (i:=k) (by rw [List.getElem?_take,if_pos hk];simpa using hv))
    have hzo: ∀ v∈(Builtin.zeroCells z.cells (j - i)).toList,v.oneCell' =true:=zcd hz1 _
    have hzl:(Builtin.zeroCells z.cells (j - i)).toList.length=(j - i)*3:=by rw [Array.length_toList,size_zeroCells,hzs]
    rw [h5]
    refine (zmf g s.length cap i j us hlt hj h7 hc63 hus h6 hone hq hqs hz hzs hzo).mono ?_
    rintro en w' ⟨rfl,rfl⟩
    obtain ⟨cs,hcs⟩: ∃ cs,(us.toList.drop (j*3)).take ((s.length - j)*3)=cs:=⟨_,rfl⟩
    have hcl:cs.length=(s.length - j)*3:=by rw [← hcs,List.length_take,List.length_drop];omega
    obtain ⟨zs,hzs⟩: ∃ zs,(Builtin.zeroCells z.cells (j - i)).toList=zs:=⟨_,rfl⟩
    rw [hzs] at hzl
    rw [hcs,hzs]
    have hl1:=qW (us:=us.toList) (cs:=cs) (a:=i*3) (by omega)
    have hl2:=qW (us:=patch us.toList (i*3) cs) (cs:=zs) (a:=(i+(s.length - j))*3) (by omega)
    obtain ⟨r,hr⟩:=zff (us:=us.toList) (cs:=cs) (zs:=zs) (a:=i*3) (b:=(i+(s.length - j))*3) (by omega) (by omega)
    obtain ⟨U2,hU2⟩: ∃ U2,patch (patch us.toList (i*3) cs) ((i+(s.length - j))*3) zs=U2:=⟨_,rfl⟩
    rw [hU2] at hl2 hr ⊢
    have hU2l:U2.length=cap*3:=by omega
    obtain ⟨U1,hU1⟩: ∃ U1:Array Value,(patch us.toList (i*3) cs).toArray=U1:=⟨_,rfl⟩
    rw [hU1,setRow_setRow]
    have hs:Same F w (w.drew.setRow g U2.toArray):=fun b hb=>by rw [setRow_other w.drew g b _ (fun e=>by subst e;exact hB.2 hb)];rfl
    refine ⟨_,F,some g,rfl,?_,fun _ z=>z,fun k hk=>⟨by have:=hF k hk;simpa using this,.inl hk⟩,fun k hk=> ?_,.inr ⟨g,cap,U2.toArray,rfl,trivial,?_,setRow_heap w.drew g us _ _ (0,0) h6,?_,h8,by show U2.toArray.size=cap*3;simpa using hU2l,?_⟩⟩
    ·rw [hG0];exact ⟨rfl,rfl,rfl,by simp,fun k _ hk=>by rw [setRow_other w.drew g k _ (fun e=>hk (by rw [e]))];rfl⟩
    ·cases hk;exact ⟨.inr hG0,hB.2,by simpa using hB.1⟩
    ·congr 1;simp only [List.length_append,List.length_take,List.length_drop];omega
    ·simp only [List.length_append,List.length_take,List.length_drop];omega
    ·have h9:=(zjS (w:=w) (r:=r) (us:=us.toList) (by omega) hj h10 hle3).keep hs (fun _ z=>z)
     rw [hcs,← hr] at h9
     exact h9
  ·
   rw [hv0]
   refine (zme base s.length c i hj hnc1 hc63).mono ?_
   rintro en w' ⟨rfl,rfl⟩
   rw [hv0] at hown
   refine ⟨_,F,G0,rfl,⟨rfl,rfl,rfl,Nat.le_refl _,fun _ _ _=>rfl⟩,fun _ z=>z,fun g hg=>⟨hF g hg,.inl hg⟩,fun g hg=>⟨.inr hg,hGF g hg,?_⟩,?_⟩
   ·rcases hown with ⟨_,h3,_⟩ | ⟨g',_,_,h3,h4,_⟩
    ·rw [h3] at hg;cases hg
    ·rw [h3] at hg;cases hg;exact h4.1
   ·show OwnR w' F (fun _=>True) G0 _ _ tLn _
    rw [List.take_append_drop]
    rcases hown with h3 | ⟨g',cap,us,h3,h4,h5⟩
    ·exact .inl h3
    ·exact .inr ⟨g',cap,us,h3,trivial,h5⟩
 ·cases h
end
section
open Go.RowKit
def zrg:(Bool×(List Int))→D:=fun _=> .bad
noncomputable def V111g (N:Nat) (a0:(Bool×(List Int))) (a1:Bs):Vt (Bool×(List Int)) (Option D×Option (gTy [.slf,.row 5 (.int .u8)]).I) (fun q=>(some (zrg q),some (q:(gTy [.slf,.row 5 (.int .u8)]).I))):=
 .cr (P188g N (true,a0.2)) (fun x1=> .ck (room (x1.2.length+a1.length)) (.leaf (true,(x1.2++bts a1))))
noncomputable def zmh (N:Nat) (a0:(Bool×(List Int))) (a1:Bs):Option (Bool×(List Int)):=(V111g N a0 a1).eval
def t111g:List (Nat×List Nat×List (Nat×Sh)):=[]
theorem P111g (N:Nat) (a0:(Bool×(List Int))) (a1:Bs): ∀ r,zmh N a0 a1=some r→q8 Tryz.prog 111 197 [.slf,.row 5 (.int .u8)] a0 [.val tS a1] r (zrg r):=fun r h=>zjo (fn:=Tryz.f111) rfl rfl rfl rfl (.inl rfl) (zb (tbl:=t111g) (μ:=[4000188]) mixed _ _ _ (by
 have h1:=Vt.sound _ h
 refine Eq.mp ?_ h1
 kernel_rfl))
end
section
open Go.RowKit Go.Proofs
def E111b:Bool×List Int→D:=fun _=> .bad
noncomputable def zmi (N:Nat) (x:Bool×List Int) (c:Bs):Option (Bool×List Int):=(zmh N x c).bind fun y=>if y.2=[] then none else some y
theorem P111b (N:Nat) (x:Bool×List Int) (c:Bs): ∀ r,zmi N x c=some r→q8 Tryz.prog 111 197 [.slf,.buf 5] x [.val tS c] r (E111b r):=fun r h=>by
 unfold zmi at h
 cases h1:zmh N x c with
 | none=>rw [h1] at h;cases h
 | some y=>
  rw [h1] at h
  have h' :(if y.2=[] then none else some y)=some r:=h
  by_cases h2:y.2=[]
  ·rw [if_pos h2] at h';cases h'
  ·rw [if_neg h2] at h'
   have e:y=r:=by simpa using h'
   subst e
   exact zjP (P111g N x c y h1) h2
end
section
open Go.RowKit
def decLn:DecidableEq Ln:=by unfold Ln;infer_instance
instance iRev:DecidableEq (Int×List Ln):= @instDecidableEqProd _ _ inferInstance (@instDecidableEqList _ decLn)
instance iTab:DecidableEq (Bs×(Int×(List (Bs×(Int×(Bs×Bs)))))):= @instDecidableEqProd _ _ inferInstance (@instDecidableEqProd _ _ inferInstance (@instDecidableEqList _ (@instDecidableEqProd _ _ inferInstance inferInstance)))
def E69o:(List (Bs×(Int×(Bs×Bs))))→D:=fun x=> .own 79 (.pair tS (.pair tI (.pair tS tS))) x
noncomputable def V69o (N:Nat) (a0:(List (Bs×(Int×(Bs×Bs))))):Vt (List (Bs×(Int×(Bs×Bs)))) (Option D) (fun q=>some (E69o q)):=
 .nq (a0=[]) (.leaf ([]:(List (Bs×(Int×(Bs×Bs)))))) (.ck (room (([]:(List (Bs×(Int×(Bs×Bs))))).length+a0.length)) (.leaf (([]:(List (Bs×(Int×(Bs×Bs)))))++a0)))
noncomputable def F69o (N:Nat) (a0:(List (Bs×(Int×(Bs×Bs))))):Option (List (Bs×(Int×(Bs×Bs)))):=(V69o N a0).eval
def t69o:List (Nat×List Nat×List (Nat×Sh)):=[]
theorem P69o (N:Nat) (a0:(List (Bs×(Int×(Bs×Bs))))): ∀ r,F69o N a0=some r→Spec Tryz.prog 69 [.val (.list (.pair tS (.pair tI (.pair tS tS)))) a0] (E69o r):=fun r h=>zk (fn:=Tryz.f69) rfl rfl rfl rfl true (zb (tbl:=t69o) (μ:=[]) mixed _ _ _ (by
 have h1:=Vt.sound _ h
 refine Eq.mp ?_ h1
 kernel_rfl))
def zrh:(List Bs)→D:=fun x=> .own 9 tS x
noncomputable def zri (N:Nat) (a0:(List Bs)):Vt (List Bs) (Option D) (fun q=>some (zrh q)):=
 .nq (a0=[]) (.leaf ([]:(List Bs))) (.ck (room (([]:(List Bs)).length+a0.length)) (.leaf (([]:(List Bs))++a0)))
noncomputable def zpb (N:Nat) (a0:(List Bs)):Option (List Bs):=(zri N a0).eval
def t129o:List (Nat×List Nat×List (Nat×Sh)):=[]
theorem zmj (N:Nat) (a0:(List Bs)): ∀ r,zpb N a0=some r→Spec Tryz.prog 129 [.val (.list tS) a0] (zrh r):=fun r h=>zk (fn:=Tryz.f129) rfl rfl rfl rfl true (zb (tbl:=t129o) (μ:=[]) mixed _ _ _ (by
 have h1:=Vt.sound _ h
 refine Eq.mp ?_ h1
 kernel_rfl))
def zrj:(List (Int×(List Ln)))→D:=fun x=> .own 62 (.pair tI (.list tLn)) x
noncomputable def V222o (N:Nat) (a0:(List (Int×(List Ln)))):Vt (List (Int×(List Ln))) (Option D) (fun q=>some (zrj q)):=
 .nq (a0=[]) (.leaf ([]:(List (Int×(List Ln))))) (.ck (room (([]:(List (Int×(List Ln)))).length+a0.length)) (.leaf (([]:(List (Int×(List Ln))))++a0)))
noncomputable def F222o (N:Nat) (a0:(List (Int×(List Ln)))):Option (List (Int×(List Ln))):=(V222o N a0).eval
def t222o:List (Nat×List Nat×List (Nat×Sh)):=[]
theorem P222o (N:Nat) (a0:(List (Int×(List Ln)))): ∀ r,F222o N a0=some r→Spec Tryz.prog 222 [.val (.list (.pair tI (.list tLn))) a0] (zrj r):=fun r h=>zk (fn:=Tryz.f222) rfl rfl rfl rfl true (zb (tbl:=t222o) (μ:=[]) mixed _ _ _ (by
 have h1:=Vt.sound _ h
 refine Eq.mp ?_ h1
 kernel_rfl))
def zrk:(List Ln)→D:=fun x=> .own 86 tLn x
noncomputable def V236o (N:Nat) (a0:(List Ln)):Vt (List Ln) (Option D) (fun q=>some (zrk q)):=
 .nq (a0=[]) (.leaf ([]:(List Ln))) (.ck (room (([]:(List Ln)).length+a0.length)) (.leaf (([]:(List Ln))++a0)))
noncomputable def F236o (N:Nat) (a0:(List Ln)):Option (List Ln):=(V236o N a0).eval
def t236o:List (Nat×List Nat×List (Nat×Sh)):=[]
theorem P236o (N:Nat) (a0:(List Ln)): ∀ r,F236o N a0=some r→Spec Tryz.prog 236 [.val (.list tLn) a0] (zrk r):=fun r h=>zk (fn:=Tryz.f236) rfl rfl rfl rfl true (zb (tbl:=t236o) (μ:=[]) mixed _ _ _ (by
 have h1:=Vt.sound _ h
 refine Eq.mp ?_ h1
 kernel_rfl))
def zrl:(List (Int×Bs))→D:=fun x=> .own 244 (.pair tI tS) x
noncomputable def V252o (N:Nat) (a0:(List (Int×Bs))):Vt (List (Int×Bs)) (Option D) (fun q=>some (zrl q)):=
 .nq (a0=[]) (.leaf ([]:(List (Int×Bs)))) (.ck (room (([]:(List (Int×Bs))).length+a0.length)) (.leaf (([]:(List (Int×Bs)))++a0)))
noncomputable def F252o (N:Nat) (a0:(List (Int×Bs))):Option (List (Int×Bs)):=(V252o N a0).eval
def t252o:List (Nat×List Nat×List (Nat×Sh)):=[]
theorem P252o (N:Nat) (a0:(List (Int×Bs))): ∀ r,F252o N a0=some r→Spec Tryz.prog 252 [.val (.list (.pair tI tS)) a0] (zrl r):=fun r h=>zk (fn:=Tryz.f252) rfl rfl rfl rfl true (zb (tbl:=t252o) (μ:=[]) mixed _ _ _ (by
 have h1:=Vt.sound _ h
 refine Eq.mp ?_ h1
 kernel_rfl))
def zrm:(List (Int×Bs))→D:=fun x=> .own 164 (.pair tI tS) x
noncomputable def V259o (N:Nat) (a0:(List (Int×Bs))):Vt (List (Int×Bs)) (Option D) (fun q=>some (zrm q)):=
 .nq (a0=[]) (.leaf ([]:(List (Int×Bs)))) (.ck (room (([]:(List (Int×Bs))).length+a0.length)) (.leaf (([]:(List (Int×Bs)))++a0)))
noncomputable def F259o (N:Nat) (a0:(List (Int×Bs))):Option (List (Int×Bs)):=(V259o N a0).eval
def t259o:List (Nat×List Nat×List (Nat×Sh)):=[]
theorem P259o (N:Nat) (a0:(List (Int×Bs))): ∀ r,F259o N a0=some r→Spec Tryz.prog 259 [.val (.list (.pair tI tS)) a0] (zrm r):=fun r h=>zk (fn:=Tryz.f259) rfl rfl rfl rfl true (zb (tbl:=t259o) (μ:=[]) mixed _ _ _ (by
 have h1:=Vt.sound _ h
 refine Eq.mp ?_ h1
 kernel_rfl))
def zrn:(List (Bs×(Int×(List (Bs×(Int×(Bs×Bs)))))))→D:=fun x=> .own 110 (.pair tS (.pair tI (.list (.pair tS (.pair tI (.pair tS tS)))))) x
noncomputable def V265o (N:Nat) (a0:(List (Bs×(Int×(List (Bs×(Int×(Bs×Bs)))))))):Vt (List (Bs×(Int×(List (Bs×(Int×(Bs×Bs))))))) (Option D) (fun q=>some (zrn q)):=
 .nq (a0=[]) (.leaf ([]:(List (Bs×(Int×(List (Bs×(Int×(Bs×Bs))))))))) (.ck (room (([]:(List (Bs×(Int×(List (Bs×(Int×(Bs×Bs)))))))).length+a0.length)) (.leaf (([]:(List (Bs×(Int×(List (Bs×(Int×(Bs×Bs))))))))++a0)))
noncomputable def F265o (N:Nat) (a0:(List (Bs×(Int×(List (Bs×(Int×(Bs×Bs)))))))):Option (List (Bs×(Int×(List (Bs×(Int×(Bs×Bs))))))):=(V265o N a0).eval
def t265o:List (Nat×List Nat×List (Nat×Sh)):=[]
theorem P265o (N:Nat) (a0:(List (Bs×(Int×(List (Bs×(Int×(Bs×Bs)))))))): ∀ r,F265o N a0=some r→Spec Tryz.prog 265 [.val (.list (.pair tS (.pair tI (.list (.pair tS (.pair tI (.pair tS tS))))))) a0] (zrn r):=fun r h=>zk (fn:=Tryz.f265) rfl rfl rfl rfl true (zb (tbl:=t265o) (μ:=[]) mixed _ _ _ (by
 have h1:=Vt.sound _ h
 refine Eq.mp ?_ h1
 kernel_rfl))
end
end Go.Proofs.YthcmfnkganacaaaGreatDoor.Vc
