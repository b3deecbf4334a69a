/-
  WHAT IS SAID IS DONE: the law, as data. Plain. No condition.
-/
import Derived.Test.YthcmfnkganacaaaGreatDoorB6
import Derived.Test.YthcmfnkganacaaaGreatDoorB5
import Derived.Test.YthcmfnkganacaaaGreatDoorB4
set_option linter.unusedVariables false
set_option linter.unusedSimpArgs false
set_option maxRecDepth 100000
set_option linter.unusedSectionVars false
namespace Go.Proofs.YthcmfnkganacaaaGreatDoor.Vc
section
open Go.RowKit
theorem je (t:List Ln) (q:List Bs):(undS t q).length≤t.length:=by
 unfold undS
 split
 ·rw [List.length_map];exact zby t _
 ·simp
theorem qL {t:List Ln} (hr:zE t=true) {q:List Bs} {w:Bs} (h:w∈undS t q):w.length≤40:=by
 unfold undS at h
 split at h
 ·obtain ⟨k,hk,rfl⟩:=List.mem_map.1 h
  exact zdO hr _
 ·cases h
theorem zdR {R:Type} {t:List Ln} (ks:List Int) (hk: ∀ k∈ks,0≤k∧k<t.length): ∀ (out:List Bs),runE (R:=R) (fun (out:List Bs) (k:Int)=> .inl (out++[wdI t k])) ks out= .inl (out++ks.map (wdI t)):=by
 induction ks with
 | nil=>intro out;simp [runE]
 | cons k ks ih=>
  intro out
  simp only [runE]
  rw [ih (fun x hx=>hk x (by simp [hx]))]
  simp
theorem zfG {t:List Ln} (hr:zE t=true) (q:List Bs):F25o 300000 t q=some (undS t q):=by
 obtain ⟨h200,hrf⟩:=zC.1 hr
 unfold F25o V25o undS
 rw [zM,zk1 300000 t q (by omega)]
 cases hf:fndS t q with
 | none=>rfl
 | some i=>
  have hi:=zdP hf
  have hkr: ∀ k∈zI t i,0≤k∧k<t.length:=fun k hk=>zai hk
  have hkl:=zby t i
  dsimp only
  rw [za]
  dsimp only
  rw [zi,if_neg (by simp),zm,zgF hr hi,za,zB]
  have hrun:=ye (R:=List Bs) (step:=fun x=>zft 300000 x.1 x.2.1 x.2.2.1 x.2.2.2.1 x.2.2.2.2) (zI t i) (fun (out:List Bs) j=>(t,out,zI t i,((zI t i).length:Int),j)) (fun j a=>a.length=j) (fun out k=> .inl (out++[wdI t k]))
   (fun out j k ha hx=>by
    have hj:j<(zI t i).length:=(List.getElem?_eq_some_iff.1 hx).1
    have hk:=hkr k (List.mem_of_getElem? hx)
    unfold zft zkv
    have i1:inR (j:Int) (zI t i).length:=⟨by omega,by omega⟩
    have hj' :(j:Int)<((zI t i).length:Int):=by omega
    have e:atI tI (zI t i) (j:Int)=k:=by
     unfold atI
     rw [Int.toNat_natCast]
     simp only [List.getD,hx]
     rfl
    have i2:inR k t.length:=hk
    have r1:room (out.length+([(atI tLn t k).2.1]:List Bs).length):=by show _≤_;simp;omega
    rw [zi,if_pos (decide_eq_true hj'),zn i1,zn i1]
    simp only [e]
    rw [zn i2,zn r1,ze,zz (by omega) (by omega)]
    rfl)
   (fun out j k out' ha hx hf=>by
    have:=Sum.inl.inj hf
    subst this
    simp;omega)
   (fun out ha=>by
    unfold zft zkv
    rw [zi,if_neg (by simp)]
    rfl) [] rfl 300000 (by omega)
  rw [zdR _ hkr] at hrun
  unfold zkw
  rw [hrun]
  rfl
theorem zlk {t:List Ln} (hr:zE t=true) {q:List Bs} (hq0:q≠[]) (hql:q.length≤1000):F8o 300000 t q=some (undS t q):=by
 obtain ⟨h200,hrf⟩:=zC.1 hr
 have hpos:(0:Int)<(q.length:Int):=by
  cases q with
  | nil=>exact absurd rfl hq0
  | cons a b=>simp only [List.length_cons];omega
 unfold F8o V8o undS
 rw [zi,if_pos (decide_eq_true hpos),zm,zsL 300000 t q hr (by omega) (by omega),za,zi]
 cases hf:fndS t q with
 | none=>rfl
 | some i=>
  have hi:=zdP hf
  have hkr: ∀ k∈zI t i,0≤k∧k<t.length:=fun k hk=>zai hk
  have hkl:=zby t i
  dsimp only
  have hn: ¬ decide ((i:Int)<0)=true:=by simp
  rw [if_neg hn,zm,zsK 300000 t (i:Int) (by omega) (by omega),za,zB]
  have hrun:=ye (R:=List Bs) (step:=fun x=>zkI 300000 x.1 x.2.1 x.2.2.1 x.2.2.2) (zI t i) (fun (out:List Bs) j=>(t,out,zI t i,j)) (fun j a=>a.length=j) (fun out k=> .inl (out++[wdI t k]))
   (fun out j k ha hx=>by
    have hj:j<(zI t i).length:=(List.getElem?_eq_some_iff.1 hx).1
    have hk:=hkr k (List.mem_of_getElem? hx)
    unfold zkI zp0
    have i1:inR (j:Int) (zI t i).length:=⟨by omega,by omega⟩
    have hj' :(j:Int)<((zI t i).length:Int):=by omega
    have e:atI tI (zI t i) (j:Int)=k:=by
     unfold atI
     rw [Int.toNat_natCast]
     simp only [List.getD,hx]
     rfl
    have i2:inR k t.length:=hk
    have r1:room (out.length+([(atI tLn t k).2.1]:List Bs).length):=by show _≤_;simp;omega
    rw [zi,if_pos (decide_eq_true hj'),zn i1,zn i1]
    simp only [e]
    rw [zn i2,zn r1,ze,zz (by omega) (by omega)]
    rfl)
   (fun out j k out' ha hx hf=>by
    have:=Sum.inl.inj hf
    subst this
    simp;omega)
   (fun out ha=>by
    unfold zkI zp0
    rw [zi,if_neg (by simp)]
    rfl) [] rfl 300000 (by omega)
  rw [zdR _ hkr] at hrun
  unfold zm8
  rw [hrun]
  rfl
def oneS (t:List Ln) (o:Bs) (q:List Bs):Bs:=(undS t q).headD o
theorem zfH {t:List Ln} (hr:zE t=true) (o:Bs) (q:List Bs):F68 300000 t o q=some (oneS t o q):=by
 unfold F68 V68 oneS
 rw [zm,zfG hr,za,zi]
 cases undS t q with
 | nil=>rfl
 | cons w l=>
  have h0: ¬ ((((w::l).length:Int)==0)=true):=by
   rw [beq_iff_eq,List.length_cons]
   omega
  have i0:inR 0 (w::l).length:=⟨by omega,by simp only [List.length_cons];omega⟩
  rw [if_neg h0,zn i0,zn i0]
  rfl
theorem jO {t:List Ln} (hr:zE t=true) {o:Bs} (ho:o.length≤40) (q:List Bs):(oneS t o q).length≤40:=by
 unfold oneS
 cases h:undS t q with
 | nil=>exact ho
 | cons w l=>exact qL hr (q:=q) (by rw [h];simp)
theorem zll {t:List Ln} (hr:zE t=true) (g:Bs):F67 300000 t g=some (oneS t [] [zp,g,kIp]):=by
 unfold F67 V67
 rw [zm,zfH hr]
 rfl
theorem zoq {t:List Ln} (hr:zE t=true) (h v:Bs): ∃ b,F66 300000 t h v=some b:=by
 have h203: ∀ (l:List Bs) (w:Bs),l.length≤1000→ ∃ i,F203 300000 l w=some i:=by
  intro l w hl
  unfold F203 V203
  rw [zB]
  obtain ⟨o,ho,hp⟩:=zA (R:=Int) (step:=fun x=>zhH 300000 x.1 x.2.1 x.2.2.1 x.2.2.2)
   (fun x=>x.1=l∧x.2.1=w∧x.2.2.1=(l.length:Int)∧0≤x.2.2.2∧x.2.2.2≤(l.length:Int)) (fun x=>(l.length - x.2.2.2).toNat)
   (fun o=>(∃ r,o= .ret r)∨ ∃ y,o= .brk 0 y)
   (by
    rintro ⟨l',w',n,i⟩ ⟨e1,e2,e3,g0,g1⟩
    dsimp only at e1 e2 e3 g0 g1 ⊢
    subst e1 e2 e3
    unfold zhH zoa
    by_cases hi:i<(l'.length:Int)
    ·have i1:inR i l'.length:=⟨g0,hi⟩
     rw [zi,if_pos (decide_eq_true hi),zn i1,zi]
     split
     ·exact ⟨_,rfl,.inr ⟨by simp,.inl ⟨_,rfl⟩⟩⟩
     ·exact ⟨_,rfl,.inl ⟨_,rfl,⟨rfl,rfl,rfl,by simp only;rw [zz (by omega) (by omega)];omega,by simp only;rw [zz (by omega) (by omega)];omega⟩,by simp only;rw [zz (by omega) (by omega)];omega⟩⟩
    ·rw [zi,if_neg (by simpa using hi)]
     exact ⟨_,rfl,.inr ⟨by simp,.inr ⟨_,rfl⟩⟩⟩) 300000 (l,w,(l.length:Int),0) ⟨rfl,rfl,rfl,by simp,by simp⟩ (by simp only;omega)
  unfold zkz
  rw [ho]
  rcases hp with ⟨r,rfl⟩ | ⟨y,rfl⟩
  ·exact ⟨_,rfl⟩
  ·exact ⟨_,rfl⟩
 obtain ⟨h200,_⟩:=zC.1 hr
 unfold F66 V66
 rw [zm,zfG hr,za,zm]
 obtain ⟨i,hi⟩:=h203 (undS t [[104,111,115,116,115],h,[118,110,105,115]]) v (by have:=je t [[104,111,115,116,115],h,[118,110,105,115]];omega)
 have h131: ∃ b,F131 300000 (undS t [[104,111,115,116,115],h,[118,110,105,115]]) v=some b:=by
  unfold F131 V131
  rw [zm,hi]
  exact ⟨_,rfl⟩
 obtain ⟨b,hb⟩:=h131
 rw [hb]
 exact ⟨_,rfl⟩
theorem zbA {X R E:Type} {step:X→Option (Lp X R)} (n:Nat) (mk:List E→Int→X) (b c:Nat) (Q:E→Prop)
  (hs: ∀ out (i:Nat),i<n→out.length≤b+c*i→ ∃ add,step (mk out i)=some (.next (mk (out++add) ((i:Int)+1)))∧add.length≤c∧ ∀ e∈add,Q e)
  (he: ∀ out,step (mk out n)=some (.brk 0 (mk out n))) (out0:List E) (h0:out0.length≤b) (N:Nat) (hN:n<N):
  ∃ add,zl step N (mk out0 0)=some (.brk 0 (mk (out0++add) n))∧add.length≤c*n∧ ∀ e∈add,Q e:=by
 have key: ∀ (k:Nat) (N:Nat) (i:Nat) (out:List E),i+k=n→k<N→out.length≤b+c*i→ ∃ add,zl step N (mk out i)=some (.brk 0 (mk (out++add) n))∧add.length≤c*k∧ ∀ e∈add,Q e:=by
  intro k
  induction k with
  | zero=>
   intro N i out hi hN hl
   obtain ⟨N,rfl⟩: ∃ M,N=M+1:=⟨N - 1,by omega⟩
   have:i=n:=by omega
   subst this
   unfold zl
   rw [he]
   exact ⟨[],by rw [List.append_nil],by simp,by simp⟩
  | succ k ih=>
   intro N i out hi hN hl
   obtain ⟨N,rfl⟩: ∃ M,N=M+1:=⟨N - 1,by omega⟩
   obtain ⟨add,h1,h2,h3⟩:=hs out i (by omega) hl
   unfold zl
   rw [h1]
   obtain ⟨add2,g1,g2,g3⟩:=ih N (i+1) (out++add) (by omega) (by omega) (by rw [List.length_append,Nat.mul_add];omega)
   refine ⟨add++add2,?_,by rw [List.length_append,Nat.mul_add];omega,fun e he=> ?_⟩
   ·rw [← List.append_assoc]
    simpa using g1
   ·rcases List.mem_append.1 he with h | h
    ·exact h3 e h
    ·exact g3 e h
 simpa using key n N 0 out0 (by omega) hN (by omega)
end
section
open Go.RowKit
def Oth (h:Bs) (e:En):Prop:=e.1=h∧e.2.1≠4∧e.2.2.1.length≤200
theorem atW (l:List Bs) (i:Nat) (h:i<l.length):atI tS l (i:Int)=l[i]:=by unfold atI;simp [List.getD,List.getElem?_eq_getElem h]
section
variable {t:List Ln} (hr:zE t=true) (hs:t.length≤60)
include hr hs
theorem znE (h:Bs): ∃ l,F27o 300000 t h=some l∧l.length≤3600∧ ∀ e∈l,Oth h e:=by
 have hv:=je t [zp,h,zc4]
 have hg:=je t [zp]
 have hvw: ∀ w∈undS t [zp,h,zc4],w.length≤40:=fun w hw=>qL hr hw
 unfold F27o V27o
 rw [zm,zfG hr,za,zB]
 show ∃ l,lp1 (zhK 300000 (h,t,[],undS t [zp,h,zc4],((undS t [zp,h,zc4]).length:Int),0)) id (fun x=>some x.2.2.1)=some l∧_
 generalize undS t [zp,h,zc4]=vs at hv hvw
 have inner: ∀ (gs:List Bs) (out0:List En) (v:Bs) (i:Int),gs.length≤60→out0.length≤3600→v.length≤40→ ∃ add,zhJ 300000 (h,t,out0,v,vs,(vs.length:Int),i,gs,(gs.length:Int),0)=some (.brk 0 (h,t,out0++add,v,vs,(vs.length:Int),i,gs,(gs.length:Int),(gs.length:Int)))∧add.length≤1*gs.length∧ ∀ e∈add,Oth h e:=by
  intro gs out0 v i hgl hl hvl
  unfold zhJ
  refine zbA (R:=List En) gs.length (fun (out:List En) j=>(h,t,out,v,vs,(vs.length:Int),i,gs,(gs.length:Int),j)) out0.length 1 (Oth h) (fun out j hj hlen=> ?_) (fun out=> ?_) out0 (Nat.le_refl _) 300000 (by omega)
  ·unfold zhI zkA
   have i1:inR (j:Int) gs.length:=⟨by omega,by omega⟩
   have hj' :(j:Int)<(gs.length:Int):=by omega
   have w1:IntKind.i64.wrap ((j:Int)+1)=(j:Int)+1:=zz (by omega) (by omega)
   obtain ⟨b,hb⟩:=zoq hr (atI tS gs (j:Int)) v
   rw [zi,if_pos (decide_eq_true hj'),zn i1,zn i1,zi]
   split
   ·rw [zm,hb,za,zi]
    cases b with
    | true=>
     rw [if_pos rfl,zm,zll hr,za,zn (show room _ by show _≤_;simp;omega),ze,w1]
     exact ⟨_,rfl,by simp,fun e he=>by
      rw [List.mem_singleton.1 he]
      exact ⟨rfl,by simp,by simp only;omega⟩⟩
    | false=>
     rw [if_neg (by decide),ze,w1]
     exact ⟨[],by rw [List.append_nil],by simp,by simp⟩
   ·rw [ze,w1]
    exact ⟨[],by rw [List.append_nil],by simp,by simp⟩
  ·unfold zhI zkA
   rw [zi,if_neg (by simp)]
   rfl
 obtain ⟨out,h1,h2,h3⟩:=zbA (R:=List En) (step:=fun x=>zfv 300000 x.1 x.2.1 x.2.2.1 x.2.2.2.1 x.2.2.2.2.1 x.2.2.2.2.2) vs.length (fun (out:List En) i=>(h,t,out,vs,(vs.length:Int),i)) 0 60 (Oth h)
  (fun out i hi hlen=>by
   unfold zfv zkB
   dsimp only
   have i1:inR (i:Int) vs.length:=⟨by omega,by omega⟩
   have hi' :(i:Int)<(vs.length:Int):=by omega
   have w1:IntKind.i64.wrap ((i:Int)+1)=(i:Int)+1:=zz (by omega) (by omega)
   obtain ⟨add,g1,g2,g3⟩:=inner (undS t [zp]) out (atI tS vs (i:Int)) (i:Int) (by omega) (by omega) (by rw [atW vs i hi];exact hvw _ (List.getElem_mem hi))
   rw [zi,if_pos (decide_eq_true hi'),zn i1,zn i1,zm,zfG hr,za,ev_g1,g1,yX,ze]
   dsimp only
   rw [w1]
   exact ⟨add,rfl,by omega,g3⟩)
  (fun out=>by
   unfold zfv zkB
   rw [zi,if_neg (by simp)]
   rfl) [] (by simp) 300000 (by omega)
 unfold zhK
 rw [h1]
 exact ⟨out,rfl,by omega,h3⟩
theorem zqK (s1 s7 s8:Bs) (s5:List En) (s14:List Bs) (s15 s16:Int):zgs 300000 (s1,t,s5,s7,s8,s14,s15,s16)=some (s1,t,s5,s7,s8,oneS t [] [zR,s7,kMac],oneS t [] [zR,s7,zqx],s14,s15,s16):=by
 unfold zgs zkC
 refine zkh _ _ (zkh _ _ ?_ ?_) ?_
 all_goals
  rw [zm,zfH hr,za,zm,zfH hr,za,ze]
theorem zsT (h:Bs): ∃ l,F28o 300000 t h=some l∧l.length≤120∧ ∀ e∈l,Oth h e:=by
 have hv:=je t [zR]
 have hvw: ∀ w∈undS t [zR],w.length≤40:=fun w hw=>qL hr hw
 unfold F28o V28o
 rw [zm,zfG hr,za,zB]
 show ∃ l,lp1 (zhL 300000 (h,t,[],undS t [zR],((undS t [zR]).length:Int),0)) id (fun x=>some x.2.2.1)=some l∧_
 generalize undS t [zR]=vs at hv hvw
 obtain ⟨out,h1,h2,h3⟩:=zbA (R:=List En) (step:=fun x=>zfw 300000 x.1 x.2.1 x.2.2.1 x.2.2.2.1 x.2.2.2.2.1 x.2.2.2.2.2) vs.length (fun (out:List En) i=>(h,t,out,vs,(vs.length:Int),i)) 0 2 (Oth h)
  (fun out i hi hlen=>by
   unfold zfw zkD
   dsimp only
   have i1:inR (i:Int) vs.length:=⟨by omega,by omega⟩
   have hi' :(i:Int)<(vs.length:Int):=by omega
   have w1:IntKind.i64.wrap ((i:Int)+1)=(i:Int)+1:=zz (by omega) (by omega)
   have hw:=hvw _ (List.getElem_mem hi)
   have ew:=atW vs i hi
   have hlw:(atI tS vs (i:Int)).length≤40:=by rw [ew];exact hw
   have l1:=jO hr (o:=[]) (by simp) [([98,105,110,100,105,110,103,115]:Bs),atI tS vs (i:Int),([118,110,105]:Bs)]
   have l2:=jO hr (o:=[]) (by simp) [([98,105,110,100,105,110,103,115]:Bs),atI tS vs (i:Int),([109,97,99]:Bs)]
   have l3:=jO hr (o:=[]) (by simp) [zR,atI tS vs (i:Int),kMac]
   obtain ⟨b,hb⟩:=zoq hr h (oneS t [] [zR,atI tS vs (i:Int),kVni])
   rw [zi,if_pos (decide_eq_true hi'),zn i1,zn i1,zm,zfH hr,za,zm,hb,za,zi]
   cases b with
   | false=>
    rw [if_pos (show (!false)=true from rfl),ze,w1]
    exact ⟨[],by rw [List.append_nil],by simp,by simp⟩
   | true=>
    rw [if_neg (by decide),zN,zqK hr hs,za]
    dsimp only
    rw [zn (show room _ by show _≤_;simp;omega),zn (show room _ by show _≤_;simp;omega),zn (show room _ by show _≤_;simp;omega),zi]
    split
    ·rw [zn (show room _ by show _≤_;simp;omega),zn (show room _ by show _≤_;simp;omega),zm,zll hr,za,zn (show room _ by show _≤_;simp;omega),ze,w1]
     refine ⟨[_,_],by rw [List.append_assoc];rfl,by simp,fun e he=> ?_⟩
     rcases List.mem_cons.1 he with rfl | he
     ·exact ⟨rfl,by simp,by simp;omega⟩
     ·rw [List.mem_singleton.1 he]
      exact ⟨rfl,by simp,by simp;omega⟩
    ·rw [ze,w1]
     exact ⟨_,rfl,by simp,fun e he=>by
      rw [List.mem_singleton.1 he]
      exact ⟨rfl,by simp,by simp;omega⟩⟩)
  (fun out=>by
   unfold zfw zkD
   rw [zi,if_neg (by simp)]
   rfl) [] (by simp) 300000 (by omega)
 unfold zhL
 rw [h1]
 exact ⟨out,rfl,by omega,h3⟩
theorem zsU (s1 s7:Bs) (s5:List En) (s12:List Bs) (s13 s14:Int):zgt 300000 (s1,t,s5,s7,s12,s13,s14)=some (s1,t,s5,s7,[oneS t [] [yF,s7,zgE],oneS t [97,110,121] [yF,s7,zqA],oneS t [97,110,121] [yF,s7,kTo]],s12,s13,s14):=by
 unfold zgt zkF
 repeat' first
  | rfl
  | refine zkh _ _ ?_ ?_
  | rw [zm,zfH hr,za]
theorem F_pol (h:Bs): ∃ l,F30o 300000 t h=some l∧l.length≤60∧ ∀ e∈l,Oth h e:=by
 have hv:=je t [yF]
 have hvw: ∀ w∈undS t [yF],w.length≤40:=fun w hw=>qL hr hw
 unfold F30o V30o
 rw [zm,zfG hr,za,zB]
 show ∃ l,lp1 (zhN 300000 (h,t,[],undS t [yF],((undS t [yF]).length:Int),0)) id (fun x=>some x.2.2.1)=some l∧_
 generalize undS t [yF]=vs at hv hvw
 obtain ⟨out,h1,h2,h3⟩:=zbA (R:=List En) (step:=fun x=>zfy 300000 x.1 x.2.1 x.2.2.1 x.2.2.2.1 x.2.2.2.2.1 x.2.2.2.2.2) vs.length (fun (out:List En) i=>(h,t,out,vs,(vs.length:Int),i)) 0 1 (Oth h)
  (fun out i hi hlen=>by
   unfold zfy zkG
   dsimp only
   have i1:inR (i:Int) vs.length:=⟨by omega,by omega⟩
   have hi' :(i:Int)<(vs.length:Int):=by omega
   have w1:IntKind.i64.wrap ((i:Int)+1)=(i:Int)+1:=zz (by omega) (by omega)
   have hw:=hvw _ (List.getElem_mem hi)
   have ew:=atW vs i hi
   have hlw:(atI tS vs (i:Int)).length≤40:=by rw [ew];exact hw
   have l1:=jO hr (o:=[]) (by simp) [([112,111,108,105,99,121]:Bs),atI tS vs (i:Int),([97,99,116,105,111,110]:Bs)]
   have l2:=jO hr (o:=[97,110,121]) (by simp) [([112,111,108,105,99,121]:Bs),atI tS vs (i:Int),([102,114,111,109]:Bs)]
   have l3:=jO hr (o:=[97,110,121]) (by simp) [([112,111,108,105,99,121]:Bs),atI tS vs (i:Int),([116,111]:Bs)]
   have hj:=zk9 [oneS t [] [([112,111,108,105,99,121]:Bs),atI tS vs (i:Int),([97,99,116,105,111,110]:Bs)],oneS t [97,110,121] [([112,111,108,105,99,121]:Bs),atI tS vs (i:Int),([102,114,111,109]:Bs)],oneS t [97,110,121] [([112,111,108,105,99,121]:Bs),atI tS vs (i:Int),([116,111]:Bs)]] [32] (fun w hw=>by
    simp only [List.mem_cons,List.not_mem_nil,or_false] at hw
    rcases hw with rfl | rfl | rfl<;>omega) (by simp) (by simp)
   rw [zi,if_pos (decide_eq_true hi'),zn i1,zn i1,zN,zsU hr hs,za]
   dsimp only
   rw [zm,hj,za,zn (show room _ by show _≤_;simp;omega),ze,w1]
   exact ⟨_,rfl,by simp,fun e he=>by
    rw [List.mem_singleton.1 he]
    exact ⟨rfl,by simp,by simp only;omega⟩⟩)
  (fun out=>by
   unfold zfy zkG
   rw [zi,if_neg (by simp)]
   rfl) [] (by simp) 300000 (by omega)
 unfold zhN
 rw [h1]
 exact ⟨out,rfl,by omega,h3⟩
end
end
section
open Go.RowKit
def viaS (t:List Ln) (p:Bs):Bs:=oneS t [] [zq,p,kVia]
def rtE (t:List Ln) (h p:Bs):En:=(h,4,p,((if viaS t p=h then [108,111,99,97,108] else oneS t [] [zp,viaS t p,kIp])++[32])++oneS t [48] [zq,p,yK])
def rtsE (t:List Ln) (h:Bs):List En:=(undS t [zq]).map (rtE t h)
section
variable {t:List Ln} (hr:zE t=true) (hs:t.length≤60)
include hr hs
theorem znF (h:Bs):F29o 300000 t h=some (rtsE t h):=by
 have hv:=je t [zq]
 unfold F29o V29o rtsE
 rw [zm,zfG hr,za,zB]
 show lp1 (zhM 300000 (h,t,[],undS t [zq],((undS t [zq]).length:Int),0)) id (fun x=>some x.2.2.1)=_
 generalize undS t [zq]=vs at hv ⊢
 have hrun:=ye (R:=List En) (step:=fun x=>zfx 300000 x.1 x.2.1 x.2.2.1 x.2.2.2.1 x.2.2.2.2.1 x.2.2.2.2.2) vs (fun (out:List En) i=>(h,t,out,vs,(vs.length:Int),i)) (fun i a=>a.length=i) (fun out p=> .inl (out++[rtE t h p]))
  (fun out i p ha hx=>by
   have hi:i<vs.length:=(List.getElem?_eq_some_iff.1 hx).1
   unfold zfx zkE
   dsimp only
   have i1:inR (i:Int) vs.length:=⟨by omega,by omega⟩
   have hi' :(i:Int)<(vs.length:Int):=by omega
   have w1:IntKind.i64.wrap ((i:Int)+1)=(i:Int)+1:=zz (by omega) (by omega)
   have e:atI tS vs (i:Int)=p:=by unfold atI;simp [List.getD,hx]
   have la: ∀ q,(oneS t [] q).length≤40:=fun q=>jO hr (by simp) q
   have lb: ∀ q,(oneS t [48] q).length≤40:=fun q=>jO hr (by simp) q
   rw [zi,if_pos (decide_eq_true hi'),zn i1,zn i1,zm,zfH hr,za,zm,zll hr,za]
   simp only [e]
   rw [zi]
   show (if (viaS t p==h)=true then _ else _)=_
   by_cases hv:viaS t p=h
   ·rw [if_pos (beq_iff_eq.2 hv),zn (show room _ by show _≤_;simp),zm,zfH hr,za,zn (show room _ by have:=lb [[114,111,117,116,101,115],p,[109,101,116,114,105,99]];show _≤_;simp;omega),zn (show room _ by show _≤_;simp;omega),ze,w1]
    have:rtE t h p=(h,4,p,(([108,111,99,97,108]:Bs)++[32])++oneS t [48] [zq,p,yK]):=by unfold rtE;rw [if_pos hv]
    rw [this]
   ·rw [if_neg (fun he=>hv (eq_of_beq he)),zn (show room _ by have:=la [zp,oneS t [] [[114,111,117,116,101,115],p,[118,105,97]],kIp];show _≤_;simp only [List.length_cons,List.length_nil];omega),zm,zfH hr,za,zn (show room _ by have:=lb [[114,111,117,116,101,115],p,[109,101,116,114,105,99]];have:=la [zp,oneS t [] [[114,111,117,116,101,115],p,[118,105,97]],kIp];show _≤_;simp only [List.length_cons,List.length_nil,List.length_append];omega),zn (show room _ by show _≤_;simp;omega),ze,w1]
    have:rtE t h p=(h,4,p,(oneS t [] [zp,viaS t p,kIp]++[32])++oneS t [48] [zq,p,yK]):=by unfold rtE;rw [if_neg hv]
    rw [this]
    rfl)
  (fun out i p out' ha hx hf=>by
   have:=Sum.inl.inj hf
   subst this
   simp;omega)
  (fun out ha=>by
   unfold zfx zkE
   rw [zi,if_neg (by simp)]
   rfl) [] rfl 300000 (by omega)
 have hE: ∀ (l:List Bs) (out:List En),runE (R:=List En) (fun (out:List En) p=> .inl (out++[rtE t h p])) l out= .inl (out++l.map (rtE t h)):=by
  intro l
  induction l with
  | nil=>intro out;simp [runE]
  | cons p l ih=>
   intro out
   simp only [runE]
   rw [ih]
   simp
 rw [hE] at hrun
 unfold zhM
 rw [hrun]
 rfl
end
theorem znG (ls:List (List En)) (hl:ls.length≤10) (hb: ∀ l∈ls,l.length≤10000):F26o 300000 ls=some ls.flatten:=by
 unfold F26o V26o
 rw [zB]
 have h1:=ye (R:=List En) (step:=fun x=>zfu 300000 x.1 x.2.1 x.2.2.1 x.2.2.2.1 x.2.2.2.2) ls (fun (n:Nat) i=>(ls,(n:Int),ls,(ls.length:Int),i)) (fun i a=>a≤10000*i) (fun n l=> .inl (n+l.length))
  (fun n i l ha hx=>by
   have hi:i<ls.length:=(List.getElem?_eq_some_iff.1 hx).1
   have hll:=hb l (List.mem_of_getElem? hx)
   unfold zfu zkx
   dsimp only
   have i1:inR (i:Int) ls.length:=⟨by omega,by omega⟩
   have hi' :(i:Int)<(ls.length:Int):=by omega
   have w1:IntKind.i64.wrap ((i:Int)+1)=(i:Int)+1:=zz (by omega) (by omega)
   have w2:IntKind.i64.wrap ((n:Int)+(l.length:Int))=((n+l.length:Nat):Int):=by rw [zz (by omega) (by omega)];omega
   have e:atI (.list (.pair tS (.pair tI (.pair tS tS)))) ls (i:Int)=l:=by
    unfold atI
    rw [Int.toNat_natCast]
    simp only [List.getD,hx]
    rfl
   rw [zi,if_pos (decide_eq_true hi'),zn i1,e,w2,zi,if_neg (by simp;omega),ze,w1])
  (fun n i l n' ha hx hf=>by
   have:=Sum.inl.inj hf
   subst this
   have hll:=hb l (List.mem_of_getElem? hx)
   omega)
  (fun n ha=>by
   unfold zfu zkx
   rw [zi,if_neg (by simp)]
   rfl) 0 (by omega) 300000 (by omega)
 have hE1: ∀ (l:List (List En)) (n:Nat),runE (R:=List En) (fun (n:Nat) (l:List En)=> .inl (n+l.length)) l n= .inl (n+l.flatten.length):=by
  intro l
  induction l with
  | nil=>intro n;simp [runE]
  | cons p l ih=>
   intro n
   simp only [runE]
   rw [ih]
   simp [Nat.add_assoc]
 rw [hE1] at h1
 have hfl: ∀ (l:List (List En)),(∀ x∈l,x.length≤10000)→l.flatten.length≤10000*l.length:=by
  intro l
  induction l with
  | nil=>intro _;simp
  | cons p l ih=>
   intro hq
   have:=ih fun x hx=>hq x (by simp [hx])
   have:=hq p (by simp)
   rw [List.flatten_cons,List.length_append,List.length_cons,Nat.mul_add]
   omega
 have hft:=hfl ls hb
 have h65:zmu 300000 (((0+ls.flatten.length:Nat)):Int)=some []:=if_pos ⟨by omega,by omega⟩
 have h2:=ye (R:=List En) (step:=fun x=>zcV 300000 x.1 x.2.1 x.2.2.1 x.2.2.2) ls (fun (out:List En) i=>(out,ls,(ls.length:Int),i)) (fun i a=>a.length≤10000*i) (fun out l=> .inl (out++l))
  (fun out i l ha hx=>by
   have hi:i<ls.length:=(List.getElem?_eq_some_iff.1 hx).1
   have hll:=hb l (List.mem_of_getElem? hx)
   unfold zcV zgq
   dsimp only
   have i1:inR (i:Int) ls.length:=⟨by omega,by omega⟩
   have hi' :(i:Int)<(ls.length:Int):=by omega
   have w1:IntKind.i64.wrap ((i:Int)+1)=(i:Int)+1:=zz (by omega) (by omega)
   have e:atI (.list (.pair tS (.pair tI (.pair tS tS)))) ls (i:Int)=l:=by
    unfold atI
    rw [Int.toNat_natCast]
    simp only [List.getD,hx]
    rfl
   rw [zi,if_pos (decide_eq_true hi'),zn i1,e,zn (show room _ by show _≤_;omega),ze,w1])
  (fun out i l out' ha hx hf=>by
   have:=Sum.inl.inj hf
   subst this
   have hll:=hb l (List.mem_of_getElem? hx)
   rw [List.length_append]
   omega)
  (fun out ha=>by
   unfold zcV zgq
   rw [zi,if_neg (by simp)]
   rfl) [] (by simp) 300000 (by omega)
 have hE2: ∀ (l:List (List En)) (out:List En),runE (R:=List En) (fun (out:List En) (l:List En)=> .inl (out++l)) l out= .inl (out++l.flatten):=by
  intro l
  induction l with
  | nil=>intro n;simp [runE]
  | cons p l ih=>
   intro n
   simp only [runE]
   rw [ih]
   simp
 rw [hE2] at h2
 have hW1:zky 300000 (ls,0,ls,(ls.length:Int),0)=some (.brk 0 (ls,(((0+ls.flatten.length:Nat)):Int),ls,(ls.length:Int),(ls.length:Int))):=h1
 have hW2:zgr 300000 ([],ls,(ls.length:Int),0)=some (.brk 0 ([]++ls.flatten,ls,(ls.length:Int),(ls.length:Int))):=h2
 rw [hW1,yX,zm]
 dsimp only
 rw [h65,za,zB,hW2,yX,ze]
 rfl
theorem F_set (l:List En) (hl:l.length≤1000000):F31o 300000 l=some (setE l):=by
 have h1:F69o 300000 l=some l:=by
  unfold F69o V69o
  exact qt (Nat.ble_eq_true_of_le (by omega))
 have h2:zgy 300000 l=some (srtA l):=if_pos (by omega)
 have h3:F72t 300000 (srtA l)=some (ddA (srtA l)):=rfl
 unfold F31o V31o
 rw [zm,h1,za,zN,h2,za,zN,h3]
 rfl
section
variable {t:List Ln} (hr:zE t=true) (hs:t.length≤60)
include hr hs
theorem zqL (out:List En) (h:Bs) (hs27:List Bs) (n i:Int) (hl:out.length≤1000000): ∃ A B,zgB 300000 (t,out,h,hs27,n,i)=some (t,out++(A++rtsE t h++B),hs27,n,i)∧(A++rtsE t h++B).length≤4000∧(∀ e∈A,Oth h e)∧ ∀ e∈B,Oth h e:=by
 obtain ⟨l1,a1,a2,a3⟩:=znE hr hs h
 obtain ⟨l2,b1,b2,b3⟩:=zsT hr hs h
 obtain ⟨l4,d1,d2,d3⟩:=F_pol hr hs h
 have c1:=znF hr hs h
 have c2:(rtsE t h).length≤60:=by
  unfold rtsE
  rw [List.length_map]
  have:=je t [zq]
  omega
 have hf:[l1,l2,rtsE t h,l4].flatten=(l1++l2)++rtsE t h++l4:=by simp
 have hc:=znG [l1,l2,rtsE t h,l4] (by simp) (fun l hm=>by
  simp only [List.mem_cons,List.not_mem_nil,or_false] at hm
  rcases hm with rfl | rfl | rfl | rfl<;>omega)
 rw [hf] at hc
 have hlen:((l1++l2)++rtsE t h++l4).length≤4000:=by simp only [List.length_append];omega
 refine ⟨l1++l2,l4,?_,hlen,fun e he=> ?_,d3⟩
 ·unfold zgB zkY
  dsimp only
  rw [zm,a1,za,zm,b1,za,zm,c1,za,zm,d1,za,zm,hc,za,zn (show room _ by show _≤_;omega),ze]
 ·rcases List.mem_append.1 he with h | h
  ·exact a3 e h
  ·exact b3 e h
def zsV (t:List Ln) (l:List En):Prop:=
 l.length≤250000∧Asc ahd l∧(∀ x∈l,x.2.2.1.length≤200)∧ ∀ x,(x∈l∧x.2.1=4)↔ ∃ g∈undS t [zp],x∈rtsE t g
theorem zlm: ∃ l e,F7o 300000 t=some (l,e)∧(e=7∨(e=0∧(∀ i,i<t.length→Good t i)∧zsV t l)):=by
 obtain ⟨fs,hc,hgood⟩:=zqG hr
 unfold F7o V7o
 rw [zM,hc,za,zi]
 dsimp only
 rw [if_neg (by decide),zi]
 by_cases hfs:fs=[]
 ·subst hfs
  have hg:=hgood rfl
  rw [if_neg (by decide),zm,zfG hr,za,zB]
  have hv:=je t [zp]
  have rkey: ∀ g,∀ x∈rtsE t g,x.2.1=4∧x.2.2.1.length≤200:=fun g x hx=>by
   unfold rtsE at hx
   obtain ⟨p,hp,rfl⟩:=List.mem_map.1 hx
   exact ⟨rfl,Nat.le_trans (qL hr hp) (by omega)⟩
  obtain ⟨o,ho,hp⟩:=zA (R:=List En×Int) (step:=fun x=>znl 300000 x.1 x.2.1 x.2.2.1 x.2.2.2.1 x.2.2.2.2)
   (fun x=>x.1=t∧x.2.2.1=undS t [zp]∧x.2.2.2.1=((undS t [zp]).length:Int)∧0≤x.2.2.2.2∧x.2.2.2.2≤((undS t [zp]).length:Int)∧(x.2.1.length:Int)≤4000*x.2.2.2.2∧(∀ y∈x.2.1,y.2.2.1.length≤200)∧ ∀ y,(y∈x.2.1∧y.2.1=4)↔ ∃ g∈(undS t [zp]).take x.2.2.2.2.toNat,y∈rtsE t g)
   (fun x=>((undS t [zp]).length - x.2.2.2.2).toNat)
   (fun o=> ∃ out,o= .brk 0 (t,out,undS t [zp],((undS t [zp]).length:Int),((undS t [zp]).length:Int))∧out.length≤250000∧(∀ y∈out,y.2.2.1.length≤200)∧ ∀ y,(y∈out∧y.2.1=4)↔ ∃ g∈undS t [zp],y∈rtsE t g)
   (by
    rintro ⟨t',out,hosts,n,i⟩ ⟨e1,e2,e3,g0,g1,g2,g3,g4⟩
    dsimp only at e1 e2 e3 g0 g1 g2 g3 g4 ⊢
    subst e1 e2 e3
    unfold znl zsF
    by_cases hi:i<((undS t' [zp]).length:Int)
    ·have i1:inR i (undS t' [zp]).length:=⟨g0,hi⟩
     have hlt:i.toNat<(undS t' [zp]).length:=by omega
     have hx:(undS t' [zp])[i.toNat]? =some (undS t' [zp])[i.toNat]:=List.getElem?_eq_getElem hlt
     have e:atI tS (undS t' [zp]) i=(undS t' [zp])[i.toNat]:=by
      have:=atW (undS t' [zp]) i.toNat hlt
      rwa [Int.toNat_of_nonneg g0] at this
     have w1:IntKind.i64.wrap (i+1)=i+1:=zz (by omega) (by omega)
     obtain ⟨A,B,r1,r2,r3,r4⟩:=zqL hr hs out (atI tS (undS t' [zp]) i) (undS t' [zp]) ((undS t' [zp]).length:Int) i (by omega)
     rw [zi,if_pos (decide_eq_true hi),zn i1,zn i1,zN,r1,za,ze]
     dsimp only
     rw [w1]
     refine ⟨_,rfl,.inl ⟨_,rfl,⟨rfl,rfl,rfl,by simp only;omega,by simp only;omega,by simp only;rw [List.length_append];omega,fun y hy=> ?_,fun y=> ?_⟩,by simp only;omega⟩⟩
     ·rcases List.mem_append.1 hy with h | h
      ·exact g3 y h
      ·rcases List.mem_append.1 h with h | h
       ·rcases List.mem_append.1 h with h | h
        ·exact (r3 y h).2.2
        ·exact (rkey _ y h).2
       ·exact (r4 y h).2.2
     ·simp only
      rw [show (i+1).toNat=i.toNat+1 by omega,List.take_add_one,hx]
      simp only [Option.toList_some,List.mem_append,List.mem_singleton]
      constructor
      ·rintro ⟨h | h,h4⟩
       ·obtain ⟨g,hgm,hgx⟩:=(g4 y).1 ⟨h,h4⟩
        exact ⟨g,.inl hgm,hgx⟩
       ·rcases h with (h | h) | h
        ·exact absurd h4 (r3 y h).2.1
        ·exact ⟨_,.inr rfl,by rw [← e];exact h⟩
        ·exact absurd h4 (r4 y h).2.1
      ·rintro ⟨g,hgm | hgm,hgx⟩
       ·obtain ⟨h1,h2⟩:=(g4 y).2 ⟨g,hgm,hgx⟩
        exact ⟨.inl h1,h2⟩
       ·subst hgm
        exact ⟨.inr (.inl (.inr (by rw [e];exact hgx))),(rkey _ y hgx).1⟩
    ·have:i=((undS t' [zp]).length:Int):=by omega
     subst this
     rw [zi,if_neg (by simp),ze]
     refine ⟨_,rfl,.inr ⟨by simp,out,rfl,by omega,g3,fun y=> ?_⟩⟩
     rw [g4 y,Int.toNat_natCast,List.take_length]) 300000 (t,[],undS t [zp],((undS t [zp]).length:Int),0) ⟨rfl,rfl,rfl,by simp,by simp,by simp,by simp,by simp⟩ (by simp only;omega)
  obtain ⟨out,rfl,h1,h2,h3⟩:=hp
  have hW:zqg 300000 (t,[],undS t [[104,111,115,116,115]],((undS t [[104,111,115,116,115]]).length:Int),0)=some (.brk 0 (t,out,undS t [zp],((undS t [zp]).length:Int),((undS t [zp]).length:Int))):=ho
  rw [hW,yX,zm]
  dsimp only
  rw [F_set out (by omega),za,ze]
  refine ⟨_,_,rfl,.inr ⟨rfl,hg,Nat.le_trans (znk out) h1,znj zeG out,fun x hx=>h2 x ((zhW zeG out x).1 hx),fun x=> ?_⟩⟩
  rw [← h3 x,zhW zeG out x]
 ·have:decide ((0:Int)<(fs.length:Int))=true:=by
   cases fs with
   | nil=>exact absurd rfl hfs
   | cons a b=>simp only [List.length_cons,decide_eq_true_eq];omega
  rw [if_pos this]
  exact ⟨_,_,rfl,.inl rfl⟩
end
end
section
open Go.RowKit
noncomputable def pfx (w:Bs):Int×Int×Bool:=(F39 300000 w).getD (0,0,false)
theorem F_pfx (w:Bs) (hw:w.length≤5000):F39 300000 w=some (pfx w)∧((pfx w).2.2=true→jv (pfx w).1 (pfx w).2.1=true∧F9 300000 w=some ((pfx w).1,(pfx w).2.1)):=by
 obtain ⟨r,h1,h2⟩:=zcm w hw
 have:pfx w=r:=by unfold pfx;rw [h1];rfl
 rw [this]
 exact ⟨h1,h2⟩
noncomputable def lkS (h:Bs) (ip:Int) (s:Int×Bs) (e:En):Int×Bs:=
 if (e.1==h&&(e.2.1==4&&((pfx e.2.2.1).2.2&&(decide (s.1<(pfx e.2.2.1).2.1)&&inB (pfx e.2.2.1).1 (pfx e.2.2.1).2.1 ip))))=true then ((pfx e.2.2.1).2.1,e.2.2.2) else s
theorem zsW (l:List En) (h:Bs) {ip:Int} (h0:0≤ip) (h1:ip<4294967296) (hl:l.length≤250000) (hk: ∀ x∈l,x.2.2.1.length≤200):F11 300000 l h ip=some ((l.foldl (lkS h ip) (-1,[])).2,decide (0≤(l.foldl (lkS h ip) (-1,[])).1)):=by
 have hrun:=ye (R:=Bs×Bool) (step:=fun x=>zkL 300000 x.1 x.2.1 x.2.2.1 x.2.2.2.1 x.2.2.2.2.1 x.2.2.2.2.2.1 x.2.2.2.2.2.2) l (fun (s:Int×Bs) i=>(h,ip,s.1,s.2,l,(l.length:Int),i)) (fun _ _=>True) (fun s e=> .inl (lkS h ip s e))
  (fun s i e ha hx=>by
   have hi:i<l.length:=(List.getElem?_eq_some_iff.1 hx).1
   obtain ⟨hp,hpr⟩:=F_pfx e.2.2.1 (Nat.le_trans (hk e (List.mem_of_getElem? hx)) (by omega))
   unfold zkL zp5
   dsimp only
   have i1:inR (i:Int) l.length:=⟨by omega,by omega⟩
   have hi' :(i:Int)<(l.length:Int):=by omega
   have w1:IntKind.i64.wrap ((i:Int)+1)=(i:Int)+1:=zz (by omega) (by omega)
   have ee:atI (.pair tS (.pair tI (.pair tS tS))) l (i:Int)=e:=by
    unfold atI
    rw [Int.toNat_natCast]
    simp only [List.getD,hx]
    rfl
   rw [zi,if_pos (decide_eq_true hi'),zn i1]
   simp only [ee]
   rw [zP,hp,za,zi]
   unfold lkS
   by_cases c1:(e.1==h)=true
   ·rw [if_pos c1,zi]
    by_cases c2:(e.2.1==4)=true
    ·rw [if_pos c2,zi]
     by_cases c3:(pfx e.2.2.1).2.2=true
     ·rw [if_pos c3,zi]
      by_cases c4:decide (s.1<(pfx e.2.2.1).2.1)=true
      ·rw [if_pos c4,zm,F_in (hpr c3).1 h0 h1,za,zi]
       by_cases c5:inB (pfx e.2.2.1).1 (pfx e.2.2.1).2.1 ip=true
       ·rw [if_pos c5,if_pos (by simp only [c1,c2,c3,c4,c5,Bool.and_self]),ze,w1]
       ·rw [if_neg c5,if_neg (fun hh=>c5 (by simp only [Bool.and_eq_true] at hh;exact hh.2.2.2.2)),ze,w1]
      ·rw [if_neg c4,if_neg (fun hh=>c4 (by simp only [Bool.and_eq_true] at hh;exact hh.2.2.2.1)),ze,w1]
     ·rw [if_neg c3,if_neg (fun hh=>c3 (by simp only [Bool.and_eq_true] at hh;exact hh.2.2.1)),ze,w1]
    ·rw [if_neg c2,if_neg (fun hh=>c2 (by simp only [Bool.and_eq_true] at hh;exact hh.2.1)),ze,w1]
   ·rw [if_neg c1,if_neg (fun hh=>c1 (by simp only [Bool.and_eq_true] at hh;exact hh.1)),ze,w1])
  (fun _ _ _ _ _ _ _=>trivial)
  (fun s ha=>by
   unfold zkL zp5
   rw [zi,if_neg (by simp)]
   rfl) (-1,[]) trivial 300000 (by omega)
 have hE: ∀ (l:List En) (s:Int×Bs),runE (R:=Bs×Bool) (fun s e=> .inl (lkS h ip s e)) l s= .inl (l.foldl (lkS h ip) s):=by
  intro l
  induction l with
  | nil=>intro s;rfl
  | cons e l ih=>
   intro s
   simp only [runE,List.foldl_cons]
   exact ih _
 rw [hE] at hrun
 unfold F11 V11
 rw [zB]
 have hW:zp6 300000 (h,ip,-1,[],l,(l.length:Int),0)=some (.brk 0 (h,ip,(l.foldl (lkS h ip) (-1,[])).1,(l.foldl (lkS h ip) (-1,[])).2,l,(l.length:Int),(l.length:Int))):=hrun
 rw [hW,yX,ze]
theorem zaO (h:Bs) (ip:Int): ∀ (l:List En) (s:Int×Bs),l.foldl (lkS h ip) s=(l.filter fun e=>e.1==h&&e.2.1==4).foldl (lkS h ip) s
 | [],_=>rfl
 | e::l,s=>by
  rw [List.foldl_cons,List.filter_cons]
  by_cases c:(e.1==h&&e.2.1==4)=true
  ·rw [if_pos c,List.foldl_cons,zaO h ip l]
  ·rw [if_neg c]
   have:lkS h ip s e=s:=by
    unfold lkS
    rw [if_neg]
    intro hh
    simp only [Bool.and_eq_true] at hh
    exact c (by simp only [hh.1,hh.2.1,Bool.and_self])
   rw [this,zaO h ip l]
theorem zqM {h p q v w:Bs} (hb:bl p q=true):ahd (h,4,p,v) (h,4,q,w)=true:=zeB.2 (.inr ⟨rfl,.inr ⟨rfl,.inl hb⟩⟩)
theorem ziL {t:List Ln} (hr:zE t=true) {l:List En} (hT:zsV t l) {h:Bs} (hh:h∈undS t [zp]):(l.filter fun e=>e.1==h&&e.2.1==4)=rtsE t h:=by
 obtain ⟨_,h1,h2,h3⟩:=hT
 refine zqe zeG (h1.filter _) ?_ fun x=> ?_
 ·unfold rtsE
  exact List.Pairwise.map _ (fun a b hab=>zqM hab) (zqI hr [zq])
 ·have hown: ∀ g,x∈rtsE t g→x.1=g∧x.2.1=4:=fun g hx=>by
   unfold rtsE at hx
   obtain ⟨p,hp,rfl⟩:=List.mem_map.1 hx
   exact ⟨rfl,rfl⟩
  rw [List.mem_filter]
  constructor
  ·rintro ⟨hx,hc⟩
   simp only [Bool.and_eq_true,beq_iff_eq] at hc
   obtain ⟨g,hg,hgx⟩:=(h3 x).1 ⟨hx,hc.2⟩
   have:g=h:=by rw [← (hown g hgx).1,hc.1]
   rw [← this];exact hgx
  ·intro hx
   obtain ⟨e1,e2⟩:=hown h hx
   exact ⟨((h3 x).2 ⟨h,hh,hx⟩).1,by simp only [e1,e2,beq_self_eq_true,Bool.and_self]⟩
theorem F_few (t:List Ln): ∃ b,F5 300000 t=some b∧(b=true→t.length≤60∧zE t=true):=by
 unfold F5 V5
 rw [zm,zqm 300000 t (by omega),za,zi]
 split
 ·rw [zi]
  split
  ·rename_i h1 h2
   have h2:(t.length:Int)≤60:=of_decide_eq_true h2
   rw [zm,zqr 300000 t (by omega),za,ze]
   exact ⟨_,rfl,fun h=>⟨by omega,h⟩⟩
  ·exact ⟨_,rfl,fun h=>by cases h⟩
 ·exact ⟨_,rfl,fun h=>by cases h⟩
set_option maxHeartbeats 4000000 in
theorem W_ref {t:List Ln} (hr:zE t=true) (hs:t.length≤60) (hG: ∀ i,i<t.length→Good t i) (l:List En) (h:Bs) {ip:Int} (h0:0≤ip) (h1:ip<4294967296):
  zqi 300000 (t,ip,l,h,-1,[],undS t [zq],((undS t [zq]).length:Int),0)=some (.brk 0 (t,ip,l,h,((rtsE t h).foldl (lkS h ip) (-1,[])).1,((rtsE t h).foldl (lkS h ip) (-1,[])).2,undS t [zq],((undS t [zq]).length:Int),((undS t [zq]).length:Int))):=by
 have hv:=je t [zq]
 have hrun:=ye (R:=Bool) (step:=fun x=>zkZ 300000 x.1 x.2.1 x.2.2.1 x.2.2.2.1 x.2.2.2.2.1 x.2.2.2.2.2.1 x.2.2.2.2.2.2.1 x.2.2.2.2.2.2.2.1 x.2.2.2.2.2.2.2.2) (undS t [zq]) (fun (s:Int×Bs) i=>(t,ip,l,h,s.1,s.2,undS t [zq],((undS t [zq]).length:Int),i)) (fun _ _=>True) (fun s w=> .inl (lkS h ip s (rtE t h w)))
  (fun s i w ha hx=>by
   have hi:i<(undS t [zq]).length:=(List.getElem?_eq_some_iff.1 hx).1
   have hwm:=List.mem_of_getElem? hx
   obtain ⟨hty,g,ipw,hvia,hip⟩:=znD hr hG hwm
   have hwl:=qL hr hwm
   obtain ⟨n,bits,p1,p2,p3⟩:=zgD (w:=w) (by omega) hty
   have hpf:pfx w=(n,bits,true):=by unfold pfx;rw [p1];rfl
   have hvg:viaS t w=g:=by unfold viaS oneS;rw [hvia];rfl
   have hipo:oneS t [] [zp,g,kIp]=ipw:=by unfold oneS;rw [hip];rfl
   have hgl:ipw.length≤40:=qL hr (q:=[zp,g,kIp]) (by rw [hip];simp)
   have hml:(oneS t [48] [zq,w,yK]).length≤40:=jO hr (by simp) _
   have hmlen:=je t [zq,w,yK]
   have hmat:atI tS (undS t [zq,w,yK]++[[48]]) 0=oneS t [48] [zq,w,yK]:=by
    unfold oneS atI
    cases undS t [zq,w,yK]<;>rfl
   have hm0:inR 0 (undS t [zq,w,yK]++[[48]]).length:=⟨by omega,by rw [List.length_append];simp only [List.length_cons,List.length_nil];omega⟩
   have hg0:inR 0 ([g]:List Bs).length:=⟨by omega,by simp⟩
   have hi0:inR 0 ([ipw]:List Bs).length:=⟨by omega,by simp⟩
   have ag:atI tS ([g]:List Bs) 0=g:=rfl
   have ai:atI tS ([ipw]:List Bs) 0=ipw:=rfl
   have wip:IntKind.i64.wrap ip=ip:=zz (by omega) (by omega)
   have w1:IntKind.i64.wrap ((i:Int)+1)=(i:Int)+1:=zz (by omega) (by omega)
   have i1:inR (i:Int) (undS t [zq]).length:=⟨by omega,by omega⟩
   have hi' :(i:Int)<((undS t [zq]).length:Int):=by omega
   have ew:atI tS (undS t [zq]) (i:Int)=w:=by unfold atI;simp [List.getD,hx]
   have hq1:F8o 300000 t [zq,w,kVia]=some [g]:=by rw [zlk hr (by simp) (by simp),hvia]
   have hq2:F8o 300000 t [zq,w,yK]=some (undS t [zq,w,yK]):=zlk hr (by simp) (by simp)
   have hq3:F8o 300000 t [zp,g,kIp]=some [ipw]:=by rw [zlk hr (by simp) (by simp),hip]
   have e1:((([g]:List Bs).length:Int) !=1)=false:=rfl
   have e2:((([ipw]:List Bs).length:Int) !=1)=false:=rfl
   have hlk:lkS h ip s (rtE t h w)=if (decide (s.1<bits)&&inB n bits ip)=true then (bits,(rtE t h w).2.2.2) else s:=by
    have k1:(rtE t h w).1=h:=rfl
    have k2:(rtE t h w).2.1=4:=rfl
    have k3:(rtE t h w).2.2.1=w:=rfl
    unfold lkS
    rw [k1,k2,k3,hpf]
    simp only [beq_self_eq_true,Bool.true_and]
   unfold zkZ zqh
   dsimp only
   rw [zi,if_pos (decide_eq_true hi'),zn i1,zn i1]
   simp only [ew,wip]
   rw [zM,p3,za,zm]
   dsimp only
   rw [R_in p2 h0 h1,za,zi,hlk]
   by_cases c1:inB n bits ip=true
   ·rw [c1]
    rw [if_neg (show ¬ (!true)=true by decide),zi]
    by_cases c2:bits≤s.1
    ·rw [if_pos (decide_eq_true c2),if_neg (fun hh=>by simp only [Bool.and_true,decide_eq_true_eq] at hh;omega),ze,w1]
    ·rw [if_neg (by simpa using c2),if_pos (show (decide (s.1<bits)&&true)=true by rw [Bool.and_true];exact decide_eq_true (by omega)),zm,hq1,za,zm,hq2,za,zn (show room _ by show _≤_;simp;omega),zi,e1,if_neg (by decide),zn hg0,zn hg0]
     simp only [ag]
     rw [zm,hq3,za,zi,e2,if_neg (by decide),zn hi0,zn hi0]
     simp only [ai,hmat]
     rw [zn (show room _ by show _≤_;simp;omega),zn hm0,zn hm0,zn (show room _ by show _≤_;simp;omega),zn hg0,zn hg0,zi]
     by_cases c3:g=h
     ·rw [if_pos (beq_iff_eq.2 c3),zn hm0,zn hm0,zn (show room _ by show _≤_;simp;omega),ze,w1]
      have:(rtE t h w).2.2.2=([108,111,99,97,108,32]:Bs)++oneS t [48] [zq,w,yK]:=by
       unfold rtE
       rw [hvg,if_pos c3]
       rfl
      rw [this]
     ·rw [if_neg (fun he=>c3 (eq_of_beq he)),ze,w1]
      have:(rtE t h w).2.2.2=(ipw++[32])++oneS t [48] [zq,w,yK]:=by
       unfold rtE
       rw [hvg,if_neg c3,hipo]
      rw [this]
   ·have c1:inB n bits ip=false:=by simpa using c1
    rw [c1]
    rw [if_pos (show (!false)=true from rfl),if_neg (by simp),ze,w1])
  (fun _ _ _ _ _ _ _=>trivial)
  (fun s ha=>by
   unfold zkZ zqh
   rw [zi,if_neg (by simp)]
   rfl) (-1,[]) trivial 300000 (by omega)
 have hE: ∀ (l:List Bs) (s:Int×Bs),runE (R:=Bool) (fun s w=> .inl (lkS h ip s (rtE t h w))) l s= .inl ((l.map (rtE t h)).foldl (lkS h ip) s):=by
  intro l
  induction l with
  | nil=>intro s;rfl
  | cons e l ih=>
   intro s
   simp only [runE,List.map_cons,List.foldl_cons]
   exact ih _
 rw [hE] at hrun
 exact hrun
theorem top_packets (t:List Ln) {i ip:Int} (hi0:0≤i) (hi1:i≤255) (h0:0≤ip) (h1:ip<4294967296):F3 300000 t i ip=some true:=by
 have h6:F6 300000=some true:=rfl
 obtain ⟨b,hb,hfew⟩:=F_few t
 unfold F3 V3
 rw [zm,hb,za,zi]
 cases b with
 | false=>rw [if_pos (show (!false)=true from rfl),zm,h6];rfl
 | true=>
  obtain ⟨hs,hr⟩:=hfew rfl
  obtain ⟨l,e,h7,hcase⟩:=zlm hr hs
  have hhosts:F8o 300000 t [zp]=some (undS t [zp]):=zlk hr (by simp) (by simp)
  have hroutes:F8o 300000 t [zq]=some (undS t [zq]):=zlk hr (by simp) (by simp)
  rw [if_neg (by decide),zM,h7,za,zm]
  dsimp only
  rw [hhosts,za,zi]
  rcases hcase with rfl | ⟨rfl,hG,hT⟩
  ·rw [if_pos (by decide),zi,if_neg (by decide),zi,if_pos (by decide),zm,h6];rfl
  ·rw [if_neg (by decide),zi]
   by_cases hz:(((undS t [zp]).length:Int)==0)=true
   ·rw [if_pos hz,zi,if_pos (by decide),zm,h6];rfl
   ·rw [if_neg hz]
    have hz' :((undS t [zp]).length:Int)≠0:=by simpa using hz
    have hpos:(0:Int)<((undS t [zp]).length:Int):=by omega
    have wi:IntKind.i64.wrap i=i:=zz (by omega) (by omega)
    have wip:IntKind.i64.wrap ip=ip:=zz (by omega) (by omega)
    have hm0:0≤i.tmod ((undS t [zp]).length:Int):=Int.tmod_nonneg _ hi0
    have hm1:i.tmod ((undS t [zp]).length:Int)<((undS t [zp]).length:Int):=Int.tmod_lt_of_pos _ hpos
    have hin:inR (i.tmod ((undS t [zp]).length:Int)) (undS t [zp]).length:=⟨hm0,hm1⟩
    have hlt:(i.tmod ((undS t [zp]).length:Int)).toNat<(undS t [zp]).length:=by omega
    have ea:atI tS (undS t [zp]) (i.tmod ((undS t [zp]).length:Int))=(undS t [zp])[(i.tmod ((undS t [zp]).length:Int)).toNat]:=by
     have:=atW (undS t [zp]) _ hlt
     rwa [Int.toNat_of_nonneg hm0] at this
    have hmem:atI tS (undS t [zp]) (i.tmod ((undS t [zp]).length:Int))∈undS t [zp]:=by rw [ea];exact List.getElem_mem hlt
    rw [zn hz']
    simp only [wi]
    rw [zn hin,zn hin,zm,hroutes,za,zB]
    generalize atI tS (undS t [zp]) (i.tmod ((undS t [zp]).length:Int))=h at hmem
    rw [W_ref hr hs hG l h h0 h1,yX,zM]
    dsimp only
    obtain ⟨t1,t2,t3,t4⟩:=hT
    rw [wip,zsW l h h0 h1 t1 t3,zaO,ziL hr ⟨t1,t2,t3,t4⟩ hmem,za]
    dsimp only
    rw [zi,if_pos (beq_self_eq_true _),zi,if_pos (beq_self_eq_true _),zm,h6]
    rfl
end
end Go.Proofs.YthcmfnkganacaaaGreatDoor.Vc
