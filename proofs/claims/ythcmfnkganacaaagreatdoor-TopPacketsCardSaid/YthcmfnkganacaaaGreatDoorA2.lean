/-
  THE CONDITION IS SOUND, TENTH PART: calls; each operation under one name.
  No condition: the lemmas hold for every program.
-/
import Derived.Test.YthcmfnkganacaaaGreatDoorA1
import Derived.Laws.CopyRow
import Derived.Lib.AppendStr
set_option linter.unusedVariables false
set_option linter.unusedSimpArgs false
namespace Go.Proofs.YthcmfnkganacaaaGreatDoor.Vc
section
open Go.RowKit
section
variable {P:Program} {w0:W0 P} {w:World} {F0 F:Nat→Prop} {M:Nat→Option MO} {σ:St} {a:Act} {o:Oper}
theorem Inv.turn {w' :World} {row:Option Nat} (h:Inv w0 F0 F M σ a w) (hg:w.grownBy w' row) (hr: ∀ g,row=some g→w0.nw g∧ ¬F g∧ ∀ i mi,M i=some mi→mi.g≠some g):Inv w0 F0 F M σ a w' :=by
 have hs:Same F w w' :=fun g hgF=>hg.block g (h.flt g hgF).1 (fun e=>(hr g e.symm).2.1 hgF)
 refine ⟨h.defers,h.size,fun i=>(h.slots i).keep hs (fun _ x=>x) (MLe.refl M),fun id o ho=> ?_,h.apart,fun i mi g hi hgi=> ?_,fun g hgF=> ?_,h.fle,?_,h.pins⟩
 ·obtain ⟨mo,h1,h2⟩:=h.obs id o ho
  exact ⟨mo,h1,h2.keep hs (fun _ x=>x) (MLe.refl M) fun g hgi=>hg.block g (h.mine _ _ _ h1 hgi).2.2 (fun e=>(hr g e.symm).2.2 _ _ h1 hgi)⟩
 ·obtain ⟨h1,h2,h3⟩:=h.mine i mi g hi hgi
  exact ⟨h1,h2,Nat.lt_of_lt_of_le h3 hg.size⟩
 ·obtain ⟨h1,h2⟩:=h.flt g hgF
  exact ⟨Nat.lt_of_lt_of_le h1 hg.size,h2⟩
 ·exact h.below.grown hg fun k hk=>(hr k hk).1
theorem Inv.add (h:Inv w0 F0 F M σ a w) (d:Nat) (hd:M d=none) (o:Ob) (p:D) (mo:MO) (v:Value) (dst:Option Nat)
  (hg: ∀ g,mo.g=some g→w0.nw g∧ ¬F g∧g<w.heap.size∧ ∀ i mi,M i=some mi→mi.g≠some g)
  (ho: ∀ M',M' d=some mo→MLe M M' →ObR w F M' w0.nw mo o)
  (hp: ∀ M',M' d=some mo→MLe M M' →R w F M' v p) (hpin:o.pin=false:=by rfl):
  ∃ M',Inv w0 F0 F M' (({ σ with ob:=(d,o)::σ.ob }:St).put dst p) (a.put dst v) w:=by
 have hM:MLe M (fun j=>if j=d then some mo else M j):=fun i m hi=>by
  have hne:i≠d:=fun e=>by subst e;rw [hd] at hi;cases hi
  simp only [hne,if_false];exact hi
 have hinv:Inv w0 F0 F (fun j=>if j=d then some mo else M j) { σ with ob:=(d,o)::σ.ob } a w:=by
  refine ⟨h.defers,h.size,fun i=>(h.slots i).keep (fun _ _=>rfl) (fun _ x=>x) hM,fun j o' ho' => ?_,fun i j mi mj g hi hj hgi hgj=> ?_,fun i mi g hi hgi=> ?_,h.flt,h.fle,h.below,fun j o' ho' hpo=> ?_⟩
  ·change zg ((d,o)::σ.ob) j=some o' at ho'
   simp only [zg] at ho'
   rcases zj j d with ⟨rfl,hbq⟩ | ⟨hne,hbq⟩
   ·rw [hbq] at ho'
    have:o=o' :=Option.some.inj ho'
    subst this
    exact ⟨mo,by simp,ho _ (by simp) hM⟩
   ·rw [hbq] at ho'
    obtain ⟨m,h2,h3⟩:=h.obs j o' ho'
    exact ⟨m,by simp only [hne,if_false];exact h2,h3.keep (fun _ _=>rfl) (fun _ x=>x) hM fun _ _=>rfl⟩
  ·by_cases hid:i=d<;>by_cases hjd:j=d
   ·rw [hid,hjd]
   ·simp only [hid,if_true] at hi
    simp only [hjd,if_false] at hj
    have:mo=mi:=Option.some.inj hi
    subst this
    exact absurd hgj ((hg g hgi).2.2.2 j mj hj)
   ·simp only [hid,if_false] at hi
    simp only [hjd,if_true] at hj
    have:mo=mj:=Option.some.inj hj
    subst this
    exact absurd hgi ((hg g hgj).2.2.2 i mi hi)
   ·simp only [hid,if_false] at hi
    simp only [hjd,if_false] at hj
    exact h.apart i j mi mj g hi hj hgi hgj
  ·by_cases hid:i=d
   ·simp only [hid,if_true] at hi
    have:mo=mi:=Option.some.inj hi
    subst this
    obtain ⟨h2,h3,h4,_⟩:=hg g hgi
    exact ⟨h3,h2,h4⟩
   ·simp only [hid,if_false] at hi
    exact h.mine i mi g hi hgi
  ·change zg ((d,o)::σ.ob) j=some o' at ho'
   simp only [zg] at ho'
   rcases zj j d with ⟨rfl,hbq⟩ | ⟨hne,hbq⟩
   ·rw [hbq] at ho'
    have:o=o' :=Option.some.inj ho'
    subst this
    rw [hpin] at hpo;cases hpo
   ·rw [hbq] at ho'
    simp only [hne,if_false];exact h.pins j o' ho' hpo
 exact ⟨_,hinv.put (hp _ (by simp) hM) dst⟩
theorem Inv.addOb (h:Inv w0 F0 F M σ a w) (d:Nat) (hd:M d=none) (o:Ob) (mo:MO) (hg:mo.g=none) (ho: ∀ M',M' d=some mo→MLe M M' →ObR w F M' w0.nw mo o) (hpin:o.pin=false:=by rfl):
  ∃ M',Inv w0 F0 F M' { σ with ob:=(d,o)::σ.ob } a w∧M' d=some mo∧ ∀ j,j≠d→M' j=M j:=by
 have hM:MLe M (fun j=>if j=d then some mo else M j):=fun i m hi=>by
  have hne:i≠d:=fun e=>by subst e;rw [hd] at hi;cases hi
  simp only [hne,if_false];exact hi
 refine ⟨fun j=>if j=d then some mo else M j,⟨h.defers,h.size,fun i=>(h.slots i).keep (fun _ _=>rfl) (fun _ x=>x) hM,fun j o' ho' => ?_,fun i j mi mj g hi hj hgi hgj=> ?_,fun i mi g hi hgi=> ?_,h.flt,h.fle,h.below,fun j o' ho' hpo=> ?_⟩,by simp,fun j hj=>by simp [hj]⟩
 ·change zg ((d,o)::σ.ob) j=some o' at ho'
  simp only [zg] at ho'
  rcases zj j d with ⟨rfl,hbq⟩ | ⟨hne,hbq⟩
  ·rw [hbq] at ho'
   have:o=o' :=Option.some.inj ho'
   subst this
   exact ⟨mo,by simp,ho _ (by simp) hM⟩
  ·rw [hbq] at ho'
   obtain ⟨m,h2,h3⟩:=h.obs j o' ho'
   exact ⟨m,by simp only [hne,if_false];exact h2,h3.keep (fun _ _=>rfl) (fun _ x=>x) hM fun _ _=>rfl⟩
 ·by_cases hid:i=d
  ·simp only [hid,if_true] at hi
   have:mo=mi:=Option.some.inj hi
   subst this
   rw [hg] at hgi;cases hgi
  ·by_cases hjd:j=d
   ·simp only [hjd,if_true] at hj
    have:mo=mj:=Option.some.inj hj
    subst this
    rw [hg] at hgj;cases hgj
   ·simp only [hid,if_false] at hi
    simp only [hjd,if_false] at hj
    exact h.apart i j mi mj g hi hj hgi hgj
 ·by_cases hid:i=d
  ·simp only [hid,if_true] at hi
   have:mo=mi:=Option.some.inj hi
   subst this
   rw [hg] at hgi;cases hgi
  ·simp only [hid,if_false] at hi
   exact h.mine i mi g hi hgi
 ·change zg ((d,o)::σ.ob) j=some o' at ho'
  simp only [zg] at ho'
  rcases zj j d with ⟨rfl,hbq⟩ | ⟨hne,hbq⟩
  ·rw [hbq] at ho'
   have:o=o' :=Option.some.inj ho'
   subst this
   rw [hpin] at hpo;cases hpo
  ·rw [hbq] at ho'
   simp only [hne,if_false];exact h.pins j o' ho' hpo
theorem qx (l:List (Nat×Ob)) (i j:Nat) (o:Ob) {o' :Ob} (h:zg (qo l i o) j=some o'):(j=i∧o' =o)∨(j≠i∧zg l j=some o'):=by
 induction l with
 | nil=>simp [qo,zg] at h
 | cons p r ih=>
  obtain ⟨k,q⟩:=p
  simp only [qo] at h
  rcases zj i k with ⟨rfl,hb⟩ | ⟨hne,hb⟩
  ·rw [hb] at h
   have h:zg ((i,o)::r) j=some o' :=h
   simp only [zg] at h ⊢
   rcases zj j i with ⟨rfl,hb2⟩ | ⟨hne2,hb2⟩
   ·rw [hb2] at h
    exact .inl ⟨rfl,(Option.some.inj h).symm⟩
   ·rw [hb2] at h ⊢
    exact .inr ⟨hne2,h⟩
  ·rw [hb] at h
   have h:zg ((k,q)::qo r i o) j=some o' :=h
   simp only [zg] at h ⊢
   rcases zj j k with ⟨rfl,hb2⟩ | ⟨hne2,hb2⟩
   ·rw [hb2] at h ⊢
    exact .inr ⟨fun e=>hne e.symm,h⟩
   ·rw [hb2] at h ⊢
    exact ih h
theorem Inv.store {w' :World} (h:Inv w0 F0 F M σ a w) {i:Nat} {mo:MO} {g:Nat} (hm:M i=some mo) (hgo:mo.g=some g) (hg:w.grownBy w' (some g)) (o:Ob) (ho:ObR w' F M w0.nw mo o)
  (hpin:o.pin=true→M i=w0.p i):Inv w0 F0 F M { σ with ob:=qo σ.ob i o } a w' :=by
 obtain ⟨hm1,hm2,hm3⟩:=h.mine i mo g hm hgo
 have hs:Same F w w' :=fun b hb=>hg.block b (h.flt b hb).1 (fun e=>by cases e;exact hm1 hb)
 refine ⟨h.defers,h.size,fun j=>(h.slots j).keep hs (fun _ x=>x) (MLe.refl M),fun j o' ho' => ?_,h.apart,fun j mj b hj hb=> ?_,fun b hb=> ?_,h.fle,?_,fun j o' ho' hpo=> ?_⟩
 ·rcases qx _ _ _ _ ho' with ⟨rfl,rfl⟩ | ⟨hne,hf⟩
  ·exact ⟨mo,hm,ho⟩
  ·obtain ⟨m,h1,h2⟩:=h.obs j o' hf
   exact ⟨m,h1,h2.keep hs (fun _ x=>x) (MLe.refl M) fun b hb=>hg.block b (h.mine _ _ _ h1 hb).2.2 (fun e=>by cases e;exact hne (h.apart _ _ _ _ _ h1 hm hb hgo))⟩
 ·obtain ⟨h1,h2,h3⟩:=h.mine j mj b hj hb
  exact ⟨h1,h2,Nat.lt_of_lt_of_le h3 hg.size⟩
 ·obtain ⟨h1,h2⟩:=h.flt b hb
  exact ⟨Nat.lt_of_lt_of_le h1 hg.size,h2⟩
 ·exact h.below.grown hg fun k hk=>by cases hk;exact hm2
 ·rcases qx _ _ _ _ ho' with ⟨rfl,rfl⟩ | ⟨_,hf⟩
  ·exact hpin hpo
  ·exact h.pins j o' hf hpo
theorem jz (w:World) (ob:Obj):Below w.heap.size w (w.alloc ob):=(Below.refl _ _).alloc (Nat.le_refl _) ob
theorem Rel.head {us:List Value} {c:D} {r:List D} (h:Rel w F M us (c::r)): ∃ u us',us=u::us' ∧u.oneCell' =true∧R0 w F M u c∧Rel w F M us' r:=by
 obtain ⟨u,h1,h2,h3⟩:=h.2 0 _ rfl
 cases us with
 | nil=>simp at h1
 | cons u' us' =>
  have:u' =u:=by simpa using h1
  subst this
  exact ⟨u',us',rfl,h2,h3,by have:=h.1;simpa using this,fun j c hj=>by simpa using h.2 (j+1) c (by simpa using hj)⟩
theorem qq: ∀ {t:Ty} {M:Nat→Option MO} {us:List Value} {cs:List D} {x:t.I} {r:List D},Rel w F M us cs→dec t cs=some (x,r)→ ∃ u1 u2,us=u1++u2∧RV w F t x u1∧Rel w F M u2 r
 | .pair p q,M,us,cs,x,r,h,hd=>by
  simp only [dec] at hd
  split at hd
  ·rename_i x1 r1 h1
   split at hd
   ·rename_i y1 r2 h2
    simp only [Option.some.injEq,Prod.mk.injEq] at hd
    obtain ⟨rfl,rfl⟩:=hd
    obtain ⟨u1,u2,rfl,h3,h4⟩:=qq h h1
    obtain ⟨u3,u4,rfl,h5,h6⟩:=qq h4 h2
    exact ⟨u1++u3,u4,by simp,⟨u1,u3,rfl,h3,h5⟩,h6⟩
   ·cases hd
  ·cases hd
 | .list t,M,us,cs,x,r,h,hd=>by
  simp only [dec] at hd
  split at hd
  ·rename_i r1
   simp only [Option.some.injEq,Prod.mk.injEq] at hd
   obtain ⟨rfl,rfl⟩:=hd
   obtain ⟨u,us',rfl,_,⟨A,h3⟩,h4⟩:=h.head
   exact ⟨[u],us',rfl,⟨A,0,by rw [h3];rfl,Nat.le_refl _,by simp [maxLen],fun i y hy=>by simp at hy⟩,h4⟩
  ·rename_i t1 x1 r1
   split at hd
   ·rename_i e
    subst e
    simp only [Option.some.injEq,Prod.mk.injEq] at hd
    obtain ⟨rfl,rfl⟩:=hd
    obtain ⟨u,us',rfl,_,h3,h4⟩:=h.head
    exact ⟨[u],us',rfl,h3,h4⟩
   ·cases hd
  ·cases hd
 | .int k,M,us,cs,x,r,h,hd=>by
  simp only [dec] at hd
  split at hd
  ·rename_i t1 x1 r1
   split at hd
   ·rename_i e
    subst e
    simp only [Option.some.injEq,Prod.mk.injEq] at hd
    obtain ⟨rfl,rfl⟩:=hd
    obtain ⟨u,us',rfl,_,h3,h4⟩:=h.head
    exact ⟨[u],us',rfl,h3,h4⟩
   ·cases hd
  ·cases hd
 | .bool,M,us,cs,x,r,h,hd=>by
  simp only [dec] at hd
  split at hd
  ·rename_i t1 x1 r1
   split at hd
   ·rename_i e
    subst e
    simp only [Option.some.injEq,Prod.mk.injEq] at hd
    obtain ⟨rfl,rfl⟩:=hd
    obtain ⟨u,us',rfl,_,h3,h4⟩:=h.head
    exact ⟨[u],us',rfl,h3,h4⟩
   ·cases hd
  ·cases hd
 | .str,M,us,cs,x,r,h,hd=>by
  simp only [dec] at hd
  split at hd
  ·rename_i t1 x1 r1
   split at hd
   ·rename_i e
    subst e
    simp only [Option.some.injEq,Prod.mk.injEq] at hd
    obtain ⟨rfl,rfl⟩:=hd
    obtain ⟨u,us',rfl,_,h3,h4⟩:=h.head
    exact ⟨[u],us',rfl,h3,h4⟩
   ·cases hd
  ·cases hd
 | .flt,M,us,cs,x,r,h,hd=>by
  simp only [dec] at hd
  split at hd
  ·rename_i t1 x1 r1
   split at hd
   ·rename_i e
    subst e
    simp only [Option.some.injEq,Prod.mk.injEq] at hd
    obtain ⟨rfl,rfl⟩:=hd
    obtain ⟨u,us',rfl,_,h3,h4⟩:=h.head
    exact ⟨[u],us',rfl,h3,h4⟩
   ·cases hd
  ·cases hd
 | .err,M,us,cs,x,r,h,hd=>by
  simp only [dec] at hd
  split at hd
  ·rename_i t1 x1 r1
   split at hd
   ·rename_i e
    subst e
    simp only [Option.some.injEq,Prod.mk.injEq] at hd
    obtain ⟨rfl,rfl⟩:=hd
    obtain ⟨u,us',rfl,_,h3,h4⟩:=h.head
    exact ⟨[u],us',rfl,h3,h4⟩
   ·cases hd
  ·cases hd
 | .nfn,M,us,cs,x,r,h,hd=>by
  simp only [dec] at hd
  split at hd
  ·rename_i t1 x1 r1
   split at hd
   ·rename_i e
    subst e
    simp only [Option.some.injEq,Prod.mk.injEq] at hd
    obtain ⟨_,rfl⟩:=hd
    obtain ⟨u,us',rfl,_,h3,h4⟩:=h.head
    exact ⟨[u],us',rfl,h3,h4⟩
   ·cases hd
  ·cases hd
 | .fn0 g,M,us,cs,x,r,h,hd=>by
  simp only [dec] at hd
  split at hd
  ·split at hd
   ·rename_i e
    subst e
    simp only [Option.some.injEq,Prod.mk.injEq] at hd
    obtain ⟨_,rfl⟩:=hd
    obtain ⟨u,us',rfl,_,h3,h4⟩:=h.head
    exact ⟨[u],us',rfl,by rw [show u=_ from h3];rfl,h4⟩
   ·cases hd
  ·rename_i t1 x1 r1
   split at hd
   ·rename_i e
    subst e
    simp only [Option.some.injEq,Prod.mk.injEq] at hd
    obtain ⟨_,rfl⟩:=hd
    obtain ⟨u,us',rfl,_,h3,h4⟩:=h.head
    exact ⟨[u],us',rfl,h3,h4⟩
   ·cases hd
  ·cases hd
 | .clo g t,M,us,cs,x,r,h,hd=>by
  simp only [dec] at hd
  split at hd
  ·split at hd
   ·rename_i e
    subst e
    split at hd
    ·rename_i y hy
     simp only [Option.some.injEq,Prod.mk.injEq] at hd
     obtain ⟨rfl,rfl⟩:=hd
     obtain ⟨u,us',rfl,_,⟨vs,h3,h5,h6⟩,h4⟩:=h.head
     obtain ⟨u1,u2,h7,h8,h9⟩:=qq (t:=t) (M:=noM) (us:=vs.toList) ⟨by simpa using h5,fun j c hj=>by
      obtain ⟨u',h10,h11,h12⟩:=h6 j c hj
      exact ⟨u',by simpa using h10,h11,h12.to0⟩⟩ hy
     have:u2=[]:=List.eq_nil_of_length_eq_zero (by simpa using h9.1)
     subst this
     rw [List.append_nil] at h7
     exact ⟨[u],us',rfl,⟨vs,by rw [h3],by rw [h7];exact h8⟩,h4⟩
    ·cases hd
   ·cases hd
  ·rename_i t1 x1 r1
   split at hd
   ·rename_i e
    subst e
    simp only [Option.some.injEq,Prod.mk.injEq] at hd
    obtain ⟨rfl,rfl⟩:=hd
    obtain ⟨u,us',rfl,_,h3,h4⟩:=h.head
    exact ⟨[u],us',rfl,h3,h4⟩
   ·cases hd
  ·cases hd
 | .ref t,M,us,cs,x,r,h,hd=>by
  simp only [dec] at hd
  split at hd
  ·split at hd
   ·rename_i y hy
    simp only [Option.some.injEq,Prod.mk.injEq] at hd
    obtain ⟨rfl,rfl⟩:=hd
    obtain ⟨u,us',rfl,_,⟨A,vs,h3,h5,h6,h7,h8⟩,h4⟩:=h.head
    obtain ⟨u1,u2,h9,h10,h11⟩:=qq (t:=t) (M:=noM) (us:=vs) ⟨h7,fun j c hj=>by
     obtain ⟨u',h12,h13⟩:=h8 j c hj
     exact ⟨u',h12,(h6 j u' h12).2,h13.to0⟩⟩ hy
    have:u2=[]:=List.eq_nil_of_length_eq_zero (by simpa using h11.1)
    subst this
    rw [List.append_nil] at h9
    exact ⟨[u],us',rfl,⟨A,vs,by rw [h3],h5,by rw [h9];exact h10,h6⟩,h4⟩
   ·cases hd
  ·rename_i t1 x1 r1
   split at hd
   ·rename_i e
    subst e
    simp only [Option.some.injEq,Prod.mk.injEq] at hd
    obtain ⟨rfl,rfl⟩:=hd
    obtain ⟨u,us',rfl,_,h3,h4⟩:=h.head
    exact ⟨[u],us',rfl,h3,h4⟩
   ·cases hd
  ·cases hd
 | .sum a b,M,us,cs,x,r,h,hd=>by
  simp only [dec] at hd
  split at hd
  ·rename_i c r1
   obtain ⟨u,us',rfl,h1,h3,h4⟩:=h.head
   have one:Rel w F M [u] [c]:=⟨rfl,fun j c' hj=>by
    cases j with
    | zero=>
     have:c=c' :=by simpa using hj
     subst this
     exact ⟨u,rfl,h1,h3⟩
    | succ j=>simp at hj⟩
   split at hd
   ·rename_i y hy
    simp only [Option.some.injEq,Prod.mk.injEq] at hd
    obtain ⟨rfl,rfl⟩:=hd
    unfold zqS at hy
    split at hy
    ·split at hy
     ·rename_i e
      subst e
      simp only [Option.some.injEq] at hy
      subst hy
      exact ⟨[u],us',rfl,h3,h4⟩
     ·cases hy
    ·cases hy
   ·split at hd
    ·rename_i y hy
     simp only [Option.some.injEq,Prod.mk.injEq] at hd
     obtain ⟨rfl,rfl⟩:=hd
     obtain ⟨u1,u2,h5,h6,h7⟩:=qq (t:=a) one hy
     have:u2=[]:=List.eq_nil_of_length_eq_zero (by simpa using h7.1)
     subst this
     rw [List.append_nil] at h5
     exact ⟨[u],us',rfl,⟨rfl,by rw [h5];exact h6⟩,h4⟩
    ·split at hd
     ·rename_i y hy
      simp only [Option.some.injEq,Prod.mk.injEq] at hd
      obtain ⟨rfl,rfl⟩:=hd
      obtain ⟨u1,u2,h5,h6,h7⟩:=qq (t:=b) one hy
      have:u2=[]:=List.eq_nil_of_length_eq_zero (by simpa using h7.1)
      subst this
      rw [List.append_nil] at h5
      exact ⟨[u],us',rfl,⟨rfl,by rw [h5];exact h6⟩,h4⟩
     ·cases hd
  ·cases hd
theorem qa {t:Ty} {us:List Value} {cs:List D} {x:t.I} (h:Rel w F M us cs) (hd:yO t cs=some x):RV w F t x us:=by
 unfold yO at hd
 split at hd
 ·rename_i y hy
  simp only [Option.some.injEq] at hd
  subst hd
  obtain ⟨u1,u2,rfl,h1,h2⟩:=qq h hy
  have:u2=[]:=List.eq_nil_of_length_eq_zero (by simpa using h2.1)
  subst this
  simpa using h1
 ·cases hd
theorem zdn {t:Ty} {x:t.I} {xs:List t.I} {u1 u2:List Value} (h1:RV w F t x u1) (h2:Holds w F t xs u2):Holds w F t (x::xs) (u1++u2):=by
 intro i y hy
 have hl:=h1.len
 cases i with
 | zero=>
  have:x=y:=by simpa using hy
  subst this
  simp only [Nat.zero_mul,List.drop_zero]
  rw [← hl,List.take_left]
  exact h1
 | succ i=>
  have:=h2 i y (by simpa using hy)
  rw [Nat.succ_mul,Nat.add_comm,← hl,← List.drop_drop,List.drop_left,hl]
  exact this
theorem zb0 {t:Ty}: ∀ {n:Nat} {us:List Value} {cs:List D} {xs:List t.I},Rel w F M us cs→zaE t n cs=some xs→xs.length=n∧us.length=n*t.width∧Holds w F t xs us
 | 0,us,cs,xs,h,hd=>by
  cases cs with
  | nil=>
   simp only [zaE,Option.some.injEq] at hd
   subst hd
   exact ⟨rfl,by simpa using h.1,fun i x hi=>by simp at hi⟩
  | cons c r=>simp [zaE] at hd
 | n+1,us,cs,xs,h,hd=>by
  simp only [zaE] at hd
  split at hd
  ·rename_i x r hx
   split at hd
   ·rename_i ys hy
    simp only [Option.some.injEq] at hd
    subst hd
    obtain ⟨u1,u2,rfl,h1,h2⟩:=qq h hx
    obtain ⟨h3,h4,h5⟩:=zb0 h2 hy
    refine ⟨by simp [h3],by rw [List.length_append,h1.len,h4,Nat.succ_mul];omega,zdn h1 h5⟩
   ·cases hd
  ·cases hd
theorem RV.free {w' :World} {F' :Nat→Prop}: ∀ {t:Ty} {x:t.I} {cs:List Value},t.flat=true→RV w F t x cs→RV w' F' t x cs
 | .int _,_,_,_,h=>h
 | .bool,_,_,_,h=>h
 | .str,_,_,_,h=>h
 | .pair a b,_,_,hf,h=>by
  simp only [Ty.flat,Bool.and_eq_true] at hf
  obtain ⟨c1,c2,h0,h1,h2⟩:=h
  exact ⟨c1,c2,h0,h1.free hf.1,h2.free hf.2⟩
 | .flt,_,_,_,h=>h
 | .list _,_,_,hf,_=>by cases hf
 | .err,_,_,hf,_=>by cases hf
 | .nfn,_,_,hf,_=>by cases hf
 | .fn0 _,_,_,hf,_=>by cases hf
 | .clo _ _,_,_,hf,_=>by cases hf
 | .ref _,_,_,hf,_=>by cases hf
 | .sum _ _,_,_,hf,_=>by cases hf
end
end
section
open Go.RowKit
section
variable {P:Program} {w0:W0 P} {w:World} {F0 F F1:Nat→Prop} {M:Nat→Option MO} {σ:St} {a:Act} {o:Oper}
def EY (P:Program) (w0:W0 P) (F0:Nat→Prop) (a:Act) (w:World) (o:Oper) (K:St→Prop):Prop:=
 ∃ w' σ' F' M',K σ' ∧((∃ v,(execOp a.eval o).run P w= .ok (.value v) w' ∧Inv w0 F0 F' M' σ' (a.put o.dst v) w')∨
  ((execOp a.eval o).run P w= .ok .skip w' ∧Inv w0 F0 F' M' σ' (a.put o.dst undef) w'))
theorem Rel.keep {w' :World} {F' :Nat→Prop} {M' :Nat→Option MO} (hs:Same F w w') (hF: ∀ g,F g→F' g) (hM:MLe M M') {us:List Value} {cs:List D} (h:Rel w F M us cs):Rel w' F' M' us cs:=
 ⟨h.1,fun j c hj=>by obtain ⟨u,h1,h2,h3⟩:=h.2 j c hj;exact ⟨u,h1,h2,h3.keep hs hF hM⟩⟩
theorem Rel.kill {us:List Value} {cs:List D} (h:Rel w F M us cs) (d:Nat):Rel w F (yu M d) us (zas d .bad cs):=by
 refine ⟨by rw [zcw];exact h.1,fun j c hj=> ?_⟩
 rw [zcv] at hj
 obtain ⟨c',hc',rfl⟩:=Option.map_eq_some_iff.1 hj
 obtain ⟨u,h1,h2,h3⟩:=h.2 j c' hc'
 exact ⟨u,h1,h2,R0.ice (F' :=F) (new:= .bad) (fun _ x=>x) (fun _ _=>trivial) h3⟩
theorem zbE (h:Inv w0 F0 F M σ a w) (ob:Obj):Same F w (w.alloc ob):=fun g hg=>(jz w ob).block g (h.flt g hg).1
theorem Inv.newCells (h:Inv w0 F0 F M σ a w) (d:Nat) {us:Array Value} {cs:List D} (e:TypeId) (hr:Rel w F (yu M d) us.toList cs):
  ∃ M',Inv w0 F0 F M' (σ.putOb d (.cells false e cs) (.ptr d 0)) (a.put (some d) (.pointer (some ⟨w.heap.size,0,none⟩))) (w.alloc (.cells us e)):=by
 refine h.putOb (jz w _) d _ _ ⟨some w.heap.size,.pointer none,0⟩ _ (fun g hg=> ?_) (fun M' _ hM=> ?_) fun M' hd _=>⟨_,_,hd,rfl,rfl⟩
 ·cases hg;simp
 ·refine ⟨w.heap.size,us,rfl,heap_alloc_new w _,by simpa using hr.1,fun j c hj=> ?_⟩
  obtain ⟨u,h1,h2,h3⟩:=hr.2 j c hj
  exact ⟨u,by simpa using h1,h2,h3.keep (zbE h _) (fun _ x=>x) hM⟩
theorem zeZ {e:TypeId} {i:TypeInfo} {z:Value} (hi:P.info? e=some i) (hz:i.zero=some z) {cs:List D} (hc:cellsOf (zaP P e)=some cs) (hg:zco cs=true):Rel w F M z.cells.toList cs:=by
 unfold zaP at hc
 simp only [hi,hz] at hc
 split at hc
 ·rename_i zc heq
  simp only [cellsOf,Option.some.injEq] at hc
  have hzc:z= .agg zc:=by simpa using heq
  subst hzc
  subst hc
  exact zgN hg
 ·rename_i v hv heq
  have hzv:z=v:=by simpa using heq
  subst hzv
  exact yw (R.of0 (R0.ofVal z)) hc
 ·rename_i heq;cases heq
theorem zbF {e:TypeId} (h:zaP P e≠ .bad): ∃ i z,P.info? e=some i∧i.zero=some z:=by
 unfold zaP at h
 split at h
 ·rename_i i hi
  split at h
  ·exact ⟨i,_,hi,‹_›⟩
  ·exact ⟨i,_,hi,‹_›⟩
  ·exact absurd rfl h
 ·exact absurd rfl h
theorem zcB {e:TypeId} {i:TypeInfo} {z:Value} (hi:P.info? e=some i) (hz:i.zero=some z) (w:World):
  (Instr.alloc e true (.tuple #[])).run P w= .ok (.pointer (some ⟨w.heap.size,0,none⟩)) (w.alloc (.cells z.cells e)):=by
 simp [Instr.alloc,zeroValue,typeInfo,hi,hz,newVar,newRow]
variable {K:St→Prop}
theorem zi3 (h:Inv w0 F0 F M σ a w) {e:TypeId} (ho:o.op= .alloc e) (hk:zeS P σ o.dst e K):EY P w0 F0 a w o K:=by
 unfold zeS at hk
 split at hk
 ·rename_i d hd
  split at hk
  ·rename_i n el hu
   split at hk
   ·rename_i u hty
    split at hk
    ·rename_i zs hz
     split at hk
     ·rename_i xs hg hdm
      obtain ⟨i,z,h1,h2⟩:=zbF (P:=P) (e:=e) (by rw [hz];simp)
      have hrel:Rel w F M z.cells.toList zs:=zeZ h1 h2 (by rw [hz];rfl) hg
      obtain ⟨hl,hlen,hh⟩:=zb0 hrel hdm
      have hM' :=h.putOb (w' :=w.alloc (.cells z.cells e)) (jz w _) d (.arr u xs) (.aptr d) ⟨some w.heap.size,.pointer none,u.width⟩ (.pointer (some ⟨w.heap.size,0,none⟩)) (fun g hg=>by cases hg;simp)
       (fun M' _ _=>⟨w.heap.size,z.cells,e,rfl,rfl,heap_alloc_new w _,by rw [hl];simpa using hlen,hh.keep (zbE h _) (fun _ x=>x)⟩)
       fun M' hd _=>⟨_,_,hd,rfl,rfl⟩
      obtain ⟨M',hinv⟩:=hM'
      refine ⟨_,_,F,M',hk,.inl ⟨_,?_,by rw [hd];exact hinv⟩⟩
      unfold execOp;rw [ho]
      simp [zcB h1 h2]
     ·exact hk.elim
    ·exact hk.elim
   ·exact hk.elim
  ·split at hk
   ·rename_i hc
    split at hk
    ·rename_i e8 _
     obtain ⟨i,z,h1,h2⟩:=zbF (P:=P) (e:=e) (fun hb=>by rw [hb] at hc;cases hc)
     have hcells: ∃ p v,z.cells.toList=[p,v]∧p= .pointer none∧v= .slice none 0 0:=by
      have hex: ∀ v,ofVal v= .nils→v= .slice none 0 0:=fun v hv=>by
       unfold ofVal at hv
       split at hv<;>first | rfl | (cases hv;done)
      have hep: ∀ v,ofVal v= .pnil→v= .pointer none:=fun v hv=>by
       unfold ofVal at hv
       split at hv<;>first | rfl | (cases hv;done)
      unfold zaP at hc
      simp only [h1,h2] at hc
      split at hc
      ·rename_i zc heq
       have hzc:z= .agg zc:=by simpa using heq
       subst hzc
       simp only [cellsOf,Option.some.injEq] at hc
       have hl:zc.toList.length=2:=by
        have:=congrArg List.length hc
        rw [zaj] at this
        simpa using this
       match hz:zc.toList,hl with
       | [p,v],_=>
        rw [hz] at hc
        simp only [qM,List.cons.injEq,and_true] at hc
        exact ⟨p,v,rfl,hep p hc.1,hex v hc.2⟩
      ·rename_i v hv heq
       have hlen: ∀ d:D,(∀ cs,d≠ .agg cs)→cellsOf d≠some [.pnil,.nils]:=fun d hd h=>by
        cases d<;>simp [cellsOf] at h
        exact hd _ rfl
       exact absurd hc (hlen _ fun cs hcs=>by
        have: ∀ v:Value,ofVal v≠ .agg cs:=fun v=>by unfold ofVal;split<;>simp
        exact this _ hcs)
      ·rename_i heq;cases heq
     obtain ⟨p,v,hz,rfl,rfl⟩:=hcells
     obtain ⟨M1,g1,g2,_⟩:=(h.kill (gid d 1)).addOb (gid d 1) (yp M _) (.buf e8 []) ⟨none,.slice none 0 0,1⟩ rfl fun M' _ _=>⟨rfl,.inl ⟨rfl,rfl,none,rfl⟩,fun _=>rfl⟩
     have hne:gid d 1≠d:=by unfold gid;omega
     have hrel:Rel w F (yu M1 d) z.cells.toList [.slf d,.slo (gid d 1)]:=by
      rw [hz]
      refine ⟨rfl,fun j c hj=> ?_⟩
      match j,hj with
      | 0,hj=>
       simp only [List.getElem?_cons_zero,Option.some.injEq] at hj
       subst hj
       exact ⟨_,rfl,rfl,.inl rfl⟩
      | 1,hj=>
       simp only [List.getElem?_cons_succ,List.getElem?_cons_zero,Option.some.injEq] at hj
       subst hj
       exact ⟨_,rfl,rfl,_,by rw [yT hne];exact g2,rfl,rfl⟩
      | j+2,hj=>simp at hj
     obtain ⟨M',hinv⟩:=g1.newCells d e hrel
     refine ⟨_,_,F,M',hk,.inl ⟨_,?_,by rw [hd];exact hinv⟩⟩
     unfold execOp;rw [ho]
     simp [zcB h1 h2]
    ·exact hk.elim
   ·rename_i cs _ hc
    split at hk
    ·rename_i hg
     obtain ⟨i,z,h1,h2⟩:=zbF (P:=P) (e:=e) (fun hb=>by rw [hb] at hc;cases hc)
     have hrel:Rel w F (yu M d) z.cells.toList cs:=zeZ h1 h2 hc hg
     obtain ⟨M',hinv⟩:=h.newCells d e hrel
     refine ⟨_,_,F,M',hk,.inl ⟨_,?_,by rw [hd];exact hinv⟩⟩
     unfold execOp;rw [ho]
     simp [zcB h1 h2]
    ·exact hk.elim
   ·exact hk.elim
  ·exact hk.elim
 ·exact hk.elim
theorem zq1 (h:Inv w0 F0 F M σ a w) {e:TypeId} {x:Operand} (ho:o.op= .box e x) (hk:boxD σ o.dst e x K):EY P w0 F0 a w o K:=by
 unfold boxD at hk
 obtain ⟨F1,M1,h1,_⟩:=h.iceAll (rowsOf [ev σ x])
 split at hk
 ·rename_i d cs hd hc
  have hrel:=(yw (h1.ev x) hc).kill d
  obtain ⟨M',hinv⟩:=h1.newCells d e hrel
  refine ⟨_,_,F1,M',hk,.inl ⟨_,?_,by rw [hd];exact hinv⟩⟩
  unfold execOp;rw [ho]
  simp [Instr.box,newVar,newRow]
 ·exact hk.elim
theorem R0.snap (h:Inv w0 F0 F M σ a w) (hF: ∀ g,F g→F1 g) {v:Value} {d:D} (hr:R0 w F M v d)
  (hf: ∀ i∈d.rows0,(∃ e t xs,zg σ.ob i=some (.row false e t xs))→ ∀ mo g,M i=some mo→mo.g=some g→F1 g):R0 w F1 noM v (yN σ.ob d):=by
 cases d<;>simp only [yN]<;>first | exact trivial | skip
 case val=>exact RV.keep (fun _ _=>rfl) hF hr
 case fn=>exact hr
 case nils=>exact hr
 case clo g cs=>
  obtain ⟨us,h1,h2,h3⟩:=hr
  refine ⟨us,h1,h2,fun j c hj=> ?_⟩
  obtain ⟨u,h4,h5,h6⟩:=h3 j c hj
  exact ⟨u,h4,h5,h6.keep (fun _ _=>rfl) hF⟩
 case ept cs=>
  obtain ⟨a,us,h1,h2,h3,h4,h5⟩:=hr
  refine ⟨a,us,h1,hF _ h2,h3,h4,fun j c hj=> ?_⟩
  obtain ⟨u,h6,h7⟩:=h5 j c hj
  exact ⟨u,h6,h7.keep (fun _ _=>rfl) hF⟩
 case slo i=>
  obtain ⟨mo,h1,h2,_⟩:=hr
  split
  ·rename_i e t xs hfo
   obtain ⟨mo',h3,h4⟩:=h.obs _ _ hfo
   have:mo' =mo:=Option.some.inj (h3.symm.trans h1)
   subst this
   rw [h2]
   exact h4.2.reads hF fun g hg=>hf i (by simp [D.rows0]) ⟨e,t,xs,hfo⟩ mo' g h3 hg
  ·exact trivial
theorem zbG (ob:List (Nat×Ob)): ∀ (cs:List D) (j:Nat),(zX ob cs)[j]? =(cs[j]?).map (yN ob)
 | [],j=>by simp [zX]
 | c::r,0=>by simp [zX]
 | c::r,j+1=>by simpa [zX] using zbG ob r j
theorem zak (ob:List (Nat×Ob)): ∀ cs:List D,(zX ob cs).length=cs.length
 | []=>rfl
 | c::r=>by simp [zX,zak ob r]
def Froz (σ:St) (M:Nat→Option MO) (F1:Nat→Prop) (l:List Nat):Prop:=
 ∀ i∈l,(∃ e t xs,zg σ.ob i=some (.row false e t xs))→ ∀ mo g,M i=some mo→mo.g=some g→F1 g
theorem Rel.snap (h:Inv w0 F0 F M σ a w) (hF: ∀ g,F g→F1 g) {us:List Value} {cs:List D} (hr:Rel w F M us cs) (hf:Froz σ M F1 (cs.flatMap D.rows0)):Rel w F1 noM us (zX σ.ob cs):=by
 refine ⟨by rw [zak];exact hr.1,fun j c hj=> ?_⟩
 rw [zbG] at hj
 obtain ⟨c',hc',rfl⟩:=Option.map_eq_some_iff.1 hj
 obtain ⟨u,h1,h2,h3⟩:=hr.2 j c' hc'
 exact ⟨u,h1,h2,h3.snap h hF fun i hi=>hf i (List.mem_flatMap.2 ⟨c',List.mem_of_getElem? hc',hi⟩)⟩
theorem qb (l:List Nat): ∀ {F:Nat→Prop} {M:Nat→Option MO} {σ:St},Inv w0 F0 F M σ a w→
  ∃ F' M',Inv w0 F0 F' M' (σ.iceAll l) a w∧(∀ g,F g→F' g)∧Froz σ M F' l∧(∀ g,F' g→F g∨ ∃ i mo,M i=some mo∧mo.g=some g)∧(∀ i mo,M' i=some mo→M i=some mo):=by
 induction l with
 | nil=>intro F M σ h;exact ⟨F,M,h,fun _ x=>x,(by intro i hi;cases hi),fun g hg=>Or.inl hg,fun _ _ x=>x⟩
 | cons i r ih=>
  intro F M σ h
  by_cases hrow: ∃ e t xs,zg σ.ob i=some (.row false e t xs)
  ·obtain ⟨e,t,xs,hf⟩:=hrow
   obtain ⟨mo,h1,h2⟩:=h.obs i _ hf
   have hice:Inv w0 F0 (fun b=>F b∨mo.g=some b) (yu M i) (σ.ice i) a w:=by
    have:=h.ice_ (id:=i) (new:= .val (.list t) xs) (F' :=fun b=>F b∨mo.g=some b) (fun _ x=>Or.inl x) (fun g hg=>hg.imp_right fun hg=>⟨mo,h1,hg⟩) fun mo' hmo' =>by
     have:mo' =mo:=Option.some.inj (hmo'.symm.trans h1)
     subst this
     exact h2.2.reads (F' :=fun b=>F b∨mo'.g=some b) (fun _ x=>Or.inl x) fun g hg=>Or.inr hg
    unfold St.ice
    rw [hf]
    exact this
   obtain ⟨F',M',h3,h4,h5,h6,h7⟩:=ih hice
   refine ⟨F',M',h3,fun g hg=>h4 g (.inl hg),fun j hj hjr mj g hmj hgj=> ?_,fun g hg=> ?_,fun j mj hj=>(zr (h7 j mj hj)).2⟩
   ·by_cases hji:j=i
    ·subst hji
     have:mj=mo:=Option.some.inj (hmj.symm.trans h1)
     subst this
     exact h4 g (.inr hgj)
    ·have hjr' :j∈r:=by
      rcases List.mem_cons.1 hj with h | h
      ·exact absurd h hji
      ·exact h
     obtain ⟨e',t',xs',hf'⟩:=hjr
     refine h5 j hjr' ⟨e',t',xs',?_⟩ mj g (by rw [yT hji];exact hmj) hgj
     unfold St.ice
     rw [hf]
     show zg (qB i _ σ.ob) j=_
     rw [qw,if_neg hji,hf']
     rfl
   ·rcases h6 g hg with (h8 | h8) | ⟨j,mj,h8,h9⟩
    ·exact .inl h8
    ·exact .inr ⟨i,mo,h1,h8⟩
    ·exact .inr ⟨j,mj,(zr h8).2,h9⟩
  ·have he:σ.ice i=σ:=by
    unfold St.ice
    split
    ·rename_i e t xs hf;exact absurd ⟨e,t,xs,hf⟩ hrow
    ·rfl
   obtain ⟨F',M',h3,h4,h5,h6,h7⟩:=ih h
   refine ⟨F',M',by show Inv w0 F0 F' M' ((σ.ice i).iceAll r) a w;rw [he];exact h3,h4,fun j hj hjr=> ?_,h6,h7⟩
   rcases List.mem_cons.1 hj with h | h
   ·subst h;exact absurd hjr hrow
   ·exact h5 j h hjr
theorem zaF {e:TypeId} {n:Nat} (h:jU P e n=true): ∃ i z,P.info? e=some i∧i.zero=some z∧z.cells.size=n:=by
 unfold jU at h
 split at h
 ·rename_i i hi
  split at h
  ·rename_i z hz;exact ⟨i,z,hi,hz,Nat.eq_of_beq_eq_true h⟩
  ·cases h
 ·cases h
theorem zib {us vs:List Value} {off:Nat} (h:off+vs.length≤us.length):(qh us off vs).take off=us.take off:=by
 rw [zb8 vs us off h,List.append_assoc,List.take_append_of_le_length (by simp;omega),List.take_take,Nat.min_self]
theorem zi4 {us vs:List Value} {off:Nat} (h:off+vs.length≤us.length):((qh us off vs).drop off).take vs.length=vs:=by
 rw [zb8 vs us off h,List.append_assoc]
 have:(us.take off).length=off:=by simp;omega
 rw [List.drop_append_of_le_length (by omega),List.drop_eq_nil_of_le (by omega),List.nil_append,List.take_left]
theorem zcC (h:Inv w0 F0 F M σ a w) (hF: ∀ g,F g→F1 g) {u:Ty}:
  ∀ (l:List (Nat×Operand)) (i:Nat) (cells:Array Value) (ys:List u.I),Froz σ M F1 (rowsOf (secs (zW σ l)))→qN u σ.ob i (zW σ l)=some ys→(i+l.length)*u.width≤cells.size→
   ∃ cells',Instr.fill (fun i=>some (i*u.width,u.width)) cells (zdk a l)=some cells' ∧cells'.size=cells.size∧cells'.toList.take (i*u.width)=cells.toList.take (i*u.width)∧
    ys.length=l.length∧Holds w F1 u ys (cells'.toList.drop (i*u.width))
 | [],i,cells,ys,_,hd,_=>by
  simp only [zW,qN,Option.some.injEq] at hd
  subst hd
  exact ⟨cells,rfl,rfl,rfl,rfl,fun j x hj=>by simp at hj⟩
 | (j,x)::l,i,cells,ys,hf,hd,hsz=>by
  simp only [zW,qN] at hd
  rcases zj i j with ⟨rfl,hb⟩ | ⟨_,hb⟩
  ·rw [hb] at hd
   have hd:(match cellsOf (ev σ x) with
    | some cs=>match yO u (zX σ.ob cs) with
     | some y=>match qN u σ.ob (i+1) (zW σ l) with
      | some ys=>some (y::ys)
      | none=>none
     | none=>none
    | none=>none)=some ys:=hd
   split at hd
   ·rename_i cs hc
    split at hd
    ·rename_i y hy
     split at hd
     ·rename_i ys' hys
      simp only [Option.some.injEq] at hd
      subst hd
      have hrel:=yw (h.ev x) hc
      have hfr:Froz σ M F1 (cs.flatMap D.rows0):=fun k hk=>hf k (by
       show k∈rowsOf (ev σ x::secs (zW σ l))
       cases hx:ev σ x<;>rw [hx] at hc<;>simp only [cellsOf,Option.some.injEq] at hc<;>first | (cases hc;done) | skip
       case agg=>subst hc;simp only [rowsOf,List.mem_append];exact .inl hk
       all_goals (subst hc;simp only [rowsOf,List.mem_append];left;simpa using hk))
      have hrv:=qa (hrel.snap h hF hfr) hy
      have hlen:(a.eval x).cells.size=u.width:=by simpa using hrv.len
      have hsz' :i*u.width+u.width≤cells.size:=by
       have h1:(i+((i,x)::l).length)*u.width=i*u.width+u.width+l.length*u.width:=by
        simp only [List.length_cons];rw [Nat.add_mul,Nat.add_mul];omega
       simp only [List.length_cons] at hsz h1
       omega
      have hfold:((a.eval x).cells.zipIdx.foldl (fun cs (p:Value×Nat)=>cs.setIfInBounds (i*u.width+p.2) p.1) cells).toList=qh cells.toList (i*u.width) (a.eval x).cells.toList:=by
       rw [← Array.foldl_toList,Array.toList_zipIdx,zdZ];rfl
      have hvl:(a.eval x).cells.toList.length=u.width:=by simpa using hlen
      have hle:i*u.width+(a.eval x).cells.toList.length≤cells.toList.length:=by rw [hvl];simpa using hsz'
      have hsize:((a.eval x).cells.zipIdx.foldl (fun cs (p:Value×Nat)=>cs.setIfInBounds (i*u.width+p.2) p.1) cells).size=cells.size:=by
       rw [← Array.length_toList,hfold,zaU];simp
      obtain ⟨cells',h1,h2,h3,h4,h5⟩:=zcC h hF l (i+1) _ ys' (fun k hk=>hf k (by
       show k∈rowsOf (ev σ x::secs (zW σ l))
       cases ev σ x<;>simp only [rowsOf,List.mem_append]<;>exact .inr hk)) hys (by
        rw [hsize]
        have:i+1+l.length=i+((i,x)::l).length:=by simp only [List.length_cons];omega
        rw [this];exact hsz)
      have hw1:(i+1)*u.width=i*u.width+u.width:=by rw [Nat.add_mul];omega
      rw [hfold,hw1] at h3
      refine ⟨cells',?_,by rw [h2,hsize],?_,by simp [h4],?_⟩
      ·have hne: ¬ ((decide ((a.eval x).cells.size≠u.width)||decide (i*u.width+(a.eval x).cells.size>cells.size))=true):=by
        simp only [Bool.or_eq_true,decide_eq_true_eq]
        omega
       simp only [zdk,List.map_cons,Instr.fill]
       rw [if_neg hne]
       exact h1
      ·have:=congrArg (List.take (i*u.width)) h3
       rw [List.take_take,List.take_take,Nat.min_eq_left (by omega)] at this
       rw [this]
       exact zib hle
      ·have hmid:(cells'.toList.drop (i*u.width)).take u.width=(a.eval x).cells.toList:=by
        have:=congrArg (List.drop (i*u.width)) h3
        rw [List.drop_take,List.drop_take] at this
        have he:i*u.width+u.width - i*u.width=u.width:=by omega
        rw [he] at this
        rw [this]
        have hm:=zi4 hle
        rw [hvl] at hm
        exact hm
       have hsplit:cells'.toList.drop (i*u.width)=(a.eval x).cells.toList++cells'.toList.drop ((i+1)*u.width):=by
        rw [← hmid,hw1,← List.drop_drop,List.take_append_drop]
       rw [hsplit]
       exact zdn hrv h5
     ·cases hd
    ·cases hd
   ·cases hd
  ·rw [hb] at hd;cases hd
end
end
section
open Go.RowKit
section
variable {P:Program} {w0:W0 P} {w:World} {F0 F F1:Nat→Prop} {M:Nat→Option MO} {σ:St} {a:Act} {o:Oper} {K:St→Prop}
theorem zb1 (h:Inv w0 F0 F M σ a w) {t:TypeId} {len:Nat} {parts:Array (Nat×Operand)} (ho:o.op= .buildSlice t len parts)
  (hk:qC P σ o.dst t len (zW σ parts.toList) K):EY P w0 F0 a w o K:=by
 unfold qC at hk
 split at hk
 ·rename_i d e hd he
  split at hk
  ·rename_i u hty
   cases hc:(Nat.beq (zu P e) u.width&&(jU P e u.width&&(Nat.beq (zW σ parts.toList).length len&&Nat.ble (len*zu P e) 16777216))) with
   | false=>rw [hc] at hk;exact hk.elim
   | true=>
    rw [hc] at hk
    have hk:(match qN u σ.ob 0 (zW σ parts.toList) with
     | some ys=>K ((σ.iceAll (rowsOf (secs (zW σ parts.toList)))).putOb d (.row false e u ys) (.slo d))
     | none=>False):=hk
    split at hk
    ·rename_i ys hys
     simp only [Bool.and_eq_true] at hc
     obtain ⟨c1,c2,c3,c4⟩:=hc
     obtain ⟨i,z,hi,hz,hzs⟩:=zaF c2
     have hsT:zu P e=i.size:=by unfold zu;rw [hi]
     have hsz:i.size=u.width:=by
      have:=Nat.eq_of_beq_eq_true c1
      rw [hsT] at this;exact this
     have hlen:parts.toList.length=len:=by
      have:=Nat.eq_of_beq_eq_true c3
      have hl: ∀ l:List (Nat×Operand),(zW σ l).length=l.length:=fun l=>by induction l with
       | nil=>rfl
       | cons p r ih=>obtain ⟨i,x⟩:=p;simp [zW,ih]
      rw [hl] at this;exact this
     have hle:len*u.width≤16777216:=by
      have:=Nat.le_of_ble_eq_true c4
      rwa [hsT,hsz] at this
     obtain ⟨F',M',h1,h2,h3,h4,h5⟩:=qb (rowsOf (secs (zW σ parts.toList))) h
     obtain ⟨cells',h6,h7,_,h8,h9⟩:=zcC (F1:=F') h h2 parts.toList 0 ((Array.range (len*u.width)).map ((if len*u.width=0 then #[] else z.cells)[· % (if len*u.width=0 then #[] else z.cells).size]!)) ys h3 hys (by simp [hlen])
     simp only [Nat.zero_mul,List.drop_zero] at h9
     have hcs:cells'.size=len*u.width:=by rw [h7];simp
     have hb:=jz w (.cells cells' e)
     have hylen:ys.length=len:=by rw [h8,hlen]
     have hM:=h1.putOb (w' :=w.alloc (.cells cells' e)) hb d (.row false e u ys) (.slo d) ⟨some w.heap.size,.slice (some ⟨w.heap.size,0,none⟩) len len,u.width⟩ (.slice (some ⟨w.heap.size,0,none⟩) len len)
      (fun g hg=>by cases hg;simp)
      (fun M' _ _=>⟨rfl,.inr ⟨w.heap.size,len,cells',rfl,h.below.new (Nat.le_refl _),by rw [hylen],heap_alloc_new w _,by omega,by simp only [maxLen];have:=yj u;have:len≤len*u.width:=Nat.le_mul_of_pos_right _ this;omega,hcs,h9.keep (zbE h1 _) (fun _ x=>x)⟩⟩)
      fun M' hd' _=>⟨_,hd',rfl,rfl⟩
     obtain ⟨M2,hinv⟩:=hM
     refine ⟨_,_,F',M2,hk,.inl ⟨_,?_,by rw [hd];exact hinv⟩⟩
     have hn: ¬ (len*i.size>2 ^ 24):=by rw [hsz];omega
     unfold execOp;rw [ho]
     have hfill:Instr.fill (fun i=>some (i*u.width,u.width)) ((Array.range (len*u.width)).map ((if len*u.width=0 then #[] else z.cells)[· % (if len*u.width=0 then #[] else z.cells).size]!)) (zdk a parts.toList)=some cells' :=h6
     have hparts:(Array.map (fun x=>match x with | (i,x)=>(i,a.eval x)) parts).toList=zdk a parts.toList:=by rw [Array.toList_map];rfl
     by_cases h0:len*u.width=0
     ·have e0: ∀ f:Nat→Value,Array.map f (Array.range 0)= #[]:=fun f=>by simp
      simp only [h0,if_true,e0] at hfill
      simp only [Instr.buildSlice,Sem.run_bind,run_underlying (z8 he),Result.andThen_ok,sizeOf,typeInfo,run_program,hi,Sem.run_pure,hsz,h0,hparts]
      simp [hfill,newRow,e0]
     ·simp only [h0,if_false] at hfill
      have hn' : ¬ (len*u.width>2 ^ 24):=by omega
      simp only [Instr.buildSlice,Sem.run_bind,run_underlying (z8 he),Result.andThen_ok,sizeOf,typeInfo,run_program,hi,Sem.run_pure,hsz,h0,hparts]
      simp [hfill,newRow,hn',zeroValue,typeInfo,hi,hz]
    ·exact hk.elim
  ·exact hk.elim
 ·exact hk.elim
structure Src (w:World) (F:Nat→Prop) (t:Ty) (v:Value) (xs:List t.I) (A:Option Addr) (c:Nat) (news:List Value):Prop where
 form:v= .slice A xs.length c
 len:news.length=xs.length*t.width
 at_:0<xs.length→ ∃ ad,A=some ad∧Reads w ad news
 holds:Holds w F t xs news
theorem Holds.one {t:Ty} {xs:List t.I} {us:List Value} (h:Holds w F t xs us) (hl:us.length=xs.length*t.width): ∀ u∈us,u.oneCell' =true:=by
 intro u hu
 obtain ⟨j,hj,rfl⟩:=List.mem_iff_getElem.1 hu
 have hw:=yj t
 have hlt:j / t.width<xs.length:=by rw [Nat.div_lt_iff_lt_mul hw];omega
 have:=h (j / t.width) _ (List.getElem?_eq_getElem hlt)
 refine this.one _ (List.mem_of_getElem? (i:=j % t.width) ?_)
 rw [List.getElem?_take,if_pos (Nat.mod_lt _ hw),List.getElem?_drop]
 have:j / t.width*t.width+j % t.width=j:=by rw [Nat.mul_comm];exact Nat.div_add_mod j t.width
 rw [this,List.getElem?_eq_getElem hj]
theorem Src.of_data {t:Ty} {xs:List t.I} {v:Value} (h:RV w F (.list t) xs [v]): ∃ A c news,Src w F t v xs A c news:=by
 obtain ⟨A,c,h1,h2,h3,h4⟩:=h
 have hv:v= .slice A xs.length c:=by simpa using h1
 rcases Nat.eq_zero_or_pos xs.length with h0 | h0
 ·refine ⟨A,c,[],hv,by simp [h0],fun hp=>by omega,fun i x hi=> ?_⟩
  have:=List.getElem?_eq_some_iff.1 hi
  obtain ⟨hlt,_⟩:=this
  omega
 ·obtain ⟨ad,us,rfl,_⟩:=h4 0 _ (List.getElem?_eq_getElem h0)
  have hw:=yj t
  have hread: ∀ j,j<xs.length*t.width→ ∃ u,w.cell? (ad.add j)=some u∧u.oneCell' =true:=fun j hj=>by
   have hlt:j / t.width<xs.length:=by rw [Nat.div_lt_iff_lt_mul hw];omega
   obtain ⟨ad',us',e,_,h6,h7⟩:=h4 (j / t.width) _ (List.getElem?_eq_getElem hlt)
   cases e
   have hl:=h6.len
   have hm:=Nat.mod_lt j hw
   obtain ⟨h8,h9⟩:=h7 (j % t.width) (us'[j % t.width]'(by omega)) (List.getElem?_eq_getElem (by omega))
   rw [add_add,show j / t.width*t.width+j % t.width=j by rw [Nat.mul_comm];exact Nat.div_add_mod j t.width] at h8
   exact ⟨_,h8,h9⟩
  let f:Nat→Value:=fun j=>(w.cell? (ad.add j)).getD undef
  have hf: ∀ j,j<xs.length*t.width→w.cell? (ad.add j)=some (f j)∧(f j).oneCell' =true:=fun j hj=>by
   obtain ⟨u,h5,h6⟩:=hread j hj
   have:f j=u:=by show (w.cell? (ad.add j)).getD undef=u;rw [h5];rfl
   rw [this];exact ⟨h5,h6⟩
  have hget: ∀ j,j<xs.length*t.width→((List.range (xs.length*t.width)).map f)[j]? =some (f j):=fun j hj=>by simp [hj]
  refine ⟨some ad,c,(List.range (xs.length*t.width)).map f,hv,by simp,fun _=>⟨ad,rfl,fun j u hj=> ?_⟩,fun i x hi=> ?_⟩
  ·have hlt:j<xs.length*t.width:=by
    have:=(List.getElem?_eq_some_iff.1 hj).1
    simpa using this
   rw [hget j hlt] at hj
   cases hj
   exact hf j hlt
  ·obtain ⟨ad',us',e,_,h6,h7⟩:=h4 i x hi
   cases e
   have hil:=(List.getElem?_eq_some_iff.1 hi).1
   have hle:i*t.width+t.width≤xs.length*t.width:=by rw [← Nat.succ_mul];exact Nat.mul_le_mul_right _ hil
   have:(((List.range (xs.length*t.width)).map f).drop (i*t.width)).take t.width=us' :=by
    apply List.ext_getElem?
    intro j
    by_cases hj:j<t.width
    ·rw [List.getElem?_take,if_pos hj,List.getElem?_drop,hget _ (by omega)]
     have hjl:j<us'.length:=by rw [h6.len];exact hj
     obtain ⟨h8,_⟩:=h7 j _ (List.getElem?_eq_getElem hjl)
     rw [add_add,(hf _ (by omega)).1] at h8
     rw [List.getElem?_eq_getElem hjl]
     exact h8
    ·rw [List.getElem?_take,if_neg hj,List.getElem?_eq_none (by rw [h6.len];omega)]
   rw [this];exact h6
theorem Src.of_own {B:Nat→Prop} {G:Option Nat} {t:Ty} {xs:List t.I} {v:Value} {e:TypeId} (h:OwnR w F B G v e t xs): ∃ A c news,Src w F t v xs A c news:=by
 have hr:RV w (fun g=>F g∨G=some g) (.list t) xs [v]:=h.reads (fun _ x=>Or.inl x) fun g hg=>Or.inr hg
 rcases h with ⟨rfl,_,A,rfl⟩ | ⟨g,cap,us,rfl,_,rfl,h1,h2,h3,h4,h5⟩
 ·exact ⟨A,0,[],rfl,by simp,fun hp=>by simp at hp,fun i x hi=>by simp at hi⟩
 ·have hle:xs.length*t.width≤us.toList.length:=by have:=Nat.mul_le_mul_right t.width h2;rw [← h4] at this;simpa using this
  have hh:Holds w F t xs (us.toList.take (xs.length*t.width)):=fun i x hi=>by
   have:=h5 i x hi
   have hil:=(List.getElem?_eq_some_iff.1 hi).1
   have hle' :i*t.width+t.width≤xs.length*t.width:=by rw [← Nat.succ_mul];exact Nat.mul_le_mul_right _ hil
   rw [List.drop_take,List.take_take,Nat.min_eq_left (by omega)]
   exact this
  refine ⟨some ⟨g,0,none⟩,cap,us.toList.take (xs.length*t.width),rfl,by rw [List.length_take];omega,fun _=>⟨_,rfl,fun j u hj=> ?_⟩,hh⟩
  have hone:=hh.one (by rw [List.length_take];omega) u (List.mem_of_getElem? hj)
  rw [List.getElem?_take] at hj
  split at hj
  ·refine ⟨?_,hone⟩
   rw [add_lit,cell_of_row w g _ us e (0,0) h1]
   simpa using hj
  ·cases hj
theorem Holds.append {t:Ty} {xs ys:List t.I} {u1 u2:List Value} (h1:Holds w F t xs u1) (hl:u1.length=xs.length*t.width) (h2:Holds w F t ys u2):Holds w F t (xs++ys) (u1++u2):=by
 intro i x hi
 rcases Nat.lt_or_ge i xs.length with hlt | hge
 ·rw [List.getElem?_append_left hlt] at hi
  have hle:i*t.width+t.width≤u1.length:=by rw [hl,← Nat.succ_mul];exact Nat.mul_le_mul_right _ hlt
  rw [List.drop_append_of_le_length (by omega),List.take_append_of_le_length (by simp;omega)]
  exact h1 i x hi
 ·rw [List.getElem?_append_right hge] at hi
  have:=h2 _ x hi
  have e:i*t.width=u1.length+(i - xs.length)*t.width:=by rw [hl,← Nat.add_mul];congr 1;omega
  rw [e,← List.drop_drop,List.drop_left]
  exact this
theorem Holds.more {t:Ty} {xs:List t.I} {u1 u2:List Value} (h:Holds w F t xs u1) (hl:u1.length=xs.length*t.width):Holds w F t xs (u1++u2):=by
 intro i x hi
 have hil:=(List.getElem?_eq_some_iff.1 hi).1
 have hle:i*t.width+t.width≤u1.length:=by rw [hl,← Nat.succ_mul];exact Nat.mul_le_mul_right _ hil
 rw [List.drop_append_of_le_length (by omega),List.take_append_of_le_length (by simp;omega)]
 exact h i x hi
theorem zal (w:World) (ob:Obj) (row:Option Nat):w.grownBy (w.drew.alloc ob) row:=⟨rfl,rfl,rfl,by simp,fun k hk _=>Below.heap_alloc w.drew ob k hk⟩
theorem zaW (w:World) (g:Nat) (cs:Array Value):w.grownBy (w.setRow g cs) (some g):=⟨rfl,rfl,rfl,by simp,fun k _ hk=>setRow_other w g k _ (fun e=>hk (by rw [e]))⟩
theorem zd0 {B:Nat→Prop} {t e ty:TypeId} {i:TypeInfo} {z:Value} {u:Ty} (ht:P.underlying t=some (.slice e)) (hi:P.info? e=some i) (hz:i.zero=some z) (hsz:i.size=u.width) (hzs:z.cells.size=u.width) (hby:i.bytes≤131072)
  {G:Option Nat} {v:Value} {xs:List u.I} (hown:OwnR w F B G v e u xs) {ys:List u.I} {vy:Value} {A:Option Addr} {c:Nat} {news:List Value} (hsrc:Src w F u vy ys A c news) (hroom:xs.length+ys.length≤1073741824) (hB:B w.heap.size)
  (hF: ∀ g,F g→g<w.heap.size) (hG: ∀ g,G=some g→ ¬F g):
  ∃ v' w' G',(Builtin.append_ #[t,t] ty #[v,vy]).run P w= .ok v' w' ∧w.grownBy w' G∧OwnR w' F B G' v' e u (xs++ys)∧(∀ g,G' =some g→g<w'.heap.size∧(G=some g∨w.heap.size≤g)):=by
 have hones:=hsrc.holds.one hsrc.len
 have hbytes:(xs.length+ys.length)*i.bytes≤140737488355328:=by
  have h1:=Nat.mul_le_mul hroom hby
  omega
 have hmax:xs.length+ys.length≤maxLen:=by simp only [maxLen];omega
 have hlen2:news.length=ys.length*i.size:=by rw [hsz];exact hsrc.len
 have grow_same: ∀ (w1:World) (ob:Obj),Same F w (w.drew.alloc ob):=fun _ ob g hg=>Below.heap_alloc w.drew ob g (hF g hg)
 rcases hown with ⟨rfl,rfl,A0,rfl⟩ | ⟨g,cap,us,rfl,hBg,rfl,h1,h2,h3,h4,h5⟩
 ·
  rcases Nat.eq_zero_or_pos ys.length with h0 | h0
  ·have hy:ys=[]:=List.eq_nil_of_length_eq_zero h0
   subst hy
   refine ⟨.slice A0 0 0,w,none,?_,⟨rfl,rfl,rfl,Nat.le_refl _,fun _ _ _=>rfl⟩,.inl ⟨rfl,rfl,A0,rfl⟩,fun g hg=>by cases hg⟩
   rw [hsrc.form]
   cases A0<;>cases A<;>simp [Builtin.append_,run_underlying ht,sizeOf,typeInfo,hi,Builtin.lenOf,Builtin.firstCells,storeCells,loadCells,loadCellsFrom]
  ·obtain ⟨ad,rfl,hread⟩:=hsrc.at_ h0
   have hnews: ∀ (j:Nat) x,news[j]? =some x→w.cell? (ad.add j)=some x:=fun j x hj=>(hread j x hj).1
   have hge:=grownCap_ge w ys.length 0 e
   have fin: ∀ cap0:Nat,ys.length≤cap0→cap0≤maxLen→OwnR (w.drew.alloc (.cells (news.toArray++Builtin.zeroCells z.cells (cap0 - ys.length)) e)) F B (some w.heap.size) (.slice (some ⟨w.heap.size,0,none⟩) ys.length cap0) e u ys:=fun cap0 hc1 hc2=>by
    refine .inr ⟨w.heap.size,cap0,_,rfl,hB,rfl,heap_alloc_new w.drew _,hc1,hc2,?_,?_⟩
    ·simp only [Array.size_append,List.size_toArray,size_zeroCells,hzs,hsrc.len,← Nat.add_mul]
     congr 1;omega
    ·simp only [Array.toList_append]
     exact (hsrc.holds.keep (grow_same w _) (fun _ x=>x)).more hsrc.len
   cases A0 with
   | none=>
    have hr:=run_append_nil (P:=P) w t ty e i z ht hi hz ad ys.length c news hlen2 hnews h0 (by omega) (by simp only [List.length_nil,Nat.zero_add] at hbytes;omega)
    refine ⟨_,_,some w.heap.size,(by rw [hsrc.form];exact hr),zal w _ _,by rw [List.nil_append];exact fin _ hge (grownCap_le_maxLen w _ 0 e (by simpa using hmax)),fun g hg=>by cases hg;simp⟩
   | some a0=>
    have hr:=run_append_grow (P:=P) w t ty e i z ht hi hz a0 0 0 [] (by simp) (fun j x hj=>by simp at hj) ad ys.length c news hlen2 hnews (by omega) (by omega) (growslice_fits (by omega) (by simpa using hbytes))
    simp only [Nat.zero_add,Array.empty_append] at hr
    refine ⟨_,_,some w.heap.size,(by rw [hsrc.form];simpa using hr),zal w _ _,?_,fun g hg=>by cases hg;simp⟩
    have:=fin _ hge (grownCap_le_maxLen w _ 0 e (by simpa using hmax))
    simpa using this
 ·have hnF:=hG g rfl
  have hown' :w.ownsRow 0 e u.width (.slice (some ⟨g,0,none⟩) xs.length cap) xs.length (us.toList.take (xs.length*u.width)):=
   ⟨by rw [List.length_take];refine Nat.min_eq_left ?_;have:=Nat.mul_le_mul_right u.width h2;rw [← h4] at this;simpa using this,.inr ⟨g,cap,us,rfl,Nat.zero_le _,h1,h2,h3,h4,rfl⟩⟩
  have hx:Holds w F u xs (us.toList.take (xs.length*u.width)):=fun k x hk=>by
   have:=h5 k x hk
   have hil:=(List.getElem?_eq_some_iff.1 hk).1
   have hle' :k*u.width+u.width≤xs.length*u.width:=by rw [← Nat.succ_mul];exact Nat.mul_le_mul_right _ hil
   rw [List.drop_take,List.take_take,Nat.min_eq_left (by omega)]
   exact this
  have hgl:g<w.heap.size:=(Array.getElem?_eq_some_iff.1 h1).1
  rcases Nat.eq_zero_or_pos ys.length with h0 | h0
  ·have hy:ys=[]:=List.eq_nil_of_length_eq_zero h0
   subst hy
   refine ⟨.slice (some ⟨g,0,none⟩) xs.length cap,w,some g,?_,⟨rfl,rfl,rfl,Nat.le_refl _,fun _ _ _=>rfl⟩,.inr ⟨g,cap,us,rfl,hBg,by simp,h1,by simpa using h2,h3,h4,by simpa using h5⟩,fun g' hg' =>by cases hg';exact ⟨hgl,.inl rfl⟩⟩
   rw [hsrc.form]
   cases A<;>simp [Builtin.append_,run_underlying ht,sizeOf,typeInfo,hi,Builtin.lenOf,Builtin.firstCells,storeCells,loadCells,loadCellsFrom,h2]
  ·obtain ⟨ad,rfl,hread⟩:=hsrc.at_ h0
   have hnews: ∀ (j:Nat) x,news[j]? =some x→w.cell? (ad.add j)=some x:=fun j x hj=>(hread j x hj).1
   have hxl:(us.toList.take (xs.length*u.width)).length=xs.length*u.width:=hown'.1
   by_cases hfit:xs.length+ys.length≤cap
   ·have hr:=run_append_room (P:=P) w t ty e i ht hi g xs.length cap us h1 ad ys.length c news hlen2 hnews hones hfit (by
     rw [hsrc.len,hsz,h4,← Nat.add_mul];exact Nat.mul_le_mul_right _ hfit)
    have hs:Same F w (w.setRow g (us.toList.take (xs.length*i.size)++news++us.toList.drop (xs.length*i.size+news.length)).toArray):=fun b hb=>setRow_other w g b _ (fun e=>by subst e;exact hnF hb)
    refine ⟨_,_,some g,(by rw [hsrc.form];exact hr),zaW w g _,.inr ⟨g,cap,_,rfl,hBg,by rw [List.length_append],setRow_heap w g us _ e _ h1,by simpa using hfit,h3,?_,?_⟩,fun g' hg' =>by cases hg';exact ⟨by simpa using hgl,.inl rfl⟩⟩
    ·have hul:us.toList.length=cap*u.width:=by rw [Array.length_toList];exact h4
     have hm1:xs.length*u.width+ys.length*u.width≤cap*u.width:=by rw [← Nat.add_mul];exact Nat.mul_le_mul_right _ hfit
     simp only [List.size_toArray,List.length_append,List.length_take,List.length_drop,hsz,hsrc.len,hul]
     omega
    ·have:=(hx.append hxl hsrc.holds).more (u2:=us.toList.drop (xs.length*u.width+news.length)) (by rw [List.length_append,hxl,hsrc.len,List.length_append,Nat.add_mul])
     have h9:=this.keep hs (fun _ x=>x)
     simp only [hsz] at h9 ⊢
     exact h9
   ·have hge:=grownCap_ge w (xs.length+ys.length) cap e
    have holds: ∀ (j:Nat) x,(us.toList.take (xs.length*u.width))[j]? =some x→w.cell? ((⟨g,0,none⟩:Addr).add j)=some x:=fun j x hj=>by
     rw [add_lit,cell_of_row w g _ us e (0,0) h1]
     rw [List.getElem?_take] at hj
     split at hj
     ·simpa using hj
     ·cases hj
    have hr:=run_append_grow (P:=P) w t ty e i z ht hi hz ⟨g,0,none⟩ xs.length cap (us.toList.take (xs.length*u.width)) (by rw [hsz];exact hxl) holds ad ys.length c news hlen2 hnews (by omega) (by omega) (growslice_fits (by omega) hbytes)
    refine ⟨_,_,some w.heap.size,(by rw [hsrc.form];exact hr),zal w _ _,.inr ⟨w.heap.size,_,_,rfl,hB,by simp,heap_alloc_new w.drew _,by simpa using hge,grownCap_le_maxLen w _ cap e hmax,?_,?_⟩,fun g' hg' =>by cases hg';simp⟩
    ·simp only [Array.size_append,List.size_toArray,size_zeroCells,hzs,hsrc.len,hxl,← Nat.add_mul]
     congr 1;omega
    ·simp only [Array.toList_append]
     exact ((hx.append hxl hsrc.holds).more (by rw [List.length_append,hxl,hsrc.len,List.length_append,Nat.add_mul])).keep (grow_same w _) (fun _ x=>x)
end
end
section
open Go.RowKit
section
variable {P:Program} {w0:W0 P} {w:World} {F0 F F1:Nat→Prop} {M:Nat→Option MO} {σ:St} {a:Act} {o:Oper} {K:St→Prop}
theorem zbH {u t:Ty} {ob:List (Nat×Ob)} {i:Nat} {e:TypeId} {xs:List t.I} {ys:List u.I} (hf:zg ob i=some (.row false e t xs)) (hl:yG u ob (.slo i)=some ys): ∃ h:t=u,ys=h ▸ xs:=by
 unfold yG at hl
 simp only [yN,hf,dec] at hl
 by_cases h:Ty.list t=Ty.list u
 ·rw [dif_pos h] at hl
  simp only [Option.some.injEq] at hl
  have h' :t=u:=by injection h
  subst h'
  exact ⟨rfl,hl.symm⟩
 ·rw [dif_neg h] at hl;cases hl
theorem zic {u t:Ty} {ob:List (Nat×Ob)} {x:t.I} {ys:List u.I} (hl:yG u ob (.val t x)=some ys): ∃ h:t= .list u,ys=qk h x:=by
 unfold yG at hl
 simp only [yN,dec] at hl
 by_cases h:t=Ty.list u
 ·rw [dif_pos h] at hl
  simp only [Option.some.injEq] at hl
  exact ⟨h,hl.symm⟩
 ·rw [dif_neg h] at hl;cases hl
theorem zid (h:Inv w0 F0 F M σ a w) {u:Ty} {v:Value} {d:D} {ys:List u.I} (hr:R w F M v d) (hl:yG u σ.ob d=some ys): ∃ A c news,Src w F u v ys A c news:=by
 cases d
 case val t x=>
  obtain ⟨rfl,rfl⟩:=zic hl
  exact Src.of_data hr
 case nils=>
  obtain ⟨A,rfl⟩:=hr
  have:ys=[]:=by unfold yG at hl;simpa [yN,dec] using hl.symm
  subst this
  exact ⟨A,0,[],rfl,by simp,fun hp=>by simp at hp,fun i x hi=>by simp at hi⟩
 case slo i=>
  obtain ⟨mo,h1,h2,_⟩:=hr
  cases hf:zg σ.ob i with
  | none=>unfold yG at hl;simp [yN,hf,dec] at hl
  | some q=>
   cases q
   case cells p T cs=>unfold yG at hl;simp [yN,hf,dec] at hl
   case arr t xs=>unfold yG at hl;simp [yN,hf,dec] at hl
   case buf e xs=>unfold yG at hl;simp [yN,hf,dec] at hl
   case row pn e t xs=>
    cases pn with
    | true=>unfold yG at hl;simp [yN,hf,dec] at hl
    | false=>
     obtain ⟨rfl,rfl⟩:=zbH hf hl
     obtain ⟨mo',h3,h4⟩:=h.obs _ _ hf
     have:mo' =mo:=Option.some.inj (h3.symm.trans h1)
     subst this
     rw [h2]
     exact Src.of_own h4.2
 all_goals (unfold yG at hl;simp [yN,dec] at hl)
theorem OwnR.one {B:Nat→Prop} {G:Option Nat} {v:Value} {e:TypeId} {t:Ty} {xs:List t.I} (h:OwnR w F B G v e t xs):v.oneCell' =true:=by
 rcases h with ⟨_,_,A,rfl⟩ | ⟨g,cap,us,_,_,rfl,_⟩<;>rfl
theorem strSize (s:ByteArray):s.size=s.data.toList.length:=by rw [Array.length_toList];rfl
theorem zie (s:ByteArray):Holds w F (.int .u8) (bts s.data.toList) (Lib.strCells s):=fun i x hi=>by
 unfold bts at hi
 rw [List.getElem?_map] at hi
 obtain ⟨b,hb,rfl⟩:=Option.map_eq_some_iff.1 hi
 show ((Lib.strCells s).drop (i*1)).take 1=[Value.int .u8 (b.toNat:Int)]
 have hc:(Lib.strCells s)[i]? =some (.int .u8 (b.toNat:Int)):=by unfold Lib.strCells;rw [List.getElem?_map,hb];rfl
 obtain ⟨hlt,he⟩:=List.getElem?_eq_some_iff.1 hc
 rw [Nat.mul_one,List.drop_eq_getElem_cons hlt,he]
 rfl
theorem zgO {B:Nat→Prop} {t t' e ty:TypeId} {i:TypeInfo} {z:Value} (ht:P.underlying t=some (.slice e)) (ht' :P.underlying t' =some .string) (hi:P.info? e=some i) (hz:i.zero=some z) (hsz:i.size=1) (hzs:z.cells.size=1) (hby:i.bytes=1)
  {G:Option Nat} {v:Value} {xs:List Int} (hown:OwnR w F B G v e (.int .u8) xs) (s:ByteArray) (hroom:xs.length+s.size≤1073741824) (hB:B w.heap.size)
  (hF: ∀ g,F g→g<w.heap.size) (hG: ∀ g,G=some g→ ¬F g):
  ∃ v' w' G',(Builtin.append_ #[t,t'] ty #[v,.string s]).run P w= .ok v' w' ∧w.grownBy w' G∧OwnR w' F B G' v' e (.int .u8) (xs++bts s.data.toList)∧(∀ g,G' =some g→g<w'.heap.size∧(G=some g∨w.heap.size≤g)):=by
 have hmax:xs.length+s.size≤maxLen:=by simp only [maxLen];omega
 have hsl:=Lib.strCells_length s
 have hbl:(bts s.data.toList).length=s.size:=by unfold bts;rw [List.length_map,strSize]
 have hh:Holds w F (.int .u8) (bts s.data.toList) (Lib.strCells s):=zie s
 have grow_same: ∀ (ob:Obj),Same F w (w.drew.alloc ob):=fun ob g hg=>Below.heap_alloc w.drew ob g (hF g hg)
 have hz1: ∀ n,(Builtin.zeroCells z.cells n).size=n:=fun n=>by rw [size_zeroCells,hzs];omega
 rcases hown with ⟨rfl,rfl,A0,rfl⟩ | ⟨g,cap,us,rfl,hBg,rfl,h1,h2,h3,h4,h5⟩
 ·rcases Nat.eq_zero_or_pos s.size with h0 | h0
  ·have hy:bts s.data.toList=[]:=List.eq_nil_of_length_eq_zero (by rw [hbl,h0])
   refine ⟨.slice A0 0 0,w,none,?_,⟨rfl,rfl,rfl,Nat.le_refl _,fun _ _ _=>rfl⟩,.inl ⟨by rw [hy];rfl,rfl,A0,rfl⟩,fun g hg=>by cases hg⟩
   cases A0<;>simp [Builtin.append_,run_underlying ht,run_underlying ht',sizeOf,typeInfo,hi,Builtin.lenOf,Builtin.firstCells,storeCells,loadCells,loadCellsFrom,h0]<;>rfl
  ·have hge:=grownCap_ge w s.size 0 e
   have fin: ∀ cap0:Nat,s.size≤cap0→cap0≤maxLen→OwnR (w.drew.alloc (.cells ((Lib.strCells s).toArray++Builtin.zeroCells z.cells (cap0 - s.size)) e)) F B (some w.heap.size) (.slice (some ⟨w.heap.size,0,none⟩) s.size cap0) e (.int .u8) (bts s.data.toList):=fun cap0 hc1 hc2=>by
    refine .inr ⟨w.heap.size,cap0,_,rfl,hB,by rw [hbl],heap_alloc_new w.drew _,by rw [hbl];exact hc1,hc2,?_,?_⟩
    ·simp only [Array.size_append,List.size_toArray,hz1,hsl,Ty.width]
     omega
    ·simp only [Array.toList_append]
     exact (hh.keep (grow_same _) (fun _ x=>x)).more (by rw [hsl,hbl];simp [Ty.width])
   cases A0 with
   | none=>
    have hr:=run_append_nil_string (P:=P) w t t' ty e i z ht ht' hi hz s h0 (by omega) (by rw [hby];omega)
    refine ⟨_,_,some w.heap.size,hr,zal w _ _,?_,fun g hg=>by cases hg;simp⟩
    have:=fin _ hge (grownCap_le_maxLen w _ 0 e (by simpa using hmax))
    have e1:(s.data.map fun b=>Value.int .u8 (b.toNat:Int))=(Lib.strCells s).toArray:=by
     unfold Lib.strCells;apply Array.ext';simp
    rw [e1]
    simpa using this
   | some a0=>
    have hr:=Lib.run_append_grow_string (P:=P) w t t' ty e i z ht ht' hi hz a0 0 0 [] (by simp) (fun j x hj=>by simp at hj) s (by omega) (by omega) (growslice_fits (by omega) (by rw [hby];omega))
    simp only [Nat.zero_add] at hr
    refine ⟨_,_,some w.heap.size,hr,zal w _ _,?_,fun g hg=>by cases hg;simp⟩
    have:=fin _ hge (grownCap_le_maxLen w _ 0 e (by simpa using hmax))
    simpa using this
 ·have hnF:=hG g rfl
  have hul:us.toList.length=cap:=by rw [Array.length_toList,h4];simp [Ty.width]
  have hxl:(us.toList.take xs.length).length=xs.length:=by rw [List.length_take,hul];omega
  have hx:Holds w F (.int .u8) xs (us.toList.take xs.length):=fun k x hk=>by
   have:=h5 k x hk
   have hil:=(List.getElem?_eq_some_iff.1 hk).1
   simp only [Ty.width,Nat.mul_one] at this ⊢
   rw [List.drop_take,List.take_take,Nat.min_eq_left (by omega)]
   exact this
  have hgl:g<w.heap.size:=(Array.getElem?_eq_some_iff.1 h1).1
  by_cases hfit:xs.length+s.size≤cap
  ·have hr:=Lib.run_append_room_string (P:=P) w t t' ty e i ht ht' hi hsz g xs.length cap us h1 s hfit (by rw [h4];simpa [Ty.width] using hfit)
   have hs:Same F w (w.setRow g (us.toList.take xs.length++Lib.strCells s++us.toList.drop (xs.length+s.size)).toArray):=fun b hb=>setRow_other w g b _ (fun e=>by subst e;exact hnF hb)
   refine ⟨_,_,some g,hr,zaW w g _,.inr ⟨g,cap,_,rfl,hBg,by rw [List.length_append,hbl],setRow_heap w g us _ e _ h1,by rw [List.length_append,hbl];exact hfit,h3,?_,?_⟩,fun g' hg' =>by cases hg';exact ⟨by simpa using hgl,.inl rfl⟩⟩
   ·simp only [List.size_toArray,List.length_append,List.length_take,List.length_drop,hsl,hul,Ty.width]
    omega
   ·have:=(hx.append (by rw [hxl];simp [Ty.width]) hh).more (u2:=us.toList.drop (xs.length+s.size)) (by rw [List.length_append,hxl,hsl,List.length_append,hbl];simp [Ty.width])
    exact this.keep hs (fun _ x=>x)
  ·have hge:=grownCap_ge w (xs.length+s.size) cap e
   have holds: ∀ (j:Nat) x,(us.toList.take xs.length)[j]? =some x→w.cell? ((⟨g,0,none⟩:Addr).add j)=some x:=fun j x hj=>by
    rw [add_lit,cell_of_row w g _ us e (0,0) h1]
    rw [List.getElem?_take] at hj
    split at hj
    ·simpa using hj
    ·cases hj
   have hr:=Lib.run_append_grow_string (P:=P) w t t' ty e i z ht ht' hi hz ⟨g,0,none⟩ xs.length cap (us.toList.take xs.length) (by rw [hsz,hxl];simp) holds s (by omega) (by omega) (growslice_fits (by omega) (by rw [hby];omega))
   refine ⟨_,_,some w.heap.size,hr,zal w _ _,.inr ⟨w.heap.size,_,_,rfl,hB,by rw [List.length_append,hbl],heap_alloc_new w.drew _,by rw [List.length_append,hbl];exact hge,grownCap_le_maxLen w _ cap e hmax,?_,?_⟩,fun g' hg' =>by cases hg';simp⟩
   ·simp only [Array.size_append,List.size_toArray,hz1,hsl,hxl,Ty.width]
    omega
   ·simp only [Array.toList_append]
    exact ((hx.append (by rw [hxl];simp [Ty.width]) hh).more (by rw [List.length_append,hxl,hsl,List.length_append,hbl];simp [Ty.width])).keep (grow_same _) (fun _ x=>x)
theorem ze0 (h:Inv w0 F0 F M σ a w) {c:Call} (ho:o.op= .call c) (hcal:c.callee= .builtin .append) {s x:Operand} {t t' :TypeId} (ha:c.args.toList=[s,x]) (hat:c.argTypes.toList=[t,t'])
  {ys:List UInt8} (hx:ev σ x= .val .str ys) (hk:zcr P σ o.dst t t' (ev σ s) ys K):EY P w0 F0 a w o K:=by
 have e1:c.args= #[s,x]:=by rw [← Array.toArray_toList (xs:=c.args),ha]
 have e2:c.argTypes= #[t,t']:=by rw [← Array.toArray_toList (xs:=c.argTypes),hat]
 unfold zcr at hk
 split at hk
 ·rename_i d e hd he hbs
  simp only [Bool.and_eq_true] at hbs
  have ht' :=jh hbs.2
  cases hc:(Nat.beq (zu P e) 1&&(jU P e 1&&Nat.beq (zau P e) 1)) with
  | false=>rw [hc] at hk;exact hk.elim
  | true=>
   rw [hc] at hk
   simp only [Bool.and_eq_true] at hc
   obtain ⟨c1,c2,c4⟩:=hc
   obtain ⟨i,z,hi,hz,hzs⟩:=zaF c2
   have hsT:zu P e=i.size:=by unfold zu;rw [hi]
   have hsz:i.size=1:=by have:=Nat.eq_of_beq_eq_true c1;rw [hsT] at this;exact this
   have hbT:zau P e=i.bytes:=by unfold zau;rw [hi]
   have hby:i.bytes=1:=by have:=Nat.eq_of_beq_eq_true c4;rwa [hbT] at this
   have hk:(match ev σ s with
    | .nils=>room ys.length∧K (σ.putOb d (.row false e (.int .u8) (bts ys)) (.slo d))
    | .slo i=>match zg σ.ob i,yG (.int .u8) σ.ob (.slo i) with
     | some (.row false e' _ _),some xs=>bif Nat.beq e e' then room (xs.length+ys.length)∧K (({ σ.kill i with ob:=(i,.row false e (.int .u8) (xs++bts ys))::(σ.kill i).ob }:St).put (some d) (.slo i)) else False
     | _,_=>False
    | _=>False):=hk
   have hxx:=h.ev x
   rw [hx] at hxx
   obtain ⟨st,hst,rfl⟩:=hxx.str
   have hsl:st.size=st.data.toList.length:=strSize st
   have hs:=h.ev s
   have run_: ∀ v' w',(Builtin.append_ #[t,t'] o.type #[a.eval s,.string st]).run P w= .ok v' w' →(execOp a.eval o).run P w= .ok (.value v') w' :=fun v' w' hr=>by
    unfold execOp;rw [ho]
    simp [resolve,hcal,e1,e2,invoke,builtin,hst,hr]
   split at hk
   ·rename_i hb
    rw [hb] at hs
    obtain ⟨A0,hv⟩:=hs
    obtain ⟨hroom,hk⟩:=hk
    obtain ⟨v',w',G',hr,hg,hown,hG'⟩:=zgO (P:=P) (B:=w0.nw) (ty:=o.type) (z8 he) ht' hi hz hsz hzs hby (G:=none) (v:=a.eval s) (xs:=[]) (.inl ⟨rfl,rfl,A0,hv⟩) st (by have hq:st.data.toList.length≤1073741824:=hroom;rw [List.length_nil];omega) (h.below.new (Nat.le_refl _)) (fun g hg=>(h.flt g hg).1) (fun g hg=>by cases hg)
    have h1:=(h.turn hg (fun g hg=>by cases hg)).kill d
    have hfresh: ∀ g,G' =some g→w.heap.size≤g∧g<w'.heap.size:=fun g hgg=>by
     obtain ⟨h2,h3⟩:=hG' g hgg
     rcases h3 with h3 | h3
     ·cases h3
     ·exact ⟨h3,h2⟩
    obtain ⟨M',hinv⟩:=h1.add d (yp M d) (.row false e (.int .u8) (bts st.data.toList)) (.slo d) ⟨G',v',1⟩ v' (some d) (fun g hgg=>by
      obtain ⟨h2,h3⟩:=hfresh g hgg
      have:=h.below.size
      refine ⟨h.below.new h2,fun hc=> ?_,h3,fun j mj hj hjg=> ?_⟩
      ·have:=(h.flt g hc).1;omega
      ·have:=(h.mine _ _ _ (zr hj).2 hjg).2.2;omega)
     (fun M' _ _=>⟨rfl,by simpa using hown⟩) fun M' hM' _=>⟨_,hM',rfl,hown.one⟩
    exact ⟨w',_,F,M',hk,.inl ⟨v',run_ _ _ hr,by rw [hd];exact hinv⟩⟩
   ·rename_i id hb
    rw [hb] at hs
    obtain ⟨mo,hm,hv,_⟩:=hs
    split at hk
    ·rename_i e'' t0 xs0 xs hf hxs
     obtain ⟨rfl,rfl⟩:=zbH hf hxs
     rcases zj e e'' with ⟨rfl,hbe⟩ | ⟨_,hbe⟩
     ·rw [hbe] at hk
      obtain ⟨hroom,hk⟩:=hk
      obtain ⟨mo',hm',hk1,hown0⟩:=h.obs _ _ hf
      have:mo' =mo:=Option.some.inj (hm'.symm.trans hm)
      subst this
      obtain ⟨v',w',G',hr,hg,hown,hG'⟩:=zgO (P:=P) (B:=w0.nw) (ty:=o.type) (z8 he) ht' hi hz hsz hzs hby (v:=a.eval s) (by rw [hv];exact hown0) st (by have hq:xs.length+st.data.toList.length≤1073741824:=hroom;omega) (h.below.new (Nat.le_refl _)) (fun g hg=>(h.flt g hg).1) (fun g hg=>(h.mine _ _ _ hm hg).1)
      have h1:=((h.kill id).turn hg (fun g hgg=>by
       obtain ⟨h2,h3,h4⟩:=h.mine _ _ _ hm hgg
       exact ⟨h3,h2,fun j mj hj hjg=>(zr hj).1 (h.apart _ _ _ _ _ (zr hj).2 hm hjg hgg)⟩))
      obtain ⟨M',hinv⟩:=h1.add id (yp _ id) (.row false e (.int .u8) (xs++bts st.data.toList)) (.slo id) ⟨G',v',1⟩ v' (some d) (fun g hgg=>by
        obtain ⟨h2,h3⟩:=hG' g hgg
        have:=h.below.size
        rcases h3 with h3 | h3
        ·obtain ⟨h4,h5,h6⟩:=h.mine _ _ _ hm h3
         exact ⟨h5,h4,h2,fun j mj hj hjg=>by
          exact (zr hj).1 (h.apart _ _ _ _ _ (zr hj).2 hm hjg h3)⟩
        ·refine ⟨h.below.new h3,fun hc=> ?_,h2,fun j mj hj hjg=> ?_⟩
         ·have:=(h.flt g hc).1;omega
         ·have:=(h.mine _ _ _ (zr hj).2 hjg).2.2;omega)
       (fun M' _ _=>⟨rfl,hown⟩) fun M' hM' _=>⟨_,hM',rfl,hown.one⟩
      exact ⟨w',_,F,M',hk,.inl ⟨v',run_ _ _ hr,by rw [hd];exact hinv⟩⟩
     ·rw [hbe] at hk;exact hk.elim
    ·exact hk.elim
   ·exact hk.elim
 ·exact hk.elim
theorem zgP (h:Inv w0 F0 F M σ a w) {c:Call} (ho:o.op= .call c) (hcal:c.callee= .builtin .append) {s x:Operand} {t t' :TypeId} (ha:c.args.toList=[s,x]) (hat:c.argTypes.toList=[t,t'])
  (hk:zcs P σ o.dst t t' (ev σ s) (ev σ x) K):EY P w0 F0 a w o K:=by
 have e1:c.args= #[s,x]:=by rw [← Array.toArray_toList (xs:=c.args),ha]
 have e2:c.argTypes= #[t,t']:=by rw [← Array.toArray_toList (xs:=c.argTypes),hat]
 unfold zcs at hk
 split at hk
 ·rename_i d e e' hd he he'
  split at hk
  ·rename_i u hty
   cases hc:(Nat.beq (zu P e) u.width&&(jU P e u.width&&(Nat.beq t t' &&Nat.ble (zau P e) 131072))) with
   | false=>rw [hc] at hk;exact hk.elim
   | true=>
    rw [hc] at hk
    simp only [Bool.and_eq_true] at hc
    obtain ⟨c1,c2,c3,c4⟩:=hc
    obtain ⟨i,z,hi,hz,hzs⟩:=zaF c2
    have hsT:zu P e=i.size:=by unfold zu;rw [hi]
    have hsz:i.size=u.width:=by have:=Nat.eq_of_beq_eq_true c1;rw [hsT] at this;exact this
    have hbT:zau P e=i.bytes:=by unfold zau;rw [hi]
    have hby:i.bytes≤131072:=by have:=Nat.le_of_ble_eq_true c4;rwa [hbT] at this
    obtain rfl:=Nat.eq_of_beq_eq_true c3
    have hk:(match yG u σ.ob (ev σ x) with
     | some ys=>match ev σ s with
      | .nils=>room ys.length∧K (σ.putOb d (.row false e u ys) (.slo d))
      | .slo i=>match zg σ.ob i,yG u σ.ob (.slo i) with
       | some (.row false e' _ _),some xs=>bif Nat.beq e e' then room (xs.length+ys.length)∧K (({ σ.kill i with ob:=(i,.row false e u (xs++ys))::(σ.kill i).ob }:St).put (some d) (.slo i)) else False
       | _,_=>False
      | _=>False
     | none=>False):=hk
    split at hk
    ·rename_i ys hys
     obtain ⟨A,cc,news,hsrc⟩:=zid h (h.ev x) hys
     have hs:=h.ev s
     have run_: ∀ v' w',(Builtin.append_ #[t,t] o.type #[a.eval s,a.eval x]).run P w= .ok v' w' →(execOp a.eval o).run P w= .ok (.value v') w' :=fun v' w' hr=>by
      unfold execOp;rw [ho]
      simp [resolve,hcal,e1,e2,invoke,builtin,hr]
     split at hk
     ·rename_i hb
      rw [hb] at hs
      obtain ⟨A0,hv⟩:=hs
      obtain ⟨hroom,hk⟩:=hk
      obtain ⟨v',w',G',hr,hg,hown,hG'⟩:=zd0 (P:=P) (B:=w0.nw) (ty:=o.type) (z8 he) hi hz hsz hzs hby (G:=none) (v:=a.eval s) (xs:=[]) (.inl ⟨rfl,rfl,A0,hv⟩) hsrc (by simpa [room] using hroom) (h.below.new (Nat.le_refl _)) (fun g hg=>(h.flt g hg).1) (fun g hg=>by cases hg)
      have h1:=(h.turn hg (fun g hg=>by cases hg)).kill d
      have hfresh: ∀ g,G' =some g→w.heap.size≤g∧g<w'.heap.size:=fun g hgg=>by
       obtain ⟨h2,h3⟩:=hG' g hgg
       rcases h3 with h3 | h3
       ·cases h3
       ·exact ⟨h3,h2⟩
      obtain ⟨M',hinv⟩:=h1.add d (yp M d) (.row false e u ys) (.slo d) ⟨G',v',u.width⟩ v' (some d) (fun g hgg=>by
        obtain ⟨h2,h3⟩:=hfresh g hgg
        have:=h.below.size
        refine ⟨h.below.new h2,fun hc=> ?_,h3,fun j mj hj hjg=> ?_⟩
        ·have:=(h.flt g hc).1;omega
        ·have:=(h.mine _ _ _ (zr hj).2 hjg).2.2;omega)
       (fun M' _ _=>⟨rfl,by simpa using hown⟩) fun M' hM' _=>⟨_,hM',rfl,hown.one⟩
      exact ⟨w',_,F,M',hk,.inl ⟨v',run_ _ _ hr,by rw [hd];exact hinv⟩⟩
     ·rename_i id hb
      rw [hb] at hs
      obtain ⟨mo,hm,hv,_⟩:=hs
      split at hk
      ·rename_i e'' t0 xs0 xs hf hxs
       obtain ⟨rfl,rfl⟩:=zbH hf hxs
       rcases zj e e'' with ⟨rfl,hbe⟩ | ⟨_,hbe⟩
       ·rw [hbe] at hk
        obtain ⟨hroom,hk⟩:=hk
        obtain ⟨mo',hm',hk1,hown0⟩:=h.obs _ _ hf
        have:mo' =mo:=Option.some.inj (hm'.symm.trans hm)
        subst this
        obtain ⟨v',w',G',hr,hg,hown,hG'⟩:=zd0 (P:=P) (B:=w0.nw) (ty:=o.type) (z8 he) hi hz hsz hzs hby (v:=a.eval s) (by rw [hv];exact hown0) hsrc hroom (h.below.new (Nat.le_refl _)) (fun g hg=>(h.flt g hg).1) (fun g hg=>(h.mine _ _ _ hm hg).1)
        have h1:=((h.kill id).turn hg (fun g hgg=>by
         obtain ⟨h2,h3,h4⟩:=h.mine _ _ _ hm hgg
         exact ⟨h3,h2,fun j mj hj hjg=>(zr hj).1 (h.apart _ _ _ _ _ (zr hj).2 hm hjg hgg)⟩))
        obtain ⟨M',hinv⟩:=h1.add id (yp _ id) (.row false e t0 (xs++ys)) (.slo id) ⟨G',v',t0.width⟩ v' (some d) (fun g hgg=>by
          obtain ⟨h2,h3⟩:=hG' g hgg
          have:=h.below.size
          rcases h3 with h3 | h3
          ·obtain ⟨h4,h5,h6⟩:=h.mine _ _ _ hm h3
           exact ⟨h5,h4,h2,fun j mj hj hjg=>by
            exact (zr hj).1 (h.apart _ _ _ _ _ (zr hj).2 hm hjg h3)⟩
          ·refine ⟨h.below.new h3,fun hc=> ?_,h2,fun j mj hj hjg=> ?_⟩
           ·have:=(h.flt g hc).1;omega
           ·have:=(h.mine _ _ _ (zr hj).2 hjg).2.2;omega)
         (fun M' _ _=>⟨rfl,hown⟩) fun M' hM' _=>⟨_,hM',rfl,hown.one⟩
        exact ⟨w',_,F,M',hk,.inl ⟨v',run_ _ _ hr,by rw [hd];exact hinv⟩⟩
       ·rw [hbe] at hk;exact hk.elim
      ·exact hk.elim
     ·exact hk.elim
    ·exact hk.elim
  ·exact hk.elim
 ·exact hk.elim
theorem zaX: ∀ (vs us:List Value) (off j:Nat),(qh us off vs)[j]? =if off≤j∧j<off+vs.length∧j<us.length then vs[j - off]? else us[j]?
 | [],us,off,j=>by
  rw [if_neg (by simp only [List.length_nil];omega)];rfl
 | v::r,us,off,j=>by
  rw [qh,zaX r]
  simp only [List.length_cons,List.length_set]
  by_cases h:off+1≤j∧j<off+1+r.length∧j<us.length
  ·rw [if_pos h,if_pos (by omega)]
   have:j - off=(j - (off+1))+1:=by omega
   rw [this,List.getElem?_cons_succ]
  ·rw [if_neg h,List.getElem?_set]
   by_cases hj:off=j
   ·subst hj
    by_cases hl:off<us.length
    ·rw [if_pos rfl,if_pos hl,if_pos (by omega),Nat.sub_self];rfl
    ·rw [if_pos rfl,if_neg hl,if_neg (by omega),List.getElem?_eq_none (by omega)]
   ·rw [if_neg hj,if_neg (by omega)]
theorem ze1 {us vs:List Value} {b off n:Nat} (h1:off+vs.length≤n) (_h2:b+n≤us.length):((qh us (b+off) vs).drop b).take n=qh ((us.drop b).take n) off vs:=by
 apply List.ext_getElem?
 intro j
 rw [List.getElem?_take,zaX]
 by_cases hj:j<n
 ·rw [if_pos hj,List.getElem?_drop,zaX]
  have hl:((us.drop b).take n).length=n:=by simp;omega
  rw [hl]
  by_cases hin:off≤j∧j<off+vs.length
  ·rw [if_pos (by omega),if_pos (by omega)]
   congr 1;omega
  ·rw [if_neg (by omega),if_neg (by omega),List.getElem?_take,if_pos hj,List.getElem?_drop]
 ·rw [if_neg hj,if_neg (by omega),List.getElem?_take,if_neg hj]
theorem zfS {us vs:List Value} {b off n b' :Nat} (h1:off+vs.length≤n) (h:b' +n≤b∨b+n≤b'):((qh us (b+off) vs).drop b').take n=(us.drop b').take n:=by
 apply List.ext_getElem?
 intro j
 rw [List.getElem?_take,List.getElem?_take]
 by_cases hj:j<n
 ·rw [if_pos hj,if_pos hj,List.getElem?_drop,List.getElem?_drop,zaX,if_neg (by omega)]
 ·rw [if_neg hj,if_neg hj]
theorem zi5 {t:Ty} {x:t.I} {us:List Value} (h:RV w F t x us):Rel w F M us (enc t x):=by
 refine ⟨by rw [h.len,q9],fun j c hj=> ?_⟩
 obtain ⟨u,h1,h2⟩:=yU h j c hj
 exact ⟨u,h1,h.one u (List.mem_of_getElem? h1),h2.to0⟩
theorem zcD {t:TypeId} {g off:Nat} {us:Array Value} {ty:TypeId} {v:Value} (hg:w.heap[g]? =some (.cells us ty (0,0))) (hlen:v.cells.size=zu P t) (hpos:0<v.cells.size) (hfit:off+v.cells.size≤us.size)
  (hone: ∀ u∈v.cells.toList,u.oneCell' =true):(Instr.storeAt t (.pointer (some ⟨g,off,none⟩)) v).run P w= .ok () (w.setRow g (qh us.toList off v.cells.toList).toArray):=by
 have: ∃ i,P.info? t=some i∧i.size=v.cells.size:=by
  unfold zu at hlen
  split at hlen
  ·rename_i i hi;exact ⟨i,hi,hlen.symm⟩
  ·omega
 obtain ⟨i,hi,hs⟩:=this
 have hr:=run_storeCells_at P g off ty v.cells.toList 0 us w hg (by simpa using hfit) hone
 rw [zb8 _ _ _ (by simpa using hfit)]
 simp only [Nat.add_zero] at hr
 simp [Instr.storeAt,Instr.sureAddr,storeVar,sizeOf,typeInfo,hi,hs,hr]
theorem Rel.ones {us:List Value} {cs:List D} (h:Rel w F M us cs): ∀ u∈us,u.oneCell' =true:=by
 intro u hu
 obtain ⟨j,hj,rfl⟩:=List.mem_iff_getElem.1 hu
 have hjc:j<cs.length:=by rw [← h.1];exact hj
 obtain ⟨u',h1,h2,_⟩:=h.2 j _ (List.getElem?_eq_getElem hjc)
 rw [List.getElem?_eq_getElem hj] at h1
 cases h1
 exact h2
theorem zcE (h:Inv w0 F0 F M σ a w) {i:Nat} {mo:MO} {g:Nat} (hm:M i=some mo) (hg:mo.g=some g) (cs:Array Value):Same F w (w.setRow g cs):=
 fun b hb=>setRow_other w g b _ (fun e=>by subst e;exact (h.mine _ _ _ hm hg).1 hb)
theorem zi6 {t:Ty} {xs:List t.I} {us vs:List Value} {i:Int} {off:Nat} {y:t.I} (hh:Holds w F t xs us) (hlen:xs.length*t.width≤us.length) (hi:inR i xs.length) (hfit:off+vs.length≤t.width)
  (hy:RV w F t y (qh ((us.drop (i.toNat*t.width)).take t.width) off vs)):Holds w F t (xs.set i.toNat y) (qh us (i.toNat*t.width+off) vs):=by
 intro k x hk
 have hil:i.toNat<xs.length:=by have:=hi.1;have:=hi.2;omega
 have hle:i.toNat*t.width+t.width≤us.length:=by
  have:i.toNat*t.width+t.width≤xs.length*t.width:=by rw [← Nat.succ_mul];exact Nat.mul_le_mul_right _ hil
  omega
 rw [List.getElem?_set] at hk
 by_cases hik:i.toNat=k
 ·subst hik
  rw [if_pos rfl,if_pos hil] at hk
  cases hk
  rw [ze1 hfit hle]
  exact hy
 ·rw [if_neg hik] at hk
  rw [zfS hfit]
  ·exact hh k x hk
  ·rcases Nat.lt_or_gt_of_ne hik with hlt | hgt
   ·right;rw [← Nat.succ_mul];exact Nat.mul_le_mul_right _ hlt
   ·left;rw [← Nat.succ_mul];exact Nat.mul_le_mul_right _ hgt
theorem zi7 (h:Inv w0 F0 F M σ a w) {t:TypeId} {p x:Operand} (ho:o.op= .store t p x) (hd:o.dst=none) (hk:zeT P σ t (ev σ p) (ev σ x) K):EY P w0 F0 a w o K:=by
 have hp:=h.ev p
 have hput: ∀ v,a.put o.dst v=a:=fun v=>by rw [hd];rfl
 have fin: ∀ {g off:Nat} {w' :World} {σ' :St},a.eval p= .pointer (some ⟨g,off,none⟩)→(Instr.storeAt t (.pointer (some ⟨g,off,none⟩)) (a.eval x)).run P w= .ok () w' →K σ' →Inv w0 F0 F M σ' a w' →EY P w0 F0 a w o K:=fun {g off w' σ'} h1 h2 h3 h4=>
  ⟨w',σ',F,M,h3,.inr ⟨by unfold execOp;rw [ho];simp [h1,h2],by rw [hput];exact h4⟩⟩
 unfold zeT at hk
 split at hk
 ·rename_i new hnew
  have hrel:=yw (h.ev x) hnew
  cases hb:(Nat.beq new.length (zu P t)&&Nat.blt 0 new.length) with
  | false=>rw [hb] at hk;exact hk.elim
  | true=>
   rw [hb] at hk
   simp only [Bool.and_eq_true] at hb
   have hsize:(a.eval x).cells.size=new.length:=by simpa using hrel.1
   have hlen:(a.eval x).cells.size=zu P t:=by rw [hsize];exact Nat.eq_of_beq_eq_true hb.1
   have hnl:(a.eval x).cells.toList.length=new.length:=hrel.1
   have hpos:0<(a.eval x).cells.size:=by rw [hsize];simpa [Nat.blt_eq] using hb.2
   have hk:(match ev σ p with
    | .ptr i o=>match zg σ.ob i with
     | some (.cells p T cs)=>bif Nat.ble (o+new.length) cs.length then K { σ with ob:=qo σ.ob i (.cells p T (setFrom cs o new)) } else False
     | _=>False
    | .rptr i ix o=>match rowsOf [ev σ x] with
     | []=>match zg σ.ob i with
      | some (.row p e u xs)=>inR ix xs.length∧bif Nat.ble (o+new.length) u.width then
        match yO u (setFrom (enc u (atI u xs ix)) o (zX σ.ob new)) with
        | some y=>K { σ with ob:=qo σ.ob i (.row p e u (xs.set ix.toNat y)) }
        | none=>False
       else False
      | some (.arr u xs)=>inR ix xs.length∧bif Nat.ble (o+new.length) u.width then
        match yO u (setFrom (enc u (atI u xs ix)) o (zX σ.ob new)) with
        | some y=>K { σ with ob:=qo σ.ob i (.arr u (xs.set ix.toNat y)) }
        | none=>False
       else False
      | _=>False
     | _=>False
    | _=>False):=hk
   split at hk
   ·rename_i i off hpb
    rw [hpb] at hp
    obtain ⟨mo,g,hm,hg,hv⟩:=hp
    split at hk
    ·rename_i cs hf
     cases hble:Nat.ble (off+new.length) cs.length with
     | false=>rw [hble] at hk;exact hk.elim
     | true=>
      rw [hble] at hk
      have hle:=Nat.le_of_ble_eq_true hble
      obtain ⟨mo',hm',g',us,h1,h2,h3,h4⟩:=h.obs _ _ hf
      have:mo' =mo:=Option.some.inj (hm'.symm.trans hm)
      subst this
      have:g' =g:=Option.some.inj (h1.symm.trans hg)
      subst this
      have hr:=zcD (P:=P) (t:=t) (off:=off) h2 hlen hpos (by rw [hsize,h3];exact hle) hrel.ones
      have hrel0:Rel w F M us.toList cs:=⟨by simpa using h3,fun j c hj=>by simpa using h4 j c hj⟩
      have hrel1:=(hrel0.setFrom (off:=off) hrel).keep (zcE h hm hg (qh us.toList off (a.eval x).cells.toList).toArray) (fun _ y=>y) (MLe.refl M)
      refine fin hv hr hk (h.store hm hg (zaW w g' _) _ ⟨g',_,hg,setRow_heap w g' us _ _ _ h2,by simpa using hrel1.1,fun j c hj=> ?_⟩ fun hp=>h.pins _ _ hf hp)
      obtain ⟨u,h5,h6⟩:=hrel1.2 j c hj
      exact ⟨u,by simpa using h5,h6⟩
    ·exact hk.elim
   ·rename_i i ix off hpb
    rw [hpb] at hp
    obtain ⟨mo,g,hm,hg,hv⟩:=hp
    split at hk
    ·rename_i hrows
     have hsn:Rel w F noM (a.eval x).cells.toList (zX σ.ob new):=hrel.snap h (fun _ y=>y) fun k hkm=>by
      exfalso
      have:k∈rowsOf [ev σ x]:=by
       cases hx:ev σ x<;>rw [hx] at hnew<;>simp only [cellsOf,Option.some.injEq] at hnew<;>first | (cases hnew;done) | skip
       case agg=>subst hnew;simp only [rowsOf,List.mem_append];exact .inl hkm
       all_goals (subst hnew;simp only [rowsOf,List.mem_append];left;simpa using hkm)
      rw [hrows] at this;cases this
     have hsl:(zX σ.ob new).length=new.length:=zak _ _
     have elem: ∀ {u:Ty} {xs:List u.I} {us:Array Value} {ty:TypeId} {y:u.I},mo.k=u.width→w.heap[g]? =some (.cells us ty (0,0))→Holds w F u xs us.toList→xs.length*u.width≤us.size→inR ix xs.length→off+new.length≤u.width→
       yO u (setFrom (enc u (atI u xs ix)) off (zX σ.ob new))=some y→
       (Instr.storeAt t (.pointer (some ⟨g,ix.toNat*mo.k+off,none⟩)) (a.eval x)).run P w= .ok () (w.setRow g (qh us.toList (ix.toNat*u.width+off) (a.eval x).cells.toList).toArray)∧
       Holds (w.setRow g (qh us.toList (ix.toNat*u.width+off) (a.eval x).cells.toList).toArray) F u (xs.set ix.toNat y) (qh us.toList (ix.toNat*u.width+off) (a.eval x).cells.toList):=by
      intro u xs us ty y hmk hh hHolds hle hin hfit hdec
      have hil:ix.toNat<xs.length:=by have:=hin.1;have:=hin.2;omega
      have hwin:ix.toNat*u.width+u.width≤us.size:=by
       have:ix.toNat*u.width+u.width≤xs.length*u.width:=by rw [← Nat.succ_mul];exact Nat.mul_le_mul_right _ hil
       omega
      refine ⟨by rw [hmk];exact zcD hh hlen hpos (by rw [hsize];omega) hrel.ones,?_⟩
      have hel:Rel w F noM ((us.toList.drop (ix.toNat*u.width)).take u.width) (enc u (atI u xs ix)):=zi5 (hHolds _ _ (zfO hin))
      have hy:=qa (hel.setFrom (off:=off) hsn) hdec
      exact (zi6 hHolds (by simpa using hle) hin (by rw [hnl];exact hfit) hy).keep (zcE h hm hg _) fun _ z=>z
     split at hk
     ·rename_i pn e u xs hf
      obtain ⟨hin,hk⟩:=hk
      cases hble:Nat.ble (off+new.length) u.width with
      | false=>rw [hble] at hk;exact hk.elim
      | true=>
       rw [hble] at hk
       have hk:(match yO u (setFrom (enc u (atI u xs ix)) off (zX σ.ob new)) with
        | some y=>K { σ with ob:=qo σ.ob i (.row pn e u (xs.set ix.toNat y)) }
        | none=>False):=hk
       split at hk
       ·rename_i y hdec
        obtain ⟨mo',hm',hmk,hown⟩:=h.obs _ _ hf
        have:mo' =mo:=Option.some.inj (hm'.symm.trans hm)
        subst this
        rcases hown with ⟨_,h8,_⟩ | ⟨g',cap,us,h7,hB,h9,h10,h11,h12,h13,h14⟩
        ·rw [h8] at hg;cases hg
        ·have:g' =g:=Option.some.inj (h7.symm.trans hg)
         subst this
         obtain ⟨hr,hHolds'⟩:=elem hmk h10 h14 (by rw [h13];exact Nat.mul_le_mul_right _ h11) hin (Nat.le_of_ble_eq_true hble) hdec
         refine fin hv hr hk (h.store hm hg (zaW w g' _) _ ⟨hmk,.inr ⟨g',cap,_,hg,hB,by rw [List.length_set];exact h9,setRow_heap w g' us _ e _ h10,by rw [List.length_set];exact h11,h12,?_,by simpa using hHolds'⟩⟩ fun hp=>h.pins _ _ hf hp)
         rw [List.size_toArray,zaU,Array.length_toList];exact h13
       ·exact hk.elim
     ·rename_i u xs hf
      obtain ⟨hin,hk⟩:=hk
      cases hble:Nat.ble (off+new.length) u.width with
      | false=>rw [hble] at hk;exact hk.elim
      | true=>
       rw [hble] at hk
       have hk:(match yO u (setFrom (enc u (atI u xs ix)) off (zX σ.ob new)) with
        | some y=>K { σ with ob:=qo σ.ob i (.arr u (xs.set ix.toNat y)) }
        | none=>False):=hk
       split at hk
       ·rename_i y hdec
        obtain ⟨mo',hm',g',us,ty,h1,hmk,h2,h3,h4⟩:=h.obs _ _ hf
        have:mo' =mo:=Option.some.inj (hm'.symm.trans hm)
        subst this
        have:g' =g:=Option.some.inj (h1.symm.trans hg)
        subst this
        obtain ⟨hr,hHolds'⟩:=elem hmk h2 h4 (by rw [h3];exact Nat.le_refl _) hin (Nat.le_of_ble_eq_true hble) hdec
        refine fin hv hr hk (h.store hm hg (zaW w g' _) _ ⟨g',_,ty,hg,hmk,setRow_heap w g' us _ ty _ h2,?_,by simpa using hHolds'⟩ fun hp=>by cases hp)
        rw [List.size_toArray,zaU,Array.length_toList,List.length_set];exact h3
       ·exact hk.elim
     ·exact hk.elim
    ·exact hk.elim
   ·exact hk.elim
 ·exact hk.elim
end
end
section
open Go.RowKit
section
variable {P:Program} {w0:W0 P} {w:World} {F0 F F1:Nat→Prop} {M:Nat→Option MO} {σ:St} {a:Act} {o:Oper} {K:St→Prop} {μ:List Nat}
def QS (P:Program) (w0:W0 P) (F0:Nat→Prop) (a:Act) (w:World) (o:Oper) (K:St→Prop):Prop:=
 ∃ v σ' F' M',K σ' ∧Inv w0 F0 F' M' σ' (a.put o.dst v) w∧ ∀ w',Below w.heap.size w w' →(execOp a.eval o).run P w' = .ok (.value v) w'
theorem QY.qs (h:Inv w0 F0 F M σ a w) (hq:QY P F M a w o fun d=>K (σ.put o.dst d)):QS P w0 F0 a w o K:=by
 obtain ⟨v,d,h1,h2,h3⟩:=hq
 exact ⟨v,_,F,M,h1,h.put h2 o.dst,h3⟩
theorem zoF (h:Inv w0 F0 F M σ a w) {t:TypeId} {x:Operand} {lo hi mx:Option Operand} {i:Nat} (ho:o.op= .slice t x lo hi mx) (hx:ev σ x= .slo i)
  (hk:cutD P t (yN σ.ob (.slo i)) (lo.map (ev σ)) (hi.map (ev σ)) (mx.map (ev σ)) fun d=>K ((σ.ice i).put o.dst d)):QS P w0 F0 a w o K:=by
 have hxx:=h.ev x
 rw [hx] at hxx
 obtain ⟨mo,hm,hv,_⟩:=hxx
 have nobad:cutD P t .bad (lo.map (ev σ)) (hi.map (ev σ)) (mx.map (ev σ)) (fun d=>K ((σ.ice i).put o.dst d))→False:=fun hh=>by
  unfold cutD at hh
  split at hh
  ·exact hh
  ·simp at hh
  ·exact hh
 cases hf:zg σ.ob i with
 | none=>simp only [yN,hf] at hk;exact (nobad hk).elim
 | some q=>
  cases q
  case cells p T cs=>simp only [yN,hf] at hk;exact (nobad hk).elim
  case arr t' xs=>simp only [yN,hf] at hk;exact (nobad hk).elim
  case buf e xs=>simp only [yN,hf] at hk;exact (nobad hk).elim
  case row pn e u xs=>
   cases pn with
   | true=>simp only [yN,hf] at hk;exact (nobad hk).elim
   | false=>
    simp only [yN,hf] at hk
    obtain ⟨mo',hm',hmk,hown⟩:=h.obs _ _ hf
    have:mo' =mo:=Option.some.inj (hm'.symm.trans hm)
    subst this
    have hr:RV w (fun b=>F b∨mo'.g=some b) (.list u) xs [mo'.v]:=hown.reads (fun _ y=>Or.inl y) fun g hg=>Or.inr hg
    have hice:Inv w0 F0 (fun b=>F b∨mo'.g=some b) (yu M i) (σ.ice i) a w:=by
     have:=h.ice_ (id:=i) (new:= .val (.list u) xs) (F' :=fun b=>F b∨mo'.g=some b) (fun _ y=>Or.inl y) (fun g hg=>hg.imp_right fun hg=>⟨mo',hm,hg⟩) fun m hmm=>by
      have:m=mo' :=Option.some.inj (hmm.symm.trans hm)
      subst this
      exact hr
     unfold St.ice
     rw [hf]
     exact this
    have hy:=zeY (P:=P) (F' :=fun b=>F b∨mo'.g=some b) (M' :=yu M i) h (v:=a.eval x) (x:= .val (.list u) xs) (by rw [hv];exact hr) hk
    obtain ⟨v,d,h1,h2,h3⟩:=hy
    exact ⟨v,_,_,_,h1,hice.put h2 o.dst,fun w' hb=>by unfold execOp;rw [ho];simp [h3 w' hb]⟩
theorem zlB (h:Inv w0 F0 F M σ a w) {t:TypeId} {x:Operand} {lo hi mx:Option Operand} {i:Nat} (ho:o.op= .slice t x lo hi mx) (hx:ev σ x= .slo i) {e:TypeId} {u:Ty} {xs:List u.I} {k:IntKind} {n:Int}
  (hf:zg σ.ob i=some (.row false e u xs)) (he:yC P t=some e) (hlo:lo.map (ev σ)=none) (hhi:hi.map (ev σ)=some (.val (.int k) n)) (hmx:mx.map (ev σ)=none) (hb:Nat.beq (zu P e) u.width=true) (h1:0≤n) (h2:n≤(xs.length:Int))
  (hk:K (({ σ.kill i with ob:=(i,.row false e u (xs.take n.toNat))::(σ.kill i).ob }:St).put o.dst (.slo i))):QS P w0 F0 a w o K:=by
 have hxx:=h.ev x
 rw [hx] at hxx
 obtain ⟨mo,hm,hv,_⟩:=hxx
 obtain ⟨inf,hinf,hsz⟩:=jX hb (yj u)
 have hlo' :lo.map a.eval=none:=by cases lo<;>simp_all
 have hmx' :mx.map a.eval=none:=by cases mx<;>simp_all
 have hhi' :hi.map a.eval=some (.int k n):=by
  cases hi with
  | none=>cases hhi
  | some y=>
   have hy:=h.ev y
   simp only [Option.map_some,Option.some.injEq] at hhi
   rw [hhi] at hy
   simp [hy.int]
 obtain ⟨mo',hm',hmk,hown⟩:=h.obs _ _ hf
 have:mo' =mo:=Option.some.inj (hm'.symm.trans hm)
 subst this
 have key: ∃ v',(∀ w',(Instr.sliceAt t mo'.v none (some (.int k n)) none).run P w' = .ok v' w')∧OwnR w F w0.nw mo'.g v' e u (xs.take n.toNat):=by
  have hrun: ∀ (A:Option Addr) (c:Nat),xs.length≤c→ ∀ w',(Instr.sliceAt t (.slice A xs.length c) none (some (.int k n)) none).run P w' = .ok (.slice (if c=0 then A else A.map (·.add 0)) n.toNat c) w' :=fun A c hc w' =>by
   have hb:=qG (P:=P) (b:=true) (len:=xs.length) (cap:=c) (lo:=none) (hi:=some (.int k n)) (.inl ⟨rfl,rfl⟩) (.inr ⟨k,rfl⟩) (Int.le_refl 0) h1 h2 hc w'
   simp [Instr.sliceAt,run_underlying (z8 he),Instr.slice,hb,sizeOf,typeInfo,hinf,hsz]
  rcases hown with ⟨rfl,hg,A0,hv0⟩ | ⟨g,cap,us,hg,hB,hv0,hh,hc1,hc2,hus,hhold⟩
  ·have hn:n.toNat=0:=by simp at h2;omega
   refine ⟨.slice A0 0 0,fun w' => ?_,.inl ⟨by simp,hg,A0,rfl⟩⟩
   have:=hrun A0 0 (by simp) w'
   rw [hv0]
   simpa [hn] using this
  ·refine ⟨.slice (some ⟨g,0,none⟩) n.toNat cap,fun w' => ?_,.inr ⟨g,cap,us,hg,hB,?_,hh,?_,hc2,hus,fun j y hj=> ?_⟩⟩
   ·have:=hrun (some ⟨g,0,none⟩) cap hc1 w'
    rw [hv0]
    simpa [add_lit] using this
   ·rw [List.length_take,Nat.min_eq_left (by omega)]
   ·rw [List.length_take];omega
   ·rw [List.getElem?_take] at hj
    split at hj
    ·exact hhold j y hj
    ·cases hj
 obtain ⟨v',hrun,hown'⟩:=key
 have h3:=h.kill i
 obtain ⟨M',hinv⟩:=h3.add i (yp M i) (.row false e u (xs.take n.toNat)) (.slo i) ⟨mo'.g,v',u.width⟩ v' o.dst (fun g hg=>by
   obtain ⟨h4,h5,h6⟩:=h.mine _ _ _ hm hg
   exact ⟨h5,h4,h6,fun j mj hj hjg=>(zr hj).1 (h.apart _ _ _ _ _ (zr hj).2 hm hjg hg)⟩)
  (fun M' _ _=>⟨rfl,hown'⟩) fun M' hM' _=>⟨_,hM',rfl,hown'.one⟩
 refine ⟨v',_,F,M',hk,hinv,fun w' _=> ?_⟩
 unfold execOp;rw [ho]
 simp [hlo',hhi',hmx',hv,hrun w']
theorem zoG (h:Inv w0 F0 F M σ a w) {t:TypeId} {x:Operand} {lo hi mx:Option Operand} {i:Nat} (ho:o.op= .slice t x lo hi mx) (hx:ev σ x= .slo i)
  (hk:zeU P σ o.dst t i (lo.map (ev σ)) (hi.map (ev σ)) (mx.map (ev σ)) K):QS P w0 F0 a w o K:=by
 unfold zeU at hk
 split at hk
 ·rename_i e u xs e' k n hf he hlo hhi hmx
  cases hb:(Nat.beq e e' &&Nat.beq (zu P e) u.width) with
  | false=>rw [hb] at hk;exact hk.elim
  | true=>
   rw [hb] at hk
   simp only [Bool.and_eq_true] at hb
   obtain ⟨⟨h1,h2⟩,hk⟩:=hk
   obtain rfl:=Nat.eq_of_beq_eq_true hb.1
   exact zlB h ho hx hf he hlo hhi hmx hb.2 h1 h2 hk
 ·exact hk.elim
theorem zcF: ∀ (l:List Operand) (i:Nat),(evs σ l)[i]? =(l[i]?).map (ev σ)
 | [],i=>by simp [evs]
 | x::r,0=>by simp [evs]
 | x::r,i+1=>by simpa [evs] using zcF r i
theorem qH: ∀ l:List Operand,(evs σ l).length=l.length
 | []=>rfl
 | x::r=>by simp [evs,qH r]
theorem ze2 (ob:List (Nat×Ob)): ∀ (l:List D) (i:Nat),(zL ob l)[i]? =(l[i]?).map (snap ob)
 | [],i=>by simp [zL]
 | x::r,0=>by simp [zL]
 | x::r,i+1=>by simpa [zL] using ze2 ob r i
theorem yc (ob:List (Nat×Ob)): ∀ l:List D,(zL ob l).length=l.length
 | []=>rfl
 | x::r=>by simp [zL,yc ob r]
theorem zdo {d:D} {i:Nat}: ∀ {l:List D},d∈l→(i∈d.rows0∨ ∃ cs,d= .agg cs∧i∈cs.flatMap D.rows0)→i∈rowsOf l
 | x::r,hd,hi=>by
  rcases List.mem_cons.1 hd with rfl | hd
  ·rcases hi with hi | ⟨cs,rfl,hi⟩
   ·cases d<;>simp only [rowsOf,List.mem_append]<;>first | exact .inl hi | (simp [D.rows0] at hi)
   ·simp only [rowsOf,List.mem_append];exact .inl hi
  ·have:=zdo hd hi
   cases x<;>simp only [rowsOf,List.mem_append]<;>exact .inr this
theorem R.snap (h:Inv w0 F0 F M σ a w) (hF: ∀ g,F g→F1 g) {v:Value} {d:D} (hr:R w F M v d)
  (hf: ∀ i,(i∈d.rows0∨ ∃ cs,d= .agg cs∧i∈cs.flatMap D.rows0)→(∃ e t xs,zg σ.ob i=some (.row false e t xs))→ ∀ mo g,M i=some mo→mo.g=some g→F1 g):R1 w F1 noM v (snap σ.ob d):=by
 cases d
 case agg cs=>
  obtain ⟨us,h1,h2,h3⟩:=hr
  have hrel:Rel w F M us.toList cs:=⟨by simpa using h2,fun j c hj=>by simpa using h3 j c hj⟩
  have:=hrel.snap h hF fun i hi=>hf i (.inr ⟨cs,rfl,hi⟩)
  exact ⟨us,h1,by simpa using this.1,fun j c hj=>by simpa using this.2 j c hj⟩
 case tup xs=>exact trivial
 all_goals (simp only [R,R1] at hr;exact R1.of0 (R0.snap h hF hr fun i hi=>hf i (.inl hi)))
theorem ji (h:Inv w0 F0 F M σ a w) (hF: ∀ g,F g→F1 g) {l:List Operand} (hf:Froz σ M F1 (rowsOf (evs σ l))):
  ∀ (i:Nat) d',(zL σ.ob (evs σ l))[i]? =some d' → ∃ v,(l.map a.eval)[i]? =some v∧R1 w F1 noM v d' :=by
 intro i d' hi
 rw [ze2,zcF] at hi
 cases hl:l[i]? with
 | none=>rw [hl] at hi;cases hi
 | some x=>
  rw [hl] at hi
  simp only [Option.map_some,Option.some.injEq] at hi
  subst hi
  refine ⟨a.eval x,by simp [hl],(h.ev x).snap h hF fun j hj=>hf j (zdo (d:=ev σ x) ?_ hj)⟩
  exact List.mem_of_getElem? (i:=i) (by rw [zcF,hl];rfl)
theorem zaG: ∀ {l:List D},zaT l=true→ ∀ d∈l,(∃ t x,d= .val t x)∨d= .nils
 | [],_,d,hd=>by cases hd
 | e::r,h,d,hd=>by
  cases e<;>simp only [zaT] at h<;>first | (cases h;done) | skip
  all_goals
   rcases List.mem_cons.1 hd with rfl | hd
   ·first | exact .inl ⟨_,_,rfl⟩ | exact .inr rfl
   ·exact zaG h d hd
theorem zbI: ∀ {l:List D},zh5 l=true→ ∀ d∈l,(∃ t x,d= .val t x)∨ ∃ cs,d= .ept cs∧zaT cs=true
 | [],_,d,hd=>by cases hd
 | e::r,h,d,hd=>by
  cases e<;>simp only [zh5] at h<;>first | (cases h;done) | skip
  case val=>
   rcases List.mem_cons.1 hd with rfl | hd
   ·exact .inl ⟨_,_,rfl⟩
   ·exact zbI h d hd
  case ept=>
   rw [Bool.and_eq_true] at h
   rcases List.mem_cons.1 hd with rfl | hd
   ·exact .inr ⟨_,rfl,h.1⟩
   ·exact zbI h.2 d hd
theorem Inv.frz2 (h:Inv w0 F0 F M σ a w) (t id:Nat): ∃ F' M',Inv w0 F0 F' M' (σ.frz2 t id) a w:=by
 unfold St.frz2
 split
 ·rename_i i T cs hs ho
  split
  ·rename_i hb
   rw [Bool.and_eq_true] at hb
   have hi:i=id:=by
    rcases zj i id with ⟨h1,_⟩ | ⟨_,h1⟩
    ·exact h1
    ·rw [h1] at hb;cases hb.1
   subst hi
   have hsl:=h.slots t
   rw [hs] at hsl
   obtain ⟨mo,g,h1,h2,h3⟩:=hsl
   obtain ⟨mo',h4,g',us,h5,h6,h7,h8⟩:=h.obs i _ ho
   have:mo' =mo:=Option.some.inj (h4.symm.trans h1)
   subst this
   have:g' =g:=Option.some.inj (h5.symm.trans h2)
   subst this
   have hF: ∀ b,F b→(F b∨mo'.g=some b):=fun _ x=>Or.inl x
   have hice:Inv w0 F0 (fun b=>F b∨mo'.g=some b) (yu M i) (σ.kill i) a w:=
    h.ice_ hF (fun b hb' =>hb'.imp_right fun hb' =>⟨mo',h1,hb'⟩) (fun _ _=>trivial)
   refine ⟨_,_,hice.know (t:=t) (d:= .ept cs) ?_⟩
   rw [h3]
   refine ⟨⟨g',0,none⟩,us.toList,rfl,.inr h2,fun j u hj=> ?_,by simpa using h7,fun j c hj=> ?_⟩
   ·rw [add_lit,Nat.zero_add,cell_of_row w g' _ us T (0,0) h6]
    have hju:us[j]? =some u:=by simpa using hj
    refine ⟨hju,?_⟩
    have hlt:j<cs.length:=by
     have:=(Array.getElem?_eq_some_iff.1 hju).1;omega
    obtain ⟨u',h9,h10,_⟩:=h8 j cs[j] (List.getElem?_eq_getElem hlt)
    have:u' =u:=Option.some.inj (h9.symm.trans hju)
    rw [← this];exact h10
   ·obtain ⟨u,h9,h10,h11⟩:=h8 j c hj
    rcases zaG hb.2 c (List.mem_of_getElem? hj) with ⟨t',x,rfl⟩ | rfl
    ·have h12:RV w F t' x [u]:=h11
     exact ⟨u,by simpa using h9,h12.keep (fun _ _=>rfl) hF⟩
    ·exact ⟨u,by simpa using h9,h11⟩
  ·exact ⟨F,M,h⟩
 ·exact ⟨F,M,h⟩
theorem Inv.frz1 (h:Inv w0 F0 F M σ a w) (x:Operand): ∃ F' M',Inv w0 F0 F' M' (σ.frz1 x) a w:=by
 unfold St.frz1
 split
 ·split
  ·split
   ·obtain ⟨F1,M1,h1,_⟩:=qb (rowsOf _) h
    exact h1.frz2 _ _
   ·exact ⟨F,M,h⟩
  ·exact ⟨F,M,h⟩
 ·exact ⟨F,M,h⟩
theorem Inv.frzs: ∀ (l:List Operand) {F:Nat→Prop} {M:Nat→Option MO} {σ:St},Inv w0 F0 F M σ a w→ ∃ F' M',Inv w0 F0 F' M' (σ.frzs l) a w
 | [],F,M,σ,h=>⟨F,M,h⟩
 | x::r,F,M,σ,h=>by
  obtain ⟨F1,M1,h1⟩:=h.frz1 x
  exact Inv.frzs r h1
theorem zq2 (h:Inv w0 F0 F M σ a w) {g:FuncId} {first cap:Array Operand} (ho:o.op= .makeFunc (.func g) first cap) (hk:ziT σ o.dst g first.toList cap.toList K):QS P w0 F0 a w o K:=by
 unfold ziT at hk
 split at hk
 ·rename_i hfi hal
  obtain ⟨F9,M9,h⟩:=h.frzs cap.toList
  obtain ⟨F1,M1,h1,h2,h3,_,_⟩:=qb (rowsOf (evs (σ.frzs cap.toList) cap.toList)) h
  have hfirst:first= #[]:=by cases first;simp_all
  have hr:R w F1 M1 (.func (.func g) #[] (cap.map a.eval)) (.clo g (zL (σ.frzs cap.toList).ob (evs (σ.frzs cap.toList) cap.toList))):=by
   refine ⟨_,rfl,by rw [yc,qH];simp,fun j c hj=> ?_⟩
   obtain ⟨v,h6,h7⟩:=ji h h2 h3 j _ hj
   rcases zbI hal c (List.mem_of_getElem? hj) with ⟨t,x,rfl⟩ | ⟨cs,rfl,hcs⟩
   ·have h7' :RV w F1 t x [v]:=h7
    exact ⟨v,by simpa using h6,h7'.one v (by simp),h7'⟩
   ·obtain ⟨a1,us,e1,e2,e3,e4,e5⟩:=h7
    refine ⟨v,by simpa using h6,by rw [e1];rfl,a1,us,e1,e2,e3,e4,fun i c' hi=> ?_⟩
    obtain ⟨u',e6,e7⟩:=e5 i c' hi
    rcases zaG hcs c' (List.mem_of_getElem? hi) with ⟨t,x,rfl⟩ | rfl
    ·exact ⟨u',e6,e7⟩
    ·exact ⟨u',e6,e7⟩
  refine ⟨_,_,F1,M1,hk,h1.put hr o.dst,fun w' _=> ?_⟩
  unfold execOp;rw [ho]
  simp [Instr.makeFunc,hfirst]
 ·exact hk.elim
theorem Inv.widen {w' :World} {F' :Nat→Prop} (h:Inv w0 F0 F M σ a w) (hb:Below w.heap.size w w') (hF: ∀ g,F g→F' g) (hlt: ∀ g,F' g→g<w'.heap.size∧(F g∨w.heap.size≤g)):Inv w0 F0 F' M σ a w' :=by
 have h1:=h.grow hb
 have hB:=h.below.size
 refine ⟨h1.defers,h1.size,fun i=>(h1.slots i).keep (fun _ _=>rfl) hF (MLe.refl M),fun id o ho=> ?_,h1.apart,fun i mi g hi hg=> ?_,fun g hg=> ?_,fun g hg=>hF g (h1.fle g hg),h1.below,h1.pins⟩
 ·obtain ⟨mo,h2,h3⟩:=h1.obs id o ho
  exact ⟨mo,h2,h3.keep (fun _ _=>rfl) hF (MLe.refl M) fun _ _=>rfl⟩
 ·obtain ⟨h2,h3,h4⟩:=h1.mine i mi g hi hg
  refine ⟨fun hc=> ?_,h3,h4⟩
  rcases (hlt g hc).2 with hc | hc
  ·exact h2 hc
  ·have:=(h.mine i mi g hi hg).2.2;omega
 ·obtain ⟨h2,h3⟩:=hlt g hg
  refine ⟨h2,?_⟩
  rcases h3 with h3 | h3
  ·exact (h.flt g h3).2
  ·exact .inr (h.below.new h3)
theorem RV.uniq {w' :World} {F' :Nat→Prop}: ∀ {t:Ty} {x:t.I} {c1 c2:List Value},t.flat=true→RV w F t x c1→RV w' F' t x c2→c1=c2
 | .int _,_,_,_,_,h1,h2=>by have h1:_=_:=h1;have h2:_=_:=h2;rw [h1,h2]
 | .bool,_,_,_,_,h1,h2=>by have h1:_=_:=h1;have h2:_=_:=h2;rw [h1,h2]
 | .str,_,_,_,_,h1,h2=>by
  obtain ⟨s1,rfl,e1⟩:=h1
  obtain ⟨s2,rfl,e2⟩:=h2
  have:s1=s2:=by
   cases s1;cases s2
   congr 1
   exact Array.toList_inj.1 (e1.trans e2.symm)
  rw [this]
 | .pair p q,_,_,_,hf,h1,h2=>by
  simp only [Ty.flat,Bool.and_eq_true] at hf
  obtain ⟨a1,a2,rfl,h3,h4⟩:=h1
  obtain ⟨b1,b2,rfl,h5,h6⟩:=h2
  rw [h3.uniq hf.1 h5,h4.uniq hf.2 h6]
 | .flt,_,_,_,_,h1,h2=>by have h1:_=_:=h1;have h2:_=_:=h2;rw [h1,h2]
 | .list _,_,_,_,hf,_,_=>by cases hf
 | .err,_,_,_,hf,_,_=>by cases hf
 | .nfn,_,_,_,hf,_,_=>by cases hf
 | .fn0 _,_,_,_,hf,_,_=>by cases hf
 | .clo _ _,_,_,_,hf,_,_=>by cases hf
 | .ref _,_,_,_,hf,_,_=>by cases hf
 | .sum _ _,_,_,_,hf,_,_=>by cases hf
theorem R1.enc_cells {u:Ty} {x:u.I} {v:Value} (h:R1 w F M v (encV u x)) (hf:u.flat=true):RV w F u x v.cells.toList∧(v.oneCell' =true∨ ∃ cs,v= .agg cs):=by
 cases u
 case pair p q=>
  obtain ⟨us,rfl,h1,h2⟩:=h
  refine ⟨?_,.inr ⟨us,rfl⟩⟩
  have key: ∀ (t:Ty) (y:t.I) (l:List Value),t.flat=true→l.length=(enc t y).length→(∀ (j:Nat) c,(enc t y)[j]? =some c→ ∃ u,l[j]? =some u∧u.oneCell' =true∧R0 w F M u c)→RV w F t y l:=by
   intro t
   induction t with
   | int k=>
    intro y l _ hl hc
    match l,hl with
    | [z],_=>
     obtain ⟨u,h3,_,h4⟩:=hc 0 _ rfl
     have:z=u:=by simpa using h3
     subst this
     exact h4
   | bool=>
    intro y l _ hl hc
    match l,hl with
    | [z],_=>
     obtain ⟨u,h3,_,h4⟩:=hc 0 _ rfl
     have:z=u:=by simpa using h3
     subst this
     exact h4
   | str=>
    intro y l _ hl hc
    match l,hl with
    | [z],_=>
     obtain ⟨u,h3,_,h4⟩:=hc 0 _ rfl
     have:z=u:=by simpa using h3
     subst this
     exact h4
   | flt=>
    intro y l _ hl hc
    match l,hl with
    | [z],_=>
     obtain ⟨u,h3,_,h4⟩:=hc 0 _ rfl
     have:z=u:=by simpa using h3
     subst this
     exact h4
   | list t _=>intro y l hf _ _;cases hf
   | err=>intro y l hf _ _;cases hf
   | nfn=>intro y l hf _ _;cases hf
   | fn0 _=>intro y l hf _ _;cases hf
   | clo _ _ _=>intro y l hf _ _;cases hf
   | ref _ _=>intro y l hf _ _;cases hf
   | sum _ _ _ _=>intro y l hf _ _;cases hf
   | pair p q ih1 ih2=>
    intro y l hf hl hc
    simp only [Ty.flat,Bool.and_eq_true] at hf
    simp only [enc,List.length_append] at hl hc
    refine ⟨l.take (enc p y.1).length,l.drop (enc p y.1).length,(List.take_append_drop _ _).symm,ih1 y.1 _ hf.1 (by simp;omega) fun j c hj=> ?_,ih2 y.2 _ hf.2 (by simp;omega) fun j c hj=> ?_⟩
    ·have hlt:=(List.getElem?_eq_some_iff.1 hj).1
     obtain ⟨u,h3,h4⟩:=hc j c (by rw [List.getElem?_append_left hlt];exact hj)
     exact ⟨u,by rw [List.getElem?_take,if_pos hlt];exact h3,h4⟩
    ·obtain ⟨u,h3,h4⟩:=hc ((enc p y.1).length+j) c (by rw [List.getElem?_append_right (by omega)];simpa using hj)
     exact ⟨u,by rw [List.getElem?_drop];exact h3,h4⟩
  exact key _ x us.toList hf (by simpa using h1) fun j c hj=>by simpa using h2 j c hj
 case list t=>cases hf
 case err=>cases hf
 case nfn=>cases hf
 case fn0=>cases hf
 case clo=>cases hf
 case ref=>cases hf
 case sum=>cases hf
 all_goals
  have h' :RV w F _ x [v]:=h
  have h1:=h'.one v (by simp)
  have hc:v.cells= #[v]:=by cases v<;>simp_all [Value.oneCell',Value.cells]
  exact ⟨by rw [hc];exact h',.inl h1⟩
theorem R1.of_cells {u:Ty} {x:u.I} {v:Value} (h:RV w F u x v.cells.toList) (h1:v.oneCell' =true∨ ∃ cs,v= .agg cs) (hw:u.width=1→v.oneCell' =true∨ ∃ p q,u= .pair p q):R1 w F M v (encV u x):=by
 cases u
 case pair p q=>
  rcases h1 with h1 | ⟨cs,rfl⟩
  ·exfalso
   have hl:=h.len
   have hc:v.cells= #[v]:=by cases v<;>simp_all [Value.oneCell',Value.cells]
   rw [hc] at hl
   have:=yj p
   have:=yj q
   simp only [Ty.width,List.length_cons,List.length_nil] at hl
   omega
  ·refine ⟨cs,rfl,?_,fun j c hj=> ?_⟩
   ·have:=h.len;rw [q9];simpa [Value.cells] using this
   ·have h' :RV w F (.pair p q) x cs.toList:=h
    obtain ⟨u,h2,h3⟩:=yU h' j c hj
    exact ⟨u,by simpa using h2,h'.one u (List.mem_of_getElem? h2),h3.to0⟩
 all_goals
  have hv:v.oneCell' =true:=by
   rcases hw rfl with h2 | ⟨p,q,h2⟩
   ·exact h2
   ·cases h2
  have hc:v.cells= #[v]:=by cases v<;>simp_all [Value.oneCell',Value.cells]
  rw [hc] at h
  exact h
theorem R1.flat {w' :World} {F' :Nat→Prop} {M' :Nat→Option MO} {u:Ty} {x:u.I} {v:Value} (h:R1 w F M v (encV u x)) (hf:u.flat=true):R1 w' F' M' v (encV u x):=by
 obtain ⟨h1,h2⟩:=h.enc_cells hf
 refine R1.of_cells (h1.free hf) h2 fun hw=> ?_
 cases u<;>first | exact .inr ⟨_,_,rfl⟩ | skip
 case list=>cases hf
 case err=>cases hf
 case nfn=>cases hf
 case fn0=>cases hf
 case clo=>cases hf
 case ref=>cases hf
 case sum=>cases hf
 all_goals
  left
  have h' :RV w F _ x [v]:=h
  exact h'.one v (by simp)
theorem R1.flat_uniq {w' :World} {F' :Nat→Prop} {M' :Nat→Option MO} {u:Ty} {x:u.I} {v v' :Value} (h:R1 w F M v (encV u x)) (h' :R1 w' F' M' v' (encV u x)) (hf:u.flat=true):v=v' :=by
 obtain ⟨h1,h2⟩:=h.enc_cells hf
 obtain ⟨h3,h4⟩:=h'.enc_cells hf
 have e:=h1.uniq hf h3
 cases u
 case pair p q=>
  obtain ⟨us,rfl,_⟩:=h
  obtain ⟨us',rfl,_⟩:=h'
  have:us=us' :=Array.toList_inj.1 e
  rw [this]
 case list t=>cases hf
 case err=>cases hf
 case nfn=>cases hf
 case fn0=>cases hf
 case clo=>cases hf
 case ref=>cases hf
 case sum=>cases hf
 all_goals
  have g1:RV w F _ x [v]:=h
  have g2:RV w' F' _ x [v']:=h'
  have:=g1.uniq hf g2
  simpa using this
end
end
section
open Go.RowKit
section
variable {P:Program} {w0:W0 P} {w:World} {F0 F F1:Nat→Prop} {M:Nat→Option MO} {σ:St} {a:Act} {o:Oper} {K:St→Prop} {μ:List Nat}
theorem zi8 (id j:Nat):gid id j≠id:=by unfold gid;omega
theorem zdp (id j:Nat):id≠gid id j:=by unfold gid;omega
theorem zi9 {id i j:Nat} (h:gid id i=gid id j):i=j:=by unfold gid at h;omega
def Fd.hasRow:Fd→Bool
 | .row _ _=>true
 | .buf _=>true
 | _=>false
theorem qi {id j:Nat} {f:Fd} (hf:f.hasRow=true) (r:List Fd):gid id j∈gids id j (f::r):=by
 cases f<;>simp only [Fd.hasRow] at hf<;>first | (cases hf;done) | simp [gids]
theorem qQ {id k:Nat}: ∀ {fs:List Fd} {j:Nat},k∈gids id j fs→ ∃ i,k=gid id i
 | [],_,h=>by simp [gids] at h
 | f::r,j,h=>by
  cases f<;>simp only [gids] at h
  case row e t=>
   rcases List.mem_cons.1 h with rfl | h
   ·exact ⟨j,rfl⟩
   ·exact qQ h
  case buf e=>
   rcases List.mem_cons.1 h with rfl | h
   ·exact ⟨j,rfl⟩
   ·exact qQ h
  all_goals exact qQ h
theorem FdR.keep {w' :World} {F' :Nat→Prop} (hs:Same F w w') (hF: ∀ g,F g→F' g) {B B' :Nat→Prop} {b:Nat} {m:Option MO} {f:Fd} {x:f.ty.I} {us:List Value}
  (hg: ∀ mo g,m=some mo→mo.g=some g→w'.heap[g]? =w.heap[g]? ∧B' g) (h:FdR w F B b m f x us):FdR w' F' B' b m f x us:=by
 cases f
 case dat t=>exact RV.keep hs hF h
 case row e t=>
  obtain ⟨mo,h1,h2,h3,h4⟩:=h
  refine ⟨mo,h1,h2,h3,?_⟩
  have h5:=h4.keep hs hF (w' :=w') (B:=B) fun g hgg=>(hg mo g h1 hgg).1
  rcases h5 with h5 | ⟨g,cap,vs,h6,_,h7⟩
  ·exact .inl h5
  ·exact .inr ⟨g,cap,vs,h6,(hg mo g h1 h6).2,h7⟩
 case slf=>exact h
 case buf e=>
  obtain ⟨mo,h1,h2,h3,h4,h0⟩:=h
  refine ⟨mo,h1,h2,h3,?_,h0⟩
  have h5:=h4.keep hs hF (w' :=w') (B:=B) fun g hgg=>(hg mo g h1 hgg).1
  rcases h5 with h5 | ⟨g,cap,vs,h6,_,h7⟩
  ·exact .inl h5
  ·exact .inr ⟨g,cap,vs,h6,(hg mo g h1 h6).2,h7⟩
theorem GrsR.keep {w' :World} {F' :Nat→Prop} (hs:Same F w w') (hF: ∀ g,F g→F' g) {B B' :Nat→Prop} {b:Nat} {ms:Nat→Option MO}
  (hg: ∀ j mo g,ms j=some mo→mo.g=some g→w'.heap[g]? =w.heap[g]? ∧B' g): ∀ {j:Nat} {fs:List Fd} {x:(gTy fs).I} {us:List Value},GrsR w F B b ms j fs x us→GrsR w' F' B' b ms j fs x us
 | _,[],_,_,h=>h
 | j,[f],_,_,h=>FdR.keep (f:=f) hs hF (hg j) h
 | j,f::q::r,x,us,h=>by
  obtain ⟨u1,u2,h1,h2,h3⟩:=h
  exact ⟨u1,u2,h1,FdR.keep hs hF (hg j) h2,GrsR.keep hs hF hg h3⟩
theorem FdR.ms {B:Nat→Prop} {b:Nat} {m m' :Option MO} {f:Fd} {x:f.ty.I} {us:List Value} (hm:f.hasRow=true→m=m') (h:FdR w F B b m f x us):FdR w F B b m' f x us:=by
 cases f
 case row e t=>rw [← hm rfl];exact h
 case buf e=>rw [← hm rfl];exact h
 all_goals exact h
theorem GrsR.ms {B:Nat→Prop} {b:Nat} {ms ms' :Nat→Option MO} (id:Nat): ∀ {j:Nat} {fs:List Fd} {x:(gTy fs).I} {us:List Value},(∀ i,gid id i∈gids id j fs→ms i=ms' i)→GrsR w F B b ms j fs x us→GrsR w F B b ms' j fs x us
 | _,[],_,_,_,h=>h
 | j,[f],_,_,hm,h=>FdR.ms (f:=f) (fun he=>hm j (qi he _)) h
 | j,f::q::r,x,us,hm,h=>by
  obtain ⟨u1,u2,h1,h2,h3⟩:=h
  refine ⟨u1,u2,h1,FdR.ms (fun he=>hm j (qi he _)) h2,GrsR.ms id (fun i hi=>hm i ?_) h3⟩
  cases f<;>simp only [gids,List.mem_cons]<;>first | exact .inr hi | exact hi
theorem zdq (h:Inv w0 F0 F M σ a w) {id j:Nat} {m0:MO} {b:Nat} (hm0:M id=some m0) (hb:m0.g=some b) {f:Fd} {us:List Value} {cs cs' :List D} {x:f.ty.I} (hr:Rel w F M us cs) (hf:zdU σ.ob id j f cs=some (x,cs')):
  ∃ u1 u2,us=u1++u2∧FdR w F w0.nw b (M (gid id j)) f x u1∧Rel w F M u2 cs' :=by
 have tail: ∀ {c:D} {r:List D} {us:List Value},Rel w F M us (c::r)→ ∃ u us',us=u::us' ∧R0 w F M u c∧Rel w F M us' r:=fun {c r us} hr=>by
  obtain ⟨u,h1,_,h3⟩:=hr.2 0 c rfl
  cases us with
  | nil=>simp at h1
  | cons u' us' =>
   have:u' =u:=by simpa using h1
   subst this
   exact ⟨u',us',rfl,h3,by have:=hr.1;simpa using this,fun j c hj=>by simpa using hr.2 (j+1) c (by simpa using hj)⟩
 cases f
 case dat t=>exact qq hr hf
 case row e t=>
  cases cs with
  | nil=>simp [zdU] at hf
  | cons c r=>
   obtain ⟨u,us',rfl,hu,hr'⟩:=tail hr
   cases c<;>simp only [zdU] at hf<;>first | (cases hf;done) | skip
   case slo i=>
    rcases zj i (gid id j) with ⟨rfl,hbq⟩ | ⟨_,hbq⟩
    ·rw [hbq] at hf
     simp only [cond_true] at hf
     split at hf
     ·rename_i e' t' xs hfo
      split at hf
      ·rename_i hee
       have hee:=of_decide_eq_true hee
       subst hee
       split at hf
       ·rename_i htt
        subst htt
        simp only [Option.some.injEq,Prod.mk.injEq] at hf
        obtain ⟨rfl,rfl⟩:=hf
        obtain ⟨mo,hm,hmk,hown⟩:=h.obs _ _ hfo
        obtain ⟨mo',hm',hv,_⟩:=hu
        have:mo' =mo:=Option.some.inj (hm'.symm.trans hm)
        subst this
        exact ⟨[u],us',rfl,⟨mo',hm,by rw [hv],hmk,hown⟩,hr'⟩
       ·cases hf
      ·cases hf
     ·cases hf
    ·rw [hbq] at hf;cases hf
 case buf e=>
  cases cs with
  | nil=>simp [zdU] at hf
  | cons c r=>
   obtain ⟨u,us',rfl,hu,hr'⟩:=tail hr
   cases c<;>simp only [zdU] at hf<;>first | (cases hf;done) | skip
   case slo i=>
    rcases zj i (gid id j) with ⟨rfl,hbq⟩ | ⟨_,hbq⟩
    ·rw [hbq] at hf
     simp only [cond_true] at hf
     split at hf
     ·rename_i e' xs hfo
      split at hf
      ·rename_i hee
       have hee:=of_decide_eq_true hee
       subst hee
       simp only [Option.some.injEq,Prod.mk.injEq] at hf
       obtain ⟨rfl,rfl⟩:=hf
       obtain ⟨mo,hm,hmk,hown,hex⟩:=h.obs _ _ hfo
       obtain ⟨mo',hm',hv,_⟩:=hu
       have:mo' =mo:=Option.some.inj (hm'.symm.trans hm)
       subst this
       exact ⟨[u],us',rfl,⟨mo',hm,by rw [hv],hmk,hown,hex⟩,hr'⟩
      ·cases hf
     ·cases hf
    ·rw [hbq] at hf;cases hf
 case slf=>
  cases cs with
  | nil=>simp [zdU] at hf
  | cons c r=>
   obtain ⟨u,us',rfl,hu,hr'⟩:=tail hr
   cases c<;>simp only [zdU] at hf<;>first | (cases hf;done) | skip
   case slf i=>
    rcases zj i id with ⟨rfl,hbq⟩ | ⟨_,hbq⟩
    ·rw [hbq] at hf
     simp only [cond_true,Option.some.injEq,Prod.mk.injEq] at hf
     obtain ⟨rfl,rfl⟩:=hf
     refine ⟨[u],us',rfl,?_,hr'⟩
     rcases hu with hu | ⟨mo,g,h1,h2,h3⟩
     ·exact .inl (by rw [hu])
     ·have:mo=m0:=Option.some.inj (h1.symm.trans hm0)
      subst this
      have:g=b:=Option.some.inj (h2.symm.trans hb)
      subst this
      exact .inr (by rw [h3])
    ·rw [hbq] at hf;cases hf
   case ptr i o=>
    rcases zj i id with ⟨rfl,hbq⟩ | ⟨_,hbq⟩
    ·rcases zj o 0 with ⟨rfl,hb0⟩ | ⟨_,hb0⟩
     ·rw [hbq,hb0] at hf
      simp only [Bool.and_self,cond_true,Option.some.injEq,Prod.mk.injEq] at hf
      obtain ⟨rfl,rfl⟩:=hf
      refine ⟨[u],us',rfl,?_,hr'⟩
      obtain ⟨mo,g,h1,h2,h3⟩:=hu
      have:mo=m0:=Option.some.inj (h1.symm.trans hm0)
      subst this
      have:g=b:=Option.some.inj (h2.symm.trans hb)
      subst this
      exact .inr (by rw [h3])
     ·rw [hb0] at hf;simp at hf
    ·rw [hbq] at hf;simp at hf
   case pnil=>
    simp only [Option.some.injEq,Prod.mk.injEq] at hf
    obtain ⟨rfl,rfl⟩:=hf
    have hu' :u= .pointer none:=hu
    exact ⟨[u],us',rfl,.inl (by rw [hu']),hr'⟩
theorem jk (h:Inv w0 F0 F M σ a w) {id:Nat} {m0:MO} {b:Nat} (hm0:M id=some m0) (hb:m0.g=some b) {ms:Nat→Option MO}: ∀ {fs:List Fd} {j:Nat} {us:List Value} {cs:List D} {x:(gTy fs).I},
  (∀ i,gid id i∈gids id j fs→ms i=M (gid id i))→Rel w F M us cs→zaS σ.ob id j fs cs=some x→GrsR w F w0.nw b ms j fs x us
 | [],j,us,cs,x,_,hr,hg=>by
  cases cs with
  | nil=>exact List.eq_nil_of_length_eq_zero hr.1
  | cons c r=>simp [zaS] at hg
 | [f],j,us,cs,x,hm,hr,hg=>by
  unfold zaS at hg
  split at hg
  ·rename_i y hf
   simp only [Option.some.injEq] at hg
   subst hg
   obtain ⟨u1,u2,rfl,h1,h2⟩:=zdq h hm0 hb hr hf
   have:u2=[]:=List.eq_nil_of_length_eq_zero h2.1
   subst this
   rw [List.append_nil]
   exact h1.ms fun he=>(hm j (qi he _)).symm
  ·cases hg
 | f::q::r,j,us,cs,x,hm,hr,hg=>by
  unfold zaS at hg
  split at hg
  ·rename_i y cs' hf
   split at hg
   ·rename_i z hz
    simp only [Option.some.injEq] at hg
    subst hg
    obtain ⟨u1,u2,rfl,h1,h2⟩:=zdq h hm0 hb hr hf
    refine ⟨u1,u2,rfl,h1.ms fun he=>(hm j (qi he _)).symm,jk h hm0 hb (fun i hi=>hm i ?_) h2 hz⟩
    cases f<;>simp only [gids,List.mem_cons]<;>first | exact .inr hi | exact hi
   ·cases hg
  ·cases hg
theorem Rel.append {us vs:List Value} {cs ds:List D} (h1:Rel w F M us cs) (h2:Rel w F M vs ds):Rel w F M (us++vs) (cs++ds):=by
 refine ⟨by rw [List.length_append,List.length_append,h1.1,h2.1],fun j c hj=> ?_⟩
 rcases Nat.lt_or_ge j cs.length with hlt | hge
 ·rw [List.getElem?_append_left hlt] at hj
  obtain ⟨u,h3,h4⟩:=h1.2 j c hj
  exact ⟨u,by rw [List.getElem?_append_left (by rw [h1.1];exact hlt)];exact h3,h4⟩
 ·rw [List.getElem?_append_right hge] at hj
  obtain ⟨u,h3,h4⟩:=h2.2 _ c hj
  exact ⟨u,by rw [List.getElem?_append_right (by rw [h1.1];exact hge),h1.1];exact h3,h4⟩
theorem Rel.single {u:Value} {c:D} (h1:u.oneCell' =true) (h2:R0 w F M u c):Rel w F M [u] [c]:=
 ⟨rfl,fun j d hj=>by
  cases j with
  | zero=>
   have:c=d:=by simpa using hj
   subst this
   exact ⟨u,rfl,h1,h2⟩
  | succ j=>simp at hj⟩
theorem FdR.rel {B:Nat→Prop} {id j b:Nat} {m0:MO} (hm0:M id=some m0) (hb:m0.g=some b) {m:Option MO} {f:Fd} {x:f.ty.I} {us:List Value} (hm:f.hasRow=true→m=M (gid id j)) (h:FdR w F B b m f x us):
  Rel w F M us (fCs id j f x):=by
 cases f
 case dat t=>exact zi5 h
 case row e t=>
  obtain ⟨mo,h1,rfl,_,h4⟩:=h
  exact Rel.single h4.one ⟨mo,by rw [← hm rfl];exact h1,rfl,h4.one⟩
 case buf e=>
  obtain ⟨mo,h1,rfl,_,h4,_⟩:=h
  exact Rel.single h4.one ⟨mo,by rw [← hm rfl];exact h1,rfl,h4.one⟩
 case slf=>
  rcases h with rfl | rfl
  ·exact Rel.single rfl (.inl rfl)
  ·exact Rel.single rfl (.inr ⟨m0,b,hm0,hb,rfl⟩)
theorem GrsR.rel {B:Nat→Prop} {id b:Nat} {m0:MO} (hm0:M id=some m0) (hb:m0.g=some b) {ms:Nat→Option MO}: ∀ {fs:List Fd} {j:Nat} {x:(gTy fs).I} {us:List Value},
  (∀ i,gid id i∈gids id j fs→ms i=M (gid id i))→GrsR w F B b ms j fs x us→Rel w F M us (gCs id j fs x)
 | [],_,_,_,_,h=>by
  have h' :_=[]:=h
  subst h'
  exact ⟨rfl,fun j c hj=>by simp [gCs] at hj⟩
 | [f],j,_,_,hm,h=>FdR.rel (f:=f) hm0 hb (fun he=>hm j (qi he _)) h
 | f::q::r,j,x,us,hm,h=>by
  obtain ⟨u1,u2,rfl,h1,h2⟩:=h
  refine (FdR.rel hm0 hb (fun he=>hm j (qi he _)) h1).append (GrsR.rel hm0 hb (fun i hi=>hm i ?_) h2)
  cases f<;>simp only [gids,List.mem_cons]<;>first | exact .inr hi | exact hi
theorem FdR.row {B:Nat→Prop} {id j b:Nat} {m:Option MO} {f:Fd} {x:f.ty.I} {us:List Value} (hm:f.hasRow=true→m=M (gid id j)) (h:FdR w F B b m f x us) {k:Nat} {o:Ob} (ho:(k,o)∈fOb id j f x):
  k∈gids id j [f]∧o.pin=false∧ ∃ mo,M k=some mo∧ObR w F M B mo o:=by
 cases f<;>simp only [fOb] at ho<;>first | (cases ho;done) | skip
 case row e t=>
  simp only [List.mem_cons,List.not_mem_nil,or_false,Prod.mk.injEq] at ho
  obtain ⟨rfl,rfl⟩:=ho
  obtain ⟨mo,h1,_,h3,h4⟩:=h
  exact ⟨by simp [gids],rfl,mo,by rw [← hm rfl];exact h1,h3,h4⟩
 case buf e=>
  simp only [List.mem_cons,List.not_mem_nil,or_false,Prod.mk.injEq] at ho
  obtain ⟨rfl,rfl⟩:=ho
  obtain ⟨mo,h1,_,h3,h4⟩:=h
  exact ⟨by simp [gids],rfl,mo,by rw [← hm rfl];exact h1,h3,h4⟩
theorem GrsR.rows {B:Nat→Prop} {id b:Nat} {ms:Nat→Option MO} {k:Nat} {o:Ob}: ∀ {fs:List Fd} {j:Nat} {x:(gTy fs).I} {us:List Value},
  (∀ i,gid id i∈gids id j fs→ms i=M (gid id i))→GrsR w F B b ms j fs x us→(k,o)∈gOb id j fs x→k∈gids id j fs∧o.pin=false∧ ∃ mo,M k=some mo∧ObR w F M B mo o
 | [],_,_,_,_,_,ho=>by cases ho
 | [f],j,_,_,hm,h,ho=>FdR.row (f:=f) (fun he=>hm j (qi he _)) h ho
 | f::q::r,j,x,us,hm,h,ho=>by
  obtain ⟨u1,u2,rfl,h1,h2⟩:=h
  simp only [gOb,List.mem_append] at ho
  rcases ho with ho | ho
  ·obtain ⟨h3,h4⟩:=FdR.row (fun he=>hm j (qi he _)) h1 ho
   refine ⟨?_,h4⟩
   cases f<;>simp only [gids,List.mem_cons,List.not_mem_nil,or_false] at h3 ⊢ <;>first | exact .inl h3 | (cases h3;done)
  ·obtain ⟨h3,h4⟩:=GrsR.rows (fun i hi=>hm i (by cases f<;>simp only [gids,List.mem_cons]<;>first | exact .inr hi | exact hi)) h2 ho
   refine ⟨?_,h4⟩
   cases f<;>simp only [gids,List.mem_cons] at h3 ⊢ <;>first | exact .inr h3 | exact h3
theorem zif (w:World) (row:Option Nat):w.grownBy w row:=⟨rfl,rfl,rfl,Nat.le_refl _,fun _ _ _=>rfl⟩
theorem Inv.gnil1 (h:Inv w0 F0 F M σ a w) (id off j:Nat) (f:Fd): ∃ M',Inv w0 F0 F M' (σ.gnil1 id off j f) a w∧M' id=M id:=by
 unfold St.gnil1
 split
 ·rename_i e t
  split
  ·rename_i p T cs hf
   split
   ·rename_i hn
    obtain ⟨mo,hm,g,us,hg,hh,hl,hc⟩:=h.obs _ _ hf
    obtain ⟨u,hu,_,A,hv⟩:=hc off _ hn
    obtain ⟨M1,h1,h2,h3⟩:=(h.kill (gid id j)).addOb (gid id j) (yp M _) (.row false e t []) ⟨none,u,t.width⟩ rfl fun M' _ _=>⟨rfl,.inl ⟨rfl,rfl,A,hv⟩⟩
    have hM1:M1 id=some mo:=by rw [h3 id (zdp id j),yT (zdp id j)];exact hm
    have hf1:zg ((gid id j,Ob.row false e t [])::(σ.kill (gid id j)).ob) id=some (.cells p T (zas (gid id j) .bad cs)):=by
     have hb:Nat.beq id (gid id j)=false:=(zj _ _).resolve_left (fun h=>zdp id j h.1) |>.2
     simp only [zg,hb,cond_false]
     show zg (qB (gid id j) .bad σ.ob) id=_
     rw [qw,if_neg (zdp id j),hf]
     rfl
    obtain ⟨mo',hm',g',us',hg',hh',hl',hc'⟩:=h1.obs _ _ hf1
    have:mo' =mo:=Option.some.inj (hm'.symm.trans hM1)
    subst this
    have:g' =g:=Option.some.inj (hg'.symm.trans hg)
    subst this
    have:us' =us:=by rw [hh] at hh';injection hh' with hh';injection hh' with hh' _;exact hh'.symm
    subst this
    have hrel:Rel w F M1 us'.toList (zas (gid id j) .bad cs):=⟨by simpa using hl',fun j c hj=>by simpa using hc' j c hj⟩
    have hset:=hrel.set (off:=off) (u:=u) (c:= .slo (gid id j)) (by rw [hv];rfl) ⟨_,h2,rfl,by rw [hv];rfl⟩
    have hsame:us'.toList.set off u=us'.toList:=by
     apply List.ext_getElem?
     intro k
     rw [List.getElem?_set]
     split
     ·rename_i e;subst e
      have hlt:=(Array.getElem?_eq_some_iff.1 hu).1
      rw [if_pos (by simpa using hlt),Array.getElem?_toList,hu]
     ·rfl
    rw [hsame] at hset
    refine ⟨M1,h1.store hM1 hg (zif w _) _ ⟨g',us',hg,hh',by simpa using hset.1,fun k c hk=> ?_⟩ fun hp=>h1.pins _ _ hf1 hp,by rw [hM1,hm]⟩
    obtain ⟨v,h4,h5⟩:=hset.2 k c hk
    exact ⟨v,by simpa using h4,h5⟩
   ·exact ⟨M,h,rfl⟩
  ·exact ⟨M,h,rfl⟩
 ·exact ⟨M,h,rfl⟩
theorem Inv.gnils (id:Nat): ∀ (fs:List Fd) (off j:Nat) {M:Nat→Option MO} {σ:St},Inv w0 F0 F M σ a w→ ∃ M',Inv w0 F0 F M' (σ.gnils id off j fs) a w∧M' id=M id
 | [],_,_,M,_,h=>⟨M,h,rfl⟩
 | f::r,off,j,M,σ,h=>by
  obtain ⟨M1,h1,e1⟩:=h.gnil1 id off j f
  obtain ⟨M2,h2,e2⟩:=Inv.gnils id r (off+f.wid) (j+1) h1
  exact ⟨M2,h2,e2.trans e1⟩
def zaw (M:Nat→Option MO) (l:List Nat):Nat→Option MO:=fun j=>if j∈l then none else M j
theorem jA {l:List Nat} {j:Nat} {mo:MO} (h:zaw M l j=some mo):j∉l∧M j=some mo:=by
 unfold zaw at h
 split at h
 ·cases h
 ·exact ⟨‹_›,h⟩
theorem Inv.kills: ∀ (l:List Nat) {M:Nat→Option MO} {σ:St},Inv w0 F0 F M σ a w→Inv w0 F0 F (zaw M l) (σ.kills l) a w
 | [],M,σ,h=>by
  have:zaw M []=M:=by funext j;simp [zaw]
  rw [this];exact h
 | i::r,M,σ,h=>by
  have h1:=Inv.kills r (h.kill i)
  have:zaw (yu M i) r=zaw M (i::r):=by
   funext j
   unfold zaw yu
   by_cases h1:j=i<;>by_cases h2:j∈r<;>simp [h1,h2]
  rw [this] at h1
  exact h1
theorem jB {l1 l2:List (Nat×Ob)} {k:Nat} {o:Ob} (h:zg (l1++l2) k=some o):(k,o)∈l1∨zg l2 k=some o:=by
 induction l1 with
 | nil=>exact .inr h
 | cons p r ih=>
  obtain ⟨j,q⟩:=p
  simp only [List.cons_append,zg] at h
  rcases zj k j with ⟨rfl,hb⟩ | ⟨_,hb⟩
  ·rw [hb] at h
   have:q=o:=Option.some.inj h
   subst this
   exact .inl (by simp)
  ·rw [hb] at h
   rcases ih h with h | h
   ·exact .inl (List.mem_cons_of_mem _ h)
   ·exact .inr h
theorem Inv.gset {w' :World} {F' :Nat→Prop} (h:Inv w0 F0 F M σ a w) {id:Nat} {p:Bool} {T:TypeId} {cs:List D} (hob:zg σ.ob id=some (.cells p T cs)) {m0:MO} {b:Nat} (hm0:M id=some m0) (hb:m0.g=some b)
  {fs:List Fd} {y:(gTy fs).I} {ms ms' :Nat→Option MO} (hms: ∀ i mo,ms i=some mo→gid id i∈gids id 0 fs∧M (gid id i)=some mo)
  (hbel:BelX w (grX b ms) w') (hF: ∀ g,F g→F' g) (hlt: ∀ g,F' g→g<w'.heap.size∧(F g∨w.heap.size≤g∨grX b ms g))
  (hX: ∀ g,grX b ms' g→ ¬F' g∧g<w'.heap.size∧(grX b ms g∨w.heap.size≤g)) (hG:GrR w' F' (fun _=>True) b T fs y ms'): ∃ M',Inv w0 F0 F' M' (σ.gset id p T fs y) a w' :=by
 have hgid: ∀ k,k∈gids id 0 fs→k=gid id (k - (1000000+64*id)):=fun k hk=>by
  obtain ⟨i,rfl⟩:=qQ hk
  unfold gid;omega
 have hidx: ∀ i,gid id i - (1000000+64*id)=i:=fun i=>by unfold gid;omega
 have hid:id∉gids id 0 fs:=fun hm=>by
  obtain ⟨i,hi⟩:=qQ hm
  exact zdp id i hi
 let M' :Nat→Option MO:=fun k=>if k∈gids id 0 fs then ms' (k - (1000000+64*id)) else M k
 have hM1: ∀ {k},k∈gids id 0 fs→M' k=ms' (k - (1000000+64*id)):=fun {k} hk=>if_pos hk
 have hM2: ∀ {k},k∉gids id 0 fs→M' k=M k:=fun {k} hk=>if_neg hk
 have hid' :M' id=some m0:=by rw [hM2 hid];exact hm0
 have hnwb:=h.mine _ _ _ hm0 hb
 have hXnw: ∀ g,grX b ms g→w0.nw g∧ ¬F g∧g<w.heap.size:=fun g hg=>by
  rcases hg with rfl | ⟨j,mo,hj,hjg⟩
  ·exact ⟨hnwb.2.1,hnwb.1,hnwb.2.2⟩
  ·obtain ⟨h1,h2,h3⟩:=h.mine _ _ _ (hms j mo hj).2 hjg
   exact ⟨h2,h1,h3⟩
 have hs:Same F w w' :=fun g hg=>hbel.block g (h.flt g hg).1 fun hx=>(hXnw g hx).2.1 hg
 have h3:=h.kills (gids id 0 fs)
 have hMle:MLe (zaw M (gids id 0 fs)) M' :=fun i mo hi=>by
  obtain ⟨h1,h2⟩:=jA hi
  rw [hM2 h1];exact h2
 have hout: ∀ k mk g,k∉gids id 0 fs→k≠id→M k=some mk→mk.g=some g→ ¬grX b ms g:=fun k mk g hk hki hmk hg hx=>by
  rcases hx with rfl | ⟨j,mo,hj,hjg⟩
  ·exact hki (h.apart _ _ _ _ _ hmk hm0 hg hb)
  ·obtain ⟨h1,h2⟩:=hms j mo hj
   have:=h.apart _ _ _ _ _ hmk h2 hg hjg
   subst this
   exact hk h1
 have hnw: ∀ g,grX b ms' g→w0.nw g:=fun g hg=>by
  rcases (hX g hg).2.2 with h1 | h1
  ·exact (hXnw g h1).1
  ·exact h.below.new h1
 obtain ⟨us,hus,hgr⟩:=hG.cells
 have hmsM: ∀ i,gid id i∈gids id 0 fs→ms' i=M' (gid id i):=fun i hi=>by rw [hM1 hi,hidx]
 have hgr' :GrsR w' F' w0.nw b ms' 0 fs y us.toList:=GrsR.keep (fun _ _=>rfl) (fun _ z=>z) (fun j mo g hj hg=>⟨rfl,hnw g (.inr ⟨j,mo,hj,hg⟩)⟩) hgr
 have hrel:=GrsR.rel (M:=M') hid' hb hmsM hgr'
 refine ⟨M',h.defers,h3.size,fun i=>(h3.slots i).keep hs hF hMle,fun k o ho=> ?_,fun i j mi mj g hi hj hgi hgj=> ?_,fun i mi g hi hgi=> ?_,fun g hg=> ?_,fun g hg=>hF g (h.fle g hg),?_,fun k o ho hp=> ?_⟩
 ·rcases jB ho with ho | ho
  ·exact (GrsR.rows hmsM hgr' ho).2.2
  ·rcases qx _ _ _ _ ho with ⟨rfl,rfl⟩ | ⟨hne,ho⟩
   ·refine ⟨m0,hid',b,us,hb,hus,by simpa using hrel.1,fun j c hj=> ?_⟩
    obtain ⟨u,h4,h5⟩:=hrel.2 j c hj
    exact ⟨u,by simpa using h4,h5⟩
   ·obtain ⟨mo,h4,h5⟩:=h3.obs k o ho
    obtain ⟨h6,h7⟩:=jA h4
    exact ⟨mo,hMle _ _ h4,h5.keep hs hF hMle fun g hg=>hbel.block g (h.mine _ _ _ h7 hg).2.2 (hout k mo g h6 hne h7 hg)⟩
 ·have old: ∀ k mk g,k∈gids id 0 fs→M' k=some mk→mk.g=some g→ ∀ k' mk',k' ∉gids id 0 fs→M' k' =some mk' →mk'.g=some g→False:=fun k mk g hk hmk hg k' mk' hk' hmk' hg' =>by
   rw [hM1 hk] at hmk
   rw [hM2 hk'] at hmk'
   by_cases he:k' =id
   ·subst he
    have:mk' =m0:=Option.some.inj (hmk'.symm.trans hm0)
    subst this
    have:g=b:=Option.some.inj (hg'.symm.trans hb)
    subst this
    exact hG.off _ _ hmk hg
   ·rcases (hX g (.inr ⟨_,mk,hmk,hg⟩)).2.2 with h4 | h4
    ·exact hout k' mk' g hk' he hmk' hg' h4
    ·have:=(h.mine _ _ _ hmk' hg').2.2;omega
  by_cases h1:i∈gids id 0 fs<;>by_cases h2:j∈gids id 0 fs
  ·rw [hM1 h1] at hi
   rw [hM1 h2] at hj
   have:=hG.apart _ _ _ _ _ hi hj hgi hgj
   rw [hgid i h1,hgid j h2,this]
  ·exact (old i mi g h1 hi hgi j mj h2 hj hgj).elim
  ·exact (old j mj g h2 hj hgj i mi h1 hi hgi).elim
  ·rw [hM2 h1] at hi
   rw [hM2 h2] at hj
   exact h.apart _ _ _ _ _ hi hj hgi hgj
 ·by_cases h1:i∈gids id 0 fs
  ·rw [hM1 h1] at hi
   have hx:grX b ms' g:= .inr ⟨_,mi,hi,hgi⟩
   exact ⟨(hX g hx).1,hnw g hx,(hX g hx).2.1⟩
  ·rw [hM2 h1] at hi
   obtain ⟨h4,h5,h6⟩:=h.mine _ _ _ hi hgi
   refine ⟨fun hc=> ?_,h5,Nat.lt_of_lt_of_le h6 hbel.size⟩
   rcases (hlt g hc).2 with h7 | h7 | h7
   ·exact h4 h7
   ·have h7' :w.heap.size≤g:=h7
    omega
   ·by_cases he:i=id
    ·subst he
     have:mi=m0:=Option.some.inj (hi.symm.trans hm0)
     subst this
     have:g=b:=Option.some.inj (hgi.symm.trans hb)
     subst this
     exact (hX g (.inl rfl)).1 hc
    ·exact hout i mi g h1 he hi hgi h7
 ·obtain ⟨h1,h2⟩:=hlt g hg
  refine ⟨h1,?_⟩
  rcases h2 with h2 | h2 | h2
  ·exact (h.flt g h2).2
  ·exact .inr (h.below.new h2)
  ·exact .inr (hXnw g h2).1
 ·have hsz:w.heap.size≤w'.heap.size:=hbel.size
  refine ⟨hbel.os.trans h.below.os,hbel.tape.trans h.below.tape,hbel.output.trans h.below.output,Nat.le_trans h.below.size hsz,fun k hk hx=> ?_⟩
  refine (hbel.block k (Nat.lt_of_lt_of_le hk h.below.size) fun hg=> ?_).trans (h.below.block k hk hx)
  rcases (hXnw k hg).1 with h1 | h1
  ·omega
  ·exact hx h1
 ·rcases jB ho with ho | ho
  ·have:=(GrsR.rows hmsM hgr' ho).2.1
   rw [this] at hp;cases hp
  ·rcases qx _ _ _ _ ho with ⟨rfl,rfl⟩ | ⟨hne,ho⟩
   ·rw [hM2 hid]
    exact h.pins _ _ hob hp
   ·obtain ⟨mo,h4,_⟩:=h3.obs k o ho
    obtain ⟨h6,_⟩:=jA h4
    rw [hM2 h6]
    have:=h3.pins k o ho hp
    unfold zaw at this
    rw [if_neg h6] at this
    exact this
theorem Inv.turnX {w' :World} {X:Nat→Prop} (h:Inv w0 F0 F M σ a w) (hb:BelX w X w') (hX: ∀ g,X g→w0.nw g∧ ¬F g∧ ∀ i mi,M i=some mi→mi.g≠some g):Inv w0 F0 F M σ a w' :=by
 have hs:Same F w w' :=fun g hg=>hb.block g (h.flt g hg).1 fun hx=>(hX g hx).2.1 hg
 have hsz:w.heap.size≤w'.heap.size:=hb.size
 refine ⟨h.defers,h.size,fun i=>(h.slots i).keep hs (fun _ x=>x) (MLe.refl M),fun id o ho=> ?_,h.apart,fun i mi g hi hgi=> ?_,fun g hg=> ?_,h.fle,?_,h.pins⟩
 ·obtain ⟨mo,h1,h2⟩:=h.obs id o ho
  exact ⟨mo,h1,h2.keep hs (fun _ x=>x) (MLe.refl M) fun g hgi=>hb.block g (h.mine _ _ _ h1 hgi).2.2 fun hx=>(hX g hx).2.2 _ _ h1 hgi⟩
 ·obtain ⟨h1,h2,h3⟩:=h.mine i mi g hi hgi
  exact ⟨h1,h2,Nat.lt_of_lt_of_le h3 hsz⟩
 ·obtain ⟨h1,h2⟩:=h.flt g hg
  exact ⟨Nat.lt_of_lt_of_le h1 hsz,h2⟩
 ·refine ⟨hb.os.trans h.below.os,hb.tape.trans h.below.tape,hb.output.trans h.below.output,Nat.le_trans h.below.size hsz,fun k hk hx=> ?_⟩
  refine (hb.block k (Nat.lt_of_lt_of_le hk h.below.size) fun hg=> ?_).trans (h.below.block k hk hx)
  rcases (hX k hg).1 with h1 | h1
  ·omega
  ·exact hx h1
end
end
section
open Go.RowKit
section
variable {P:Program} {w0:W0 P} {w:World} {F0 F F1:Nat→Prop} {M:Nat→Option MO} {σ:St} {a:Act} {o:Oper} {K:St→Prop} {μ:List Nat}
theorem zfT {u:Ty} {x:u.I} {v:Value} {w' :World} {B:Nat→Prop} {G:Option Nat} (h:RR w' F B G v (encV u x)):R1 w' F noM v (encV u x):=by
 cases u<;>exact h
theorem znK {u:Ty} {x:u.I} {v:Value} (h:R1 w F noM v (encV u x)):R w F M v (encV u x):=
 R.of1 (h.keep (fun _ _=>rfl) (fun _ y=>y) (MLe.none M))
theorem zY {u:Ty} {x:u.I} {v:Value} {w' :World} {B:Nat→Prop} {G:Option Nat} (h:RR0 w' F B G v (encV u x)):R1 w' F noM v (encV u x):=by
 cases u<;>exact h
theorem zaY {f:Operand} {g:FuncId} {c:Call} (h:Inv w0 F0 F M σ a w) (ho:o.op= .call c) (hc:c.callee= .value f) (hf:R w F M (a.eval f) (.fn (.func g)))
  (hs: ∀ (args:Array Value) (w:World),(callFunc g args).run P w= .ok (.enter g args) w) (w' :World):
  (execOp a.eval o).run P w' = .ok (.enter g (c.args.map a.eval)) w' :=by
 have hv:a.eval f= .func (.func g) #[] #[]:=hf
 unfold execOp;rw [ho]
 simp [resolve,hc,hv,Deferred.ofValue,invoke,hs]
theorem zlC {f:Operand} {g:FuncId} {c:Call} (h:Inv w0 F0 F M σ a w) (ho:o.op= .call c) (hc:c.callee= .value f) (hf:R w F M (a.eval f) (.fn (.func g))) {ds:List D} {d:D} (hs:Spec P g ds d) (w' :World):
  (execOp a.eval o).run P w' = .ok (.enter g (c.args.map a.eval)) w' :=zaY h ho hc hf hs.1 w'
def allF (F:Nat→Prop) (M:Nat→Option MO):Nat→Prop:=fun g=>F g∨ ∃ i mo,M i=some mo∧mo.g=some g
theorem zfU (h:Inv w0 F0 F M σ a w): ∀ g,allF F M g→g<w.heap.size:=fun g hg=>by
 rcases hg with hg | ⟨i,mo,h1,h2⟩
 ·exact (h.flt g hg).1
 ·exact (h.mine _ _ _ h1 h2).2.2
theorem zlD (h:Inv w0 F0 F M σ a w) (l:List Operand): ∀ (i:Nat) d',(zL σ.ob (evs σ l))[i]? =some d' → ∃ v,(l.map a.eval)[i]? =some v∧R1 w (allF F M) noM v d' :=
 ji h (fun _ hg=>Or.inl hg) fun i _ _ mo _ hm hg=>Or.inr ⟨i,mo,hm,hg⟩
def CY (P:Program) (w0:W0 P) (F0:Nat→Prop) (a:Act) (w:World) (o:Oper) (K:St→Prop):Prop:=
 ∃ g vs,(execOp a.eval o).run P w= .ok (.enter g vs) w∧Calls P g vs w fun e w' => ∃ v σ' F' M',e= .returned v∧K σ' ∧Inv w0 F0 F' M' σ' (a.put o.dst v) w'
structure Enters (P:Program) (w:World) (F:Nat→Prop) (M:Nat→Option MO) (σ:St) (a:Act) (o:Oper) (g:FuncId) (ads:List D) (avs:Array Value):Prop where
 run:(∀ (args:Array Value) (w:World),(callFunc g args).run P w= .ok (.enter g args) w)→ ∀ w',(execOp a.eval o).run P w' = .ok (.enter g avs) w'
 size:avs.size=ads.length
 args: ∀ F1:Nat→Prop,(∀ g,F g→F1 g)→Froz σ M F1 (rowsOf ads)→ ∀ (i:Nat) d',(zL σ.ob ads)[i]? =some d' → ∃ v,avs[i]? =some v∧R1 w F1 noM v d'
 raw: ∀ (i:Nat) d',ads[i]? =some d' → ∃ v,avs[i]? =some v∧R w F M v d'
theorem Enters.all {g:FuncId} {ads:List D} {avs:Array Value} (h:Enters P w F M σ a o g ads avs): ∀ (i:Nat) d',(zL σ.ob ads)[i]? =some d' → ∃ v,avs[i]? =some v∧R1 w (allF F M) noM v d' :=
 h.args _ (fun _ hg=>Or.inl hg) fun i _ _ mo _ hm hg=>Or.inr ⟨i,mo,hm,hg⟩
theorem jl (h:Inv w0 F0 F M σ a w) {f:Operand} {g:FuncId} {c:Call} (ho:o.op= .call c) (hc:c.callee= .value f) (hf:R w F M (a.eval f) (.fn (.func g))):Enters P w F M σ a o g (evs σ c.args.toList) (c.args.map a.eval):=
 ⟨fun hs w' =>zaY h ho hc hf hs w',by rw [qH];simp,fun F1 h1 h2 i d' hi=>by
  obtain ⟨v,h6,h7⟩:=ji h h1 h2 i d' hi
  exact ⟨v,by simpa using h6,h7⟩,fun i d' hi=>by
  rw [zcF] at hi
  obtain ⟨x,hx,rfl⟩:=Option.map_eq_some_iff.1 hi
  exact ⟨a.eval x,by simpa using ⟨x,by simpa using hx,rfl⟩,h.ev x⟩⟩
theorem zaZ: ∀ (l1 l2:List D),rowsOf (l1++l2)=rowsOf l1++rowsOf l2
 | [],_=>rfl
 | d::r,l2=>by
  cases d<;>simp only [List.cons_append,rowsOf,zaZ r l2,List.append_assoc]
theorem zb2 (ob:List (Nat×Ob)): ∀ (l1 l2:List D),zL ob (l1++l2)=zL ob l1++zL ob l2
 | [],_=>rfl
 | d::r,l2=>by simp only [List.cons_append,zL,zb2 ob r l2]
theorem zdr (h:Inv w0 F0 F M σ a w) {f:Operand} {g:FuncId} {cs:List D} {c:Call} (ho:o.op= .call c) (hc:c.callee= .value f) (hf:R w F M (a.eval f) (.clo g cs)): ∃ avs,Enters P w F M σ a o g (evs σ c.args.toList++cs) avs:=by
 obtain ⟨us,hv,hsz,hel⟩:=id hf
 have hval: ∀ c' ∈cs,(∃ t x,c' = .val t x)∨(∃ q,c' = .ept q)∨c' = .nils:=fun c' hc' =>by
  obtain ⟨j,hj⟩:=List.getElem?_of_mem hc'
  obtain ⟨u,_,_,hre⟩:=hel j c' hj
  cases c' <;>first | exact .inr (.inr rfl) | exact hre.elim | exact .inl ⟨_,_,rfl⟩ | exact .inr (.inl ⟨_,rfl⟩)
 have hsnap:zL σ.ob cs=cs:=by
  clear hel hsz hf
  induction cs with
  | nil=>rfl
  | cons c' r ih=>
   rcases hval c' (by simp) with ⟨t,x,rfl⟩ | ⟨q,rfl⟩ | rfl<;>
   simp only [zL,snap,yN,ih fun c'' h'' =>hval c'' (by simp [h''])]
 refine ⟨c.args.map a.eval++us,fun hs w' => ?_,by simp [qH,hsz],fun F1 h1 h2 i d' hi=> ?_,fun i d' hi=> ?_⟩
 ·unfold execOp;rw [ho]
  simp [resolve,hc,hv,Deferred.ofValue,invoke,hs]
 ·rw [zb2,hsnap] at hi
  rcases Nat.lt_or_ge i (zL σ.ob (evs σ c.args.toList)).length with hlt | hge
  ·rw [List.getElem?_append_left hlt] at hi
   obtain ⟨v,h6,h7⟩:=ji h h1 (fun k hk=>h2 k (by rw [zaZ];exact List.mem_append_left _ hk)) i d' hi
   rw [yc,qH] at hlt
   exact ⟨v,by rw [Array.getElem?_append_left (by simpa using hlt)];simpa using h6,h7⟩
  ·rw [List.getElem?_append_right hge] at hi
   obtain ⟨u,h6,_,h7⟩:=hel _ d' hi
   rw [yc,qH] at hge h6
   refine ⟨u,by rw [Array.getElem?_append_right (by simpa using hge)];simpa using h6,?_⟩
   have h8:=h7.keep (w' :=w) (F' :=F1) (fun _ _=>rfl) h1
   cases d' <;>first | exact h8.elim | exact h8 | exact RE.to0 (M:=noM) h8
 ·rcases Nat.lt_or_ge i (evs σ c.args.toList).length with hlt | hge
  ·rw [List.getElem?_append_left hlt,zcF] at hi
   obtain ⟨x,hx,rfl⟩:=Option.map_eq_some_iff.1 hi
   rw [qH] at hlt
   exact ⟨a.eval x,by rw [Array.getElem?_append_left (by simpa using hlt)];simpa using ⟨x,by simpa using hx,rfl⟩,h.ev x⟩
  ·rw [List.getElem?_append_right hge] at hi
   obtain ⟨u,h6,_,h7⟩:=hel _ d' hi
   rw [qH] at hge h6
   exact ⟨u,by rw [Array.getElem?_append_right (by simpa using hge)];simpa using h6,R.of0 h7.to0⟩
theorem zja (h:Inv w0 F0 F M σ a w) {g:FuncId} {ads:List D} {avs:Array Value} (hen:Enters P w F M σ a o g ads avs) {d:D} (hs:Spec P g (zL σ.ob ads) d)
  (hK:K (σ.put o.dst d)) (hd: ∀ {w' :World} {F' :Nat→Prop} {B:Nat→Prop} {G:Option Nat} {v:Value},RR w' F' B G v d→ ∀ F2 M2,R w' F2 M2 v d):CY P w0 F0 a w o K:=by
 refine ⟨g,avs,hen.run hs.1 w,?_⟩
 refine (hs.2 w avs (allF F M) (zfU h) (h.glb.imp fun _ hg=>Or.inl hg) (by rw [yc];exact hen.size) fun i d' hi=> ?_).mono fun e w' ⟨v,F',G,he,hb,_,_,_,hr⟩=> ?_
 ·exact hen.all i d' hi
 ·exact ⟨v,_,F,M,he,hK,(h.grow hb).put (hd hr F M) o.dst⟩
theorem zd1 (h:Inv w0 F0 F M σ a w) {g:FuncId} {ads:List D} {avs:Array Value} (hen:Enters P w F M σ a o g ads avs) {d d2:D} (hs:Spec P g (zL σ.ob ads) d)
  (hK:K ((σ.iceAll (rowsOf ads)).put o.dst d2)) (hd: ∀ {w' :World} {F' :Nat→Prop} {B:Nat→Prop} {G:Option Nat} {v:Value},RR w' F' B G v d→ ∀ M2,R w' F' M2 v d2):CY P w0 F0 a w o K:=by
 obtain ⟨F1,M1,h1,h2,h3,h4,h5⟩:=qb (rowsOf ads) h
 refine ⟨g,avs,hen.run hs.1 w,?_⟩
 refine (hs.2 w avs F1 (fun g hg=>(h1.flt g hg).1) h1.glb (by rw [yc];exact hen.size) fun i d' hi=> ?_).mono fun e w' ⟨v,F',G,he,hb,hF',hlt,_,hr⟩=> ?_
 ·exact hen.args F1 h2 h3 i d' hi
 ·exact ⟨v,_,F',M1,he,hK,(h1.widen hb hF' hlt).put (hd hr M1) o.dst⟩
theorem zb9 (h:Inv w0 F0 F M σ a w) {g:FuncId} {ads:List D} {avs:Array Value} (hen:Enters P w F M σ a o g ads avs) {d p:D} (hs:Spec P g (zL σ.ob ads) d)
  {k:Nat} (hdst:o.dst=some k) {e:TypeId} {u:Ty} {xs:List u.I} (hK:K ((σ.iceAll (rowsOf ads)).putOb k (.row false e u xs) p))
  (hd: ∀ {w' :World} {F' :Nat→Prop} {B:Nat→Prop} {G:Option Nat} {v:Value},RR w' F' B G v d→ ∃ v1,OwnR w' F' B G v1 e u xs∧ ∀ M2,M2 k=some ⟨G,v1,u.width⟩→R w' F' M2 v p):CY P w0 F0 a w o K:=by
 obtain ⟨F1,M1,h1,h2,h3,h4,h5⟩:=qb (rowsOf ads) h
 refine ⟨g,avs,hen.run hs.1 w,?_⟩
 refine (hs.2 w avs F1 (fun g hg=>(h1.flt g hg).1) h1.glb (by rw [yc];exact hen.size) fun i d' hi=> ?_).mono fun en w' ⟨v,F',G,he,hb,hF',hlt,hG,hr⟩=> ?_
 ·exact hen.args F1 h2 h3 i d' hi
 ·obtain ⟨v1,hown,hp⟩:=hd hr
  have hB:=h.below.size
  have h6:=(h1.widen hb hF' hlt).kill k
  obtain ⟨M',hinv⟩:=h6.add k (yp M1 k) (.row false e u xs) p ⟨G,v1,u.width⟩ v (some k) (fun g hg=>by
    obtain ⟨h7,h8,h9⟩:=hG g hg
    refine ⟨h.below.new h7,h8,h9,fun j mj hj hjg=> ?_⟩
    have:=(h1.mine _ _ _ (zr hj).2 hjg).2.2
    omega)
   (fun M' _ _=>⟨rfl,by
    rcases hown with hown | ⟨g,cap,us,h7,h8,h9⟩
    ·exact .inl hown
    ·exact .inr ⟨g,cap,us,h7,h.below.new h8,h9⟩⟩) fun M' hM' _=>hp M' hM'
  exact ⟨v,_,F',M',he,hK,by rw [hdst];exact hinv⟩
theorem zjb {w' :World} {F' :Nat→Prop} {B:Nat→Prop} {G:Option Nat} {v:Value} {ds:List D} (h:RR w' F' B G v (.tup ds)) (hd: ∀ d∈ds,∀ u,RR0 w' F' B G u d→R1 w' F' noM u d) (M2:Nat→Option MO):R w' F' M2 v (.tup ds):=by
 obtain ⟨us,h1,h2,h3⟩:=h
 refine ⟨us,h1,h2,fun j d hj=> ?_⟩
 obtain ⟨u,h4,h5⟩:=h3 j d hj
 exact ⟨u,h4,(hd d (List.mem_of_getElem? hj) u h5).keep (fun _ _=>rfl) (fun _ y=>y) (MLe.none M2)⟩
theorem zd2 {w' :World} {F' :Nat→Prop} {B:Nat→Prop} {G:Option Nat} {v:Value} {ds:List D} (h:RR w' F' B G v (.tup ds)) (hd: ∀ d∈ds,∀ u,RR0 w' F' B G u d→ ∀ F2 M2,R1 w' F2 M2 u d) (F2:Nat→Prop) (M2:Nat→Option MO):R w' F2 M2 v (.tup ds):=by
 obtain ⟨us,h1,h2,h3⟩:=h
 refine ⟨us,h1,h2,fun j d hj=> ?_⟩
 obtain ⟨u,h4,h5⟩:=h3 j d hj
 exact ⟨u,h4,hd d (List.mem_of_getElem? hj) u h5 F2 M2⟩
theorem jm (h:Inv w0 F0 F M σ a w) {g:FuncId} {ads:List D} {avs:Array Value} (hen:Enters P w F M σ a o g ads avs) {d:D} (hs:Spec P g (zL σ.ob ads) d) (flat:Bool)
  (hK:K ((σ.after flat ads).put o.dst d)) (hd: ∀ {w' :World} {F' :Nat→Prop} {B:Nat→Prop} {G:Option Nat} {v:Value},RR w' F' B G v d→ ∀ M2,R w' F' M2 v d)
  (hfl:flat=true→ ∀ {w' :World} {F' :Nat→Prop} {B:Nat→Prop} {G:Option Nat} {v:Value},RR w' F' B G v d→ ∀ F2 M2,R w' F2 M2 v d):CY P w0 F0 a w o K:=by
 cases flat with
 | true=>exact zja h hen hs hK (hfl rfl)
 | false=>exact zd1 h hen hs hK hd
theorem Inv.wrote {w' :World} {F' :Nat→Prop} (h:Inv w0 F0 F M σ a w) {i:Nat} {mo:MO} (hm:M i=some mo) (hg:w.grownBy w' mo.g) (hF: ∀ g,F g→F' g)
  (hlt: ∀ g,F' g→g<w'.heap.size∧(F g∨w.heap.size≤g)) (o:Ob) (ho:ObR w' F' M w0.nw mo o) (hpin:o.pin=true→M i=w0.p i):
  Inv w0 F0 F' M { σ with ob:=qo σ.ob i o } a w' :=by
 have hs:Same F w w' :=fun b hb=>hg.block b (h.flt b hb).1 (fun e=>(h.mine i mo b hm e.symm).1 hb)
 refine ⟨h.defers,h.size,fun j=>(h.slots j).keep hs hF (MLe.refl M),fun j o' ho' => ?_,h.apart,fun j mj b hj hb=> ?_,fun b hb=> ?_,fun b hb=>hF b (h.fle b hb),?_,fun j o' ho' hpo=> ?_⟩
 ·rcases qx _ _ _ _ ho' with ⟨rfl,rfl⟩ | ⟨hne,hf⟩
  ·exact ⟨mo,hm,ho⟩
  ·obtain ⟨m,h1,h2⟩:=h.obs j o' hf
   exact ⟨m,h1,h2.keep hs hF (MLe.refl M) fun b hb=>hg.block b (h.mine _ _ _ h1 hb).2.2 (fun e=>hne (h.apart _ _ _ _ _ h1 hm hb e.symm))⟩
 ·obtain ⟨h1,h2,h3⟩:=h.mine j mj b hj hb
  refine ⟨fun hc=> ?_,h2,Nat.lt_of_lt_of_le h3 hg.size⟩
  rcases (hlt b hc).2 with hc | hc
  ·exact h1 hc
  ·omega
 ·obtain ⟨h1,h2⟩:=hlt b hb
  refine ⟨h1,?_⟩
  rcases h2 with h2 | h2
  ·exact (h.flt b h2).2
  ·exact .inr (h.below.new h2)
 ·exact h.below.grown hg fun b hb=>(h.mine i mo b hm hb).2.1
 ·rcases qx _ _ _ _ ho' with ⟨rfl,rfl⟩ | ⟨_,hf⟩
  ·exact hpin hpo
  ·exact h.pins j o' hf hpo
theorem OwnR.setB {B B' :Nat→Prop} {G:Option Nat} {v:Value} {e:TypeId} {t:Ty} {xs:List t.I} (h:OwnR w F B G v e t xs) (hB: ∀ g,G=some g→B' g):OwnR w F B' G v e t xs:=by
 rcases h with h | ⟨g,cap,us,h1,h2,h3⟩
 ·exact .inl h
 ·exact .inr ⟨g,cap,us,h1,hB g h1,h3⟩
theorem Inv.more {F' :Nat→Prop} (h:Inv w0 F0 F M σ a w) (hF: ∀ g,F g→F' g) (hlt: ∀ g,F' g→g<w.heap.size∧(F g∨(w0.nw g∧ ∀ j mj,M j=some mj→mj.g≠some g))):Inv w0 F0 F' M σ a w:=by
 refine ⟨h.defers,h.size,fun i=>(h.slots i).keep (fun _ _=>rfl) hF (MLe.refl M),fun id o ho=> ?_,h.apart,fun i mi g hi hg=> ?_,fun g hg=> ?_,fun g hg=>hF g (h.fle g hg),h.below,h.pins⟩
 ·obtain ⟨mo,h2,h3⟩:=h.obs id o ho
  exact ⟨mo,h2,h3.keep (fun _ _=>rfl) hF (MLe.refl M) fun _ _=>rfl⟩
 ·obtain ⟨h2,h3,h4⟩:=h.mine i mi g hi hg
  refine ⟨fun hc=> ?_,h3,h4⟩
  rcases (hlt g hc).2 with hc | hc
  ·exact h2 hc
  ·exact hc.2 i mi hi hg
 ·obtain ⟨h2,h3⟩:=hlt g hg
  refine ⟨h2,?_⟩
  rcases h3 with h3 | h3
  ·exact (h.flt g h3).2
  ·exact .inr h3.1
theorem zjc (h:Inv w0 F0 F M σ a w) {f:Operand} {g:FuncId} {c:Call} (ho:o.op= .call c) (hc:c.callee= .value f) (hf:R w F M (a.eval f) (.fn (.func g))) {i:Nat} {r:List D} (hargs:evs σ c.args.toList= .slo i::r)
  {p:Bool} {e:TypeId} {u:Ty} {xs ys:List u.I} (hob:zg σ.ob i=some (.row p e u xs)) (hrow:rowsOf r=[]) {d d2:D} (hs:zcq P g e u xs (zL σ.ob r) ys d)
  (hK:K (({ σ with ob:=qo σ.ob i (.row p e u ys) }:St).put o.dst d2)) (hd: ∀ {w' :World} {v:Value},(∀ F2 M2,R w' F2 M2 v d)→ ∀ F2 M2,R w' F2 M2 v d2):CY P w0 F0 a w o K:=by
 refine ⟨g,c.args.map a.eval,zaY h ho hc hf hs.1 w,?_⟩
 cases hl:c.args.toList with
 | nil=>rw [hl] at hargs;cases hargs
 | cons x l=>
  rw [hl] at hargs
  injection (show ev σ x::evs σ l= .slo i::r from hargs) with hx hr
  subst hr
  have hxx:=h.ev x
  rw [hx] at hxx
  obtain ⟨mo,hm,hv,_⟩:=hxx
  obtain ⟨mo',hm',hmk,hown⟩:=h.obs _ _ hob
  have:mo' =mo:=Option.some.inj (hm'.symm.trans hm)
  subst this
  have hva:c.args.map a.eval= #[mo'.v]++(l.map a.eval).toArray:=by
   apply Array.toList_inj.1
   simp [hl,hv]
  rw [hva]
  refine (hs.2 w mo'.v (l.map a.eval).toArray F mo'.g (fun b hb=>(h.flt b hb).1) h.glb (hown.setB fun b hb=> ?_) (by rw [yc,qH];simp) fun j d' hj=> ?_).mono fun en w' ⟨v,F',he,hg,hF,hlt,hr,hown'⟩=> ?_
  ·obtain ⟨h1,_,h3⟩:=h.mine _ _ _ hm hb
   exact ⟨h3,h1⟩
  ·obtain ⟨v,h1,h2⟩:=ji h (fun _ hg=>hg) (l:=l) (by rw [hrow];intro j hj;cases hj) j d' hj
   exact ⟨v,by simpa using h1,h2⟩
  ·have hi:=h.wrote hm hg hF hlt (.row p e u ys) ⟨hmk,hown'.setB fun b hb=>(h.mine _ _ _ hm hb).2.1⟩ (fun hp=>h.pins _ _ hob hp)
   exact ⟨v,_,F',M,he,hK,hi.put (hd hr F' M) o.dst⟩
theorem zgQ {i:Nat}: ∀ {l:List Nat},hasN i l=false→i∉l
 | [],_=>by simp
 | j::r,h=>by
  simp only [hasN,Bool.or_eq_false_iff] at h
  intro hm
  rcases List.mem_cons.1 hm with rfl | hm
  ·rw [show Nat.beq i i=true from Nat.beq_refl i] at h;cases h.1
  ·exact zgQ h.2 hm
theorem znL (h:Inv w0 F0 F M σ a w) {f:Operand} {g:FuncId} {c:Call} (ho:o.op= .call c) (hc:c.callee= .value f) (hf:R w F M (a.eval f) (.fn (.func g))) {i:Nat} {r:List D} (hargs:evs σ c.args.toList= .slo i::r)
  {e:TypeId} {u:Ty} {xs:List u.I} (hob:zg σ.ob i=some (.row false e u xs)) (hn:hasN i (rowsOf r)=false) {e' :TypeId} {v:Ty} {ys:List v.I} (hs:jT P g e u xs (zL σ.ob r) (.own e' v ys))
  {k:Nat} (hdst:o.dst=some k) (hK:K (((σ.kill i).iceAll (rowsOf r)).putOb k (.row false e' v ys) (.slo k))):CY P w0 F0 a w o K:=by
 refine ⟨g,c.args.map a.eval,zaY h ho hc hf hs.1 w,?_⟩
 cases hl:c.args.toList with
 | nil=>rw [hl] at hargs;cases hargs
 | cons x l=>
  rw [hl] at hargs
  injection (show ev σ x::evs σ l= .slo i::r from hargs) with hx hr
  subst hr
  have hxx:=h.ev x
  rw [hx] at hxx
  obtain ⟨mo,hm,hv,_⟩:=hxx
  obtain ⟨mo',hm',hmk,hown⟩:=h.obs _ _ hob
  have:mo' =mo:=Option.some.inj (hm'.symm.trans hm)
  subst this
  have hva:c.args.map a.eval= #[mo'.v]++(l.map a.eval).toArray:=by
   apply Array.toList_inj.1
   simp [hl,hv]
  rw [hva]
  obtain ⟨F1,M1,h1,h2,h3,h4,h5⟩:=qb (rowsOf (evs σ l)) (h.kill i)
  have hG0: ∀ b,mo'.g=some b→ ¬F1 b:=fun b hb hc=>by
   rcases h4 b hc with hc | ⟨j,mj,hj,hjb⟩
   ·exact (h.mine _ _ _ hm hb).1 hc
   ·exact (zr hj).1 (h.apart _ _ _ _ _ (zr hj).2 hm hjb hb)
  have hfr:Froz σ M F1 (rowsOf (evs σ l)):=fun j hj ⟨e2,t2,xs2,hf2⟩ mj b hmj hb=>by
   have hji:j≠i:=fun e=>zgQ hn (e ▸ hj)
   refine h3 j hj ⟨e2,t2,xs2,?_⟩ mj b (by rw [yT hji];exact hmj) hb
   show zg (qB i .bad σ.ob) j=_
   rw [qw,if_neg hji,hf2]
   rfl
  refine (hs.2 w mo'.v (l.map a.eval).toArray F1 mo'.g (fun b hb=>(h1.flt b hb).1) h1.glb ((hown.keep (fun _ _=>rfl) h2 fun _ _=>rfl).setB fun b hb=>⟨(h.mine _ _ _ hm hb).2.2,hG0 b hb⟩) (by rw [yc,qH];simp)
   fun j d' hj=> ?_).mono fun en w' ⟨vv,F',G,he,hg,hF,hlt,hG,hr⟩=> ?_
  ·obtain ⟨v,h6,h7⟩:=ji h h2 hfr j d' hj
   exact ⟨v,by simpa using h6,h7⟩
  ·have hM1: ∀ b,mo'.g=some b→ ∀ j mj,M1 j=some mj→mj.g≠some b:=fun b hb j mj hj hjb=>
    (zr (h5 j mj hj)).1 (h.apart _ _ _ _ _ (zr (h5 j mj hj)).2 hm hjb hb)
   have h6:=h1.turn hg fun b hb=>⟨(h.mine _ _ _ hm hb).2.1,hG0 b hb,hM1 b hb⟩
   have hnew: ∀ b,w.heap.size≤b→ ∀ j mj,M1 j=some mj→mj.g≠some b:=fun b hb j mj hj hjb=>by
    have:=(h1.mine _ _ _ hj hjb).2.2;omega
   have h7:=h6.more hF fun b hb=>⟨(hlt b hb).1,(hlt b hb).2.imp id fun hb' =>⟨h.below.new hb',hnew b hb'⟩⟩
   have hr' :OwnR w' F' (fun _=>True) G vv e' v ys:=hr
   obtain ⟨M',hinv⟩:=(h7.kill k).add k (yp M1 k) (.row false e' v ys) (.slo k) ⟨G,vv,v.width⟩ vv (some k) (fun b hb=>by
     obtain ⟨h8,h9,h10⟩:=hG b hb
     refine ⟨?_,h9,h10,fun j mj hj hjb=> ?_⟩
     ·rcases h8 with h8 | h8
      ·exact h.below.new h8
      ·exact (h.mine _ _ _ hm h8).2.1
     ·rcases h8 with h8 | h8
      ·exact hnew b h8 j mj (zr hj).2 hjb
      ·exact hM1 b h8 j mj (zr hj).2 hjb)
    (fun M' _ _=>⟨rfl,hr'.setB fun b hb=>by
     rcases (hG b hb).1 with h8 | h8
     ·exact h.below.new h8
     ·exact (h.mine _ _ _ hm h8).2.1⟩) fun M' hM' _=>⟨_,hM',rfl,hr'.one⟩
   exact ⟨vv,_,F',M',he,hK,by rw [hdst];exact hinv⟩
theorem zjd (h:Inv w0 F0 F M σ a w) {g:FuncId} {ads:List D} {avs:Array Value} (hen:Enters P w F M σ a o g ads avs) {rts:List TypeId}
  (hk:ziR P μ σ o.dst g ads rts K):CY P w0 F0 a w o K:=by
 unfold ziR at hk
 split at hk
 ·
  obtain ⟨hs,hk⟩:=hk
  refine ⟨g,avs,hen.run hs.1 w,?_⟩
  refine (hs.2 w avs (allF F M) (zfU h) (h.glb.imp fun _ hg=>Or.inl hg) (by rw [yc];exact hen.size) fun i d' hi=> ?_).mono fun e w' ⟨v,F',G,he,hb,_,_,_,hr⟩=> ?_
  ·exact hen.all i d' hi
  ·exact ⟨v,_,F,M,he,hk,(h.grow hb).put (d:= .bad) trivial o.dst⟩
 ·rename_i t
  split at hk
  ·rename_i u hty
   split at hk
   ·rename_i d e hmu hdst he
    obtain ⟨xs,hs,hk⟩:=hk
    refine zb9 h hen hs hdst hk fun {w' F' B G v} hr=>⟨v,hr,fun M2 hM=>⟨_,hM,rfl,?_⟩⟩
    have hr' :OwnR w' F' B G v e u xs:=hr
    exact hr'.one
   ·obtain ⟨xs,hs,hk⟩:=hk
    exact zd1 h hen hs hk fun {w' F' B G v} hr M2=>znK (u:= .list u) (x:=xs) hr
   ·exact hk.elim
  ·rename_i u hnl hty
   obtain ⟨x,hs,hk⟩:=hk
   exact jm h hen hs u.flat hk (fun hr M2=>znK (zfT hr)) fun hfl _ _ _ _ _ hr F2 M2=>R.of1 ((zfT hr).flat hfl)
  ·exact hk.elim
 ·rename_i t t'
  split at hk
  ·rename_i u0 u' h1 h2
   split at hk
   ·rename_i d e v hmu hdst he
    have ownC: ∀ (xs:List v.I) (y:u'.I),Spec P g (zL σ.ob ads) (.tup [.own e v xs,encV u' y])→
      K ((σ.after false ads).putOb d (.row false e v xs) (.tup [.slo d,encV u' y]))→CY P w0 F0 a w o K:= ?ownC
    split at hk
    ·obtain ⟨xs,y,hs,hk⟩:=hk
     exact ownC xs y hs hk
    ·obtain ⟨b,xs,y,hs,hk⟩:=hk
     cases b with
     | true=>exact ownC xs y hs hk
     | false=>
      refine zd1 h hen hs (d2:= .tup [vl v xs,encV u' y]) (by rw [hdst];exact hk) fun hr M2=>zjb hr (fun d hd u0 h0=> ?_) M2
      rcases List.mem_cons.1 hd with rfl | hd
      ·exact zY (u:= .list v) (x:=xs) h0
      ·rcases List.mem_cons.1 hd with rfl | hd
       ·exact zY h0
       ·cases hd
    intro xs y hs hk
    refine zb9 h hen hs hdst hk fun {w' F' B G vv} hr=> ?_
    obtain ⟨us,e1,e2,e3⟩:=hr
    obtain ⟨u0,h3,h4⟩:=e3 0 _ rfl
    obtain ⟨u1,h5,h6⟩:=e3 1 _ rfl
    have h4' :OwnR w' F' B G u0 e v xs:=h4
    refine ⟨u0,h4',fun M2 hM=>⟨us,e1,e2,fun j dd hj=> ?_⟩⟩
    match j,hj with
    | 0,hj=>
     simp only [List.getElem?_cons_zero,Option.some.injEq] at hj
     subst hj
     exact ⟨u0,h3,_,hM,rfl,h4'.one⟩
    | 1,hj=>
     simp only [List.getElem?_cons_succ,List.getElem?_cons_zero,Option.some.injEq] at hj
     subst hj
     exact ⟨u1,h5,(zY h6).keep (fun _ _=>rfl) (fun _ z=>z) (MLe.none M2)⟩
    | j+2,hj=>simp at hj
   ·rename_i u _ _ _ _ _
    obtain ⟨x,y,hs,hk⟩:=hk
    refine jm h hen hs (u.flat&&u'.flat) hk (fun hr M2=>zjb hr (fun d hd u0 h0=> ?_) M2) fun hfl _ _ _ _ _ hr F2 M2=>zd2 hr (fun d hd u0 h0 F2 M2=> ?_) F2 M2
    ·rcases List.mem_cons.1 hd with rfl | hd
     ·exact zY h0
     ·rcases List.mem_cons.1 hd with rfl | hd
      ·exact zY h0
      ·cases hd
    ·simp only [Bool.and_eq_true] at hfl
     rcases List.mem_cons.1 hd with rfl | hd
     ·exact (zY h0).flat hfl.1
     ·rcases List.mem_cons.1 hd with rfl | hd
      ·exact (zY h0).flat hfl.2
      ·cases hd
   ·exact hk.elim
  ·exact hk.elim
 ·rename_i t t' t''
  split at hk
  ·rename_i u u' u'' h1 h2 h3
   obtain ⟨x,y,z,hs,hk⟩:=hk
   refine jm h hen hs (u.flat&&(u'.flat&&u''.flat)) hk (fun hr M2=>zjb hr (fun d hd u0 h0=> ?_) M2) fun hfl _ _ _ _ _ hr F2 M2=>zd2 hr (fun d hd u0 h0 F2 M2=> ?_) F2 M2
   ·rcases List.mem_cons.1 hd with rfl | hd
    ·exact zY h0
    ·rcases List.mem_cons.1 hd with rfl | hd
     ·exact zY h0
     ·rcases List.mem_cons.1 hd with rfl | hd
      ·exact zY h0
      ·cases hd
   ·simp only [Bool.and_eq_true] at hfl
    rcases List.mem_cons.1 hd with rfl | hd
    ·exact (zY h0).flat hfl.1
    ·rcases List.mem_cons.1 hd with rfl | hd
     ·exact (zY h0).flat hfl.2.1
     ·rcases List.mem_cons.1 hd with rfl | hd
      ·exact (zY h0).flat hfl.2.2
      ·cases hd
  ·exact hk.elim
 ·rename_i t t' t'' t3
  split at hk
  ·rename_i u u' u'' u3 h1 h2 h3 h4
   obtain ⟨x,y,z,q,hs,hk⟩:=hk
   refine jm h hen hs false hk (fun hr M2=>zjb hr (fun d hd u0 h0=> ?_) M2) fun hfl=>by cases hfl
   rcases List.mem_cons.1 hd with rfl | hd
   ·exact zY h0
   ·rcases List.mem_cons.1 hd with rfl | hd
    ·exact zY h0
    ·rcases List.mem_cons.1 hd with rfl | hd
     ·exact zY h0
     ·rcases List.mem_cons.1 hd with rfl | hd
      ·exact zY h0
      ·cases hd
  ·exact hk.elim
 ·exact hk.elim
theorem zdt {g:FuncId} {id:Nat} {r:List D} {avs:Array Value} (hen:Enters P w F M σ a o g (.ptr id 0::r) avs) (hrow:rowsOf r=[]):
  ∃ mo b vs,M id=some mo∧mo.g=some b∧avs= #[.pointer (some ⟨b,0,none⟩)]++vs∧vs.size=r.length∧ ∀ (i:Nat) d',(zL σ.ob r)[i]? =some d' → ∃ v,vs[i]? =some v∧R1 w F noM v d' :=by
 obtain ⟨v,h1,mo,b,h2,h3,h4⟩:=hen.raw 0 _ rfl
 have hsz:=hen.size
 obtain ⟨l⟩:=avs
 cases l with
 | nil=>simp at h1
 | cons x l=>
  have hx:x=v:=by simpa using h1
  subst hx
  refine ⟨mo,b,l.toArray,h2,h3,by rw [h4];simp,by simpa using hsz,fun i d' hi=> ?_⟩
  obtain ⟨v,h6,h7⟩:=hen.args F (fun _ z=>z) (by rw [show rowsOf (.ptr id 0::r)=rowsOf r from rfl,hrow];intro j hj;cases hj) (i+1) d' (by simpa [zL] using hi)
  exact ⟨v,by simpa using h6,h7⟩
theorem zje (h:Inv w0 F0 F M σ a w) {id:Nat} {m0:MO} {b:Nat} (hm0:M id=some m0) (hb:m0.g=some b) {p:Bool} {T:TypeId} {cs:List D} {fs:List Fd} {x:(gTy fs).I} (hob:zg σ.ob id=some (.cells p T cs)) (hx:zaS σ.ob id 0 fs cs=some x):
  ∃ ms:Nat→Option MO,(∀ i mo,ms i=some mo→gid id i∈gids id 0 fs∧M (gid id i)=some mo)∧GrR w F (fun _=>True) b T fs x ms∧ ∀ g,grX b ms g→ ¬F g∧g<w.heap.size:=by
 let ms:Nat→Option MO:=fun j=>if gid id j∈gids id 0 fs then M (gid id j) else none
 have hms: ∀ i mo,ms i=some mo→gid id i∈gids id 0 fs∧M (gid id i)=some mo:=fun i mo hi=>by
  have hi:(if gid id i∈gids id 0 fs then M (gid id i) else none)=some mo:=hi
  split at hi
  ·exact ⟨‹_›,hi⟩
  ·cases hi
 obtain ⟨mo,hm,g,us,hg,hus,hl,hc⟩:=h.obs _ _ hob
 have:mo=m0:=Option.some.inj (hm.symm.trans hm0)
 subst this
 have:g=b:=Option.some.inj (hg.symm.trans hb)
 subst this
 have hgr:=jk h hm0 hb (ms:=ms) (fun i hi=>if_pos hi) (us:=us.toList) ⟨by simpa using hl,fun j c hj=>by simpa using hc j c hj⟩ hx
 refine ⟨ms,hms,⟨⟨us,hus,GrsR.keep (fun _ _=>rfl) (fun _ z=>z) (fun _ _ _ _ _=>⟨rfl,trivial⟩) hgr⟩,fun i j mi mj g' hi hj hgi hgj=>zi9 (h.apart _ _ _ _ _ (hms i mi hi).2 (hms j mj hj).2 hgi hgj),fun i mi hi hgi=> ?_⟩,fun g' hg' => ?_⟩
 ·exact zi8 id i (h.apart _ _ _ _ _ (hms i mi hi).2 hm0 hgi hb)
 ·rcases hg' with rfl | ⟨j,mj,hj,hjg⟩
  ·obtain ⟨h1,_,h2⟩:=h.mine _ _ _ hm0 hb;exact ⟨h1,h2⟩
  ·obtain ⟨h1,_,h2⟩:=h.mine _ _ _ (hms j mj hj).2 hjg;exact ⟨h1,h2⟩
theorem za0 (h:Inv w0 F0 F M σ a w) {g:FuncId} {id:Nat} {r:List D} {avs:Array Value} (hen:Enters P w F M σ a o g (.ptr id 0::r) avs) (hrow:rowsOf r=[])
  {fs:List Fd} {p:Bool} {T:TypeId} {cs:List D} {x y:(gTy fs).I} (hob:zg (σ.gnils id 0 0 fs).ob id=some (.cells p T cs)) (hx:zaS (σ.gnils id 0 0 fs).ob id 0 fs cs=some x) {d d2:D} (hs:q8 P g T fs x (zL σ.ob r) y d)
  (hK:K (((σ.gnils id 0 0 fs).gset id p T fs y).put o.dst d2)) (hd: ∀ {w' :World} {v:Value},(∀ F2 M2,R w' F2 M2 v d)→ ∀ F2 M2,R w' F2 M2 v d2):CY P w0 F0 a w o K:=by
 obtain ⟨mo,b,vs,hm,hb,hva,hvs,hargs⟩:=zdt hen hrow
 obtain ⟨M2,h2,hM2⟩:=h.gnils id fs 0 0
 have hm2:M2 id=some mo:=by rw [hM2];exact hm
 obtain ⟨ms,hms,hG,hX⟩:=zje h2 hm2 hb hob hx
 refine ⟨g,avs,hen.run hs.1 w,?_⟩
 rw [hva]
 refine (hs.2 w b vs F ms (fun g hg=>(h.flt g hg).1) h.glb hX hG (by rw [yc];exact hvs) hargs).mono fun en w' ⟨v,F',ms',he,hbel,hF,hlt,hX',hG',hr⟩=> ?_
 obtain ⟨M',hi⟩:=h2.gset hob hm2 hb hms hbel hF hlt hX' hG'
 exact ⟨v,_,F',M',he,hK,hi.put (hd hr F' M') o.dst⟩
theorem zjf (h:Inv w0 F0 F M σ a w) {g:FuncId} {id:Nat} {r:List D} {avs:Array Value} (hen:Enters P w F M σ a o g (.ptr id 0::r) avs) (hrow:rowsOf r=[])
  {fs:List Fd} {p:Bool} {T:TypeId} {cs:List D} {x:(gTy fs).I} (hob:zg (σ.gnils id 0 0 fs).ob id=some (.cells p T cs)) (hx:zaS (σ.gnils id 0 0 fs).ob id 0 fs cs=some x) {d:D} (hs:ziP P g T fs x (zL σ.ob r) d)
  (hK:K ((((σ.gnils id 0 0 fs).kills (gids id 0 fs)).kill id).put o.dst d)):CY P w0 F0 a w o K:=by
 obtain ⟨mo,b,vs,hm,hb,hva,hvs,hargs⟩:=zdt hen hrow
 obtain ⟨M2,h2,hM2⟩:=h.gnils id fs 0 0
 have hm2:M2 id=some mo:=by rw [hM2];exact hm
 obtain ⟨ms,hms,hG,hX⟩:=zje h2 hm2 hb hob hx
 refine ⟨g,avs,hen.run hs.1 w,?_⟩
 rw [hva]
 refine (hs.2 w b vs F ms (fun g hg=>(h.flt g hg).1) h.glb hX hG (by rw [yc];exact hvs) hargs).mono fun en w' ⟨v,he,hbel,hr⟩=> ?_
 have h3:=(h2.kills (gids id 0 fs)).kill id
 have hi:=h3.turnX hbel fun k hk=>⟨?_,(hX k hk).1,fun i mi hi hik=> ?_⟩
 ·exact ⟨v,_,F,_,he,hK,hi.put (hr F _) o.dst⟩
 ·rcases hk with rfl | ⟨j,mj,hj,hjg⟩
  ·exact (h2.mine _ _ _ hm2 hb).2.1
  ·exact (h2.mine _ _ _ (hms j mj hj).2 hjg).2.1
 ·obtain ⟨h5,h6⟩:=zr hi
  obtain ⟨h7,h8⟩:=jA h6
  rcases hk with rfl | ⟨j,mj,hj,hjg⟩
  ·exact h5 (h2.apart _ _ _ _ _ h8 hm2 hik hb)
  ·have:=h2.apart _ _ _ _ _ h8 (hms j mj hj).2 hik hjg
   rw [this] at h7
   exact h7 (hms j mj hj).1
theorem zjg (h:Inv w0 F0 F M σ a w) {g:FuncId} {ads:List D} {avs:Array Value} (hen:Enters P w F M σ a o g ads avs) {rts:List TypeId}
  (hk:zlq P σ o.dst g ads rts K):CY P w0 F0 a w o K:=by
 unfold zlq at hk
 split at hk
 ·rename_i id r
  split at hk
  ·rename_i p0 T cs0 hob0 hrow
   split at hk
   ·rename_i fs hfs
    split at hk
    ·rename_i p T' cs hob
     split at hk
     ·rename_i x hT hx
      have hT:=of_decide_eq_true hT
      subst hT
      split at hk
      ·obtain ⟨y,hs,hk⟩:=hk
       exact za0 h hen hrow hob hx hs hk fun _ _ _=>trivial
      ·split at hk
       ·split at hk
        ·obtain ⟨y,z,hs,hk⟩:=hk
         exact za0 h hen hrow hob hx hs hk fun hr=>hr
        ·obtain ⟨y,hs,hk⟩:=hk
         exact za0 h hen hrow hob hx hs hk fun hr=>hr
       ·obtain ⟨y,hs,hk⟩:=hk
        exact za0 h hen hrow hob hx hs hk fun hr=>hr
      ·split at hk
       ·split at hk
        ·obtain ⟨y,z,z',hs,hk⟩:=hk
         exact za0 h hen hrow hob hx hs hk fun hr=>hr
        ·obtain ⟨y,hs,hk⟩:=hk
         exact za0 h hen hrow hob hx hs hk fun hr=>hr
       ·obtain ⟨y,hs,hk⟩:=hk
        exact za0 h hen hrow hob hx hs hk fun hr=>hr
      ·exact hk.elim
     ·exact hk.elim
    ·exact hk.elim
   ·exact hk.elim
  ·exact hk.elim
 ·exact hk.elim
theorem zoH (h:Inv w0 F0 F M σ a w) {g:FuncId} {ads:List D} {avs:Array Value} (hen:Enters P w F M σ a o g ads avs) {rts:List TypeId}
  (hk:zou P σ o.dst g ads rts K):CY P w0 F0 a w o K:=by
 unfold zou at hk
 split at hk
 ·rename_i id r
  split at hk
  ·rename_i p0 T cs0 hob0 hrow
   split at hk
   ·rename_i fs hfs
    split at hk
    ·rename_i T' cs hob
     split at hk
     ·rename_i x hT hx
      have hT:=of_decide_eq_true hT
      subst hT
      split at hk
      ·split at hk
       ·split at hk
        ·obtain ⟨z,hs,hk⟩:=hk
         exact zjf h hen hrow hob hx hs hk
        ·exact hk.elim
       ·exact hk.elim
      ·exact hk.elim
     ·exact hk.elim
    ·exact hk.elim
   ·exact hk.elim
  ·exact hk.elim
 ·exact hk.elim
theorem c_clo (h:Inv w0 F0 F M σ a w) {f:Operand} {g:FuncId} {cs:List D} {c:Call} (ho:o.op= .call c) (hc:c.callee= .value f) (hf:R w F M (a.eval f) (.clo g cs)) {rts:List TypeId}
  (hk:zov P μ σ o.dst g (evs σ c.args.toList++cs) rts K):CY P w0 F0 a w o K:=by
 obtain ⟨avs,hen⟩:=zdr (P:=P) h ho hc hf
 unfold zov at hk
 split at hk
 ·exact zjg h hen hk
 ·exact zjd h hen hk
theorem zq3 (h:Inv w0 F0 F M σ a w) {f:Operand} {g:FuncId} {c:Call} (ho:o.op= .call c) (hc:c.callee= .value f) (hf:R w F M (a.eval f) (.fn (.func g))) {rts:List TypeId}
  (hk:zlr P μ σ o.dst g (evs σ c.args.toList) rts K):CY P w0 F0 a w o K:=by
 unfold zlr at hk
 split at hk
 ·split at hk
  ·exact zjd h (jl h ho hc hf) hk
  ·exact zjg h (jl h ho hc hf) hk
  ·exact zoH h (jl h ho hc hf) hk
 ·unfold zqT at hk
  split at hk
  ·rename_i i r hargs
   split at hk
   ·rename_i p e u xs hob hrow
    split at hk
    ·obtain ⟨ys,hs,hk⟩:=hk
     exact zjc h ho hc hf hargs hob hrow hs hk fun _ _ _=>trivial
    ·split at hk
     ·split at hk
      ·obtain ⟨ys,x,hs,hk⟩:=hk
       exact zjc h ho hc hf hargs hob hrow hs hk fun hr=>hr
      ·exact hk.elim
     ·exact hk.elim
    ·exact hk.elim
   ·exact hk.elim
  ·exact hk.elim
 ·unfold zqU at hk
  split at hk
  ·rename_i i r hargs
   split at hk
   ·rename_i e u xs hob hn
    split at hk
    ·split at hk
     ·split at hk
      ·rename_i d e' hmu hdst he
       obtain ⟨ys,hs,hk⟩:=hk
       exact znL h ho hc hf hargs hob hn hs hdst hk
      ·exact hk.elim
     ·exact hk.elim
    ·exact hk.elim
   ·exact hk.elim
  ·exact hk.elim
theorem zd3: ∀ {t:Ty} {x:t.I} {c:D},c∈enc t x→ ∃ t' x',c= .val t' x'
 | .pair p q,x,c,h=>by
  simp only [enc,List.mem_append] at h
  rcases h with h | h
  ·exact zd3 h
  ·exact zd3 h
 | .int _,x,c,h=>⟨_,_,List.mem_singleton.1 h⟩
 | .bool,x,c,h=>⟨_,_,List.mem_singleton.1 h⟩
 | .str,x,c,h=>⟨_,_,List.mem_singleton.1 h⟩
 | .list _,x,c,h=>⟨_,_,List.mem_singleton.1 h⟩
 | .flt,x,c,h=>⟨_,_,List.mem_singleton.1 h⟩
 | .err,x,c,h=>⟨_,_,List.mem_singleton.1 h⟩
 | .nfn,x,c,h=>⟨_,_,List.mem_singleton.1 h⟩
 | .fn0 _,x,c,h=>⟨_,_,List.mem_singleton.1 h⟩
 | .clo _ _,x,c,h=>⟨_,_,List.mem_singleton.1 h⟩
 | .ref _,x,c,h=>⟨_,_,List.mem_singleton.1 h⟩
 | .sum _ _,x,c,h=>⟨_,_,List.mem_singleton.1 h⟩
theorem qf {t:Ty} {x:t.I} {us:List Value} (h:RV w F t x us) (hl:us.length=1) (he:capD t x=[.val t x]):us.length=(capD t x).length∧ ∀ (j:Nat) c,(capD t x)[j]? =some c→ ∃ u,us[j]? =some u∧u.oneCell' =true∧RE w F u c:=by
 have hone:=h.one
 match us,hl with
 | [u],_=>
  rw [he]
  refine ⟨rfl,fun j c hj=> ?_⟩
  cases j with
  | zero=>
   have:D.val t x=c:=by simpa using hj
   subst this
   exact ⟨u,rfl,hone u (by simp),h⟩
  | succ j=>simp at hj
theorem zcG: ∀ {t:Ty} {x:t.I} {us:List Value},RV w F t x us→us.length=(capD t x).length∧ ∀ (j:Nat) c,(capD t x)[j]? =some c→ ∃ u,us[j]? =some u∧u.oneCell' =true∧RE w F u c
 | .pair p q,x,us,h=>by
  obtain ⟨c1,c2,rfl,h1,h2⟩:=h
  obtain ⟨h3,h4⟩:=zcG h1
  obtain ⟨h5,h6⟩:=zcG h2
  refine ⟨by simp [capD,h3,h5],fun j c hj=> ?_⟩
  simp only [capD] at hj
  rcases Nat.lt_or_ge j (capD p x.1).length with hlt | hge
  ·rw [List.getElem?_append_left hlt] at hj
   obtain ⟨u,h7,h8⟩:=h4 j c hj
   exact ⟨u,by rw [List.getElem?_append_left (by omega)];exact h7,h8⟩
  ·rw [List.getElem?_append_right hge] at hj
   obtain ⟨u,h7,h8⟩:=h6 _ c hj
   exact ⟨u,by rw [List.getElem?_append_right (by omega)];rw [h3];exact h7,h8⟩
 | .ref t,x,us,h=>by
  obtain ⟨a,vs,rfl,h1,h2,h3⟩:=h
  refine ⟨rfl,fun j c hj=> ?_⟩
  cases j with
  | zero=>
   have:D.ept (enc t x)=c:=by simpa [capD] using hj
   subst this
   refine ⟨_,rfl,rfl,a,vs,rfl,h1,h3,by rw [q9,h2.len],fun j c hj=> ?_⟩
   obtain ⟨u,h4,h5⟩:=yU h2 j c hj
   refine ⟨u,h4,?_⟩
   have hv: ∃ t' x',c= .val t' x' :=zd3 (List.mem_of_getElem? hj)
   obtain ⟨t',x',rfl⟩:=hv
   exact h5
  | succ j=>simp [capD] at hj
 | .int _,x,us,h=>qf h h.len rfl
 | .bool,x,us,h=>qf h h.len rfl
 | .str,x,us,h=>qf h h.len rfl
 | .list _,x,us,h=>qf h h.len rfl
 | .flt,x,us,h=>qf h h.len rfl
 | .err,x,us,h=>qf h h.len rfl
 | .nfn,x,us,h=>qf h h.len rfl
 | .fn0 _,x,us,h=>qf h h.len rfl
 | .clo _ _,x,us,h=>qf h h.len rfl
 | .sum _ _,x,us,h=>qf h h.len rfl
theorem zca: ∀ {t:Ty} {x:t.I} {v:Value} {k:D→Prop},RV w F t x [v]→fnK t x k→ ∃ d,k d∧R w F M v d
 | .fn0 g,x,v,k,h,hk=>⟨_,hk,by have h:[v]=[_]:=h;simp only [List.cons.injEq,and_true] at h;exact h⟩
 | .clo g t,x,v,k,h,hk=>by
  obtain ⟨us,h1,h2⟩:=h
  simp only [List.cons.injEq,and_true] at h1
  obtain ⟨h3,h4⟩:=zcG h2
  exact ⟨_,hk,us,h1,by simpa using h3,fun j c hj=>by
   obtain ⟨u,h5,h6⟩:=h4 j c hj
   exact ⟨u,by simpa using h5,h6⟩⟩
 | .sum p q,x,v,k,h,hk=>by
  obtain ⟨_,h⟩:=h
  cases x with
  | inl y=>exact zca (t:=p) h hk
  | inr y=>exact zca (t:=q) h hk
 | .int _,_,_,_,_,hk=>(show False from hk).elim
 | .bool,_,_,_,_,hk=>(show False from hk).elim
 | .str,_,_,_,_,hk=>(show False from hk).elim
 | .list _,_,_,_,_,hk=>(show False from hk).elim
 | .pair _ _,_,_,_,_,hk=>(show False from hk).elim
 | .flt,_,_,_,_,hk=>(show False from hk).elim
 | .err,_,_,_,_,hk=>(show False from hk).elim
 | .nfn,_,_,_,_,hk=>(show False from hk).elim
 | .ref _,_,_,_,_,hk=>(show False from hk).elim
theorem zjh (h:Inv w0 F0 F M σ a w) {f:Operand} {c:Call} (ho:o.op= .call c) (hc:c.callee= .value f) (hk:zlt P μ σ o.dst (evs σ c.args.toList) (ev σ f) K):CY P w0 F0 a w o K:=by
 have hF: ∀ d,R w F M (a.eval f) d→ziS P μ σ o.dst (evs σ c.args.toList) K d→CY P w0 F0 a w o K:=fun d hd hk=>by
  unfold ziS at hk
  split at hk
  ·split at hk
   ·exact zq3 h ho hc hd hk
   ·exact hk.elim
  ·split at hk
   ·exact c_clo h ho hc hd hk
   ·exact hk.elim
  ·exact hk.elim
 have hv:=h.ev f
 unfold zlt at hk
 split at hk
 ·rename_i t x hx
  rw [hx] at hv
  obtain ⟨d,h1,h2⟩:=zca (M:=M) (show RV w F t x [a.eval f] from hv) hk
  exact hF d h2 h1
 ·exact hF _ hv hk
end
end
end Go.Proofs.YthcmfnkganacaaaGreatDoor.Vc
