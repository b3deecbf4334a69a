/-
  SETS OF ENTRIES, AS LISTS IN ORDER. Plain lists. No condition.
-/
import Derived.Test.YthcmfnkganacaaaGreatDoorB2
import Derived.Shelf.SlSortCmp.Whole1
import Derived.Test.YthcmfnkganacaaaGreatDoorA5
import Derived.Test.YthcmfnkganacaaaGreatDoorA3
import Derived.Shelf.SlSortCmp.NoneTotal
import Derived.Shelf.Lay
import Derived.Ground.SlsfProg
import Derived.Laws.Externs
import Derived.Lib.Walk
import Derived.Deep.Draws
import Derived.Deep.QuietTactic
import Derived.Deep.LoopGhost
import Derived.BigQuiet
import Derived.StillTailTactics
import Derived.Shelf.RegionOpenPlain
import Derived.Lib.SliceRun
set_option linter.unusedVariables false
set_option linter.unusedSimpArgs false
set_option maxRecDepth 100000
set_option linter.unusedSectionVars false
namespace Go.Proofs.YthcmfnkganacaaaGreatDoor.Vc
section
open Go.RowKit Go.Proofs Go.Sort
section
variable {α:Type} [Inhabited α]
theorem zex {w:World} {g n:Nat} {os:Array Obj} (enc:α→Value) (d:Array α):w.grownBy (sortWorld enc w g 0 n d os) (some g):=by
 unfold sortWorld
 refine ⟨rfl,rfl,rfl,by simp,fun k hk hne=> ?_⟩
 rw [heap_grow_old _ _ (by simpa using hk)]
 have:g≠k:=fun e=>hne (by rw [e])
 simp [putRow,mapBlock,Sort.ahead,Array.getElem?_modify,this]
theorem ziE {w:World} {g n:Nat} {os:Array Obj} {cur:Array Value} {e:TypeId} {fr:Nat×Nat} (enc:α→Value) (d:Array α) (hb:w.heap[g]? =some (.cells cur e fr)):
  (sortWorld enc w g 0 n d os).heap[g]? =some (.cells (putCells enc 0 d cur) e fr):=by
 unfold sortWorld
 have hg:g<w.heap.size:=(Array.getElem?_eq_some_iff.1 hb).1
 rw [heap_grow_old _ _ (by simpa using hg)]
 simp [putRow,mapBlock,Sort.ahead,Array.getElem?_modify,hb,onCells]
end
theorem zcW {α:Type} {r:α→α→Prop} (ha: ∀ x y,r x y→r y x→x=y): ∀ {l m:List α},l.Perm m→l.Pairwise r→m.Pairwise r→l=m
 | [],m,hp,_,_=>(List.nil_perm.1 hp).symm ▸ rfl
 | x::l,[],hp,_,_=>by have:=hp.length_eq;simp at this
 | x::l,y::m,hp,h1,h2=>by
  rw [List.pairwise_cons] at h1 h2
  have hxy:x=y:=by
   have hx:=hp.subset (List.mem_cons_self (a:=x) (l:=l))
   have hy:=hp.symm.subset (List.mem_cons_self (a:=y) (l:=m))
   rcases List.mem_cons.1 hx with rfl | hx
   ·rfl
   ·rcases List.mem_cons.1 hy with rfl | hy
    ·rfl
    ·exact ha x y (h1.1 y hy) (h2.1 x hx)
  subst hxy
  rw [zcW ha ((List.perm_cons _).1 hp) h1.2 h2.2]
end
section
abbrev bl:=Op.bytesLess
theorem zbq (x:List UInt8):bl x x=false:=zcP x
def nx (p:List Bs) (l:Ln):List Bs:=p.take l.1.toNat++[l.2.1]
def pths (p:List Bs):List Ln→List (List Bs)
 | []=>[]
 | l::r=>nx p l::pths (nx p l) r
def snd (l:Ln):Bool:=decide (0≤l.1)&&(decide (l.1<16)&&(decide (l.2.1.length≤40)&&(decide (0≤l.2.2)&&decide (l.2.2≤3))))
def rf (p:List Bs):List Ln→Bool
 | []=>true
 | l::r=>snd l&&(decide (l.1≤p.length)&&((decide (l.1=p.length)||bl (p.getD l.1.toNat []) l.2.1)&&rf (nx p l) r))
def zE (t:List Ln):Bool:=decide (t.length≤200)&&rf [] t
def after (p:List Bs) (u:List Ln):List Bs:=u.foldl nx p
def pth (t:List Ln) (i:Nat):List Bs:=(pths [] t).getD i []
theorem zC {t:List Ln}:zE t=true↔t.length≤200∧rf [] t=true:=by simp [zE]
theorem zJ {l:Ln}:snd l=true↔0≤l.1∧l.1<16∧l.2.1.length≤40∧0≤l.2.2∧l.2.2≤3:=by simp [snd]
theorem zaL {p:List Bs} {l:Ln} {r:List Ln}:rf p (l::r)=true↔snd l=true∧l.1≤p.length∧(l.1=p.length∨bl (p.getD l.1.toNat []) l.2.1=true)∧rf (nx p l) r=true:=by simp [rf]
@[simp] theorem zgu (p:List Bs): ∀ t,(pths p t).length=t.length
 | []=>rfl
 | l::r=>by simp [pths,zgu _ r]
theorem zfz (p:List Bs) (u v:List Ln):after p (u++v)=after (after p u) v:=by simp [after]
theorem zcX: ∀ (p:List Bs) (u v:List Ln),rf p (u++v)=(rf p u&&rf (after p u) v)
 | p,[],v=>rfl
 | p,l::u,v=>by
  simp only [List.cons_append,rf,zcX (nx p l) u v,Bool.and_assoc]
  rfl
theorem zcY: ∀ (p:List Bs) (u v:List Ln),pths p (u++v)=pths p u++pths (after p u) v
 | p,[],v=>rfl
 | p,l::u,v=>by
  simp only [List.cons_append,pths,zcY (nx p l) u v]
  rfl
theorem zag {p:List Bs} {l:Ln} (h0:0≤l.1) (h:l.1≤p.length):(nx p l).length=l.1.toNat+1:=by simp [nx];omega
theorem zQ (p:List Bs) (t:List Ln) {i:Nat} (h:i<t.length):after p (t.take (i+1))=nx (after p (t.take i)) t[i]:=by
 rw [List.take_succ_eq_append_getElem h,zfz];rfl
theorem zhQ: ∀ (p:List Bs) (t:List Ln) (i:Nat),i<t.length→(pths p t)[i]? =some (after p (t.take (i+1)))
 | p,l::r,0,_=>rfl
 | p,l::r,i+1,h=>by
  simp only [pths,List.getElem?_cons_succ]
  rw [zhQ (nx p l) r i (by simpa using h)]
  rfl
theorem zdL (t:List Ln) {i:Nat} (h:i<t.length):pth t i=after [] (t.take (i+1)):=by
 unfold pth;rw [List.getD_eq_getElem?_getD,zhQ _ _ _ h];rfl
theorem zey {p:List Bs} {t:List Ln} (h:rf p t=true) (i:Nat):rf p (t.take i)=true∧rf (after p (t.take i)) (t.drop i)=true:=by
 have:=zcX p (t.take i) (t.drop i)
 rw [List.take_append_drop,h] at this
 simpa using this.symm
theorem jR {p:List Bs} {t:List Ln} (h:rf p t=true) {i:Nat} (hi:i<t.length):snd t[i]=true∧(t[i]).1≤(after p (t.take i)).length∧((t[i]).1=(after p (t.take i)).length∨bl ((after p (t.take i)).getD (t[i]).1.toNat []) (t[i]).2.1=true):=by
 have:=(zey h i).2
 rw [List.drop_eq_getElem_cons hi,zaL] at this
 exact ⟨this.1,this.2.1,this.2.2.1⟩
theorem zah {t:List Ln} (h:rf [] t=true) {i:Nat} (hi:i<t.length):(pth t i).length=(t[i]).1.toNat+1:=by
 obtain ⟨h1,h2,_⟩:=jR h hi
 rw [zdL t hi,zQ [] t hi,zag (zJ.1 h1).1 h2]
theorem zof (t:List Ln) {i:Nat} (hi:i<t.length):pth t i=(after [] (t.take i)).take (t[i]).1.toNat++[(t[i]).2.1]:=by
 rw [zdL t hi,zQ [] t hi];rfl
theorem zbr {t:List Ln} (h:rf [] t=true) {i:Nat} (hi:i<t.length):(after [] (t.take (i+1))).length=(t[i]).1.toNat+1:=by
 rw [← zdL t hi];exact zah h hi
def unS (t:List Ln) (d:Int):Nat→Int
 | 0=> -1
 | k+1=>if (t.getD k (0,[],0)).1<d then (k:Int) else unS t d k
theorem zkM (t:List Ln) (d:Int): ∀ k,unS t d k<k
 | 0=>by simp [unS]
 | k+1=>by
  unfold unS;have:=zkM t d k
  split<;>omega
theorem zkN (t:List Ln) (d:Int): ∀ k,-1≤unS t d k
 | 0=>by simp [unS]
 | k+1=>by
  unfold unS;have:=zkN t d k
  split<;>omega
theorem zhR (t:List Ln) (d:Int): ∀ (k:Nat) (u:Nat),unS t d k=(u:Int)↔u<k∧(t.getD u (0,[],0)).1<d∧ ∀ j,u<j→j<k→d≤(t.getD j (0,[],0)).1
 | 0,u=>by simp [unS]
 | k+1,u=>by
  unfold unS
  split
  ·rename_i h
   constructor
   ·intro e
    have:u=k:=by omega
    subst this
    exact ⟨by omega,h,fun j h1 h2=>by omega⟩
   ·intro ⟨h1,h2,h3⟩
    rcases Nat.lt_or_ge u k with h4 | h4
    ·have:=h3 k h4 (by omega);omega
    ·have:u=k:=by omega
     subst this;rfl
  ·rename_i h
   rw [zhR t d k u]
   constructor
   ·intro ⟨h1,h2,h3⟩
    refine ⟨by omega,h2,fun j h4 h5=> ?_⟩
    rcases Nat.lt_or_ge j k with h6 | h6
    ·exact h3 j h4 h6
    ·have:j=k:=by omega
     subst this;omega
   ·intro ⟨h1,h2,h3⟩
    refine ⟨?_,h2,fun j h4 h5=>h3 j h4 (by omega)⟩
    rcases Nat.lt_or_ge u k with h4 | h4
    ·exact h4
    ·have:u=k:=by omega
     subst this;omega
theorem zhS (t:List Ln) (d:Int): ∀ (k:Nat),unS t d k= -1↔ ∀ j,j<k→d≤(t.getD j (0,[],0)).1
 | 0=>by simp [unS]
 | k+1=>by
  unfold unS
  split
  ·rename_i h
   constructor
   ·intro e;omega
   ·intro hh;have:=hh k (by omega);omega
  ·rename_i h
   rw [zhS t d k]
   constructor
   ·intro hh j hj
    rcases Nat.lt_or_ge j k with h6 | h6
    ·exact hh j h6
    ·have:j=k:=by omega
     subst this;omega
   ·intro hh j hj;exact hh j (by omega)
theorem zt (t:List Ln) {i:Nat} (h:i<t.length):t.getD i (0,[],0)=t[i]:=by simp [h]
theorem zdM {t:List Ln} (h:rf [] t=true): ∀ (k:Nat),k≤t.length→ ∀ d:Nat,0<d→d≤(after [] (t.take k)).length→
  ∃ u:Nat,unS t (d:Int) k=(u:Int)∧u<k∧pth t u=(after [] (t.take k)).take d
 | 0,_,d,h0,hd=>by simp [after] at hd;omega
 | k+1,hk,d,h0,hd=>by
  have hlt:k<t.length:=by omega
  obtain ⟨h1,h2,_⟩:=jR h hlt
  have h3:=(zJ.1 h1).1
  rw [zbr h hlt] at hd
  unfold unS
  rw [zt t hlt]
  split
  ·rename_i hl
   refine ⟨k,rfl,by omega,?_⟩
   rw [zdL t hlt]
   exact (List.take_of_length_le (by rw [zbr h hlt];omega)).symm
  ·rename_i hl
   obtain ⟨u,h4,h5,h6⟩:=zdM h k (by omega) d h0 (by omega)
   refine ⟨u,h4,by omega,?_⟩
   rw [h6,zQ [] t hlt,nx]
   rw [List.take_append_of_le_length (by simp;omega),List.take_take,Nat.min_eq_left (by omega)]
def yn (t:List Ln) (i:Nat):Int:=unS t (t.getD i (0,[],0)).1 i
theorem ju {t:List Ln} (h:rf [] t=true) {i:Nat} (hi:i<t.length):
  ((t[i]).1=0∧yn t i= -1∧pth t i=[(t[i]).2.1])∨(0<(t[i]).1∧ ∃ u:Nat,yn t i=(u:Int)∧u<i∧pth t i=pth t u++[(t[i]).2.1]∧((t[u]?.map (·.1))=some ((t[i]).1 - 1))):=by
 obtain ⟨h1,h2,_⟩:=jR h hi
 have h3:=(zJ.1 h1).1
 unfold yn
 rw [zt t hi]
 rcases Int.lt_or_eq_of_le h3 with h4 | h4
 ·right
  obtain ⟨u,h5,h6,h7⟩:=zdM h i (by omega) (t[i]).1.toNat (by omega) (by omega)
  rw [Int.toNat_of_nonneg h3] at h5
  refine ⟨h4,u,h5,h6,by rw [zof t hi,h7],?_⟩
  have hu:u<t.length:=by omega
  have h8:=zah h hu
  rw [h7,List.length_take,Nat.min_eq_left (by omega)] at h8
  have h9:=(zJ.1 (jR h hu).1).1
  rw [List.getElem?_eq_getElem hu]
  simp only [Option.map_some,Option.some.injEq]
  omega
 ·left
  refine ⟨h4.symm,?_,by rw [zof t hi,← h4];simp⟩
  rw [zhS,← h4]
  intro j hj
  have hj' :j<t.length:=by omega
  rw [zt t hj']
  exact (zJ.1 (jR h hj').1).1
def cntD (d:Int):List Ln→Nat
 | []=>0
 | l::r=>if d<l.1 then cntD d r+1 else 0
def endN (t:List Ln) (i:Nat):Nat:=i+1+cntD (t.getD i (0,[],0)).1 (t.drop (i+1))
theorem zkO (d:Int): ∀ r,cntD d r≤r.length
 | []=>Nat.le_refl _
 | l::r=>by
  unfold cntD;have:=zkO d r
  split<;>simp<;>omega
theorem zkP (d:Int): ∀ (r:List Ln) (j:Nat),j<cntD d r→d<(r.getD j (0,[],0)).1
 | [],j,h=>by simp [cntD] at h
 | l::r,j,h=>by
  unfold cntD at h
  split at h
  ·rename_i hd
   cases j with
   | zero=>simpa using hd
   | succ j=>simpa using zkP d r j (by omega)
  ·omega
theorem zhT (d:Int): ∀ (r:List Ln),cntD d r<r.length→(r.getD (cntD d r) (0,[],0)).1≤d
 | [],h=>by simp [cntD] at h
 | l::r,h=>by
  unfold cntD at h ⊢
  split
  ·rename_i hd
   simp only [hd,if_true] at h
   simpa using zhT d r (by simpa using h)
  ·rename_i hd
   simpa using hd
theorem zgv (t:List Ln) (i:Nat):i<endN t i:=by unfold endN;omega
theorem zez (t:List Ln) {i:Nat} (h:i<t.length):endN t i≤t.length:=by
 unfold endN;have:=zkO (t.getD i (0,[],0)).1 (t.drop (i+1));rw [List.length_drop] at this;omega
theorem zkQ (t:List Ln) (i j:Nat) (h1:i<j) (h2:j<endN t i):(t.getD i (0,[],0)).1<(t.getD j (0,[],0)).1:=by
 unfold endN at h2
 have:=zkP (t.getD i (0,[],0)).1 (t.drop (i+1)) (j - (i+1)) (by omega)
 simp only [List.getD_eq_getElem?_getD,List.getElem?_drop] at this ⊢
 rwa [show i+1+(j - (i+1))=j by omega] at this
theorem zm9 (t:List Ln) (i:Nat) (h:endN t i<t.length):(t.getD (endN t i) (0,[],0)).1≤(t.getD i (0,[],0)).1:=by
 unfold endN at h ⊢
 have:=zhT (t.getD i (0,[],0)).1 (t.drop (i+1)) (by rw [List.length_drop];omega)
 simp only [List.getD_eq_getElem?_getD,List.getElem?_drop] at this ⊢
 exact this
theorem zeA {t:List Ln} (h:rf [] t=true) {i k:Nat} (hi:i<t.length) (hk:k<t.length):
  yn t k=(i:Int)↔i<k∧k<endN t i∧(t[k]).1=(t[i]).1+1:=by
 unfold yn
 rw [zhR,zt t hk,zt t hi]
 constructor
 ·intro ⟨h1,h2,h3⟩
  have hend:k<endN t i:=by
   rcases Nat.lt_or_ge k (endN t i) with h4 | h4
   ·exact h4
   ·have h5:=zm9 t i (by omega)
    rw [zt t hi] at h5
    rcases Nat.lt_or_eq_of_le h4 with h6 | h6
    ·have:=h3 (endN t i) (zgv t i) h6;omega
    ·rw [h6,zt t hk] at h5;omega
  refine ⟨h1,hend,?_⟩
  have hi1:i+1<t.length:=by omega
  obtain ⟨h4,h5,_⟩:=jR h hi1
  rw [zbr h hi] at h5
  have h6:=(zJ.1 (jR h hi).1).1
  rcases Nat.lt_or_ge (i+1) k with h7 | h7
  ·have:=h3 (i+1) (by omega) h7
   rw [zt t hi1] at this
   omega
  ·have:i+1=k:=by omega
   subst this
   omega
 ·intro ⟨h1,h2,h3⟩
  refine ⟨h1,by omega,fun j h4 h5=> ?_⟩
  have:=zkQ t i j h4 (by omega)
  rw [zt t hi] at this
  omega
theorem zna {t:List Ln} (h:rf [] t=true) {k:Nat} (hk:k<t.length):yn t k= -1↔(t[k]).1=0:=by
 rcases ju h hk with ⟨h1,h2,_⟩ | ⟨h1,u,h2,_⟩
 ·simp [h1,h2]
 ·rw [h2];constructor
  ·intro e;omega
  ·intro e;omega
theorem gone: ∀ (r:List Ln) (p q:List Bs) (d:Nat),rf p r=true→p.take d=q.take d→d<p.length→d<q.length→bl (q.getD d []) (p.getD d [])=true→ ∀ x∈pths p r,x≠q
 | [],_,_,_,_,_,_,_,_=>by simp [pths]
 | l::r,p,q,d,h,h1,h2,h3,h4=>by
  rw [zaL] at h
  obtain ⟨hs,hl,hw,hr⟩:=h
  have h0:=(zJ.1 hs).1
  have key: ∃ e,(nx p l).take e=q.take e∧e<(nx p l).length∧e<q.length∧bl (q.getD e []) ((nx p l).getD e [])=true:=by
   rcases Nat.lt_trichotomy l.1.toNat d with h5 | h5 | h5
   ·refine ⟨l.1.toNat,?_,by rw [zag h0 hl];omega,by omega,?_⟩
    ·unfold nx
     rw [List.take_append_of_le_length (by simp;omega),List.take_take,Nat.min_self]
     have:=congrArg (List.take l.1.toNat) h1
     rw [List.take_take,List.take_take,Nat.min_eq_left (by omega)] at this
     exact this
    ·have h6:(nx p l).getD l.1.toNat []=l.2.1:=by
      unfold nx
      rw [List.getD_eq_getElem?_getD,List.getElem?_append_right (by simp;omega)]
      simp [show l.1.toNat - min l.1.toNat p.length=0 by omega]
     rw [h6]
     have h7:q.getD l.1.toNat []=p.getD l.1.toNat []:=by
      have:(p.take d)[l.1.toNat]? =(q.take d)[l.1.toNat]? :=by rw [h1]
      rw [List.getElem?_take_of_lt h5,List.getElem?_take_of_lt h5] at this
      rw [List.getD_eq_getElem?_getD,List.getD_eq_getElem?_getD,this]
     rw [h7]
     rcases hw with hw | hw
     ·omega
     ·exact hw
   ·subst h5
    refine ⟨l.1.toNat,?_,by rw [zag h0 hl];omega,h3,?_⟩
    ·unfold nx
     rw [List.take_append_of_le_length (by simp;omega),List.take_take,Nat.min_self];exact h1
    ·have h6:(nx p l).getD l.1.toNat []=l.2.1:=by
      unfold nx
      rw [List.getD_eq_getElem?_getD,List.getElem?_append_right (by simp;omega)]
      simp [show l.1.toNat - min l.1.toNat p.length=0 by omega]
     rw [h6]
     rcases hw with hw | hw
     ·omega
     ·exact jH h4 hw
   ·refine ⟨d,?_,by rw [zag h0 hl];omega,h3,?_⟩
    ·unfold nx
     rw [List.take_append_of_le_length (by simp;omega),List.take_take,Nat.min_eq_left (by omega)];exact h1
    ·have h6:(nx p l).getD d []=p.getD d []:=by
      unfold nx
      rw [List.getD_eq_getElem?_getD,List.getElem?_append_left (by simp;omega),List.getElem?_take_of_lt h5,List.getD_eq_getElem?_getD]
     rw [h6];exact h4
  obtain ⟨e,h5,h6,h7,h8⟩:=key
  intro x hx
  rcases List.mem_cons.1 hx with rfl | hx
  ·intro e1
   rw [e1,zbq] at h8;cases h8
  ·exact gone r (nx p l) q e hr h5 h6 h7 h8 x hx
theorem zdf: ∀ (r:List Ln) (p q:List Bs),rf p r=true→(∃ s,s≠[]∧p=q++s)→ ∀ x∈pths p r,x≠q:=by
 intro r
 induction r with
 | nil=>intro p q _ _ x hx;simp [pths] at hx
 | cons l r ih=>
  intro p q h ⟨s,hs,hp⟩ x hx
  rw [zaL] at h
  obtain ⟨hs1,hl1,hw1,hr1⟩:=h
  have h01:=(zJ.1 hs1).1
  rcases Nat.lt_or_ge l.1.toNat q.length with h1 | h1
  ·
   have hb:bl (q.getD l.1.toNat []) l.2.1=true:=by
    rcases hw1 with hw1 | hw1
    ·rw [hp] at hw1;simp at hw1;omega
    ·rw [hp,List.getD_eq_getElem?_getD,List.getElem?_append_left h1,← List.getD_eq_getElem?_getD] at hw1;exact hw1
   have h6:(nx p l).getD l.1.toNat []=l.2.1:=by
    unfold nx
    rw [List.getD_eq_getElem?_getD,List.getElem?_append_right (by simp;omega)]
    simp [show l.1.toNat - min l.1.toNat p.length=0 by omega]
   have htk:(nx p l).take l.1.toNat=q.take l.1.toNat:=by
    unfold nx
    rw [List.take_append_of_le_length (by simp;omega),List.take_take,Nat.min_self,hp,List.take_append_of_le_length (by omega)]
   rcases List.mem_cons.1 hx with rfl | hx
   ·intro e1;rw [e1] at h6;rw [h6,zbq] at hb;cases hb
   ·exact gone r (nx p l) q l.1.toNat hr1 htk (by rw [zag h01 hl1];omega) h1 (by rw [h6];exact hb) x hx
  ·have hnx: ∃ s,s≠[]∧nx p l=q++s:=by
    refine ⟨(s.take (l.1.toNat - q.length))++[l.2.1],by simp,?_⟩
    unfold nx
    rw [hp,List.take_append,List.take_of_length_le h1,List.append_assoc]
   rcases List.mem_cons.1 hx with rfl | hx
   ·obtain ⟨s',hs',e⟩:=hnx
    intro e1;rw [e] at e1
    have:=congrArg List.length e1
    simp at this
    exact hs' this
   ·exact ih (nx p l) q hr1 hnx x hx
theorem zdN: ∀ (r:List Ln) (p:List Bs),rf p r=true→(pths p r).Nodup
 | [],_,_=>List.nodup_nil
 | l::r,p,h=>by
  have h' :=h
  rw [zaL] at h
  obtain ⟨hs,hl,hw,hr⟩:=h
  have h0:=(zJ.1 hs).1
  refine List.nodup_cons.2 ⟨fun hm=> ?_,zdN r _ hr⟩
  cases r with
  | nil=>simp [pths] at hm
  | cons l2 r=>
   rw [zaL] at hr
   obtain ⟨hs2,hl2,hw2,hr2⟩:=hr
   have h02:=(zJ.1 hs2).1
   have hn:=zag h0 hl
   by_cases hdp:l2.1=((nx p l).length:Int)
   ·have hm' :nx p l∈pths (nx p l) (l2::r):=hm
    rcases List.mem_cons.1 hm' with e | hm2
    ·have:=congrArg List.length e
     rw [zag h02 hl2,hn] at this
     omega
    ·refine zdf r (nx (nx p l) l2) (nx p l) hr2 ⟨[l2.2.1],by simp,?_⟩ _ hm2 rfl
     show (nx p l).take l2.1.toNat++[l2.2.1]=_
     rw [List.take_of_length_le (by omega)]
   ·have hlt:l2.1.toNat<(nx p l).length:=by omega
    have hw2:bl ((nx p l).getD l2.1.toNat []) l2.2.1=true:=hw2.resolve_left hdp
    have h6:(nx (nx p l) l2).getD l2.1.toNat []=l2.2.1:=by
     show ((nx p l).take l2.1.toNat++[l2.2.1]).getD _ _=_
     rw [List.getD_eq_getElem?_getD,List.getElem?_append_right (by simp;omega)]
     simp [show l2.1.toNat - min l2.1.toNat (nx p l).length=0 by omega]
    have htk:(nx (nx p l) l2).take l2.1.toNat=(nx p l).take l2.1.toNat:=by
     show ((nx p l).take l2.1.toNat++[l2.2.1]).take _=_
     rw [List.take_append_of_le_length (by simp;omega),List.take_take,Nat.min_self]
    have hm' :nx p l∈pths (nx p l) (l2::r):=hm
    rcases List.mem_cons.1 hm' with e | hm2
    ·rw [← e] at h6;rw [h6,zbq] at hw2;cases hw2
    ·exact gone r (nx (nx p l) l2) (nx p l) l2.1.toNat hr2 htk (by rw [zag h02 hl2];omega) hlt (by rw [h6];exact hw2) _ hm2 rfl
end
end Go.Proofs.YthcmfnkganacaaaGreatDoor.Vc
namespace Go.Proofs
open Go.Shelf
def Tryz.sortE_ren:Go.Shelf.Ren:=⟨fun | 6=>70 | 15=>133 | 14=>132 | 28=>212 | 29=>213 | 20=>204 | 21=>205 | 22=>206 | 23=>207 | 24=>208 | 25=>209 | 26=>210 | 27=>211 | 46=>313 | 47=>314 | 48=>315 | 49=>316 | 50=>317 | 57=>381 | n=>n,fun | 22=>26 | 24=>79 | 25=>145 | 3=>3 | 39=>220 | 0=>0 | 53=>23 | 55=>304 | 4=>4 | 46=>297 | 45=>296 | 50=>138 | 5=>5 | 9=>9 | 66=>387 | 70=>391 | 76=>445 | 77=>32 | n=>n,fun | n=>n⟩
theorem Tryz.sortE:Go.Proofs.SlLaysF0.n6 Tryz.prog Tryz.sortE_ren:={
 mixed:=by kernel_rfl
 f6:=⟨Tryz.f70.name,by decide,Tryz.func70.trans (congrArg some (by kernel_rfl))⟩
 f14:=⟨Tryz.f132.name,by decide,Tryz.func132.trans (congrArg some (by kernel_rfl))⟩
 f15:=Tryz.func133.trans (congrArg some (by kernel_rfl))
 f20:=⟨Tryz.f204.name,by decide,Tryz.func204.trans (congrArg some (by kernel_rfl))⟩
 f21:=⟨Tryz.f205.name,by decide,Tryz.func205.trans (congrArg some (by kernel_rfl))⟩
 f22:=⟨Tryz.f206.name,by decide,Tryz.func206.trans (congrArg some (by kernel_rfl))⟩
 f23:=⟨Tryz.f207.name,by decide,Tryz.func207.trans (congrArg some (by kernel_rfl))⟩
 f24:=⟨Tryz.f208.name,by decide,Tryz.func208.trans (congrArg some (by kernel_rfl))⟩
 f25:=⟨Tryz.f209.name,by decide,Tryz.func209.trans (congrArg some (by kernel_rfl))⟩
 f26:=⟨Tryz.f210.name,by decide,Tryz.func210.trans (congrArg some (by kernel_rfl))⟩
 f27:=⟨Tryz.f211.name,by decide,Tryz.func211.trans (congrArg some (by kernel_rfl))⟩
 f28:=Tryz.func212.trans (congrArg some (by kernel_rfl))
 f29:=Tryz.func213.trans (congrArg some (by kernel_rfl))
 f46:=⟨Tryz.f313.name,by decide,Tryz.func313.trans (congrArg some (by kernel_rfl))⟩
 f47:=Tryz.func314.trans (congrArg some (by kernel_rfl))
 f48:=Tryz.func315.trans (congrArg some (by kernel_rfl))
 f49:=⟨Tryz.f316.name,by decide,Tryz.func316.trans (congrArg some (by kernel_rfl))⟩
 f50:=⟨Tryz.f317.name,by decide,Tryz.func317.trans (congrArg some (by kernel_rfl))⟩
 f57:=⟨Tryz.f381.name,by decide,Tryz.func381.trans (congrArg some (by kernel_rfl))⟩
 t0:=Tryz.underlying0
 a0:=Tryz.isAgg0
 z0:=Tryz.sizeOf0
 v0:=Tryz.zeroValue0
 t3:=Tryz.underlying3
 a3:=Tryz.isAgg3
 z3:=Tryz.sizeOf3
 v3:=Tryz.zeroValue3
 t4:=Tryz.underlying4
 a4:=Tryz.isAgg4
 z4:=Tryz.sizeOf4
 v4:=Tryz.zeroValue4
 t5:=Tryz.underlying5
 a5:=Tryz.isAgg5
 z5:=Tryz.sizeOf5
 v5:=Tryz.zeroValue5
 t9:=Tryz.underlying9
 a9:=Tryz.isAgg9
 z9:=Tryz.sizeOf9
 v9:=Tryz.zeroValue9
 t22:=Tryz.underlying26
 a22:=Tryz.isAgg26
 z22:=Tryz.sizeOf26
 v22:=Tryz.zeroValue26
 t25:=Tryz.underlying145
 a25:=Tryz.isAgg145
 z25:=Tryz.sizeOf145
 v25:=Tryz.zeroValue145
 t39:=Tryz.underlying220
 a39:=Tryz.isAgg220
 z39:=Tryz.sizeOf220
 v39:=Tryz.zeroValue220
 t45:=Tryz.underlying296
 a45:=Tryz.isAgg296
 z45:=Tryz.sizeOf296
 v45:=Tryz.zeroValue296
 t46:=Tryz.underlying297
 a46:=Tryz.isAgg297
 z46:=Tryz.sizeOf297
 v46:=Tryz.zeroValue297
 t50:=Tryz.underlying138
 a50:=Tryz.isAgg138
 z50:=Tryz.sizeOf138
 v50:=Tryz.zeroValue138
 t53:=Tryz.underlying23
 a53:=Tryz.isAgg23
 z53:=Tryz.sizeOf23
 v53:=Tryz.zeroValue23
 t55:=Tryz.underlying304
 a55:=Tryz.isAgg304
 z55:=Tryz.sizeOf304
 v55:=Tryz.zeroValue304
 t66:=Tryz.underlying387
 a66:=Tryz.isAgg387
 z66:=Tryz.sizeOf387
 v66:=Tryz.zeroValue387
 t70:=Tryz.underlying391
 a70:=Tryz.isAgg391
 z70:=Tryz.sizeOf391
 v70:=Tryz.zeroValue391
 t76:=Tryz.underlying445
 a76:=Tryz.isAgg445
 z76:=Tryz.sizeOf445
 v76:=Tryz.zeroValue445
 t77:=Tryz.underlying32
 a77:=Tryz.isAgg32
 z77:=Tryz.sizeOf32
 v77:=Tryz.zeroValue32 }
end Go.Proofs
namespace Go.Proofs.YthcmfnkganacaaaGreatDoor.Vc
open Go.RowKit Go.Proofs Go.Sort
theorem zhU (x y:Bs):bl x y=true∨x=y∨bl y x=true:=by
 have:=zhn x y
 cases h:bl y x with
 | true=>exact .inr (.inr rfl)
 | false=>
  rw [show Op.bytesLess y x=false from h] at this
  simp only [Bool.not_false,Bool.or_eq_true,beq_iff_eq] at this
  rcases this with h | h
  ·exact .inl h
  ·exact .inr (.inl h)
theorem zp7: ∀ a b:Bs,Lib.compareBytes a b=if bl a b=true then -1 else if bl b a=true then 1 else 0
 | [],[]=>rfl
 | [],_::_=>rfl
 | _::_,[]=>rfl
 | a::x,b::y=>by
  have ih:=zp7 x y
  show (if a<b then (-1:Int) else if b<a then 1 else Lib.compareBytes x y)=_
  have e1:bl (a::x) (b::y)=(decide (a<b)||(a==b&&bl x y)):=rfl
  have e2:bl (b::y) (a::x)=(decide (b<a)||(b==a&&bl y x)):=rfl
  rw [e1,e2,ih]
  by_cases h1:a<b
  ·simp [h1]
  ·by_cases h2:b<a
   ·have hne:a≠b:=fun e=>h1 (by rw [e] at h2 ⊢;exact h2)
    have hne' :b≠a:=fun e=>hne e.symm
    simp [h1,h2,hne]
   ·have hab:a=b:=by
     rw [UInt8.lt_iff_toNat_lt] at h1 h2
     exact UInt8.toNat_inj.1 (by omega)
    subst hab
    simp [h1]
abbrev tEn:Ty:= .pair tS (.pair tI (.pair tS tS))
abbrev En:=Bs×Int×Bs×Bs
def encE (x:En):List Value:=[.string ⟨x.1.toArray⟩,.int .i64 x.2.1,.string ⟨x.2.2.1.toArray⟩,.string ⟨x.2.2.2.toArray⟩]
theorem znb (x:En):(encE x).length=4:=rfl
theorem znc (x:En): ∀ v∈encE x,v.oneCell' =true:=fun v hv=>by
 simp only [encE,List.mem_cons,List.not_mem_nil,or_false] at hv
 rcases hv with rfl | rfl | rfl | rfl<;>rfl
theorem zkR {s:ByteArray} {l:Bs} (h:s.data.toList=l):s=⟨l.toArray⟩:=by
 subst h
 cases s
 rfl
theorem zsy {w:World} {F:Nat→Prop} {x:En} {cs:List Value}:RV w F tEn x cs↔cs=encE x:=by
 constructor
 ·rintro ⟨c1,c2,rfl,⟨s1,rfl,h1⟩,d1,d2,rfl,hd,e1,e2,rfl,⟨s2,rfl,h2⟩,s3,rfl,h3⟩
  have hd:d1=[Value.int .i64 x.2.1]:=hd
  subst hd
  rw [zkR h1,zkR h2,zkR h3]
  rfl
 ·rintro rfl
  exact ⟨[_],[_,_,_],rfl,⟨_,rfl,by simp⟩,[_],[_,_],rfl,rfl,[_],[_],rfl,⟨_,rfl,by simp⟩,_,rfl,by simp⟩
def or4 (a b c d:Int):Int:=if a≠0 then a else if b≠0 then b else if c≠0 then c else d
def cmpE (x y:En):Int:=or4 (Lib.compareBytes x.1 y.1) (Lib.compareInt x.2.1 y.2.1) (Lib.compareBytes x.2.2.1 y.2.2.1) (Lib.compareBytes x.2.2.2 y.2.2.2)
set_option maxHeartbeats 4000000 in
theorem or_w (g:Nat) (a b c d:Int) (w:World) (h0:w.cell? ⟨g,0,none⟩=some (.int .i64 a)) (h1:w.cell? ⟨g,1,none⟩=some (.int .i64 b)) (h2:w.cell? ⟨g,2,none⟩=some (.int .i64 c)) (h3:w.cell? ⟨g,3,none⟩=some (.int .i64 d)):
  Calls Tryz.prog 134 #[.slice (some ⟨g,0,none⟩) 4 4] w fun e w' =>e= .returned (.int .i64 (or4 a b c d))∧w' =w:=by
 have mixed:=mixed
 by_cases ha:a=0
 ·by_cases hb:b=0
  ·by_cases hc:c=0
   ·by_cases hd:d=0
    ·subst ha;subst hb;subst hc;subst hd
     go_enter Tryz.func134,Tryz.ntmps134
     go_wp2
     refine wp_loop_rounds 5 ?_
     repeat any_goals (rw [rounds_succ];go_wp2)
     go_ret
     exact ⟨rfl,rfl⟩
    ·subst ha;subst hb;subst hc
     have e:or4 0 0 0 d=d:=rfl
     rw [e]
     go_enter Tryz.func134,Tryz.ntmps134
     go_wp2
     refine wp_loop_rounds 5 ?_
     repeat any_goals (rw [rounds_succ];go_wp2)
     go_ret
     exact ⟨rfl,rfl⟩
   ·subst ha;subst hb
    have e:or4 0 0 c d=c:=by unfold or4;rw [if_neg (by simp),if_neg (by simp),if_pos hc]
    rw [e]
    go_enter Tryz.func134,Tryz.ntmps134
    go_wp2
    refine wp_loop_rounds 5 ?_
    repeat any_goals (rw [rounds_succ];go_wp2)
    go_ret
    exact ⟨rfl,rfl⟩
  ·subst ha
   have e:or4 0 b c d=b:=by unfold or4;rw [if_neg (by simp),if_pos hb]
   rw [e]
   go_enter Tryz.func134,Tryz.ntmps134
   go_wp2
   refine wp_loop_rounds 5 ?_
   repeat any_goals (rw [rounds_succ];go_wp2)
   go_ret
   exact ⟨rfl,rfl⟩
 ·have e:or4 a b c d=a:=by unfold or4;rw [if_pos ha]
  rw [e]
  go_enter Tryz.func134,Tryz.ntmps134
  go_wp2
  refine wp_loop_rounds 5 ?_
  repeat any_goals (rw [rounds_succ];go_wp2)
  go_ret
  exact ⟨rfl,rfl⟩
theorem yM (w:World) (a:Addr):w.drew.cell? a=w.cell? a:=rfl
theorem zgw {P:Program} {id:Nat} {Q:Exit→Act→World→Prop} {a:Act} {w:World} {l:List Oper} (n:Nat) (hm:P.follows .mixedOrders=true) (hB:Region.lexTailB .any l.toArray n=true) (W:World) (hW:w.drew=W)
  (h:wpStill P l.toArray W (fun a' =>wpList P l.toArray Q (l.drop n) a' W) (l.take n) a):(Code.region id l.toArray true).wp P Q a w:=by
 subst hW
 exact wp_region_still_tail n hm hB h
set_option maxHeartbeats 4000000 in
theorem zp8 (a1 a2 a3 b1 b2 b3:ByteArray) (m n:Int) (w:World):Calls Tryz.prog 71 #[.agg #[.string a1,.int .i64 m,.string a2,.string a3],.agg #[.string b1,.int .i64 n,.string b2,.string b3]] w fun e w' =>
  e= .returned (.int .i64 (or4 (Lib.compareBytes a1.data.toList b1.data.toList) (Lib.compareInt m n) (Lib.compareBytes a2.data.toList b2.data.toList) (Lib.compareBytes a3.data.toList b3.data.toList)))∧ ∃ q os',w' =grow (w.drewN q) os' :=by
 have mixed:=mixed
 have k1:=fun (w:World)=>Tryz.strings_Compare a1 b1 w
 have k2:=fun (w:World)=>Tryz.cmp_Compare_int m n w
 have k3:=fun (w:World)=>Tryz.strings_Compare a2 b2 w
 have k4:=fun (w:World)=>Tryz.strings_Compare a3 b3 w
 generalize Lib.compareBytes a1.data.toList b1.data.toList=c1 at k1 ⊢
 generalize Lib.compareInt m n=c2 at k2 ⊢
 generalize Lib.compareBytes a2.data.toList b2.data.toList=c3 at k3 ⊢
 generalize Lib.compareBytes a3.data.toList b3.data.toList=c4 at k4 ⊢
 go_enter Tryz.func71,Tryz.ntmps71
 go_wp2
 obtain ⟨W,hW⟩: ∃ W,((w.alloc (.cells #[.string a1,.int .i64 m,.string a2,.string a3] 79)).alloc (.cells #[.string b1,.int .i64 n,.string b2,.string b3] 79)).drew=W:=⟨_,rfl⟩
 have x0:W.cell? ⟨w.heap.size,0,none⟩=some (.string a1):=by rw [← hW,yM];simp
 have x1:W.cell? ⟨w.heap.size,1,none⟩=some (.int .i64 m):=by rw [← hW,yM];simp
 have x2:W.cell? ⟨w.heap.size,2,none⟩=some (.string a2):=by rw [← hW,yM];simp
 have x3:W.cell? ⟨w.heap.size,3,none⟩=some (.string a3):=by rw [← hW,yM];simp
 have y0:W.cell? ⟨w.heap.size+1,0,none⟩=some (.string b1):=by rw [← hW,yM];simp
 have y1:W.cell? ⟨w.heap.size+1,1,none⟩=some (.int .i64 n):=by rw [← hW,yM];simp
 have y2:W.cell? ⟨w.heap.size+1,2,none⟩=some (.string b2):=by rw [← hW,yM];simp
 have y3:W.cell? ⟨w.heap.size+1,3,none⟩=some (.string b3):=by rw [← hW,yM];simp
 refine zgw 20 (by assumption) (by kernel_rfl) W hW ?_
 have HW:Aside _:=hW
 clear hW
 simp only [List.take_succ_cons,List.take_zero,List.drop_succ_cons,List.drop_zero]
 repeat (first | still_step | still_call (k1 _) | still_call (k2 _) | still_call (k3 _) | still_call (k4 _))
 refine wpStill_nil ?_
 go_wp2_with (go_at_call 134;refine (or_w _ c1 c2 c3 c4 _ (by simp) (by simp) (by simp) (by simp)).mono ?_;rintro e w' ⟨rfl,rfl⟩)
 go_ret
 refine ⟨rfl,1,#[.cells #[.string a1,.int .i64 m,.string a2,.string a3] 79,.cells #[.string b1,.int .i64 n,.string b2,.string b3] 79,.cells #[.int .i64 c1,.int .i64 c2,.int .i64 c3,.int .i64 c4] 3],?_⟩
 rw [← HW.out]
 simp only [alloc_eq_grow]
 show grow (grow (grow (w.drewN 1) _) _) _=_
 rw [grow_grow,grow_grow]
 rfl
theorem zsz (x y:En) (w:World):Calls Tryz.prog 71 #[.agg (encE x).toArray,.agg (encE y).toArray] w fun e w' =>e= .returned (.int .i64 (cmpE x y))∧ ∃ q os',w' =grow (w.drewN q) os' :=by
 have h:=zp8 ⟨x.1.toArray⟩ ⟨x.2.2.1.toArray⟩ ⟨x.2.2.2.toArray⟩ ⟨y.1.toArray⟩ ⟨y.2.2.1.toArray⟩ ⟨y.2.2.2.toArray⟩ x.2.1 y.2.1 w
 exact h
def ahd (x y:En):Bool:=bl x.1 y.1||(decide (x.1=y.1)&&(decide (x.2.1<y.2.1)||(decide (x.2.1=y.2.1)&&(bl x.2.2.1 y.2.2.1||(decide (x.2.2.1=y.2.2.1)&&bl x.2.2.2 y.2.2.2)))))
theorem zp9 (a b:Bs):Lib.compareBytes a b=0↔a=b:=by
 rw [zp7]
 constructor
 ·intro h
  rcases zhU a b with h1 | h1 | h1
  ·rw [if_pos h1] at h;cases h
  ·exact h1
  ·rw [if_neg (by rw [show bl a b=false from zmH h1];simp),if_pos h1] at h;cases h
 ·rintro rfl
  rw [zbq];rfl
theorem zkS (a b:Bs):Lib.compareBytes a b<0↔bl a b=true:=by
 rw [zp7]
 cases h:bl a b with
 | true=>simp
 | false=>cases h2:bl b a<;>simp
theorem zqa (a b:Int):Lib.compareInt a b=0↔a=b:=by
 unfold Lib.compareInt
 split
 ·omega
 ·split<;>omega
theorem zsA (a b:Int):Lib.compareInt a b<0↔a<b:=by
 unfold Lib.compareInt
 split
 ·omega
 ·split<;>omega
theorem zkT (x y:En):Go.Proofs.ltOf cmpE x y=ahd x y:=by
 rw [Bool.eq_iff_iff]
 unfold Go.Proofs.ltOf cmpE or4 ahd
 simp only [decide_eq_true_eq,Bool.or_eq_true,Bool.and_eq_true,ne_eq,zp9,zqa]
 by_cases h1:x.1=y.1
 ·rw [if_neg (by simpa using h1)]
  by_cases h2:x.2.1=y.2.1
  ·rw [if_neg (by simpa using h2)]
   by_cases h3:x.2.2.1=y.2.2.1
   ·rw [if_neg (by simpa using h3),zkS]
    simp [h1,h2,h3,zbq]
   ·rw [if_pos h3,zkS]
    simp [h1,h2,h3,zbq]
  ·rw [if_pos h2,zsA]
   simp [h1,h2,zbq]
 ·rw [if_pos h1,zkS]
  simp [h1]
theorem zgx (x:En):ahd x x=false:=by simp [ahd,zbq]
theorem zeB {x y:En}:ahd x y=true↔bl x.1 y.1=true∨(x.1=y.1∧(x.2.1<y.2.1∨(x.2.1=y.2.1∧(bl x.2.2.1 y.2.2.1=true∨(x.2.2.1=y.2.2.1∧bl x.2.2.2 y.2.2.2=true))))):=by
 unfold ahd
 simp only [decide_eq_true_eq,Bool.or_eq_true,Bool.and_eq_true]
theorem zbs {x y z:En} (h1:ahd x y=true) (h2:ahd y z=true):ahd x z=true:=by
 rw [zeB] at *
 rcases h1 with h1 | ⟨e1,h1⟩
 ·rcases h2 with h2 | ⟨f1,h2⟩
  ·exact .inl (jH h1 h2)
  ·exact .inl (f1 ▸ h1)
 ·rcases h2 with h2 | ⟨f1,h2⟩
  ·exact .inl (e1 ▸ h2)
  ·refine .inr ⟨e1.trans f1,?_⟩
   rcases h1 with h1 | ⟨e2,h1⟩
   ·rcases h2 with h2 | ⟨f2,h2⟩
    ·exact .inl (by omega)
    ·exact .inl (by omega)
   ·rcases h2 with h2 | ⟨f2,h2⟩
    ·exact .inl (by omega)
    ·refine .inr ⟨e2.trans f2,?_⟩
     rcases h1 with h1 | ⟨e3,h1⟩
     ·rcases h2 with h2 | ⟨f3,h2⟩
      ·exact .inl (jH h1 h2)
      ·exact .inl (f3 ▸ h1)
     ·rcases h2 with h2 | ⟨f3,h2⟩
      ·exact .inl (e3 ▸ h2)
      ·exact .inr ⟨e3.trans f3,jH h1 h2⟩
theorem zeC (x y:En):ahd x y=true∨x=y∨ahd y x=true:=by
 rw [zeB,zeB]
 rcases zhU x.1 y.1 with h | h | h
 ·exact .inl (.inl h)
 ·rcases Int.lt_trichotomy x.2.1 y.2.1 with h2 | h2 | h2
  ·exact .inl (.inr ⟨h,.inl h2⟩)
  ·rcases zhU x.2.2.1 y.2.2.1 with h3 | h3 | h3
   ·exact .inl (.inr ⟨h,.inr ⟨h2,.inl h3⟩⟩)
   ·rcases zhU x.2.2.2 y.2.2.2 with h4 | h4 | h4
    ·exact .inl (.inr ⟨h,.inr ⟨h2,.inr ⟨h3,h4⟩⟩⟩)
    ·exact .inr (.inl (Prod.ext h (Prod.ext h2 (Prod.ext h3 h4))))
    ·exact .inr (.inr (.inr ⟨h.symm,.inr ⟨h2.symm,.inr ⟨h3.symm,h4⟩⟩⟩))
   ·exact .inr (.inr (.inr ⟨h.symm,.inr ⟨h2.symm,.inl h3⟩⟩))
  ·exact .inr (.inr (.inr ⟨h.symm,.inl h2⟩))
 ·exact .inr (.inr (.inl h))
theorem zqb:SWO (Go.Proofs.ltOf cmpE):=by
 have e:Go.Proofs.ltOf cmpE=ahd:=funext fun x=>funext fun y=>zkT x y
 rw [e]
 refine ⟨zgx,fun x y z h1 h2=>zbs h1 h2,fun x y z h1 h2=> ?_⟩
 cases h:ahd x z with
 | false=>rfl
 | true=>
  rcases zeC x y with h3 | rfl | h3
  ·rw [h1] at h3;cases h3
  ·rw [h2] at h;cases h
  ·rcases zeC y z with h4 | rfl | h4
   ·rw [h2] at h4;cases h4
   ·rw [h1] at h;cases h
   ·have:=zbs (zbs h4 h3) h;rw [zgx] at this;cases this
end Go.Proofs.YthcmfnkganacaaaGreatDoor.Vc
namespace Go.Proofs.YthcmfnkganacaaaGreatDoor.Vc
section
open Go.RowKit Go.Proofs Go.Sort
theorem zhV {w:World} {F:Nat→Prop} {xs:List En} {us:List Value} (h:Holds w F tEn xs us): ∀ i (hi:i<xs.length),∀ c v,(encE xs[i])[c]? =some v→us[i*4+c]? =some v:=fun i hi c v hc=>by
 have h1:=zsy.1 (h i xs[i] (List.getElem?_eq_getElem hi))
 have hw:tEn.width=4:=rfl
 rw [hw] at h1
 rw [← h1,List.getElem?_take] at hc
 split at hc
 ·rw [List.getElem?_drop] at hc;exact hc
 ·cases hc
theorem zcZ {w:World} {F:Nat→Prop} {xs:List En} {us:List Value} (h: ∀ i (hi:i<xs.length),∀ c v,(encE xs[i])[c]? =some v→us[i*4+c]? =some v):Holds w F tEn xs us:=fun i x hx=>by
 obtain ⟨hi,rfl⟩:=List.getElem?_eq_some_iff.1 hx
 rw [zsy]
 have hw:tEn.width=4:=rfl
 rw [hw]
 apply List.ext_getElem?
 intro c
 rw [List.getElem?_take]
 have h0:=h i hi
 by_cases hc:c<4
 ·rw [if_pos hc,List.getElem?_drop]
  have:(encE xs[i])[c]? =some ((encE xs[i])[c]'hc):=List.getElem?_eq_getElem hc
  rw [h0 c _ this,this]
 ·rw [if_neg hc,List.getElem?_eq_none (show (encE xs[i]).length≤c by show 4≤c;omega)]
theorem znd (d:Array En) (i c:Nat) (hi:i<d.size) (hc:c<4):(flatK encE 4 d)[i*4+c]! =(encE d[i]!)[c]! :=by
 rw [get_flatK encE 4 d (i*4+c) (by omega)]
 rw [show (i*4+c) / 4=i by omega,show (i*4+c) % 4=c by omega]
theorem zeD (x:En) (c:Nat) (v:Value) (h:(encE x)[c]? =some v):c<4∧(encE x)[c]! =v:=by
 obtain ⟨h1,h2⟩:=List.getElem?_eq_some_iff.1 h
 exact ⟨h1,by rw [getElem!_pos (encE x) c h1];exact h2⟩
theorem zne {d:List En} {us:Array Value} (hu:d.length*4≤us.size) (i:Nat) (hi:i<d.length) (c:Nat) (v:Value) (hc:(encE d[i])[c]? =some v):(putCells id 0 (flatK encE 4 d.toArray) us).toList[i*4+c]? =some v:=by
 obtain ⟨hc4,hcv⟩:=zeD _ c v hc
 rw [Array.getElem?_toList]
 have hiu:i*4+c<us.size:=by omega
 have hfl:i*4+c<(flatK encE 4 d.toArray).size:=by rw [size_flatK];simp;omega
 have h2:=znd d.toArray i c (by simpa using hi) hc4
 rw [getElem!_pos (flatK encE 4 d.toArray) (i*4+c) hfl,getElem!_pos d.toArray i (by simpa using hi)] at h2
 have h3:d.toArray[i]'(by simpa using hi)=d[i]:=by simp
 rw [h3,hcv] at h2
 simp only [putCells,id,Array.getElem?_mapIdx,Array.getElem?_eq_getElem hiu,Option.map_some]
 rw [if_pos ⟨Nat.zero_le _,by omega⟩,Nat.sub_zero,getElem!_pos (flatK encE 4 d.toArray) (i*4+c) hfl,h2]
theorem zkU {w:World} {b:Nat} {us:Array Value} {e:TypeId} (hh:w.heap[b]? =some (.cells us e (0,0))) {xs:List En} (h: ∀ i (hi:i<xs.length),∀ c v,(encE xs[i])[c]? =some v→us.toList[i*4+c]? =some v):HoldsK encE 4 w b 0 xs.toArray:=by
 intro t ht
 have ht' :t<xs.length*4:=by simpa using ht
 refine ⟨?_,by simp [World.frozen?,hh]⟩
 simp only [World.cell?,hh,Nat.zero_add,Option.isSome_none,Bool.false_eq_true,if_false]
 have hi:t / 4<xs.length:=by omega
 have hc:t % 4<(encE xs[t / 4]).length:=by show t % 4<4;omega
 have h1:=h (t / 4) hi (t % 4) _ (List.getElem?_eq_getElem hc)
 rw [show t / 4*4+t % 4=t by omega,Array.getElem?_toList] at h1
 rw [h1,get_flatK encE 4 xs.toArray t (by simpa using ht)]
 have e1:xs.toArray[t / 4]! =xs[t / 4]:=by rw [getElem!_pos xs.toArray (t / 4) (by simpa using hi)];simp
 rw [e1,getElem!_pos (encE xs[t / 4]) (t % 4) hc]
 rfl
theorem ziF (A:Option Addr) (c:Nat) (fv:Value) (w:World):Calls Tryz.prog 70 #[.slice A 0 c,fv] w fun en w' =>en= .returned (.tuple #[])∧w' =w:=by
 have hS:=AnyF.slices_SortFunc_none (P:=Tryz.prog) (ρ:=Tryz.sortE_ren) Tryz.sortE A c fv w
 change Calls Tryz.prog 70 _ _ _ at hS
 exact hS
theorem ziG (eg: ∀ args w,(callFunc 71 args).run Tryz.prog w= .ok (.enter 71 args) w) (blk cap:Nat) (d:Array En) (w:World) (hcmp:CmpLays Tryz.prog 71 #[] encE 4 cmpE blk 0 d.size w)
  (hH:HoldsK encE 4 w blk 0 d) (hblk:blk<w.heap.size) (hsz:d.size<4611686018427387904):
  Calls Tryz.prog 70 #[.slice (some ⟨blk,0,none⟩) d.size cap,.func (.func 71) #[] #[]] w fun en w' =>
   en= .returned (.tuple #[])∧ ∃ n os,w' =sortWorldK encE 4 w blk 0 n (d.toList.mergeSort fun x y=> !(Go.Proofs.ltOf cmpE) y x).toArray os:=by
 have hS:=AnyQ.slices_SortFunc_total (P:=Tryz.prog) (ρ:=Tryz.sortE_ren) Tryz.sortE 4 Tryz.isAgg79 Tryz.sizeOf79 encE znb znc cmpE zqb 71 #[] blk 0 cap d w eg hcmp hH hblk hsz (fun x y h1 h2=>by
  rw [zkT] at h1 h2
  rcases zeC x y with h3 | h3 | h3
  ·rw [h1] at h3;cases h3
  ·exact h3
  ·rw [h2] at h3;cases h3)
 change Calls Tryz.prog 70 _ _ _ at hS
 exact hS
def srtA (l:List En):List En:=l.mergeSort fun x y=> !ahd y x
noncomputable def zgy (_:Nat) (a0:List En):Option (List En):=if a0.length≤1000000000 then some (srtA a0) else none
theorem zqc (N:Nat) (xs:List En): ∀ r,zgy N xs=some r→
  zcq Tryz.prog 70 79 tEn xs [.fn (.func 71)] r (.tup []):=fun r h=>by
 unfold zgy at h
 split at h
 ·rename_i hlen
  cases h
  have hret: ∀ (w' :World) F2 M2,R w' F2 M2 (.tuple #[]) (.tup []):=fun w' F2 M2=>⟨#[],rfl,rfl,fun j d hj=>by simp at hj⟩
  refine ⟨zw (fn:=Tryz.f70) rfl rfl rfl,fun w v0 vs F G0 hF hgl hown hsz hargs=> ?_⟩
  obtain ⟨vc,hvc⟩: ∃ vc,vs= #[vc]:=by
   have h1:vs.size=1:=by simpa using hsz
   refine ⟨vs[0],Array.ext (by simp [h1]) fun i h2 h3=> ?_⟩
   have:i=0:=by omega
   subst this;rfl
  subst hvc
  obtain ⟨vc',hvc1,hvc2⟩:=hargs 0 _ rfl
  have hvc3:vc' =vc:=by simpa using hvc1.symm
  subst hvc3
  have hv' :vc' = .func (.func 71) #[] #[]:=hvc2
  subst hv'
  rcases hown with ⟨hx,hG,A,rfl⟩ | ⟨b,cap,us,hG,hB,rfl,hh,hle,hcap,hus,hH⟩
  ·refine (ziF A 0 _ w).mono ?_
   rintro en w' ⟨rfl,rfl⟩
   exact ⟨_,F,rfl,⟨rfl,rfl,rfl,Nat.le_refl _,fun _ _ _=>rfl⟩,fun _ h=>h,fun k hk=>⟨hF k hk,.inl hk⟩,hret _,.inl ⟨by rw [hx];simp [srtA],hG,A,rfl⟩⟩
  ·have hw4:tEn.width=4:=rfl
   rw [hw4] at hus
   have hlt:b<w.heap.size:=(Array.getElem?_eq_some_iff.1 hh).1
   have hne: ¬F b:=hB.2
   have hcells:=zhV hH
   have hds:xs.toArray.size=xs.length:=by simp
   have hK:HoldsK encE 4 w b 0 xs.toArray:=zkU hh hcells
   have hC:=ziG (zw (fn:=Tryz.f71) rfl rfl rfl) b cap xs.toArray w (fun m os dk hs x y=>by
    refine (zsz x y _).mono ?_
    rintro e w' ⟨rfl,h⟩
    exact ⟨rfl,h⟩) hK hlt (by rw [hds];omega)
   rw [hds] at hC
   refine Calls.mono hC ?_
   rintro en w' ⟨rfl,n,os,rfl⟩
   have hsrt:(xs.toArray.toList.mergeSort fun x y=> !(Go.Proofs.ltOf cmpE) y x)=srtA xs:=by
    unfold srtA
    congr 1
    funext x y
    rw [zkT]
   rw [hsrt]
   have hsl:(srtA xs).length=xs.length:=by simp [srtA]
   have e:sortWorldK encE 4 w b 0 n (srtA xs).toArray os=sortWorld id w b 0 n (flatK encE 4 (srtA xs).toArray) os:=rfl
   rw [e]
   have hgr:w.grownBy (sortWorld id w b 0 n (flatK encE 4 (srtA xs).toArray) os) (some b):=zex id _
   refine ⟨_,F,rfl,by rw [hG];exact hgr,fun _ h=>h,fun k hk=>⟨Nat.lt_of_lt_of_le (hF k hk) hgr.size,.inl hk⟩,hret _,.inr ⟨b,cap,_,hG,trivial,by rw [hsl],ziE id _ hh,by rw [hsl];exact hle,hcap,by simp [putCells,hus,hw4],zcZ fun i hi c v hc=> ?_⟩⟩
   exact zne (by rw [hus,hsl];omega) i hi c v hc
 ·cases h
end
section
open Go.RowKit Go.Proofs Go.Lib Go.Sort
structure RowE (w:World) (b cap n:Nat) (d:Nat→En) (W:World):Prop where
 gr:w.grownBy W (some b)
 row: ∃ us:Array Value,W.heap[b]? =some (.cells us 79 (0,0))∧us.size=cap*4∧ ∀ i,i<n→ ∀ c v,(encE (d i))[c]? =some v→us.toList[i*4+c]? =some v
section
variable {w W:World} {b cap n:Nat} {d:Nat→En}
theorem RowE.drewN (h:RowE w b cap n d W) (q:Nat):RowE w b cap n d (W.drewN q):=⟨⟨h.gr.os,h.gr.tape,h.gr.output,h.gr.size,h.gr.block⟩,h.row⟩
theorem RowE.below (h:RowE w b cap n d W) (hb:b<w.heap.size) {W' :World} (hB:Below W.heap.size W W'):RowE w b cap n d W' :=by
 obtain ⟨us,h1,h2,h3⟩:=h.row
 have hbW:b<W.heap.size:=(Array.getElem?_eq_some_iff.1 h1).1
 exact ⟨⟨hB.os.trans h.gr.os,hB.tape.trans h.gr.tape,hB.output.trans h.gr.output,Nat.le_trans h.gr.size hB.size,fun k hk hne=>(hB.block k (Nat.lt_of_lt_of_le hk h.gr.size)).trans (h.gr.block k hk hne)⟩,us,(hB.block b hbW).trans h1,h2,h3⟩
theorem RowE.cell (h:RowE w b cap n d W) {i:Nat} (hi:i<n):W.cell? ⟨b,i*4,none⟩=some (.string ⟨(d i).1.toArray⟩)∧W.cell? ⟨b,i*4+1,none⟩=some (.int .i64 (d i).2.1)∧
  W.cell? ⟨b,i*4+2,none⟩=some (.string ⟨(d i).2.2.1.toArray⟩)∧W.cell? ⟨b,i*4+3,none⟩=some (.string ⟨(d i).2.2.2.toArray⟩):=by
 obtain ⟨us,h1,h2,h3⟩:=h.row
 have hc: ∀ k,W.cell? ⟨b,k,none⟩=us.toList[k]? :=fun k=>by simp [World.cell?,h1]
 refine ⟨?_,?_,?_,?_⟩
 ·rw [hc];exact h3 i hi 0 _ rfl
 ·rw [hc];exact h3 i hi 1 _ rfl
 ·rw [hc];exact h3 i hi 2 _ rfl
 ·rw [hc];exact h3 i hi 3 _ rfl
theorem RowE.frozen (h:RowE w b cap n d W) (k:Nat):W.frozen? ⟨b,k,none⟩=false:=by
 obtain ⟨us,h1,h2,h3⟩:=h.row
 simp [World.frozen?,h1]
end
theorem RowE.alloc {w W:World} {b cap n:Nat} {d:Nat→En} (h:RowE w b cap n d W) (o:Obj):RowE w b cap n d (W.alloc o):=by
 obtain ⟨us,h1,h2,h3⟩:=h.row
 have hbW:b<W.heap.size:=(Array.getElem?_eq_some_iff.1 h1).1
 exact ⟨⟨h.gr.os,h.gr.tape,h.gr.output,Nat.le_trans h.gr.size (by simp),fun k hk hne=>(Below.heap_alloc W o k (Nat.lt_of_lt_of_le hk h.gr.size)).trans (h.gr.block k hk hne)⟩,us,(Below.heap_alloc W o b hbW).trans h1,h2,h3⟩
theorem jK {W:World} {b k:Nat} {us:Array Value} {e:TypeId} {fr:Nat×Nat} (h:W.heap[b]? =some (.cells us e fr)) (v:Value):(W.setCell ⟨b,k,none⟩ v).heap[b]? =some (.cells (us.setIfInBounds k v) e fr):=by
 simp only [World.setCell,Array.getElem?_modify,if_true,h,Option.map_some,Option.isSome_none,Bool.false_eq_true,if_false]
theorem RowE.set4 {w W:World} {b cap n i:Nat} {d:Nat→En} (h:RowE w b cap n d W) (hi:i<n) (hn:n≤cap) (x:En):
  RowE w b cap n (fun t=>if t=i then x else d t) ((((W.setCell ⟨b,i*4,none⟩ (.string ⟨x.1.toArray⟩)).setCell ⟨b,i*4+1,none⟩ (.int .i64 x.2.1)).setCell ⟨b,i*4+2,none⟩ (.string ⟨x.2.2.1.toArray⟩)).setCell ⟨b,i*4+3,none⟩ (.string ⟨x.2.2.2.toArray⟩)):=by
 obtain ⟨us,h1,h2,h3⟩:=h.row
 have hs: ∀ (W:World) k v,W.heap.size=(W.setCell ⟨b,k,none⟩ v).heap.size:=fun W k v=>by simp [World.setCell]
 refine ⟨⟨h.gr.os,h.gr.tape,h.gr.output,?_,fun k hk hne=> ?_⟩,_,jK (jK (jK (jK h1 _) _) _) _,by simp [h2],fun t ht c v hc=> ?_⟩
 ·rw [← hs,← hs,← hs,← hs];exact h.gr.size
 ·have hkb:k≠b:=fun e=>hne (by rw [e])
  rw [Below.heap_setCell _ _ _ _ hkb,Below.heap_setCell _ _ _ _ hkb,Below.heap_setCell _ _ _ _ hkb,Below.heap_setCell _ _ _ _ hkb]
  exact h.gr.block k hk hne
 ·obtain ⟨hc4,_⟩:=zeD _ c v hc
  rw [Array.getElem?_toList]
  simp only [Array.getElem?_setIfInBounds,Array.size_setIfInBounds]
  by_cases e:t=i
  ·subst e
   simp only [if_true] at hc
   have hu:t*4+3<us.size:=by omega
   rcases (show c=0∨c=1∨c=2∨c=3 by omega) with rfl | rfl | rfl | rfl
   ·rw [if_neg (by omega),if_neg (by omega),if_neg (by omega),if_pos (show t*4=t*4+0 by omega),if_pos (by omega)];exact hc
   ·rw [if_neg (by omega),if_neg (by omega),if_pos rfl,if_pos (by omega)];exact hc
   ·rw [if_neg (by omega),if_pos rfl,if_pos (by omega)];exact hc
   ·rw [if_pos rfl,if_pos (by omega)];exact hc
  ·rw [if_neg e] at hc
   rw [if_neg (by omega),if_neg (by omega),if_neg (by omega),if_neg (by omega),← Array.getElem?_toList]
   exact h3 t ht c v hc
theorem ziH {P:Program} {w:World} (t ty elem:TypeId) (z:Value) (g o n c:Nat) (us:Array Value) (T:TypeId) (hu:P.underlying t=some (.slice elem)) (hz:P.info? elem >>= (·.zero)=some z) (hg:w.heap[g]? =some (.cells us T (0,0))) (hn:0<n)
  (hfit:o+(Builtin.zeroCells z.cells n).size≤us.size) (h1: ∀ v∈(Builtin.zeroCells z.cells n).toList,v.oneCell' =true):
  (Builtin.clear_ #[t] ty #[.slice (some ⟨g,o,none⟩) n c]).run P w= .ok (.tuple #[]) (w.setRow g (us.toList.take o++(Builtin.zeroCells z.cells n).toList++us.toList.drop (o+(Builtin.zeroCells z.cells n).toList.length)).toArray):=by
 have hst:=run_storeCells_at P g o T (Builtin.zeroCells z.cells n).toList 0 us w hg (by simpa using hfit) h1
 obtain ⟨k,rfl⟩: ∃ k,n=k+1:=⟨n - 1,by omega⟩
 cases hq:P.info? elem with
 | none=>simp [hq] at hz
 | some i=>
  have hi:i.zero=some z:=by simpa [hq] using hz
  simp only [Nat.add_zero] at hst
  simp [Builtin.clear_,run_underlying hu,zeroValue,typeInfo,hq,hi,hst]
theorem RowE.clear {w W:World} {b cap n i:Nat} {d:Nat→En} (h:RowE w b cap n d W) (hi:i<n) (hn:n≤cap):
  ∃ W',(∀ ty,(Builtin.clear_ #[26] ty #[.slice (some ⟨b,i*4,none⟩) (n - i) (cap - i)]).run Tryz.prog W= .ok (.tuple #[]) W')∧RowE w b cap i d W' :=by
 obtain ⟨us,h1,h2,h3⟩:=h.row
 obtain ⟨q,hq,z,hz,hzs,hz1⟩: ∃ q:TypeInfo,Tryz.prog.info? 79=some q∧ ∃ z,q.zero=some z∧z.cells.size=4∧ ∀ v∈z.cells,v.oneCell' =true:=
  ⟨_,rfl,_,rfl,rfl,fun v hv=>by
   have hv:v∈[Value.string ByteArray.empty,Value.int .i64 0,Value.string ByteArray.empty,Value.string ByteArray.empty]:=Array.mem_def.1 hv
   simp only [List.mem_cons,List.not_mem_nil,or_false] at hv
   rcases hv with rfl | rfl | rfl | rfl<;>rfl⟩
 have hzl:(Builtin.zeroCells z.cells (n - i)).size=(n - i)*4:=by rw [size_zeroCells,hzs]
 refine ⟨_,fun ty=>ziH (w:=W) 26 ty 79 z b (i*4) (n - i) (cap - i) us 79 Tryz.underlying26 (by rw [hq];exact hz) h1 (by omega) (by rw [hzl];omega) (zcd hz1 _),⟨⟨h.gr.os,h.gr.tape,h.gr.output,by simpa using h.gr.size,fun k hk hne=> ?_⟩,_,setRow_heap W b us _ _ _ h1,?_,fun t ht c v hc=> ?_⟩⟩
 ·rw [setRow_other W b k _ (fun e=>hne (by rw [e]))]
  exact h.gr.block k hk hne
 ·simp only [List.size_toArray,List.length_append,List.length_take,List.length_drop,Array.length_toList,hzl]
  omega
 ·obtain ⟨hc4,_⟩:=zeD _ c v hc
  have:=h3 t (by omega) c v hc
  have hul:us.toList.length=cap*4:=by rw [Array.length_toList];exact h2
  show (us.toList.take (i*4)++_++_)[t*4+c]? =_
  rw [List.append_assoc,List.getElem?_append_left (by rw [List.length_take];omega),List.getElem?_take,if_pos (by omega)]
  exact this
theorem filter_all (p:En→Bool) (l:List En) (h: ∀ j,j<l.length→p l[j]! =false):(l.filter fun x=> !p x)=l:=by
 rw [List.filter_eq_self]
 intro x hx
 obtain ⟨j,hj,rfl⟩:=List.getElem_of_mem hx
 have:=h j hj
 rw [getElem!_pos l j hj] at this
 simp [this]
structure DInv (p:En→Bool) (l:List En) (i j:Nat) (d:Nat→En):Prop where
 lt:i<j
 len:((l.take j).filter fun x=> !p x).length=i
 low: ∀ t,t<i→d t=((l.take j).filter fun x=> !p x)[t]!
 high: ∀ t,j≤t→d t=l[t]!
theorem DInv.start {p:En→Bool} {l:List En} {k:Nat} (hk:k<l.length) (h:p l[k]! =true) (hb: ∀ j,j<k→p l[j]! =false):DInv p l k (k+1) (fun t=>l[t]!):=by
 have e:((l.take (k+1)).filter fun x=> !p x)=l.take k:=by
  rw [List.take_succ_eq_append_getElem hk,List.filter_append,filter_all p (l.take k) (fun j hj=>by
   have hj' :j<k:=by rw [List.length_take] at hj;omega
   have:=hb j hj'
   rw [getElem!_pos l j (by omega)] at this
   rw [getElem!_pos (l.take k) j hj,List.getElem_take];exact this)]
  rw [getElem!_pos l k hk] at h
  simp [h]
 refine ⟨by omega,by rw [e,List.length_take];omega,fun t ht=> ?_,fun t ht=>rfl⟩
 rw [e,getElem!_pos (l.take k) t (by rw [List.length_take];omega),List.getElem_take,getElem!_pos l t (by omega)]
theorem DInv.skip {p:En→Bool} {l:List En} {i j:Nat} {d:Nat→En} (h:DInv p l i j d) (hj:j<l.length) (hp:p l[j]! =true):DInv p l i (j+1) d:=by
 have e:((l.take (j+1)).filter fun x=> !p x)=(l.take j).filter fun x=> !p x:=by
  rw [List.take_succ_eq_append_getElem hj,List.filter_append]
  rw [getElem!_pos l j hj] at hp
  simp [hp]
 exact ⟨by have:=h.lt;omega,by rw [e];exact h.len,fun t ht=>by rw [e];exact h.low t ht,fun t ht=>h.high t (by omega)⟩
theorem DInv.keep {p:En→Bool} {l:List En} {i j:Nat} {d:Nat→En} (h:DInv p l i j d) (hj:j<l.length) (hp:p l[j]! =false):DInv p l (i+1) (j+1) (fun t=>if t=i then l[j]! else d t):=by
 have e:((l.take (j+1)).filter fun x=> !p x)=((l.take j).filter fun x=> !p x)++[l[j]!]:=by
  rw [List.take_succ_eq_append_getElem hj,List.filter_append]
  rw [getElem!_pos l j hj] at hp ⊢
  simp [hp]
 refine ⟨by have:=h.lt;omega,by rw [e,List.length_append,h.len];rfl,fun t ht=> ?_,fun t ht=> ?_⟩
 ·rw [e]
  by_cases hti:t=i
  ·subst hti
   simp only [if_true]
   rw [getElem!_pos _ t (by rw [List.length_append,h.len];simp),List.getElem_append_right (by rw [h.len];exact Nat.le_refl _)]
   simp [h.len]
  ·simp only [if_neg hti]
   have h1:t<((l.take j).filter fun x=> !p x).length:=by rw [h.len];omega
   rw [h.low t (by omega),getElem!_pos _ t h1,getElem!_pos _ t (by rw [List.length_append];omega),List.getElem_append_left h1]
 ·have:=h.lt
  simp only [if_neg (show t≠i by omega)]
  exact h.high t (by omega)
section
variable {α:Type} [DecidableEq α]
def ddS (acc:List α) (x:α):List α:=if acc.getLast? =some x then acc else acc++[x]
def ddA (l:List α):List α:=l.foldl ddS []
theorem zeE (l:List α) (x:α):ddA (l++[x])=ddS (ddA l) x:=by unfold ddA;rw [List.foldl_append];rfl
theorem znf (acc:List α) (x:α):(ddS acc x).getLast? =some x:=by
 unfold ddS
 split
 ·rename_i h;exact h
 ·simp
theorem zng (l:List α):(ddA l).getLast? =l.getLast? :=by
 rcases List.eq_nil_or_concat l with rfl | ⟨r,x,rfl⟩
 ·rfl
 ·rw [List.concat_eq_append,zeE,znf];simp
variable [Inhabited α]
theorem zcj (l:List α) {m:Nat} (h:m+1<l.length):ddA (l.take (m+2))=if l[m+1]! =l[m]! then ddA (l.take (m+1)) else ddA (l.take (m+1))++[l[m+1]!]:=by
 rw [getElem!_pos l (m+1) h,getElem!_pos l m (by omega),List.take_succ_eq_append_getElem h,zeE]
 unfold ddS
 rw [zng]
 have e:(l.take (m+1)).getLast? =some l[m]:=by
  rw [List.getLast?_eq_getElem?,List.length_take,Nat.min_eq_left (by omega),List.getElem?_take,if_pos (by omega)]
  exact List.getElem?_eq_getElem (by omega)
 rw [e]
 by_cases h1:l[m+1]=l[m]
 ·rw [if_pos h1,if_pos (by rw [h1])]
 ·rw [if_neg h1,if_neg (by intro e;injection e with e;exact h1 e.symm)]
theorem zgz (l:List α): ∀ m,m<l.length→(∀ j,j<m→l[j+1]! ≠l[j]!)→ddA (l.take (m+1))=l.take (m+1)
 | 0,hm,_=>by
  cases l with
  | nil=>rfl
  | cons a r=>rfl
 | m+1,hm,h=>by
  rw [zcj l hm,if_neg (h m (by omega)),zgz l m (by omega) fun j hj=>h j (by omega)]
  rw [List.take_succ_eq_append_getElem hm,getElem!_pos l (m+1) hm]
end
structure CInv (l:List En) (m k:Nat) (d:Nat→En):Prop where
 lt:k<m
 len:(ddA (l.take m)).length=k
 low: ∀ t,t<k→d t=(ddA (l.take m))[t]!
 high: ∀ t,k≤t→d t=l[t]!
theorem CInv.start {l:List En} {k:Nat} (hk:k+1<l.length) (h: ∀ j,j<k→l[j+1]! ≠l[j]!) (he:l[k+1]! =l[k]!):CInv l (k+2) (k+1) (fun t=>l[t]!):=by
 have e:ddA (l.take (k+2))=l.take (k+1):=by rw [zcj l hk,if_pos he,zgz l k (by omega) h]
 refine ⟨by omega,by rw [e,List.length_take];omega,fun t ht=> ?_,fun t _=>rfl⟩
 rw [e,getElem!_pos (l.take (k+1)) t (by rw [List.length_take];omega),List.getElem_take,getElem!_pos l t (by omega)]
theorem CInv.skip {l:List En} {m k:Nat} {d:Nat→En} (h:CInv l (m+1) k d) (hm:m+1<l.length) (he:l[m+1]! =l[m]!):CInv l (m+2) k d:=by
 have e:ddA (l.take (m+2))=ddA (l.take (m+1)):=by rw [zcj l hm,if_pos he]
 exact ⟨by have:=h.lt;omega,by rw [e];exact h.len,fun t ht=>by rw [e];exact h.low t ht,h.high⟩
theorem CInv.keep {l:List En} {m k:Nat} {d:Nat→En} (h:CInv l (m+1) k d) (hm:m+1<l.length) (he:l[m+1]! ≠l[m]!):CInv l (m+2) (k+1) (fun t=>if t=k then l[m+1]! else d t):=by
 have e:ddA (l.take (m+2))=ddA (l.take (m+1))++[l[m+1]!]:=by rw [zcj l hm,if_neg he]
 refine ⟨by have:=h.lt;omega,by rw [e,List.length_append,h.len];rfl,fun t ht=> ?_,fun t ht=> ?_⟩
 ·rw [e]
  by_cases htk:t=k
  ·subst htk
   simp only [if_true]
   rw [getElem!_pos _ t (by rw [List.length_append,h.len];simp),List.getElem_append_right (by rw [h.len];exact Nat.le_refl _)]
   simp [h.len]
  ·simp only [if_neg htk]
   have h1:t<(ddA (l.take (m+1))).length:=by rw [h.len];omega
   rw [h.low t (by omega),getElem!_pos _ t h1,getElem!_pos _ t (by rw [List.length_append];omega),List.getElem_append_left h1]
 ·simp only [if_neg (show t≠k by omega)]
  exact h.high t (by omega)
def eqE (x y:En):Bool:=x.1==y.1&&(x.2.1==y.2.1&&(x.2.2.1==y.2.2.1&&(x.2.2.2==y.2.2.2&&true)))
theorem zeF (x y:En):eqE x y=true↔x=y:=by
 unfold eqE
 simp only [Bool.and_eq_true,beq_iff_eq,and_true]
 constructor
 ·rintro ⟨h1,h2,h3,h4⟩
  exact Prod.ext h1 (Prod.ext h2 (Prod.ext h3 h4))
 ·rintro rfl
  exact ⟨rfl,rfl,rfl,rfl⟩
def celE (x:En):List D:=[.val .str x.1,.val (.int .i64) x.2.1,.val .str x.2.2.1,.val .str x.2.2.2]
theorem zkV (w:World) (x:En): ∀ (j:Nat) c,(celE x)[j]? =some c→ ∃ u,(encE x).toArray[j]? =some u∧u.oneCell' =true∧R0 w (fun _=>False) noM u c:=fun j c hj=>by
 rcases (show j=0∨j=1∨j=2∨j=3∨4≤j by omega) with rfl | rfl | rfl | rfl | h
 ·have:D.val .str x.1=c:=by simpa [celE] using hj
  subst this
  exact ⟨_,rfl,rfl,_,rfl,by simp⟩
 ·have:D.val (.int .i64) x.2.1=c:=by simpa [celE] using hj
  subst this
  exact ⟨_,rfl,rfl,rfl⟩
 ·have:D.val .str x.2.2.1=c:=by simpa [celE] using hj
  subst this
  exact ⟨_,rfl,rfl,_,rfl,by simp⟩
 ·have:D.val .str x.2.2.2=c:=by simpa [celE] using hj
  subst this
  exact ⟨_,rfl,rfl,_,rfl,by simp⟩
 ·rw [List.getElem?_eq_none (show (celE x).length≤j from h)] at hj
  cases hj
theorem zck (x y:En) (w:World):(Op.equal 79 (.agg (encE x).toArray) (.agg (encE y).toArray)).run Tryz.prog w= .ok (eqE x y) w:=by
 obtain ⟨fs,ht⟩: ∃ fs,Tryz.prog.underlying 79=some (.struct fs):=⟨_,rfl⟩
 have hfs:Tryz.prog.fieldsOf 79=fs:=by simp [Program.fieldsOf,ht]
 have e1:=run_equalIn_struct (P:=Tryz.prog) w 9999 79 (encE x).toArray (encE y).toArray (by rw [hfs];exact ht) (by kernel_rfl)
 rw [hfs] at e1
 refine e1.trans (yH (w:=w) (F:=fun _=>False) (M:=noM) (zkV w x) (zkV w y) 9998 fs.toList _ ?_ w)
 have h2:some (TypeDesc.struct fs)=Tryz.prog.underlying 79:=ht.symm
 injection h2 with h2
 injection h2 with h2
 rw [h2]
 rfl
theorem zsB (x y:En) (w:World):Sem.run Tryz.prog (binOp .eql 79 (.agg (encE x).toArray) (.agg (encE y).toArray)) w= .ok (.bool (eqE x y)) w:=by
 simp [binOp,zck]
theorem zsC (x y:En) (w:World):Sem.run Tryz.prog (binOp .neq 79 (.agg (encE x).toArray) (.agg (encE y).toArray)) w= .ok (.bool (!eqE x y)) w:=by
 simp [binOp,zck]
theorem zsD (op:BinOp) (p q:Operand) (us vs:Array Value) (w:World):Sem.run Tryz.prog (eqGuard op 79 p q (.agg us) (.agg vs)) w= .ok () w:=by
 have h2:Tryz.prog.eqGuardType Tryz.prog.depth 79=false:=by kernel_rfl
 unfold eqGuard
 cases op<;>simp [h2]
set_option maxHeartbeats 8000000 in
set_option maxRecDepth 1000000 in
theorem zsE (b cap:Nat) (d:List En) (w:World) (hb:b<w.heap.size) (hle:d.length≤cap) (hcap:cap≤9223372036854775807) (hR:RowE w b cap d.length (fun i=>d[i]!) w):
  Calls Tryz.prog 72 #[.slice (some ⟨b,0,none⟩) d.length cap] w fun e w' =>
   e= .returned (.slice (some ⟨b,0,none⟩) (ddA d).length cap)∧RowE w b cap (ddA d).length (fun i=>(ddA d)[i]!) w' :=by
 have mixed:=mixed
 have HR:Aside _:=hR
 have HB:Aside _:=hb
 obtain ⟨n,hn⟩: ∃ n,d.length=n:=⟨_,rfl⟩
 have HN:Aside (d.length=n):=hn
 rw [hn] at hle ⊢
 clear hR hn
 by_cases h2:n<2
 ·have h2' :(n:Int)<2:=by omega
  go_enter Tryz.func72,Tryz.ntmps72
  go_wp2
  go_ret
  have e:ddA d=d:=by
   cases d with
   | nil=>rfl
   | cons x r=>
    cases r with
    | nil=>rfl
    | cons y r=>have:=HN.out;simp at this;omega
  rw [e,HN.out]
  exact ⟨rfl,HN.out ▸ HR.out⟩
 ·have h2' : ¬ (n:Int)<2:=by omega
  go_enter Tryz.func72,Tryz.ntmps72
  go_wp2
  go_loopg [3] n (fun g1 s3 wr=> ∃ kp:Nat,s3= .int .i64 ((kp:Int)+1)∧kp+1≤n∧n - (kp+1)≤g1∧Aside (RowE w b cap n (fun i=>d[i]!) wr)∧Hid (∀ j,j<kp→d[j+1]! ≠d[j]!))
  case atStart=>exact ⟨0,by rfl,by omega,by omega,HN.out ▸ HR.out,fun j h1=>by omega⟩
  case round=>
   obtain ⟨kp,rfl,hk,hg1,R1,HA⟩:=hrel
   by_cases hlt:kp+1<n
   ·have hltz:(kp:Int)+1<(n:Int):=by omega
    obtain ⟨iN,hiN⟩: ∃ q,q=kp+1:=⟨_,rfl⟩
    obtain ⟨jN,hjN⟩: ∃ q,q=kp:=⟨_,rfl⟩
    have ea:((kp:Int)+1).toNat=iN:=by omega
    have pa:(0:Int)≤(kp:Int)+1:=by omega
    have ra:IntKind.i64.wrap ((kp:Int)+1)=(kp:Int)+1:=by rw [IntKind.wrap_i64];omega
    have ec:((kp:Int)).toNat=jN:=by omega
    have pc:(0:Int)≤(kp:Int):=by omega
    have bc:(kp:Int)<(n:Int):=by omega
    have rc:IntKind.i64.wrap ((kp:Int))=(kp:Int):=by rw [IntKind.wrap_i64];omega
    obtain ⟨u0,u1,u2,u3⟩:=R1.out.cell hlt
    obtain ⟨o0,o1,o2,o3⟩:=R1.out.cell (show kp<n by omega)
    rw [← hiN] at u0 u1 u2 u3
    rw [← hjN] at o0 o1 o2 o3
    have he:=fun w=>zsB d[iN]! d[jN]! w
    have hq:=fun w=>zck d[iN]! d[jN]! w
    unfold encE at he hq
    obtain ⟨r,hr⟩: ∃ r,eqE d[iN]! d[jN]! =r:=⟨_,rfl⟩
    rw [hr] at he hq
    have HE:Aside (eqE d[iN]! d[jN]! =r):=hr
    clear hr
    have hgd:=zsD
    generalize hx1:(⟨(d[iN]!).1.toArray⟩:ByteArray)=x1 at u0 he hq
    generalize hxm:(d[iN]!).2.1=xm at u1 he hq
    generalize hx2:(⟨(d[iN]!).2.2.1.toArray⟩:ByteArray)=x2 at u2 he hq
    generalize hx3:(⟨(d[iN]!).2.2.2.toArray⟩:ByteArray)=x3 at u3 he hq
    generalize hy1:(⟨(d[jN]!).1.toArray⟩:ByteArray)=y1 at o0 he hq
    generalize hym:(d[jN]!).2.1=ym at o1 he hq
    generalize hy2:(⟨(d[jN]!).2.2.1.toArray⟩:ByteArray)=y2 at o2 he hq
    generalize hy3:(⟨(d[jN]!).2.2.2.toArray⟩:ByteArray)=y3 at o3 he hq
    have HX:Aside (iN=kp+1∧jN=kp):=⟨hiN,hjN⟩
    clear hiN hjN hx1 hxm hx2 hx3 hy1 hym hy2 hy3
    go_wp2_with fail
    go_quiet (fail)
    have R2:Aside (RowE w b cap n (fun i=>d[i]!) (wr.drewN nq)):=R1.out.drewN nq
    generalize wr.drewN nq=w2 at R2 ⊢
    clear he hq u0 u1 u2 u3 o0 o1 o2 o3 R1 nq
    cases r with
    | true=>
     have HK:Aside (d[kp+1]! =d[kp]!):=by
      have:=(zeF _ _).1 HE.out
      rwa [HX.out.1,HX.out.2] at this
     have HI:Aside (iN=kp+1):=HX.out.1
     clear HE HX
     have s1:(kp:Int)+1≤(n:Int):=by omega
     have s2:(n:Int)≤(cap:Int):=by omega
     have s3:(kp:Int)+1≤(cap:Int):=by omega
     have hiN:iN<n:=by have:=HI.out;omega
     have hic:iN≠cap:=by omega
     go_wp2
     go_loopg [3,5] n (fun g2 s3 s5 wr2=> ∃ (kk k2p:Nat) (dk:Nat→En),s3= .int .i64 (kk:Int)∧s5= .int .i64 ((k2p:Int)+1)∧iN+(k2p+1)≤n∧n - (iN+(k2p+1))≤g2∧kk<n∧
      Aside (RowE w b cap n dk wr2)∧Hid (CInv d (iN+(k2p+1)) kk dk))
     case atStart=>
      refine ⟨iN,0,_,by have:=HI.out;congr 1;omega,by rfl,by omega,by omega,hiN,R2,?_⟩
      have:=HI.out
      subst this
      exact CInv.start (by rw [HN.out];omega) HA.out HK.out
     case round=>
      clear R2
      obtain ⟨kk,k2p,dk,rfl,rfl,hle2,hg2,hkk,R3,HV⟩:=hrel
      have t1:(kk:Int)≤(n:Int):=by omega
      have t2:(kk:Int)≤(cap:Int):=by omega
      have t3:(kk:Int)<(n:Int):=by omega
      by_cases hlt2:iN+(k2p+1)<n
      ·have hl2:(k2p:Int)+1<((n - iN:Nat):Int):=by omega
       obtain ⟨aN,haN⟩: ∃ q,q=k2p+1:=⟨_,rfl⟩
       obtain ⟨bN,hbN⟩: ∃ q,q=k2p:=⟨_,rfl⟩
       have ea2:((k2p:Int)+1).toNat=aN:=by omega
       have pa2:(0:Int)≤(k2p:Int)+1:=by omega
       have ra2:IntKind.i64.wrap ((k2p:Int)+1)=(k2p:Int)+1:=by rw [IntKind.wrap_i64];omega
       have ra3:IntKind.i64.wrap ((k2p:Int)+1+1)=(k2p:Int)+1+1:=by rw [IntKind.wrap_i64];omega
       have ra4:IntKind.i64.wrap ((kk:Int)+1)=(kk:Int)+1:=by rw [IntKind.wrap_i64];omega
       have ec2:((k2p:Int)).toNat=bN:=by omega
       have pc2:(0:Int)≤(k2p:Int):=by omega
       have bc2:(k2p:Int)<((n - iN:Nat):Int):=by omega
       have rc2:IntKind.i64.wrap ((k2p:Int))=(k2p:Int):=by rw [IntKind.wrap_i64];omega
       obtain ⟨u0,u1,u2,u3⟩:=R3.out.cell hlt2
       obtain ⟨o0,o1,o2,o3⟩:=R3.out.cell (show iN+k2p<n by omega)
       have hlk:=HV.out.lt
       have hdu:dk (iN+(k2p+1))=d[iN+bN+1]! :=by rw [hbN];exact HV.out.high _ (by omega)
       have hdo:dk (iN+k2p)=d[iN+bN]! :=by rw [hbN];exact HV.out.high _ (by omega)
       rw [hdu] at u0 u1 u2 u3
       rw [hdo] at o0 o1 o2 o3
       rw [← haN,show (iN+aN)*4=iN*4+aN*4 by omega] at u0 u1 u2 u3
       rw [← hbN,show (iN+bN)*4=iN*4+bN*4 by omega] at o0 o1 o2 o3
       have he:=fun w=>zsC d[iN+k2p+1]! d[iN+k2p]! w
       have hq:=fun w=>zck d[iN+k2p+1]! d[iN+k2p]! w
       rw [← hbN] at he hq
       unfold encE at he hq
       obtain ⟨r,hr⟩: ∃ r,eqE d[iN+bN+1]! d[iN+bN]! =r:=⟨_,rfl⟩
       rw [hr] at he hq
       have HE:Aside (eqE d[iN+bN+1]! d[iN+bN]! =r):=hr
       clear hr
       have HM:Aside (aN=k2p+1∧bN=k2p):=⟨haN,hbN⟩
       clear haN hbN hdu hdo
       generalize hU:d[iN+bN+1]! =U at u0 u1 u2 u3 he hq
       have HU:Aside (d[iN+bN+1]! =U):=hU
       clear hU
       generalize hx1:(⟨U.1.toArray⟩:ByteArray)=x1 at u0 he hq
       generalize hxm:U.2.1=xm at u1 he hq
       generalize hx2:(⟨U.2.2.1.toArray⟩:ByteArray)=x2 at u2 he hq
       generalize hx3:(⟨U.2.2.2.toArray⟩:ByteArray)=x3 at u3 he hq
       generalize (⟨(d[iN+bN]!).1.toArray⟩:ByteArray)=y1 at o0 he hq
       generalize (d[iN+bN]!).2.1=ym at o1 he hq
       generalize (⟨(d[iN+bN]!).2.2.1.toArray⟩:ByteArray)=y2 at o2 he hq
       generalize (⟨(d[iN+bN]!).2.2.2.toArray⟩:ByteArray)=y3 at o3 he hq
       have HX:Aside ((⟨U.1.toArray⟩:ByteArray)=x1∧U.2.1=xm∧(⟨U.2.2.1.toArray⟩:ByteArray)=x2∧(⟨U.2.2.2.toArray⟩:ByteArray)=x3):=⟨hx1,hxm,hx2,hx3⟩
       clear hx1 hxm hx2 hx3
       go_wp2_with fail
       go_quiet (fail)
       have R4:Aside (RowE w b cap n dk (wr.drewN nq)):=R3.out.drewN nq
       generalize hw3:wr.drewN nq=w3 at R4 ⊢
       have v0:w3.cell? ⟨b,iN*4+aN*4,none⟩=some (.string x1):=by rw [← hw3];exact u0
       have v1:w3.cell? ⟨b,iN*4+aN*4+1,none⟩=some (.int .i64 xm):=by rw [← hw3];exact u1
       have v2:w3.cell? ⟨b,iN*4+aN*4+2,none⟩=some (.string x2):=by rw [← hw3];exact u2
       have v3:w3.cell? ⟨b,iN*4+aN*4+3,none⟩=some (.string x3):=by rw [← hw3];exact u3
       clear he hq u0 u1 u2 u3 o0 o1 o2 o3 hw3 R3 nq
       cases r with
       | true=>
        have HV2:Hid (CInv d (iN+(k2p+1)+1) kk dk):=by
         have:=(zeF _ _).1 HE.out
         rw [HM.out.2] at this
         exact HV.out.skip (m:=iN+k2p) (by rw [HN.out];omega) this
        clear HE HU HX v0 v1 v2 v3 HV
        go_wp2
        go_roundg (n - (iN+(k2p+2)))
        case measure=>omega
        case rel=>exact ⟨kk,k2p+1,dk,rfl,by go_num,by omega,by omega,hkk,R4,HV2⟩
       | false=>
        have hne:d[iN+k2p+1]! ≠d[iN+k2p]! :=fun e=>by
         have h1:=HE.out
         rw [HM.out.2,(zeF _ _).2 e] at h1
         cases h1
        have HV2:Hid (CInv d (iN+(k2p+1)+1) (kk+1) (fun t=>if t=kk then U else dk t)):=by
         have:=HV.out.keep (m:=iN+k2p) (by rw [HN.out];omega) hne
         rw [← HU.out,HM.out.2]
         exact this
        have R5:Aside (RowE w b cap n (fun t=>if t=kk then U else dk t) ((((w3.setCell ⟨b,kk*4,none⟩ (.string x1)).setCell ⟨b,kk*4+1,none⟩ (.int .i64 xm)).setCell ⟨b,kk*4+2,none⟩ (.string x2)).setCell ⟨b,kk*4+3,none⟩ (.string x3))):=by
         have:=R4.out.set4 hkk hle U
         obtain ⟨e1,e2,e3,e4⟩:=HX.out
         rw [e1,e2,e3,e4] at this
         exact this
        obtain ⟨p0,p1,p2,p3⟩:=R4.out.cell hkk
        have z0:=R4.out.frozen (kk*4)
        have z1:=R4.out.frozen (kk*4+1)
        have z2:=R4.out.frozen (kk*4+2)
        have z3:=R4.out.frozen (kk*4+3)
        generalize (⟨(dk kk).1.toArray⟩:ByteArray)=y1 at p0
        generalize (dk kk).2.1=ym at p1
        generalize (⟨(dk kk).2.2.1.toArray⟩:ByteArray)=y2 at p2
        generalize (⟨(dk kk).2.2.2.toArray⟩:ByteArray)=y3 at p3
        have hkk9:kk+1<n:=by omega
        clear HE HU HX HV R4 hne
        go_wp2
        go_roundg (n - (iN+(k2p+2)))
        case measure=>omega
        case rel=>exact ⟨kk+1,k2p+1,_,by go_num,by go_num,by omega,by omega,hkk9,R5,HV2⟩
      ·have hend:iN+(k2p+1)=n:=by omega
       have hl2: ¬ (k2p:Int)+1<((n - iN:Nat):Int):=by omega
       obtain ⟨W',hcl,RC⟩:=R3.out.clear hkk hle
       have RD:Aside (RowE w b cap kk dk W'):=RC
       clear RC R3
       have hkc:kk≠cap:=by omega
       go_wp2
       go_ret
       have hV:=HV.out
       rw [hend] at hV
       have hlen:=hV.len
       rw [List.take_of_length_le (by rw [HN.out];exact Nat.le_refl _)] at hlen
       rw [hlen]
       refine ⟨rfl,RD.out.gr,?_⟩
       obtain ⟨us,h1,h2,h3⟩:=RD.out.row
       refine ⟨us,h1,h2,fun t ht c v hc=>h3 t ht c v ?_⟩
       have:=hV.low t ht
       rw [List.take_of_length_le (by rw [HN.out];exact Nat.le_refl _)] at this
       rw [this,List.getElem!_eq_getElem?_getD];exact hc
    | false=>
     have HA2:Hid (∀ j,j<kp+1→d[j+1]! ≠d[j]!):=fun j h1=>by
      by_cases e:j=kp
      ·subst e
       intro e2
       have h1:=HE.out
       rw [HX.out.1,HX.out.2,(zeF _ _).2 e2] at h1
       cases h1
      ·exact HA.out j (by omega)
     have ra3:IntKind.i64.wrap ((kp:Int)+1+1)=(kp:Int)+1+1:=by rw [IntKind.wrap_i64];omega
     clear HE HX HA ea ec
     go_wp2
     go_roundg (n - (kp+2))
     case measure=>omega
     case rel=>exact ⟨kp+1,by go_num,by omega,by omega,R2,HA2⟩
   ·have hltz: ¬ (kp:Int)+1<(n:Int):=by omega
    have hkd:kp+1=n:=by omega
    go_wp2
    go_ret
    have e:ddA d=d:=by
     have:=zgz d kp (by rw [HN.out];omega) HA.out
     rwa [List.take_of_length_le (by rw [HN.out];omega)] at this
    rw [e,HN.out]
    refine ⟨rfl,?_⟩
    have:=R1.out
    simpa only [List.getElem!_eq_getElem?_getD] using this
theorem znh {w:World} {F:Nat→Prop} {b cap:Nat} {us:Array Value} {xs:List En} (hh:w.heap[b]? =some (.cells us 79 (0,0))) (hus:us.size=cap*tEn.width) (hH:Holds w F tEn xs us.toList):RowE w b cap xs.length (fun i=>xs[i]!) w:=
 ⟨⟨rfl,rfl,rfl,Nat.le_refl _,fun _ _ _=>rfl⟩,us,hh,hus,fun i hi c v hc=>by
  simp only [getElem!_pos xs i hi] at hc
  exact zhV hH i hi c v hc⟩
theorem zni {w w' :World} {F:Nat→Prop} {B:Nat→Prop} {b cap:Nat} {xs:List En} (hB:B b) (h:RowE w b cap xs.length (fun i=>xs[i]!) w') (hle:xs.length≤cap) (hcap:cap≤maxLen):
  OwnR w' F B (some b) (.slice (some ⟨b,0,none⟩) xs.length cap) 79 tEn xs:=by
 obtain ⟨us,h1,h2,h3⟩:=h.row
 exact .inr ⟨b,cap,us,rfl,hB,rfl,h1,hle,hcap,h2,zcZ fun i hi c v hc=>h3 i hi c v (by rw [getElem!_pos xs i hi];exact hc)⟩
theorem zqd (l:List En):(ddA l).length≤l.length:=by
 suffices h: ∀ (l acc:List En),(l.foldl ddS acc).length≤acc.length+l.length by unfold ddA;simpa using h l []
 intro l
 induction l with
 | nil=>intro acc;simp
 | cons x l ih=>
  intro acc
  rw [List.foldl_cons]
  refine Nat.le_trans (ih _) ?_
  unfold ddS
  split<;>simp<;>omega
theorem zkW (A:Option Addr) (c:Nat) (w:World):Calls Tryz.prog 72 #[.slice A 0 c] w fun en w' =>en= .returned (.slice A 0 c)∧w' =w:=by
 have mixed:=mixed
 go_enter Tryz.func72,Tryz.ntmps72
 go_wp2
 go_ret
 exact ⟨rfl,rfl⟩
def E72t:List En→D:=fun x=> .own 79 tEn x
def F72t (_:Nat) (a0:List En):Option (List En):=some (ddA a0)
theorem P72t (N:Nat) (xs:List En): ∀ r,F72t N xs=some r→
  jT Tryz.prog 72 79 tEn xs [] (E72t r):=fun r h=>by
 cases h
 refine ⟨zw (fn:=Tryz.f72) rfl rfl rfl,fun w v0 vs F G0 hF hgl hown hsz hargs=> ?_⟩
 have hv:vs= #[]:=Array.size_eq_zero_iff.1 hsz
 subst hv
 rcases hown with ⟨hx,hG,A,rfl⟩ | ⟨b,cap,us,hG,hB,rfl,hh,hle,hcap,hus,hH⟩
 ·subst hx
  refine (zkW A 0 w).mono ?_
  rintro en w' ⟨rfl,rfl⟩
  exact ⟨_,F,none,rfl,by rw [hG];exact ⟨rfl,rfl,rfl,Nat.le_refl _,fun _ _ _=>rfl⟩,fun _ h=>h,fun k hk=>⟨hF k hk,.inl hk⟩,fun k hk=>(by cases hk),.inl ⟨rfl,rfl,A,rfl⟩⟩
 ·have hlt:b<w.heap.size:=(Array.getElem?_eq_some_iff.1 hh).1
  refine (zsE b cap xs w hlt hle hcap (znh hh hus hH)).mono ?_
  rintro en w' ⟨rfl,hR⟩
  exact ⟨_,F,some b,rfl,by rw [hG];exact hR.gr,fun _ h=>h,fun k hk=>⟨Nat.lt_of_lt_of_le (hF k hk) hR.gr.size,.inl hk⟩,fun g hg=>by cases hg;exact ⟨.inr hG,hB.2,Nat.lt_of_lt_of_le hlt hR.gr.size⟩,
   zni trivial hR (Nat.le_trans (zqd xs) hle) hcap⟩
end
section
section
variable {α:Type} [DecidableEq α]
structure Ordr (lt:α→α→Bool):Prop where
 irr: ∀ x,lt x x=false
 tr: ∀ x y z,lt x y=true→lt y z=true→lt x z=true
 tri: ∀ x y,lt x y=true∨x=y∨lt y x=true
def Asc (lt:α→α→Bool) (l:List α):Prop:=l.Pairwise fun a b=>lt a b=true
variable {lt:α→α→Bool}
theorem Ordr.asym (o:Ordr lt) {x y:α} (h:lt x y=true):lt y x=false:=by
 cases h' :lt y x with
 | false=>rfl
 | true=>have:=o.tr _ _ _ h h';rw [o.irr] at this;cases this
theorem Ordr.ne (o:Ordr lt) {x y:α} (h:lt x y=true):x≠y:=fun e=>by subst e;rw [o.irr] at h;cases h
theorem Asc.nodup (o:Ordr lt) {l:List α} (h:Asc lt l):l.Nodup:=h.imp fun hab=>o.ne hab
theorem zqe (o:Ordr lt) {l m:List α} (h1:Asc lt l) (h2:Asc lt m) (h: ∀ x,x∈l↔x∈m):l=m:=
 zcW (r:=fun a b=>lt a b=true) (fun x y h1 h2=>by have:=o.tr _ _ _ h1 h2;rw [o.irr] at this;cases this) ((List.perm_ext_iff_of_nodup (h1.nodup o) (h2.nodup o)).2 h) h1 h2
theorem zgA (o:Ordr lt): ∀ (n:Nat) (l:List α),l.length=n→l.Pairwise (fun a b=>lt b a=false)→Asc lt (ddA l)∧ ∀ x,x∈ddA l↔x∈l
 | 0,l,hl,_=>by
  rw [List.length_eq_zero_iff] at hl
  subst hl
  exact ⟨List.Pairwise.nil,fun x=>Iff.rfl⟩
 | n+1,l,hl,hp=>by
  rcases List.eq_nil_or_concat l with rfl | ⟨r,x,rfl⟩
  ·simp at hl
  ·rw [List.concat_eq_append] at hl hp ⊢
   rw [List.pairwise_append] at hp
   obtain ⟨hr,_,hx⟩:=hp
   obtain ⟨h1,h2⟩:=zgA o n r (by simpa using hl) hr
   rw [zeE]
   unfold ddS
   split
   ·rename_i hlast
    refine ⟨h1,fun y=> ?_⟩
    rw [h2 y]
    have:x∈r:=(h2 x).1 (List.mem_of_getLast? hlast)
    simp only [List.mem_append,List.mem_singleton]
    exact ⟨.inl,fun h=>h.elim id fun e=>e ▸ this⟩
   ·rename_i hlast
    refine ⟨?_,fun y=> ?_⟩
    ·unfold Asc
     rw [List.pairwise_append]
     refine ⟨h1,List.pairwise_singleton _ _,fun y hy z hz=> ?_⟩
     rw [List.mem_singleton] at hz
     subst hz
     have hyz:=hx y ((h2 y).1 hy) z (List.mem_singleton.2 rfl)
     rcases o.tri y z with h | h | h
     ·exact h
     ·exfalso
      subst h
      rcases List.eq_nil_or_concat (ddA r) with he | ⟨s,t,he⟩
      ·rw [he] at hy;cases hy
      ·rw [List.concat_eq_append] at he
       rw [he] at hlast hy h1
       have hty:t≠y:=fun e=>hlast (by rw [e];simp)
       have hts:y∈s:=by
        rcases List.mem_append.1 hy with h | h
        ·exact h
        ·exact absurd (List.mem_singleton.1 h).symm hty
       have hlt:lt y t=true:=(List.pairwise_append.1 h1).2.2 y hts t (List.mem_singleton.2 rfl)
       have htr:t∈r:=(h2 t).1 (by rw [he];simp)
       have:=hx t htr y (List.mem_singleton.2 rfl)
       rw [hlt] at this;cases this
     ·rw [hyz] at h;cases h
    ·simp only [List.mem_append,List.mem_singleton]
     rw [h2 y]
def setG (lt:α→α→Bool) (l:List α):List α:=ddA (l.mergeSort fun x y=> !lt y x)
theorem zog (o:Ordr lt) (l:List α):(l.mergeSort fun x y=> !lt y x).Pairwise (fun a b=>lt b a=false):=by
 have:=List.pairwise_mergeSort (le:=fun a b=> !lt b a) (fun a b c h1 h2=>by
  simp only [Bool.not_eq_true'] at *
  cases h:lt c a with
  | false=>rfl
  | true=>
   rcases o.tri c b with h3 | h3 | h3
   ·rw [h2] at h3;cases h3
   ·subst h3;rw [h1] at h;cases h
   ·have:=o.tr _ _ _ h3 h;rw [h1] at this;cases this) (fun a b=>by
  cases h:lt b a with
  | false=>rfl
  | true=>rw [o.asym h];rfl) l
 exact this.imp fun h=>by simpa using h
theorem znj (o:Ordr lt) (l:List α):Asc lt (setG lt l):=(zgA o _ _ rfl (zog o l)).1
theorem zhW (o:Ordr lt) (l:List α) (x:α):x∈setG lt l↔x∈l:=by
 unfold setG
 rw [(zgA o _ _ rfl (zog o l)).2,List.mem_mergeSort]
theorem Asc.filter {l:List α} (h:Asc lt l) (p:α→Bool):Asc lt (l.filter p):=List.Pairwise.filter p h
theorem zkX (l:List α):(ddA l).length≤l.length:=by
 suffices h: ∀ (l acc:List α),(l.foldl ddS acc).length≤acc.length+l.length by unfold ddA;simpa using h l []
 intro l
 induction l with
 | nil=>intro acc;simp
 | cons x l ih=>
  intro acc
  rw [List.foldl_cons]
  refine Nat.le_trans (ih _) ?_
  unfold ddS
  split<;>simp<;>omega
theorem znk (l:List α):(setG lt l).length≤l.length:=by
 unfold setG
 refine Nat.le_trans (zkX _) ?_
 rw [List.length_mergeSort];exact Nat.le_refl _
end
theorem zeG:Ordr ahd:=⟨zgx,fun _ _ _=>zbs,zeC⟩
abbrev setE (l:List En):List En:=setG ahd l
end
end Go.Proofs.YthcmfnkganacaaaGreatDoor.Vc
