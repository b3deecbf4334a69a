/-
  WHAT A ROW OF THIS SEAT's GIVES: the laid variables as the shelf's contracts ask for them; a witness. No condition.
-/
import Derived.Test.YthcmfnkganacaaaGreatDoorA3
import Derived.ProofKit
import Derived.Carry
import Derived.Stop.Joined
import Derived.LaidMore
import Derived.Test.YthcmfnkganacaaaGreatDoorTj
import Derived.Test.YthcmfnkganacaaaGreatDoorCards
import Derived.Shelf.Vars
import Derived.SevenTiedAt
import Derived.Lib.LaidTab
import Derived.Lib.LaidU8
import Derived.Lay
set_option linter.unusedVariables false
set_option linter.unusedSimpArgs false
set_option maxRecDepth 100000
namespace Go.Proofs.YthcmfnkganacaaaGreatDoor.Vc
section
open Go.RowKit Go.ChangeShapes Go.WideShapes
def qZ (P:Program) (ok:TypeId→Bool):Nat→List Field→Option Nat
 | acc,[]=>some acc
 | acc,f::r=>bif Nat.beq f.offset acc&&ok f.type then qZ P ok (acc+P.cellsOf f.type) r else none
def tyOk (P:Program):Nat→TypeId→Bool
 | 0,_=>false
 | d+1,t=>match P.underlying t with
  | some (.int _)=>Nat.beq (P.cellsOf t) 1
  | some .bool=>Nat.beq (P.cellsOf t) 1
  | some .string=>Nat.beq (P.cellsOf t) 1
  | some (.slice e)=>Nat.beq (P.cellsOf t) 1&&tyOk P d e
  | some (.struct fs)=>match qZ P (tyOk P d) 0 fs.toList with
   | some n=>Nat.beq n (P.cellsOf t)
   | none=>false
  | _=>false
def wfI:(t:Ty)→t.I→Prop
 | .int k,n=>(Lit.int k n).wf=true
 | .bool,_=>True
 | .str,l=>l.length≤maxLen
 | .list t,xs=>xs.length≤maxLen∧ ∀ x∈xs,wfI t x
 | .pair a b,x=>wfI a x.1∧wfI b x.2
 | _,_=>True
section
variable {P:Program} {w:World} {H:Type} {enc:TypeId×Value→H}
theorem zh2: ∀ (n:Nat) (t:TypeId) (u:Ty),tyOf P n t=some u→tyOk P n t=true→P.cellsOf t=u.width
 | 0,_,_,h,_=>by cases h
 | d+1,t,u,h,hk=>by
  have ih:=zh2 d
  have fields: ∀ (fs:List Field) (ts:List Ty) (acc n:Nat) (u:Ty),(fs.mapM fun f=>tyOf P d f.type)=some ts→qZ P (tyOk P d) acc fs=some n→pairs ts=some u→n=acc+u.width:=by
   intro fs
   induction fs with
   | nil=>
    intro ts acc n u hm _ hp
    have:ts=[]:=by simpa using hm.symm
    subst this;cases hp
   | cons f r ihf=>
    intro ts acc n u hm hok hp
    simp only [List.mapM_cons,Option.bind_eq_bind,Option.bind_eq_some_iff,Option.pure_def,Option.some.injEq] at hm
    obtain ⟨t1,h1,ts',h2,rfl⟩:=hm
    unfold qZ at hok
    cases hc:Nat.beq f.offset acc&&tyOk P d f.type with
    | false=>rw [hc] at hok;cases hok
    | true=>
     rw [hc] at hok
     simp only [Bool.and_eq_true] at hc
     have hw:=ih _ _ h1 hc.2
     cases ts' with
     | nil=>
      have hu:t1=u:=by simpa [pairs] using hp
      subst hu
      cases r with
      | nil=>simp only [qZ,cond_true,Option.some.injEq] at hok;omega
      | cons f' r' =>simp [List.mapM_cons,Option.bind_eq_some_iff] at h2
     | cons t2 ts2=>
      have hp' :(match pairs (t2::ts2) with | some u=>some (Ty.pair t1 u) | none=>none)=some u:=hp
      split at hp'
      ·rename_i u' hu'
       have:=ihf _ _ _ u' h2 hok hu'
       have hu:Ty.pair t1 u' =u:=by simpa using hp'
       subst hu
       simp only [Ty.width];omega
      ·cases hp'
  unfold tyOf at h
  unfold tyOk at hk
  split at h
  all_goals first | (rename_i hu;rw [hu] at hk;dsimp only at hk;first | (exact (Bool.false_ne_true hk).elim) | skip) | cases h
  ·have:=Nat.eq_of_beq_eq_true hk
   have e:=Option.some.inj h
   subst e;exact this
  ·have:=Nat.eq_of_beq_eq_true hk
   have e:Ty.bool=u:=by simpa using h
   subst e;exact this
  ·have:=Nat.eq_of_beq_eq_true hk
   have e:Ty.str=u:=by simpa using h
   subst e;exact this
  ·simp only [Bool.and_eq_true] at hk
   obtain ⟨u',h1,rfl⟩:=Option.map_eq_some_iff.1 h
   exact Nat.eq_of_beq_eq_true hk.1
  ·split at h
   ·rename_i ts hts
    split at hk
    ·rename_i n hn
     have:=fields _ _ _ _ _ hts hn h
     have h3:=Nat.eq_of_beq_eq_true hk
     omega
    ·cases hk
   ·cases h
theorem zgH {α:Type} {n:Nat} {p:Nat→α→Prop} (h: ∀ i,i<n→ ∃ x,p i x): ∃ xs:List α,xs.length=n∧ ∀ (i:Nat) x,xs[i]? =some x→p i x:=by
 induction n with
 | zero=>exact ⟨[],rfl,fun i x hx=>by simp at hx⟩
 | succ n ih=>
  obtain ⟨xs,h1,h2⟩:=ih fun i hi=>h i (by omega)
  obtain ⟨y,hy⟩:=h n (by omega)
  refine ⟨xs++[y],by simp [h1],fun i x hx=> ?_⟩
  rcases Nat.lt_trichotomy i n with hi | hi | hi
  ·rw [List.getElem?_append_left (by omega)] at hx;exact h2 i x hx
  ·subst hi
   rw [List.getElem?_append_right (by omega),h1,Nat.sub_self] at hx
   have:y=x:=by simpa using hx
   subst this;exact hy
  ·rw [List.getElem?_eq_none (by simp;omega)] at hx;cases hx
theorem mapM_some {α β:Type} {f:α→Option β}: ∀ {l:List α} {r:List β},l.mapM f=some r→r.length=l.length∧ ∀ (i:Nat) a,l[i]? =some a→ ∃ b,r[i]? =some b∧f a=some b
 | [],r,h=>by
  have:r=[]:=by simpa using h.symm
  subst this
  exact ⟨rfl,fun i a ha=>by simp at ha⟩
 | x::l,r,h=>by
  simp only [List.mapM_cons,Option.bind_eq_bind,Option.bind_eq_some_iff,Option.pure_def,Option.some.injEq] at h
  obtain ⟨b,h1,r',h2,rfl⟩:=h
  obtain ⟨h3,h4⟩:=mapM_some h2
  refine ⟨by simp [h3],fun i a ha=> ?_⟩
  cases i with
  | zero=>
   have:x=a:=by simpa using ha
   subst this
   exact ⟨b,rfl,h1⟩
  | succ i=>simpa using h4 i a (by simpa using ha)
theorem zln: ∀ (n fuel:Nat) (t:TypeId) (cs:List Value) (d:DataW H) (ps:List MemPlace) (u:Ty),tyOf P n t=some u→tyOk P n t=true→
  DataW.trod enc P w 0 (fun _=>true) true fuel t cs=some (d,ps)→ ∃ x:u.I,wfI u x∧RV w (fun b=>b<w.heap.size) u x cs
 | 0,_,_,_,_,_,_,h,_,_=>by cases h
 | _+1,0,_,_,_,_,_,_,_,h=>by cases h
 | n+1,fuel+1,t,cs,d,ps,u,ht,hk,h=>by
  have ih:=zln n fuel
  have ht0:=ht
  have hk0:=hk
  unfold tyOf at ht
  unfold tyOk at hk
  split at ht
  all_goals first | (rename_i hu;rw [hu] at hk;dsimp only at hk;first | (exact (Bool.false_ne_true hk).elim) | skip;unfold DataW.trod at h;rw [hu] at h) | cases ht
  ·rename_i k
   have e:Ty.int k=u:=by simpa using ht
   subst e
   split at h<;>rename_i he<;>first | cases he | skip
   ·split at h
    ·rename_i hc
     obtain ⟨rfl,hwf⟩:=hc
     exact ⟨_,hwf,rfl⟩
    ·cases h
   all_goals (cases h)
  ·have e:Ty.bool=u:=by simpa using ht
   subst e
   split at h<;>rename_i he<;>first | cases he | skip
   ·exact ⟨_,trivial,rfl⟩
   all_goals (cases h)
  ·have e:Ty.str=u:=by simpa using ht
   subst e
   split at h<;>rename_i he<;>first | cases he | skip
   ·split at h
    ·rename_i s hc
     exact ⟨s.data.toList,(by show s.data.toList.length≤maxLen;rw [Array.length_toList];exact hc),s,rfl,rfl⟩
    ·cases h
   all_goals (cases h)
  ·rename_i e
   obtain ⟨u',h1,rfl⟩:=Option.map_eq_some_iff.1 ht
   simp only [Bool.and_eq_true] at hk
   have hw:=zh2 n e u' h1 hk.2
   split at h<;>rename_i he<;>first | cases he | skip
   ·exact ⟨[],⟨Nat.zero_le _,fun x hx=>by cases hx⟩,none,0,rfl,Nat.le_refl _,Nat.zero_le _,fun i x hx=>by simp at hx⟩
   ·rename_i a len cap
    split at h
    ·rename_i hc
     obtain ⟨h2,h3,h4⟩:=hc
     simp only [Option.bind_eq_some_iff] at h
     obtain ⟨elems,h5,_⟩:=h
     obtain ⟨h6,h7⟩:=mapM_some h5
     obtain ⟨xs,h8,h9⟩:=zgH (n:=len) (p:=fun i (x:u'.I)=>wfI u' x∧ ∃ us,a.block<w.heap.size∧RV w (fun b=>b<w.heap.size) u' x us∧Reads w (a.add (i*u'.width)) us) fun i hi=>by
      obtain ⟨b,h10,h11⟩:=h7 i i (by simp [hi])
      obtain ⟨us,h12,h13⟩:=Option.bind_eq_some_iff.1 h11
      obtain ⟨x,h14,h15⟩:=ih e us b.1 b.2 u' h1 hk.2 h13
      unfold World.cells? at h12
      split at h12
      ·obtain ⟨h16,h17⟩:=mapM_some h12
       have hrd:Reads w (a.add (i*u'.width)) us:=fun j v hj=>by
        have hjl:j<us.length:=(List.getElem?_eq_some_iff.1 hj).1
        obtain ⟨v',h18,h19⟩:=h17 j j (by rw [List.length_range] at h16;rw [List.getElem?_range (by omega)])
        have:v' =v:=by rw [h18] at hj;simpa using hj
        subst this
        exact ⟨by rw [← hw];exact h19,h15.one v' (List.mem_of_getElem? hj)⟩
       have hlt:a.block<w.heap.size:=by
        have hl:us.length=u'.width:=h15.len
        have:=yj u'
        obtain ⟨v,hv⟩: ∃ v,us[0]? =some v:=⟨us[0]'(by omega),List.getElem?_eq_getElem (by omega)⟩
        have h20:=(hrd 0 v hv).1
        rcases Nat.lt_or_ge a.block w.heap.size with h21 | h21
        ·exact h21
        ·have hn:w.heap[a.block]? =none:=Array.getElem?_eq_none h21
         have hb: ∀ (a:Addr) k,(a.add k).block=a.block:=fun a k=>by unfold Addr.add;split<;>rfl
         unfold World.cell? at h20
         rw [hb,hb,hn] at h20
         cases h20
       exact ⟨x,h14,us,hlt,h15,hrd⟩
      ·cases h12
     refine ⟨xs,⟨by omega,fun x hx=> ?_⟩,some a,cap,by rw [h8],by omega,h4,fun i x hx=> ?_⟩
     ·obtain ⟨i,hi⟩:=List.getElem?_of_mem hx
      exact (h9 i x hi).1
     ·obtain ⟨_,us,h10,h11,h12⟩:=h9 i x hx
      exact ⟨a,us,rfl,h10,h11,h12⟩
    ·cases h
   all_goals (cases h)
  ·rename_i fs
   split at ht
   ·rename_i ts hts
    split at hk
    ·rename_i m hm
     have hlen:=Nat.eq_of_beq_eq_true hk
     have key: ∀ (fs:List Field) (ts:List Ty) (acc m:Nat) (u:Ty) (xs:List (DataW H×List MemPlace)),(fs.mapM fun f=>tyOf P n f.type)=some ts→qZ P (tyOk P n) acc fs=some m→pairs ts=some u→
       (fs.mapM fun f=>DataW.trod enc P w 0 (fun _=>true) true fuel f.type ((cs.drop f.offset).take (P.cellsOf f.type)))=some xs→cs.length=m→ ∃ x:u.I,wfI u x∧RV w (fun b=>b<w.heap.size) u x (cs.drop acc):=by
      intro fs
      induction fs with
      | nil=>
       intro ts acc m u xs hm _ hp _ _
       have:ts=[]:=by simpa using hm.symm
       subst this;cases hp
      | cons f r ihf=>
       intro ts acc m u xs hm hok hp hx hl
       simp only [List.mapM_cons,Option.bind_eq_bind,Option.bind_eq_some_iff,Option.pure_def,Option.some.injEq] at hm hx
       obtain ⟨t1,h1,ts',h2,rfl⟩:=hm
       obtain ⟨y,h3,xs',h4,rfl⟩:=hx
       unfold qZ at hok
       cases hc:Nat.beq f.offset acc&&tyOk P n f.type with
       | false=>rw [hc] at hok;cases hok
       | true=>
        rw [hc] at hok
        simp only [Bool.and_eq_true] at hc
        have hoff:=Nat.eq_of_beq_eq_true hc.1
        obtain ⟨x1,h5,h6⟩:=ih f.type _ y.1 y.2 t1 h1 hc.2 h3
        rw [hoff] at h6
        cases ts' with
        | nil=>
         have hu:t1=u:=by simpa [pairs] using hp
         subst hu
         cases r with
         | nil=>
          simp only [qZ,cond_true,Option.some.injEq] at hok
          refine ⟨x1,h5,?_⟩
          rw [List.take_of_length_le (by simp;omega)] at h6
          exact h6
         | cons f' r' =>simp [List.mapM_cons,Option.bind_eq_some_iff] at h2
        | cons t2 ts2=>
         have hp' :(match pairs (t2::ts2) with | some u=>some (Ty.pair t1 u) | none=>none)=some u:=hp
         split at hp'
         ·rename_i u' hu'
          obtain ⟨x2,h7,h8⟩:=ihf _ _ _ u' xs' h2 hok hu' h4 hl
          have hu:Ty.pair t1 u' =u:=by simpa using hp'
          subst hu
          exact ⟨(x1,x2),⟨h5,h7⟩,_,_,by rw [← List.drop_drop];exact (List.take_append_drop (P.cellsOf f.type) _).symm,h6,h8⟩
         ·cases hp'
     split at h<;>rename_i he<;>first | cases he | skip
     ·split at h
      ·rename_i hl
       obtain ⟨xs,hxs,_⟩:=Option.map_eq_some_iff.1 h
       have:=key fs.toList ts 0 m u xs hts hm ht hxs (by omega)
       simpa using this
      ·cases h
     all_goals first | (cases h;done) | (rename_i h1 _;exact (h1 fs rfl).elim) | (exact absurd rfl (by assumption)) | (simp_all;done)
    ·cases hk
   ·cases ht
def zqN (P:Program) (t:TypeId) (u:Ty):Bool:=
 match P.underlying t,u with
 | some (.struct _),.pair _ _=>true
 | some (.struct _),_=>false
 | some (.array _ _),_=>false
 | some (.float _),_=>false
 | some (.interface _),_=>false
 | some (.func _ _ _),_=>false
 | _,_=>true
theorem zfI {n:Nat} {t:TypeId} {u:Ty} {base:Nat} {v:Value} (hty:tyOf P n t=some u) (ha:zqN P t u=true) (h:Value.okWide P w .any base t v):
  (v.oneCell' =true∨ ∃ cs,v= .agg cs)∧(u.width=1→v.oneCell' =true∨ ∃ p q,u= .pair p q):=by
 cases n with
 | zero=>cases hty
 | succ n=>
  unfold tyOf at hty
  unfold zqN at ha
  unfold Value.okWide at h
  split at hty
  all_goals first | (rename_i hu;rw [hu] at ha h;dsimp only at ha h;first | (exact (Bool.false_ne_true ha).elim) | skip) | cases hty
  ·have hv:v.oneCell' =true:=by
    unfold Cell.okWide at h;rw [hu] at h;dsimp only at h
    unfold Cell.ok at h;rw [hu] at h
    cases v<;>first | rfl | exact h.elim
   exact ⟨.inl hv,fun _=> .inl hv⟩
  ·have hv:v.oneCell' =true:=by
    unfold Cell.okWide at h;rw [hu] at h;dsimp only at h
    unfold Cell.ok at h;rw [hu] at h
    cases v<;>first | rfl | exact h.elim
   exact ⟨.inl hv,fun _=> .inl hv⟩
  ·have hv:v.oneCell' =true:=by
    unfold Cell.okWide at h;rw [hu] at h;dsimp only at h
    unfold Cell.ok at h;rw [hu] at h
    cases v<;>first | rfl | exact h.elim
   exact ⟨.inl hv,fun _=> .inl hv⟩
  ·have hv:v.oneCell' =true:=by
    unfold Cell.okWide at h;rw [hu] at h;dsimp only at h
    unfold Cell.ok at h;rw [hu] at h
    cases v<;>first | rfl | exact h.elim
   exact ⟨.inl hv,fun _=> .inl hv⟩
  ·obtain ⟨cs,hv,_⟩:=h
   refine ⟨.inr ⟨cs,hv⟩,fun _=> ?_⟩
   cases u with
   | pair p q=>exact .inr ⟨p,q,rfl⟩
   | _=>cases ha
def Args:List Ty→Type
 | []=>Unit
 | t::r=>t.I×Args r
def argDs:(us:List Ty)→Args us→List D
 | [],_=>[]
 | t::r,x=>encV t x.1::argDs r x.2
def wfArgs:(us:List Ty)→Args us→Prop
 | [],_=>True
 | t::r,x=>wfI t x.1∧wfArgs r x.2
def znH (P:Program):List TypeId→List Ty→Bool
 | [],[]=>true
 | t::ts,u::us=>decide (tyOf P 12 t=some u)&&(tyOk P 12 t&&(zqN P t u&&znH P ts us))
 | _,_=>false
theorem zfJ {base:Nat}: ∀ (ts:List TypeId) (us:List Ty) (vs:List Value) (ds:List (DataW H)) (ps:List MemPlace),znH P ts us=true→DataW.TrodAll enc P w 0 (fun _=>true) true ts vs ds ps→
  (∀ (j:Nat) t v,ts[j]? =some t→vs[j]? =some v→Value.okWide P w .any base t v)→
  ∃ x:Args us,wfArgs us x∧vs.length=(argDs us x).length∧ds.length=ts.length∧ ∀ (i:Nat) d',(argDs us x)[i]? =some d' → ∃ v,vs[i]? =some v∧R1 w (fun b=>b<w.heap.size) noM v d'
 | [],[],vs,ds,ps,_,h,_=>by
  obtain ⟨rfl,rfl,rfl⟩:=trodAll_nil h
  exact ⟨(),trivial,rfl,rfl,fun i d' hi=>by simp [argDs] at hi⟩
 | [],_::_,_,_,_,h,_,_=>by cases h
 | _::_,[],_,_,_,h,_,_=>by cases h
 | t::ts,u::us,vs,ds,ps,hp,h,hv=>by
  simp only [znH,Bool.and_eq_true,decide_eq_true_eq] at hp
  obtain ⟨h1,h2,h3,h4⟩:=hp
  obtain ⟨v,vs',d,ds',p,q,rfl,rfl,rfl,⟨fuel,hd⟩,hr⟩:=trodAll_cons h
  obtain ⟨x,hx,hlen,hdl,hget⟩:=zfJ ts us vs' ds' q h4 hr fun j t v hj hvj=>hv (j+1) t v (by simpa using hj) (by simpa using hvj)
  obtain ⟨y,hy,hrv⟩:=zln 12 fuel t _ d p u h1 h2 hd
  obtain ⟨hs1,hs2⟩:=zfI h1 h3 (hv 0 t v rfl rfl)
  refine ⟨(y,x),⟨hy,hx⟩,by simp [argDs,hlen],by simp [hdl],fun i d' hi=> ?_⟩
  cases i with
  | zero=>
   have:encV u y=d' :=by simpa [argDs] using hi
   subst this
   exact ⟨v,rfl,R1.of_cells hrv hs1 hs2⟩
  | succ i=>simpa using hget i d' (by simpa [argDs] using hi)
theorem zfK (hl:laidOutB P=true) {w' :World} (hb:Below w.heap.size w w'): ∀ (ts:List TypeId) (vs:List Value) (ds:List (DataW H)) (ps:List MemPlace),(ts.all fun t=>P.readableRec t&&decide (t<P.types.size))=true→
  DataW.TrodAll enc P w 0 (fun _=>true) true ts vs ds ps→(∀ p∈ps,p.block<w.heap.size)→DataW.TrodAll enc P w' 0 (fun b=>decide (b<w.heap.size)) true ts vs ds ps
 | [],vs,ds,ps,_,h,_=>by
  obtain ⟨rfl,rfl,rfl⟩:=trodAll_nil h
  exact rfl
 | t::ts,vs,ds,ps,hk,h,hlt=>by
  simp only [List.all_cons,Bool.and_eq_true,decide_eq_true_eq] at hk
  obtain ⟨v,vs',d,ds',p,q,rfl,rfl,rfl,hd,hr⟩:=trodAll_cons h
  exact ⟨p,q,Below.trod hl hk.1.1 hk.1.2 hd hb (fun x hx=>hlt x (by simp [hx])),zfK hl hb ts vs' ds' q hk.2 hr (fun x hx=>hlt x (by simp [hx])),rfl⟩
theorem zqO {W:World} {g:Nat} {v:Value} (h:W.cell? ⟨g,0,none⟩=some v):g<W.heap.size:=by
 rcases Nat.lt_or_ge g W.heap.size with h2 | h2
 ·exact h2
 ·have:W.heap[g]? =none:=Array.getElem?_eq_none h2
  simp [World.cell?,this] at h
theorem glb_of_both {W:World} (l:List Nat) (hl:(List.range P.globals.size).all (fun g=> !zcp P g||l.contains g)=true) (h: ∀ g∈l,∃ m:Int,W.cell? ⟨g,0,none⟩=some (.int .i64 m))
  (ht: ∀ g zs,tabVar P g=some zs→ ∃ e fr,W.heap[g]? =some (.cells (zs.map fun z=>Value.int .u64 z).toArray e fr))
  (he: ∀ g,errVar P g=true→ ∃ tp p e fr,W.heap[g]? =some (.cells #[.iface tp p] e fr)):Glb P W fun b=>b<W.heap.size:=fun g hg=>by
 have hi:zcp P g=true→ ∃ m:Int,W.cell? ⟨g,0,none⟩=some (.int .i64 m):=fun hg=>by
  have hlt:g<P.globals.size:=by
   unfold zcp at hg
   split at hg
   ·rename_i v hv;exact (Array.getElem?_eq_some_iff.1 hv).1
   ·cases hg
  have h1:=List.all_eq_true.1 hl g (List.mem_range.2 hlt)
  rw [hg] at h1
  exact h g (by simpa using h1)
 refine ⟨?_,hi,ht g,he g⟩
 cases hiv:zcp P g with
 | true=>
  obtain ⟨m,hm⟩:=hi hiv
  exact zqO hm
 | false=>
  unfold yQ at hg
  rw [hiv,Bool.false_or] at hg
  rcases (Bool.or_eq_true _ _).mp hg with hg | hg
  ·obtain ⟨zs,hz⟩:=Option.isSome_iff_exists.1 hg
   obtain ⟨e,fr,hh⟩:=ht g zs hz
   exact (Array.getElem?_eq_some_iff.1 hh).1
  ·obtain ⟨tp,p,e,fr,hh⟩:=he g hg
   exact (Array.getElem?_eq_some_iff.1 hh).1
theorem law_post {f:FuncId} {fn:Func} {s:ChangeSpec} {apart:Bool} (hl:laidOutB P=true) {ts:List TypeId} {us:List Ty} (hts:fn.params.toList=ts) (hpar:znH P ts us=true)
  (hread:(ts.all fun t=>P.readableRec t&&decide (t<P.types.size))=true) {rt:TypeId} (hres:fn.resultTypes= #[rt]) (hrt:P.underlying rt=some .bool) (hvars:s.vars=[])
  (hfn: ∀ ds:List (DataW H),ds.length=ts.length→s.fn H (ds++[])={ results:=[.lit (.bool true)],args:=ds })
  (law: ∀ x:Args us,wfArgs us x→Spec P f (argDs us x) (.val .bool true)) (W:World) (hgl:Glb P W fun b=>b<W.heap.size) (base:Nat) (args:Array Value) (ds gs:List (DataW H)) (before:List MemPlace)
  (hval: ∀ (j:Nat) t v,fn.params[j]? =some t→args[j]? =some v→Value.okWide P W .any base t v) (hW:DataW.Whole enc P fn.params.toList s.vars apart W args.toList ds gs before):
  Calls P f args W fun e W' => ∃ v,e= .returned v∧s.post enc P fn apart true false false W args v W' :=by
 have hW' :=hW
 have hblt:=hW.lt
 obtain ⟨p,q,hA,hV,hbe,hfz,hnd⟩:=hW
 rw [hvars] at hV
 obtain ⟨hgs,hq⟩:=trodVars_none hV
 subst hgs;subst hq
 rw [hts] at hA
 obtain ⟨x,hwf,hlen,hdl,hget⟩:=zfJ (base:=base) ts us args.toList ds p hpar hA fun j t v hj hv=>hval j t v (by rw [← hts] at hj;simpa using hj) (by simpa using hv)
 refine ((law x hwf).2 W args (fun b=>b<W.heap.size) (fun _ h=>h) hgl (by simpa using hlen) fun i d' hi=>by simpa using hget i d' hi).mono ?_
 rintro e W' ⟨v,F',G,rfl,hb,_,_,_,hr⟩
 have hv:v= .bool true:=by
  have:[v]=[Value.bool true]:=hr
  simpa using this
 subst hv
 have hbp:before=p:=by simpa using hbe
 subst hbp
 refine ⟨_,rfl,ds,[],before,[],before,[],hW',?_,?_,?_,hb.frame _,fun h=>by cases h⟩
 ·rw [hfn ds hdl,hres]
  exact trodAll_mk1 (shut_bool hrt true)
 ·rw [hfn ds hdl,hts]
  exact zfK hl hb ts _ ds before hread hA hblt
 ·rw [hfn ds hdl,hvars]
  exact rfl
end
end
section
open Go.RowKit Go.ChangeShapes Go.WideShapes
section
variable {H:Type} {enc:TypeId×Value→H}
theorem handed_of_laid {a:Assume} {C:Checked} {os:Os} {f:FuncId} {fn:Func} {s:ChangeSpec} {conds:List PathCond} {apart fresh handsOn again:Bool} {lay:List (String×DataW Unit)}
  (own:ownKnob C.prog.godebug=none) (started:os.Started) (noInit:C.prog.inits.idxOf? f=none) (hfn:C.prog.funcs[f]? =some fn)
  (witness: ∃ (w:World) (tape:Tape) (i:Input),w.os=os∧(w.forCall tape i).Shaped C.prog∧i.vars=[]∧Input.okWide C.prog (w.forCall tape i) .any w.heap.size f i∧
   ((s.pre enc C.prog fn conds apart (w.forCall tape i).memory i.args∧laidMetH C.prog lay (w.forCall tape i).memory)∧sizedMet enc C.prog fn (OpenSpec.ofChange s) apart (w.forCall tape i).memory i.args)∧a.holds C.prog (lone (Frame.enter C.prog f i.args .normal) [] (w.forCall tape i)))
  (contract: ∀ (W:World),W.ShapedOpen C.prog→laidMetH C.prog lay W→ ∀ (base:Nat) (args:Array Value) (ds gs:List (DataW H)) (before:List MemPlace),
   (∀ (j:Nat) t v,fn.params[j]? =some t→args[j]? =some v→Value.okWide C.prog W .any base t v)→
   DataW.Whole enc C.prog fn.params.toList s.vars apart W args.toList ds gs before→
   Calls C.prog f args W fun e W' => ∃ v,e= .returned v∧s.post enc C.prog fn apart fresh handsOn again W args v W'):
  ReturnsInHanded a C os f .any (fun w args=>(s.pre enc C.prog fn conds apart w args∧laidMetH C.prog lay w)∧sizedMet enc C.prog fn (OpenSpec.ofChange s) apart w args) (s.post enc C.prog fn apart fresh handsOn again):=by
 refine returnsInHanded_of_calls own started noInit witness ?_
 intro w tape i _ hshape _ hok hpre _
 obtain ⟨_,_,_,fn',hfn',_,_,_,_,hval⟩:=hok
 have e:fn' =fn:=Option.some.inj (hfn'.symm.trans hfn)
 subst e
 obtain ⟨⟨⟨ds,gs,before,hw,_⟩,hX⟩,_⟩:=hpre
 have hw' :=DataW.Whole.of_heap (w' :=w.forCall tape i) (by rfl) hw
 refine (contract (w.forCall tape i) hshape (laidMetH.of_heap (w:=(w.forCall tape i).memory) (w' :=w.forCall tape i) rfl hX) w.heap.size i.args ds gs before hval hw').mono fun e W' ⟨v,he,hp⟩=> ?_
 subst he
 exact ChangeSpec.post_blind hp
end
end
end Go.Proofs.YthcmfnkganacaaaGreatDoor.Vc
namespace Go.Proofs.YthcmfnkganacaaaGreatDoor
section
open Go.ChangeShapes Go.WideShapes Go.ChangeAt Go.RowKit
theorem Tryz.own:ownKnob Tryz.prog.godebug=none:=by kernel_rfl
theorem Tryz.laidOut:laidOutB Tryz.prog=true:=by kernel_rfl
abbrev laidAll:List (String×DataW Unit):=[("math/bits.deBruijn32tab",Rows.laid_math_bits_deBruijn32tab),("math/bits.deBruijn64tab",Rows.laid_math_bits_deBruijn64tab),("internal/strconv.uint64pow10",Rows.laid_internal_strconv_uint64pow10),("unicode/utf8.acceptRanges",Rows.laid_unicode_utf8_acceptRanges),("strconv.ErrRange",Rows.laid_strconv_ErrRange),("strconv.ErrSyntax",Rows.laid_strconv_ErrSyntax),("unicode/utf8.first",Rows.laid_unicode_utf8_first)]
theorem zdS {W:World} (h:laidMetH Tryz.prog laidAll W):laidMet Tryz.prog laidAll W:=by
 rw [MakeChecks.laidMetH_plain _ _ _ (by kernel_rfl)] at h
 exact h
theorem zh3 {W:World} {n:String} {g:Nat} {cs:Array Value} (hn:Tryz.prog.globalNamed n=some g) (h:W.var? Tryz.prog n=some cs): ∃ e fr,W.heap[g]? =some (.cells cs e fr):=by
 unfold World.var? at h
 rw [hn] at h
 simp only [Option.bind_some] at h
 split at h
 ·rename_i c e fr hh
  cases h
  exact ⟨e,fr,hh⟩
 ·cases h
theorem znI {W:World} (h:laidMetH Tryz.prog laidAll W): ∃ e fr,W.heap[5]? =some (.cells (Lib.pow10Tab.map fun z=>Value.int .u64 z).toArray e fr):=by
 obtain ⟨g,t,cs,fuel,p,hg,ht,hv,hd⟩:=Lib.laidMet.reads (zdS h) (n:= "internal/strconv.uint64pow10") (d:=Rows.laid_internal_strconv_uint64pow10) (by simp [laidAll])
 have hn:Tryz.prog.globalNamed "internal/strconv.uint64pow10" =some 5:=by kernel_rfl
 have hty:(Tryz.prog.globals[5]?).map (·.type)=some 486:=by kernel_rfl
 obtain rfl:=Option.some.inj (hn.symm.trans hg)
 obtain rfl:=Option.some.inj (hty.symm.trans ht)
 have hdat:(Rows.laid_internal_strconv_uint64pow10:DataW Unit)=Lib.tabData .u64 Lib.pow10Tab:=by kernel_rfl
 rw [hdat] at hd
 have hcs:=Lib.cells_of_tab (k:= .u64) Tryz.underlying486 Tryz.underlying304 (by kernel_rfl) (by kernel_rfl) hd
 obtain ⟨e,fr,hh⟩:=zh3 hn hv
 refine ⟨e,fr,?_⟩
 rw [hh,← hcs]
theorem zh4 {W:World} {n nm:String} {d:DataW Unit} {g:Nat} (h:laidMetH Tryz.prog laidAll W) (hm:(n,(.iface nm d:DataW Unit))∈laidAll) (hn:Tryz.prog.globalNamed n=some g) (hty:(Tryz.prog.globals[g]?).map (·.type)=some 200): ∃ tp p e fr,W.heap[g]? =some (.cells #[.iface tp p] e fr):=by
 obtain ⟨g',t,cs,fuel,p,hg,ht,hv,hd⟩:=Lib.laidMet.reads (zdS h) hm
 obtain rfl:=Option.some.inj (hn.symm.trans hg)
 obtain rfl:=Option.some.inj (hty.symm.trans ht)
 obtain ⟨_,u,v,hc,_⟩:=iface_of_trod Tryz.underlying200 hd
 obtain ⟨e,fr,hh⟩:=zh3 hn hv
 refine ⟨u,v,e,fr,?_⟩
 rw [hh]
 have:cs= #[.iface u v]:=Array.toList_inj.1 hc
 rw [this]
theorem Tryz.glb {W:World} (h:W.ShapedOpen Tryz.prog) (hl:laidMetH Tryz.prog laidAll W):Vc.Glb Tryz.prog W fun b=>b<W.heap.size:=by
 have lt_of: ∀ g,(∃ v,Tryz.prog.globals[g]? =some v)→g∈List.range Tryz.prog.globals.size:=fun g ⟨v,hv⟩=>List.mem_range.2 (Array.getElem?_eq_some_iff.1 hv).1
 refine Vc.glb_of_both [0] (by kernel_rfl) (fun g hg=> ?_) (fun g zs hz=> ?_) fun g hg=> ?_
 ·rw [List.mem_singleton.1 hg]
  exact Go.Proofs.cell_of_shapedOpen_int (zero:= #[.int .i64 0]) (t:=3) h (of_decide_eq_true (by kernel_rfl)) (by kernel_rfl) rfl (by kernel_rfl) (by kernel_rfl) Tryz.underlying3
 ·have hall:((List.range Tryz.prog.globals.size).all fun g=>(Vc.tabVar Tryz.prog g).isNone||g==5)=true:=by kernel_rfl
  have h1:=List.all_eq_true.1 hall g (lt_of g (by
   unfold Vc.tabVar at hz
   split at hz
   ·rename_i v hv;exact ⟨v,hv⟩
   ·cases hz))
  rw [hz] at h1
  have hg0:g=5:=by simpa using h1
  subst hg0
  have hz2:Vc.tabVar Tryz.prog 5=some Lib.pow10Tab:=by kernel_rfl
  rw [hz2] at hz
  injection hz with hz
  rw [← hz]
  exact znI hl
 ·have hall:((List.range Tryz.prog.globals.size).all fun g=> !Vc.errVar Tryz.prog g||(g==3||g==4))=true:=by kernel_rfl
  have h1:=List.all_eq_true.1 hall g (lt_of g (by
   unfold Vc.errVar at hg
   split at hg
   ·rename_i v hv;exact ⟨v,hv⟩
   ·cases hg))
  rw [hg] at h1
  have hg0:g=3∨g=4:=by simpa using h1
  rcases hg0 with rfl | rfl
  ·exact zh4 hl (n:= "strconv.ErrSyntax") (.tail _ (.tail _ (.tail _ (.tail _ (.tail _ (.head _)))))) (by kernel_rfl) (by kernel_rfl)
  ·exact zh4 hl (n:= "strconv.ErrRange") (.tail _ (.tail _ (.tail _ (.tail _ (.head _))))) (by kernel_rfl) (by kernel_rfl)
theorem zlo (os:Os):(World.holding Tryz.prog os ⟨#[],#[],[]⟩).layFits Tryz.prog laidAll []=true:=by kernel_rfl
theorem zgI (os:Os):(World.holding Tryz.prog os ⟨#[],#[],[]⟩).layIfaces Tryz.prog laidAll (World.laidAll Tryz.prog os laidAll)=true:=by kernel_rfl
theorem znJ (os:Os) (args:Array Value):laidMetH Tryz.prog laidAll ((World.laidAll Tryz.prog os laidAll).forCall (fun _ _=>0) ⟨#[],args,[]⟩).memory:=by
 rw [MakeChecks.laidMetH_plain _ _ _ (by kernel_rfl)]
 exact laidMet_laidAll args (zlo os) (zgI os)
end
end Go.Proofs.YthcmfnkganacaaaGreatDoor
