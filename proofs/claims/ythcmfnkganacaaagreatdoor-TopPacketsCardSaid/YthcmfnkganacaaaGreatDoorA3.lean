/-
  THE PROGRAM FOLLOWS Go's MIXED ORDERS. No condition.
-/
import Derived.Test.YthcmfnkganacaaaGreatDoorA2
import Derived.Scope
import Derived.LoopN
import Derived.Test.YthcmfnkganacaaaGreatDoorProg
set_option linter.unusedVariables false
set_option linter.unusedSimpArgs false
namespace Go.Proofs.YthcmfnkganacaaaGreatDoor.Vc
section
open Go.RowKit
section
variable {P:Program} {ops:Array Oper} {md:Region.Mode}
def opT (P:Program) (ops:Array Oper) (o:Oper) (a:Act) (w:World) (φ:Value→World→Prop):Prop:=
 match Region.wanted o (yielded ops a.tmps) with
 | false=>φ undef w
 | true=>match z6 o.op with
  | true=> ∃ v,(execOp a.eval o).run P w= .ok (.value v) w∧φ v w
  | false=>match (execOp a.eval o).run P w with
   | .ok (.value v) w' =>φ v w'
   | .ok .skip w' =>φ undef w'
   | .ok (.enter f args) w' =>Calls P f args w' fun e w'' => ∃ v,e= .returned v∧φ v w''
   | _=>False
theorem zZ {o:Oper} {a:Act} {w:World} {φ ψ:Value→World→Prop} (h: ∀ v w',φ v w' →ψ v w') (hh:opT P ops o a w φ):opT P ops o a w ψ:=by
 unfold opT at *
 split
 ·rename_i hw;rw [hw] at hh;exact h _ _ hh
 ·rename_i hw
  rw [hw] at hh
  dsimp only at hh
  split
  ·rename_i hs
   rw [hs] at hh
   obtain ⟨v,h1,h2⟩:=hh
   exact ⟨v,h1,h _ _ h2⟩
  ·rename_i hs
   rw [hs] at hh
   dsimp only at hh
   generalize (execOp a.eval o).run P w=r at *
   cases r with
   | ok n w' =>
    cases n<;>simp only at hh ⊢ <;>first | exact h _ _ hh | exact Calls.mono hh fun e w'' ⟨v,h1,h2⟩=>⟨v,h1,h _ _ h2⟩
   | halt x w' =>simp only at hh
theorem zd4 {o:Oper} (hs: ∀ cs b,o.op≠ .select cs b) (a:Act) (w:World) (dst:Option Nat) (v:Value) (h: ∀ d,dst=some d→d∉o.looksAt ops) (φ:Value→World→Prop):
  opT P ops o (a.put dst v) w φ=opT P ops o a w φ:=by
 unfold opT
 rw [wanted_put o a dst v h,execOp_put o hs a dst v h]
theorem zb3 {op:Op} (h:zct P op=true):z6 op=true:=by
 unfold zct at h
 split at h<;>first | rfl | (cases h;done) | (split at h<;>first | rfl | cases h)
theorem yJ {α:Type} (k:IntKind) (x y:Int) (c:BoundsCode) (w w' :World) (v:α):(boundsPanic k x y c:Sem α).run P w≠ .ok v w' :=by
 unfold boundsPanic
 dsimp only
 split
 all_goals
  rw [Sem.run_bind]
  have hrt: ∀ s w1,(runtimePanic (.bounds (IntKind.i64.wrap x) y s c):Sem α).run P w1≠ .ok v w' :=fun s w1=>by
   unfold runtimePanic
   rw [Sem.run_bind]
   generalize Sem.run P program w1=q
   cases q with
   | ok p w2=>simp [Result.andThen,goPanic]
   | halt e w2=>simp [Result.andThen]
  intro hh
  unfold Result.andThen at hh
  split at hh
  ·exact hrt _ _ hh
  ·cases hh
def Ind (P:Program) {α:Type} (s:Sem α):Prop:=(∃ v,∀ w,s.run P w= .ok v w)∨ ∀ w w' v,s.run P w≠ .ok v w'
theorem Ind.pure {α:Type} (v:α):Ind P (Pure.pure v:Sem α):= .inl ⟨v,fun w=>by simp⟩
theorem Ind.halt {α:Type} (h:Halt):Ind P (Sem.halt h:Sem α):= .inr fun w w' v hr=>by simp [Sem.run] at hr
theorem Ind.bind {α β:Type} {s:Sem α} {f:α→Sem β} (hs:Ind P s) (hf: ∀ v,Ind P (f v)):Ind P (s >>= f):=by
 rcases hs with ⟨v,hv⟩ | hn
 ·rcases hf v with ⟨u,hu⟩ | hn
  ·exact .inl ⟨u,fun w=>by rw [Sem.run_bind,hv];exact hu w⟩
  ·exact .inr fun w w' u hr=>hn w w' u (by rw [Sem.run_bind,hv] at hr;exact hr)
 ·refine .inr fun w w' u hr=> ?_
  rw [Sem.run_bind] at hr
  cases hq:s.run P w with
  | ok v w1=>exact hn _ _ _ hq
  | halt x w1=>rw [hq] at hr;simp [Result.andThen] at hr
theorem Ind.typeInfo (t:TypeId):Ind P (typeInfo t):=by
 cases h:P.info? t with
 | none=>exact .inr fun w w' v hr=>by simp [Go.typeInfo,h] at hr
 | some i=>exact .inl ⟨i,fun w=>by simp [Go.typeInfo,h]⟩
theorem Ind.underlying (t:TypeId):Ind P (underlying t):=by
 cases h:P.underlying t with
 | none=>exact .inr fun w w' v hr=>by simp [Go.underlying,h] at hr
 | some i=>exact .inl ⟨i,fun w=>by simp [Go.underlying,h]⟩
theorem Ind.sizeOf (t:TypeId):Ind P (Go.sizeOf t):=(Ind.typeInfo t).bind fun _=>Ind.pure _
theorem Ind.zeroValue (t:TypeId):Ind P (zeroValue t):=(Ind.typeInfo t).bind fun i=>by
 cases i.zero with
 | some v=>exact Ind.pure _
 | none=>exact Ind.halt _
theorem Ind.mapL {α β:Type} {f:α→Sem β} (hf: ∀ x,Ind P (f x)): ∀ (l:List α),Ind P (l.mapM f)
 | []=>by rw [List.mapM_nil];exact Ind.pure _
 | x::l=>by rw [List.mapM_cons];exact (hf x).bind fun _=>(Ind.mapL hf l).bind fun _=>Ind.pure _
theorem Ind.mapA {α β:Type} {f:α→Sem β} (hf: ∀ x,Ind P (f x)) (l:Array α):Ind P (l.mapM f):=by
 rw [← Array.toArray_toList (xs:=l),List.mapM_toArray]
 show Ind P ((l.toList.mapM f) >>= fun vs=>Pure.pure vs.toArray)
 exact (Ind.mapL hf _).bind fun _=>Ind.pure _
theorem Ind.build (t:TypeId) (parts:Array (Nat×Value)):Ind P (Instr.build t parts):=by
 unfold Instr.build
 refine (Ind.zeroValue t).bind fun z=>(Ind.underlying t).bind fun d=> ?_
 split
 ·refine (Ind.mapA (fun f=>(Ind.sizeOf _).bind fun _=>Ind.pure _) _).bind fun _=> ?_
  split
  ·exact Ind.pure _
  ·exact Ind.halt _
 ·refine (Ind.sizeOf _).bind fun _=> ?_
  split
  ·exact Ind.pure _
  ·exact Ind.halt _
 ·exact Ind.halt _
theorem Ind.asIntOf (v:Value):Ind P (asIntOf v):=by
 unfold Go.asIntOf
 split<;>first | exact Ind.pure _ | exact Ind.halt _
theorem Ind.sliceBound (x:Value) (y:Nat) (c:BoundsCode):Ind P (Instr.sliceBound x y c):=by
 unfold Instr.sliceBound
 refine (Ind.asIntOf x).bind fun ki=> ?_
 obtain ⟨k,i⟩:=ki
 dsimp only
 split
 ·exact Ind.pure _
 ·exact .inr fun w w' v=>yJ _ _ _ _ _ _ _
theorem Ind.sliceBounds (b:Bool) (n c:Nat) (lo hi mx:Option Value):Ind P (Instr.sliceBounds b n c lo hi mx):=by
 unfold Instr.sliceBounds
 cases lo<;>cases hi<;>cases mx<;>dsimp only
 all_goals repeat (first | exact Ind.pure _ | exact Ind.halt _ | refine (Ind.sliceBound _ _ _).bind fun _=> ?_ | refine (Ind.pure _).bind fun _=> ?_ | refine (Ind.halt _).bind fun _=> ?_)
theorem Ind.nilDeref {α:Type}:Ind P (runtimePanic .nilDeref:Sem α):= .inr fun w w' v hr=>by
 unfold runtimePanic at hr
 rw [Sem.run_bind] at hr
 revert hr
 generalize Sem.run P program w=q
 intro hr
 cases q with
 | ok p w2=>simp [Result.andThen,goPanic] at hr
 | halt e w2=>simp [Result.andThen] at hr
theorem Ind.asAddr (x:Value):Ind P (Go.asAddr x):=by
 unfold Go.asAddr
 split<;>first | exact Ind.pure _ | exact Ind.halt _ | exact Ind.nilDeref
theorem Ind.sureAddr (x:Value):Ind P (Instr.sureAddr x):=by
 unfold Instr.sureAddr
 split<;>first | exact Ind.pure _ | exact Ind.halt _
theorem Ind.slice (t:TypeId) (x:Value) (lo hi mx:Option Value):Ind P (Instr.sliceAt t x lo hi mx):=by
 unfold Instr.sliceAt Instr.slice
 refine (Ind.underlying t).bind fun d=> ?_
 split
 ·refine (Ind.sureAddr _).bind fun a=>(Ind.sliceBounds _ _ _ _ _ _).bind fun ⟨l,h,m⟩=> ?_
  exact (Ind.sizeOf _).bind fun _=>Ind.pure _
 ·refine (Ind.underlying t).bind fun d=> ?_
  split
  ·cases mx with
   | none=>exact (Ind.sliceBounds _ _ _ _ _ _).bind fun ⟨l,h,m⟩=>Ind.pure _
   | some v=>exact (Ind.halt _).bind fun _=>(Ind.sliceBounds _ _ _ _ _ _).bind fun ⟨l,h,m⟩=>Ind.pure _
  ·exact (Ind.sliceBounds _ _ _ _ _ _).bind fun ⟨l,h,m⟩=>(Ind.sizeOf _).bind fun _=>Ind.pure _
  ·refine (Ind.asAddr _).bind fun a=>(Ind.underlying _).bind fun d=> ?_
   split
   ·exact (Ind.sliceBounds _ _ _ _ _ _).bind fun ⟨l,h,m⟩=>(Ind.sizeOf _).bind fun _=>Ind.pure _
   ·exact Ind.halt _
  ·exact Ind.halt _
theorem Ind.extract (x:Value) (i:Nat):Ind P (Instr.extract x i):=by
 unfold Instr.extract
 split
 ·split<;>first | exact Ind.pure _ | exact Ind.halt _
 ·exact Ind.halt _
theorem Ind.fieldAt {s:TypeId} {f off:Nat} {t:TypeId} (h:yP P s f=some (off,t)) (x:Value):Ind P (Instr.fieldAt s x f):=by
 by_cases hx: ∃ p,x= .pointer (some p)
 ·obtain ⟨p,rfl⟩:=hx
  exact .inl ⟨_,fun w=>zcy h p w⟩
 ·refine .inr fun w w' v hr=> ?_
  obtain ⟨fs,fd,h1,h2,rfl,rfl,i,h3,h4⟩:=jy h
  cases x
  case pointer q=>
   cases q with
   | some p=>exact hx ⟨p,rfl⟩
   | none=>simp [Instr.fieldAt,run_underlying h1,h2,Instr.sureAddr,stuck,Result.andThen] at hr
  all_goals simp [Instr.fieldAt,run_underlying h1,h2,Instr.sureAddr,stuck,Result.andThen] at hr
theorem Ind.boundsPanic {α:Type} (k:IntKind) (x y:Int) (c:BoundsCode):Ind P (boundsPanic k x y c:Sem α):= .inr fun w w' v=>yJ _ _ _ _ _ _ _
theorem Ind.indexAt (t:TypeId) (x ix:Value):Ind P (Instr.indexAt t x ix):=by
 unfold Instr.indexAt
 refine (Ind.asIntOf ix).bind fun ki=> ?_
 obtain ⟨k,i⟩:=ki
 dsimp only
 refine (Ind.underlying t).bind fun d=> ?_
 have rest: ∀ (base:Option Addr) (len:Nat) (elem:TypeId) (tiny:Bool),Ind P (match base with
   | some a=>
    if 0≤i∧i<len then (do let n ← Go.sizeOf elem;Pure.pure (Value.pointer (some (a.add (i.toNat*n)))))
    else if tiny=true then unsupported (.noEntry "op/indexAddr.an index out of range at an array of length 0 or 1 (ledger 616)")
    else Go.boundsPanic k i len .index
   | none=>Go.boundsPanic k i 0 .index:Sem Value):=fun base len elem tiny=>by
  cases base with
  | none=>exact Ind.boundsPanic _ _ _ _
  | some a=>
   dsimp only
   split
   ·exact (Ind.sizeOf _).bind fun _=>Ind.pure _
   ·split
    ·exact Ind.halt _
    ·exact Ind.boundsPanic _ _ _ _
 split
 ·refine (Ind.sureAddr x).bind fun a=>(Ind.pure _).bind fun b=> ?_
  obtain ⟨base,len,elem⟩:=b
  exact (Ind.underlying t).bind fun d' =>rest base len elem _
 ·refine (Ind.pure _).bind fun b=> ?_
  obtain ⟨base,len,elem⟩:=b
  exact (Ind.underlying t).bind fun d' =>rest base len elem _
 ·exact (Ind.halt _).bind fun b=>by
   obtain ⟨base,len,elem⟩:=b
   exact (Ind.underlying t).bind fun d' =>rest base len elem _
theorem ze3 {α:Type} {s:Sem Value} {w w' :World} {n:Next} (h:(do let v ← s;Pure.pure (Next.value v):Sem Next).run P w= .ok n w'): ∃ v,n= .value v∧s.run P w= .ok v w' :=by
 rw [Sem.run_bind] at h
 generalize hr:s.run P w=r at h
 cases r with
 | ok v w1=>
  have h' :(Result.ok (Next.value v) w1:Result Next)= .ok n w' :=by simpa [Result.andThen] using h
  injection h' with h1 h2
  exact ⟨v,h1.symm,by rw [h2]⟩
 | halt e w1=>simp [Result.andThen] at h
theorem Ind.op {s:Sem Value} {n:Sem Next} (h:Ind P s) (hn:n=(do let v ← s;Pure.pure (Next.value v))):(∃ v,∀ w,n.run P w= .ok (.value v) w)∨ ∀ w v,n.run P w≠ .ok (.value v) w:=by
 subst hn
 rcases h with ⟨v,hv⟩ | h
 ·exact .inl ⟨v,fun w=>by rw [Sem.run_bind,hv];simp [Result.andThen]⟩
 ·refine .inr fun w v hr=> ?_
  obtain ⟨v',_,h2⟩:=ze3 (α:=Value) hr
  exact h _ _ _ h2
theorem zig {o:Oper} (h:zct P o.op=true) (a:Act):(∃ v,∀ w,(execOp a.eval o).run P w= .ok (.value v) w)∨ ∀ w v,(execOp a.eval o).run P w≠ .ok (.value v) w:=by
 unfold zct at h
 split at h
 ·rename_i x ho;exact .inl ⟨a.eval x,fun w=>by unfold execOp;rw [ho];simp⟩
 ·rename_i x ho;exact .inl ⟨a.eval x,fun w=>by unfold execOp;rw [ho];simp⟩
 ·rename_i t x ix ho
  have hu:P.underlying t=some .string:=by
   unfold ql at h
   split at h
   ·rename_i h1;exact h1
   ·cases h
  generalize hx:a.eval x=vx
  generalize hi:a.eval ix=vi
  have he:execOp a.eval o=(do let v ← Instr.index t vx vi;Pure.pure (Next.value v)):=by unfold execOp;rw [ho];dsimp only;rw [hx,hi]
  by_cases hok: ∃ v,∀ w,(Instr.index t vx vi).run P w= .ok v w
  ·obtain ⟨v,hv⟩:=hok
   exact .inl ⟨v,fun w=>by rw [he,Sem.run_bind,hv];simp [Result.andThen]⟩
  ·refine .inr fun w v hr=> ?_
   rw [he] at hr
   obtain ⟨v',h1,h2⟩:=ze3 (α:=Value) hr
   apply hok
   unfold Instr.index at h2 ⊢
   cases vi<;>simp only [asIntOf,unsupported,stuck,Sem.run_bind,Sem.run_pure,Sem.run_halt,Result.andThen_ok,Result.andThen] at h2<;>first | (cases h2;done) | skip
   case int k n=>
    rw [run_underlying hu] at h2
    cases vx<;>simp only [Result.andThen,Result.andThen_ok,stuck,Sem.run_halt] at h2<;>first | (cases h2;done) | skip
    case string s=>
     generalize hb:(if 0≤n then s[n.toNat]? else none)=ob at h2
     cases ob with
     | none=>exact absurd h2 (yJ _ _ _ _ _ _ _)
     | some b=>exact ⟨.int .u8 b.toNat,fun w=>by simp [asIntOf,Sem.run_bind,run_underlying hu,Result.andThen,hb]⟩
   case pointer q=>cases q<;>simp at h2
 ·rename_i t k n y s ho
  generalize hy:a.eval y=vy
  have he:execOp a.eval o=(do let v ← (do eqGuard .mul t (.const (.int k n)) y (.int k n) vy;binOp .mul t (.int k n) vy);Pure.pure (Next.value v)):=by unfold execOp;rw [ho];dsimp only [Act.eval];rw [← hy];rfl
  have hg:eqGuard .mul t (.const (.int k n)) y (.int k n) vy=Pure.pure ():=by unfold eqGuard;simp
  by_cases hok: ∃ m,vy= .int k m
  ·obtain ⟨m,rfl⟩:=hok
   refine .inl ⟨.int k (k.wrap (n*m)),fun w=> ?_⟩
   rw [he,hg]
   simp [binOp,Op.intArith]
  ·refine .inr fun w v hr=> ?_
   rw [he,hg] at hr
   cases vy<;>simp [binOp,stuck,unsupported,Result.andThen] at hr
   case int k' m=>
    by_cases hk:k=k'
    ·exact hok ⟨m,by rw [hk]⟩
    ·simp [hk,stuck] at hr
 ·rename_i t x lo hi mx ho
  exact Ind.op (Ind.slice t (a.eval x) (lo.map a.eval) (hi.map a.eval) (mx.map a.eval)) (by unfold execOp;rw [ho])
 ·rename_i t parts ho
  exact Ind.op (Ind.build t (parts.map fun (i,x)=>(i,a.eval x))) (by unfold execOp;rw [ho])
 ·rename_i x i ho
  exact Ind.op (Ind.extract (a.eval x) i) (by unfold execOp;rw [ho])
 ·rename_i s x f ho
  split at h
  ·rename_i q hq
   obtain ⟨off,t⟩:=q
   exact Ind.op (Ind.fieldAt hq (a.eval x)) (by unfold execOp;rw [ho])
  ·cases h
 ·rename_i t x ix ho
  exact Ind.op (Ind.indexAt t (a.eval x) (a.eval ix)) (by unfold execOp;rw [ho])
 ·cases h
theorem zgR {o:Oper} (h:zct P o.op=true) (a:Act):(∃ v,∀ w φ,opT P ops o a w φ=φ v w)∨ ∀ w φ,¬opT P ops o a w φ:=by
 cases hw:Region.wanted o (yielded ops a.tmps) with
 | false=>exact .inl ⟨undef,fun w φ=>by unfold opT;rw [hw]⟩
 | true=>
  rcases zig h a with ⟨v,hv⟩ | hn
  ·refine .inl ⟨v,fun w φ=> ?_⟩
   unfold opT
   rw [hw,zb3 h]
   dsimp only
   rw [hv]
   exact propext ⟨fun ⟨v',h1,h2⟩=>by injection h1 with h3 h4;injection h3 with h5;rw [h5];exact h2,fun h2=>⟨v,rfl,h2⟩⟩
  ·refine .inr fun w φ hh=> ?_
   unfold opT at hh
   rw [hw,zb3 h] at hh
   obtain ⟨v,h1,_⟩:=hh
   exact hn w v h1
theorem zji {o:Oper} {a:Act} {w:World} {φ:Value→World→Prop} (h:opT P ops o a w φ) (hf: ∀ v w',¬φ v w'):False:=by
 unfold opT at h
 split at h
 ·exact hf _ _ h
 ·split at h
  ·obtain ⟨v,_,h2⟩:=h;exact hf _ _ h2
  ·split at h
   ·exact hf _ _ h
   ·exact hf _ _ h
   ·obtain ⟨e,w'',_,⟨v,_,h2⟩,_⟩:=h []
    exact hf _ _ h2
   ·exact h.elim
theorem zlE {ok oj:Oper} (hc:yI P ops ok oj=true) {a:Act} {w:World} {φ:Value→Value→World→Prop}
  (h:opT P ops ok a w fun v w' =>opT P ops oj a w' fun u w'' =>φ v u w''):opT P ops oj a w fun u w' =>opT P ops ok a w' fun v w'' =>φ v u w'' :=by
 simp only [yI,Bool.and_eq_true,Bool.or_eq_true] at hc
 rcases hc.2 with hss | hp | hp
 ·unfold opT at *
  cases hwk:Region.wanted ok (yielded ops a.tmps)<;>cases hwj:Region.wanted oj (yielded ops a.tmps)<;>simp only [hwk,hwj,hss.1,hss.2] at h ⊢
  ·exact h
  ·exact h
  ·obtain ⟨v,h1,h2⟩:=h;exact ⟨v,h1,h2⟩
  ·obtain ⟨v,h1,u,h2,h3⟩:=h;exact ⟨u,h2,v,h1,h3⟩
 ·rcases zgR (P:=P) (ops:=ops) hp a with ⟨v,hv⟩ | hn
  ·rw [hv] at h
   exact zZ (fun u w' hu=>by rw [hv];exact hu) h
  ·exact absurd h (hn _ _)
 ·rcases zgR (P:=P) (ops:=ops) hp a with ⟨u,hu⟩ | hn
  ·rw [hu]
   exact zZ (fun v w' hv=>by rw [hu] at hv;exact hv) h
  ·exact (zji h fun v w' =>hn _ _).elim
def gOp (P:Program) (ops:Array Oper) (i:Nat) (K:Act→World→Prop) (a:Act) (w:World):Prop:=
 match ops[i]? with
 | none=>K a w
 | some o=>opT P ops o a w fun v w' =>K (a.put o.dst v) w'
theorem qR {i:Nat} {K K' :Act→World→Prop} (h: ∀ a w,K a w→K' a w) {a:Act} {w:World} (hh:gOp P ops i K a w):gOp P ops i K' a w:=by
 unfold gOp at *
 split
 ·rename_i ho;rw [ho] at hh;exact h _ _ hh
 ·rename_i o ho;rw [ho] at hh;exact zZ (fun v w' =>h _ _) hh
theorem zgS (hsel:Region.noSelect ops=true) {k j:Nat} {ok oj:Oper} (hk:ops[k]? =some ok) (hj:ops[j]? =some oj) (hc:yI P ops ok oj=true) {K:Act→World→Prop} {a:Act} {w:World}
  (h:gOp P ops k (gOp P ops j K) a w):gOp P ops j (gOp P ops k K) a w:=by
 have hap:ok.apart ops oj=true:=by simp only [yI,Bool.and_eq_true] at hc;exact hc.1
 obtain ⟨h1,h2,h3⟩:=Oper.apart_spec hap
 unfold gOp at *
 simp only [hk,hj] at h ⊢
 have sk:=fun cs b=>Region.noSelect_spec hsel k ok cs b hk
 have sj:=fun cs b=>Region.noSelect_spec hsel j oj cs b hj
 have h' :opT P ops ok a w fun v w' =>opT P ops oj a w' fun u w'' =>K ((a.put ok.dst v).put oj.dst u) w'' :=zZ (fun v w' hv=>by rw [zd4 sj a w' ok.dst v h1] at hv;exact hv) h
 refine zZ (fun u w' hu=> ?_) (zlE hc h')
 rw [zd4 sk a w' oj.dst u h3]
 exact zZ (fun v w'' hv=>by rw [← Act.put_comm a v u h2];exact hv) hu
theorem zfV {i:Nat} {K:Act→World→Prop} {Q:Exit→Act→World→Prop} {a:Act} {w:World} (h:gOp P ops i K a w):wpOp P ops Q i K a w:=by
 unfold gOp at h
 unfold wpOp
 split
 ·rename_i ho;rw [ho] at h;exact h
 ·rename_i o ho
  rw [ho] at h
  unfold opT at h
  dsimp only at h
  cases hw:Region.wanted o (yielded ops a.tmps) with
  | false=>rw [hw] at h;simpa using h
  | true=>
   rw [hw] at h
   dsimp only at h
   rw [if_pos rfl]
   left
   unfold Oper.wp
   split at h
   ·obtain ⟨v,h1,h2⟩:=h
    rw [h1];exact h2
   ·split at h<;>rename_i hr<;>first | rw [hr] | skip
    ·exact h
    ·exact h
    ·exact Calls.mono h fun e w'' ⟨v,h1,h2⟩=>by rw [h1];exact h2
    ·exact h.elim
def jP (P:Program) (md:Region.Mode) (ops:Array Oper) (Q:Act→World→Prop):Nat→Array Bool→Act→World→Prop
 | 0,listed,a,w=>Region.ready md ops listed=[]∧Q a w
 | f+1,listed,a,w=>(Region.ready md ops listed=[]→Q a w)∧ ∀ i∈Region.ready md ops listed,gOp P ops i (jP P md ops Q f (listed.setIfInBounds i true)) a w
theorem jn {Q:Act→World→Prop} {Q' :Exit→Act→World→Prop} (hQ: ∀ a w,Q a w→Q' .normal a w): ∀ (f:Nat) (listed:Array Bool) (a:Act) (w:World),jP P md ops Q f listed a w→wpAny P md ops Q' f listed a w
 | 0,_,_,_,h=>⟨h.1,hQ _ _ h.2⟩
 | f+1,_,_,_,h=>⟨fun h0=>hQ _ _ (h.1 h0),fun i hi=>zfV (qR (fun a' w' =>jn hQ f _ a' w') (h.2 i hi))⟩
def ja (md:Region.Mode) (ops:Array Oper) (listed:Array Bool):Prop:=
 ∀ (j:Nat) oj,ops[j]? =some oj→listed.getD j false=true→ ∀ e∈oj.after,Region.binds md e=true→listed.getD e.on false=true
theorem ja.set {i:Nat} {listed:Array Bool} (inv:ja md ops listed) (hi:i∈Region.ready md ops listed):ja md ops (listed.setIfInBounds i true):=by
 obtain ⟨_,oi,hoi,hall⟩:=mem_ready.1 hi
 intro j oj hj hl e he hb
 by_cases hij:i=j
 ·subst hij
  have:oj=oi:=Option.some.inj (hj.symm.trans hoi)
  subst this
  exact getD_set_true (hall e he hb)
 ·rw [getD_set_ne false hij] at hl
  exact getD_set_true (inv j oj hj hl e he hb)
theorem yl {listed:Array Bool} {j:Nat} (h:listed.getD j true=false):listed.getD j false=false:=by
 rcases Nat.lt_or_ge j listed.size with h' | h'
 ·simp [h'] at h ⊢;exact h
 ·simp [Array.getElem?_eq_none h'] at h
def zlF (md:Region.Mode) (ops:Array Oper) (k j:Nat):Prop:= ∀ listed,ja md ops listed→listed.getD k false=false→listed.getD j false=false∧j∉Region.ready md ops listed
theorem jY {Q:Act→World→Prop} (hsel:Region.noSelect ops=true) {k:Nat} {ok:Oper} (hk:ops[k]? =some ok):
  ∀ (f:Nat) (listed:Array Bool) (a:Act) (w:World),ja md ops listed→
   (∀ j oj,ops[j]? =some oj→j≠k→listed.getD j true=false→zlF md ops k j∨yI P ops ok oj=true)→
   k∈Region.ready md ops listed→gOp P ops k (jP P md ops Q f (listed.setIfInBounds k true)) a w→jP P md ops Q (f+1) listed a w:=by
 intro f
 induction f with
 | zero=>
  intro listed a w inv hc hr H
  refine ⟨fun h=>(by rw [h] at hr;cases hr),fun j hj=> ?_⟩
  by_cases hjk:j=k
  ·subst hjk;exact H
  ·
   exfalso
   have hj' :=ready_mono hj hjk
   unfold gOp at H
   rw [hk] at H
   dsimp only at H
   have: ∃ v w',(Region.ready md ops (listed.setIfInBounds k true)=[]∧Q (a.put ok.dst v) w'):=by
    unfold opT at H
    split at H
    ·exact ⟨_,_,H⟩
    ·split at H
     ·obtain ⟨v,_,h2⟩:=H;exact ⟨v,_,h2⟩
     ·split at H
      ·exact ⟨_,_,H⟩
      ·exact ⟨_,_,H⟩
      ·obtain ⟨e,w'',_,⟨v,_,h2⟩,_⟩:=H []
       exact ⟨v,w'',h2⟩
      ·exact H.elim
   obtain ⟨v,w',h1,_⟩:=this
   rw [h1] at hj'
   cases hj'
 | succ f ih=>
  intro listed a w inv hc hr H
  refine ⟨fun h=>(by rw [h] at hr;cases hr),fun j hj=> ?_⟩
  by_cases hjk:j=k
  ·subst hjk;exact H
  ·obtain ⟨hjun,oj,hoj,_⟩:=mem_ready.1 hj
   have hkun:=yl (mem_ready.1 hr).1
   rcases hc j oj hoj hjk hjun with hw | hcm
   ·exact absurd hj (hw listed inv hkun).2
   ·have h1:gOp P ops k (gOp P ops j (jP P md ops Q f ((listed.setIfInBounds k true).setIfInBounds j true))) a w:=qR (fun a' w' h=>h.2 j (ready_mono hj hjk)) H
    refine qR (fun a' w' h=>ih (listed.setIfInBounds j true) a' w' (inv.set hj) (fun i oi hoi hik hun=> ?_) (ready_mono hr (Ne.symm hjk)) ?_) (zgS hsel hk hoj hcm h1)
    ·refine hc i oi hoi hik ?_
     by_cases hji:j=i
     ·subst hji;exact hjun
     ·rw [getD_set_ne true hji] at hun;exact hun
    ·rw [Array.setIfInBounds_comm _ _ hjk]
     exact h
def wpGl (P:Program) (ops:Array Oper) (Q:Act→World→Prop):List Oper→Act→World→Prop
 | [],a,w=>Q a w
 | o::r,a,w=>opT P ops o a w fun v w' =>wpGl P ops Q r (a.put o.dst v) w'
theorem jZ {i:Nat}: ∀ {l:List Nat},hasN i l=true→i∈l
 | j::r,h=>by
  simp only [hasN,Bool.or_eq_true] at h
  rcases h with h | h
  ·have:=Nat.eq_of_beq_eq_true h
   subst this
   exact List.mem_cons_self
  ·exact List.mem_cons_of_mem _ (jZ h)
theorem yq {k:Nat}: ∀ (l:List Oper) (j:Nat) (acc:List Nat),(∀ i,l[i]? =ops[j+i]?)→(∀ i∈acc,zlF md ops k i)→ ∀ i∈qD md k j l acc,zlF md ops k i
 | [],j,acc,_,ha=>ha
 | o::r,j,acc,hl,ha=>by
  unfold qD
  refine yq r (j+1) _ (fun i=>by have:=hl (i+1);simpa [Nat.add_assoc,Nat.add_comm 1 i] using this) ?_
  have hoj:ops[j]? =some o:=by simpa using (hl 0).symm
  cases hb:o.after.toList.any fun e=>Region.binds md e&&(Nat.beq e.on k||hasN e.on acc) with
  | false=>exact ha
  | true=>
   intro i hi
   rcases List.mem_cons.1 hi with rfl | hi
   ·obtain ⟨e,he,hb2⟩:=List.any_eq_true.1 hb
    simp only [Bool.and_eq_true,Bool.or_eq_true] at hb2
    obtain ⟨hbind,hor⟩:=hb2
    have he' :e∈o.after:=by simpa using he
    intro listed hcl hun
    have hne:listed.getD e.on false=false:=by
     rcases hor with h | h
     ·have:=Nat.eq_of_beq_eq_true h
      rw [this];exact hun
     ·exact (ha _ (jZ h) listed hcl hun).1
    refine ⟨?_,fun hr=> ?_⟩
    ·cases hj:listed.getD i false with
     | false=>rfl
     | true=>
      have:=hcl i o hoj hj e he' hbind
      rw [hne] at this;cases this
    ·obtain ⟨_,o',ho',hall⟩:=mem_ready.1 hr
     have:o' =o:=Option.some.inj (ho'.symm.trans hoj)
     subst this
     have:=hall e he' hbind
     rw [hne] at this;cases this
   ·exact ha i hi
theorem za1 {ok:Oper} {bl:List Nat}: ∀ (l:List Oper) (j:Nat),(∀ i,l[i]? =ops[j+i]?)→zb7 P ops ok bl j l=true→ ∀ i oi,j≤i→ops[i]? =some oi→i∈bl∨yI P ops ok oi=true
 | [],j,hl,_,i,oi,hji,hoi=>by
  have:=hl (i - j)
  rw [show j+(i - j)=i by omega,hoi] at this
  simp at this
 | o::r,j,hl,h,i,oi,hji,hoi=>by
  simp only [zb7,Bool.and_eq_true,Bool.or_eq_true] at h
  by_cases hij:i=j
  ·subst hij
   have:o=oi:=by
    have h0:=hl 0
    rw [Nat.add_zero,hoi] at h0
    simpa using h0
   subst this
   exact h.1.imp jZ id
  ·exact za1 r (j+1) (fun i=>by have:=hl (i+1);simpa [Nat.add_assoc,Nat.add_comm 1 i] using this) h.2 i oi (by omega) hoi
theorem qj: ∀ (l:List Oper) (k:Nat),(∀ i,l[i]? =ops[k+i]?)→qE md k l=true→ ∀ i oi,k≤i→ops[i]? =some oi→ ∀ e∈oi.after,Region.binds md e=true→e.on<i
 | [],j,hl,_,i,oi,hji,hoi=>by
  have:=hl (i - j)
  rw [show j+(i - j)=i by omega,hoi] at this
  simp at this
 | o::r,j,hl,h,i,oi,hji,hoi=>by
  simp only [qE,Bool.and_eq_true] at h
  by_cases hij:i=j
  ·subst hij
   have:o=oi:=by
    have h0:=hl 0
    rw [Nat.add_zero,hoi] at h0
    simpa using h0
   subst this
   intro e he hb
   have h1:=List.all_eq_true.1 h.1 e (by simpa using he)
   simp only [hb,Bool.not_true,Bool.false_or,Nat.blt_eq] at h1
   exact h1
  ·exact qj r (j+1) (fun i=>by have:=hl (i+1);simpa [Nat.add_assoc,Nat.add_comm 1 i] using this) h.2 i oi (by omega) hoi
structure Upto (ops:Array Oper) (k:Nat) (listed:Array Bool):Prop where
 size:listed.size=ops.size
 lt: ∀ j,j<k→j<ops.size→listed.getD j false=true
 ge: ∀ j,k≤j→j<ops.size→listed.getD j true=false
theorem Upto.set {k:Nat} {listed:Array Bool} (h:Upto ops k listed) (hk:k<ops.size):Upto ops (k+1) (listed.setIfInBounds k true):=by
 refine ⟨by simp [h.size],fun j hj hjs=> ?_,fun j hj hjs=> ?_⟩
 ·by_cases hjk:k=j
  ·subst hjk
   have:k<listed.size:=by rw [h.size];exact hk
   simp [this]
  ·exact getD_set_true (h.lt j (by omega) hjs)
 ·rw [getD_set_ne true (by omega)]
  exact h.ge j (by omega) hjs
theorem Upto.closed (he:qE md 0 ops.toList=true) {k:Nat} {listed:Array Bool} (h:Upto ops k listed):ja md ops listed:=by
 intro j oj hj hl e hea hb
 have hlt:j<ops.size:=(Array.getElem?_eq_some_iff.1 hj).1
 have:=qj ops.toList 0 (by simp) he j oj (by omega) hj e hea hb
 by_cases hjk:j<k
 ·exact h.lt _ (by omega) (by omega)
 ·have:=yl (h.ge j (by omega) hlt)
  rw [hl] at this;cases this
theorem zdu {Q:Act→World→Prop} (hsel:Region.noSelect ops=true) (he:qE md 0 ops.toList=true): ∀ (l:List Oper) (k:Nat) (listed:Array Bool) (a:Act) (w:World),(∀ j,l[j]? =ops[k+j]?)→Upto ops k listed→
  zdW P md ops k l=true→wpGl P ops Q l a w→jP P md ops Q l.length listed a w
 | [],k,listed,a,w,hl,hu,_,h=>by
  refine ⟨?_,h⟩
  apply List.eq_nil_iff_forall_not_mem.2
  intro j hj
  obtain ⟨hun,oj,hoj,_⟩:=mem_ready.1 hj
  have hlt:j<ops.size:=(Array.getElem?_eq_some_iff.1 hoj).1
  have hjk:j<k:=by
   rcases Nat.lt_or_ge j k with h' | h'
   ·exact h'
   ·have:=hl (j - k)
    rw [show k+(j - k)=j by omega,hoj] at this
    simp at this
  have h1:=hu.lt j hjk hlt
  have h2:=yl hun
  rw [h1] at h2;cases h2
 | o::l,k,listed,a,w,hl,hu,hB,h=>by
  have h0:ops[k]? =some o:=by simpa using (hl 0).symm
  have hlt:k<ops.size:=(Array.getElem?_eq_some_iff.1 h0).1
  have hl' : ∀ j,l[j]? =ops[(k+1)+j]? :=fun j=>by have:=hl (j+1);simpa [Nat.add_assoc,Nat.add_comm 1 j] using this
  simp only [zdW,Bool.and_eq_true] at hB
  have hr:k∈Region.ready md ops listed:=mem_ready.2 ⟨hu.ge k (Nat.le_refl _) hlt,o,h0,fun e hea hb=>by
   have:=qj ops.toList 0 (by simp) he k o (by omega) h0 e hea hb
   exact hu.lt _ this (by omega)⟩
  refine jY hsel h0 l.length listed a w (hu.closed he) (fun j oj hoj hjk hun=> ?_) hr ?_
  ·have hjlt:j<ops.size:=(Array.getElem?_eq_some_iff.1 hoj).1
   have hge:k+1≤j:=by
    rcases Nat.lt_or_ge j k with h' | h'
    ·have h1:=hu.lt j h' hjlt
     have h2:=yl hun
     rw [h1] at h2;cases h2
    ·omega
   exact (za1 l (k+1) hl' hB.1 j oj hge hoj).imp (fun hb=>yq l (k+1) [] hl' (by simp) j hb) id
  ·unfold gOp
   rw [h0]
   exact zZ (fun v w' hv=>zdu hsel he l (k+1) _ _ _ hl' (hu.set hlt) hB.2 hv) h
theorem zax {id:Nat} {Q:Exit→Act→World→Prop} {a:Act} {w:World} (hm:P.follows .mixedOrders=true) (hB:zlu P ops=true)
  (h:wpGl P ops (fun a' w' =>Q .normal a' w') ops.toList a { w with drawn:=w.drawn+1 }):(Code.region id ops true).wp P Q a w:=by
 simp only [zlu,Bool.and_eq_true] at hB
 refine wp_region_any hm (jn (Q:=fun a' w' =>Q .normal a' w') (fun _ _ h=>h) _ _ _ _ ?_)
 have:=zdu (P:=P) (md:= .any) (Q:=fun a' w' =>Q .normal a' w') hB.1.1 hB.1.2 ops.toList 0 (Array.replicate ops.size false) a { w with drawn:=w.drawn+1 } (by simp)
  ⟨by simp,fun j hj=>by omega,fun j _ hj=>by simp [hj]⟩ hB.2 h
 simpa using this
end
end
section
open Go.RowKit
section
variable {P:Program} {w0:W0 P} {w:World} {F0 F F1:Nat→Prop} {M:Nat→Option MO} {σ:St} {a:Act} {o:Oper} {K:St→Prop} {μ:List Nat}
variable {next:Act→World→Prop} {Q:Exit→Act→World→Prop}
theorem EY.wp (h:EY P w0 F0 a w o K) (hn: ∀ σ' F' M' a' w',K σ' →Inv w0 F0 F' M' σ' a' w' →next a' w'):o.wp P a w next Q:=by
 obtain ⟨w',σ',F',M',hK,⟨v,h1,h2⟩ | ⟨h1,h2⟩⟩:=h
 ·unfold Oper.wp;rw [h1,Oper.upon_value];exact hn _ _ _ _ _ hK h2
 ·unfold Oper.wp;rw [h1,Oper.upon_skip];exact hn _ _ _ _ _ hK h2
theorem QS.wp (h:QS P w0 F0 a w o K) (hn: ∀ σ' F' M' a' w',K σ' →Inv w0 F0 F' M' σ' a' w' →next a' w'):o.wp P a w next Q:=by
 obtain ⟨v,σ',F',M',hK,h1,h2⟩:=h
 unfold Oper.wp;rw [h2 w (Below.refl _ _),Oper.upon_value];exact hn _ _ _ _ _ hK h1
theorem CY.wp (h:CY P w0 F0 a w o K) (hn: ∀ σ' F' M' a' w',K σ' →Inv w0 F0 F' M' σ' a' w' →next a' w'):o.wp P a w next Q:=by
 obtain ⟨g,vs,h1,h2⟩:=h
 unfold Oper.wp
 rw [h1,Oper.upon_enter]
 refine h2.mono fun e w' ⟨v,σ',F',M',he,hK,hi⟩=> ?_
 subst he
 exact hn _ _ _ _ _ hK hi
theorem za2 (h:Inv w0 F0 F M σ a w) (hs:z6 o.op=true) (hk:wpo P μ o σ K):QS P w0 F0 a w o K:=by
 have rest:wpq P σ o.op (fun d=>K (σ.put o.dst d))→QS P w0 F0 a w o K:=fun hq=>(zi2 h hq).qs h
 unfold wpo at hk
 cases ho:o.op<;>rw [ho] at hs hk<;>simp only [z6] at hs<;>first | (cases hs;done) | skip
 case slice t x lo hi mx=>
  dsimp only at hk
  split at hk
  ·rename_i i hx
   split at hk
   ·exact zoG h ho hx hk
   ·exact zoF h ho hx hk
  ·exact rest (by rw [ho];exact hk)
 case makeFunc fn first cap=>
  cases fn with
  | func g=>exact zq2 h ho hk
  | _=>exact (show False from hk).elim
 case call c=>
  obtain ⟨callee,args,ats⟩:=c
  cases callee with
  | value f=>simp at hs
  | invoke r m=>simp at hs
  | builtin b=>cases b<;>simp at hs<;>exact rest (by rw [ho];exact hk)
 all_goals exact rest (by rw [ho];exact hk)
theorem zjj (h:Inv w0 F0 F M σ a w) (hk:wpo P μ o σ K) (hn: ∀ σ' F' M' a' w',K σ' →Inv w0 F0 F' M' σ' a' w' →next a' w'):o.wp P a w next Q:=by
 by_cases hs:z6 o.op=true
 ·exact (za2 h hs hk).wp hn
 ·have hk0:=hk
  unfold wpo at hk
  cases ho:o.op<;>rw [ho] at hs hk<;>first | (exact (show False from hk).elim) | (simp [z6] at hs;done) | skip
  case alloc e=>exact (zi3 h ho hk).wp hn
  case box e x=>exact (zq1 h ho hk).wp hn
  case buildSlice t len parts=>exact (zb1 h ho hk).wp hn
  case store t p x=>
   dsimp only at hk
   split at hk
   ·rename_i hd
    exact (zi7 h ho hd hk).wp hn
   ·exact hk.elim
  case call c=>
   obtain ⟨callee,args,ats⟩:=c
   cases callee with
   | value f=>
    exact (zjh h ho rfl hk).wp hn
   | invoke r m=>exact (show False from hk).elim
   | builtin b=>
    cases b<;>first | (exact (show False from hk).elim) | (simp [z6] at hs;done) | skip
    case append=>
     dsimp only at hk
     split at hk
     ·rename_i s x t t' h1 h2
      split at hk
      ·rename_i ys hys
       exact (ze0 h ho rfl h1 h2 hys hk).wp hn
      ·exact (zgP h ho rfl h1 h2 hk).wp hn
     ·exact hk.elim
theorem zdv {ops:Array Oper} {j t:Nat} {x:Bool} (h:Inv w0 F0 F M σ a w) (hg:jf ops.toList j=some t) (hf:find σ.sl t= .val .bool x):yielded ops a.tmps j=some x∧a.tmps.getD t undef= .bool x:=by
 have hr:=h.slots t
 rw [hf] at hr
 have hv:=hr.bool
 refine ⟨?_,hv⟩
 have ht:a.tmps[t]? =some (.bool x):=by
  by_cases hlt:t<a.tmps.size
  ·rw [Array.getElem?_eq_getElem hlt]
   simp only [Array.getD,hlt,dif_pos] at hv
   exact congrArg some hv
  ·simp only [Array.getD,hlt,dif_neg,not_false_iff,undef] at hv
   cases hv
 have hd:(ops[j]?).bind (·.dst)=some t:=by
  unfold jf at hg
  rw [Array.getElem?_toList] at hg
  split at hg
  ·rename_i q hq;rw [hq];exact hg
  ·cases hg
 unfold yielded
 rw [hd]
 simp [ht]
theorem ze4 {ops:Array Oper} {j t:Nat} (h:Inv w0 F0 F M σ a w) (hg:jf ops.toList j=some t) (hf:find σ.sl t= .und):yielded ops a.tmps j=none:=by
 have hr:=h.slots t
 rw [hf] at hr
 have hv:a.tmps.getD t undef=undef:=hr
 have hd:(ops[j]?).bind (·.dst)=some t:=by
  unfold jf at hg
  rw [Array.getElem?_toList] at hg
  split at hg
  ·rename_i q hq;rw [hq];exact hg
  ·cases hg
 unfold yielded
 rw [hd]
 by_cases hlt:t<a.tmps.size
 ·have ht:a.tmps[t]? =some undef:=by
   rw [Array.getElem?_eq_getElem hlt]
   simp only [Array.getD,hlt,dif_pos] at hv
   exact congrArg some hv
  simp [ht,undef]
 ·have ht:a.tmps[t]? =none:=Array.getElem?_eq_none (by omega)
  simp [ht]
theorem Inv.und (h:Inv w0 F0 F M σ a w) (dst:Option Nat):Inv w0 F0 F M (σ.put dst .und) (a.put dst undef) w:=h.put (d:= .und) rfl dst
inductive Step (P:Program) (μ:List Nat) (ops:Array Oper) (o:Oper) (r:List Oper) (K:St→Prop) (w0:W0 P) (F0:Nat→Prop) (a:Act) (w:World):Prop where
 | run {τ:St} {F2:Nat→Prop} {M2:Nat→Option MO} (hi:Inv w0 F0 F2 M2 τ a w) (hw:Region.wanted o (yielded ops a.tmps)=true) (hk:wpo P μ o τ fun σ' =>wpr P μ ops.toList r σ' K)
 | skip {τ:St} {F2:Nat→Prop} {M2:Nat→Option MO} (hi:Inv w0 F0 F2 M2 τ (a.put o.dst undef) w) (hw:Region.wanted o (yielded ops a.tmps)=false) (hk:wpr P μ ops.toList r τ K)
theorem zd5 {ops:Array Oper} {r:List Oper} (h:Inv w0 F0 F M σ a w) (hk:wpr P μ ops.toList (o::r) σ K):Step P μ ops o r K w0 F0 a w:=by
 unfold wpr at hk
 split at hk
 ·rename_i hg
  exact .run h (by simp [Region.wanted,hg]) hk
 ·rename_i j want hg
  split at hk
  ·rename_i t ht
   split at hk
   ·rename_i x hf
    obtain ⟨hy,hv⟩:=zdv h ht hf
    split at hk
    ·cases x with
     | true=>exact .run (h.lit hv) (by simp [Region.wanted,hg,hy]) hk
     | false=>exact .skip ((h.lit hv).und _) (by simp [Region.wanted,hg,hy]) hk
    ·cases x with
     | true=>exact .skip ((h.lit hv).und _) (by simp [Region.wanted,hg,hy]) hk
     | false=>exact .run (h.lit hv) (by simp [Region.wanted,hg,hy]) hk
   ·rename_i hf
    have hy:=ze4 h ht hf
    exact .skip (h.und _) (by simp [Region.wanted,hg,hy]) hk
   ·exact hk.elim
  ·exact hk.elim
theorem za3 {ops:Array Oper}: ∀ {l:List Oper} {σ:St} {F:Nat→Prop} {M:Nat→Option MO} {a:Act} {w:World},Inv w0 F0 F M σ a w→wpr P μ ops.toList l σ K→
  (∀ σ' F' M' a' w',K σ' →Inv w0 F0 F' M' σ' a' w' →Q .normal a' w')→wpList P ops Q l a w
 | [],σ,F,M,a,w,h,hk,hQ=>hQ _ _ _ _ _ hk h
 | o::r,σ,F,M,a,w,h,hk,hQ=>by
  unfold wpList
  cases zd5 h hk with
  | run hi hw hk' =>
   rw [if_pos hw]
   exact .inl (zjj hi hk' fun σ' F' M' a' w' hK hI=>za3 hI hK hQ)
  | skip hi hw hk' =>
   rw [if_neg (by rw [hw];exact Bool.false_ne_true)]
   exact za3 hi hk' hQ
theorem zd6 {op:Op} (h:zdV P μ op=true): ∃ g args ats t u,op= .call { callee:= .value (.func g),args:=args,argTypes:=ats }∧zls P g=some [t]∧tyOf P 12 t=some u∧u.flat=true∧
  (has μ (some (1000000+g))=false∧has μ (some (2000000+g))=false)∧has μ (some (4000000+g))=false∧has μ (some (5000000+g))=false:=by
 unfold zdV at h
 split at h
 ·rename_i g args ats
  split at h
  ·rename_i hm1 hm2
   split at h
   ·rename_i t hr
    split at h
    ·rename_i u hu;exact ⟨g,args,ats,t,u,rfl,hr,hu,h,Bool.or_eq_false_iff.1 hm1,Bool.or_eq_false_iff.1 hm2⟩
    ·cases h
   ·cases h
  ·cases h
 ·cases h
theorem zfW {f:FuncId} {vs:Array Value} {R:Value→World→Prop} (h:Calls P f vs w fun e w' => ∃ v,e= .returned v∧R v w'): ∃ v w',R v w' :=by
 obtain ⟨e,w',_,⟨v,_,hr⟩,_⟩:=h []
 exact ⟨v,w',hr⟩
theorem za4 {ops:Array Oper}: ∀ {l:List Oper} {σ:St} {F:Nat→Prop} {M:Nat→Option MO} {a:Act},zb6 P μ l=true→Inv w0 F0 F M σ a w→wpr P μ ops.toList l σ K→
  wpQuiet P ops (fun w' =>Below w.heap.size w w') (fun a' => ∃ σ' F' M',K σ' ∧Inv w0 F0 F' M' σ' a' w) l a
 | [],σ,F,M,a,_,h,hk=>⟨σ,F,M,hk,h⟩
 | o::r,σ,F,M,a,hq,h,hk=>by
  simp only [zb6,Bool.and_eq_true,Bool.or_eq_true] at hq
  unfold wpQuiet
  cases zd5 h hk with
  | skip hi hw hk' =>
   rw [if_neg (by rw [hw];exact Bool.false_ne_true)]
   exact za4 hq.2 hi hk'
  | @run σ1 F1 M1 hi hw hk' =>
   rw [if_pos hw]
   rcases hq.1 with hs | hfc
   ·obtain ⟨v,σ',F',M',hK,hI,hrun⟩:=za2 hi hs hk'
    refine ⟨v,fun w' hw' => ?_,za4 hq.2 hI hK⟩
    unfold Oper.quietAt
    rw [hrun w' hw']
    exact ⟨rfl,rfl⟩
   ·obtain ⟨g,args,ats,t,u,ho,hrt,hty,hfl,hm1,hm2⟩:=zd6 hfc
    unfold wpo at hk'
    rw [ho] at hk'
    dsimp only at hk'
    have hev:ev σ1 (.func g)= .fn (.func g):=rfl
    rw [hev] at hk'
    unfold zlt ziS at hk'
    simp only [hrt] at hk'
    have hcd: ∃ x:u.I,Spec P g (zL σ1.ob (evs σ1 args.toList)) (encV u x)∧wpr P μ ops.toList r (σ1.put o.dst (encV u x)) K:=by
     unfold zlr at hk'
     simp only [hm1.1,hm1.2,hm2.1,hm2.2] at hk'
     unfold ziR at hk'
     simp only [hty] at hk'
     cases u with
     | list v=>cases hfl
     | int k=>exact hk'
     | bool=>exact hk'
     | str=>exact hk'
     | flt=>exact hk'
     | err=>cases hfl
     | nfn=>cases hfl
     | fn0 _=>cases hfl
     | clo _ _=>cases hfl
     | ref _=>cases hfl
     | sum _ _=>cases hfl
     | pair p q=>
      obtain ⟨x,h1,h2⟩:=hk'
      rw [hfl] at h2
      exact ⟨x,h1,h2⟩
    obtain ⟨x,hs,hK⟩:=hcd
    have calls: ∀ w',Below w.heap.size w w' →Calls P g (args.map a.eval) w' fun e w'' => ∃ v,e= .returned v∧((∃ F',R1 w'' F' noM v (encV u x))∧Below w.heap.size w w''):=fun w' hb=>by
     have hi' :=hi.grow hb
     refine (hs.2 w' (args.map a.eval) (allF F1 M1) (zfU hi') (hi'.glb.imp fun _ hg=>Or.inl hg) (by rw [yc,qH];simp) fun i d' hdi=> ?_).mono fun e w'' ⟨v,F',G,he,hb',_,_,_,hr⟩=> ?_
     ·obtain ⟨v,h1,h2⟩:=zlD hi' args.toList i d' hdi
      exact ⟨v,by simpa using h1,h2⟩
     ·exact ⟨v,he,⟨F',zfT hr⟩,hb.trans (hb'.mono hb.size)⟩
    obtain ⟨v0,w1,⟨F2,hv0⟩,_⟩:=zfW (calls w (Below.refl _ _))
    refine ⟨v0,fun w' hw' => ?_,za4 hq.2 (hi.put (R.of1 (hv0.flat hfl)) o.dst) hK⟩
    unfold Oper.quietAt
    rw [zlC hi ho rfl rfl hs w']
    refine ⟨rfl,(calls w' hw').mono fun e w'' ⟨v,he,⟨F',hr⟩,hb⟩=>⟨?_,hb⟩⟩
    rw [he,hr.flat_uniq hv0 hfl]
def GY (P:Program) (w0:W0 P) (F0:Nat→Prop) (a:Act) (w:World) (o:Oper) (K:St→Prop):Prop:=
 match (execOp a.eval o).run P w with
 | .ok (.value v) w' => ∃ σ' F' M',K σ' ∧Inv w0 F0 F' M' σ' (a.put o.dst v) w'
 | .ok .skip w' => ∃ σ' F' M',K σ' ∧Inv w0 F0 F' M' σ' (a.put o.dst undef) w'
 | .ok (.enter f args) w' =>Calls P f args w' fun e w'' => ∃ v,e= .returned v∧ ∃ σ' F' M',K σ' ∧Inv w0 F0 F' M' σ' (a.put o.dst v) w''
 | _=>False
theorem EY.gy (h:EY P w0 F0 a w o K):GY P w0 F0 a w o K:=by
 obtain ⟨w',σ',F',M',hK,⟨v,h1,h2⟩ | ⟨h1,h2⟩⟩:=h
 ·unfold GY;rw [h1];exact ⟨σ',F',M',hK,h2⟩
 ·unfold GY;rw [h1];exact ⟨σ',F',M',hK,h2⟩
theorem CY.gy (h:CY P w0 F0 a w o K):GY P w0 F0 a w o K:=by
 obtain ⟨g,vs,h1,h2⟩:=h
 unfold GY;rw [h1]
 exact h2.mono fun e w' ⟨v,σ',F',M',he,hK,hi⟩=>⟨v,he,σ',F',M',hK,hi⟩
theorem znM (h:Inv w0 F0 F M σ a w) (hs:z6 o.op=false) (hk:wpo P μ o σ K):GY P w0 F0 a w o K:=by
 unfold wpo at hk
 cases ho:o.op<;>rw [ho] at hs hk<;>first | (exact (show False from hk).elim) | (simp [z6] at hs;done) | skip
 case alloc e=>exact (zi3 h ho hk).gy
 case box e x=>exact (zq1 h ho hk).gy
 case buildSlice t len parts=>exact (zb1 h ho hk).gy
 case store t p x=>
  dsimp only at hk
  split at hk
  ·rename_i hd
   exact (zi7 h ho hd hk).gy
  ·exact hk.elim
 case call c=>
  obtain ⟨callee,args,ats⟩:=c
  cases callee with
  | value f=>
   exact (zjh h ho rfl hk).gy
  | invoke r m=>exact (show False from hk).elim
  | builtin b=>
   cases b<;>first | (exact (show False from hk).elim) | (simp [z6] at hs;done) | skip
   case append=>
    dsimp only at hk
    split at hk
    ·rename_i s x t t' h1 h2
     split at hk
     ·rename_i ys hys
      exact (ze0 h ho rfl h1 h2 hys hk).gy
     ·exact (zgP h ho rfl h1 h2 hk).gy
    ·exact hk.elim
theorem zfX {ops:Array Oper}: ∀ {l:List Oper} {σ:St} {F:Nat→Prop} {M:Nat→Option MO} {a:Act} {w:World},Inv w0 F0 F M σ a w→wpr P μ ops.toList l σ K→
  wpGl P ops (fun a' w' => ∃ σ' F' M',K σ' ∧Inv w0 F0 F' M' σ' a' w') l a w
 | [],σ,F,M,a,w,h,hk=>⟨σ,F,M,hk,h⟩
 | o::r,σ,F,M,a,w,h,hk=>by
  unfold wpGl opT
  cases zd5 h hk with
  | skip hi hw hk' =>
   rw [hw]
   exact zfX hi hk'
  | @run σ1 F1 M1 hi hw hk' =>
   rw [hw]
   dsimp only
   cases hs:z6 o.op with
   | true=>
    obtain ⟨v,σ',F',M',hK,hI,hrun⟩:=za2 hi hs hk'
    exact ⟨v,hrun w (Below.refl _ _),zfX hI hK⟩
   | false=>
    have hg:=znM hi hs hk'
    unfold GY at hg
    dsimp only
    generalize (execOp a.eval o).run P w=r' at *
    cases r' with
    | ok n w' =>
     cases n<;>simp only at hg ⊢
     case value v=>obtain ⟨σ',F',M',hK,hI⟩:=hg;exact zfX hI hK
     case skip=>obtain ⟨σ',F',M',hK,hI⟩:=hg;exact zfX hI hK
     case enter f args=>exact hg.mono fun e w'' ⟨v,he,σ',F',M',hK,hI⟩=>⟨v,he,zfX hI hK⟩
    | halt x w' =>simp only at hg
theorem zlG {id:Nat} {ops:Array Oper} (hm:P.follows .mixedOrders=true) (h:Inv w0 F0 F M σ a w) (hd:zgK P μ ops=true) (hk:wpr P μ ops.toList ops.toList σ K)
  (hQ: ∀ σ' F' M' a' w',K σ' →Inv w0 F0 F' M' σ' a' w' →Q .normal a' w'):(Code.region id ops true).wp P Q a w:=by
 unfold zgK at hd
 simp only [Bool.or_eq_true,Bool.and_eq_true] at hd
 rcases hd with ⟨hq,hB⟩ | hT
 ·refine wp_region_quiet (C:=fun w' =>Below w.heap.size w w') hm hB ((Below.refl _ _).drew) ?_
  have:=za4 hq h hk
  have mono: ∀ (l:List Oper) (a:Act),wpQuiet P ops (fun w' =>Below w.heap.size w w') (fun a' => ∃ σ' F' M',K σ' ∧Inv w0 F0 F' M' σ' a' w) l a→
    wpQuiet P ops (fun w' =>Below w.heap.size w w') (fun a' => ∀ w',Below w.heap.size w w' →Q .normal a' w') l a:=by
   intro l
   induction l with
   | nil=>intro a ⟨σ',F',M',hK,hI⟩ w' hb;exact hQ _ _ _ _ _ hK (hI.grow hb)
   | cons o r ih=>
    intro a hh
    unfold wpQuiet at hh ⊢
    split
    ·rename_i hw
     rw [if_pos hw] at hh
     exact Oper.quiet_mono ih hh
    ·rename_i hw
     rw [if_neg hw] at hh
     exact ih _ hh
  exact mono _ _ this
 ·have hdrew:Inv w0 F0 F M σ a { w with drawn:=w.drawn+1 }:=h.grow (Below.refl _ _).drew
  refine zax hm hT ?_
  have mono: ∀ (l:List Oper) (a:Act) (w:World),wpGl P ops (fun a' w' => ∃ σ' F' M',K σ' ∧Inv w0 F0 F' M' σ' a' w') l a w→wpGl P ops (fun a' w' =>Q .normal a' w') l a w:=by
   intro l
   induction l with
   | nil=>intro a w ⟨σ',F',M',hK,hI⟩;exact hQ _ _ _ _ _ hK hI
   | cons o r ih=>intro a w hh;exact zZ (fun v w' =>ih _ _) hh
  exact mono _ _ _ (zfX hdrew hk)
structure Dn (ops:Array Oper) (done:List Nat) (listed:Array Bool):Prop where
 size:listed.size=ops.size
 eq: ∀ j,j<ops.size→listed.getD j true=hasN j done
theorem Dn.lo {ops:Array Oper} {done:List Nat} {listed:Array Bool} (h:Dn ops done listed) {j:Nat} (hj:j<ops.size):listed.getD j false=hasN j done:=by
 have:=h.eq j hj
 have hl:j<listed.size:=by rw [h.size];exact hj
 simpa [hl] using this
theorem Dn.set {ops:Array Oper} {done:List Nat} {listed:Array Bool} (h:Dn ops done listed) {k:Nat} (hk:k<ops.size):Dn ops (k::done) (listed.setIfInBounds k true) where
 size:=by simp [h.size]
 eq:=fun j hj=>by
  have hl:k<listed.size:=by rw [h.size];exact hk
  by_cases hjk:k=j
  ·subst hjk
   simp [hasN,hl]
  ·rw [getD_set_ne true hjk,h.eq j hj]
   have:Nat.beq j k=false:=by
    cases hb:Nat.beq j k with
    | false=>rfl
    | true=>exact absurd (Nat.eq_of_beq_eq_true hb).symm hjk
   simp [hasN,this]
theorem qI {md:Region.Mode} {ops:Array Oper} {done:List Nat} {listed:Array Bool} (hd:Dn ops done listed) (he:qE md 0 ops.toList=true): ∀ (l:List Oper) (j:Nat),(∀ i,l[i]? =ops[j+i]?)→ ∀ i,i∈rdyL md done j l↔j≤i∧i∈Region.ready md ops listed
 | [],j,hl,i=>by
  constructor
  ·intro h;cases h
  ·rintro ⟨hji,hi⟩
   obtain ⟨_,o,ho,_⟩:=mem_ready.1 hi
   have:=hl (i - j)
   rw [show j+(i - j)=i by omega,ho] at this
   simp at this
 | o::r,j,hl,i=>by
  have h0:ops[j]? =some o:=by simpa using (hl 0).symm
  have hlt:j<ops.size:=(Array.getElem?_eq_some_iff.1 h0).1
  have ih:=qI hd he r (j+1) (fun i=>by have:=hl (i+1);simpa [Nat.add_assoc,Nat.add_comm 1 i] using this) i
  have hready:j∈Region.ready md ops listed↔(!hasN j done&&o.after.toList.all (fun e=> !Region.binds md e||hasN e.on done))=true:=by
   rw [mem_ready,hd.eq j hlt]
   simp only [h0,Option.some.injEq,exists_eq_left',Bool.and_eq_true,Bool.not_eq_true',List.all_eq_true,Bool.or_eq_true]
   constructor
   ·rintro ⟨h1,h2⟩
    refine ⟨h1,fun e hme=> ?_⟩
    have hme' :e∈o.after:=Array.mem_toList_iff.1 hme
    cases hb:Region.binds md e with
    | false=>exact .inl rfl
    | true=>
     right
     have:=qj ops.toList 0 (by simp) he j o (by omega) h0 e hme' hb
     rw [← hd.lo (by omega)];exact h2 e hme' hb
   ·rintro ⟨h1,h2⟩
    refine ⟨h1,fun e hme hb=> ?_⟩
    rcases h2 e (Array.mem_toList_iff.2 hme) with h3 | h3
    ·rw [hb] at h3;cases h3
    ·have:=qj ops.toList 0 (by simp) he j o (by omega) h0 e hme hb
     rw [hd.lo (by omega)];exact h3
  unfold rdyL
  cases hc:(!hasN j done&&o.after.toList.all (fun e=> !Region.binds md e||hasN e.on done)) with
  | true=>
   simp only [cond_true,List.mem_cons]
   rw [ih]
   constructor
   ·rintro (rfl | ⟨h1,h2⟩)
    ·exact ⟨Nat.le_refl _,hready.2 hc⟩
    ·exact ⟨by omega,h2⟩
   ·rintro ⟨h1,h2⟩
    by_cases hij:i=j
    ·exact .inl hij
    ·exact .inr ⟨by omega,h2⟩
  | false=>
   simp only [cond_false]
   rw [ih]
   constructor
   ·rintro ⟨h1,h2⟩;exact ⟨by omega,h2⟩
   ·rintro ⟨h1,h2⟩
    refine ⟨?_,h2⟩
    rcases Nat.lt_or_eq_of_le h1 with h3 | h3
    ·exact h3
    ·subst h3;rw [hready.1 h2] at hc;cases hc
theorem jC {ops:Array Oper} {done bl:List Nat} {k:Nat} {ok:Oper}: ∀ (l:List Oper) (j:Nat),(∀ i,l[i]? =ops[j+i]?)→zeV P ops done bl k ok j l=true→
  ∀ i oi,j≤i→ops[i]? =some oi→hasN i done=true∨i=k∨i∈bl∨yI P ops ok oi=true
 | [],j,hl,_,i,oi,hji,hoi=>by
  have:=hl (i - j)
  rw [show j+(i - j)=i by omega,hoi] at this
  simp at this
 | o::r,j,hl,h,i,oi,hji,hoi=>by
  simp only [zeV,Bool.and_eq_true,Bool.or_eq_true] at h
  by_cases hij:i=j
  ·subst hij
   have:o=oi:=by
    have h0:=hl 0
    rw [Nat.add_zero,hoi] at h0
    simpa using h0
   subst this
   rcases h.1 with h1 | h1 | h1 | h1
   ·exact .inl h1
   ·exact .inr (.inl (Nat.eq_of_beq_eq_true h1))
   ·exact .inr (.inr (.inl (jZ h1)))
   ·exact .inr (.inr (.inr h1))
  ·exact jC r (j+1) (fun i=>by have:=hl (i+1);simpa [Nat.add_assoc,Nat.add_comm 1 i] using this) h.2 i oi (by omega) hoi
theorem zbJ {md:Region.Mode} {ops:Array Oper} {done:List Nat}: ∀ {l:List Nat} {k:Nat},zh6 P md ops done l=some k→k∈l∧zcu P md ops done k=true
 | i::r,k,h=>by
  unfold zh6 at h
  cases hf:zcu P md ops done i with
  | true=>
   rw [hf] at h
   have:i=k:=by simpa using h
   subst this
   exact ⟨List.mem_cons_self,hf⟩
  | false=>
   rw [hf] at h
   obtain ⟨h1,h2⟩:=zbJ (l:=r) h
   exact ⟨List.mem_cons_of_mem _ h1,h2⟩
theorem zcH {step:Nat→Prop}: ∀ {l:List Nat},allA step l→ ∀ i∈l,step i
 | [i],h,j,hj=>by
  have:j=i:=by simpa using hj
  subst this;exact h
 | i::k::r,h,j,hj=>by
  rcases List.mem_cons.1 hj with rfl | hj
  ·exact h.1 trivial
  ·exact zcH (l:=k::r) h.2 j hj
theorem zjk {ops:Array Oper} {k:Nat} {K:St→Prop} {Q:Act→World→Prop} (h:Inv w0 F0 F M σ a w) (hk:zc9 P μ ops k σ K) (hQ: ∀ σ' F' M' a' w',K σ' →Inv w0 F0 F' M' σ' a' w' →Q a' w'):gOp P ops k Q a w:=by
 unfold zc9 at hk
 split at hk
 ·rename_i o r hd
  have ho:ops[k]? =some o:=by
   have:=congrArg List.head? hd
   rw [List.head?_drop] at this
   simpa using this
  have hG:=zfX h hk
  unfold gOp
  rw [ho]
  exact zZ (fun v w' ⟨σ',F',M',hK,hI⟩=>hQ _ _ _ _ _ hK hI) hG
 ·exact hk.elim
theorem znN {ops:Array Oper} (hsel:Region.noSelect ops=true) (he:qE .any 0 ops.toList=true) {K:St→Prop} {Q:Act→World→Prop} (hQ: ∀ σ' F' M' a' w',K σ' →Inv w0 F0 F' M' σ' a' w' →Q a' w'):
  ∀ (f:Nat) (done:List Nat) (listed:Array Bool) (σ:St) (F:Nat→Prop) (M:Nat→Option MO) (a:Act) (w:World),Dn ops done listed→ja .any ops listed→Inv w0 F0 F M σ a w→wprA P μ ops f done σ K→jP P .any ops Q f listed a w
 | 0,done,listed,σ,F,M,a,w,hd,hcl,hI,hk=>by
  unfold wprA at hk
  have hr:=qI hd he ops.toList 0 (by simp)
  split at hk
  ·rename_i hnil
   refine ⟨List.eq_nil_iff_forall_not_mem.2 fun i hi=> ?_,hQ _ _ _ _ _ hk hI⟩
   have:=(hr i).2 ⟨Nat.zero_le _,hi⟩
   rw [hnil] at this;cases this
  ·exact hk.elim
 | f+1,done,listed,σ,F,M,a,w,hd,hcl,hI,hk=>by
  unfold wprA at hk
  have hr:=qI hd he ops.toList 0 (by simp)
  split at hk
  ·rename_i hnil
   have hno: ∀ i,i∉Region.ready .any ops listed:=fun i hi=>by
    have:=(hr i).2 ⟨Nat.zero_le _,hi⟩
    rw [hnil] at this;cases this
   exact ⟨fun _=>hQ _ _ _ _ _ hk hI,fun i hi=>absurd hi (hno i)⟩
  ·rename_i i0 r hcons
   have hstep: ∀ k,k∈Region.ready .any ops listed→zc9 P μ ops k σ (fun σ' =>wprA P μ ops f (k::done) σ' K)→gOp P ops k (jP P .any ops Q f (listed.setIfInBounds k true)) a w:=fun k hkr hs=>by
    obtain ⟨_,ok,hok,_⟩:=mem_ready.1 hkr
    have hklt:k<ops.size:=(Array.getElem?_eq_some_iff.1 hok).1
    exact zjk hI hs fun σ' F' M' a' w' hK' hI' =>znN hsel he hQ f (k::done) _ σ' F' M' a' w' (hd.set hklt) (hcl.set hkr) hI' hK'
   split at hk
   ·rename_i k hp
    obtain ⟨hkm,hfo⟩:=zbJ hp
    have hkr:=((hr k).1 (by rw [hcons];exact hkm)).2
    obtain ⟨hkun,ok,hok,_⟩:=mem_ready.1 hkr
    refine jY hsel hok f listed a w hcl (fun j oj hoj hjk hun=> ?_) hkr (hstep k hkr hk)
    have hjlt:j<ops.size:=(Array.getElem?_eq_some_iff.1 hoj).1
    unfold zcu at hfo
    split at hfo
    ·rename_i ok' r' hdr
     have e1:ok' =ok:=by
      have:=congrArg List.head? hdr
      rw [List.head?_drop] at this
      have h2:ops[k]? =some ok' :=by simpa using this
      rw [hok] at h2;exact (Option.some.inj h2).symm
     subst e1
     have hl' : ∀ i,r'[i]? =ops[(k+1)+i]? :=fun i=>by
      have:(ops.toList.drop k)[i+1]? =(ok' ::r')[i+1]? :=by rw [hdr]
      rw [List.getElem?_drop,List.getElem?_cons_succ] at this
      rw [← this,show k+(i+1)=k+1+i by omega];simp
     rcases jC ops.toList 0 (by simp) hfo j oj (Nat.zero_le _) hoj with h1 | h1 | h1 | h1
     ·rw [hd.eq j hjlt,h1] at hun;cases hun
     ·exact absurd h1 hjk
     ·exact .inl (yq r' (k+1) [] hl' (by simp) j h1)
     ·exact .inr h1
    ·cases hfo
   ·refine ⟨fun h0=> ?_,fun i hi=>hstep i hi (zcH hk i (by rw [← hcons];exact (hr i).2 ⟨Nat.zero_le _,hi⟩))⟩
    have:=((hr i0).1 (by rw [hcons];exact List.mem_cons_self)).2
    rw [h0] at this;cases this
theorem zq4 {id:Nat} {ops:Array Oper} (hm:P.follows .mixedOrders=true) (h:Inv w0 F0 F M σ a w) (ha:zda ops=true) (hk:wprA P μ ops ops.size [] σ K)
  (hQ: ∀ σ' F' M' a' w',K σ' →Inv w0 F0 F' M' σ' a' w' →Q .normal a' w'):(Code.region id ops true).wp P Q a w:=by
 simp only [zda,Bool.and_eq_true] at ha
 have hdrew:Inv w0 F0 F M σ a { w with drawn:=w.drawn+1 }:=h.grow (Below.refl _ _).drew
 refine wp_region_any hm (jn (Q:=fun a' w' =>Q .normal a' w') (fun _ _ h=>h) _ _ _ _ ?_)
 refine znN ha.1 ha.2 hQ ops.size [] (Array.replicate ops.size false) σ F M a _ ⟨by simp,fun j hj=>by simp [hj,hasN]⟩ (fun j oj hj hl=> ?_) hdrew hk
 have hlt:j<ops.size:=(Array.getElem?_eq_some_iff.1 hj).1
 simp [hlt] at hl
end
end
section
open Go.RowKit
section
variable {P:Program} {w0:W0 P} {w:World} {F0 F F1:Nat→Prop} {M:Nat→Option MO} {σ:St} {a:Act} {μ:List Nat}
def qU (tmps:Array Value):ResultVar→Sem Value
 | .tmp t=>pure (tmps.getD t undef)
 | .cell p t=>do loadVar t (← asAddr (tmps.getD p undef))
theorem j0 (h:Inv w0 F0 F M σ a w) {rv:ResultVar} (hne:cellsOf (yR P σ rv)≠none): ∃ v,(qU a.tmps rv).run P w= .ok v w∧R w F M v (yR P σ rv):=by
 cases rv with
 | tmp t=>exact ⟨_,rfl,h.slots t⟩
 | cell p ty=>
  unfold yR at hne ⊢
  dsimp only at hne ⊢
  split at hne
  ·rename_i i hb
   have hp:=h.slots p
   rw [hb] at hp
   obtain ⟨mo,g,hm,hg,hv⟩:=hp
   split at hne
   ·rename_i cs hf
    obtain ⟨hlt,hc⟩:=zgM h hf hm hg 0
    have key: ∀ d,zb5 P ty cs (fun d' =>d' =d)→ ∃ v,(qU a.tmps (.cell p ty)).run P w= .ok v w∧R w F M v d:=fun d hd=>by
     obtain ⟨v,d',h1,h2,h3⟩:=qF (P:=P) (w:=w) (F:=F) (M:=M) hd ⟨g,0,none⟩ hlt (by simpa using hc)
     subst h1
     exact ⟨v,by unfold qU;simp only [hv,asAddr,Sem.run_bind,Sem.run_pure,Result.andThen_ok];exact h3 w (Below.refl _ _),h2⟩
    refine key _ ?_
    unfold zb5
    split at hne
    ·rename_i hag
     cases hble:Nat.ble (zu P ty) cs.length with
     | false=>rw [hble] at hne;exact absurd rfl hne
     | true=>exact rfl
    ·rename_i hag
     cases cs with
     | nil=>exact absurd rfl hne
     | cons c r=>exact rfl
    ·exact absurd rfl hne
   ·exact absurd rfl hne
  ·exact absurd rfl hne
theorem zgT {v:Value} {d:D} {new:List D} (h:R w F M v d) (hc:cellsOf d=some new) (hn: ∀ cs,d≠ .agg cs):v.oneCell' =true:=by
 cases d<;>simp only [cellsOf,Option.some.injEq] at hc<;>first | (cases hc;done) | skip
 case agg cs=>exact absurd rfl (hn cs)
 case val t x=>
  have h' :RV w F t x [v]:=h
  exact h'.one v (by simp)
 case fn f=>
  have h' :v= .func f #[] #[]:=h
  rw [h'];rfl
 case nils=>
  obtain ⟨A,h'⟩:=id h
  rw [h'];rfl
 case slo i=>
  obtain ⟨mo,h1,h2,h3⟩:=id h
  exact h3
 case ptr i off=>
  obtain ⟨mo,g,h1,h2,h3⟩:=id h
  rw [h3];rfl
 case aptr i=>
  obtain ⟨mo,g,h1,h2,h3⟩:=id h
  rw [h3];rfl
 case pnil=>
  have h' :v= .pointer none:=h
  rw [h'];rfl
 case clo g cs=>
  obtain ⟨us,h1,h2⟩:=id h
  rw [h1];rfl
theorem ze5 (h:Inv w0 F0 F M σ a w) {rv:ResultVar} {t:TypeId} {d:D}
  (hd:(match tyOf P 12 t,cellsOf (yR P σ rv) with
  | some u,some cs=>match zbB u (yR P σ rv),yO u (zX σ.ob cs) with
   | true,some x=>some (encV u x)
   | _,_=>none
  | _,_=>none)=some d): ∃ v,(qU a.tmps rv).run P w= .ok v w∧(∃ u x,d=encV u x)∧R1 w (allF F M) noM v d:=by
 split at hd
 ·rename_i u cs hty hc
  split at hd
  ·rename_i x hsh hx
   simp only [Option.some.injEq] at hd
   subst hd
   obtain ⟨v,h1,h2⟩:=j0 (P:=P) h (rv:=rv) (by rw [hc];simp)
   have hrel:=yw h2 hc
   have hrv:RV w (allF F M) u x v.cells.toList:=qa (hrel.snap h (fun _ hg=>Or.inl hg) fun i _ _ mo _ hm hg=>Or.inr ⟨i,mo,hm,hg⟩) hx
   have hleaf:(∀ cs',yR P σ rv≠ .agg cs')→v.oneCell' =true:=zgT h2 hc
   refine ⟨v,h1,⟨u,x,rfl⟩,R1.of_cells hrv ?_ fun _=> ?_⟩
   ·by_cases hag: ∃ cs',yR P σ rv= .agg cs'
    ·obtain ⟨cs',hag⟩:=hag
     rw [hag] at h2
     obtain ⟨us,hv,_⟩:=h2
     exact .inr ⟨us,hv⟩
    ·exact .inl (hleaf fun cs' e=>hag ⟨cs',e⟩)
   ·unfold zbB at hsh
    cases u with
    | pair p q=>exact .inr ⟨p,q,rfl⟩
    | _=>exact .inl (hleaf fun cs' e=>by rw [e] at hsh;cases hsh)
  ·cases hd
 ·cases hd
theorem jo (h:Inv w0 F0 F M σ a w): ∀ (rs:List ResultVar) (ts:List TypeId) (ds:List D),yY P σ false rs ts=some ds→
  ∃ vs,(rs.mapM (qU a.tmps)).run P w= .ok vs w∧vs.length=ds.length∧ ∀ (j:Nat) d,ds[j]? =some d→ ∃ v,vs[j]? =some v∧(∃ u x,d=encV u x)∧R1 w (allF F M) noM v d
 | [],[],ds,hr=>by
  simp only [yY,Option.some.injEq] at hr
  subst hr
  exact ⟨[],by simp,rfl,fun j d hj=>by simp at hj⟩
 | [],_::_,ds,hr=>by simp [yY] at hr
 | _::_,[],ds,hr=>by simp [yY] at hr
 | r::rs,t::ts,ds,hr=>by
  have hleft:jx P σ false r=σ:=by unfold jx;rfl
  simp only [yY,hleft] at hr
  split at hr
  ·rename_i d hd
   split at hr
   ·rename_i ds' hds
    simp only [Option.some.injEq] at hr
    subst hr
    have hd' :(match tyOf P 12 t,cellsOf (yR P σ r) with
     | some u,some cs=>match zbB u (yR P σ r),yO u (zX σ.ob cs) with
      | true,some x=>some (encV u x)
      | _,_=>none
     | _,_=>none)=some d:=by
     unfold zdj at hd
     cases hraw:yR P σ r<;>rw [hraw] at hd<;>exact hd
    obtain ⟨v,h1,h2,h3⟩:=ze5 h hd'
    obtain ⟨vs,h4,h5,h6⟩:=jo h rs ts ds' hds
    refine ⟨v::vs,by simp [List.mapM_cons,h1,h4],by simp [h5],fun j d' hj=> ?_⟩
    cases j with
    | zero=>
     have:d=d' :=by simpa using hj
     subst this
     exact ⟨v,rfl,h2,h3⟩
    | succ j=>
     obtain ⟨v',h7,h8⟩:=h6 j d' (by simpa using hj)
     exact ⟨v',by simpa using h7,h8⟩
   ·cases hr
  ·cases hr
theorem zaa {d:D} {v:Value} {B:Nat→Prop} {G:Option Nat} (hd: ∃ u x,d=encV u x) (h:R1 w F noM v d):RR0 w F B G v d:=by
 obtain ⟨u,x,rfl⟩:=hd
 cases u<;>exact h
theorem zd7 (h:Inv w0 F0 F M σ a w): ∀ g,allF F M g→g<w.heap.size∧(F0 g∨w0.nw g):=fun g hg=>by
 rcases hg with hg | ⟨i,mo,h1,h2⟩
 ·exact h.flt g hg
 ·obtain ⟨_,h3,h4⟩:=h.mine _ _ _ h1 h2
  exact ⟨h4,.inr h3⟩
theorem zjl (h:Inv w0 F0 F M σ a w) (own:Bool) (rs:List ResultVar) (ts:List TypeId) (ds:List D) (hr:yY P σ own rs ts=some ds):
  ∃ vs F' G,(rs.mapM (qU a.tmps)).run P w= .ok vs w∧vs.length=ds.length∧(∀ g,F0 g→F' g)∧(∀ g,F' g→g<w.heap.size∧(F0 g∨w0.nw g))∧
   (∀ g,G=some g→w0.nw g∧ ¬F' g∧g<w.heap.size)∧ ∀ (j:Nat) d,ds[j]? =some d→ ∃ v,vs[j]? =some v∧RR0 w F' w0.nw G v d:=by
 have plain:yY P σ false rs ts=some ds→ ∃ vs F' G,(rs.mapM (qU a.tmps)).run P w= .ok vs w∧vs.length=ds.length∧(∀ g,F0 g→F' g)∧(∀ g,F' g→g<w.heap.size∧(F0 g∨w0.nw g))∧
   (∀ g,G=some g→w0.nw g∧ ¬F' g∧g<w.heap.size)∧ ∀ (j:Nat) d,ds[j]? =some d→ ∃ v,vs[j]? =some v∧RR0 w F' w0.nw G v d:=fun hp=>by
  obtain ⟨vs,h1,h2,h3⟩:=jo h rs ts ds hp
  refine ⟨vs,allF F M,none,h1,h2,fun g hg=> .inl (h.fle g (.inl hg)),zd7 h,fun g hg=>(by cases hg),fun j d hj=> ?_⟩
  obtain ⟨v,h4,h5,h6⟩:=h3 j d hj
  exact ⟨v,h4,zaa h5 h6⟩
 cases own with
 | false=>exact plain hr
 | true=>
  match rs,ts,hr with
  | [],[],hr=>exact plain (by simpa [yY] using hr)
  | [],_::_,hr=>simp [yY] at hr
  | _::_,[],hr=>simp [yY] at hr
  | r::rs,t::ts,hr=>
   by_cases hslo: ∃ i,yR P σ r= .slo i
   ·obtain ⟨i,hraw⟩:=hslo
    have hleft:jx P σ true r=σ.kill i:=by unfold jx;rw [hraw]
    simp only [yY,hleft] at hr
    split at hr
    ·rename_i d hd
     split at hr
     ·rename_i ds' hds
      simp only [Option.some.injEq] at hr
      subst hr
      unfold zdj at hd
      rw [hraw] at hd
      dsimp only at hd
      split at hd
      ·rename_i e u xs hf
       simp only [Option.some.injEq] at hd
       subst hd
       obtain ⟨v,h1,h2⟩:=j0 (P:=P) h (rv:=r) (by rw [hraw];simp [cellsOf])
       rw [hraw] at h2
       obtain ⟨mo,hm,hv,_⟩:=h2
       obtain ⟨mo',hm',hmk,hown⟩:=h.obs _ _ hf
       have:mo' =mo:=Option.some.inj (hm'.symm.trans hm)
       subst this
       obtain ⟨vs,h3,h4,h5⟩:=jo (h.kill i) rs ts ds' hds
       refine ⟨v::vs,allF F (yu M i),mo'.g,by simp [List.mapM_cons,h1,h3],by simp [h4],fun g hg=> .inl (h.fle g (.inl hg)),zd7 (h.kill i),fun g hg=> ?_,fun j d hj=> ?_⟩
       ·obtain ⟨h6,h7,h8⟩:=h.mine _ _ _ hm hg
        refine ⟨h7,fun hc=> ?_,h8⟩
        rcases hc with hc | ⟨k,mk,hk,hkg⟩
        ·exact h6 hc
        ·exact (zr hk).1 (h.apart _ _ _ _ _ (zr hk).2 hm hkg hg)
       ·cases j with
        | zero=>
         simp only [List.getElem?_cons_zero,Option.some.injEq] at hj
         subst hj
         exact ⟨v,rfl,by rw [hv];exact hown.keep (fun _ _=>rfl) (fun _ hg=>Or.inl hg) fun _ _=>rfl⟩
        | succ j=>
         obtain ⟨v',h6,h7,h8⟩:=h5 j d (by simpa using hj)
         exact ⟨v',by simpa using h6,zaa h7 h8⟩
      ·cases hd
     ·cases hr
    ·cases hr
   ·have hleft:jx P σ true r=σ:=by
     unfold jx
     split
     ·rename_i i _ hraw;exact absurd ⟨i,hraw⟩ hslo
     ·rfl
    simp only [yY,hleft] at hr
    split at hr
    ·rename_i d hd
     split at hr
     ·rename_i ds' hds
      by_cases hnil:yR P σ r= .nils
      ·simp only [Option.some.injEq] at hr
       subst hr
       unfold zdj at hd
       rw [hnil] at hd
       dsimp only at hd
       split at hd
       ·rename_i e he
        split at hd
        ·rename_i u hu
         simp only [Option.some.injEq] at hd
         subst hd
         obtain ⟨v,h1,h2⟩:=j0 (P:=P) h (rv:=r) (by rw [hnil];simp [cellsOf])
         rw [hnil] at h2
         obtain ⟨A,hv⟩:=h2
         obtain ⟨vs,h3,h4,h5⟩:=jo h rs ts ds' hds
         refine ⟨v::vs,allF F M,none,by simp [List.mapM_cons,h1,h3],by simp [h4],fun g hg=> .inl (h.fle g (.inl hg)),zd7 h,fun g hg=>(by cases hg),fun j d hj=> ?_⟩
         cases j with
         | zero=>
          simp only [List.getElem?_cons_zero,Option.some.injEq] at hj
          subst hj
          exact ⟨v,rfl,.inl ⟨rfl,rfl,A,hv⟩⟩
         | succ j=>
          obtain ⟨v',h6,h7,h8⟩:=h5 j d (by simpa using hj)
          exact ⟨v',by simpa using h6,zaa h7 h8⟩
        ·cases hd
       ·cases hd
      ·refine plain ?_
       have hleft' :jx P σ false r=σ:=by unfold jx;rfl
       have hd' :zdj P σ false r t=some d:=by
        unfold zdj at hd ⊢
        cases hraw:yR P σ r<;>rw [hraw] at hd
        case slo i=>exact absurd ⟨i,hraw⟩ hslo
        case nils=>exact absurd hraw hnil
        all_goals exact hd
       simp only [yY,hleft',hd',hds]
       exact hr
     ·cases hr
    ·cases hr
end
end
section
open Go.RowKit
section
variable {P:Program} {w0:W0 P} {w:World} {F0 F F1:Nat→Prop} {M:Nat→Option MO} {σ:St} {a:Act} {μ:List Nat} {tbl:List (Nat×List Nat×List (Nat×Sh))}
theorem Inv.slot (h:Inv w0 F0 F M σ a w) {t:Nat} {d:D} (hr:R w F M (a.tmps.getD t undef) d):Inv w0 F0 F M { σ with sl:=(t,d)::σ.sl } a w:=by
 refine ⟨h.defers,h.size,fun i=> ?_,h.obs,h.apart,h.mine,h.flt,h.fle,h.below,h.pins⟩
 show R w F M (a.tmps.getD i undef) (find ((t,d)::σ.sl) i)
 by_cases hi:i=t
 ·subst hi;rw [qO];exact hr
 ·rw [qP _ _ hi];exact h.slots i
theorem Inv.nilRow (h:Inv w0 F0 F M σ a w) (s:Nat) (sh:Sh): ∃ M',Inv w0 F0 F M' (σ.nilRow s sh) a w:=by
 unfold St.nilRow
 split
 ·rename_i id e t
  split
  ·rename_i hf
   have hs:=h.slots s
   rw [hf] at hs
   obtain ⟨A,hv⟩:=hs
   obtain ⟨M',h1,h2,_⟩:=(h.kill id).addOb id (yp M id) (.row false e t []) ⟨none,a.tmps.getD s undef,t.width⟩ rfl fun M' _ _=>⟨rfl,.inl ⟨rfl,rfl,A,hv⟩⟩
   exact ⟨M',h1.slot (t:=s) (d:= .slo id) ⟨_,h2,rfl,by rw [hv];rfl⟩⟩
  ·exact ⟨M,h⟩
 ·rename_i id T fs
  obtain ⟨M',h1,_⟩:=h.gnils id fs 0 0
  exact ⟨M',h1⟩
 ·exact ⟨M,h⟩
theorem Inv.nilRows: ∀ (l:List (Nat×Sh)) {M:Nat→Option MO} {σ:St},Inv w0 F0 F M σ a w→ ∃ M',Inv w0 F0 F M' (σ.nilRows l) a w
 | [],M,_,h=>⟨M,h⟩
 | (s,sh)::r,M,σ,h=>by
  obtain ⟨M1,h1⟩:=h.nilRow s sh
  exact Inv.nilRows r h1
theorem Inv.prep: ∀ (l:List (Nat×Sh)) {F:Nat→Prop} {M:Nat→Option MO} {σ:St},Inv w0 F0 F M σ a w→ ∃ F' M',Inv w0 F0 F' M' (σ.prep l) a w
 | [],F,M,_,h=>⟨F,M,h⟩
 | (s,sh)::r,F,M,σ,h=>by
  unfold St.prep
  split
  ·obtain ⟨F1,M1,h1⟩:=h.frz1 (.tmp s)
   exact Inv.prep r h1
  ·obtain ⟨M1,h1⟩:=h.nilRow s sh
   exact Inv.prep r h1
theorem zcI: ∀ (ids:List Nat) (ob:List (Nat×Ob)) {i:Nat} {p:Bool} {e:TypeId} {t:Ty} {xs:List t.I},zg (jV ob ids) i=some (.row p e t xs)→i∉ids∧zg ob i=some (.row p e t xs)
 | [],ob,i,p,e,t,xs,h=>⟨by simp,h⟩
 | j::r,ob,i,p,e,t,xs,h=>by
  obtain ⟨h1,h2⟩:=zcI r _ h
  rw [qw] at h2
  split at h2
  ·cases h2
  ·rename_i hne
   obtain ⟨o',h3,h4⟩:=Option.map_eq_some_iff.1 h2
   cases o' with
   | cells p' T' cs=>cases h4
   | arr t' ys=>cases h4
   | buf e' ys=>cases h4
   | row p' e' t' ys=>
    have h4' :Ob.row p' e' t' ys=Ob.row p e t xs:=h4
    rw [h4'] at h3
    exact ⟨by simp [hne,h1],h3⟩
def ze6 (F:Nat→Prop) (M:Nat→Option MO) (ids:List Nat):Nat→Prop:=fun g=>F g∨ ∃ i mo,M i=some mo∧mo.g=some g∧i∉ids
theorem R0.less (h:Inv w0 F0 F M σ a w) {ids:List Nat} {v:Value} {d:D} (hr:R0 w F M v d):R0 w (ze6 F M ids) noM v (yN (jV σ.ob ids) d):=by
 have hF: ∀ g,F g→ze6 F M ids g:=fun _ hg=> .inl hg
 cases d<;>simp only [yN]<;>first | exact trivial | skip
 case val=>exact RV.keep (fun _ _=>rfl) hF hr
 case fn=>exact hr
 case nils=>exact hr
 case clo g cs=>
  obtain ⟨us,h1,h2,h3⟩:=hr
  refine ⟨us,h1,h2,fun j c hj=> ?_⟩
  obtain ⟨u,h4,h5,h6⟩:=h3 j c hj
  exact ⟨u,h4,h5,h6.keep (fun _ _=>rfl) hF⟩
 case ept cs=>
  obtain ⟨a,us,h1,h2,h3,h4,h5⟩:=hr
  refine ⟨a,us,h1,hF _ h2,h3,h4,fun j c hj=> ?_⟩
  obtain ⟨u,h6,h7⟩:=h5 j c hj
  exact ⟨u,h6,h7.keep (fun _ _=>rfl) hF⟩
 case slo i=>
  obtain ⟨mo,h1,h2,_⟩:=hr
  split
  ·rename_i e t xs hfo
   obtain ⟨hni,hfo'⟩:=zcI _ _ hfo
   obtain ⟨mo',h3,h4⟩:=h.obs _ _ hfo'
   have:mo' =mo:=Option.some.inj (h3.symm.trans h1)
   subst this
   rw [h2]
   exact h4.2.reads hF fun g hg=> .inr ⟨i,mo',h3,hg,hni⟩
  ·exact trivial
theorem Rel.less (h:Inv w0 F0 F M σ a w) {ids:List Nat} {us:List Value} {cs:List D} (hr:Rel w F M us cs):Rel w (ze6 F M ids) noM us (zX (jV σ.ob ids) cs):=by
 refine ⟨by rw [zak];exact hr.1,fun j c hj=> ?_⟩
 rw [zbG] at hj
 obtain ⟨c',hc',rfl⟩:=Option.map_eq_some_iff.1 hj
 obtain ⟨u,h1,h2,h3⟩:=hr.2 j c' hc'
 exact ⟨u,h1,h2,h3.less h⟩
theorem ze7 (h:Inv w0 F0 F M σ a w) {ids:List Nat} {t:Ty} {v:Value} {d:D} (hr:R w F M v d) (M2:Nat→Option MO):R w (ze6 F M ids) M2 v (asData (jV σ.ob ids) t d):=by
 unfold asData
 split
 ·rename_i cs hc
  split
  ·rename_i x hsh hx
   have hrel:=yw hr hc
   have hrv:RV w (ze6 F M ids) t x v.cells.toList:=qa (hrel.less h) hx
   have hleaf:(∀ cs',d≠ .agg cs')→v.oneCell' =true:=zgT hr hc
   refine R.of1 (R1.of_cells hrv ?_ fun _=> ?_)
   ·by_cases hag: ∃ cs',d= .agg cs'
    ·obtain ⟨cs',rfl⟩:=hag
     obtain ⟨us,hv,_⟩:=hr
     exact .inr ⟨us,hv⟩
    ·exact .inl (hleaf fun cs' e=>hag ⟨cs',e⟩)
   ·unfold zbB at hsh
    cases t with
    | pair p q=>exact .inr ⟨p,q,rfl⟩
    | _=>exact .inl (hleaf fun cs' e=>by rw [e] at hsh;cases hsh)
  ·exact trivial
 ·exact trivial
theorem ze8 (less:List (Nat×Ob)) (sl:List (Nat×D)): ∀ (l:List (Nat×Sh)) (i:Nat),find (zdh less sl l) i= .bad∨ ∃ sh,(i,sh)∈l∧find (zdh less sl l) i=keepD less sl i sh
 | [],i=> .inl rfl
 | (s,sh)::r,i=>by
  simp only [zdh,find]
  rcases zj i s with ⟨rfl,hb⟩ | ⟨_,hb⟩
  ·rw [hb];exact .inr ⟨sh,by simp,rfl⟩
  ·rw [hb]
   rcases ze8 less sl r i with h | ⟨sh',h1,h2⟩
   ·exact .inl h
   ·exact .inr ⟨sh',by simp [h1],h2⟩
theorem zbK: ∀ {l:List (Nat×Ob)} {i:Nat} {o:Ob},zg l i=some o→(i,o)∈l
 | (j,q)::r,i,o,h=>by
  simp only [zg] at h
  rcases zj i j with ⟨rfl,hb⟩ | ⟨_,hb⟩
  ·rw [hb] at h
   have:q=o:=Option.some.inj h
   subst this
   simp
  ·rw [hb] at h
   exact List.mem_cons_of_mem _ (zbK h)
theorem zbL {less ob:List (Nat×Ob)} {i:Nat} {o:Ob}: ∀ {l:List (Nat×Sh)},(i,o)∈zgL less ob l→ ∃ s sh,(s,sh)∈l∧(i,o)∈zlv less ob sh
 | (s,sh)::r,h=>by
  simp only [zgL,List.mem_append] at h
  rcases h with h | h
  ·exact ⟨s,sh,by simp,h⟩
  ·obtain ⟨s',sh',h1,h2⟩:=zbL h
   exact ⟨s',sh',by simp [h1],h2⟩
def shId:Sh→Option Nat
 | .fnc _=>none
 | .val _=>none
 | .row _ id _ _=>some id
 | .arr id _=>some id
 | .cel _ id _ _=>some id
 | .grp _ id _ _=>some id
 | .als id=>some id
 | .ept _=>none
theorem yd {s:Nat} {sh:Sh} {i:Nat} (hi:shId sh=some i): ∀ {l:List (Nat×Sh)},(s,sh)∈l→i∈yZ l
 | (s',sh')::r,h=>by
  rcases List.mem_cons.1 h with h | h
  ·cases h
   cases sh<;>simp only [shId,Option.some.injEq] at hi<;>first | (cases hi;done) | (subst hi;simp [yZ])
  ·have:=yd hi h
   cases sh' <;>simp [yZ,this]
theorem ze9 {s id i:Nat} {p:Bool} {T:TypeId} {fs:List Fd} (hi:i∈gids id 0 fs): ∀ {l:List (Nat×Sh)},(s,.grp p id T fs)∈l→i∈yZ l
 | (s',sh')::r,h=>by
  rcases List.mem_cons.1 h with h | h
  ·cases h
   simp [yZ,hi]
  ·have:=ze9 hi h
   cases sh' <;>simp [yZ,this]
theorem Inv.keep (h:Inv w0 F0 F M σ a w) (l:List (Nat×Sh)): ∃ F' M',Inv w0 F0 F' M' (σ.keep l) a w:=by
 have hF: ∀ g,F g→ze6 F M (yZ l) g:=fun _ hg=> .inl hg
 let M' :Nat→Option MO:=fun i=>if i∈yZ l then M i else none
 have hM' : ∀ {i:Nat} {mo:MO},M' i=some mo→i∈yZ l∧M i=some mo:=fun {i mo} hi=>by
  have hi:(if i∈yZ l then M i else none)=some mo:=hi
  split at hi
  ·exact ⟨‹_›,hi⟩
  ·cases hi
 have hM2: ∀ {i:Nat} {mo:MO},i∈yZ l→M i=some mo→M' i=some mo:=fun {i mo} h1 h2=>by
  show (if i∈yZ l then M i else none)=some mo
  rw [if_pos h1];exact h2
 refine ⟨ze6 F M (yZ l),M',h.defers,h.size,fun i=> ?_,fun id o ho=> ?_,fun i j mi mj g hi hj=>h.apart i j mi mj g (hM' hi).2 (hM' hj).2,fun i mi g hi hg=> ?_,fun g hg=> ?_,fun g hg=>hF g (h.fle g hg),h.below,fun id o ho hpo=> ?_⟩
 ·show R w _ _ (a.tmps.getD i undef) (find (zdh _ σ.sl l) i)
  rcases ze8 (jV σ.ob (yZ l)) σ.sl l i with hb | ⟨sh,hmem,hb⟩
  ·rw [hb];exact trivial
  ·rw [hb]
   have hs:=h.slots i
   unfold keepD
   split
   ·rename_i g
    split
    ·rename_i k hf
     rw [hf] at hs
     rcases zj k g with ⟨rfl,hbq⟩ | ⟨_,hbq⟩
     ·rw [hbq];exact hs
     ·rw [hbq];exact trivial
    ·exact trivial
   ·exact ze7 h hs M'
   ·rename_i pn id e t
    split
    ·rename_i i' hf
     rw [hf] at hs
     obtain ⟨mo,h1,h2,h3⟩:=hs
     rcases zj i' id with ⟨rfl,hbq⟩ | ⟨_,hbq⟩
     ·rw [hbq];exact ⟨mo,hM2 (yd (sh:= .row pn i' e t) rfl hmem) h1,h2,h3⟩
     ·rw [hbq];exact trivial
    ·exact trivial
   ·rename_i id t
    split
    ·rename_i i' hf
     rw [hf] at hs
     obtain ⟨mo,g,h1,h2⟩:=hs
     rcases zj i' id with ⟨rfl,hbq⟩ | ⟨_,hbq⟩
     ·rw [hbq];exact ⟨mo,g,hM2 (yd (sh:= .arr i' t) rfl hmem) h1,h2⟩
     ·rw [hbq];exact trivial
    ·exact trivial
   ·rename_i pn id T t
    split
    ·rename_i i' o' hf
     rw [hf] at hs
     obtain ⟨mo,g,h1,h2⟩:=hs
     rcases zj i' id with ⟨rfl,hbq⟩ | ⟨_,hbq⟩
     ·rw [hbq];exact ⟨mo,g,hM2 (yd (sh:= .cel pn i' T t) rfl hmem) h1,h2⟩
     ·rw [hbq];exact trivial
    ·exact trivial
   ·rename_i pn id T fs
    split
    ·rename_i i' o' hf
     rw [hf] at hs
     obtain ⟨mo,g,h1,h2⟩:=hs
     rcases zj i' id with ⟨rfl,hbq⟩ | ⟨_,hbq⟩
     ·rw [hbq];exact ⟨mo,g,hM2 (yd (sh:= .grp pn i' T fs) rfl hmem) h1,h2⟩
     ·rw [hbq];exact trivial
    ·exact trivial
   ·rename_i id
    split
    ·rename_i i' hf
     rw [hf] at hs
     obtain ⟨mo,h1,h2,h3⟩:=hs
     rcases zj i' id with ⟨rfl,hbq⟩ | ⟨_,hbq⟩
     ·rw [hbq];exact ⟨mo,hM2 (yd (sh:= .als i') rfl hmem) h1,h2,h3⟩
     ·rw [hbq];exact trivial
    ·exact trivial
   ·rename_i t
    split
    ·rename_i cs hf
     rw [hf] at hs
     split
     ·rename_i x hx
      obtain ⟨a1,us,h1,h2,h3,h4,h5⟩:=hs
      have hrel:Rel w F M us cs:=⟨h4,fun j c hj=>by
       obtain ⟨u,h6,h7⟩:=h5 j c hj
       exact ⟨u,h6,(h3 j u h6).2,h7.to0⟩⟩
      have hrv:=qa (hrel.less h (ids:=yZ l)) hx
      exact ⟨a1,us,h1,hF _ h2,h3,by rw [q9];exact hrv.len,yU hrv⟩
     ·exact trivial
    ·exact trivial
 ·obtain ⟨s,sh,hmem,hko⟩:=zbL (zbK ho)
  unfold zlv at hko
  split at hko
  ·cases hko
  ·cases hko
  ·rename_i pn id' e t
   split at hko
   ·rename_i pn' e' t' xs hf
    simp only [List.mem_cons,List.not_mem_nil,or_false,Prod.mk.injEq] at hko
    obtain ⟨rfl,rfl⟩:=hko
    obtain ⟨mo,h1,h2⟩:=h.obs _ _ hf
    refine ⟨mo,hM2 (yd (sh:= .row pn id e t) rfl hmem) h1,h2.1,h2.2.keep (fun _ _=>rfl) hF fun _ _=>rfl⟩
   ·cases hko
  ·rename_i id' t
   split at hko
   ·rename_i t' xs hf
    simp only [List.mem_cons,List.not_mem_nil,or_false,Prod.mk.injEq] at hko
    obtain ⟨rfl,rfl⟩:=hko
    obtain ⟨mo,h1,g,us,ty,h2,h3,h4,h5,h6⟩:=h.obs _ _ hf
    exact ⟨mo,hM2 (yd (sh:= .arr id t) rfl hmem) h1,g,us,ty,h2,h3,h4,h5,h6.keep (fun _ _=>rfl) hF⟩
   ·cases hko
  ·rename_i pn id' Tc t
   split at hko
   ·rename_i pn' Tc' cs hf
    split at hko
    ·rename_i x hx
     simp only [List.mem_cons,List.not_mem_nil,or_false,Prod.mk.injEq] at hko
     obtain ⟨rfl,rfl⟩:=hko
     obtain ⟨mo,h1,g,us,h2,h3,h4,h5⟩:=h.obs _ _ hf
     have hrel:Rel w F M us.toList cs:=⟨by simpa using h4,fun j c hj=>by simpa using h5 j c hj⟩
     have hrv:=qa (hrel.less h (ids:=yZ l)) hx
     refine ⟨mo,hM2 (yd (sh:= .cel pn id Tc t) rfl hmem) h1,g,us,h2,h3,?_,fun j c hj=> ?_⟩
     ·have:=hrv.len;rw [q9];simpa using this
     ·obtain ⟨u,h6,h7⟩:=yU hrv j c hj
      exact ⟨u,by simpa using h6,hrv.one u (List.mem_of_getElem? h6),h7.to0⟩
    ·cases hko
   ·cases hko
  ·rename_i pn id' Tc fs
   split at hko
   ·rename_i pn' Tc' cs hf
    split at hko
    ·rename_i x hx
     obtain ⟨mo,h1,g,us,h2,h3,h4,h5⟩:=h.obs _ _ hf
     have hidm:=yd (sh:= .grp pn id' Tc fs) rfl hmem
     have hgm: ∀ i,gid id' i∈gids id' 0 fs→M (gid id' i)=M' (gid id' i):=fun i hi=>(if_pos (ze9 hi hmem)).symm
     have hrel:Rel w F M us.toList cs:=⟨by simpa using h4,fun j c hj=>by simpa using h5 j c hj⟩
     have hgr:=jk h h1 h2 (ms:=fun i=>M (gid id' i)) (fun _ _=>rfl) hrel hx
     have hgr' :GrsR w (ze6 F M (yZ l)) w0.nw g (fun i=>M (gid id' i)) 0 fs x us.toList:=GrsR.keep (fun _ _=>rfl) hF (fun j mj b hj hb=>⟨rfl,(h.mine _ _ _ hj hb).2.1⟩) hgr
     rcases List.mem_append.1 hko with hko | hko
     ·exact (GrsR.rows (M:=M') (fun i hi=>hgm i hi) hgr' hko).2.2
     ·simp only [List.mem_cons,List.not_mem_nil,or_false,Prod.mk.injEq] at hko
      obtain ⟨rfl,rfl⟩:=hko
      have hrel' :=GrsR.rel (M:=M') (hM2 hidm h1) h2 (fun i hi=>hgm i hi) hgr'
      refine ⟨mo,hM2 hidm h1,g,us,h2,h3,by simpa using hrel'.1,fun j c hj=> ?_⟩
      obtain ⟨u,h6,h7⟩:=hrel'.2 j c hj
      exact ⟨u,by simpa using h6,h7⟩
    ·cases hko
   ·cases hko
  ·cases hko
  ·cases hko
 ·obtain ⟨h1,h2⟩:=hM' hi
  obtain ⟨h3,h4⟩:=h.mine i mi g h2 hg
  refine ⟨fun hc=> ?_,h4⟩
  rcases hc with hc | ⟨j,mj,hj,hjg,hni⟩
  ·exact h3 hc
  ·have:=h.apart i j mi mj g h2 hj hg hjg
   subst this
   exact hni h1
 ·rcases hg with hg | ⟨i,mo,h1,h2,_⟩
  ·exact h.flt g hg
  ·obtain ⟨_,h3,h4⟩:=h.mine i mo g h1 h2
   exact ⟨h4,.inr h3⟩
 ·obtain ⟨s,sh,hmem,hko⟩:=zbL (zbK ho)
  unfold zlv at hko
  split at hko
  ·cases hko
  ·cases hko
  ·rename_i pn id' e t
   split at hko
   ·rename_i pn' e' t' xs hf
    simp only [List.mem_cons,List.not_mem_nil,or_false,Prod.mk.injEq] at hko
    obtain ⟨rfl,rfl⟩:=hko
    rw [show M' id=M id from if_pos (yd (sh:= .row pn id e t) rfl hmem)]
    exact h.pins _ _ hf hpo
   ·cases hko
  ·rename_i id' t
   split at hko
   ·rename_i t' xs hf
    simp only [List.mem_cons,List.not_mem_nil,or_false,Prod.mk.injEq] at hko
    obtain ⟨rfl,rfl⟩:=hko
    cases hpo
   ·cases hko
  ·rename_i pn id' Tc t
   split at hko
   ·rename_i pn' Tc' cs hf
    split at hko
    ·rename_i x hx
     simp only [List.mem_cons,List.not_mem_nil,or_false,Prod.mk.injEq] at hko
     obtain ⟨rfl,rfl⟩:=hko
     rw [show M' id=M id from if_pos (yd (sh:= .cel pn id Tc t) rfl hmem)]
     exact h.pins _ _ hf hpo
    ·cases hko
   ·cases hko
  ·rename_i pn id' Tc fs
   split at hko
   ·rename_i pn' Tc' cs hf
    split at hko
    ·rename_i x hx
     obtain ⟨mo,h1,g,us,h2,h3,h4,h5⟩:=h.obs _ _ hf
     have hrel:Rel w F M us.toList cs:=⟨by simpa using h4,fun j c hj=>by simpa using h5 j c hj⟩
     have hgr:=jk h h1 h2 (ms:=fun i=>M (gid id' i)) (fun _ _=>rfl) hrel hx
     rcases List.mem_append.1 hko with hko | hko
     ·have:=(GrsR.rows (M:=M) (fun _ _=>rfl) hgr hko).2.1
      rw [this] at hpo;cases hpo
     ·simp only [List.mem_cons,List.not_mem_nil,or_false,Prod.mk.injEq] at hko
      obtain ⟨rfl,rfl⟩:=hko
      rw [show M' id=M id from if_pos (yd (sh:= .grp pn id Tc fs) rfl hmem)]
      exact h.pins _ _ hf hpo
    ·cases hko
   ·cases hko
  ·cases hko
  ·cases hko
theorem Inv.norm (h:Inv w0 F0 F M σ a w) (l:List (Nat×Sh)): ∃ F' M',Inv w0 F0 F' M' (σ.norm l) a w:=by
 obtain ⟨M1,h1⟩:=h.nilRows l
 exact h1.keep l
theorem S.mono {c:Code} {k k' :Exit→St→Prop} (h:S P c σ k) (hk: ∀ e σ',k e σ' →k' e σ'):S P c σ k' :=fun w0 F0 F M a w hi=>
 wp_mono (h w0 F0 F M a w hi) fun e _ _ ⟨σ',F',M',hK,hI⟩=>⟨σ',F',M',hk e σ' hK,hI⟩
theorem S.norm {c:Code} {k:Exit→St→Prop} (l:List (Nat×Sh)) (h:S P c (σ.norm l) k):S P c σ k:=fun w0 F0 F M a w hi=>by
 obtain ⟨F',M',h1⟩:=hi.norm l
 exact h w0 F0 F' M' a w h1
theorem zay {b:Code} {l:List (Nat×Sh)} {k:Exit→St→Prop}: ∀ {ids:List Nat},zdX P b σ l k ids→S P (.loop b) σ k
 | [],h=>S.norm l (S.mono h fun e σ' ⟨he,hk⟩=>by rw [he];exact hk)
 | id::r,h=>by
  rcases h with ⟨x,h1,h2⟩ | h
  ·refine S.norm l fun w0 F0 F M a w hi=>wp_mono (h1 w0 F0 F M a w hi) fun e a' w' ⟨σ',F',M',⟨he,hn⟩,hI⟩=> ?_
   obtain ⟨F2,M2,hI2⟩:=hI.norm l
   rw [hn] at hI2
   exact ⟨_,F2,M2,by rw [he];exact h2,hI2⟩
  ·exact zay h
def SL (P:Program) (n:Nat) (b:Code) (σ:St) (k:Exit→St→Prop):Prop:=
 ∀ (w0:W0 P) F0 F M a w,Inv w0 F0 F M σ a w→Code.rounds P b (fun e a' w' => ∃ σ' F' M',k e σ' ∧Inv w0 F0 F' M' σ' a' w') n a w
theorem SL.loop {n:Nat} {b:Code} {k:Exit→St→Prop} (h:SL P n b σ k):S P (.loop b) σ k:=fun w0 F0 F M a w hi=>wp_loop_rounds n (h w0 F0 F M a w hi)
def zq5 (P:Program) (n:Nat) (b:Code) (l:List (Nat×Sh)) (k:Exit→St→Prop) (e:Exit) (σ:St):Prop:=
 match e with
 | .normal=>SL P n b (σ.norm l) k
 | e=>k e σ
theorem SL.succ {n:Nat} {b:Code} {l:List (Nat×Sh)} {k:Exit→St→Prop} (h:S P b σ (zq5 P n b l k)):SL P (n+1) b σ k:=fun w0 F0 F M a w hi=>by
 rw [rounds_succ]
 refine wp_mono (h w0 F0 F M a w hi) fun e a' w' ⟨σ',F',M',hK,hI⟩=> ?_
 cases e with
 | normal=>
  obtain ⟨F2,M2,hI2⟩:=hI.norm l
  exact hK w0 F0 F2 M2 a' w' hI2
 | _=>exact ⟨σ',F',M',hK,hI⟩
theorem zb (hm:P.follows .mixedOrders=true): ∀ (c:Code) (σ:St) (k:Exit→St→Prop),wpc P tbl μ c σ k→S P c σ k
 | .skip,σ,k,hk=>fun w0 F0 F M a w h=>wp_skip ⟨σ,F,M,hk,h⟩
 | .label l,σ,k,hk=>fun w0 F0 F M a w h=>wp_label ⟨σ,F,M,hk,h⟩
 | .exit id,σ,k,hk=>fun w0 F0 F M a w h=>wp_exit ⟨σ,F,M,hk,h⟩
 | .ret,σ,k,hk=>fun w0 F0 F M a w h=>wp_ret ⟨σ,F,M,hk,h⟩
 | .loop b,σ,k,hk=>by
  unfold wpc at hk
  split at hk
  ·exact zay hk
  ·exact hk.elim
 | .region id ops draw,σ,k,hk=>fun w0 F0 F M a w h=>by
  unfold wpc at hk
  cases draw with
  | false=>
   dsimp only at hk
   split at hk
   ·rename_i l _
    exact wp_region_list (za3 h hk fun σ' F' M' a' w' hK hI=>by
     obtain ⟨F1,M1,h1⟩:=hI.prep l
     exact ⟨_,F1,M1,hK,h1⟩)
   ·exact wp_region_list (za3 h hk fun σ' F' M' a' w' hK hI=>⟨σ',F',M',hK,hI⟩)
  | true=>
   cases hd:zgK P μ ops with
   | false=>
    rw [hd] at hk
    cases ha:zda ops with
    | false=>rw [ha] at hk;exact hk.elim
    | true=>
     rw [ha] at hk
     dsimp only [cond_true,cond_false] at hk
     split at hk
     ·rename_i l1 _ l2 _ _
      obtain ⟨x,hS,hk2⟩:=hk
      obtain ⟨F1,M1,h1⟩:=h.norm l1
      refine wp_mono (hS w0 F0 F1 M1 a w h1) fun e a' w' ⟨σ',F',M',hK,hI⟩=> ?_
      cases e with
      | normal=>
       obtain ⟨F2,M2,hI2⟩:=hI.norm l2
       have hK' :σ'.norm l2=zh σ.n l2 x:=hK
       rw [hK'] at hI2
       exact ⟨_,F2,M2,hk2,hI2⟩
      | _=>exact (show False from hK).elim
     ·exact zq4 hm h ha hk fun σ' F' M' a' w' hK hI=>⟨σ',F',M',hK,hI⟩
   | true=>
    rw [hd] at hk
    exact zlG hm h hd hk fun σ' F' M' a' w' hK hI=>⟨σ',F',M',hK,hI⟩
 | .seq x y,σ,k,hk=>fun w0 F0 F M a w h=>by
  unfold wpc at hk
  refine wp_seq (wp_mono (zb hm x σ _ hk w0 F0 F M a w h) fun e a' w' ⟨σ',F',M',hK,hI⟩=> ?_)
  cases e with
  | normal=>exact zb hm y σ' k hK w0 F0 F' M' a' w' hI
  | _=>exact ⟨σ',F',M',hK,hI⟩
 | .cond c x y,σ,k,hk=>fun w0 F0 F M a w h=>by
  unfold wpc at hk
  split at hk
  ·rename_i b hb
   have hc:=h.ev c
   rw [hb] at hc
   have hv:=hc.bool
   have lit: ∀ b',b=b' →Inv w0 F0 F M (σ.litOp c b') a w:=fun b' e=>by
    subst e
    unfold St.litOp
    split
    ·exact h.lit hv
    ·exact h
   cases b with
   | true=>exact wp_cond_true hv (zb hm x _ k hk w0 F0 F M a w (lit true rfl))
   | false=>exact wp_cond_false hv (zb hm y _ k hk w0 F0 F M a w (lit false rfl))
  ·exact hk.elim
 | .block id b,σ,k,hk=>fun w0 F0 F M a w h=>by
  unfold wpc at hk
  refine wp_block (wp_mono (zb hm b σ _ hk w0 F0 F M a w h) fun e a' w' ⟨σ',F',M',hK,hI⟩=> ?_)
  cases e with
  | exit i=>
   have hK' :(bif Nat.beq i id then k .normal σ' else k (.exit i) σ'):=hK
   simp only [Exit.inBlock]
   rcases zj i id with ⟨rfl,hb⟩ | ⟨hne,hb⟩
   ·rw [hb] at hK';rw [if_pos rfl];exact ⟨σ',F',M',hK',hI⟩
   ·rw [hb] at hK';rw [if_neg hne];exact ⟨σ',F',M',hK',hI⟩
  | _=>exact ⟨σ',F',M',hK,hI⟩
 | .rangeFunc _ _ _ _,_,_,hk=>(show False from hk).elim
 | .scope b,σ,k,hk=>fun w0 F0 F M a w h=>by
  unfold wpc at hk
  refine wp_scope_straight (wp_mono (zb hm b σ _ hk w0 F0 F M a w h) fun e a' w' ⟨σ',F',M',hK,hI⟩=> ?_)
  cases e with
  | goto _=>exact hK.elim
  | _=>exact ⟨σ',F',M',hK,hI⟩
 | .goto _,_,_,hk=>(show False from hk).elim
 | .refuse _,_,_,hk=>(show False from hk).elim
theorem qz: ∀ (ds:List D) (k i:Nat),find (yS k ds) (k+i)=match ds[i]? with | some d=>d | none=> .bad
 | [],k,i=>by simp [yS,find]
 | d::r,k,0=>by simp [yS,find]
 | d::r,k,i+1=>by
  have hne:k+(i+1)≠k:=by omega
  have hb:Nat.beq (k+(i+1)) k=false:=(zj _ _).resolve_left (fun h=>hne h.1) |>.2
  have:find (yS k (d::r)) (k+(i+1))=find (yS (k+1) r) (k+(i+1)):=by simp only [yS,find,hb,cond_false]
  rw [this,show k+(i+1)=k+1+i by omega,qz r (k+1) i]
  simp
theorem qc {fn:Func} {tmps:Array Value} {vs:List Value} (h:(fn.results.toList.mapM (qU tmps)).run P w= .ok vs w):
  (results fn tmps).run P w= .ok (if hs:vs.toArray.size=1 then vs.toArray[0] else .tuple vs.toArray) w:=by
 have hr:(fn.results.mapM (qU tmps)).run P w= .ok vs.toArray w:=by
  rw [← Array.toArray_toList (xs:=fn.results),List.mapM_toArray]
  simp [h]
 have e:results fn tmps=(do let vs ← fn.results.mapM (qU tmps);Pure.pure (if h:vs.size=1 then vs[0] else .tuple vs)):=by
  unfold results
  congr 1
 rw [e,Sem.run_bind,hr]
 rfl
theorem RR0.toRR {B:Nat→Prop} {G:Option Nat} {v:Value} {d:D} (h:RR0 w F B G v d):RR w F B G v d:=by
 cases d<;>first | exact h | exact h.elim
theorem OwnR.imp {B B' :Nat→Prop} (hB: ∀ g,B g→B' g) {G:Option Nat} {v:Value} {e:TypeId} {t:Ty} {xs:List t.I} (h:OwnR w F B G v e t xs):OwnR w F B' G v e t xs:=by
 rcases h with h | ⟨g,cap,us,h1,h2,h3⟩
 ·exact .inl h
 ·exact .inr ⟨g,cap,us,h1,hB g h2,h3⟩
theorem RR0.imp {B B' :Nat→Prop} (hB: ∀ g,B g→B' g) {G:Option Nat} {v:Value} {d:D} (h:RR0 w F B G v d):RR0 w F B' G v d:=by
 cases d<;>first | exact OwnR.imp hB h | exact h
theorem RR.imp {B B' :Nat→Prop} (hB: ∀ g,B g→B' g) {G:Option Nat} {v:Value} {d:D} (h:RR w F B G v d):RR w F B' G v d:=by
 cases d with
 | tup xs=>
  obtain ⟨vs,h1,h2,h3⟩:=h
  exact ⟨vs,h1,h2,fun j d hj=>by
   obtain ⟨u,h4,h5⟩:=h3 j d hj
   exact ⟨u,h4,h5.imp hB⟩⟩
 | _=>first | exact OwnR.imp hB h | exact h
theorem zk {f:FuncId} {fn:Func} {c:Code} (hf:P.funcs[f]? =some fn) (hb:fn.body=some c) (hname:(fn.name== "runtime.NumGoroutine")=false) {ds:List D} (hlen:Nat.ble ds.length fn.ntmps=true) (own:Bool) {d:D}
  (hk:S P c { n:=fn.ntmps,sl:=yS 0 ds,ob:=[] } (retK P fn own d)):Spec P f ds d:=by
 refine ⟨fun args w=> ?_,fun w vs F hF hgl hsz hargs=> ?_⟩
 ·have hn: ¬ fn.name= "runtime.NumGoroutine" :=by simpa using hname
  simp [callFunc,hf,hn,hb]
 ·have hle:=Nat.le_of_ble_eq_true hlen
  refine calls_of_wp hf hb (wp_mono (hk ⟨w,fun _=>False,noM,fun g hg=>⟨hF g (hgl g hg).1,id,(hgl g hg).2⟩⟩ F F noM { tmps:=vs++Array.replicate (fn.ntmps - vs.size) undef,defers:=[] } w ?_) fun e a' w' ⟨σ',F',M',hK,hI⟩=> ?_)
  ·refine ⟨rfl,by simp;omega,fun i=> ?_,fun id o ho=>(by cases ho),fun i j mi mj g hi=>(by cases hi),fun i mi g hi=>(by cases hi),fun g hg=>⟨hF g hg,.inl hg⟩,fun g hg=>hg.elim id fun hg=>(hgl g hg).1,⟨rfl,rfl,rfl,Nat.le_refl _,fun _ _ _=>rfl⟩,fun id o ho=>(by cases ho)⟩
   have hfi:=qz ds 0 i
   rw [Nat.zero_add] at hfi
   show R w F noM _ (find (yS 0 ds) i)
   rw [hfi]
   cases hdi:ds[i]? with
   | none=>exact trivial
   | some d' =>
    obtain ⟨v,h1,h2⟩:=hargs i d' hdi
    have hlt:i<vs.size:=(Array.getElem?_eq_some_iff.1 h1).1
    have:(vs++Array.replicate (fn.ntmps - vs.size) undef).getD i undef=v:=by
     rw [Array.getD_eq_getD_getElem?,Array.getElem?_append_left hlt,h1];rfl
    show R w F noM ((vs++Array.replicate (fn.ntmps - vs.size) undef).getD i undef) d'
    rw [this]
    exact R.of1 h2
  ·have fin:resD P σ' own fn=some d→a'.defers=[]∧ ∃ v,(results fn a'.tmps).run P w' = .ok v w' ∧ ∃ v' F' G,Ending.returned v= .returned v' ∧Below w.heap.size w w' ∧(∀ g,F g→F' g)∧(∀ g,F' g→g<w'.heap.size∧(F g∨w.heap.size≤g))∧
     (∀ g,G=some g→w.heap.size≤g∧ ¬F' g∧g<w'.heap.size)∧RR w' F' (fun g=>w.heap.size≤g) G v' d:=fun hr=>by
    refine ⟨hI.defers,?_⟩
    unfold resD at hr
    cases hra:yY P σ' own fn.results.toList fn.resultTypes.toList with
    | none=>rw [hra] at hr;cases hr
    | some ds' =>
     rw [hra] at hr
     obtain ⟨us,F2,G,h1,h2,h3,h4',h5',h6⟩:=zjl hI own _ _ _ hra
     have hnw: ∀ g,(⟨w,fun _=>False,noM,fun g hg=>⟨hF g (hgl g hg).1,id,(hgl g hg).2⟩⟩:W0 P).nw g→w.heap.size≤g:=fun g hg=>hg.elim id False.elim
     have h4:=fun g hg=>(⟨(h4' g hg).1,(h4' g hg).2.imp id (hnw g)⟩:g<w'.heap.size∧(F g∨w.heap.size≤g))
     have h5:=fun g hg=>(⟨hnw g (h5' g hg).1,(h5' g hg).2⟩:w.heap.size≤g∧ ¬F2 g∧g<w'.heap.size)
     have hbel:Below w.heap.size w w' :=⟨hI.below.os,hI.below.tape,hI.below.output,hI.below.size,fun k hk=>hI.below.block k hk id⟩
     refine ⟨_,qc h1,_,F2,G,rfl,hbel,h3,h4,h5,RR.imp hnw ?_⟩
     match ds',us,h2,hr,h6 with
     | [],[],_,hr,h6=>
      have:D.tup []=d:=by simpa using hr
      subst this
      exact ⟨#[],rfl,rfl,fun j d hj=>by simp at hj⟩
     | [d1],[u1],_,hr,h6=>
      have:d1=d:=by simpa using hr
      subst this
      obtain ⟨v,h7,h8⟩:=h6 0 _ rfl
      have:u1=v:=by simpa using h7
      subst this
      exact h8.toRR
     | d1::d2::r,u1::u2::r',h2,hr,h6=>
      have:D.tup (d1::d2::r)=d:=by simpa using hr
      subst this
      refine ⟨(u1::u2::r').toArray,?_,by simpa using h2,fun j d hj=> ?_⟩
      ·simp
      ·obtain ⟨v,h7,h8⟩:=h6 j d hj
       exact ⟨v,by simpa using h7,h8⟩
   cases e with
   | normal=>exact fin hK
   | ret=>exact fin hK
   | _=>exact (show False from hK).elim
def retKR (P:Program) (fn:Func) (e:TypeId) (t:Ty) (ys:List t.I) (d:D) (en:Exit) (σ:St):Prop:=
 (en= .normal∨en= .ret)∧resD P σ false fn=some d∧zg σ.ob 0=some (.row true e t ys)
theorem zlH {f:FuncId} {fn:Func} {c:Code} (hf:P.funcs[f]? =some fn) (hb:fn.body=some c) (hname:(fn.name== "runtime.NumGoroutine")=false) {ds:List D} (hlen:Nat.ble (ds.length+1) fn.ntmps=true) {d:D}
  {e:TypeId} {t:Ty} {xs ys:List t.I} (hd:d= .tup []∨ ∃ (u:Ty) (x:u.I),u.flat=true∧d=encV u x)
  (hk:S P c { n:=fn.ntmps,sl:=(0,.slo 0)::yS 1 ds,ob:=[(0,.row true e t xs)] } (retKR P fn e t ys d)):zcq P f e t xs ds ys d:=by
 refine ⟨fun args w=> ?_,fun w v0 vs F G0 hF hgl hown hsz hargs=> ?_⟩
 ·have hn: ¬ fn.name= "runtime.NumGoroutine" :=by simpa using hname
  simp [callFunc,hf,hn,hb]
 ·have hle:=Nat.le_of_ble_eq_true hlen
  let M0:Nat→Option MO:=fun id=>if id=0 then some ⟨G0,v0,t.width⟩ else none
  have hM0: ∀ {i:Nat} {mo:MO},M0 i=some mo→i=0∧mo=⟨G0,v0,t.width⟩:=fun {i mo} hi=>by
   have hi:(if i=0 then some (⟨G0,v0,t.width⟩:MO) else none)=some mo:=hi
   split at hi
   ·exact ⟨‹_›,(Option.some.inj hi).symm⟩
   ·cases hi
  have hok: ∀ g,yQ P g=true→g<w.heap.size∧ ¬(G0=some g)∧zdT P w g:=fun g hg=>⟨hF g (hgl g hg).1,fun hG=>by
   rcases hown with ⟨_,h,_⟩ | ⟨g',cap,us,h1,h2,_⟩
   ·rw [hG] at h;cases h
   ·rw [hG] at h1;cases h1;exact h2.2 (hgl g hg).1,(hgl g hg).2⟩
  refine calls_of_wp hf hb (wp_mono (hk ⟨w,fun g=>G0=some g,M0,hok⟩ F F M0 { tmps:=(#[v0]++vs)++Array.replicate (fn.ntmps - (#[v0]++vs).size) undef,defers:=[] } w ?_) fun en a' w' ⟨σ',F',M',hK,hI⟩=> ?_)
  ·have hG: ∀ g,G0=some g→g<w.heap.size∧ ¬F g:=fun g hg=>by
    rcases hown with ⟨_,h,_⟩ | ⟨g',cap,us,h1,h2,_⟩
    ·rw [hg] at h;cases h
    ·rw [hg] at h1;cases h1;exact h2
   refine ⟨rfl,by simp;omega,fun i=> ?_,fun id o ho=> ?_,fun i j mi mj g hi hj _ _=>(hM0 hi).1.trans (hM0 hj).1.symm,fun i mi g hi hg=> ?_,fun g hg=>⟨hF g hg,.inl hg⟩,fun g hg=>hg.elim id fun hg=>(hgl g hg).1,⟨rfl,rfl,rfl,Nat.le_refl _,fun _ _ _=>rfl⟩,fun id o ho hp=> ?_⟩
   ·show R w F M0 _ (find ((0,.slo 0)::yS 1 ds) i)
    have hsz2:(#[v0]++vs).size=1+vs.size:=by simp
    cases i with
    | zero=>
     have h0:((#[v0]++vs)++Array.replicate (fn.ntmps - (#[v0]++vs).size) undef).getD 0 undef=v0:=by
      rw [Array.getD_eq_getD_getElem?,Array.getElem?_append_left (by omega),Array.getElem?_append_left (by simp)];rfl
     rw [h0]
     exact ⟨⟨G0,v0,t.width⟩,rfl,rfl,by
      rcases hown with ⟨_,_,A,h⟩ | ⟨g',cap,us,_,_,h,_⟩<;>rw [h]<;>rfl⟩
    | succ i=>
     have hfi:=qz ds 1 i
     have hb1:Nat.beq (1+i) 0=false:=(zj _ _).resolve_left (fun h=>by omega) |>.2
     have:find ((0,D.slo 0)::yS 1 ds) (1+i)=find (yS 1 ds) (1+i):=by simp only [find,hb1,cond_false]
     rw [show i+1=1+i by omega,this,hfi]
     cases hdi:ds[i]? with
     | none=>exact trivial
     | some d' =>
      obtain ⟨v,h1,h2⟩:=hargs i d' hdi
      have hlt:i<vs.size:=(Array.getElem?_eq_some_iff.1 h1).1
      have:((#[v0]++vs)++Array.replicate (fn.ntmps - (#[v0]++vs).size) undef).getD (1+i) undef=v:=by
       rw [Array.getD_eq_getD_getElem?,Array.getElem?_append_left (by omega),Array.getElem?_append_right (by simp)]
       simp [h1]
      show R w F M0 (((#[v0]++vs)++Array.replicate (fn.ntmps - (#[v0]++vs).size) undef).getD (1+i) undef) d'
      rw [this]
      exact R.of1 (h2.keep (fun _ _=>rfl) (fun _ y=>y) (MLe.none M0))
   ·have ho' :(bif Nat.beq id 0 then some (Ob.row true e t xs) else none)=some o:=ho
    rcases zj id 0 with ⟨rfl,hbq⟩ | ⟨_,hbq⟩
    ·rw [hbq] at ho'
     have:Ob.row true e t xs=o:=Option.some.inj ho'
     subst this
     exact ⟨⟨G0,v0,t.width⟩,rfl,rfl,hown.setB fun g hg=> .inr hg⟩
    ·rw [hbq] at ho';cases ho'
   ·obtain ⟨_,rfl⟩:=hM0 hi
    exact ⟨(hG g hg).2,.inr hg,(hG g hg).1⟩
   ·rfl
  ·obtain ⟨hen,hr,hrow⟩:=hK
   have fin:a'.defers=[]∧ ∃ v,(results fn a'.tmps).run P w' = .ok v w' ∧ ∃ v' F',Ending.returned v= .returned v' ∧w.grownBy w' G0∧(∀ g,F g→F' g)∧(∀ g,F' g→g<w'.heap.size∧(F g∨w.heap.size≤g))∧(∀ F2 M2,R w' F2 M2 v' d)∧
     OwnR w' F' (fun _=>True) G0 v0 e t ys:=by
    refine ⟨hI.defers,?_⟩
    have hM:M' 0=some ⟨G0,v0,t.width⟩:=hI.pins 0 _ hrow rfl
    obtain ⟨mo,hm,hmk,hown'⟩:=hI.obs 0 _ hrow
    have:mo=⟨G0,v0,t.width⟩:=Option.some.inj (hm.symm.trans hM)
    subst this
    have hnot: ∀ g,G0=some g→ ¬F' g:=fun g hg=>(hI.mine _ _ _ hM hg).1
    have hF' : ∀ g,F' g→g<w'.heap.size∧(F g∨w.heap.size≤g):=fun g hg=>by
     obtain ⟨h1,h2⟩:=hI.flt g hg
     refine ⟨h1,?_⟩
     rcases h2 with h2 | h2 | h2
     ·exact .inl h2
     ·exact .inr h2
     ·exact absurd hg (hnot g h2)
    have hbel:w.grownBy w' G0:=⟨hI.below.os,hI.below.tape,hI.below.output,hI.below.size,fun k hk hne=>hI.below.block k hk fun hX=>hne hX.symm⟩
    unfold resD at hr
    cases hra:yY P σ' false fn.results.toList fn.resultTypes.toList with
    | none=>rw [hra] at hr;cases hr
    | some ds' =>
     rw [hra] at hr
     obtain ⟨us,h1,h2,h3⟩:=jo hI _ _ _ hra
     refine ⟨_,qc h1,_,F',rfl,hbel,fun g hg=>hI.fle g (.inl hg),hF',?_,hown'.setB fun _ _=>trivial⟩
     match ds',us,h2,hr,h3 with
     | [],[],_,hr,h3=>
      have:D.tup []=d:=by simpa using hr
      subst this
      exact fun F2 M2=>⟨#[],rfl,rfl,fun j d hj=>by simp at hj⟩
     | [d1],[u1],_,hr,h3=>
      have:d1=d:=by simpa using hr
      subst this
      obtain ⟨v,h7,_,h8⟩:=h3 0 _ rfl
      have:u1=v:=by simpa using h7
      subst this
      rcases hd with hd | ⟨u,x,hfl,hd⟩
      ·rw [hd] at h8;exact h8.elim
      ·rw [hd] at h8 ⊢
       exact fun F2 M2=>R.of1 (h8.flat hfl)
     | d1::d2::r,_,_,hr,_=>
      have:D.tup (d1::d2::r)=d:=by simpa using hr
      rcases hd with hd | ⟨u,x,hfl,hd⟩
      ·rw [hd] at this;cases this
      ·rw [hd] at this;cases u<;>cases this
   rcases hen with rfl | rfl
   ·exact fin
   ·exact fin
def zoI (P:Program) (fn:Func):Bool:=fn.resultTypes.toList.all fun t=>match tyOf P 12 t with | some u=>u.flat | none=>false
def zjm:List ResultVar→Bool
 | []=>true
 | .tmp _::r=>zjm r
 | .cell _ _::_=>false
def resG (P:Program) (σ:St) (fn:Func):Option D:=
 match zoI P fn with
 | true=>resD P σ false fn
 | false=>match zjm fn.results.toList with
  | true=>some .bad
  | false=>none
def zih (T:TypeId) (fs:List Fd) (σ:St):Option (gTy fs).I:=
 match zg (σ.gnils 0 0 0 fs).ob 0 with
 | some (.cells true T' cs)=>match decide (T' =T),zaS (σ.gnils 0 0 0 fs).ob 0 0 fs cs with
  | true,some y=>some y
  | _,_=>none
 | _=>none
def retKG (P:Program) (fn:Func) (T:TypeId) (fs:List Fd) (y:(gTy fs).I) (d:D) (en:Exit) (σ:St):Prop:=
 (en= .normal∨en= .ret)∧resG P σ fn=some d∧zih T fs σ=some y
def zlI (d:D):Prop:=d= .bad∨d= .tup []∨(∃ (u:Ty) (x:u.I),u.flat=true∧d=encV u x)∨ ∃ (u:Ty) (x:u.I) (u' :Ty) (x' :u'.I),u.flat=true∧u'.flat=true∧d= .tup [encV u x,encV u' x']
theorem zjn {tmps:Array Value}: ∀ {rs:List ResultVar},zjm rs=true→ ∃ us,(rs.mapM (qU tmps)).run P w= .ok us w
 | [],_=>⟨[],by simp⟩
 | .tmp t::r,h=>by
  obtain ⟨us,h1⟩:=zjn (tmps:=tmps) (rs:=r) h
  exact ⟨tmps.getD t undef::us,by simp [List.mapM_cons,qU,h1]⟩
 | .cell _ _::_,h=>by cases h
theorem jD {u:Ty} {x:u.I} {ds:List D}:encV u x≠ .tup ds:=by cases u<;>exact fun h=>by cases h
theorem zfY {u:Ty} {x:u.I}:encV u x≠ .bad:=by cases u<;>exact fun h=>by cases h
theorem zii {fn:Func} (h:Inv w0 F0 F M σ a w) {d:D} (hr:resG P σ fn=some d) (hd:zlI d): ∃ v,(results fn a.tmps).run P w= .ok v w∧ ∀ F2 M2,R w F2 M2 v d:=by
 unfold resG at hr
 split at hr
 ·unfold resD at hr
  cases hra:yY P σ false fn.results.toList fn.resultTypes.toList with
  | none=>rw [hra] at hr;cases hr
  | some ds' =>
   rw [hra] at hr
   obtain ⟨us,h1,h2,h3⟩:=jo h _ _ _ hra
   refine ⟨_,qc h1,?_⟩
   match ds',us,h2,hr,h3 with
   | [],[],_,hr,h3=>
    have:D.tup []=d:=by simpa using hr
    subst this
    exact fun F2 M2=>⟨#[],rfl,rfl,fun j d hj=>by simp at hj⟩
   | [d1],[u1],_,hr,h3=>
    have:d1=d:=by simpa using hr
    subst this
    obtain ⟨v,h7,⟨u0,x0,he⟩,h8⟩:=h3 0 _ rfl
    have:u1=v:=by simpa using h7
    subst this
    rcases hd with hd | hd | ⟨u,x,hfl,hd⟩ | ⟨_,_,_,_,_,_,hd⟩
    ·rw [hd] at he;exact absurd he.symm zfY
    ·rw [hd] at he;exact absurd he.symm jD
    ·rw [hd] at h8 ⊢
     exact fun F2 M2=>R.of1 (h8.flat hfl)
    ·rw [hd] at he;exact absurd he.symm jD
   | [d1,d2],[u1,u2],_,hr,h3=>
    have:D.tup [d1,d2]=d:=by simpa using hr
    subst this
    rcases hd with hd | hd | ⟨u,x,hfl,hd⟩ | ⟨u,x,u',x',hf1,hf2,hd⟩
    ·cases hd
    ·cases hd
    ·exact absurd hd.symm jD
    ·injection hd with hd
     injection hd with e1 hd
     injection hd with e2 _
     subst e1 e2
     obtain ⟨v1,h7,_,h8⟩:=h3 0 _ rfl
     obtain ⟨v2,h9,_,h10⟩:=h3 1 _ rfl
     intro F2 M2
     refine ⟨#[u1,u2],by simp,rfl,fun j d hj=> ?_⟩
     match j,hj with
     | 0,hj=>
      simp only [List.getElem?_cons_zero,Option.some.injEq] at hj
      subst hj
      have:u1=v1:=by simpa using h7
      subst this
      exact ⟨u1,rfl,h8.flat hf1⟩
     | 1,hj=>
      simp only [List.getElem?_cons_succ,List.getElem?_cons_zero,Option.some.injEq] at hj
      subst hj
      have:u2=v2:=by simpa using h9
      subst this
      exact ⟨u2,rfl,h10.flat hf2⟩
     | j+2,hj=>simp at hj
   | d1::d2::d3::r,_,_,hr,_=>
    have:D.tup (d1::d2::d3::r)=d:=by simpa using hr
    subst this
    rcases hd with hd | hd | ⟨u,x,hfl,hd⟩ | ⟨u,x,u',x',hf1,hf2,hd⟩
    ·cases hd
    ·cases hd
    ·exact absurd hd.symm jD
    ·cases hd
 ·split at hr
  ·rename_i ht
   simp only [Option.some.injEq] at hr
   subst hr
   obtain ⟨us,h1⟩:=zjn (P:=P) (w:=w) (tmps:=a.tmps) ht
   exact ⟨_,qc h1,fun _ _=>trivial⟩
  ·cases hr
theorem zgU {f:FuncId} {fn:Func} {c:Code} (hf:P.funcs[f]? =some fn) (hb:fn.body=some c) (hname:(fn.name== "runtime.NumGoroutine")=false) {ds:List D} (hlen:Nat.ble (ds.length+1) fn.ntmps=true) {d:D}
  {T:TypeId} {fs:List Fd} {x y:(gTy fs).I} (hd:zlI d)
  (hk:S P c { n:=fn.ntmps,sl:=(0,.ptr 0 0)::yS 1 ds,ob:=gOb 0 0 fs x++[(0,.cells true T (gCs 0 0 fs x))] } (retKG P fn T fs y d)):q8 P f T fs x ds y d:=by
 refine ⟨fun args w=> ?_,fun w b vs F ms hF hgl hX hG hsz hargs=> ?_⟩
 ·have hn: ¬ fn.name= "runtime.NumGoroutine" :=by simpa using hname
  simp [callFunc,hf,hn,hb]
 ·have hle:=Nat.le_of_ble_eq_true hlen
  have hidx: ∀ i,gid 0 i - 1000000=i:=fun i=>by unfold gid;omega
  have hid:(0:Nat)∉gids 0 0 fs:=fun hm=>by
   obtain ⟨i,hi⟩:=qQ hm
   exact zdp 0 i hi
  let M0:Nat→Option MO:=fun i=>if i=0 then some ⟨some b,.pointer none,0⟩ else if i∈gids 0 0 fs then ms (i - 1000000) else none
  have hM00:M0 0=some ⟨some b,.pointer none,0⟩:=if_pos rfl
  have hM0: ∀ {i:Nat} {mo:MO},M0 i=some mo→(i=0∧mo=⟨some b,.pointer none,0⟩)∨(i≠0∧i∈gids 0 0 fs∧ms (i - 1000000)=some mo):=fun {i mo} hi=>by
   have hi:(if i=0 then some (⟨some b,.pointer none,0⟩:MO) else if i∈gids 0 0 fs then ms (i - 1000000) else none)=some mo:=hi
   split at hi
   ·exact .inl ⟨‹_›,(Option.some.inj hi).symm⟩
   ·split at hi
    ·exact .inr ⟨‹_›,‹_›,hi⟩
    ·cases hi
  have hms0: ∀ i,gid 0 i∈gids 0 0 fs→ms i=M0 (gid 0 i):=fun i hi=>by
   show ms i=if gid 0 i=0 then _ else if gid 0 i∈gids 0 0 fs then ms (gid 0 i - 1000000) else none
   rw [if_neg (zi8 0 i),if_pos hi,hidx]
  have hok: ∀ g,yQ P g=true→g<w.heap.size∧ ¬(grX b ms g)∧zdT P w g:=fun g hg=>⟨hF g (hgl g hg).1,fun hx=>(hX g hx).1 (hgl g hg).1,(hgl g hg).2⟩
  obtain ⟨us,hus,hgr⟩:=hG.cells
  have hgr' :GrsR w F (⟨w,grX b ms,M0,hok⟩:W0 P).nw b ms 0 fs x us.toList:=GrsR.keep (fun _ _=>rfl) (fun _ z=>z) (fun j mo g hj hg=>⟨rfl,.inr (.inr ⟨j,mo,hj,hg⟩)⟩) hgr
  have hrel:=GrsR.rel (M:=M0) (id:=0) hM00 rfl hms0 hgr'
  refine calls_of_wp hf hb (wp_mono (hk ⟨w,grX b ms,M0,hok⟩ F F M0 { tmps:=(#[Value.pointer (some ⟨b,0,none⟩)]++vs)++Array.replicate (fn.ntmps - (#[Value.pointer (some ⟨b,0,none⟩)]++vs).size) undef,defers:=[] } w ?_) fun en a' w' ⟨σ',F',M',hK,hI⟩=> ?_)
  ·refine ⟨rfl,by simp;omega,fun i=> ?_,fun id o ho=> ?_,fun i j mi mj g hi hj hgi hgj=> ?_,fun i mi g hi hg=> ?_,fun g hg=>⟨hF g hg,.inl hg⟩,fun g hg=>hg.elim id fun hg=>(hgl g hg).1,⟨rfl,rfl,rfl,Nat.le_refl _,fun _ _ _=>rfl⟩,fun id o ho hp=>rfl⟩
   ·show R w F M0 _ (find ((0,.ptr 0 0)::yS 1 ds) i)
    have hsz2:(#[Value.pointer (some ⟨b,0,none⟩)]++vs).size=1+vs.size:=by simp
    cases i with
    | zero=>
     have h0:((#[Value.pointer (some ⟨b,0,none⟩)]++vs)++Array.replicate (fn.ntmps - (#[Value.pointer (some ⟨b,0,none⟩)]++vs).size) undef).getD 0 undef= .pointer (some ⟨b,0,none⟩):=by
      rw [Array.getD_eq_getD_getElem?,Array.getElem?_append_left (by omega),Array.getElem?_append_left (by simp)];rfl
     rw [h0]
     exact ⟨_,b,hM00,rfl,rfl⟩
    | succ i=>
     have hfi:=qz ds 1 i
     have hb1:Nat.beq (1+i) 0=false:=(zj _ _).resolve_left (fun h=>by omega) |>.2
     have:find ((0,D.ptr 0 0)::yS 1 ds) (1+i)=find (yS 1 ds) (1+i):=by simp only [find,hb1,cond_false]
     rw [show i+1=1+i by omega,this,hfi]
     cases hdi:ds[i]? with
     | none=>exact trivial
     | some d' =>
      obtain ⟨v,h1,h2⟩:=hargs i d' hdi
      have hlt:i<vs.size:=(Array.getElem?_eq_some_iff.1 h1).1
      have:((#[Value.pointer (some ⟨b,0,none⟩)]++vs)++Array.replicate (fn.ntmps - (#[Value.pointer (some ⟨b,0,none⟩)]++vs).size) undef).getD (1+i) undef=v:=by
       rw [Array.getD_eq_getD_getElem?,Array.getElem?_append_left (by omega),Array.getElem?_append_right (by simp)]
       simp [h1]
      show R w F M0 (((#[Value.pointer (some ⟨b,0,none⟩)]++vs)++Array.replicate (fn.ntmps - (#[Value.pointer (some ⟨b,0,none⟩)]++vs).size) undef).getD (1+i) undef) d'
      rw [this]
      exact R.of1 (h2.keep (fun _ _=>rfl) (fun _ y=>y) (MLe.none M0))
   ·rcases jB ho with ho | ho
    ·exact (GrsR.rows hms0 hgr' ho).2.2
    ·have ho' :(bif Nat.beq id 0 then some (Ob.cells true T (gCs 0 0 fs x)) else none)=some o:=ho
     rcases zj id 0 with ⟨rfl,hbq⟩ | ⟨_,hbq⟩
     ·rw [hbq] at ho'
      have:Ob.cells true T (gCs 0 0 fs x)=o:=Option.some.inj ho'
      subst this
      refine ⟨_,hM00,b,us,rfl,hus,by simpa using hrel.1,fun j c hj=> ?_⟩
      obtain ⟨u,h4,h5⟩:=hrel.2 j c hj
      exact ⟨u,by simpa using h4,h5⟩
     ·rw [hbq] at ho';cases ho'
   ·rcases hM0 hi with ⟨rfl,rfl⟩ | ⟨hi0,him,hi⟩<;>rcases hM0 hj with ⟨rfl,rfl⟩ | ⟨hj0,hjm,hj⟩
    ·rfl
    ·have:b=g:=by simpa using hgi
     subst this
     exact absurd hgj (hG.off _ _ hj)
    ·have:b=g:=by simpa using hgj
     subst this
     exact absurd hgi (hG.off _ _ hi)
    ·have:=hG.apart _ _ _ _ _ hi hj hgi hgj
     obtain ⟨i',rfl⟩:=qQ him
     obtain ⟨j',rfl⟩:=qQ hjm
     rw [hidx,hidx] at this
     rw [this]
   ·have hx:grX b ms g:=by
     rcases hM0 hi with ⟨rfl,rfl⟩ | ⟨_,_,hi⟩
     ·left
      have:b=g:=by simpa using hg
      exact this.symm
     ·exact .inr ⟨_,mi,hi,hg⟩
    exact ⟨(hX g hx).1,.inr hx,(hX g hx).2⟩
  ·obtain ⟨hen,hr,hrd⟩:=hK
   have fin:a'.defers=[]∧ ∃ v,(results fn a'.tmps).run P w' = .ok v w' ∧ ∃ v' F' ms',Ending.returned v= .returned v' ∧BelX w (grX b ms) w' ∧(∀ g,F g→F' g)∧(∀ g,F' g→g<w'.heap.size∧(F g∨w.heap.size≤g∨grX b ms g))∧
     (∀ g,grX b ms' g→ ¬F' g∧g<w'.heap.size∧(grX b ms g∨w.heap.size≤g))∧GrR w' F' (fun _=>True) b T fs y ms' ∧(∀ F2 M2,R w' F2 M2 v' d):=by
    refine ⟨hI.defers,?_⟩
    obtain ⟨v,h1,h2⟩:=zii hI hr hd
    refine ⟨v,h1,v,F',?_⟩
    obtain ⟨M2,hI2,hM2⟩:=hI.gnils 0 fs 0 0
    unfold zih at hrd
    split at hrd
    ·rename_i T' cs hob
     split at hrd
     ·rename_i y' hT hy
      have hT:=of_decide_eq_true hT
      subst hT
      simp only [Option.some.injEq] at hrd
      subst hrd
      have hM20:M2 0=some ⟨some b,.pointer none,0⟩:=(hI2.pins 0 _ hob rfl).trans hM00
      let ms' :Nat→Option MO:=fun j=>if gid 0 j∈gids 0 0 fs then M2 (gid 0 j) else none
      have hms' : ∀ i mo,ms' i=some mo→gid 0 i∈gids 0 0 fs∧M2 (gid 0 i)=some mo:=fun i mo hi=>by
       have hi:(if gid 0 i∈gids 0 0 fs then M2 (gid 0 i) else none)=some mo:=hi
       split at hi
       ·exact ⟨‹_›,hi⟩
       ·cases hi
      obtain ⟨mo,hm,g,us',hg,hus',hl,hc⟩:=hI2.obs _ _ hob
      have:mo=⟨some b,.pointer none,0⟩:=Option.some.inj (hm.symm.trans hM20)
      subst this
      have:b=g:=by simpa using hg
      subst this
      have hgr2:=jk hI2 hM20 rfl (ms:=ms') (fun i hi=>if_pos hi) (us:=us'.toList) ⟨by simpa using hl,fun j c hj=>by simpa using hc j c hj⟩ hy
      refine ⟨ms',rfl,⟨hI.below.os,hI.below.tape,hI.below.output,hI.below.size,fun k hk hx=>hI.below.block k hk hx⟩,fun g hg=>hI.fle g (.inl hg),fun g hg=> ?_,fun g hg=> ?_,
       ⟨⟨us',hus',GrsR.keep (fun _ _=>rfl) (fun _ z=>z) (fun _ _ _ _ _=>⟨rfl,trivial⟩) hgr2⟩,fun i j mi mj g' hi hj hgi hgj=>zi9 (hI2.apart _ _ _ _ _ (hms' i mi hi).2 (hms' j mj hj).2 hgi hgj),fun i mi hi hgi=>zi8 0 i (hI2.apart _ _ _ _ _ (hms' i mi hi).2 hM20 hgi rfl)⟩,h2⟩
      ·obtain ⟨h3,h4⟩:=hI.flt g hg
       refine ⟨h3,?_⟩
       rcases h4 with h4 | h4 | h4
       ·exact .inl h4
       ·exact .inr (.inl h4)
       ·exact .inr (.inr h4)
      ·have key: ∀ i mi,M2 i=some mi→mi.g=some g→ ¬F' g∧g<w'.heap.size∧(grX b ms g∨w.heap.size≤g):=fun i mi hi hgi=>by
        obtain ⟨h3,h4,h5⟩:=hI2.mine _ _ _ hi hgi
        exact ⟨h3,h5,h4.symm⟩
       rcases hg with rfl | ⟨j,mj,hj,hjg⟩
       ·exact key 0 _ hM20 rfl
       ·exact key _ _ (hms' j mj hj).2 hjg
     ·cases hrd
    ·cases hrd
   rcases hen with rfl | rfl
   ·exact fin
   ·exact fin
end
end
section
open Go.RowKit
inductive Lp (X R:Type) where
 | next (x:X)
 | brk (j:Nat) (x:X)
 | ret (r:R)
 deriving DecidableEq
def zl {X R:Type} (step:X→Option (Lp X R)):Nat→X→Option (Lp X R)
 | 0,_=>none
 | n+1,x=>match step x with
  | some (.next y)=>zl step n y
  | some (.brk j y)=>some (.brk j y)
  | some (.ret r)=>some (.ret r)
  | none=>none
inductive O3 (Z:Type) where
 | nx (σ:St)
 | br (id:Nat) (σ:St)
 | rt (z:Z)
 | bad
def zoJ {Z:Type} (rd:St→Z) (l:List (Nat×Sh)) (e:Exit) (σ:St):O3 Z:=
 match e with
 | .normal=> .nx (σ.norm l)
 | .exit id=> .br id (σ.norm l)
 | .ret=> .rt (rd σ)
 | _=> .bad
def encO {R Z:Type} (n:Nat) (l:List (Nat×Sh)) (ids:List Nat) (E:R→Z) (o:Lp (shTy l).I R):O3 Z:=
 match o with
 | .next y=> .nx (zh n l y)
 | .brk j y=>match ids[j]? with
  | some id=> .br id (zh n l y)
  | none=> .bad
 | .ret r=> .rt (E r)
def zK {Z:Type} (rd:St→Z) (l:List (Nat×Sh)) (z:O3 Z) (e:Exit) (σ:St):Prop:=zoJ rd l e σ=z
def retZ {Z:Type} (rd:St→Z) (z:Z) (e:Exit) (σ:St):Prop:=
 match e with
 | .normal=>rd σ=z
 | .ret=>rd σ=z
 | _=>False
def rdD (P:Program) (fn:Func) (own:Bool) (σ:St):Option D:=resD P σ own fn
def rdG (P:Program) (fn:Func) (T:TypeId) (fs:List Fd) (σ:St):Option D×Option (gTy fs).I:=(resG P σ fn,zih T fs σ)
inductive Vt (Q Z:Type) (E:Q→Z):Type 1 where
 | fail:Vt Q Z E
 | leaf (q:Q):Vt Q Z E
 | br (b:Bool) (x y:Vt Q Z E):Vt Q Z E
 | chk (p:Prop) (d:Decidable p) (x:Vt Q Z E):Vt Q Z E
 | nilq (p:Prop) (d:Decidable p) (dq:DecidableEq Q) (x y:Vt Q Z E):Vt Q Z E
 | call0 (o:Option Unit) (s:Prop) (h:o=some ()→s) (k:Vt Q Z E):Vt Q Z E
 | call1 (a:Type) (o:Option a) (s:a→Prop) (h: ∀ x,o=some x→s x) (k:a→Vt Q Z E):Vt Q Z E
 | call2 (a b:Type) (o:Option (a×b)) (s:a→b→Prop) (h: ∀ x y,o=some (x,y)→s x y) (k:a→b→Vt Q Z E):Vt Q Z E
 | call3 (a b c:Type) (o:Option (a×b×c)) (s:a→b→c→Prop) (h: ∀ x y z,o=some (x,y,z)→s x y z) (k:a→b→c→Vt Q Z E):Vt Q Z E
 | call4 (a b c d:Type) (o:Option (a×b×c×d)) (s:a→b→c→d→Prop) (h: ∀ x y z v,o=some (x,y,z,v)→s x y z v) (k:a→b→c→d→Vt Q Z E):Vt Q Z E
 | loop0 (X R:Type) (o:Option (Lp X R)) (rt:R→Q) (sr:Z→Prop) (hr: ∀ r,o=some (.ret r)→sr (E (rt r))):Vt Q Z E
 | loop1 (X R:Type) (o:Option (Lp X R)) (rt:R→Q) (s0:X→Prop) (sr:Z→Prop) (h0: ∀ x,o=some (.brk 0 x)→s0 x) (hr: ∀ r,o=some (.ret r)→sr (E (rt r)))
   (k:X→Vt Q Z E):Vt Q Z E
 | loop2 (X R:Type) (o:Option (Lp X R)) (rt:R→Q) (s0 s1:X→Prop) (sr:Z→Prop) (h0: ∀ x,o=some (.brk 0 x)→s0 x) (h1: ∀ x,o=some (.brk 1 x)→s1 x)
   (hr: ∀ r,o=some (.ret r)→sr (E (rt r))) (k0 k1:X→Vt Q Z E):Vt Q Z E
def chkO {α:Type} (p:Prop) (d:Decidable p) (x:Option α):Option α:=match d with | isTrue _=>x | isFalse _=>none
def nilO {α:Type} (p:Prop) (d:Decidable p) (dq:DecidableEq α) (x y:Option α):Option α:=
 match d with
 | isTrue _=>match x,y with
  | some a,some b=>match dq a b with | isTrue _=>some b | isFalse _=>none
  | _,_=>none
 | isFalse _=>y
def zq6 {a b α:Type} (o:Option (a×b)) (k:a→b→Option α):Option α:=match o with | some (x,y)=>k x y | none=>none
def zq7 {a b c α:Type} (o:Option (a×b×c)) (k:a→b→c→Option α):Option α:=match o with | some (x,y,z)=>k x y z | none=>none
def zq8 {a b c d α:Type} (o:Option (a×b×c×d)) (k:a→b→c→d→Option α):Option α:=match o with | some (x,y,z,v)=>k x y z v | none=>none
def lp0 {X R α:Type} (o:Option (Lp X R)) (rt:R→α):Option α:=
 match o with
 | some (.ret r)=>some (rt r)
 | _=>none
def lp1 {X R α:Type} (o:Option (Lp X R)) (rt:R→α) (k:X→Option α):Option α:=
 match o with
 | some (.brk 0 x)=>k x
 | some (.ret r)=>some (rt r)
 | _=>none
def lp2 {X R α:Type} (o:Option (Lp X R)) (rt:R→α) (k0 k1:X→Option α):Option α:=
 match o with
 | some (.brk 0 x)=>k0 x
 | some (.brk 1 x)=>k1 x
 | some (.ret r)=>some (rt r)
 | _=>none
variable {Q Z:Type} {E:Q→Z}
def Vt.eval:Vt Q Z E→Option Q
 | .fail=>none
 | .leaf q=>some q
 | .br b x y=>bif b then x.eval else y.eval
 | .chk p d x=>chkO p d x.eval
 | .nilq p d dq x y=>nilO p d dq x.eval y.eval
 | .call0 o _ _ k=>o.bind fun _=>k.eval
 | .call1 _ o _ _ k=>o.bind fun x=>(k x).eval
 | .call2 _ _ o _ _ k=>zq6 o fun x y=>(k x y).eval
 | .call3 _ _ _ o _ _ k=>zq7 o fun x y z=>(k x y z).eval
 | .call4 _ _ _ _ o _ _ k=>zq8 o fun x y z v=>(k x y z v).eval
 | .loop0 _ _ o rt _ _=>lp0 o rt
 | .loop1 _ _ o rt _ _ _ _ k=>lp1 o rt fun x=>(k x).eval
 | .loop2 _ _ o rt _ _ _ _ _ _ k0 k1=>lp2 o rt (fun x=>(k0 x).eval) fun x=>(k1 x).eval
def Vt.prop (z:Z):Vt Q Z E→Prop
 | .fail=>False
 | .leaf q=>E q=z
 | .br b x y=>Vc.br b (x.prop z) (y.prop z)
 | .chk p _ x=>p∧x.prop z
 | .nilq p _ _ x y=>(p→x.prop z)∧y.prop z
 | .call0 _ s _ k=>s∧k.prop z
 | .call1 _ _ s _ k=> ∃ x,s x∧(k x).prop z
 | .call2 _ _ _ s _ k=> ∃ x,∃ y,s x y∧(k x y).prop z
 | .call3 _ _ _ _ s _ k=> ∃ x,∃ y,∃ v,s x y v∧(k x y v).prop z
 | .call4 _ _ _ _ _ s _ k=> ∃ x,∃ y,∃ v,∃ u,s x y v u∧(k x y v u).prop z
 | .loop0 _ _ _ _ sr _=>sr z
 | .loop1 _ _ _ _ s0 sr _ _ k=>(∃ x,s0 x∧(k x).prop z)∨sr z
 | .loop2 _ _ _ _ s0 s1 sr _ _ _ k0 k1=>(∃ x,s0 x∧(k0 x).prop z)∨(∃ x,s1 x∧(k1 x).prop z)∨sr z
theorem Vt.sound: ∀ (V:Vt Q Z E) {q:Q},V.eval=some q→V.prop (E q)
 | .fail,q,h=>by cases h
 | .leaf q',q,h=>by
  have:q' =q:=by simpa [Vt.eval] using h
  rw [this];rfl
 | .br b x y,q,h=>by
  cases b
  ·exact Vt.sound y h
  ·exact Vt.sound x h
 | .chk p d x,q,h=>by
  cases d with
  | isTrue hp=>exact ⟨hp,Vt.sound x h⟩
  | isFalse hp=>cases h
 | .nilq p d dq x y,q,h=>by
  unfold Vt.eval nilO at h
  split at h
  ·split at h
   ·rename_i a b ha hb
    split at h
    ·rename_i hab _
     have:b=q:=by simpa using h
     subst this
     subst hab
     exact ⟨fun _=>Vt.sound x ha,Vt.sound y hb⟩
    ·cases h
   ·cases h
  ·rename_i hp
   exact ⟨fun hp' =>absurd hp' hp,Vt.sound y h⟩
 | .call0 o s hs k,q,h=>by
  cases o with
  | none=>cases h
  | some x=>exact ⟨hs rfl,Vt.sound k h⟩
 | .call1 a o s hs k,q,h=>by
  cases o with
  | none=>cases h
  | some x=>exact ⟨x,hs x rfl,Vt.sound (k x) h⟩
 | .call2 a b o s hs k,q,h=>by
  cases o with
  | none=>cases h
  | some x=>exact ⟨x.1,x.2,hs x.1 x.2 rfl,Vt.sound (k x.1 x.2) h⟩
 | .call3 a b c o s hs k,q,h=>by
  cases o with
  | none=>cases h
  | some x=>exact ⟨x.1,x.2.1,x.2.2,hs x.1 x.2.1 x.2.2 rfl,Vt.sound (k x.1 x.2.1 x.2.2) h⟩
 | .call4 a b c d o s hs k,q,h=>by
  cases o with
  | none=>cases h
  | some x=>exact ⟨x.1,x.2.1,x.2.2.1,x.2.2.2,hs x.1 x.2.1 x.2.2.1 x.2.2.2 rfl,Vt.sound (k x.1 x.2.1 x.2.2.1 x.2.2.2) h⟩
 | .loop0 X R o rt sr hr,q,h=>by
  unfold Vt.eval lp0 at h
  split at h
  ·rename_i r
   have:rt r=q:=by simpa using h
   rw [← this];exact hr r rfl
  ·cases h
 | .loop1 X R o rt s0 sr h0 hr k,q,h=>by
  unfold Vt.eval lp1 at h
  split at h
  ·rename_i x
   exact .inl ⟨x,h0 x rfl,Vt.sound (k x) h⟩
  ·rename_i r
   have:rt r=q:=by simpa using h
   rw [← this];exact .inr (hr r rfl)
  ·cases h
 | .loop2 X R o rt s0 s1 sr h0 h1 hr k0 k1,q,h=>by
  unfold Vt.eval lp2 at h
  split at h
  ·rename_i x
   exact .inl ⟨x,h0 x rfl,Vt.sound (k0 x) h⟩
  ·rename_i x
   exact .inr (.inl ⟨x,h1 x rfl,Vt.sound (k1 x) h⟩)
  ·rename_i r
   have:rt r=q:=by simpa using h
   rw [← this];exact .inr (.inr (hr r rfl))
  ·cases h
def zo (id:Nat):Code→Code
 | .seq a b=>match zo id a with
  | .skip=>zo id b
  | c=>c
 | .cond _ a b=>match zo id a with
  | .skip=>zo id b
  | c=>c
 | .block _ b=>zo id b
 | .scope b=>zo id b
 | .loop b=>bif Nat.beq (zdi b) id then b else zo id b
 | _=> .skip
section
variable {P:Program} {Z:Type} {rd:St→Z} {R:Type} {n:Nat} {l:List (Nat×Sh)} {ids:List Nat} {EO:R→Z} {b:Code}
theorem zlJ {j id:Nat} {y:(shTy l).I} (h:ids[j]? =some id):encO n l ids EO (.brk j y)= .br id (zh n l y):=by
 show (match ids[j]? with | some id=>O3.br id (zh n l y) | none=>O3.bad)=_
 rw [h]
theorem zfZ {j:Nat} {y:(shTy l).I} {σ:St} (h:O3.nx σ=encO n l ids EO (.brk j y)):False:=by
 have h' :O3.nx σ=(match ids[j]? with | some id=>O3.br id (zh n l y) | none=>O3.bad):=h
 split at h' <;>cases h'
theorem zgV {step:(shTy l).I→Option (Lp (shTy l).I R)}
  (h: ∀ x o,step x=some o→S P b (zh n l x) (zK rd l (encO n l ids EO o))):
  ∀ m x o,zl step m x=some o→SL P m b (zh n l x) (zK rd l (encO n l ids EO o))
 | 0,x,o,ho=>by cases ho
 | m+1,x,o,ho=>by
  unfold zl at ho
  refine SL.succ (l:=l) ?_
  split at ho
  ·rename_i y hy
   refine S.mono (h x _ hy) fun e σ' hk=> ?_
   cases e with
   | normal=>
    have hk' :O3.nx (σ'.norm l)=O3.nx (zh n l y):=hk
    injection hk' with hk'
    show SL P m b (σ'.norm l) _
    rw [hk']
    exact zgV h m y o ho
   | exit i=>cases (show O3.br i _=O3.nx _ from hk)
   | ret=>cases (show O3.rt _=O3.nx _ from hk)
   | _=>cases (show O3.bad=O3.nx _ from hk)
  ·rename_i j y hy
   have:Lp.brk j y=o:=by simpa using ho
   subst this
   refine S.mono (h x _ hy) fun e σ' hk=> ?_
   cases e with
   | normal=>
    exact (zfZ hk).elim
   | _=>exact hk
  ·rename_i r hy
   have:Lp.ret r=o:=by simpa using ho
   subst this
   refine S.mono (h x _ hy) fun e σ' hk=> ?_
   cases e with
   | normal=>cases (show O3.nx _=O3.rt _ from hk)
   | _=>exact hk
  ·cases ho
theorem zH {step:(shTy l).I→Option (Lp (shTy l).I R)}
  (h: ∀ x o,step x=some o→S P b (zh n l x) (zK rd l (encO n l ids EO o))) (m:Nat) (x:(shTy l).I) (o:Lp (shTy l).I R) (ho:zl step m x=some o):
  S P (.loop b) (zh n l x) (zK rd l (encO n l ids EO o)):=SL.loop (zgV h m x o ho)
variable {x0:(shTy l).I}
theorem zam {j id:Nat} {x:(shTy l).I} (hj:ids[j]? =some id) (h:S P (.loop b) (zh n l x0) (zK rd l (encO n l ids EO (.brk j x)))):
  S P (.loop b) (zh n l x0) (endK id l (zh n l x)):=S.mono h fun e σ' hk=>by
 have hk' :zoJ rd l e σ' =encO n l ids EO (.brk j x):=hk
 rw [zlJ hj] at hk'
 cases e with
 | exit i=>
  injection (show O3.br i (σ'.norm l)=O3.br id (zh n l x) from hk') with h1 h2
  rw [h1];exact ⟨rfl,h2⟩
 | normal=>cases (show O3.nx _=O3.br _ _ from hk')
 | ret=>cases (show O3.rt _=O3.br _ _ from hk')
 | _=>cases (show O3.bad=O3.br _ _ from hk')
theorem zan {r:R} {k:Exit→St→Prop} (hk0: ∀ σ',rd σ' =EO r→k .ret σ') (h:S P (.loop b) (zh n l x0) (zK rd l (encO n l ids EO (.ret r)))):
  S P (.loop b) (zh n l x0) (jW k):=S.mono h fun e σ' hk=>by
 have hk' :zoJ rd l e σ' = .rt (EO r):=hk
 cases e with
 | ret=>injection (show O3.rt (rd σ')=O3.rt (EO r) from hk') with h1;exact ⟨rfl,hk0 σ' h1⟩
 | exit i=>cases (show O3.br _ _=O3.rt _ from hk')
 | normal=>cases (show O3.nx _=O3.rt _ from hk')
 | _=>cases (show O3.bad=O3.rt _ from hk')
end
section
variable {P:Program} {Z:Type} {rd:St→Z} {R:Type} {n:Nat} {l:List (Nat×Sh)} {EO:R→Z} {b:Code} {X:Type} {o:Option (Lp (shTy l).I R)} {x0:(shTy l).I}
def Vt.f0 (h: ∀ o',o=some o' →S P (.loop b) (zh n l x0) (zK rd l (encO n l [] EO o'))):Vt R Z EO:=
 .loop0 _ R o id (fun z=>S P (.loop b) (zh n l x0) (jW (retZ rd z))) fun _ hr=>zan (fun _ hq=>hq) (h _ hr)
def Vt.f1 {i:Nat} (h: ∀ o',o=some o' →S P (.loop b) (zh n l x0) (zK rd l (encO n l [i] EO o'))) (k:(shTy l).I→Vt R Z EO):Vt R Z EO:=
 .loop1 _ R o id (fun x=>S P (.loop b) (zh n l x0) (endK i l (zh n l x))) (fun z=>S P (.loop b) (zh n l x0) (jW (retZ rd z)))
  (fun _ hx=>zam (j:=0) rfl (h _ hx)) (fun _ hr=>zan (fun _ hq=>hq) (h _ hr)) k
def Vt.f2 {i i' :Nat} (h: ∀ o',o=some o' →S P (.loop b) (zh n l x0) (zK rd l (encO n l [i,i'] EO o'))) (k k' :(shTy l).I→Vt R Z EO):Vt R Z EO:=
 .loop2 _ R o id (fun x=>S P (.loop b) (zh n l x0) (endK i l (zh n l x))) (fun x=>S P (.loop b) (zh n l x0) (endK i' l (zh n l x))) (fun z=>S P (.loop b) (zh n l x0) (jW (retZ rd z)))
  (fun _ hx=>zam (j:=0) rfl (h _ hx)) (fun _ hx=>zam (j:=1) rfl (h _ hx)) (fun _ hr=>zan (fun _ hq=>hq) (h _ hr)) k k'
variable {n2:Nat} {l2:List (Nat×Sh)} {ids2:List Nat}
def Vt.g0 (h: ∀ o',o=some o' →S P (.loop b) (zh n l x0) (zK rd l (encO n l [] EO o'))):Vt (Lp (shTy l2).I R) (O3 Z) (encO n2 l2 ids2 EO):=
 .loop0 _ R o .ret (fun z=>S P (.loop b) (zh n l x0) (jW (zK rd l2 z))) fun _ hr=>zan (fun _ hq=>congrArg O3.rt hq) (h _ hr)
def Vt.g1 {i:Nat} (h: ∀ o',o=some o' →S P (.loop b) (zh n l x0) (zK rd l (encO n l [i] EO o'))) (k:(shTy l).I→Vt (Lp (shTy l2).I R) (O3 Z) (encO n2 l2 ids2 EO)):Vt (Lp (shTy l2).I R) (O3 Z) (encO n2 l2 ids2 EO):=
 .loop1 _ R o .ret (fun x=>S P (.loop b) (zh n l x0) (endK i l (zh n l x))) (fun z=>S P (.loop b) (zh n l x0) (jW (zK rd l2 z)))
  (fun _ hx=>zam (j:=0) rfl (h _ hx)) (fun _ hr=>zan (fun _ hq=>congrArg O3.rt hq) (h _ hr)) k
def Vt.g2 {i i' :Nat} (h: ∀ o',o=some o' →S P (.loop b) (zh n l x0) (zK rd l (encO n l [i,i'] EO o'))) (k k' :(shTy l).I→Vt (Lp (shTy l2).I R) (O3 Z) (encO n2 l2 ids2 EO)):Vt (Lp (shTy l2).I R) (O3 Z) (encO n2 l2 ids2 EO):=
 .loop2 _ R o .ret (fun x=>S P (.loop b) (zh n l x0) (endK i l (zh n l x))) (fun x=>S P (.loop b) (zh n l x0) (endK i' l (zh n l x))) (fun z=>S P (.loop b) (zh n l x0) (jW (zK rd l2 z)))
  (fun _ hx=>zam (j:=0) rfl (h _ hx)) (fun _ hx=>zam (j:=1) rfl (h _ hx)) (fun _ hr=>zan (fun _ hq=>congrArg O3.rt hq) (h _ hr)) k k'
end
section
variable {P:Program} {g:FuncId} {ds:List D}
def Vt.c0 {o:Option Unit} (h: ∀ u,o=some u→Spec P g ds (.tup [])) (k:Vt Q Z E):Vt Q Z E:= .call0 o (Spec P g ds (.tup [])) (fun x=>h () x) k
def Vt.c1 {a:Type} {e:a→D} {o:Option a} (h: ∀ x,o=some x→Spec P g ds (e x)) (k:a→Vt Q Z E):Vt Q Z E:= .call1 a o (fun x=>Spec P g ds (e x)) h k
def Vt.c2 {a b:Type} {e:a×b→D} {o:Option (a×b)} (h: ∀ x,o=some x→Spec P g ds (e x)) (k:a→b→Vt Q Z E):Vt Q Z E:= .call2 a b o (fun x y=>Spec P g ds (e (x,y))) (fun _ _ hx=>h _ hx) k
def Vt.c3 {a b c:Type} {e:a×b×c→D} {o:Option (a×b×c)} (h: ∀ x,o=some x→Spec P g ds (e x)) (k:a→b→c→Vt Q Z E):Vt Q Z E:=
 .call3 a b c o (fun x y z=>Spec P g ds (e (x,y,z))) (fun _ _ _ hx=>h _ hx) k
def Vt.c4 {a b c d:Type} {e:a×b×c×d→D} {o:Option (a×b×c×d)} (h: ∀ x,o=some x→Spec P g ds (e x)) (k:a→b→c→d→Vt Q Z E):Vt Q Z E:=
 .call4 a b c d o (fun x y z v=>Spec P g ds (e (x,y,z,v))) (fun _ _ _ _ hx=>h _ hx) k
def Vt.cr {a:Type} {s:a→Prop} {o:Option a} (h: ∀ x,o=some x→s x) (k:a→Vt Q Z E):Vt Q Z E:= .call1 a o s h k
def Vt.cr2 {a b:Type} {s:a×b→Prop} {o:Option (a×b)} (h: ∀ x,o=some x→s x) (k:a→b→Vt Q Z E):Vt Q Z E:= .call2 a b o (fun x y=>s (x,y)) (fun _ _ hx=>h _ hx) k
def Vt.nq (p:Prop) [d:Decidable p] [dq:DecidableEq Q] (x y:Vt Q Z E):Vt Q Z E:= .nilq p d dq x y
noncomputable def Vt.nb (x y:Vt Q Z E):Vt Q Z E:= .nilq True (isTrue trivial) (Classical.typeDecidableEq Q) x y
def Vt.ck (p:Prop) [d:Decidable p] (x:Vt Q Z E):Vt Q Z E:= .chk p d x
end
instance (i:Int) (n:Nat):Decidable (inR i n):=inferInstanceAs (Decidable (_∧_))
instance (n:Nat):Decidable (room n):=inferInstanceAs (Decidable (_≤_))
theorem zw {P:Program} {f:FuncId} {fn:Func} {c:Code} (hf:P.funcs[f]? =some fn) (hb:fn.body=some c) (hname:(fn.name== "runtime.NumGoroutine")=false):
  ∀ (args:Array Value) (w:World),(callFunc f args).run P w= .ok (.enter f args) w:=fun args w=>by
 have hn: ¬ fn.name= "runtime.NumGoroutine" :=by simpa using hname
 simp [callFunc,hf,hn,hb]
theorem zjo {P:Program} {f:FuncId} {fn:Func} {c:Code} (hf:P.funcs[f]? =some fn) (hb:fn.body=some c) (hname:(fn.name== "runtime.NumGoroutine")=false) {ds:List D} (hlen:Nat.ble (ds.length+1) fn.ntmps=true) {d:D}
  {T:TypeId} {fs:List Fd} {x y:(gTy fs).I} (hd:zlI d)
  (hk:S P c { n:=fn.ntmps,sl:=(0,.ptr 0 0)::yS 1 ds,ob:=gOb 0 0 fs x++[(0,.cells true T (gCs 0 0 fs x))] } (retZ (rdG P fn T fs) (some d,some y))):q8 P f T fs x ds y d:=
 zgU hf hb hname hlen hd (S.mono hk fun en σ h=>by
  cases en with
  | normal=>have h' :(resG P σ fn,zih T fs σ)=(some d,some y):=h;injection h' with h1 h2;exact ⟨.inl rfl,h1,h2⟩
  | ret=>have h' :(resG P σ fn,zih T fs σ)=(some d,some y):=h;injection h' with h1 h2;exact ⟨.inr rfl,h1,h2⟩
  | _=>exact (show False from h).elim)
abbrev tI:Ty:= .int .i64
abbrev tS:Ty:= .str
abbrev tB:Ty:= .bool
abbrev tLn:Ty:= .pair tI (.pair tS tI)
abbrev Bs:=List UInt8
abbrev Ln:=Int×Bs×Int
end
section
theorem mixed:Go.Proofs.Tryz.prog.follows .mixedOrders=true:=by kernel_rfl
end
end Go.Proofs.YthcmfnkganacaaaGreatDoor.Vc
