/-
  'awake': the fixed script's fixed answer. No condition.
-/
import Derived.Test.YthcmfnkganacaaaGreatDoorZm8
import Derived.RangeFuncNested
import Derived.RangeFuncBound
import Derived.RangeFuncCalls
import Derived.RangeFuncLeaves
import Derived.Test.YthcmfnkganacaaaGreatDoorA6
import Derived.Shelf.Abstract
import Derived.Shelf.RegionOpen
import Derived.WalkKit
import Derived.OwnWalkIn
import Derived.TacticsInMore
import Derived.LoopNIn
import Derived.LoopIn
import Derived.Test.YthcmfnkganacaaaGreatDoorA7
import Derived.OrdersIn
import Derived.TacticsIn
set_option linter.unusedVariables false
set_option linter.unusedSimpArgs false
set_option maxRecDepth 100000
namespace Go.Proofs.YthcmfnkganacaaaGreatDoor.Vc
section
open Go.RowKit
noncomputable def c1080:=kP [c1076,zs6,c1078,c1079] [] [] 109 [(ds b127)] (.tup [d184,tt]) (by kernel_rfl)
def b129:List UInt8:=[111,107,32,49,32,50]
noncomputable def c1081:=kP [] [] [] 302 [d178] (.tup [d178,(ds b129)]) (by kernel_rfl)
noncomputable def c1082:=kP [c1074,c1080,c1081] [] [] 54 [d179,(ds b127)] (.tup [d179,(ds b129)]) (by kernel_rfl)
end
section
open Go Go.RowKit
theorem zkb {P:Program} {n:Nat} {g:Operand} {ps:Array Tmp} {assign body:Code} {Q:Exit→Act→World→Prop} {a:Act} {w:World} (h1:1≤n)
  {gf:Nat} {lb:Array Value} (hg:a.eval g= .func (.func gf) #[] lb) (eg: ∀ args w,(callFunc gf args).run P w= .ok (.enter gf args) w)
  (M:Nat) (line rest:Nat→Value) (bs:Nat) (hps:ps.size=1) (I:Nat→Nat→World→Prop)
  (hput: ∀ j k W o,I j k W→I j k (W.putObj (w.heap.size+1) o)) (h0: ∀ o,I 0 0 ((w.alloc (.deferred (some []))).alloc o))
  (hbs:bs<w.heap.size) (hset: ∀ j k W,I j k W→I (j+1) k (W.setCell ⟨bs,0,none⟩ (rest (j+1)))) (a₁:Nat→Act)
  (hassign: ∀ (l k:Nat) (W:World) (K:Act→World→Prop),K (a₁ k) W→
   assign.wpIn (Fence.wide.inRound l) (n - 1 - 1) P (Exit.then K (fun _ _ _=>False)) { tmps:=(ps.zip #[line k]).foldl (fun t (p,v)=>t.setIfInBounds p v) a.tmps,defers:=[] } W)
  (hbody: ∀ (l j k:Nat) (W:World),k≤M→I j k W→body.wpIn (Fence.wide.inRound l) (n - 1 - 1) P (fun e _ W' =>e= .normal∧KeepsFrom w.heap.size W W' ∧I j (k+1) W') (a₁ k) W)
  (hiter: ∀ (l:Nat) (J:Nat→Nat→World→Prop),(∀ j k W,J j k W→I j k W)→(∀ j k W,J j k W→J (j+1) k (W.setCell ⟨bs,0,none⟩ (rest (j+1))))→
   (∀ j k W,k≤M→J j k W→YieldAt Fence.wide (n - 1 - 1) P l #[line k] W fun e W' =>e= .returned (.bool true)∧J j (k+1) W')→ ∀ W,J 0 0 W→
   CallsIn Fence.wide (n - 1) P gf (#[.func (.yield l) #[] #[]]++lb) W fun e W' =>(∃ v,e= .returned v)∧J M (M+1) W')
  (hdone: ∀ W,I M (M+1) W→W.heap[w.heap.size]? =some (.deferred (some []))→Q .normal { a with defers:={ target:= .collected w.heap.size,args:= #[] }::a.defers } W):
  (Code.rangeFunc g ps assign body).wpIn Fence.wide n P Q a w:=by
 refine wpIn_rangeFunc ?_
 intro fn hfn
 have hro:Fence.wide.round=none:=rfl
 rw [hro]
 obtain ⟨rec,hrec⟩: ∃ rec:LoopState→Option Code→Loop,rec=fun st pe=>{ state:=st,pending:=pe,fn,tmps:=a.tmps,params:=ps,assign,body,defers:=w.heap.size }:=⟨_,rfl⟩
 obtain ⟨W1,hW1⟩: ∃ W1,(w.alloc (.deferred (some []))).alloc (.loop (rec .ready none))=W1:=⟨_,rfl⟩
 have hL1:W1.heap[w.heap.size+1]? =some (.loop (rec .ready none)):=by
  rw [← hW1];have:=World.alloc_heap_new (w.alloc (.deferred (some []))) (.loop (rec .ready none));rwa [World.size_alloc] at this
 have hK1:W1.heap[w.heap.size]? =some (.deferred (some [])):=by
  rw [← hW1];exact (Below.heap_alloc _ _ _ (by simp)).trans (World.alloc_heap_new w _)
 have hI1:I 0 0 W1:=by rw [← hW1];exact h0 _
 refine ⟨w.heap.size+1,[{ target:= .collected w.heap.size,args:= #[] }],W1,{ target:= .fn (.func gf) lb,args:= #[.func (.yield (w.heap.size+1)) #[] #[]] },W1,gf,
  #[.func (.yield (w.heap.size+1)) #[] #[]]++lb,W1,?_,?_,?_,?_,fun _=>h1,?_⟩
 ·rw [← hW1,hrec];exact run_enterLoop_outer _ _ _ _ _
 ·simp only [resolve,hg]
  simp [go_sem]
 ·intro f' hf';simp [Target.leads] at hf';exact trivial
 ·simp [invoke,go_sem,eg]
 ·refine (hiter (w.heap.size+1)
   (fun j k W=>I j k W∧W.heap[w.heap.size+1]? =some (.loop (rec .ready none))∧W.heap[w.heap.size]? =some (.deferred (some [])))
   (fun j k W h=>h.1) (fun j k W h=>⟨hset j k W h.1,(Below.heap_setCell _ _ _ _ (by show w.heap.size+1≠bs;omega)).trans h.2.1,(Below.heap_setCell _ _ _ _ (by show w.heap.size≠bs;omega)).trans h.2.2⟩)
   ?_ W1 ⟨hI1,hL1,hK1⟩).mono ?_
  ·
   rintro j k W hk ⟨hi,hl,hd⟩
   have hlt:w.heap.size+1<W.heap.size:=(Array.getElem?_eq_some_iff.1 hl).1
   have hy:=run_yield (P:=P) (args:= #[line k]) hl (by rw [hrec];exact hps.symm)
   rw [hrec] at hy
   refine ⟨fn,_,assign,body,hy,roundIn_of_wpIn hfn (hassign _ k W _ ⟨_,run_beginRound hl (by rw [hrec]),?_⟩)⟩
   have hl2:(W.putObj (w.heap.size+1) (.loop { rec .ready none with state:= .busy })).heap[w.heap.size+1]? =some (.loop { rec .ready none with state:= .busy }):=World.putObj_heap_same hlt
   have hd2:(W.putObj (w.heap.size+1) (.loop { rec .ready none with state:= .busy })).heap[w.heap.size]? =some (.deferred (some [])):=(World.putObj_heap_other (by omega)).trans hd
   refine wpIn_mono (hbody _ j k _ hk (hput j k W _ hi)) ?_
   rintro e a3 W3 ⟨rfl,hkp,hi3⟩
   have hl3:=hkp.same _ _ (by omega) hl2 rfl
   have hr:=run_endRound (P:=P) none hl3
   rw [hrec] at hr
   refine ⟨_,_,hr,rfl,hput _ _ _ _ hi3,?_,?_⟩
   ·rw [hrec] at hl3 ⊢
    exact World.putObj_heap_same (Array.getElem?_eq_some_iff.1 hl3).1
   ·exact (World.putObj_heap_other (by omega)).trans (hkp.same _ _ (Nat.le_refl _) hd2 rfl)
  ·
   rintro e W2 ⟨⟨v,rfl⟩,hi,hl,hd⟩
   exact ⟨none,_,by have:=run_endLoop (P:=P) hl (by rw [hrec];simp);rw [hrec] at this;exact this,hdone _ (hput _ _ _ _ hi) ((World.putObj_heap_other (by omega)).trans hd)⟩
end
section
open Go Go.RowKit Go.Shelf Go.Proofs
attribute [local go_sem] Oper.semAt_some
def zfj (W:World) (b:Nat):Nat:=match W.cell? ⟨b,0,none⟩ with | some (.string s)=>s.size | _=>0
set_option maxHeartbeats 4000000 in
theorem zrD {l bs bp bv M:Nat} {J:Nat→Nat→World→Prop} {line rest:Nat→ByteArray} (n:Nat) (hn:1≤n)
  (hread: ∀ j k W,J j k W→W.cell? ⟨bs,0,none⟩=some (.string (rest j))∧W.frozen? ⟨bs,0,none⟩=false∧W.cell? ⟨bp,0,none⟩=some (.string ⟨#[10]⟩)∧W.cell? ⟨bv,0,none⟩=some (.int .i64 0)∧ ∃ m:Int,W.cell? ⟨0,0,none⟩=some (.int .i64 m))
  (hset: ∀ j k W,J j k W→J (j+1) k (W.setCell ⟨bs,0,none⟩ (.string (rest (j+1)))))
  (hfit: ∀ k,k<M→(rest k).size<1000000∧Lib.index (rest k).data.toList [10]=((line k).size:Int)∧(line k).size+1≤(rest k).size∧(rest k).extract 0 (line k).size=line k∧(rest k).extract ((line k).size+1) (rest k).size=rest (k+1))
  (hlast:(rest M).size<1000000∧Lib.index (rest M).data.toList [10]= -1∧rest M=line M)
  (hY: ∀ j k W,k≤M→J j k W→YieldAt Fence.wide (n - 1) Tryz.prog l #[.string (line k)] W fun e W' =>e= .returned (.bool true)∧J j (k+1) W')
  (W:World) (h0:J 0 0 W):
  CallsIn Fence.wide n Tryz.prog 179 #[.func (.yield l) #[] #[],.pointer (some ⟨bp,0,none⟩),.pointer (some ⟨bs,0,none⟩),.pointer (some ⟨bv,0,none⟩)] W fun e W' =>(∃ v,e= .returned v)∧J M (M+1) W' :=by
 have hro:Fence.wide.round=none:=rfl
 refine callsIn_of_wp Tryz.func179 rfl trivial ?_ hro
 simp only [Tryz.ntmps179,List.size_toArray,List.length_cons,List.length_nil,Nat.reduceAdd,Nat.reduceSub,Array.replicate_succ,Array.replicate_zero,List.push_toArray,List.append_toArray,List.nil_append,List.cons_append]
 obtain ⟨r1,r2,r3,r4,m0,r5⟩:=hread _ _ _ h0
 gi_wp2
 gi_loopw [7] (fun p wr=> ∃ k:Nat,k≤M∧J k k wr) (fun _ wr=>zfj wr bs)
 case atStart=>exact ⟨0,Nat.zero_le _,h0⟩
 case round=>
  obtain ⟨k,hk,hj⟩:=hrel
  obtain ⟨q1,q2,q3,q4,m,q5⟩:=hread _ _ _ hj
  by_cases hlt:k<M
  ·obtain ⟨f1,f2,f3,f4,f5⟩:=hfit k hlt
   have hIx:=Tryz.strings_Index (rest k) ⟨#[10]⟩ m wr (by omega) q5
   rw [show (⟨#[10]⟩:ByteArray).data.toList=[10] from rfl,f2] at hIx
   obtain ⟨fn,tmps,assign,body,hy,hR⟩:=hY k k wr hk hj
   gi_wp2_with (refine ⟨trivial,?_⟩;gi_at_call 181;refine (callsIn_wide.2 hIx).mono ?_;rintro e w' ⟨rfl,rfl⟩)
   refine hR.mono ?_
   rintro e W3 ⟨rfl,hj3⟩
   obtain ⟨p1,p2,p3,p4,m3,p5⟩:=hread _ _ _ hj3
   gi_wp2
   go_roundw
   case rel=>exact ⟨k+1,hlt,hset _ _ _ hj3⟩
   case measure=>
    have e1:zfj w' bs=(rest k).size:=by unfold zfj;rw [q1]
    obtain ⟨t1,_⟩:=hread _ _ _ (hset _ _ _ hj3)
    have e2:zfj (W3.setCell ⟨bs,0,none⟩ (.string (rest (k+1)))) bs=(rest (k+1)).size:=by unfold zfj;rw [t1]
    have e3:(rest (k+1)).size<(rest k).size:=by
     rw [← f5,ByteArray.size_extract]
     omega
    omega
  ·have ek:k=M:=by omega
   subst ek
   have hIx:=Tryz.strings_Index (rest k) ⟨#[10]⟩ m wr (by omega) q5
   rw [show (⟨#[10]⟩:ByteArray).data.toList=[10] from rfl,hlast.2.1] at hIx
   have hl:=hlast.2.2
   obtain ⟨fn,tmps,assign,body,hy,hR⟩:=hY k k wr hk hj
   rw [hl] at q1 hIx
   gi_wp2_with (refine ⟨trivial,?_⟩;gi_at_call 181;refine (callsIn_wide.2 hIx).mono ?_;rintro e w' ⟨rfl,rfl⟩)
   refine hR.mono ?_
   rintro e W3 ⟨rfl,hj3⟩
   gi_wp2
   go_end0
   exact ⟨⟨_,rfl⟩,hj3⟩
end
section
open Go Go.RowKit
def za9:Op→Bool
 | .defer _=>false
 | _=>true
section
variable {P:Program} {w0:W0 P} {w w' :World} {F0 F F' :Nat→Prop} {M:Nat→Option MO} {σ σ' :St} {a:Act} {o:Oper} {ops:Array Oper} {kd:FuncId→Nat} {μ:List Nat} {c:Ct} {l n:Nat}
theorem zhh {φ:Value→World→Prop} {next:Act→World→Prop} {Q:Exit→Act→World→Prop} (hd:za9 o.op=true) (hw:Region.wanted o (yielded ops a.tmps)=true) (h:opT P ops o a w φ) (hn: ∀ v w',φ v w' →next (a.put o.dst v) w'):
  o.wpIn (Fence.wide.inRound l) n P a w next Q:=by
 refine ⟨fun _ _=>trivial,?_⟩
 rw [Oper.semAt_eq _ _ _ (fun c hc=>by rw [hc] at hd;cases hd)]
 unfold opT at h
 rw [hw] at h
 dsimp only at h
 split at h
 ·obtain ⟨v,h1,h2⟩:=h
  rw [h1,Oper.uponIn_value];exact hn _ _ h2
 ·split at h
  ·rename_i v w' h1;rw [h1,Oper.uponIn_value];exact hn _ _ h
  ·rename_i w' h1;rw [h1,Oper.uponIn_skip];exact hn _ _ h
  ·rename_i f args w' h1
   rw [h1,Oper.uponIn_enter]
   refine ⟨fun hh=>by simp [Fence.wide] at hh,CallsIn.mono (CallsIn.inRound l (callsIn_wide.2 h)) fun e w'' ⟨v,he,hφ⟩=> ?_⟩
   subst he
   exact hn _ _ hφ
  ·exact h.elim
theorem jG {K:Act→World→Prop} {Q:Exit→Act→World→Prop} (hQ: ∀ a' w',K a' w' →Q .normal a' w'): ∀ {r:List Oper} {a:Act} {w:World},(r.all fun o=>za9 o.op)=true→wpGl P ops K r a w→wpListIn (Fence.wide.inRound l) n P ops Q r a w
 | [],a,w,_,h=>hQ _ _ h
 | o::r,a,w,hd,h=>by
  simp only [List.all_cons,Bool.and_eq_true] at hd
  unfold wpGl at h
  unfold wpListIn
  cases hw:Region.wanted o (yielded ops a.tmps) with
  | true=>
   rw [if_pos rfl]
   exact zhh hd.1 hw h fun v w' hh=>jG hQ hd.2 hh
  | false=>
   rw [if_neg Bool.false_ne_true]
   unfold opT at h
   rw [hw] at h
   exact ⟨fun _ _=>trivial,jG hQ hd.2 h⟩
theorem qX {K:Act→World→Prop} {Q:Exit→Act→World→Prop} (hQ: ∀ a' w',K a' w' →Q .normal a' w') (hd:(ops.toList.all fun o=>za9 o.op)=true):
  ∀ (f:Nat) (listed:Array Bool) (a:Act) (w:World),jP P .any ops K f listed a w→wpAnyIn (Fence.wide.inRound l) n P .any ops Q f listed a w
 | 0,listed,a,w,h=>⟨h.1,hQ _ _ h.2⟩
 | f+1,listed,a,w,h=>by
  refine ⟨fun hn=>hQ _ _ (h.1 hn),fun i hi=> ?_⟩
  have hg:=h.2 i hi
  unfold gOp at hg
  unfold wpOpIn
  cases ho:ops[i]? with
  | none=>rw [ho] at hg;exact qX hQ hd f _ _ _ hg
  | some o=>
   rw [ho] at hg
   dsimp only at hg ⊢
   have hdo:za9 o.op=true:=(List.all_eq_true.1 hd) o (Array.mem_toList_iff.2 (Array.mem_of_getElem? ho))
   cases hw:Region.wanted o (yielded ops a.tmps) with
   | true=>
    rw [if_pos rfl]
    exact zhh hdo hw hg fun v w' hh=>qX hQ hd f _ _ _ hh
   | false=>
    rw [if_neg Bool.false_ne_true]
    unfold opT at hg
    rw [hw] at hg
    exact ⟨fun _ _=>trivial,qX hQ hd f _ _ _ hg⟩
end
def xi (P:Program) (kd:FuncId→Nat) (μ:List Nat) (c:Ct):Code→St→Option St
 | .region _ ops draw,σ=>match ops.toList.all fun o=>za9 o.op with
  | true=>match draw with
   | false=>xr P kd μ c ops.toList ops.toList σ
   | true=>match zda ops with
    | true=>xd P kd μ c ops ops.size [([],σ)]
    | false=>none
  | false=>none
 | .seq a b,σ=>match xi P kd μ c a σ with
  | some σ' =>xi P kd μ c b σ'
  | none=>none
 | .block _ b,σ=>xi P kd μ c b σ
 | _,_=>none
theorem zmx {P:Program} {kd:FuncId→Nat} {μ:List Nat} {c:Ct} (hm:P.follows .mixedOrders=true) (hc:c.Ok P) {l n:Nat} {w0:W0 P} {F0:Nat→Prop}: ∀ (cd:Code) (σ σ' :St),xi P kd μ c cd σ=some σ' → ∀ (F:Nat→Prop) (M:Nat→Option MO) (a:Act) (w:World),Inv w0 F0 F M σ a w→
  cd.wpIn (Fence.wide.inRound l) n P (fun e a' w' =>e= .normal∧ ∃ F' M',Inv w0 F0 F' M' σ' a' w') a w
 | .region id ops draw,σ,σ',hx,F,M,a,w,h=>by
  unfold xi at hx
  split at hx
  ·rename_i hd
   cases draw with
   | false=>
    dsimp only at hx
    exact wpIn_region_list (jG (fun a' w' hh=>⟨rfl,hh⟩) hd (xr_G hc h hx))
   | true=>
    dsimp only at hx
    split at hx
    ·rename_i ha
     simp only [zda,Bool.and_eq_true] at ha
     have hdrew:Inv w0 F0 F M σ a { w with drawn:=w.drawn+1 }:=h.grow (Below.refl _ _).drew
     refine wpIn_region_any hm (qX (K:=fun a' w' => ∃ F' M',Inv w0 F0 F' M' σ' a' w') (fun a' w' hh=>⟨rfl,hh⟩) hd _ _ _ _ ?_)
     refine xd_G hc ha.1 ha.2 ops.size _ hx [] σ (by simp) (Array.replicate ops.size false) F M a _ ⟨by simp,fun j hj=>by simp [hj,hasN]⟩ (fun j oj hj hl=> ?_) hdrew
     have hlt:j<ops.size:=(Array.getElem?_eq_some_iff.1 hj).1
     simp [hlt] at hl
    ·cases hx
  ·cases hx
 | .seq x y,σ,σ',hx,F,M,a,w,h=>by
  unfold xi at hx
  split at hx
  ·rename_i σ1 h1
   refine wpIn_seq (wpIn_mono (zmx hm hc x σ σ1 h1 F M a w h) ?_)
   rintro e a' w' ⟨rfl,F',M',hI⟩
   exact zmx hm hc y σ1 σ' hx F' M' a' w' hI
  ·cases hx
 | .block id b,σ,σ',hx,F,M,a,w,h=>by
  unfold xi at hx
  refine wpIn_block (wpIn_mono (zmx hm hc b σ σ' hx F M a w h) ?_)
  rintro e a' w' ⟨rfl,hh⟩
  exact ⟨rfl,hh⟩
end
section
open Go Go.RowKit Go.Shelf Go.Proofs
set_option maxHeartbeats 4000000 in
theorem zrE (S Q:ByteArray) (w:World):Calls Tryz.prog 53 #[.string S,.string Q] w fun e w' =>
  e= .returned (.func (.func 179) #[] #[.pointer (some ⟨w.heap.size+1,0,none⟩),.pointer (some ⟨w.heap.size,0,none⟩),.pointer (some ⟨w.heap.size+2,0,none⟩)])∧
  w' =((w.alloc (.cells #[.string S] 9)).alloc (.cells #[.string Q] 9)).alloc (.cells #[.int .i64 0] 3):=by
 have mixed:=mixed
 go_enter Tryz.func53,Tryz.ntmps53
 go_wp2
 go_ret
 exact ⟨rfl,rfl⟩
noncomputable def zpl:Code:=
 match Tryz.f23.body with
 | some (.seq _ (.seq _ (.seq _ (.seq (.seq _ (.block _ (.rangeFunc _ _ _ b))) _))))=>b
 | _=> .skip
def stR (cs:List D) (line:List UInt8) (outs:List (List UInt8)):St:=
 {n:=24,sl:=[(3,.ptr 3 0),(4,.ptr 4 0),(5,.val .str line)],ob:=[(3,.cells true 118 cs),(4,.cells true 30 [.slo 900]),(900,.row false 9 .str outs)] }
def rEnd (ob:List (Nat×Ob)) (cs:List D) (outs:List (List UInt8)):Bool:=
 match zg ob 3,zg ob 4,zg ob 900 with
 | some (.cells true T ds),some (.cells true U [.slo i]),some (.row false e t ys)=>match Nat.beq T 118,Nat.beq U 30,Nat.beq i 900,Nat.beq e 9 with
  | true,true,true,true=>if h:t= .str then beqL (beqD 6) ds cs&&beqI (.list .str) (qk (congrArg Ty.list h) ys) outs else false
  | _,_,_,_=>false
 | _,_,_=>false
theorem zpm {ob:List (Nat×Ob)} {cs:List D} {outs:List (List UInt8)} (h:rEnd ob cs outs=true):zg ob 3=some (.cells true 118 cs)∧zg ob 4=some (.cells true 30 [.slo 900])∧zg ob 900=some (.row false 9 .str outs):=by
 unfold rEnd at h
 split at h
 ·rename_i T ds U i e t ys h3 h4 h9
  split at h
  ·rename_i a1 a2 a3 a4
   have a1:=Nat.eq_of_beq_eq_true a1
   have a2:=Nat.eq_of_beq_eq_true a2
   have a3:=Nat.eq_of_beq_eq_true a3
   have a4:=Nat.eq_of_beq_eq_true a4
   subst a1 a2 a3 a4
   split at h
   ·rename_i ht
    subst ht
    simp only [Bool.and_eq_true] at h
    have e1:=yD (fun _ _=>jb) h.1
    have e2:ys=outs:=yE (t:= .list .str) h.2
    subst e1 e2
    exact ⟨h3,h4,h9⟩
   ·cases h
  ·cases h
 ·cases h
noncomputable def rOk (c:OP) (cs:List D) (line:List UInt8) (outs:List (List UInt8)) (cs' :List D) (outs' :List (List UInt8)):Bool:=
 match xi Tryz.prog kd [] (tb [c] [] []) zpl (stR cs line outs) with
 | some σ' =>rEnd σ'.ob cs' outs' &&zaT cs'
 | none=>false
theorem zcO {w:World} {F:Nat→Prop} {M:Nat→Option MO} {u:Value}: ∀ {cs:List D},zaT cs=true→ ∀ c∈cs,R0 w F M u c→R0 w F noM u c
 | .val t x::r,h,c,hc,hr=>by
  rcases List.mem_cons.1 hc with rfl | hc
  ·exact hr
  ·exact zcO (cs:=r) h c hc hr
 | .nils::r,h,c,hc,hr=>by
  rcases List.mem_cons.1 hc with rfl | hc
  ·exact hr
  ·exact zcO (cs:=r) h c hc hr
structure RunI (w0:World) (F0:Nat→Prop) (cs:Nat→List D) (outs:List (List UInt8)) (rest:Nat→ByteArray) (j k:Nat) (W:World):Prop where
 bel:Below w0.heap.size w0 W
 big:w0.heap.size+6<W.heap.size
 b2:W.heap[w0.heap.size+2]? =some (.cells #[.string (rest j)] 9 (0,0))
 b3:W.heap[w0.heap.size+3]? =some (.cells #[.string ⟨#[10]⟩] 9 (0,0))
 b4:W.heap[w0.heap.size+4]? =some (.cells #[.int .i64 0] 3 (0,0))
 ex: ∃ F us v0 G,(∀ g,F0 g→F g)∧(∀ g,F g→g<W.heap.size∧(F0 g∨w0.heap.size+6<g))∧Glb Tryz.prog W F∧W.heap[w0.heap.size]? =some (.cells us 118 (0,0))∧us.size=(cs k).length∧
  (∀ (i:Nat) c,(cs k)[i]? =some c→ ∃ u,us[i]? =some u∧u.oneCell' =true∧R0 W F noM u c)∧W.heap[w0.heap.size+1]? =some (.cells #[v0] 30 (0,0))∧
  OwnR W F (fun g=>w0.heap.size+6<g∧ ¬F g) G v0 9 .str (outs.take k)
section
variable {w0 W W' :World} {F0:Nat→Prop} {cs:Nat→List D} {outs:List (List UInt8)} {rest:Nat→ByteArray} {j j' k:Nat}
theorem RunI.same (h:RunI w0 F0 cs outs rest j k W) (hF0: ∀ g,F0 g→g<w0.heap.size) (ho:W'.os=W.os) (ht:W'.tape=W.tape) (hu:W'.output=W.output) (hs:W'.heap.size=W.heap.size)
  (hb: ∀ g,g≠w0.heap.size+2→g≠w0.heap.size+6→W'.heap[g]? =W.heap[g]?) (h2:W'.heap[w0.heap.size+2]? =some (.cells #[.string (rest j')] 9 (0,0))):RunI w0 F0 cs outs rest j' k W' :=by
 obtain ⟨F,us,v0,G,e1,e2,e3,e4,e5,e6,e7,e8⟩:=h.ex
 have hsame:Same F W W' :=fun g hg=>by
  refine hb g ?_ ?_
  ·rintro rfl;rcases (e2 _ hg).2 with h | h
   ·have:=hF0 _ h;omega
   ·omega
  ·rintro rfl;rcases (e2 _ hg).2 with h | h
   ·have:=hF0 _ h;omega
   ·omega
 refine ⟨⟨ho.trans h.bel.os,ht.trans h.bel.tape,hu.trans h.bel.output,by rw [hs];exact h.bel.size,fun g hg=>(hb g (by omega) (by omega)).trans (h.bel.block g hg)⟩,by rw [hs];exact h.big,h2,
  (hb _ (by omega) (by omega)).trans h.b3,(hb _ (by omega) (by omega)).trans h.b4,F,us,v0,G,e1,fun g hg=>by rw [hs];exact e2 g hg,(fun g hg=>⟨(e3 g hg).1,(e3 g hg).2.of_block (hsame g (e3 g hg).1)⟩),(hb _ (by omega) (by omega)).trans e4,e5,
  fun i c hc=> ?_,(hb _ (by omega) (by omega)).trans e7,?_⟩
 ·obtain ⟨u,u1,u2,u3⟩:=e6 i c hc
  exact ⟨u,u1,u2,u3.keep hsame (fun _ h=>h) (MLe.none _)⟩
 ·rcases e8 with e8 | ⟨g,cap,us',g1,g2,g3,g4,g5,g6,g7,g8⟩
  ·exact .inl e8
  ·refine .inr ⟨g,cap,us',g1,g2,g3,(hb g (by omega) (by omega)).trans g4,g5,g6,g7,fun i x hx=> ?_⟩
   exact (g8 i x hx).keep hsame fun _ h=>h
theorem RunI.put (h:RunI w0 F0 cs outs rest j k W) (hF0: ∀ g,F0 g→g<w0.heap.size) (o:Obj):RunI w0 F0 cs outs rest j k (W.putObj (w0.heap.size+6) o):=
 h.same hF0 rfl rfl rfl (by simp) (fun g _ hg=>World.putObj_heap_other hg) ((World.putObj_heap_other (by omega)).trans h.b2)
theorem RunI.set (h:RunI w0 F0 cs outs rest j k W) (hF0: ∀ g,F0 g→g<w0.heap.size):RunI w0 F0 cs outs rest (j+1) k (W.setCell ⟨w0.heap.size+2,0,none⟩ (.string (rest (j+1)))):=by
 refine h.same hF0 rfl rfl rfl (by simp [World.setCell]) (fun g hg _=>Below.heap_setCell _ _ _ _ hg) ?_
 simp only [World.setCell,Array.getElem?_modify,if_true,h.b2,Option.map_some,Option.isSome_none,Bool.false_eq_true,if_false]
 rfl
theorem RunI.round (h:RunI w0 F0 cs outs rest j k W) (hF0: ∀ g,F0 g→g<w0.heap.size) {line:ByteArray} {c:OP} (hk:k<outs.length) (hr:rOk c (cs k) line.data.toList (outs.take k) (cs (k+1)) (outs.take (k+1))=true) {a:Act} (ha:a.defers=[]) (hn:a.tmps.size=24)
  (h3:a.tmps.getD 3 undef= .pointer (some ⟨w0.heap.size,0,none⟩)) (h4:a.tmps.getD 4 undef= .pointer (some ⟨w0.heap.size+1,0,none⟩)) (h5:a.tmps.getD 5 undef= .string line) {l n:Nat}:
  zpl.wpIn (Fence.wide.inRound l) n Tryz.prog (fun e _ W' =>e= .normal∧KeepsFrom (w0.heap.size+5) W W' ∧RunI w0 F0 cs outs rest j (k+1) W') a W:=by
 obtain ⟨F,us,v0,G,e1,e2,e3,e4,e5,e6,e7,e8⟩:=h.ex
 unfold rOk at hr
 split at hr
 ·rename_i σ' hx
  simp only [Bool.and_eq_true] at hr
  obtain ⟨hend,hall⟩:=hr
  obtain ⟨o3,o4,o9⟩:=zpm hend
  have hG: ∀ g,G=some g→w0.heap.size+6<g∧ ¬F g∧g<W.heap.size:=fun g hg=>by
   rcases e8 with ⟨_,h,_⟩ | ⟨g',cap,us',g1,g2,g3,g4,_⟩
   ·rw [hg] at h;cases h
   ·rw [hg] at g1;cases g1;exact ⟨g2.1,g2.2,(Array.getElem?_eq_some_iff.1 g4).1⟩
  have hFB: ∀ g,F g→g≠w0.heap.size∧g≠w0.heap.size+1:=fun g hg=>by
   rcases (e2 g hg).2 with h | h
   ·have:=hF0 g h;omega
   ·omega
  let M:Nat→Option MO:=fun i=>if i=3 then some ⟨some w0.heap.size,.pointer none,0⟩ else if i=4 then some ⟨some (w0.heap.size+1),.pointer none,0⟩ else if i=900 then some ⟨G,v0,1⟩ else none
  have hM: ∀ {i:Nat} {mo:MO},M i=some mo→(i=3∧mo=⟨some w0.heap.size,.pointer none,0⟩)∨(i=4∧mo=⟨some (w0.heap.size+1),.pointer none,0⟩)∨(i=900∧mo=⟨G,v0,1⟩):=fun {i mo} hi=>by
   have hi:(if i=3 then some (⟨some w0.heap.size,.pointer none,0⟩:MO) else if i=4 then some ⟨some (w0.heap.size+1),.pointer none,0⟩ else if i=900 then some ⟨G,v0,1⟩ else none)=some mo:=hi
   split at hi
   ·exact .inl ⟨‹_›,(Option.some.inj hi).symm⟩
   ·split at hi
    ·exact .inr (.inl ⟨‹_›,(Option.some.inj hi).symm⟩)
    ·split at hi
     ·exact .inr (.inr ⟨‹_›,(Option.some.inj hi).symm⟩)
     ·cases hi
  have hM3:M 3=some ⟨some w0.heap.size,.pointer none,0⟩:=rfl
  have hM4:M 4=some ⟨some (w0.heap.size+1),.pointer none,0⟩:=rfl
  have hM9:M 900=some ⟨G,v0,1⟩:=rfl
  let X:Nat→Prop:=fun g=>g=w0.heap.size∨g=w0.heap.size+1∨G=some g
  have hok: ∀ g,yQ Tryz.prog g=true→g<W.heap.size∧ ¬X g∧zdT Tryz.prog W g:=fun g hg=>by
   obtain ⟨f1,f2⟩:=e3 g hg
   refine ⟨(e2 g f1).1,?_,f2⟩
   rintro (rfl | rfl | hG')
   ·exact (hFB _ f1).1 rfl
   ·exact (hFB _ f1).2 rfl
   ·exact (hG g hG').2.1 f1
  have hv1:v0.oneCell' =true:=by
   rcases e8 with ⟨_,_,A,rfl⟩ | ⟨g,cap,us',_,_,rfl,_⟩<;>rfl
  have hI:Inv (⟨W,X,M,hok⟩:W0 Tryz.prog) F F M (stR (cs k) line.data.toList (outs.take k)) a W:=by
   refine ⟨ha,hn,fun i=> ?_,fun id o ho=> ?_,fun i i' mi mj g hi hj hg hg' => ?_,fun i mi g hi hg=> ?_,fun g hg=>⟨(e2 g hg).1,.inl hg⟩,fun g hg=>hg.elim id fun hg=>(e3 g hg).1,⟨rfl,rfl,rfl,Nat.le_refl _,fun _ _ _=>rfl⟩,fun id o ho hp=>rfl⟩
   ·show R W F M _ (find [(3,.ptr 3 0),(4,.ptr 4 0),(5,.val .str line.data.toList)] i)
    simp only [find]
    rcases zj i 3 with ⟨rfl,hb⟩ | ⟨_,hb⟩
    ·rw [hb,h3];exact ⟨_,_,hM3,rfl,rfl⟩
    ·rw [hb]
     rcases zj i 4 with ⟨rfl,hb⟩ | ⟨_,hb⟩
     ·rw [hb,h4];exact ⟨_,_,hM4,rfl,rfl⟩
     ·rw [hb]
      rcases zj i 5 with ⟨rfl,hb⟩ | ⟨_,hb⟩
      ·rw [hb,h5];exact ⟨line,rfl,rfl⟩
      ·rw [hb];exact trivial
   ·have ho:zg [(3,Ob.cells true 118 (cs k)),(4,.cells true 30 [.slo 900]),(900,.row false 9 .str (outs.take k))] id=some o:=ho
    simp only [zg] at ho
    rcases zj id 3 with ⟨rfl,hb⟩ | ⟨_,hb⟩
    ·rw [hb] at ho
     cases ho
     exact ⟨_,hM3,_,us,rfl,e4,e5,fun i c hc=>by
      obtain ⟨u,u1,u2,u3⟩:=e6 i c hc
      exact ⟨u,u1,u2,u3.keep (fun _ _=>rfl) (fun _ h=>h) (MLe.none M)⟩⟩
    ·rw [hb] at ho
     rcases zj id 4 with ⟨rfl,hb⟩ | ⟨_,hb⟩
     ·rw [hb] at ho
      cases ho
      refine ⟨_,hM4,_,#[v0],rfl,e7,rfl,fun i c hc=> ?_⟩
      match i,hc with
      | 0,hc=>cases hc;exact ⟨v0,rfl,hv1,_,hM9,rfl,hv1⟩
     ·rw [hb] at ho
      rcases zj id 900 with ⟨rfl,hb⟩ | ⟨_,hb⟩
      ·rw [hb] at ho
       cases ho
       exact ⟨_,hM9,rfl,e8.setB fun g hg=> .inr (.inr (.inr hg))⟩
      ·rw [hb] at ho;cases ho
   ·rcases hM hi with ⟨rfl,rfl⟩ | ⟨rfl,rfl⟩ | ⟨rfl,rfl⟩<;>rcases hM hj with ⟨rfl,rfl⟩ | ⟨rfl,rfl⟩ | ⟨rfl,rfl⟩<;>first
     | rfl
     | (exfalso;cases hg;cases hg';omega)
     | (exfalso;cases hg;have:=(hG _ hg').1;omega)
     | (exfalso;cases hg';have:=(hG _ hg).1;omega)
     | (exfalso;cases hg;simp at hg')
     | (exfalso;cases hg;simp at hg')
   ·have hb:=h.big
    rcases hM hi with ⟨rfl,rfl⟩ | ⟨rfl,rfl⟩ | ⟨rfl,rfl⟩
    ·cases hg;exact ⟨fun hf=>(hFB _ hf).1 rfl,.inr (.inl rfl),by omega⟩
    ·cases hg;exact ⟨fun hf=>(hFB _ hf).2 rfl,.inr (.inr (.inl rfl)),by omega⟩
    ·exact ⟨(hG g hg).2.1,.inr (.inr (.inr hg)),(hG g hg).2.2⟩
  refine wpIn_mono (zmx mixed (zl7 zmw (zj8 _) (zj9 _) (zka _)) zpl _ σ' hx F M a W hI) ?_
  rintro e a' W' ⟨rfl,F',M',hI'⟩
  have hun: ∀ g,g<W.heap.size→ ¬X g→W'.heap[g]? =W.heap[g]? :=hI'.below.block
  have hbig:=h.big
  have hnX: ∀ i,i≤6→2≤i→ ¬X (w0.heap.size+i):=fun i h6 h2=>by
   rintro (h | h | h)
   ·omega
   ·omega
   ·have:=(hG _ h).1;omega
  have hsz:W.heap.size≤W'.heap.size:=hI'.below.size
  have hp3:M' 3=some ⟨some w0.heap.size,.pointer none,0⟩:=hI'.pins 3 _ o3 rfl
  have hp4:M' 4=some ⟨some (w0.heap.size+1),.pointer none,0⟩:=hI'.pins 4 _ o4 rfl
  obtain ⟨m3,q3,g3,us',q4,q5,q6,q7⟩:=hI'.obs 3 _ o3
  have:m3=_:=Option.some.inj (q3.symm.trans hp3)
  subst this
  cases q4
  obtain ⟨m4,r3,g4,vs',r4,r5,r6,r7⟩:=hI'.obs 4 _ o4
  have:m4=_:=Option.some.inj (r3.symm.trans hp4)
  subst this
  cases r4
  obtain ⟨m9,s3,s4,s5⟩:=hI'.obs 900 _ o9
  obtain ⟨u,t1,t2,m9',t3,t4,t5⟩:=r7 0 _ rfl
  have:m9' =m9:=Option.some.inj (t3.symm.trans s3)
  subst this
  subst t4
  have hvs:vs' = #[m9'.v]:=by
   obtain ⟨L⟩:=vs'
   match L,r6 with
   | [x],_=>
    have:x=m9'.v:=by simpa using t1
    rw [this]
  have hgrow: ∀ g,m9'.g=some g→w0.heap.size+6<g∧ ¬F' g:=fun g hg=>by
   obtain ⟨z1,z2,z3⟩:=hI'.mine 900 m9' g s3 hg
   refine ⟨?_,z1⟩
   rcases z2 with z2 | z2 | z2 | z2
   ·have z2:W.heap.size≤g:=z2
    omega
   ·exfalso
    have:=hI'.apart 900 3 _ _ _ s3 hp3 hg (by rw [z2])
    omega
   ·exfalso
    have:=hI'.apart 900 4 _ _ _ s3 hp4 hg (by rw [z2])
    omega
   ·exact (hG g z2).1
  refine ⟨rfl,⟨hsz,fun g o hg ho hc=> ?_⟩,⟨⟨hI'.below.os.trans h.bel.os,hI'.below.tape.trans h.bel.tape,hI'.below.output.trans h.bel.output,Nat.le_trans h.bel.size hsz,fun g hg=>(hun g (by omega) ?_).trans (h.bel.block g hg)⟩,by omega,
   (hun _ (by omega) (hnX 2 (by omega) (by omega))).trans h.b2,(hun _ (by omega) (hnX 3 (by omega) (by omega))).trans h.b3,(hun _ (by omega) (hnX 4 (by omega) (by omega))).trans h.b4,F',us',m9'.v,m9'.g,fun g hg=>hI'.fle g (.inl (e1 g hg)),fun g hg=> ?_,hI'.glb,q5,q6,fun i c hc=> ?_,hvs ▸ r5,s5.setB hgrow⟩⟩
  ·
   have hlt:g<W.heap.size:=(Array.getElem?_eq_some_iff.1 ho).1
   rw [hun g hlt ?_]
   ·exact ho
   ·rintro (h' | h' | h')
    ·omega
    ·omega
    ·rcases e8 with ⟨_,h,_⟩ | ⟨g',cap,us'',y1,y2,y3,y4,_⟩
     ·rw [h'] at h;cases h
     ·rw [h'] at y1;cases y1
      rw [y4] at ho;cases ho;cases hc
  ·rintro (h' | h' | h')
   ·omega
   ·omega
   ·have:=(hG _ h').1;omega
  ·obtain ⟨z1,z2⟩:=hI'.flt g hg
   refine ⟨z1,?_⟩
   rcases z2 with z2 | z2 | z2 | z2 | z2
   ·exact (e2 g z2).2
   ·have z2:W.heap.size≤g:=z2
    exact .inr (by omega)
   ·exfalso
    exact (hI'.mine 3 _ _ hp3 rfl).1 (z2 ▸ hg)
   ·exfalso
    exact (hI'.mine 4 _ _ hp4 rfl).1 (z2 ▸ hg)
   ·exact .inr (hG g z2).1
  ·obtain ⟨u,u1,u2,u3⟩:=q7 i c hc
   exact ⟨u,u1,u2,zcO hall c (List.mem_of_getElem? hc) u3⟩
 ·cases hr
end
end
section
open Go Go.RowKit Go.Shelf Go.Proofs
attribute [local go_sem] Oper.semAt_some
set_option maxHeartbeats 4000000 in
theorem zkc {w0:World} {F0:Nat→Prop} (hF0: ∀ g,F0 g→g<w0.heap.size) (hgl:Glb Tryz.prog w0 F0) {M:Nat} {cs:Nat→List D} {outs:List (List UInt8)} {rest line:Nat→ByteArray} (hlen:outs.length=M+1)
  (hzero:zaP Tryz.prog 118= .agg (cs 0)) (hround: ∀ k,k≤M→ ∃ c:OP,rOk c (cs k) (line k).data.toList (outs.take k) (cs (k+1)) (outs.take (k+1))=true)
  (hfit: ∀ k,k<M→(rest k).size<1000000∧Lib.index (rest k).data.toList [10]=((line k).size:Int)∧(line k).size+1≤(rest k).size∧(rest k).extract 0 (line k).size=line k∧(rest k).extract ((line k).size+1) (rest k).size=rest (k+1))
  (hlast:(rest M).size<1000000∧Lib.index (rest M).data.toList [10]= -1∧rest M=line M) {r:List UInt8} (hr:F55 0 outs [10]=some r):
  Calls Tryz.prog 23 #[.string (rest 0)] w0 fun e w' =>e= .returned (.string ⟨r.toArray⟩)∧Below w0.heap.size w0 w' :=by
 refine (callsIn_wide (n:=3)).1 ?_
 refine callsIn_of_wp_marks Tryz.func23 rfl trivial ?_ rfl
 simp only [Tryz.ntmps23,List.size_toArray,List.length_cons,List.length_nil,Nat.reduceAdd,Nat.reduceSub,Array.replicate_succ,Array.replicate_zero,List.push_toArray,List.append_toArray,List.nil_append,List.cons_append]
 gi_wp2_with (refine ⟨trivial,?_⟩;gi_at_call 53;refine (callsIn_wide.2 (zrE (rest 0) ⟨#[10]⟩ _)).mono ?_;rintro e w' ⟨rfl,rfl⟩)
 obtain ⟨Z,hZ⟩: ∃ Z:Array Value,Z= #[.slice none 0 0,.slice none 0 0,.bool false,.slice none 0 0,.slice none 0 0,.bool false,.slice none 0 0,.slice none 0 0,.bool false,.slice none 0 0,.slice none 0 0,.int .i64 0,.int .i64 0,.int .i64 0,.slice none 0 0,.slice none 0 0,.slice none 0 0,.slice none 0 0,
  .bool false,.bool false,.int .i64 0,.bool false]:=⟨_,rfl⟩
 rw [← hZ]
 have hz2:zaP Tryz.prog 118= .agg (qM Z.toList):=by rw [hZ];kernel_rfl
 have hz3:cs 0=qM Z.toList:=by rw [hzero] at hz2;injection hz2
 have hz4:Z.toList.all (fun v=>v.oneCell')=true:=by rw [hZ];rfl
 clear hZ hz2
 obtain ⟨WL,hWL⟩: ∃ WL,WL=((((w0.alloc (.cells Z 118)).alloc (.cells #[.slice none 0 0] 30)).alloc (.cells #[.string (rest 0)] 9)).alloc (.cells #[.string ⟨#[10]⟩] 9)).alloc (.cells #[.int .i64 0] 3):=⟨_,rfl⟩
 rw [← hWL]
 have hsz:WL.heap.size=w0.heap.size+5:=by rw [hWL];simp
 have hbel:Below w0.heap.size w0 WL:=by
  rw [hWL]
  exact (((((Below.refl _ w0).alloc (Nat.le_refl _) _).alloc (by simp) _).alloc (by simp;omega) _).alloc (by simp;omega) _).alloc (by simp;omega) _
 have hL: ∀ (i:Nat),i<5→WL.heap[w0.heap.size+i]? =[Obj.cells Z 118,.cells #[.slice none 0 0] 30,.cells #[.string (rest 0)] 9,.cells #[.string ⟨#[10]⟩] 9,.cells #[.int .i64 0] 3][i]? :=fun i hi=>by
  rw [hWL]
  show (((((w0.heap.push _).push _).push _).push _).push _)[w0.heap.size+i]? =_
  simp only [Array.getElem?_push,Array.size_push]
  match i,hi with
  | 0,_=>simp;repeat rw [if_neg (by omega)]
  | 1,_=>simp
  | 2,_=>simp
  | 3,_=>simp
  | 4,_=>simp
 have hg3: ∀ g,yQ Tryz.prog g=true→g<w0.heap.size:=fun g hg=>hF0 g (hgl g hg).1
 clear hWL
 refine zkb (w:=WL) (by omega) (gf:=179) (lb:= #[.pointer (some ⟨w0.heap.size+3,0,none⟩),.pointer (some ⟨w0.heap.size+2,0,none⟩),.pointer (some ⟨w0.heap.size+4,0,none⟩)]) rfl (enters_of Tryz.func179 (by kernel_rfl) rfl)
  M (fun k=> .string (line k)) (fun j=> .string (rest j)) (w0.heap.size+2) rfl (RunI w0 F0 cs outs rest) ?put ?start (by omega) (fun j k W h=>h.set hF0)
  (fun k=>{ tmps:= #[.string (rest 0),undef,.string { data:= #[] },.pointer (some ⟨w0.heap.size,0,none⟩),.pointer (some ⟨w0.heap.size+1,0,none⟩),.string (line k),undef,undef,.string (rest 0),
   .func (.func 179) #[] #[.pointer (some ⟨w0.heap.size+3,0,none⟩),.pointer (some ⟨w0.heap.size+2,0,none⟩),.pointer (some ⟨w0.heap.size+4,0,none⟩)],.string (line k),undef,undef,undef,undef,undef,undef,undef,undef,undef,undef,undef,undef,undef],defers:=[] }) ?assign ?body ?iter ?done
 case put=>
  intro j k W o h
  rw [show WL.heap.size+1=w0.heap.size+6 by omega]
  exact h.put hF0 o
 case start=>
  intro o
  have hall:Below WL.heap.size WL ((WL.alloc (.deferred (some []))).alloc o):=((Below.refl _ WL).alloc (Nat.le_refl _) _).alloc (by simp) _
  have hold: ∀ i,i<5→((WL.alloc (.deferred (some []))).alloc o).heap[w0.heap.size+i]? =WL.heap[w0.heap.size+i]? :=fun i hi=>hall.block _ (by omega)
  have hsame:Same F0 w0 ((WL.alloc (.deferred (some []))).alloc o):=fun g hg=>by
   have:=hF0 g hg
   rw [hall.block _ (by omega)]
   exact hbel.block g this
  refine ⟨hbel.trans (hall.mono hbel.size),by simp;omega,(hold 2 (by omega)).trans (hL 2 (by omega)),(hold 3 (by omega)).trans (hL 3 (by omega)),(hold 4 (by omega)).trans (hL 4 (by omega)),F0,Z,.slice none 0 0,none,fun _ h=>h,fun g hg=>⟨by have:=hF0 g hg;simp;omega,.inl hg⟩,
   fun g hg=>⟨(hgl g hg).1,(hgl g hg).2.of_block (hsame g (hgl g hg).1)⟩,(hold 0 (by omega)).trans (hL 0 (by omega)),by rw [hz3,zaj,Array.length_toList],fun i c hc=> ?_,(hold 1 (by omega)).trans (hL 1 (by omega)),.inl ⟨rfl,rfl,none,rfl⟩⟩
  rw [hz3,zbD] at hc
  obtain ⟨v,hv,rfl⟩:=Option.map_eq_some_iff.1 hc
  exact ⟨v,by rw [← Array.getElem?_toList];exact hv,(List.all_eq_true.1 hz4) v (List.mem_of_getElem? hv),R0.ofVal v⟩
 case assign=>
  intro l k W K hK
  gi_wp2
  exact hK
 case body=>
  intro l j k W hk hI
  obtain ⟨c,hc⟩:=hround k hk
  rw [hsz]
  exact hI.round hF0 (by omega) hc rfl rfl rfl rfl rfl
 case iter=>
  intro l J hJI hJs hY W hJ0
  refine zrD (line:=line) (rest:=rest) 2 (by omega) (fun j k W h=> ?_) hJs hfit hlast hY W hJ0
  have hI:=hJI j k W h
  obtain ⟨F,us,v0,G,e1,e2,e3,e4,e5,e6,e7,e8⟩:=hI.ex
  obtain ⟨_,m,hm⟩:=e3.int (g:=0) (by kernel_rfl)
  exact ⟨by simp [World.cell?,hI.b2],by simp [World.frozen?,hI.b2],by simp [World.cell?,hI.b3],by simp [World.cell?,hI.b4],m,hm⟩
 case done=>
  intro W hI hD
  obtain ⟨F,us,v0,G,e1,e2,e3,e4,e5,e6,e7,e8⟩:=hI.ex
  rw [hsz] at hD ⊢
  have hc1:W.cell? ⟨w0.heap.size+1,0,none⟩=some v0:=by simp [World.cell?,e7]
  rw [show outs.take (M+1)=outs by rw [← hlen,List.take_length]] at e8
  have hJ:Calls Tryz.prog 55 #[v0,.string ⟨#[10]⟩] W fun e w' =>e= .returned (.string ⟨r.toArray⟩)∧Below W.heap.size W w' :=by
   have hG: ∀ g,G=some g→ ¬F g∧g<W.heap.size:=fun g hg=>by
    rcases e8 with ⟨_,h,_⟩ | ⟨g',cap,us',g1,g2,g3,g4,_⟩
    ·rw [hg] at h;cases h
    ·rw [hg] at g1;cases g1;exact ⟨g2.2,(Array.getElem?_eq_some_iff.1 g4).1⟩
   have hrv:R1 W (fun g=>F g∨G=some g) noM v0 (.val (.list tS) outs):=OwnR.reads (F' :=fun g=>F g∨G=some g) e8 (fun _ h=> .inl h) fun g hg=> .inr hg
   refine ((P55 0 outs [10] r hr).2 W #[v0,.string ⟨#[10]⟩] (fun g=>F g∨G=some g) (fun g hg=>hg.elim (fun h=>(e2 g h).1) fun h=>(hG g h).2) (e3.imp fun _ h=> .inl h) rfl fun i d' hi=> ?_).mono ?_
   ·match i,hi with
    | 0,hi=>cases hi;exact ⟨v0,rfl,hrv⟩
    | 1,hi=>cases hi;exact ⟨_,rfl,⟨#[10]⟩,rfl,rfl⟩
   ·rintro e w' ⟨v,F',G',rfl,hb,_,_,_,S,hv,hS⟩
    have hv:v= .string S:=by simpa using hv
    subst hv
    refine ⟨?_,hb⟩
    rw [← hS]
  gi_wp2_with (refine ⟨trivial,?_⟩;gi_at_call 55;refine (callsIn_wide.2 hJ).mono ?_;rintro e w' ⟨rfl,hb⟩)
  have hK:w'.heap[w0.heap.size+5]? =some (.deferred (some [])):=(hb.block _ (Array.getElem?_eq_some_iff.1 hD).1).trans hD
  refine ⟨by simp,.inl ⟨_,_,rfl,run_takeDeferred hK,?_⟩⟩
  refine ⟨_,results_tmp rfl _ _ _,rfl,?_⟩
  have hb2:Below w0.heap.size w0 w' :=hI.bel.trans (hb.mono hI.bel.size)
  exact ⟨hb2.os,hb2.tape,hb2.output,by simpa using hb2.size,fun g hg=>(World.putObj_heap_other (by omega)).trans (hb2.block g hg)⟩
end
section
open Go Go.RowKit Go.Shelf Go.Proofs
def csOf:D→List D | .agg cs=>cs | _=>[]
def awS:List D:=[d6,d7,d24,d49,d116,d116,d179,d179,d179]
def awL:List (List UInt8):=[b0,b7,b16,b28,b112,b114,b112,b127]
def awO:List (List UInt8):=[b6,b6,b6,b111,b113,b6,b6,b129]
def awC (k:Nat):List D:=csOf (awS.getD k .bad)
def zrF (k:Nat):ByteArray:=⟨(awL.getD k []).toArray⟩
def zhi (k:Nat):ByteArray:=⟨(Lib.join (awL.drop k) [10]).toArray⟩
theorem zrG:Spec Tryz.prog 23 [.val .str (zhi 0).data.toList] (.val .str (Lib.join awO [10])):=by
 refine zaq (u:=tS) (x:=Lib.join awO [10]) (zw (fn:=Tryz.f23) rfl rfl rfl) fun w vs F hF hgl hsz hargs=> ?_
 obtain ⟨a,rfl,h1⟩:=zcN hsz hargs
 obtain ⟨S,rfl,hS⟩:=arg_str h1
 have:S=zhi 0:=by
  cases S
  congr 1
  exact Array.toList_inj.1 hS
 subst this
 refine ⟨_,fun _ _=>⟨_,rfl,rfl⟩,zkc hF hgl (M:=7) (cs:=awC) (outs:=awO) (rest:=zhi) (line:=zrF) rfl (by kernel_rfl) (fun k hk=> ?_) (fun k hk=> ?_) ⟨Nat.le_of_ble_eq_true (by kernel_rfl),by kernel_rfl,by kernel_rfl⟩ (r:=Lib.join awO [10]) (by kernel_rfl)⟩
 ·match k,hk with
  | 0,_=>exact ⟨c47,by kernel_rfl⟩
  | 1,_=>exact ⟨c102,by kernel_rfl⟩
  | 2,_=>exact ⟨c263,by kernel_rfl⟩
  | 3,_=>exact ⟨c762,by kernel_rfl⟩
  | 4,_=>exact ⟨c790,by kernel_rfl⟩
  | 5,_=>exact ⟨c1052,by kernel_rfl⟩
  | 6,_=>exact ⟨c1054,by kernel_rfl⟩
  | 7,_=>exact ⟨c1082,by kernel_rfl⟩
 ·match k,hk with
  | 0,_=>exact ⟨Nat.le_of_ble_eq_true (by kernel_rfl),by kernel_rfl,Nat.le_of_ble_eq_true (by kernel_rfl),by kernel_rfl,by kernel_rfl⟩
  | 1,_=>exact ⟨Nat.le_of_ble_eq_true (by kernel_rfl),by kernel_rfl,Nat.le_of_ble_eq_true (by kernel_rfl),by kernel_rfl,by kernel_rfl⟩
  | 2,_=>exact ⟨Nat.le_of_ble_eq_true (by kernel_rfl),by kernel_rfl,Nat.le_of_ble_eq_true (by kernel_rfl),by kernel_rfl,by kernel_rfl⟩
  | 3,_=>exact ⟨Nat.le_of_ble_eq_true (by kernel_rfl),by kernel_rfl,Nat.le_of_ble_eq_true (by kernel_rfl),by kernel_rfl,by kernel_rfl⟩
  | 4,_=>exact ⟨Nat.le_of_ble_eq_true (by kernel_rfl),by kernel_rfl,Nat.le_of_ble_eq_true (by kernel_rfl),by kernel_rfl,by kernel_rfl⟩
  | 5,_=>exact ⟨Nat.le_of_ble_eq_true (by kernel_rfl),by kernel_rfl,Nat.le_of_ble_eq_true (by kernel_rfl),by kernel_rfl,by kernel_rfl⟩
  | 6,_=>exact ⟨Nat.le_of_ble_eq_true (by kernel_rfl),by kernel_rfl,Nat.le_of_ble_eq_true (by kernel_rfl),by kernel_rfl,by kernel_rfl⟩
noncomputable def cRun:OP:=⟨⟨23,[.val .str (zhi 0).data.toList],.val .str (Lib.join awO [10])⟩,zrG⟩
noncomputable def zrH:OP:=kP [cRun] [] [] 6 [] tt (by kernel_rfl)
def E6:Bool→D:=fun x=>encV tB x
def F6 (N:Nat):Option Bool:=some true
theorem P6 (N:Nat): ∀ r,F6 N=some r→Spec Tryz.prog 6 [] (E6 r):=fun r h=>by
 cases h
 exact zrH.2
end
end Go.Proofs.YthcmfnkganacaaaGreatDoor.Vc
