/-
  TopPackets' CARD: closed facts of the program, each by itself. No condition.
-/
import Derived.Test.YthcmfnkganacaaaGreatDoorC0
set_option linter.unusedVariables false
set_option linter.unusedSimpArgs false
set_option maxRecDepth 100000
namespace Go.Proofs.YthcmfnkganacaaaGreatDoor
open Go.ChangeShapes Go.WideShapes Go.ChangeAt Go.RowKit
theorem zos:Tryz.pinned.checked.prog.funcNamed Rows.topPacketsRow.func=some 3:=by kernel_rfl
theorem zsX:Tryz.f3.isInstance Tryz.pinned.checked.prog Rows.topPacketsRow.origin Rows.topPacketsRow.targs:=of_decide_eq_true (by kernel_rfl)
theorem zsY:Tryz.f3.isWrapper Tryz.pinned.checked.prog Rows.topPacketsRow.wrapper Rows.topPacketsRow.mainSum:=by unfold Func.isWrapper;rw [if_neg (of_decide_eq_false (by kernel_rfl))];exact ⟨rfl,rfl⟩
theorem q10:(Rows.topPacketsRow.inPlace==Tryz.pinned.checked.prog.inPlace 3)=true:=by kernel_rfl
theorem q11:(Rows.topPacketsRow.unfollowed==Tryz.pinned.checked.prog.unfollowed 3)=true:=by kernel_rfl
theorem q12:(Rows.topPacketsRow.recurses==Tryz.pinned.checked.prog.recurses 3)=true:=by kernel_rfl
theorem q13:(Rows.topPacketsRow.named==Tryz.pinned.checked.prog.varsNamed 3)=true:=by kernel_rfl
theorem zsZ:Rows.topPacketsRow.wfByText (OpenSpec.ofChange Rows.topPacketsSpec)=true:=by kernel_rfl
theorem zs0:Tryz.pinned.checked.prog.mainIs=some (true,("18991b84496207c99b484bc712b99f45e7e7bf7a3a999a9e877361815faf6dcc" :String).toList):=by kernel_rfl
theorem zot:Tryz.pinned.checked.prog.funcs.any Func.goes=false:=by kernel_rfl
theorem zs1:false=Rows.topPacketsRow.goesBy Tryz.pinned.checked.prog:=by
 have h:Tryz.pinned.checked.prog.goes 3=false:=by
  unfold Program.goes
  rw [zot,Bool.and_false,Bool.or_false,List.any_eq_false]
  intro g _
  cases hg:Tryz.pinned.checked.prog.funcs[g]? with
  | none=>simp
  | some fn=>
   have:=Array.any_eq_false'.1 zot fn (Array.mem_of_getElem? hg)
   simpa using this
 show false=((Tryz.pinned.checked.prog.funcNamed Rows.topPacketsRow.func).any Tryz.pinned.checked.prog.goes||false)
 rw [zos,Option.any_some,h,Bool.or_false]
theorem zs2:true=Tryz.pinned.checked.prog.looks []:=by kernel_rfl
theorem q_fn:Tryz.prog.funcNamed "ferryslip/ferrysliptop.TopPackets" =some 3:=by kernel_rfl
theorem q_all:(Tryz.f3.params.toList.all fun u=> !Tryz.prog.wantsStandIn u)=true:=by kernel_rfl
theorem zqP: ∀ f fn,Tryz.pinned.checked.prog.funcNamed Rows.topPacketsRow.func=some f→Tryz.pinned.checked.prog.funcs[f]? =some fn→true=Tryz.pinned.checked.prog.looks []∧ ∀ (j:Nat) t,fn.params[j]? =some t→Tryz.pinned.checked.prog.wantsStandIn t=false:=fun f fn hf hfn=>by
 obtain rfl:f=3:=Option.some.inj (q_fn.symm.trans hf) |>.symm
 obtain rfl:fn=Tryz.f3:=(Option.some.inj (Tryz.func3.symm.trans hfn)).symm
 exact ⟨zs2,fun j t ht=>by
  have:=List.all_eq_true.1 q_all t (Array.mem_toList_iff.2 (Array.mem_of_getElem? ht))
  exact (show Tryz.prog.wantsStandIn t=false by simpa using this)⟩
theorem zqQ (os:Os):(World.laidAll Tryz.prog os laidAll).Shaped Tryz.prog:=World.shaped_of_ZipB (by kernel_rfl) (by kernel_rfl)
end Go.Proofs.YthcmfnkganacaaaGreatDoor
