/-
  TopPackets HOLDS (the card: the variables that the library lays, tied to its text): each host sends an address as the longest of the tree's prefixes says in which it is. No condition.
-/
import Derived.Test.YthcmfnkganacaaaGreatDoorCk
import Derived.Test.YthcmfnkganacaaaGreatDoorB7
set_option linter.unusedVariables false
set_option linter.unusedSimpArgs false
set_option maxRecDepth 100000
namespace Go.Proofs.YthcmfnkganacaaaGreatDoor
open Go.ChangeShapes Go.WideShapes Go.ChangeAt Go.RowKit
abbrev zO:List Vc.Ty:=[.list Vc.tLn,.int .u8,.int .u32]
theorem zbY (law: ∀ x:Vc.Args zO,Vc.wfArgs zO x→Vc.Spec Tryz.prog 3 (Vc.argDs zO x) (.val .bool true)) (os:Os) (started:os.Started) (H:Type) (enc:TypeId×Value→H):
  ReturnsInHanded {} Tryz.checked os 3 .any (fun w args=>(Rows.topPacketsSpec.pre enc Tryz.prog Tryz.f3 Rows.topPacketsRow.domain false w args∧laidMetH Tryz.prog laidAll w)∧sizedMet enc Tryz.prog Tryz.f3 (OpenSpec.ofChange Rows.topPacketsSpec) false w args) (Rows.topPacketsSpec.post enc Tryz.prog Tryz.f3 false true false false):=by
 refine Vc.handed_of_laid (C:=Tryz.checked) Tryz.own started (by kernel_rfl) Tryz.func3
  (ChangeSpec.witness_shaped (enc:=enc) (C:=Tryz.checked) (os:=os) (X:=fun w _=>laidMetH Tryz.prog laidAll w) false (World.laidAll Tryz.prog os laidAll) #[.slice none 0 0,.int .u8 0,.int .u32 0] 8 (World.laidAll_os _ _ _) (zqQ os) (by kernel_rfl) (by kernel_rfl) (by kernel_rfl) (znJ os _)) ?_
 intro W hshape hlaid base args ds gs before hval hW
 exact Vc.law_post Tryz.laidOut (ts:=[22,5,23]) (us:=zO) rfl (by kernel_rfl) (by kernel_rfl) rfl Tryz.underlying4 rfl (fun ds h=>match ds,h with | [_,_,_],_=>rfl) law W (Tryz.glb hshape hlaid) base args ds gs before hval hW
theorem zeQ (law: ∀ x:Vc.Args zO,Vc.wfArgs zO x→Vc.Spec Tryz.prog 3 (Vc.argDs zO x) (.val .bool true)):Rows.TopPacketsSaid:=
 OpenClaim.holds_of_wide 3 Tryz.f3 rfl rfl rfl rfl rfl rfl rfl ⟨rfl,rfl,rfl,rfl,rfl⟩ rfl rfl rfl rfl rfl zos Tryz.func3 zqR zsX zsY
  (fun os started H enc _=>zbY law os started H enc)
theorem zc8 (law: ∀ x:Vc.Args zO,Vc.wfArgs zO x→Vc.Spec Tryz.prog 3 (Vc.argDs zO x) (.val .bool true)):Rows.TopPacketsCardSaid:=
 Claim7.holds_tied_plain_at .later [] [.data,.data,.data,.data,.sentinel,.sentinel,.pinned] true (true, "18991b84496207c99b484bc712b99f45e7e7bf7a3a999a9e877361815faf6dcc") true
  (zeQ law) (fun _ h=>by cases h) zsZ (fun _ h=>by cases h) topPackets_row_tie rfl ⟨rfl,rfl⟩ zs0 rfl zqP zs1
theorem zor {k:IntKind} {n:Int} (h:Vc.wfI (.int k) n):k.min≤n∧n≤k.max:=by simpa [Vc.wfI,Lit.wf] using h
theorem top_packets:Rows.TopPacketsCardSaid:=zc8 fun x hx=>by
 obtain ⟨t,i,ip,u⟩:=x
 obtain ⟨_,h1,h2,_⟩:=hx
 have h1:=zor h1
 have h2:=zor h2
 exact Vc.P3 300000 t i ip true (Vc.top_packets t (by simpa [IntKind.min,IntKind.signed] using h1.1) (by simpa [IntKind.max,IntKind.signed,IntKind.bits] using h1.2) (by simpa [IntKind.min,IntKind.signed] using h2.1) (by have:=h2.2;simp [IntKind.max,IntKind.signed,IntKind.bits] at this;omega))
end Go.Proofs.YthcmfnkganacaaaGreatDoor
