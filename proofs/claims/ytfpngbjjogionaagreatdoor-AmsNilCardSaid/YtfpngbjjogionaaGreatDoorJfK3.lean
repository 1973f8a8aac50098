/- Closed facts of the row of amsNil, each by the kernel. -/
import Derived.Test.YtfpngbjjogionaaGreatDoorRows
import Derived.JoinedOf
namespace Go.Proofs.YtfpngbjjogionaaGreatDoor.amsNil
open Go
set_option maxRecDepth 1000000 in
theorem k25 : (Tryz.pinned.checked.prog.mayEnter) = true := by kernel_rfl
set_option maxRecDepth 1000000 in
theorem k26 : ((Rows.amsNilRow.lifted == Tryz.pinned.checked.prog.liftsFinal)) = true := by kernel_rfl
set_option maxRecDepth 1000000 in
theorem k27 : ((Tryz.pinned.checked.prog.make == some Rows.amsNilRow.make)) = true := by kernel_rfl
set_option maxRecDepth 1000000 in
theorem k28 : ((Rows.amsNilRow.kinds == (if Rows.amsNilRow.domain.isEmpty then [] else Tryz.f3.params.toList.map fun t => match Tryz.pinned.checked.prog.underlying t with | some (.int k) => some k | _ => none))) = true := by kernel_rfl
set_option maxRecDepth 1000000 in
theorem k29 : ((Rows.amsNilRow.pinned == Rows.amsNilRow.pinnedBy)) = true := by kernel_rfl
end Go.Proofs.YtfpngbjjogionaaGreatDoor.amsNil
