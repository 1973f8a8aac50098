/- Closed facts of the row of amsNil, each by the kernel. -/
import Derived.Test.YtfpngbjjogionaaGreatDoorRows
import Derived.JoinedOf
namespace Go.Proofs.YtfpngbjjogionaaGreatDoor.amsNil
open Go
set_option maxRecDepth 1000000 in
theorem k30 : ((Rows.amsNilRow.veiled == (Tryz.f3.params.toList ++ Rows.amsNilSpec.plain.varTypes Tryz.pinned.checked.prog ++ Tryz.f3.resultTypes.toList).any (Tryz.pinned.checked.prog.veiledRec ·))) = true := by kernel_rfl
set_option maxRecDepth 1000000 in
theorem k31 : (Rows.amsNilRow.veiledFits Tryz.pinned.checked.prog Tryz.f3.params.toList (Tryz.f3.params.toList ++ Rows.amsNilSpec.plain.varTypes Tryz.pinned.checked.prog ++ Tryz.f3.resultTypes.toList)) = true := by kernel_rfl
end Go.Proofs.YtfpngbjjogionaaGreatDoor.amsNil
