/- Closed facts of the row of amsNil, each by the kernel. -/
import Derived.Test.YtfpngbjjogionaaGreatDoorRows
import Derived.JoinedOf
namespace Go.Proofs.YtfpngbjjogionaaGreatDoor.amsNil
open Go
set_option maxRecDepth 1000000 in
theorem k50 : ((List.range Tryz.pinned.checked.prog.types.size).all (rowFine Tryz.pinned.checked.prog)) = true := by kernel_rfl
end Go.Proofs.YtfpngbjjogionaaGreatDoor.amsNil
