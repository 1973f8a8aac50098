/- The fuel of the closure. -/
import Derived.Test.YtfpngbjjogionaaGreatDoorRows
import Derived.JoinedOf
namespace Go.Proofs.YtfpngbjjogionaaGreatDoor.amsNil
open Go
set_option maxRecDepth 1000000 in
theorem fuel : (1 + (Tryz.prog.funcs.toList.map fun g => (Tryz.prog.leadsTo g).length + 1).sum) = 2374 := by kernel_rfl
end Go.Proofs.YtfpngbjjogionaaGreatDoor.amsNil
