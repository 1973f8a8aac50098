/- Closed facts of the row of amsNil, each by the kernel. -/
import Derived.Test.YtfpngbjjogionaaGreatDoorRows
import Derived.JoinedOf
namespace Go.Proofs.YtfpngbjjogionaaGreatDoor.amsNil
open Go
set_option maxRecDepth 1000000 in
theorem k51 : (Tryz.pinned.checked.prog.globals.all (fun g => decide (g.type < Tryz.pinned.checked.prog.types.size))) = true := by kernel_rfl
set_option maxRecDepth 1000000 in
theorem k52 : (Tryz.pinned.checked.prog.funcs.all (fun f => f.params.all fun t => decide (t < Tryz.pinned.checked.prog.types.size))) = true := by kernel_rfl
end Go.Proofs.YtfpngbjjogionaaGreatDoor.amsNil
