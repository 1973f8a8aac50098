/- A closed fact of the row of amsNil, over the closure. -/
import Derived.Test.YtfpngbjjogionaaGreatDoorJfJoin
import Derived.JoinedOf
namespace Go.Proofs.YtfpngbjjogionaaGreatDoor.amsNil
open Go
set_option maxRecDepth 1000000 in
theorem k10 : ((Rows.amsNilRow.unfollowed == Tryz.pinned.checked.prog.unfollowed 3)) = true := by
  unfold Program.unfollowed
  rw [show Tryz.pinned.checked.prog.closure 3 = _ from closure]
  kernel_rfl
end Go.Proofs.YtfpngbjjogionaaGreatDoor.amsNil
