/- Closed facts of the tie, each by the kernel. -/
import Derived.Test.YtfpngbjjogionaaGreatDoorRows
import Derived.LaidByTextLater
import Derived.SevenTiedAt
namespace Go.Proofs.YtfpngbjjogionaaGreatDoor
open Go
theorem a7 : ∀ os tape, varsDone Tryz.prog 400 (varsId Tryz.prog) os tape = true := fun _ _ => by kernel_rfl
end Go.Proofs.YtfpngbjjogionaaGreatDoor
