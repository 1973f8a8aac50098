/- The closed facts of the row of amsNil, joined. -/
import Derived.Test.YtfpngbjjogionaaGreatDoorJfK0
import Derived.Test.YtfpngbjjogionaaGreatDoorJfK2
import Derived.Test.YtfpngbjjogionaaGreatDoorJfK3
import Derived.Test.YtfpngbjjogionaaGreatDoorJfK4
import Derived.Test.YtfpngbjjogionaaGreatDoorJfK5
import Derived.Test.YtfpngbjjogionaaGreatDoorJfK6
import Derived.Test.YtfpngbjjogionaaGreatDoorJfJ9
import Derived.Test.YtfpngbjjogionaaGreatDoorJfJ10
import Derived.Test.YtfpngbjjogionaaGreatDoorJfJ12
namespace Go.Proofs.YtfpngbjjogionaaGreatDoor.amsNil
open Go
theorem and_t {a b : Bool} (h : a = true) (k : b = true) : (a && b) = true := by rw [h, k]; rfl
set_option maxRecDepth 1000000 in
theorem k1 : laidOutB Tryz.pinned.checked.prog = true := and_t (and_t k50 k51) k52
set_option maxRecDepth 1000000 in
theorem k11 : (Rows.amsNilRow.recurses == Tryz.pinned.checked.prog.recurses 3) = true := by
  have h : Tryz.pinned.checked.prog.unfollowed 3 = true := (beq_iff_eq.1 k10).symm
  unfold Program.recurses
  rw [h]; rfl
set_option maxRecDepth 1000000 in
theorem closed : joinedFacts Tryz.pinned.checked.prog 3 Tryz.f3 Rows.amsNilSpec Rows.amsNilRow = true := (and_t (and_t (and_t (and_t (and_t (and_t (and_t (and_t (and_t (and_t (and_t (and_t (and_t (and_t (and_t (and_t (and_t (and_t (and_t (and_t (and_t (and_t (and_t (and_t (and_t (and_t (and_t (and_t (and_t (and_t (and_t k0 k1) k2) k3) k4) k5) k6) k7) k8) k9) k10) k11) k12) k13) k14) k15) k16) k17) k18) k19) k20) k21) k22) k23) k24) k25) k26) k27) k28) k29) k30) k31)
end Go.Proofs.YtfpngbjjogionaaGreatDoor.amsNil
