/- The statement AmsNil of carpetbaglaw32, bare.  -/
import Derived.Test.YtfpngbjjogionaaGreatDoorRowB
import Derived.Test.YtfpngbjjogionaaGreatDoorJfAll
namespace Go.Proofs.YtfpngbjjogionaaGreatDoor.amsNil
open Go.ChangeShapes Go.WideShapes Go.ChangeAt Go.RowKit Go.ChangeMaps

theorem said : Rows.AmsNilSaid :=
  OpenClaim.holds_of_wide 3 Tryz.f3 rfl rfl rfl rfl rfl rfl rfl ⟨rfl, rfl, rfl, rfl, rfl⟩ rfl rfl rfl rfl rfl (by kernel_rfl) Tryz.func3 closed
    (of_decide_eq_true (by kernel_rfl)) (by unfold Func.isWrapper; first | (rw [if_pos (by decide +kernel)]; kernel_rfl) | (rw [if_neg (by decide +kernel)]; exact ⟨rfl, rfl⟩))
    (fun os started H enc _ => lifted os started H enc)
end Go.Proofs.YtfpngbjjogionaaGreatDoor.amsNil
