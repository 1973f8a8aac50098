/- The statement AmsNil of carpetbaglaw32, bare. -/
import Derived.Test.YtfpngbjjogionaaGreatDoorRowA
import Derived.Test.YtfpngbjjogionaaGreatDoorRowW
import Derived.LaidMore
import Derived.Lay
import Derived.Stop.Joined
namespace Go.Proofs.YtfpngbjjogionaaGreatDoor.amsNil
open Go.ChangeShapes Go.WideShapes Go.ChangeAt Go.RowKit Go.ChangeMaps

set_option maxRecDepth 100000 in
theorem lifted (os : Os) (started : os.Started) (H : Type) (enc : TypeId × Value → H) :
    ReturnsInHanded {} Tryz.checked os 3 .any (fun w args => (Rows.amsNilSpec.pre enc Tryz.prog Tryz.f3 [] false w args ∧ laidMetH Tryz.prog Rows.amsNilRow.laid w) ∧ sizedMet enc Tryz.prog Tryz.f3 (OpenSpec.ofChange Rows.amsNilSpec) false w args)
      (Rows.amsNilSpec.post enc Tryz.prog Tryz.f3 false true false false) := by
  refine returnsInHanded_of_change_and (C := Tryz.checked) (X := fun w _ => laidMetH Tryz.prog Rows.amsNilRow.laid w) (fun _ _ _ hh h => h.of_heap hh) own started w1 Tryz.func3
    (ChangeSpec.witness_shaped (enc := enc) (C := Tryz.checked) (os := os) (X := fun w _ => laidMetH Tryz.prog Rows.amsNilRow.laid w) false (World.laidAll Tryz.prog os Rows.amsNilRow.laid) #[.string .empty, .int .i32 0] 8 (World.laidAll_os _ _ _)
      (World.shaped_of_ZipB (w2 os) (w3 os)) (w4 os) (w5 os H enc) (w6 os H enc)
      (by rw [MakeChecks.laidMetH_plain _ _ _ w7]; exact laidMet_laidAll _ (w8 os) (w9 os))) ?_
  intro W base args ds gs before hval hW hc _ hL _
  exact contract H enc W base args ds gs before hval hW

end Go.Proofs.YtfpngbjjogionaaGreatDoor.amsNil
