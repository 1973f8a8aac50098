/- No earlier type bears the sentinels' name, a part of the types. -/
import Derived.Test.YtfpngbjjogionaaGreatDoorRows
import Derived.Lay
import Derived.JoinedOf
namespace Go.Proofs.YtfpngbjjogionaaGreatDoor.amsNil
open Go
set_option maxRecDepth 1000000 in
theorem y4 : ((List.range 97).all fun j => !(fun u => Tryz.prog.typeName? 3 u == some "*errors.errorString") (j + 388)) = true := by kernel_rfl
set_option maxRecDepth 1000000 in
theorem y5 : ((List.range 97).all fun j => !(fun u => Tryz.prog.typeName? 3 u == some "*errors.errorString") (j + 485)) = true := by kernel_rfl
set_option maxRecDepth 1000000 in
theorem y6 : ((List.range 97).all fun j => !(fun u => Tryz.prog.typeName? 3 u == some "*errors.errorString") (j + 582)) = true := by kernel_rfl
set_option maxRecDepth 1000000 in
theorem y7 : ((List.range 94).all fun j => !(fun u => Tryz.prog.typeName? 3 u == some "*errors.errorString") (j + 679)) = true := by kernel_rfl
end Go.Proofs.YtfpngbjjogionaaGreatDoor.amsNil
