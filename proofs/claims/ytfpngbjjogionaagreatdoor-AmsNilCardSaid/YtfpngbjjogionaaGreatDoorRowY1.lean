/- No earlier type bears the sentinels' name, a part of the types. -/
import Derived.Test.YtfpngbjjogionaaGreatDoorRows
import Derived.Lay
import Derived.JoinedOf
namespace Go.Proofs.YtfpngbjjogionaaGreatDoor.amsNil
open Go
set_option maxRecDepth 1000000 in
theorem y0 : ((List.range 97).all fun j => !(fun u => Tryz.prog.typeName? 3 u == some "*errors.errorString") (j + 0)) = true := by kernel_rfl
set_option maxRecDepth 1000000 in
theorem y1 : ((List.range 97).all fun j => !(fun u => Tryz.prog.typeName? 3 u == some "*errors.errorString") (j + 97)) = true := by kernel_rfl
set_option maxRecDepth 1000000 in
theorem y2 : ((List.range 97).all fun j => !(fun u => Tryz.prog.typeName? 3 u == some "*errors.errorString") (j + 194)) = true := by kernel_rfl
set_option maxRecDepth 1000000 in
theorem y3 : ((List.range 97).all fun j => !(fun u => Tryz.prog.typeName? 3 u == some "*errors.errorString") (j + 291)) = true := by kernel_rfl
end Go.Proofs.YtfpngbjjogionaaGreatDoor.amsNil
