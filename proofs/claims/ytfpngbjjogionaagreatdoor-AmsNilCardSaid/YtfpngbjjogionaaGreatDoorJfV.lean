/- No operation of the program readies a variable, a part of its functions. -/
import Derived.Test.YtfpngbjjogionaaGreatDoorRows
import Derived.JoinedOf
namespace Go.Proofs.YtfpngbjjogionaaGreatDoor.amsNil
open Go
set_option maxRecDepth 1000000 in
theorem v0 : (Tryz.prog.funcs.toList.take 178).flatMap (fun (f : Func) => (f.body.map readies).getD []) = [] := by kernel_rfl
end Go.Proofs.YtfpngbjjogionaaGreatDoor.amsNil
/- No operation of the program readies a variable, a part of its functions. -/
namespace Go.Proofs.YtfpngbjjogionaaGreatDoor.amsNil
open Go
set_option maxRecDepth 1000000 in
theorem v1 : ((Tryz.prog.funcs.toList.drop 178).take 178).flatMap (fun (f : Func) => (f.body.map readies).getD []) = [] := by kernel_rfl
end Go.Proofs.YtfpngbjjogionaaGreatDoor.amsNil
/- No operation of the program readies a variable, a part of its functions. -/
namespace Go.Proofs.YtfpngbjjogionaaGreatDoor.amsNil
open Go
set_option maxRecDepth 1000000 in
theorem v2 : (((Tryz.prog.funcs.toList.drop 178).drop 178).take 178).flatMap (fun (f : Func) => (f.body.map readies).getD []) = [] := by kernel_rfl
end Go.Proofs.YtfpngbjjogionaaGreatDoor.amsNil
/- No operation of the program readies a variable, a part of its functions. -/
namespace Go.Proofs.YtfpngbjjogionaaGreatDoor.amsNil
open Go
set_option maxRecDepth 1000000 in
theorem v3 : (((Tryz.prog.funcs.toList.drop 178).drop 178).drop 178).flatMap (fun (f : Func) => (f.body.map readies).getD []) = [] := by kernel_rfl
end Go.Proofs.YtfpngbjjogionaaGreatDoor.amsNil
/- No variable of the program waits. -/
namespace Go.Proofs.YtfpngbjjogionaaGreatDoor.amsNil
open Go
theorem flat_parts {α β : Type} (F : α → List β) (n : Nat) (l : List α) (h : (l.take n).flatMap F = []) (k : (l.drop n).flatMap F = []) : l.flatMap F = [] := by
  rw [← List.take_append_drop n l, List.flatMap_append, h, k]; rfl
theorem no_readies : Tryz.prog.funcs.toList.flatMap (fun (f : Func) => (f.body.map readies).getD []) = [] := (flat_parts _ 178 _ v0 (flat_parts _ 178 _ v1 (flat_parts _ 178 _ v2 v3)))
theorem waits : waiting Tryz.prog = Array.replicate Tryz.prog.globals.size false := by
  unfold waiting
  rw [show (Tryz.prog.funcs.toList.flatMap fun f => (f.body.map readies).getD []) = [] from no_readies]
  rfl
theorem waitsC : waiting Tryz.checked.prog = Array.replicate Tryz.prog.globals.size false := waits
end Go.Proofs.YtfpngbjjogionaaGreatDoor.amsNil
