/- How a world with laid variables reads, the layings being told: plain laws, for any program. -/
import Derived.Lay
import Derived.Test.YtfpngbjjogionaaGreatDoorRows
import Derived.Test.YtfpngbjjogionaaGreatDoorRowY
import Derived.Below
import Derived.ChangeSame
import Derived.ChangeMaps5
import Derived.WalkKit
import Derived.ProofKit
import Derived.OpenShut
import Derived.Deep.DeepHandedRow
import Derived.Lib.LaidTab
import Derived.LaidMore
import Derived.Stop.Joined
namespace Go.Eng
open Go

theorem laidAll_of {P : Program} {os : Os} {l : List (String × DataW Unit)} {n : Nat} {Z : List (Nat × List Value) × List Obj} (hs : (World.holding P os { blocks := #[], args := #[] }).heap.size = n) (hl : Lay.layList P n l = some Z) :
    World.laidAll P os l = { World.holding P os { blocks := #[], args := #[] } with heap := ⟨Lay.setRows (World.holding P os { blocks := #[], args := #[] }).heap.toList Z.1 ++ Z.2⟩ } := by
  subst hs
  unfold World.laidAll World.layVars
  rw [hl]
theorem layFits_of {P : Program} {w : World} {l : List (String × DataW Unit)} {B : List Nat} {n : Nat} {Z : List (Nat × List Value) × List Obj} (hs : w.heap.size = n) (hl : Lay.layList P n l = some Z)
    (h1 : decide (Z.1.map (·.1)).Nodup = true) (h2 : (Z.1.all fun r => Lay.isRow w.heap.toList[r.1]? && !B.contains r.1) = true) (h3 : B.all (· < w.heap.size) = true) : w.layFits P l B = true := by
  subst hs
  unfold World.layFits
  rw [hl]
  simp only [h1, h2, h3, Bool.and_true]
theorem layIfaces_of {P : Program} {w w' : World} {l : List (String × DataW Unit)} {n : Nat} {Z : List (Nat × List Value) × List Obj} (hs : w.heap.size = n) (hl : Lay.layList P n l = some Z)
    (h1 : (Z.1.all fun r => r.2.all (Lay.okV P w')) = true) (h2 : Z.2.all (Lay.okO P w') = true) : w.layIfaces P l w' = true := by
  subst hs
  unfold World.layIfaces
  rw [hl]
  simp only [h1, h2, Bool.and_true]
end Go.Eng
/- Closed facts of the witness of AmsNil's row, each by the kernel. -/
namespace Go.Proofs.YtfpngbjjogionaaGreatDoor.amsNil
open Go.Eng Go.ChangeShapes Go.WideShapes Go.ChangeAt Go.RowKit Go.ChangeMaps
set_option maxRecDepth 100000 in
theorem w1  : Tryz.checked.prog.inits.idxOf? 3 = none := by kernel_rfl
set_option maxRecDepth 100000 in
theorem w2 (os : Os) : World.variablesZipB Tryz.checked.prog ((World.laidAll Tryz.prog os Rows.amsNilRow.laid).forCall (fun _ _ => 0) { blocks := #[], args := #[Value.string ByteArray.empty, Value.int IntKind.i32 0] }) = true := by
  rw [laidAll_of (heap_size os) lay_list]
  kernel_rfl
set_option maxRecDepth 100000 in
theorem w7  : (Rows.amsNilRow.laid.all fun x => x.snd.handleName?.isNone) = true := by kernel_rfl
end Go.Proofs.YtfpngbjjogionaaGreatDoor.amsNil
/- Closed facts of the witness of AmsNil's row, each by the kernel. -/
namespace Go.Proofs.YtfpngbjjogionaaGreatDoor.amsNil
open Go.Eng Go.ChangeShapes Go.WideShapes Go.ChangeAt Go.RowKit Go.ChangeMaps
set_option maxRecDepth 100000 in
theorem w3 (os : Os) : List.take ((begin Tryz.checked.prog (fun _ _ => 0) default).world.heap.size - Tryz.checked.prog.globals.size) (List.drop Tryz.checked.prog.globals.size ((World.laidAll Tryz.prog os Rows.amsNilRow.laid).forCall (fun _ _ => 0) { blocks := #[], args := #[Value.string ByteArray.empty, Value.int IntKind.i32 0] }).heap.toList) = List.drop Tryz.checked.prog.globals.size (begin Tryz.checked.prog (fun _ _ => 0) default).world.heap.toList := by
  rw [laidAll_of (heap_size os) lay_list]
  kernel_rfl
end Go.Proofs.YtfpngbjjogionaaGreatDoor.amsNil
/- Closed facts of the witness of AmsNil's row, each by the kernel. -/
namespace Go.Proofs.YtfpngbjjogionaaGreatDoor.amsNil
open Go.Eng Go.ChangeShapes Go.WideShapes Go.ChangeAt Go.RowKit Go.ChangeMaps
set_option maxRecDepth 100000 in
theorem w4 (os : Os) : Input.okWideB Tryz.checked.prog ((World.laidAll Tryz.prog os Rows.amsNilRow.laid).forCall (fun _ _ => 0) { blocks := #[], args := #[Value.string ByteArray.empty, Value.int IntKind.i32 0] }) 3 { blocks := #[], args := #[Value.string ByteArray.empty, Value.int IntKind.i32 0] } = true := by kernel_rfl
set_option maxRecDepth 100000 in
theorem w8 (os : Os) : World.layFits Tryz.prog (World.holding Tryz.prog os { blocks := #[], args := #[] }) Rows.amsNilRow.laid [] = true := by
  exact layFits_of (heap_size os) lay_list (by kernel_rfl) (by kernel_rfl) (by kernel_rfl)
end Go.Proofs.YtfpngbjjogionaaGreatDoor.amsNil
/- Closed facts of the witness of AmsNil's row, each by the kernel. -/
namespace Go.Proofs.YtfpngbjjogionaaGreatDoor.amsNil
open Go.Eng Go.ChangeShapes Go.WideShapes Go.ChangeAt Go.RowKit Go.ChangeMaps
set_option maxRecDepth 100000 in
theorem w5 (os : Os) (H : Type) (enc : TypeId × Value → H) : ChangeSpec.preB enc Tryz.checked.prog Tryz.f3 Rows.amsNilSpec [] false ((World.laidAll Tryz.prog os Rows.amsNilRow.laid).forCall (fun _ _ => 0) { blocks := #[], args := #[Value.string ByteArray.empty, Value.int IntKind.i32 0] }).memory #[Value.string ByteArray.empty, Value.int IntKind.i32 0] 8 = true := by kernel_rfl
end Go.Proofs.YtfpngbjjogionaaGreatDoor.amsNil
/- Closed facts of the witness of AmsNil's row, each by the kernel. -/
namespace Go.Proofs.YtfpngbjjogionaaGreatDoor.amsNil
open Go.Eng Go.ChangeShapes Go.WideShapes Go.ChangeAt Go.RowKit Go.ChangeMaps
set_option maxRecDepth 100000 in
theorem w6 (os : Os) (H : Type) (enc : TypeId × Value → H) : ChangeSpec.sizedB enc Tryz.checked.prog Tryz.f3 Rows.amsNilSpec false ((World.laidAll Tryz.prog os Rows.amsNilRow.laid).forCall (fun _ _ => 0) { blocks := #[], args := #[Value.string ByteArray.empty, Value.int IntKind.i32 0] }).memory #[Value.string ByteArray.empty, Value.int IntKind.i32 0] 8 = true := by kernel_rfl
set_option maxRecDepth 100000 in
theorem w9 (os : Os) : World.layIfaces Tryz.prog (World.holding Tryz.prog os { blocks := #[], args := #[] }) Rows.amsNilRow.laid (World.laidAll Tryz.prog os Rows.amsNilRow.laid) = true := by
  rw [laidAll_of (heap_size os) lay_list]
  exact layIfaces_of (heap_size os) lay_list (by kernel_rfl) (by kernel_rfl)
end Go.Proofs.YtfpngbjjogionaaGreatDoor.amsNil
