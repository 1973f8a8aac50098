/- carpetbaglaw32.AmsNil returns true for every string and every int32; what it lists is tied to the program's text. -/
import Derived.Test.YtfpngbjjogionaaGreatDoorRowC
import Derived.Test.YtfpngbjjogionaaGreatDoorOwnTie
import Derived.Test.YtfpngbjjogionaaGreatDoorCards
namespace Go.Proofs.YtfpngbjjogionaaGreatDoor.amsNil
open Go.ChangeShapes Go.WideShapes Go.ChangeAt Go.RowKit Go.ChangeMaps

theorem looksIs : Tryz.pinned.checked.prog.looks [] = true := by kernel_rfl
theorem named : Tryz.prog.funcNamed "carpetbag/carpetbaglaw32.AmsNil" = some 3 := by kernel_rfl
theorem want9 : Tryz.prog.wantsStandIn 9 = false := by kernel_rfl
theorem want21 : Tryz.prog.wantsStandIn 21 = false := by kernel_rfl

/-- No parameter wants a stand-in; the program's own looks are on: what the card asks. -/
theorem plain (f : FuncId) (fn : Func) (hf : Tryz.pinned.checked.prog.funcNamed "carpetbag/carpetbaglaw32.AmsNil" = some f) (hfn : Tryz.pinned.checked.prog.funcs[f]? = some fn) :
    true = Tryz.pinned.checked.prog.looks [] ∧ ∀ (j : Nat) t, fn.params[j]? = some t → Tryz.pinned.checked.prog.wantsStandIn t = false := by
  obtain rfl : f = 3 := Option.some.inj (named.symm.trans hf) |>.symm
  obtain rfl : fn = Tryz.f3 := (Option.some.inj (Tryz.func3.symm.trans hfn)).symm
  refine ⟨looksIs.symm, fun j t ht => ?_⟩
  rw [Tryz.params3] at ht
  rcases (by simpa using Array.mem_of_getElem? ht : t = 9 ∨ t = 21) with rfl | rfl
  · exact want9
  · exact want21

theorem goes_of {P : Program} {f : FuncId} (h : P.funcs.any Func.goes = false) : P.goes f = false := by
  unfold Program.goes
  rw [h, Bool.and_false, Bool.or_false, List.any_eq_false]
  intro g _
  cases e : P.funcs[g]? with
  | none => simp
  | some fn =>
    intro k
    have hm : fn ∈ P.funcs := Array.mem_of_getElem? e
    exact (Array.any_eq_false'.1 h fn hm) k
theorem byText : OpenClaim.wfByText (OpenSpec.ofChange Rows.amsNilSpec) Rows.amsNilRow = true := by kernel_rfl
theorem mainIs : Tryz.pinned.checked.prog.mainIs = some ((Rows.amsNilCard.stood.harness).fst, (Rows.amsNilCard.stood.harness).snd.toList) := by kernel_rfl
theorem noGoes : Tryz.prog.funcs.any Func.goes = false := by kernel_rfl
theorem goesFalse : Tryz.pinned.checked.prog.goes 3 = false := goes_of (P := Tryz.prog) noGoes
theorem namedP : Tryz.pinned.checked.prog.funcNamed Rows.amsNilRow.func = some 3 := named
set_option maxRecDepth 100000 in
theorem goesBy : false = Rows.amsNilRow.goesBy Tryz.pinned.checked.prog := by
  unfold OpenClaim.goesBy Program.goesAt Program.goesFrom
  rw [namedP, Option.any_some, goesFalse]
  rfl

/-- THE CARD. -/
theorem card : Rows.AmsNilCardSaid :=
  Claim7.holds_tied_plain_at .later [] _ _ _ _ said (fun _ h => by cases h) byText (fun _ h => by cases h) amsNil_row_tie rfl ⟨rfl, rfl⟩ mainIs rfl plain goesBy
end Go.Proofs.YtfpngbjjogionaaGreatDoor.amsNil
