/-
  DERIVED. GIVEN WITH THE SEED: THE CARDS: each row of YtfpngbjjogionaaGreatDoorRows.lean that lists a variable, with what it lists TIED to the program's text (the seventh form; the later family's looks); each row that meets fmt, with fmt's text TOLD by the authors' own Lean function (tested against real Go, not proved from fmt's source: count such statements apart). THE CARD IS WHAT COUNTS. Prove the row's statement (the work); the ties are given (YtfpngbjjogionaaGreatDoorTie.lean); close each card by the builder's one call (the guide's Derived/Test/ToyasCard.lean, 'card_holds'). Laid BY PROGRAM, IN A SANDBOX (cutbox-door.mjs). By AI agents, Wed Nov 11 2026. No macro, syntax, notation, axiom, sorry.
-/
import Derived.Test.YtfpngbjjogionaaGreatDoorRows
import GoSem.ClaimSeven
namespace Go.Proofs.YtfpngbjjogionaaGreatDoor
namespace Rows

/-- THE TIED CARD OF 'carpetbaglaw32.AmsNil'. -/
def amsNilCard : Claim7 := { stood := { row := amsNilRow, standIns := [], harness := (true, "4f1801fc7752d40bfda993b0860d2e511f768d2afa5e306cae6bb10ac3eb3301"), looks := true }, kinds := [], alts := [], laidByText := true, laidKinds := [.pinned, .data, .sentinel, .sentinel, .data, .data, .data], laidTests := true, laidLooks := .later }
def AmsNilCardSaid : Prop := Claim7.holds Tryz.pinned (.plain (OpenSpec.ofChange amsNilSpec)) amsNilCard

/-- THE SECOND FORM's CARD OF 'carpetbaglaw32.AmsNil'. -/
def amsNilUptoCard : Claim7 := { stood := { row := amsNilUptoRow, standIns := [], harness := (true, "4f1801fc7752d40bfda993b0860d2e511f768d2afa5e306cae6bb10ac3eb3301"), looks := true }, kinds := [], alts := [], laidByText := true, laidKinds := [.pinned, .data, .sentinel, .sentinel, .data, .data, .data], laidTests := true, laidLooks := .later }
def AmsNilUptoCardSaid : Prop := Claim7.holds Tryz.pinned (.plain (OpenSpec.upto amsNilSpec)) amsNilUptoCard
end Rows
end Go.Proofs.YtfpngbjjogionaaGreatDoor
