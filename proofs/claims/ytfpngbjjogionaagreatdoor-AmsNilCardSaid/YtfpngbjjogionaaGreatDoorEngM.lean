/- The engine over the program: its environment, and that it is sound. -/
import Derived.Test.YtfpngbjjogionaaGreatDoorEngT
namespace Go.Eng
open Go.Proofs Go.RowKit

def extK (f : Nat) (args : List AV) : Option Value :=
  match args with
  | [.sc (.string s), .sc (.int .u8 c)] =>
    cond (Nat.beq f 370) (some (.int .i64 (Lib.countByte s.data.toList c.toNat.toUInt8)))
      (cond (Nat.beq f 467) (some (.int .i64 (Lib.indexByte s.data.toList c.toNat.toUInt8))) none)
  | _ => none

def hookK (f : Nat) (args : List AV) (σ : AH) : Option (AV × AH) :=
  cond (Nat.beq f 30) (hookNew args σ) (cond (Nat.beq f 250) (hookIdx args σ) none)

noncomputable def envK : Env := { P := Tryz.prog, TT := tyTree.get, FT := fiTree.get, hook := hookK, ext := extK }

theorem extK_ok (f : Nat) (args : List AV) (v : Value) (he : extK f args = some v) (κ : K) (us : List Value) (w : World) (hl : VRL κ args us) : (callFunc f us.toArray).run Tryz.prog w = .ok (.value v) w := by
  unfold extK at he
  split at he
  · rename_i s c
    cases hl with
    | cons h1 hl =>
    cases hl with
    | cons h2 hl =>
    cases hl
    cases h1; cases h2
    cases hCS : Nat.beq f 370 with
    | true =>
      rw [hCS, cond_true] at he
      cases he
      obtain rfl := nbeq_eq hCS
      rw [run_callFunc_extern Tryz.func370 (by kernel_rfl) (by kernel_rfl) (by kernel_rfl) (e := Extern.BytealgCount.count) (by kernel_rfl), Lib.run_countString]
      rfl
    | false =>
      rw [hCS, cond_false] at he
      obtain ⟨hIB, he⟩ := cond_none he
      cases he
      obtain rfl := nbeq_eq hIB
      rw [run_callFunc_extern Tryz.func467 (by kernel_rfl) (by kernel_rfl) (by kernel_rfl) (e := Extern.BytealgIndexByte.indexByte) (by kernel_rfl), Lib.run_indexByteString]
      rfl
  · cases he

theorem soundK : Sound envK where
  tt := fun t ti h => tyList_ok _ (Tr.build_mem (show (Tr.build tyList).get t = some ti from tyTree_build ▸ h))
  ft := fun f fi h => fiList_ok _ (Tr.build_mem (show (Tr.build fiList).get f = some fi from fiTree_build ▸ h))
  ext := fun f args v _ he κ us w hl => extK_ok f args v he κ us w hl
  hook := fun f args σ v σ' he B w0 κ w us h hl => by
    have he : hookK f args σ = some (v, σ') := he
    unfold hookK at he
    cases hN : Nat.beq f 30 with
    | true =>
      rw [hN, cond_true] at he
      obtain rfl := nbeq_eq hN
      exact hookNew_ok he h hl
    | false =>
      rw [hN, cond_false] at he
      obtain ⟨hI, he⟩ := cond_none he
      obtain rfl := nbeq_eq hI
      exact hookIdx_ok he h hl
end Go.Eng
