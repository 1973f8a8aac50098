/- carpetbaglaw32.AmsNil: true, whatever the input. -/
import Derived.Test.YtfpngbjjogionaaGreatDoorEngM
namespace Go.Eng
open Go.Proofs Go.RowKit

def saysTrue : Option (AV × AH) → Bool
  | some (.sc (.bool b), _) => b
  | _ => false
theorem saysTrue_ok {r : Option (AV × AH)} (h : saysTrue r = true) : ∃ σ', r = some (.sc (.bool true), σ') := by
  unfold saysTrue at h
  split at h
  · subst h; exact ⟨_, rfl⟩
  · cases h

theorem run32 : saysTrue (callA envK 20000 4 [] { nx := 0, t := .lf }) = true := by kernel_rfl

theorem mixedT : Tryz.prog.follows .mixedOrders = true := by kernel_rfl

theorem fixed32 (w : World) : Calls Tryz.prog 4 #[] w fun e w' => e = .returned (.bool true) ∧ Below w.heap.size w w' := by
  obtain ⟨σ', hc⟩ := saysTrue_ok run32
  refine (call_ok (E := envK) soundK mixedT hc (us := []) .nil (w := w)).mono ?_
  rintro e w' ⟨κ, u, rfl, hv, hh⟩
  cases hv
  exact ⟨rfl, hh.bel⟩

/-! ### the law itself: the fixed run by its word -/
def hookN (f : Nat) (args : List AV) (σ : AH) : Option (AV × AH) :=
  cond (Nat.beq f 4) (match args with | [] => some (.sc (.bool true), σ) | _ => none) (hookK f args σ)

noncomputable def envN : Env := { envK with hook := hookN }

theorem soundN : Sound envN where
  tt := soundK.tt
  ft := soundK.ft
  ext := soundK.ext
  hook := fun f args σ v σ' he B w0 κ w us h hl => by
    have he2 : hookN f args σ = some (v, σ') := he
    clear he
    unfold hookN at he2
    cases h31 : Nat.beq f 4 with
    | true =>
      rw [h31, cond_true] at he2
      obtain rfl := nbeq_eq h31
      split at he2
      · cases he2
        cases hl
        refine (fixed32 w).mono ?_
        rintro e w' ⟨rfl, hb⟩
        exact ⟨κ, _, .refl κ, rfl, .sc _, h.below hb⟩
      · cases he2
    | false =>
      rw [h31, cond_false] at he2
      exact soundK.hook f args σ v σ' he2 B w0 κ w us h hl

/-! the state in which the law asks for the name's length -/
def goOf : Option AOut → Option ASt
  | some (.go s) => some s
  | _ => none
noncomputable def start (f : Nat) (args : List AV) : Option ASt :=
  match enterA envN f args with
  | some fr => some { fr, cs := [], σ := { nx := 0, t := .lf } }
  | none => none
noncomputable def mid (s : ByteArray) (a : Int) (n : Nat) : Option ASt :=
  match start 3 [.sc (.string s), .sc (.int .i32 a)] with
  | some st => goOf (runA envN n st)
  | none => none
def noState : ASt := { fr := { fn := 0, nt := 0, tm := .lf, todo := [], df := [], ret := false, rnd := none }, cs := [], σ := { nx := 0, t := .lf } }
noncomputable def midSt (s : ByteArray) (a : Int) : ASt := (mid s a 19).getD noState
def saysDone : Option AOut → Bool
  | some (.done (.sc (.bool b)) _) => b
  | _ => false
theorem saysDone_ok {r : Option AOut} (h : saysDone r = true) : ∃ σ', r = some (.done (.sc (.bool true)) σ') := by
  unfold saysDone at h
  split at h
  · subst h; exact ⟨_, rfl⟩
  · cases h

theorem mid_some (s : ByteArray) (a : Int) : (mid s a 19).isSome = true := by kernel_rfl
theorem mid_is (s : ByteArray) (a : Int) : mid s a 19 = some (midSt s a) := by
  have h := mid_some s a
  unfold midSt
  generalize mid s a 19 = r at h ⊢
  cases r with
  | none => cases h
  | some x => rfl
theorem mid_bool (s : ByteArray) (a : Int) : (boolAt (midSt s a) 24).isSome = true := by kernel_rfl
theorem rest_is (s : ByteArray) (a : Int) : ∀ b, saysDone (runA envN 2000 (withBool (midSt s a) 24 b)) = true
  | true => by kernel_rfl
  | false => by kernel_rfl

theorem mid_run {s : ByteArray} {a : Int} {n : Nat} {st : ASt} (h : mid s a n = some st) :
    ∃ fr, enterA envN 3 [.sc (.string s), .sc (.int .i32 a)] = some fr ∧ runA envN n { fr, cs := [], σ := { nx := 0, t := .lf } } = some (.go st) := by
  unfold mid start at h
  split at h
  · rename_i x hx
    split at hx
    · rename_i fr hfr
      cases hx
      refine ⟨fr, hfr, ?_⟩
      generalize runA envN n _ = r at h ⊢
      unfold goOf at h
      split at h
      · cases h; rfl
      · cases h
    · cases hx
  · cases h

theorem amsNil (s : ByteArray) (a : Int) (w : World) : Calls Tryz.prog 3 #[.string s, .int .i32 a] w fun e w' => e = .returned (.bool true) ∧ Below w.heap.size w w' := by
  obtain ⟨fr, h1, h2⟩ := mid_run (mid_is s a)
  obtain ⟨b, hb⟩ := Option.isSome_iff_exists.1 (mid_bool s a)
  obtain ⟨σ', h3⟩ := saysDone_ok (rest_is s a b)
  refine (call2_ok (E := envN) soundN mixedT h1 h2 (fun h => h.withBool hb) h3 (us := [.string s, .int .i32 a]) (.cons (.sc _) (.cons (.sc _) .nil)) (w := w)).mono ?_
  rintro e w' ⟨κ, u, rfl, hv, hh⟩
  cases hv
  exact ⟨rfl, hh.bel⟩
end Go.Eng
