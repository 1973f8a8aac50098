/- The closure of a function, over a table of what each function leads to. -/
import Derived.JoinedOf
namespace Go.ClosT
open Go
def clos (lead : Nat → List Nat) : Nat → List Nat → List Nat → Nat → List Nat
  | 0, _, seen, _ => seen.reverse
  | _ + 1, [], seen, _ => seen.reverse
  | n + 1, f :: todo, seen, bits => cond (Nat.testBit bits f) (clos lead n todo seen bits) (clos lead n (lead f ++ todo) (f :: seen) (bits ||| 2 ^ f))

theorem clos_eq {P : Program} {lead : Nat → List Nat} (h : ∀ g, (P.funcs[g]?).elim [] P.leadsTo = lead g) : ∀ (n : Nat) (todo seen : List Nat) (bits : Nat), (∀ g, Nat.testBit bits g = seen.contains g) →
    P.closureVia n todo seen = clos lead n todo seen bits
  | 0, _, _, _, _ => by simp [Program.closureVia, clos]
  | n + 1, [], _, _, _ => by simp [Program.closureVia, clos]
  | n + 1, f :: todo, seen, bits, hb => by
    simp only [Program.closureVia, clos, h]
    rw [← hb f]
    cases hf : Nat.testBit bits f with
    | true => simpa using clos_eq h n todo seen bits hb
    | false =>
      simp only [Bool.false_eq_true, if_false, cond_false]
      refine clos_eq h n _ (f :: seen) _ fun g => ?_
      rw [Nat.testBit_or, hb g, Nat.testBit_two_pow]
      simp only [List.contains_cons]
      rw [Bool.or_comm]
      congr 1
      by_cases e : f = g
      · subst e; simp
      · simp [e, Ne.symm e]
end Go.ClosT
