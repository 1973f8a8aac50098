/- The sentinels' type, and how the row's variables are laid. -/
import Derived.Test.YtfpngbjjogionaaGreatDoorRowY1
import Derived.Test.YtfpngbjjogionaaGreatDoorRowY2
import Derived.Test.YtfpngbjjogionaaGreatDoorJfV
import Derived.Lay
import Derived.JoinedOf
namespace Go.Proofs.YtfpngbjjogionaaGreatDoor.amsNil
open Go
set_option maxRecDepth 1000000 in
theorem yk : (fun u => Tryz.prog.typeName? 3 u == some "*errors.errorString") 773 = true := by kernel_rfl
set_option maxRecDepth 1000000 in
theorem types_size : Tryz.prog.types.size = 864 := by kernel_rfl
theorem chunk {p : Nat → Bool} {c a : Nat} (h : ((List.range c).all fun j => !p (j + a)) = true) (j : Nat) (h1 : a ≤ j) (h2 : j < a + c) : p j = false := by
  have := List.all_eq_true.1 h (j - a) (List.mem_range.2 (by omega))
  rw [show j - a + a = j by omega] at this
  cases e : p j with
  | false => rfl
  | true => rw [e] at this; cases this
theorem early (j : Nat) (h : j < 773) : (fun u => Tryz.prog.typeName? 3 u == some "*errors.errorString") j = false := by
  rcases Nat.lt_or_ge j 97 with h0 | h0
  · exact chunk (p := (fun u => Tryz.prog.typeName? 3 u == some "*errors.errorString")) y0 j (by omega) (by omega)
  rcases Nat.lt_or_ge j 194 with h1 | h1
  · exact chunk (p := (fun u => Tryz.prog.typeName? 3 u == some "*errors.errorString")) y1 j (by omega) (by omega)
  rcases Nat.lt_or_ge j 291 with h2 | h2
  · exact chunk (p := (fun u => Tryz.prog.typeName? 3 u == some "*errors.errorString")) y2 j (by omega) (by omega)
  rcases Nat.lt_or_ge j 388 with h3 | h3
  · exact chunk (p := (fun u => Tryz.prog.typeName? 3 u == some "*errors.errorString")) y3 j (by omega) (by omega)
  rcases Nat.lt_or_ge j 485 with h4 | h4
  · exact chunk (p := (fun u => Tryz.prog.typeName? 3 u == some "*errors.errorString")) y4 j (by omega) (by omega)
  rcases Nat.lt_or_ge j 582 with h5 | h5
  · exact chunk (p := (fun u => Tryz.prog.typeName? 3 u == some "*errors.errorString")) y5 j (by omega) (by omega)
  rcases Nat.lt_or_ge j 679 with h6 | h6
  · exact chunk (p := (fun u => Tryz.prog.typeName? 3 u == some "*errors.errorString")) y6 j (by omega) (by omega)
  exact chunk (p := (fun u => Tryz.prog.typeName? 3 u == some "*errors.errorString")) y7 j (by omega) (by omega)
theorem find_of {p : Nat → Bool} {k : Nat} (hp : p k = true) (h : ∀ j, j < k → p j = false) : ∀ n, k < n → (List.range n).find? p = some k
  | 0, hk => absurd hk (Nat.not_lt_zero _)
  | n + 1, hk => by
    rw [List.range_succ, List.find?_append]
    by_cases e : k < n
    · rw [find_of hp h n e]; rfl
    · obtain rfl : k = n := by omega
      have : (List.range k).find? p = none := List.find?_eq_none.2 fun j hj => by rw [h j (List.mem_range.1 hj)]; simp
      rw [this]
      simp [hp]
theorem found : (List.range Tryz.prog.types.size).find? (fun u => Tryz.prog.typeName? 3 u == some "*errors.errorString") = some 773 := by
  rw [types_size]
  exact find_of (p := (fun u => Tryz.prog.typeName? 3 u == some "*errors.errorString")) yk early 864 (by omega)
noncomputable def layOf (t n : Nat) (d : DataW Unit) : List Value × List Obj := (DataW.lay Tryz.prog t n d).getD ([], [])
theorem layOf_eq {t n : Nat} {d : DataW Unit} (h : (DataW.lay Tryz.prog t n d).isSome = true) : DataW.lay Tryz.prog t n d = some (layOf t n d) := by
  unfold layOf
  cases e : DataW.lay Tryz.prog t n d with
  | none => rw [e] at h; cases h
  | some y => rfl
theorem layList_cons {P : Program} {n : Nat} {x : String × DataW Unit} {r : List (String × DataW Unit)} {g : Nat} {t : TypeId} {y : List Value × List Obj} {z : List (Nat × List Value) × List Obj} (h1 : P.globalNamed x.1 = some g) (h2 : (P.globals[g]?).map (·.type) = some t)
    (h3 : x.2.lay P t n = some y) (h4 : Lay.layList P (n + y.2.length) r = some z) : Lay.layList P n (x :: r) = some ((g, y.1) :: z.1, y.2 ++ z.2) := by
  obtain ⟨gl, hg, rfl⟩ := Option.map_eq_some_iff.1 h2
  simp only [Lay.layList, h1, hg, h3, h4]
set_option maxRecDepth 1000000 in
theorem lay_strconv_ErrSyntax (n : Nat) : DataW.lay Tryz.prog 114 n Rows.laid_strconv_ErrSyntax = some ([.iface 773 (.pointer (some ⟨n, 0, none⟩))], [.cells #[.string ⟨#[105, 110, 118, 97, 108, 105, 100, 32, 115, 121, 110, 116, 97, 120]⟩] 775 (0, 0)]) := by
  unfold Rows.laid_strconv_ErrSyntax
  rw [DataW.lay, found]
  kernel_rfl
set_option maxRecDepth 1000000 in
theorem lay_strconv_ErrRange (n : Nat) : DataW.lay Tryz.prog 114 n Rows.laid_strconv_ErrRange = some ([.iface 773 (.pointer (some ⟨n, 0, none⟩))], [.cells #[.string ⟨#[118, 97, 108, 117, 101, 32, 111, 117, 116, 32, 111, 102, 32, 114, 97, 110, 103, 101]⟩] 775 (0, 0)]) := by
  unfold Rows.laid_strconv_ErrRange
  rw [DataW.lay, found]
  kernel_rfl
noncomputable def z7 (_ : Nat) : List (Nat × List Value) × List Obj := ([], [])
theorem ll7 (n : Nat) : Lay.layList Tryz.prog n [] = some (z7 n) := rfl
noncomputable def z6 (n : Nat) : List (Nat × List Value) × List Obj := ((7, (layOf 776 n Rows.laid_math_bits_deBruijn64tab).1) :: (z7 (n + (layOf 776 n Rows.laid_math_bits_deBruijn64tab).2.length)).1, (layOf 776 n Rows.laid_math_bits_deBruijn64tab).2 ++ (z7 (n + (layOf 776 n Rows.laid_math_bits_deBruijn64tab).2.length)).2)
set_option maxRecDepth 1000000 in
theorem ll6 (n : Nat) : Lay.layList Tryz.prog n [("math/bits.deBruijn64tab", Rows.laid_math_bits_deBruijn64tab)] = some (z6 n) :=
  layList_cons (y := (layOf 776 n Rows.laid_math_bits_deBruijn64tab)) (by kernel_rfl) (t := 776) (by kernel_rfl) (layOf_eq (by kernel_rfl)) (ll7 _)
noncomputable def z5 (n : Nat) : List (Nat × List Value) × List Obj := ((6, (layOf 26 n Rows.laid_math_bits_deBruijn32tab).1) :: (z6 (n + (layOf 26 n Rows.laid_math_bits_deBruijn32tab).2.length)).1, (layOf 26 n Rows.laid_math_bits_deBruijn32tab).2 ++ (z6 (n + (layOf 26 n Rows.laid_math_bits_deBruijn32tab).2.length)).2)
set_option maxRecDepth 1000000 in
theorem ll5 (n : Nat) : Lay.layList Tryz.prog n [("math/bits.deBruijn32tab", Rows.laid_math_bits_deBruijn32tab), ("math/bits.deBruijn64tab", Rows.laid_math_bits_deBruijn64tab)] = some (z5 n) :=
  layList_cons (y := (layOf 26 n Rows.laid_math_bits_deBruijn32tab)) (by kernel_rfl) (t := 26) (by kernel_rfl) (layOf_eq (by kernel_rfl)) (ll6 _)
noncomputable def z4 (n : Nat) : List (Nat × List Value) × List Obj := ((3, (layOf 637 n Rows.laid_internal_strconv_uint64pow10).1) :: (z5 (n + (layOf 637 n Rows.laid_internal_strconv_uint64pow10).2.length)).1, (layOf 637 n Rows.laid_internal_strconv_uint64pow10).2 ++ (z5 (n + (layOf 637 n Rows.laid_internal_strconv_uint64pow10).2.length)).2)
set_option maxRecDepth 1000000 in
theorem ll4 (n : Nat) : Lay.layList Tryz.prog n [("internal/strconv.uint64pow10", Rows.laid_internal_strconv_uint64pow10), ("math/bits.deBruijn32tab", Rows.laid_math_bits_deBruijn32tab), ("math/bits.deBruijn64tab", Rows.laid_math_bits_deBruijn64tab)] = some (z4 n) :=
  layList_cons (y := (layOf 637 n Rows.laid_internal_strconv_uint64pow10)) (by kernel_rfl) (t := 637) (by kernel_rfl) (layOf_eq (by kernel_rfl)) (ll5 _)
noncomputable def z3 (n : Nat) : List (Nat × List Value) × List Obj := ((5, ([Value.iface 773 (.pointer (some ⟨n, 0, none⟩))], [Obj.cells #[.string ⟨#[118, 97, 108, 117, 101, 32, 111, 117, 116, 32, 111, 102, 32, 114, 97, 110, 103, 101]⟩] 775 (0, 0)]).1) :: (z4 (n + ([Value.iface 773 (.pointer (some ⟨n, 0, none⟩))], [Obj.cells #[.string ⟨#[118, 97, 108, 117, 101, 32, 111, 117, 116, 32, 111, 102, 32, 114, 97, 110, 103, 101]⟩] 775 (0, 0)]).2.length)).1, ([Value.iface 773 (.pointer (some ⟨n, 0, none⟩))], [Obj.cells #[.string ⟨#[118, 97, 108, 117, 101, 32, 111, 117, 116, 32, 111, 102, 32, 114, 97, 110, 103, 101]⟩] 775 (0, 0)]).2 ++ (z4 (n + ([Value.iface 773 (.pointer (some ⟨n, 0, none⟩))], [Obj.cells #[.string ⟨#[118, 97, 108, 117, 101, 32, 111, 117, 116, 32, 111, 102, 32, 114, 97, 110, 103, 101]⟩] 775 (0, 0)]).2.length)).2)
set_option maxRecDepth 1000000 in
theorem ll3 (n : Nat) : Lay.layList Tryz.prog n [("strconv.ErrRange", Rows.laid_strconv_ErrRange), ("internal/strconv.uint64pow10", Rows.laid_internal_strconv_uint64pow10), ("math/bits.deBruijn32tab", Rows.laid_math_bits_deBruijn32tab), ("math/bits.deBruijn64tab", Rows.laid_math_bits_deBruijn64tab)] = some (z3 n) :=
  layList_cons (y := ([Value.iface 773 (.pointer (some ⟨n, 0, none⟩))], [Obj.cells #[.string ⟨#[118, 97, 108, 117, 101, 32, 111, 117, 116, 32, 111, 102, 32, 114, 97, 110, 103, 101]⟩] 775 (0, 0)])) (by kernel_rfl) (t := 114) (by kernel_rfl) (lay_strconv_ErrRange n) (ll4 _)
noncomputable def z2 (n : Nat) : List (Nat × List Value) × List Obj := ((4, ([Value.iface 773 (.pointer (some ⟨n, 0, none⟩))], [Obj.cells #[.string ⟨#[105, 110, 118, 97, 108, 105, 100, 32, 115, 121, 110, 116, 97, 120]⟩] 775 (0, 0)]).1) :: (z3 (n + ([Value.iface 773 (.pointer (some ⟨n, 0, none⟩))], [Obj.cells #[.string ⟨#[105, 110, 118, 97, 108, 105, 100, 32, 115, 121, 110, 116, 97, 120]⟩] 775 (0, 0)]).2.length)).1, ([Value.iface 773 (.pointer (some ⟨n, 0, none⟩))], [Obj.cells #[.string ⟨#[105, 110, 118, 97, 108, 105, 100, 32, 115, 121, 110, 116, 97, 120]⟩] 775 (0, 0)]).2 ++ (z3 (n + ([Value.iface 773 (.pointer (some ⟨n, 0, none⟩))], [Obj.cells #[.string ⟨#[105, 110, 118, 97, 108, 105, 100, 32, 115, 121, 110, 116, 97, 120]⟩] 775 (0, 0)]).2.length)).2)
set_option maxRecDepth 1000000 in
theorem ll2 (n : Nat) : Lay.layList Tryz.prog n [("strconv.ErrSyntax", Rows.laid_strconv_ErrSyntax), ("strconv.ErrRange", Rows.laid_strconv_ErrRange), ("internal/strconv.uint64pow10", Rows.laid_internal_strconv_uint64pow10), ("math/bits.deBruijn32tab", Rows.laid_math_bits_deBruijn32tab), ("math/bits.deBruijn64tab", Rows.laid_math_bits_deBruijn64tab)] = some (z2 n) :=
  layList_cons (y := ([Value.iface 773 (.pointer (some ⟨n, 0, none⟩))], [Obj.cells #[.string ⟨#[105, 110, 118, 97, 108, 105, 100, 32, 115, 121, 110, 116, 97, 120]⟩] 775 (0, 0)])) (by kernel_rfl) (t := 114) (by kernel_rfl) (lay_strconv_ErrSyntax n) (ll3 _)
noncomputable def z1 (n : Nat) : List (Nat × List Value) × List Obj := ((2, (layOf 635 n Rows.laid_unicode_utf8_acceptRanges).1) :: (z2 (n + (layOf 635 n Rows.laid_unicode_utf8_acceptRanges).2.length)).1, (layOf 635 n Rows.laid_unicode_utf8_acceptRanges).2 ++ (z2 (n + (layOf 635 n Rows.laid_unicode_utf8_acceptRanges).2.length)).2)
set_option maxRecDepth 1000000 in
theorem ll1 (n : Nat) : Lay.layList Tryz.prog n [("unicode/utf8.acceptRanges", Rows.laid_unicode_utf8_acceptRanges), ("strconv.ErrSyntax", Rows.laid_strconv_ErrSyntax), ("strconv.ErrRange", Rows.laid_strconv_ErrRange), ("internal/strconv.uint64pow10", Rows.laid_internal_strconv_uint64pow10), ("math/bits.deBruijn32tab", Rows.laid_math_bits_deBruijn32tab), ("math/bits.deBruijn64tab", Rows.laid_math_bits_deBruijn64tab)] = some (z1 n) :=
  layList_cons (y := (layOf 635 n Rows.laid_unicode_utf8_acceptRanges)) (by kernel_rfl) (t := 635) (by kernel_rfl) (layOf_eq (by kernel_rfl)) (ll2 _)
noncomputable def z0 (n : Nat) : List (Nat × List Value) × List Obj := ((1, (layOf 601 n Rows.laid_unicode_utf8_first).1) :: (z1 (n + (layOf 601 n Rows.laid_unicode_utf8_first).2.length)).1, (layOf 601 n Rows.laid_unicode_utf8_first).2 ++ (z1 (n + (layOf 601 n Rows.laid_unicode_utf8_first).2.length)).2)
set_option maxRecDepth 1000000 in
theorem ll0 (n : Nat) : Lay.layList Tryz.prog n [("unicode/utf8.first", Rows.laid_unicode_utf8_first), ("unicode/utf8.acceptRanges", Rows.laid_unicode_utf8_acceptRanges), ("strconv.ErrSyntax", Rows.laid_strconv_ErrSyntax), ("strconv.ErrRange", Rows.laid_strconv_ErrRange), ("internal/strconv.uint64pow10", Rows.laid_internal_strconv_uint64pow10), ("math/bits.deBruijn32tab", Rows.laid_math_bits_deBruijn32tab), ("math/bits.deBruijn64tab", Rows.laid_math_bits_deBruijn64tab)] = some (z0 n) :=
  layList_cons (y := (layOf 601 n Rows.laid_unicode_utf8_first)) (by kernel_rfl) (t := 601) (by kernel_rfl) (layOf_eq (by kernel_rfl)) (ll1 _)
theorem lay_list : Lay.layList Tryz.prog 13 Rows.amsNilRow.laid = some (z0 13) := ll0 13
set_option maxRecDepth 1000000 in
theorem heap_size (os : Os) : (World.holding Tryz.prog os { blocks := #[], args := #[] }).heap.size = 13 := by
  unfold World.holding World.settled begin
  rw [waits]
  kernel_rfl
end Go.Proofs.YtfpngbjjogionaaGreatDoor.amsNil
