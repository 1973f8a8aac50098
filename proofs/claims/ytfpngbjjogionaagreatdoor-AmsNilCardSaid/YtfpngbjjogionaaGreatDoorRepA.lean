/- bytes.Repeat of one byte: a fresh slice of n such bytes. -/
import Derived.Test.YtfpngbjjogionaaGreatDoorProg
import Derived.Shelf.Bits.Mul64
import Derived.Lib.MakeNoZero
import Derived.Laws.CopyOwn
import Derived.Deep.RegionLaw
import Derived.Deep.LoopGhost
import Derived.WalkKit
import Derived.Lib.Walk
import Derived.Deep.Draws
import Derived.Laws.Externs
import Derived.Shelf.RegionOpenPlain
namespace Go.Proofs
open Go.Shelf Go.RowKit Go.Lib

def Tryz.l212_ren : Go.Shelf.Ren := ⟨fun | 212 => 151 | 263 => 262 | 264 => 263 | n => n, fun | 46 => 118 | 51 => 37 | 146 => 397 | 53 => 88 | 148 => 399 | n => n, fun | n => n⟩
theorem Tryz.l212 : Lays.n212 Tryz.prog Tryz.l212_ren where
  mixed := by kernel_rfl
  f212 := Tryz.func151.trans (congrArg some (by kernel_rfl))
  f263 := Tryz.func262.trans (congrArg some (by kernel_rfl))
  f264 := Tryz.func263.trans (congrArg some (by kernel_rfl))
  t46 := Tryz.underlying118
  a46 := Tryz.isAgg118
  z46 := Tryz.sizeOf118
  v46 := Tryz.zeroValue118
  t51 := Tryz.underlying37
  a51 := Tryz.isAgg37
  z51 := Tryz.sizeOf37
  v51 := Tryz.zeroValue37
  t53 := Tryz.underlying88
  a53 := Tryz.isAgg88
  z53 := Tryz.sizeOf88
  v53 := Tryz.zeroValue88
  t146 := Tryz.underlying397
  a146 := Tryz.isAgg397
  z146 := Tryz.sizeOf397
  v146 := Tryz.zeroValue397
  t148 := Tryz.underlying399
  a148 := Tryz.isAgg399
  z148 := Tryz.sizeOf399
  v148 := Tryz.zeroValue399

/-- the buffer h, filled by x up to j -/
structure RepB (w0 wr : World) (x : Int) (n j : Nat) : Prop where
  below : Below w0.heap.size w0 wr
  row : ∃ arr : Array Value, wr.heap[w0.heap.size]? = some (.cells arr 5 (0, 0)) ∧ n ≤ arr.size ∧ ∀ i, i < j → arr[i]? = some (.int .u8 x)

theorem RepB.copy {P : Program} (w0 wr : World) (x : Int) (n j d : Nat) (hb : RepB w0 wr x n j) (hd : d ≤ j) (hj : j < n) (t ty : TypeId) (hu : P.underlying t = some (.slice 5)) (hs : (P.info? 5).map (·.size) = some 1) (sc : Nat) :
    ∃ wr', (Builtin.copy_ #[t, t] ty #[.slice (some ⟨w0.heap.size, j, none⟩) (n - j) (n - j), .slice (some ⟨w0.heap.size, 0, none⟩) d sc]).run P wr = .ok (.int .i64 ((min d (n - j) : Nat) : Int)) wr' ∧ RepB w0 wr' x n (j + min d (n - j)) := by
  obtain ⟨hbl, arr, hg, hn, hx⟩ := hb
  have hr := run_copy_row (P := P) wr t t ty 5 w0.heap.size j (n - j) (n - j) ⟨w0.heap.size, 0, none⟩ d sc arr 5 (List.replicate (min d (n - j)) (.int .u8 x)) hu hs hg (by rw [List.length_replicate])
    (fun i v hi => by
      have hi' : i < min d (n - j) := by
        rcases Nat.lt_or_ge i (min d (n - j)) with h | h
        · exact h
        · rw [List.getElem?_eq_none (by simpa using h)] at hi; cases hi
      rw [List.getElem?_replicate, if_pos hi'] at hi
      cases hi
      have : (⟨w0.heap.size, 0, none⟩ : Addr).add i = ⟨w0.heap.size, i, none⟩ := by unfold Addr.add; split <;> simp_all
      rw [this]
      simp [World.cell?, hg, hx i (by omega)])
    (by rw [List.length_replicate]; omega) (fun v hv => by rw [List.eq_of_mem_replicate hv]; rfl)
  rw [List.length_replicate] at hr
  refine ⟨_, hr, below_setRow hbl (Nat.le_refl _) _, _, setRow_heap wr w0.heap.size _ _ 5 _ hg, ?_, ?_⟩
  · simp only [List.size_toArray, List.length_append, List.length_take, List.length_replicate, List.length_drop, Array.length_toList]; omega
  · intro i hi
    rw [List.getElem?_toArray, List.append_assoc]
    by_cases h1 : i < j
    · rw [List.getElem?_append_left (by simp; omega), List.getElem?_take, if_pos h1]
      simpa using hx i h1
    · rw [List.getElem?_append_right (by simp; omega)]
      have hl : (List.take j arr.toList).length = j := by simp; omega
      rw [hl, List.getElem?_append_left (by simp; omega), List.getElem?_replicate, if_pos (by omega)]

theorem Rep.wp_copy {P : Program} (w : World) {o : Oper} {a : Act} {K : Act → World → Prop} {Q : Exit → Act → World → Prop} (d s : Operand) (t t' : TypeId)
    (ho : o.op = .call { callee := .builtin .copy, args := #[d, s], argTypes := #[t, t'] }) (v u : Value) (hd : a.eval d = v) (hs : a.eval s = u) {v' : Value} {w' : World}
    (hr : (Builtin.copy_ #[t, t'] o.type #[v, u]).run P w = .ok v' w') (h : K (a.put o.dst v') w') : o.wp P a w K Q := by
  unfold Oper.wp execOp
  simp only [ho, resolve, invoke, builtin, Sem.run_bind, Sem.run_pure, Result.andThen_ok, List.map_toArray, List.map_cons, List.map_nil, hd, hs, hr]
  exact h
theorem Rep.wpList_copy {P : Program} (w : World) {ops : Array Oper} {rest : List Oper} {o : Oper} {a : Act} {Q : Exit → Act → World → Prop} (hgd : o.guard = none) (d s : Operand) (t t' : TypeId)
    (ho : o.op = .call { callee := .builtin .copy, args := #[d, s], argTypes := #[t, t'] }) (v u : Value) (hd : a.eval d = v) (hs : a.eval s = u) {v' : Value} {w' : World}
    (hr : (Builtin.copy_ #[t, t'] o.type #[v, u]).run P w = .ok v' w') (h : wpList P ops Q rest (a.put o.dst v') w') : wpList P ops Q (o :: rest) a w :=
  wpList_plain hgd fun _ hK => Rep.wp_copy w d s t t' ho v u hd hs hr (hK _ _ h)
theorem Rep.step_copy {P : Program} (w : World) {ops : Array Oper} {o : Oper} {a : Act} {K : Act → World → Prop} {Q : Exit → Act → World → Prop} {E : Prop} (hgd : o.guard = none) (d s : Operand) (t t' : TypeId)
    (ho : o.op = .call { callee := .builtin .copy, args := #[d, s], argTypes := #[t, t'] }) (v u : Value) (hd : a.eval d = v) (hs : a.eval s = u) {v' : Value} {w' : World}
    (hr : (Builtin.copy_ #[t, t'] o.type #[v, u]).run P w = .ok v' w') (h : K (a.put o.dst v') w') : if Region.wanted o (yielded ops a.tmps) = true then o.wp P a w K Q else E := by
  have hw : Region.wanted o (yielded ops a.tmps) = true := by simp [Region.wanted, hgd]
  rw [if_pos hw]
  exact Rep.wp_copy w d s t t' ho v u hd hs hr h

theorem Rep.run_copy1 {P : Program} (w0 wr : World) (x : Int) (n b o c : Nat) (hb : RepB w0 wr x n 0) (hn : 1 ≤ n) (t ty : TypeId) (hu : P.underlying t = some (.slice 5)) (hs : (P.info? 5).map (·.size) = some 1) (hc : wr.cell? ⟨b, o, none⟩ = some (.int .u8 x)) :
    ∃ wr', (Builtin.copy_ #[t, t] ty #[.slice (some ⟨w0.heap.size, 0, none⟩) n n, .slice (some ⟨b, o, none⟩) 1 c]).run P wr = .ok (.int .i64 1) wr' ∧ RepB w0 wr' x n 1 := by
  obtain ⟨hbl, arr, hg, hn', hx⟩ := hb
  have hr := run_copy_row (P := P) wr t t ty 5 w0.heap.size 0 n n ⟨b, o, none⟩ 1 c arr 5 [.int .u8 x] hu hs hg (Nat.min_eq_left hn).symm
    (fun i v hi => by
      cases i with
      | zero =>
        simp at hi; subst hi
        have : (⟨b, o, none⟩ : Addr).add 0 = ⟨b, o, none⟩ := by unfold Addr.add; simp
        rw [this]; exact hc
      | succ i => simp at hi)
    (by simp; omega) (fun v hv => by simp at hv; subst hv; rfl)
  refine ⟨_, hr, below_setRow hbl (Nat.le_refl _) _, _, setRow_heap wr w0.heap.size _ _ 5 _ hg, ?_, ?_⟩
  · simp only [List.size_toArray, List.length_append, List.length_take, List.length_drop, Array.length_toList, List.length_cons, List.length_nil]; omega
  · intro i hi
    obtain rfl : i = 0 := by omega
    rw [List.getElem?_toArray]
    simp

end Go.Proofs
/- bytes.Repeat of one byte, walked. -/
namespace Go.Proofs
open Go.Shelf Go.RowKit Go.Lib

theorem Tryz.mul_any (x y : Nat) (hx : x < 18446744073709551616) (hy : y < 18446744073709551616) (w : World) :
    Calls Tryz.prog 151 #[.int .u64 x, .int .u64 y] w fun e w' => e = .returned (.tuple #[.int .u64 ((x * y / 18446744073709551616 : Nat) : Int), .int .u64 ((x * y % 18446744073709551616 : Nat) : Int)]) ∧ w' = w :=
  Any.bits_Mul Tryz.l212 x y hx hy w

theorem Tryz.mul_one (n : Nat) (hn : n ≤ 140737488355328) (w : World) :
    Calls Tryz.prog 151 #[.int .u64 1, .int .u64 (n : Int)] w fun e w' => e = .returned (.tuple #[.int .u64 0, .int .u64 (n : Int)]) ∧ w = w' := by
  refine (Tryz.mul_any 1 n (by omega) (by omega) w).mono ?_
  rintro e w' ⟨rfl, rfl⟩
  refine ⟨?_, rfl⟩
  have h1 : 1 * n / 18446744073709551616 = 0 := by omega
  have h2 : 1 * n % 18446744073709551616 = n := by omega
  rw [h1, h2]; rfl

set_option maxHeartbeats 1000000 in
set_option maxRecDepth 100000 in
theorem Tryz.repeat_any (x : Int) (n b o c : Nat) (w : World) (h1 : 1 ≤ n) (hn : n ≤ 1099511627776) (hc : w.cell? ⟨b, o, none⟩ = some (.int .u8 x)) :
    Calls Tryz.prog 81 #[.slice (some ⟨b, o, none⟩) 1 c, .int .i64 (n : Int)] w fun e w' => e = .returned (.slice (some ⟨w.heap.size, 0, none⟩) n n) ∧ RepB w w' x n n := by
  have u27 : Tryz.prog.underlying 29 = some (.slice 5) := Tryz.underlying29
  have hs5 : (Tryz.prog.info? 5).map (·.size) = some 1 := by kernel_rfl
  obtain ⟨cs, hrunM, hle, _⟩ := Lib.run_makeNoZero (P := Tryz.prog) w #[3] 29 5 u27 n (by omega)
  have hcall : (callFunc 152 #[.int .i64 (n : Int)]).run Tryz.prog w = .ok (.value (.slice (some ⟨w.heap.size, 0, none⟩) n cs.size)) ((w.alloc (.cells cs 5)).drewN 2) := by
    rw [run_callFunc_extern Tryz.func152 (by kernel_rfl) (by kernel_rfl) (by kernel_rfl) (e := Extern.BytealgMakeNoZero.makeNoZero #[3] #[29]) (by kernel_rfl), hrunM]
    rfl
  clear hrunM
  have i0 : (0 : Int) ≤ (n : Int) := by omega
  have i1 : (n : Int) ≤ (cs.size : Int) := by omega
  have i2 : ¬ (n : Int) < 0 := by omega
  have i3 : ((n : Int) == 0) = false := beq_eq_false_iff_ne.2 (by omega)
  have i4 : (n : Int) ≤ 1099511627776 := by omega
  have B0 : RepB w ((w.alloc (.cells cs 5)).drewN 2) x n 0 := ⟨⟨rfl, rfl, rfl, by simp, fun k hk => heap_alloc_old w _ hk⟩, cs, by rw [World.heap_drewN]; exact Array.getElem?_push_size, hle, fun i hi => absurd hi (Nat.not_lt_zero _)⟩
  have hc' : ((w.alloc (.cells cs 5)).drewN 2).cell? ⟨b, o, none⟩ = some (.int .u8 x) := by
    have := Below.cell B0.below (p := ⟨b, o, none⟩) (World.block_lt_of_cell? w _ hc)
    rw [this]; exact hc
  obtain ⟨w1, hr1, B1⟩ := Rep.run_copy1 (P := Tryz.prog) w _ x n b o c B0 h1 29 3 u27 hs5 hc'
  have HB1 : Aside (RepB w w1 x n 1) := B1
  clear B1 B0 hc hc'
  by_cases hbig : 8192 < (n : Int)
  · go_enter Tryz.func81, Tryz.ntmps81
    go_wp2_with (first
      | (go_at_call 151; refine (Tryz.mul_one n (by omega) _).mono ?_; rintro e w' ⟨rfl, rfl⟩)
      | (refine Rep.wpList_copy _ rfl _ _ 29 29 rfl _ _ rfl rfl hr1 ?_))
    go_loopg [10] n (fun g s10 wr => ∃ j : Nat, 1 ≤ j ∧ j ≤ n ∧ n - j ≤ g ∧ s10 = .int .i64 j ∧ Aside (RepB w wr x n j))
    case atStart => exact ⟨1, Nat.le_refl _, h1, by omega, rfl, HB1⟩
    case round =>
      obtain ⟨j, hj1, hj, hg, rfl, HB⟩ := hrel
      by_cases hlt : j < n
      · have hltz : (j : Int) < (n : Int) := by omega
        have hm : min (j : Int) 8192 = ((min j 8192 : Nat) : Int) := by omega
        obtain ⟨d, hd⟩ : ∃ d, min j 8192 = d := ⟨_, rfl⟩
        rw [hd] at hm
        obtain ⟨k1, k2⟩ : 1 ≤ d ∧ d ≤ j := by omega
        have HM : Hid (min (j : Int) 8192 = (d : Int)) := hm
        clear hm hd
        go_wp2
        rw [HM.out]
        obtain ⟨wA, hrA, BA⟩ := RepB.copy (P := Tryz.prog) w wr.drew x n j d ⟨HB.out.below.drew, HB.out.row⟩ k2 hlt 29 3 u27 hs5 n
        obtain ⟨eA, heA⟩ : ∃ e, min d (n - j) = e := ⟨_, rfl⟩
        obtain ⟨gA1, gA2⟩ : 1 ≤ eA ∧ j + eA ≤ n := by omega
        rw [heA] at hrA BA
        have HBA : Aside (RepB w wA x n (j + eA)) := BA
        have q0 : (0 : Int) ≤ (j : Int) := by omega
        have sA : (d : Int) ≤ (n : Int) := by omega
        have sC : (0 : Int) ≤ (d : Int) := by omega
        have sE : ¬ n = j := by omega
        have sF : ¬ j = 0 := by omega
        have sG : (j : Int) ≤ (n : Int) := by omega
        have sH : (0 : Int) ≤ (j : Int) + (eA : Int) := by omega
        have sI : (j : Int) + (eA : Int) ≤ 1099511627776 := by omega
        clear BA heA HM
        go_region_law (((with_reducible refine Rep.step_copy _ rfl _ _ 29 29 rfl _ _ rfl rfl hrA ?_)))
        go_wp2
        go_roundg (n - (j + eA))
        case measure => omega
        case rel => exact ⟨j + eA, by omega, gA2, Nat.le_refl _, by rw [IntWalk.i64_in _ (by omega)]; simp, HBA⟩
      · obtain rfl : j = n := by omega
        have hltz : ¬ (j : Int) < (j : Int) := by omega
        go_wp2
        go_ret
        exact ⟨rfl, HB.out⟩
  · go_enter Tryz.func81, Tryz.ntmps81
    go_wp2_with (first
      | (go_at_call 151; refine (Tryz.mul_one n (by omega) _).mono ?_; rintro e w' ⟨rfl, rfl⟩)
      | (refine Rep.wpList_copy _ rfl _ _ 29 29 rfl _ _ rfl rfl hr1 ?_))
    go_loopg [10] n (fun g s10 wr => ∃ j : Nat, 1 ≤ j ∧ j ≤ n ∧ n - j ≤ g ∧ s10 = .int .i64 j ∧ Aside (RepB w wr x n j))
    case atStart => exact ⟨1, Nat.le_refl _, h1, by omega, rfl, HB1⟩
    case round =>
      obtain ⟨j, hj1, hj, hg, rfl, HB⟩ := hrel
      by_cases hlt : j < n
      · have hltz : (j : Int) < (n : Int) := by omega
        have hm : min (j : Int) (n : Int) = ((min j n : Nat) : Int) := by omega
        obtain ⟨d, hd⟩ : ∃ d, min j n = d := ⟨_, rfl⟩
        rw [hd] at hm
        obtain ⟨k1, k2⟩ : 1 ≤ d ∧ d ≤ j := by omega
        have HM : Hid (min (j : Int) (n : Int) = (d : Int)) := hm
        clear hm hd
        go_wp2
        rw [HM.out]
        obtain ⟨wA, hrA, BA⟩ := RepB.copy (P := Tryz.prog) w wr.drew x n j d ⟨HB.out.below.drew, HB.out.row⟩ k2 hlt 29 3 u27 hs5 n
        obtain ⟨eA, heA⟩ : ∃ e, min d (n - j) = e := ⟨_, rfl⟩
        obtain ⟨gA1, gA2⟩ : 1 ≤ eA ∧ j + eA ≤ n := by omega
        rw [heA] at hrA BA
        have HBA : Aside (RepB w wA x n (j + eA)) := BA
        have q0 : (0 : Int) ≤ (j : Int) := by omega
        have sA : (d : Int) ≤ (n : Int) := by omega
        have sC : (0 : Int) ≤ (d : Int) := by omega
        have sE : ¬ n = j := by omega
        have sF : ¬ j = 0 := by omega
        have sG : (j : Int) ≤ (n : Int) := by omega
        have sH : (0 : Int) ≤ (j : Int) + (eA : Int) := by omega
        have sI : (j : Int) + (eA : Int) ≤ 1099511627776 := by omega
        clear BA heA HM
        go_region_law (((with_reducible refine Rep.step_copy _ rfl _ _ 29 29 rfl _ _ rfl rfl hrA ?_)))
        go_wp2
        go_roundg (n - (j + eA))
        case measure => omega
        case rel => exact ⟨j + eA, by omega, gA2, Nat.le_refl _, by rw [IntWalk.i64_in _ (by omega)]; simp, HBA⟩
      · obtain rfl : j = n := by omega
        have hltz : ¬ (j : Int) < (j : Int) := by omega
        go_wp2
        go_ret
        exact ⟨rfl, HB.out⟩
end Go.Proofs
