/- nor.New at a geometry that fits: a chip whose bytes are all blank. -/
import Derived.Test.YtfpngbjjogionaaGreatDoorRepA
import Derived.Deep.RegionHeld3
import Derived.Laws.MakeOwn
namespace Go.Proofs
open Go.Shelf Go.RowKit Go.Lib

theorem Nor.alloc_some {w : World} (o : Obj) {a : Addr} {v : Value} (h : w.cell? a = some v) : (w.alloc o).cell? a = some v := by
  have hb := World.block_lt_of_cell? w a h
  unfold World.cell? at h ⊢
  rw [heap_alloc_old w o hb]
  exact h
theorem Nor.cell_new {w : World} {cs : Array Value} {T k o : Nat} {v : Value} (hk : k = w.heap.size) (h : cs[o]? = some v) : (w.alloc (.cells cs T)).cell? ⟨k, o, none⟩ = some v := by
  subst hk
  have : (w.alloc (.cells cs T)).heap[w.heap.size]? = some (.cells cs T (0, 0)) := Array.getElem?_push_size
  simp only [World.cell?, this]
  exact h
theorem Nor.lt_at {w : World} {k : Nat} {o : Obj} (h : w.heap[k]? = some o) : k < w.heap.size := by
  rcases Nat.lt_or_ge k w.heap.size with hl | hl
  · exact hl
  · rw [Array.getElem?_eq_none hl] at h; cases h
theorem Nor.old_at {w : World} (o : Obj) {k : Nat} {x : Obj} (h : w.heap[k]? = some x) : (w.alloc o).heap[k]? = some x := by
  rw [heap_alloc_old w o (Nor.lt_at h)]; exact h
theorem Nor.new_at {w : World} (o : Obj) {k : Nat} (h : k = w.heap.size) : (w.alloc o).heap[k]? = some o := by
  subst h; exact Array.getElem?_push_size
theorem Nor.below_at {W w' : World} (hb : Below W.heap.size W w') {k : Nat} {x : Obj} (h : W.heap[k]? = some x) : w'.heap[k]? = some x := by
  rw [hb.block k (Nor.lt_at h)]; exact h
theorem Nor.bcell {W w1 : World} (hb : Below W.heap.size W w1) : (∀ b o, b < W.heap.size → w1.cell? ⟨b, o, none⟩ = W.cell? ⟨b, o, none⟩) ∧ (∀ b o, b < W.heap.size → w1.frozen? ⟨b, o, none⟩ = W.frozen? ⟨b, o, none⟩) :=
  ⟨fun b o h => hb.cell (p := ⟨b, o, none⟩) h, fun b o h => hb.frozen (p := ⟨b, o, none⟩) h⟩

def NorPost (S Z L n : Nat) (w : World) (e : Ending) (w' : World) : Prop :=
  ∃ (rb rw rc : Nat) (arr : Array Value), e = .returned (.tuple #[.pointer (some ⟨rc, 0, none⟩), .int .i64 0]) ∧ w.heap.size ≤ rb ∧ w.heap.size ≤ rw ∧ w.heap.size ≤ rc ∧ rb ≠ rw ∧ rb ≠ rc ∧ rw ≠ rc ∧
    w'.heap[rb]? = some (.cells arr 5 (0, 0)) ∧ n ≤ arr.size ∧ (∀ i, i < n → arr[i]? = some (.int .u8 255)) ∧
    w'.heap[rw]? = some (.cells (madeCells (Value.int .i64 0).cells (S * 1)) 3 (0, 0)) ∧
    w'.heap[rc]? = some (.cells #[.int .i64 (S : Int), .int .i64 (Z : Int), .int .i64 (L : Int), .slice (some ⟨rb, 0, none⟩) n n, .slice (some ⟨rw, 0, none⟩) S S, .bool false, .int .i64 (-1), .int .i64 0, .int .u8 0] 181 (0, 0)) ∧
    Below w.heap.size w w'

set_option maxHeartbeats 1000000 in
set_option maxRecDepth 100000 in
theorem Tryz.norNew (S Z L : Nat) (w : World) (hS : 1 ≤ S) (hS' : S ≤ 64) (hZ : 64 ≤ Z) (hZ' : Z ≤ 65536) (hL : 1 ≤ L) (hL' : L ≤ 1048576) :
    Calls Tryz.prog 30 #[.agg #[.int .i64 (S : Int), .int .i64 (Z : Int), .int .i64 (L : Int)]] w (NorPost S Z L (S * Z) w) := by
  have s1 : (1 : Int) ≤ (S : Int) := by omega
  have s2 : (S : Int) ≤ 64 := by omega
  have z1 : (64 : Int) ≤ (Z : Int) := by omega
  have z2 : (Z : Int) ≤ 65536 := by omega
  have l1 : (1 : Int) ≤ (L : Int) := by omega
  have l2 : (L : Int) ≤ 1048576 := by omega
  obtain ⟨n, hn⟩ : ∃ n : Nat, S * Z = n := ⟨_, rfl⟩
  have hn1 : 1 ≤ n := by rw [← hn]; exact Nat.mul_pos (by omega) (by omega)
  have hn2 : n ≤ 1099511627776 := by
    have := Nat.mul_le_mul hS' hZ'
    omega
  have hmul : IntKind.i64.wrap ((S : Int) * (Z : Int)) = (n : Int) := by
    rw [show (S : Int) * (Z : Int) = (n : Int) by rw [← hn]; simp]
    exact IntWalk.i64_in _ (by omega)
  obtain ⟨ZS, hZS⟩ : ∃ ZS : Array Value, ZS = madeCells (Value.int .i64 0).cells (S * 1) := ⟨_, rfl⟩
  have hmk : ∀ W, (Instr.makeSlice 138 (.int .i64 (S : Int)) (.int .i64 (S : Int))).run Tryz.prog W = .ok (.slice (some ⟨W.heap.size, 0, none⟩) S S) (W.alloc (.cells ZS 3)) := by
    intro W
    obtain ⟨i, hi, hq⟩ := Option.map_eq_some_iff.1 (show (Tryz.prog.info? 3).map (fun i => (i.size, i.bytes, i.zero)) = some (1, 8, some (.int .i64 0)) by kernel_rfl)
    simp only [Prod.mk.injEq] at hq
    have := run_make (P := Tryz.prog) (w := W) 138 3 i (.int .i64 0) Tryz.underlying138 hi hq.2.2 .i64 .i64 (S : Int) (S : Int) (by omega) (Int.le_refl _) (by rw [hq.2.1]; omega) (by omega)
    rw [hq.1] at this
    simpa [hZS] using this
  have HZS : Hid (ZS = madeCells (Value.int .i64 0).cells (S * 1)) := hZS
  clear hZS
  rw [hn]
  clear hn
  go_enter Tryz.func30, Tryz.ntmps30
  go_wp2
  go_region_held3 (fun w' => w'.cell? ⟨w.heap.size, 0, none⟩ = some (.int .i64 (S : Int)) ∧ w'.cell? ⟨w.heap.size, 1, none⟩ = some (.int .i64 (Z : Int)) ∧ w'.cell? ⟨w.heap.size, 2, none⟩ = some (.int .i64 (L : Int))) (go_keep)
    ((go_at_call 81; refine (Tryz.repeat_any 255 n _ _ _ _ hn1 hn2 ?_).mono ?_; ((try rw [World.cell?_drew]); first | exact Nor.cell_new (by simp) rfl | exact Nor.alloc_some _ (Nor.cell_new (by simp) rfl) | exact Nor.alloc_some _ (Nor.alloc_some _ (Nor.cell_new (by simp) rfl))); rintro e w' ⟨rfl, hb⟩; obtain ⟨hc, hf⟩ := Nor.bcell hb.below;
      have e0 : w'.cell? ⟨w.heap.size, 0, none⟩ = some (.int .i64 (S : Int)) := by (rw [hc _ _ (by simp <;> omega)]; ((try rw [World.cell?_drew]); first | exact Nor.cell_new (by simp) rfl | exact Nor.alloc_some _ (Nor.cell_new (by simp) rfl) | exact Nor.alloc_some _ (Nor.alloc_some _ (Nor.cell_new (by simp) rfl))));
      have e1 : w'.cell? ⟨w.heap.size, 1, none⟩ = some (.int .i64 (Z : Int)) := by (rw [hc _ _ (by simp <;> omega)]; ((try rw [World.cell?_drew]); first | exact Nor.cell_new (by simp) rfl | exact Nor.alloc_some _ (Nor.cell_new (by simp) rfl) | exact Nor.alloc_some _ (Nor.alloc_some _ (Nor.cell_new (by simp) rfl))));
      have e2 : w'.cell? ⟨w.heap.size, 2, none⟩ = some (.int .i64 (L : Int)) := by (rw [hc _ _ (by simp <;> omega)]; ((try rw [World.cell?_drew]); first | exact Nor.cell_new (by simp) rfl | exact Nor.alloc_some _ (Nor.cell_new (by simp) rfl) | exact Nor.alloc_some _ (Nor.alloc_some _ (Nor.cell_new (by simp) rfl))))))
  all_goals go_wp2
  all_goals go_ret2
  all_goals obtain ⟨hbl, arr, hg, ha, hx⟩ := hb
  · have hz : w.heap.size + 1 + 1 ≤ w'.heap.size := by have := hbl.size; simpa using this
    refine ⟨w.heap.size + 1 + 1, w'.heap.size, w'.heap.size + 1, arr, rfl, by omega, by omega, by omega, ?_, ?_, by omega, ?_, ha, hx, ?_, ?_, ?_⟩
    · have := Nor.lt_at hg; simp at this; omega
    · have := Nor.lt_at hg; simp at this; omega
    · exact Nor.old_at _ (Nor.old_at _ (by simpa using hg))
    · rw [HZS.out]; exact Nor.old_at _ (Nor.new_at _ rfl)
    · exact Nor.new_at _ (by simp)
    · exact (((((Below.refl _ w).alloc (Nat.le_refl _) _).alloc (by simp) _).drew.trans (hbl.mono (by simp; omega))).alloc (by omega) _).alloc (by simp; omega) _
  · have hz : w.heap.size + 1 + 1 + 1 ≤ w'.heap.size := by have := hbl.size; simpa using this
    refine ⟨w.heap.size + 1 + 1 + 1, w.heap.size + 1 + 1, w'.heap.size, arr, rfl, by omega, by omega, by omega, by omega, ?_, by omega, ?_, ha, hx, ?_, ?_, ?_⟩
    · have := Nor.lt_at hg; simp at this; omega
    · exact Nor.old_at _ (by simpa using hg)
    · rw [← HZS.out]; exact Nor.old_at _ (Nor.below_at hbl (Nor.new_at _ (by simp)))
    · exact Nor.new_at _ (by simp)
    · exact (((((Below.refl _ w).alloc (Nat.le_refl _) _).alloc (by simp) _).alloc (by simp; omega) _).drew.trans (hbl.mono (by simp; omega))).alloc (by omega) _
  · have hz : w.heap.size + 1 + 1 + 1 ≤ w'.heap.size := by have := hbl.size; simpa using this
    refine ⟨w.heap.size + 1 + 1 + 1, w.heap.size + 1, w'.heap.size, arr, rfl, by omega, by omega, by omega, by omega, ?_, by omega, ?_, ha, hx, ?_, ?_, ?_⟩
    · have := Nor.lt_at hg; simp at this; omega
    · exact Nor.old_at _ (by simpa using hg)
    · rw [← HZS.out]; exact Nor.old_at _ (Nor.below_at hbl (Nor.old_at _ (Nor.new_at _ (by simp))))
    · exact Nor.new_at _ (by simp)
    · exact (((((Below.refl _ w).alloc (Nat.le_refl _) _).alloc (by simp) _).alloc (by simp; omega) _).drew.trans (hbl.mono (by simp; omega))).alloc (by omega) _
end Go.Proofs
/- slices.IndexFunc with the closure of page.Look, on a slice of blank bytes: -1. -/
namespace Go.Proofs
open Go.Shelf Go.RowKit Go.Lib

theorem Tryz.lookClosure (w : World) : Calls Tryz.prog 142 #[.int .u8 255] w fun e w' => e = .returned (.bool false) ∧ w = w' := by
  go_enter Tryz.func142, Tryz.ntmps142
  go_wp2
  go_ret
  exact ⟨rfl, rfl⟩

set_option maxHeartbeats 1000000 in
theorem Tryz.indexFunc (b off n c : Nat) (w : World) (hn : n ≤ 1099511627776) (hc : ∀ j, j < n → w.cell? ⟨b, off + j, none⟩ = some (.int .u8 255)) :
    Calls Tryz.prog 250 #[.slice (some ⟨b, off, none⟩) n c, .func (.func 142) #[] #[]] w fun e w' => e = .returned (.int .i64 (-1)) ∧ w' = w := by
  have eg : ∀ args w, (callFunc 142 args).run Tryz.prog w = .ok (.enter 142 args) w := enters_of Tryz.func142 (by kernel_rfl) rfl
  have H : Aside (∀ j, j < n → w.cell? ⟨b, off + j, none⟩ = some (.int .u8 255)) := hc
  clear hc
  go_enter Tryz.func250, Tryz.ntmps250
  go_wp2
  go_loopg [5, 8] n (fun gg _ s8 wr => ∃ kk : Nat, kk ≤ n ∧ n - kk ≤ gg ∧ s8 = .int .i64 kk ∧ wr = w)
  case atStart => exact ⟨0, Nat.zero_le _, by omega, rfl, rfl⟩
  case round =>
    obtain ⟨kk, hkk, hg, rfl, rfl⟩ := hrel
    by_cases hlt : kk < n
    · have hltz : (kk : Int) < (n : Int) := by omega
      have hcell : wr.cell? ⟨b, off + kk, none⟩ = some (.int .u8 255) := H.out kk (by omega)
      go_wp2_with (go_at_fn 142; refine (Tryz.lookClosure _).mono ?_; rintro e w' ⟨rfl, rfl⟩)
      go_roundg (n - (kk + 1))
      case measure => omega
      case rel => exact ⟨kk + 1, by omega, by omega, by go_num, rfl⟩
    · have hltz : ¬ (kk : Int) < (n : Int) := by omega
      obtain rfl : kk = n := by omega
      go_wp2
      go_ret
      exact ⟨rfl, rfl⟩
end Go.Proofs
