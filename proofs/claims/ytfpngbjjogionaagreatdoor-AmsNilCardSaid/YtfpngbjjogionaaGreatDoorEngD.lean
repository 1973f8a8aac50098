/- The engine, fourth part: each operation of the engine comes to what the model's comes to. -/
import Derived.Test.YtfpngbjjogionaaGreatDoorEngA
import Derived.Laws.Entries
namespace Go.Eng
open Go.RowKit

inductive NR (κ : K) : ANext → Next → Prop
  | val {v : AV} {u : Value} (h : VR κ v u) : NR κ (.val v) (.value u)
  | skip : NR κ .skip .skip
  | enter {f : FuncId} {args : List AV} {us : List Value} (h : VRL κ args us) : NR κ (.enter f args) (.enter f us.toArray)
  | round {l rl c : Nat} {r : ALoop} {tm : Tr AV} {tmps : Array Value} (h : κ l = some (rl, c)) (ht : TmR κ r.nt tm tmps) :
      NR κ (.round l r tm) (.round rl r.fn tmps r.assign r.body)

section
variable (P : Program) (B : Nat) (w0 : World) (κ : K)
/-- The model's run comes to what the engine says: a value, a next. -/
def SOk (s : Sem Value) (w : World) (v : AV) (σ' : AH) : Prop :=
  ∃ κ' w' u, K.Sub κ κ' ∧ s.run P w = .ok u w' ∧ HR B w0 κ' σ' w' ∧ VR κ' v u
def NOk (s : Sem Next) (w : World) (r : ANext × AH) : Prop :=
  ∃ κ' w' x, K.Sub κ κ' ∧ s.run P w = .ok x w' ∧ HR B w0 κ' r.2 w' ∧ NR κ' r.1 x
end

section
variable {P : Program} {B : Nat} {w0 : World} {κ : K} {σ σ' : AH} {w : World}
theorem SOk.same {s : Sem Value} {v : AV} {u : Value} (h : HR B w0 κ σ w) (hr : s.run P w = .ok u w) (hv : VR κ v u) : SOk P B w0 κ s w v σ :=
  ⟨κ, w, u, .refl κ, hr, h, hv⟩
theorem SOk.next {s : Sem Value} {v : AV} (h : SOk P B w0 κ s w v σ') : NOk P B w0 κ (do pure (.value (← s))) w (.val v, σ') := by
  obtain ⟨κ', w', u, hs, hr, hh, hv⟩ := h
  exact ⟨κ', w', .value u, hs, by simp [hr], hh, .val hv⟩
end

section
variable {E : Env} {B : Nat} {w0 : World} {κ : K} {σ : AH} {w : World} (hE : TTok E) (h : HR B w0 κ σ w)
include hE h

theorem aload_ok {T : TypeId} {a : AV} {u : Value} {r : ANext × AH} (ha : VR κ a u) (he : aload E T a σ = some r) :
    ∃ v x, r = (.val v, σ) ∧ (Instr.loadAt T u).run E.P w = .ok x w ∧ VR κ v x := by
  cases ha with
  | @ptr id off rr c hk =>
    simp only [aload] at he
    split at he
    · rename_i ti n vec T' cs hti hc
      have ht := hE _ _ hti
      obtain ⟨arr, fz, hO, hn, _, _, hget⟩ := h.cellsAt hc hk
      split at he
      · rename_i hagg
        obtain ⟨hle, he⟩ := cond_none he
        cases he
        obtain ⟨us, hv, hl, hj⟩ := range_vals hget ti.sz off (Nat.le_of_ble_eq_true hle)
        refine ⟨_, .agg us.toArray, rfl, ?_, .agg hv⟩
        have hll := load_list (P := E.P) hO off us (by rw [hl]; exact hj)
        rw [hl] at hll
        simp only [Instr.loadAt, Instr.sureAddr, pure_bind, loadVar, Sem.run_bind, ht.run_isAgg, Result.andThen_ok, hagg, if_true, ht.run_size, hll, Sem.run_pure]
      · rename_i hagg
        obtain ⟨hlt, he⟩ := cond_none he
        cases he
        obtain ⟨x, hx, hv⟩ := hget off (Nat.le_of_ble_eq_true hlt)
        refine ⟨_, x, rfl, ?_, hv⟩
        simp only [Instr.loadAt, Instr.sureAddr, pure_bind, loadVar, Sem.run_bind, ht.run_isAgg, Result.andThen_ok, hagg, Bool.false_eq_true, if_false, run_load, cell_of_heap hO, hx]
    · cases he
  | _ => simp [aload] at he

theorem astore_ok {T : TypeId} {a v : AV} {u x : Value} {r : ANext × AH} (ha : VR κ a u) (hv : VR κ v x) (he : astore E T a v σ = some r) :
    r.1 = .skip ∧ ∃ w', (Instr.storeAt T u x).run E.P w = .ok () w' ∧ HR B w0 κ r.2 w' := by
  cases ha with
  | @ptr id off rr c hk =>
    simp only [astore] at he
    split at he
    · rename_i ti n vec T' cs hti hc
      have ht := hE _ _ hti
      obtain ⟨arr, fz, hO, hn, hvec, hfz, hget⟩ := h.cellsAt hc hk
      obtain ⟨h1, he⟩ := cond_none he
      obtain ⟨h2, he⟩ := cond_none he
      obtain ⟨h3, he⟩ := cond_none he
      cases he
      have h1 := nbeq_eq h1
      have h2 := Nat.le_of_ble_eq_true h2
      have hcs := hv.cells
      have hlen := hcs.length
      obtain ⟨w', arr', hr, hu, hsz, hg⟩ := store_list (P := E.P) (off := off) x.cells.toList 0 w arr hO hfz (by omega) (hcs.one h3)
      refine ⟨rfl, w', ?_, h.put (cellsAt_some hc) rfl hk hu (.cells (by omega) (fun e => by rw [hsz]; exact hvec.1 e) (fun z e => by rw [hsz]; exact hvec.2 z e) (fun o ho => hfz o (by omega)) fun o ho => ?_)⟩
      · have hsize : x.cells.size = ti.sz := by rw [← Array.length_toList]; omega
        simp only [Instr.storeAt, Instr.sureAddr, pure_bind, storeVar, Sem.run_bind, ht.run_size, Result.andThen_ok, hsize]
        simpa using hr
      · rw [hg o, putRange_get]
        by_cases hin : off ≤ o ∧ o < off + v.cellsOf.length
        · rw [if_pos (by omega), if_pos hin]
          have hlt : o - off < v.cellsOf.length := by omega
          obtain ⟨y, hy, hvy⟩ := hcs.get (o - off) _ (List.getElem?_eq_getElem hlt)
          refine ⟨y, by simpa using hy, ?_⟩
          rw [List.getElem?_eq_getElem hlt]
          exact hvy
        · rw [if_neg (by omega), if_neg hin]
          exact hget o ho
    · cases he
  | _ => simp [astore] at he
end
end Go.Eng
/- The engine, fifth part: making memory. -/
namespace Go.Eng
open Go.RowKit

theorem VRL.of_get {κ : K} : ∀ {a : List AV} {u : List Value}, a.length = u.length → (∀ (i : Nat) (x : AV), a[i]? = some x → ∃ y, u[i]? = some y ∧ VR κ x y) → VRL κ a u
  | [], [], _, _ => .nil
  | x :: a, y :: u, hl, h => by
    obtain ⟨y', e, hv⟩ := h 0 x rfl
    simp at e; subst e
    exact .cons hv (VRL.of_get (by simpa using hl) fun i x' e => by simpa using h (i + 1) x' (by simpa using e))

theorem layOver_length {α : Type} : ∀ (l : List α) (off : Nat) (cs : List α), (layOver l off cs).length = l.length
  | [], _, _ => by simp [layOver]
  | _ :: _, 0, [] => by simp [layOver]
  | _ :: l, 0, _ :: cs => by simp [layOver, layOver_length l 0 cs]
  | _ :: l, n + 1, cs => by simp [layOver, layOver_length l n cs]
theorem layOver_get {α : Type} : ∀ (l : List α) (off : Nat) (cs : List α) (i : Nat), i < l.length → (layOver l off cs)[i]? = if off ≤ i ∧ i < off + cs.length then cs[i - off]? else l[i]?
  | [], _, _, i, h => by simp at h
  | x :: l, 0, [], i, h => by simp [layOver]
  | _ :: l, 0, c :: cs, 0, h => by simp [layOver]
  | x :: l, 0, c :: cs, i + 1, h => by
    simp only [layOver, List.getElem?_cons_succ]
    rw [layOver_get l 0 cs i (by simpa using h)]
    simp only [List.length_cons]
    by_cases hi : i < cs.length
    · rw [if_pos (by omega), if_pos (by omega)]
      rw [show i + 1 - 0 = (i - 0) + 1 from by omega, List.getElem?_cons_succ]
    · rw [if_neg (by omega), if_neg (by omega)]
  | x :: l, n + 1, cs, 0, h => by simp [layOver]
  | x :: l, n + 1, cs, i + 1, h => by
    simp only [layOver, List.getElem?_cons_succ]
    rw [layOver_get l n cs i (by simpa using h)]
    by_cases hi : n ≤ i ∧ i < n + cs.length
    · rw [if_pos hi, if_pos (by omega)]; congr 1; omega
    · rw [if_neg hi, if_neg (by omega)]

theorem foldl_set_get (off : Nat) : ∀ (l : List Value) (k : Nat) (cells : Array Value), (((l.zipIdx k).foldl (fun cs (x : Value × Nat) => cs.setIfInBounds (off + x.2) x.1) cells).size = cells.size) ∧
    ∀ i, i < cells.size → ((l.zipIdx k).foldl (fun cs (x : Value × Nat) => cs.setIfInBounds (off + x.2) x.1) cells)[i]? = if off + k ≤ i ∧ i < off + k + l.length then l[i - (off + k)]? else cells[i]?
  | [], k, cells => ⟨rfl, fun i hi => by rw [List.length_nil, if_neg (by omega)]; rfl⟩
  | v :: l, k, cells => by
    simp only [List.zipIdx_cons, List.foldl_cons]
    obtain ⟨h1, h2⟩ := foldl_set_get off l (k + 1) (cells.setIfInBounds (off + k) v)
    refine ⟨by simpa using h1, fun i hi => ?_⟩
    rw [h2 i (by simpa using hi)]
    simp only [List.length_cons]
    by_cases e : i = off + k
    · subst e
      rw [if_neg (by omega), if_pos (by omega)]
      simp [hi]
    · by_cases h3 : off + (k + 1) ≤ i ∧ i < off + (k + 1) + l.length
      · rw [if_pos h3, if_pos (by omega)]
        obtain ⟨m, hm⟩ : ∃ m, i - (off + k) = m + 1 := ⟨i - (off + k) - 1, by omega⟩
        rw [hm, List.getElem?_cons_succ]; congr 1; omega
      · rw [if_neg h3, if_neg (by omega)]
        rw [Array.getElem?_setIfInBounds, if_neg (by omega)]

theorem fill_ok {κ : K} {place place' : Nat → Option (Nat × Nat)} (hp : ∀ i p, place i = some p → place' i = some p) :
    ∀ (ps : List (Nat × AV)) (qs : List (Nat × Value)) (l l' : List AV) (cells : Array Value), ps.length = qs.length →
      (∀ (i : Nat) (p : Nat × AV), ps[i]? = some p → ∃ q, qs[i]? = some q ∧ q.1 = p.1 ∧ VR κ p.2 q.2) → VRL κ l cells.toList → fillA place l ps = some l' →
      ∃ cells', Instr.fill place' cells qs = some cells' ∧ VRL κ l' cells'.toList
  | [], [], l, l', cells, _, _, hl, he => by
    simp only [fillA] at he; cases he
    exact ⟨cells, rfl, hl⟩
  | (i, v) :: ps, (j, x) :: qs, l, l', cells, hlen, hq, hl, he => by
    obtain ⟨q, e, e1, hv⟩ := hq 0 (i, v) rfl
    simp at e; subst e
    simp at e1; subst e1
    simp only [fillA] at he
    split at he
    · cases he
    · rename_i off size hpl
      obtain ⟨h1, he⟩ := cond_none he
      obtain ⟨h2, he⟩ := cond_none he
      have h1 := nbeq_eq h1
      have h2 := Nat.le_of_ble_eq_true h2
      have hcs := hv.cells
      have hcl := hcs.length
      have hll := hl.length
      simp only [Array.length_toList] at hcl hll
      obtain ⟨f1, f2⟩ := foldl_set_get off x.cells.toList 0 cells
      have key := fill_ok hp ps qs _ l' (((x.cells.toList.zipIdx 0).foldl (fun cs (y : Value × Nat) => cs.setIfInBounds (off + y.2) y.1) cells)) (by simpa using hlen)
        (fun i p e => by simpa using hq (i + 1) p (by simpa using e)) (VRL.of_get ?_ ?_) he
      · obtain ⟨cells', e, hv'⟩ := key
        refine ⟨cells', ?_, hv'⟩
        simp only [Instr.fill, hp _ _ hpl]
        rw [if_neg (by simp; omega)]
        rw [← e]
        congr 1
        rw [← Array.foldl_toList]
        simp
      · rw [layOver_length]; simp only [Array.length_toList]; omega
      · intro i y hy
        have hi : i < (layOver l off v.cellsOf).length := (List.getElem?_eq_some_iff.1 hy).1
        rw [layOver_length] at hi
        rw [layOver_get l off _ i hi] at hy
        have := f2 i (by omega)
        rw [Array.getElem?_toList, this]
        simp only [Array.length_toList, Nat.add_zero]
        by_cases hin : off ≤ i ∧ i < off + v.cellsOf.length
        · rw [if_pos hin] at hy
          rw [if_pos (by omega)]
          exact hcs.get _ _ hy
        · rw [if_neg hin] at hy
          rw [if_neg (by omega)]
          have := hl.get i y hy
          simpa using this

theorem repList_length : ∀ (l : List AV) (n : Nat), (repList l n).length = n * l.length
  | l, 0 => by simp [repList]
  | l, n + 1 => by simp [repList, repList_length l n, Nat.succ_mul, Nat.add_comm]
theorem repList_get : ∀ (l : List AV) (n i : Nat), i < n * l.length → (repList l n)[i]? = l[i % l.length]?
  | l, 0, i, h => by simp at h
  | l, n + 1, i, h => by
    simp only [repList]
    by_cases hi : i < l.length
    · rw [List.getElem?_append_left hi, Nat.mod_eq_of_lt hi]
    · rw [List.getElem?_append_right (by omega), repList_get l n (i - l.length) (by rw [Nat.succ_mul] at h; omega)]
      congr 1
      conv => rhs; rw [show i = (i - l.length) + l.length from by omega, Nat.add_mod_right]

theorem getElem!_some {zero : Array Value} {i : Nat} (h : i < zero.size) : zero[i]? = some zero[i]! := by
  simp [h, getElem!_pos]

theorem rep_vals {κ : K} (zero : Array Value) (n : Nat) :
    VRL κ (repList (zero.toList.map .sc) n) ((Array.range (n * zero.size)).map (fun i => zero[i % zero.size]!)).toList := by
  refine VRL.of_get (by rw [repList_length]; simp) ?_
  intro i x hx
  have hi := (List.getElem?_eq_some_iff.1 hx).1
  rw [repList_length] at hi
  rw [repList_get _ _ _ hi] at hx
  simp only [List.length_map, Array.length_toList] at hx hi
  have hz : 0 < zero.size := by
    rcases Nat.eq_zero_or_pos zero.size with e | e
    · rw [e] at hi; simp at hi
    · exact e
  have hm : i % zero.size < zero.size := Nat.mod_lt _ hz
  refine ⟨zero[i % zero.size]!, ?_, ?_⟩
  · simp [hi]
  · rw [List.getElem?_map, Array.getElem?_toList, getElem!_some hm] at hx
    simp at hx; subst hx
    exact .sc _

section
variable {B : Nat} {w0 : World} {κ : K} {σ : AH} {w : World}
theorem or_cells {l : List AV} {us : List Value} {T : TypeId} (hl : VRL κ l us) (c : Nat) : OR κ c (.cells l.length none T { d := undefA, t := Tr.ofList l 0 .lf }) (.cells us.toArray T) := by
  have hlen := hl.length
  refine .cells (by simp [hlen]) (fun _ => by simp [hlen]) (fun z e => by cases e) (fun o _ => by simp) fun o ho => ?_
  obtain ⟨y, e, hv⟩ := hl.get o _ (List.getElem?_eq_getElem ho)
  refine ⟨y, by simpa using e, ?_⟩
  simp only [Cells.get, Tr.get_ofList]
  rw [if_pos (by omega)]
  simpa [List.getElem?_eq_getElem ho] using hv
theorem newCells_ok (h : HR B w0 κ σ w) {l : List AV} {us : List Value} (T : TypeId) (hl : VRL κ l us) (c : Nat) :
    HR B w0 (κ.ext σ.nx (w.heap.size, c)) (newCells T l σ) (w.alloc (.cells us.toArray T)) := h.new (or_cells hl c)
end

section
variable {E : Env} {B : Nat} {w0 : World} {κ : K} {σ : AH} {w : World} (hE : TTok E) (h : HR B w0 κ σ w)

theorem zeroCells_ok (v : Value) : VRL κ (zeroCells v) v.cells.toList := VRL.of_sc _

theorem newVar_run (P : Program) (T : TypeId) (v : Value) (w : World) : (newVar T v).run P w = .ok ⟨w.heap.size, 0, none⟩ (w.alloc (.cells v.cells T)) := by
  simp [newVar, newRow]

include h in
theorem box_ok (T : TypeId) {a : AV} {u : Value} (ha : VR κ a u) : SOk E.P B w0 κ (Instr.box T u) w (.ptr σ.nx 0) (newCells T a.cellsOf σ) := by
  refine ⟨_, w.alloc (.cells u.cells T), _, h.sub_new (w.heap.size, 0), ?_, ?_, .ptr (K.ext_self _ _ _)⟩
  · simp only [Instr.box, Sem.run_bind, newVar_run, Result.andThen_ok, Sem.run_pure]
  · have := newCells_ok h T ha.cells 0
    simpa using this
include hE h
theorem alloc_ok {T : TypeId} {ti : TI} (ht : E.TT T = some ti) (old : Value) : SOk E.P B w0 κ (Instr.alloc T true old) w (.ptr σ.nx 0) (newCells T (zeroCells ti.zero) σ) := by
  have hti := hE _ _ ht
  refine ⟨_, w.alloc (.cells ti.zero.cells T), _, h.sub_new (w.heap.size, 0), ?_, ?_, .ptr (K.ext_self _ _ _)⟩
  · simp only [Instr.alloc, Sem.run_bind, hti.run_zero, Result.andThen_ok, newVar_run, Sem.run_pure]
  · have := newCells_ok h T (zeroCells_ok (κ := κ) ti.zero) 0
    simpa using this

omit hE h in
theorem mapM_places (fs : List Field) (w : World) (hf : ∀ f ∈ fs, (E.P.info? f.type).isSome = true) :
    (fs.mapM (m := Sem) fun f => do pure (f.offset, ← sizeOf f.type)).run E.P w = .ok (fs.map fun f => (f.offset, ((E.P.info? f.type).map (·.size)).getD 0)) w := by
  induction fs with
  | nil => simp
  | cons f fs ih =>
    have h1 := hf f (.head _)
    obtain ⟨i, hi⟩ := Option.isSome_iff_exists.1 h1
    rw [List.mapM_cons]
    simp only [Sem.run_bind, sizeOf, typeInfo, run_program, Result.andThen_ok, hi, Sem.run_pure]
    have := ih (fun g hg => hf g (.tail _ hg))
    simp only [sizeOf, typeInfo, bind_assoc, pure_bind] at this ⊢
    rw [this]
    simp [hi]

omit h in
theorem abuild_ok {T : TypeId} {ps : List (Nat × AV)} {qs : Array (Nat × Value)} {r : ANext × AH}
    (hlen : ps.length = qs.toList.length) (hq : ∀ (i : Nat) (p : Nat × AV), ps[i]? = some p → ∃ q, qs.toList[i]? = some q ∧ q.1 = p.1 ∧ VR κ p.2 q.2)
    (he : abuild E T ps σ = some r) : ∃ v x, r = (.val v, σ) ∧ (Instr.build T qs).run E.P w = .ok x w ∧ VR κ v x := by
  unfold abuild at he
  split at he
  · rename_i ti hti
    have ht := hE _ _ hti
    split at he
    · rename_i fs hd
      split at he
      · rename_i l hl
        cases he
        have hfl := ht.flds
        rw [hd] at hfl
        have hplace : ∀ i p, structPlace E fs i = some p → (fs.map fun f => (f.offset, ((E.P.info? f.type).map (·.size)).getD 0))[i]? = some p := by
          intro i p hp
          unfold structPlace at hp
          split at hp
          · rename_i f hf
            split at hp
            · rename_i te hte
              cases hp
              obtain ⟨inf, hi, hs, _⟩ := (hE _ _ hte).info
              simp [hf, hi, hs]
            · cases hp
          · cases hp
        obtain ⟨cells', hc, hv⟩ := fill_ok hplace ps qs.toList _ l ti.zero.cells hlen hq (zeroCells_ok ti.zero) hl
        refine ⟨_, .agg cells', rfl, ?_, ?_⟩
        · have hm := mapM_places fs.toList w hfl
          simp only [Instr.build, Sem.run_bind, ht.run_zero, Result.andThen_ok, ht.run_und, hd, Array.mapM_eq_mapM_toList, Sem.run_map, hm]
          have : (fun x : Nat => (List.map (fun f => (f.offset, ((E.P.info? f.type).map (·.size)).getD 0)) fs.toList).toArray[x]?) = fun i : Nat => (fs.map fun f => (f.offset, ((E.P.info? f.type).map (·.size)).getD 0))[i]? := by
            funext i; simp
          rw [this, hc]
          rfl
        · have := VR.agg hv
          simpa using this
      · cases he
    · rename_i n el hd
      split at he
      · rename_i te hte
        split at he
        · rename_i l hl
          cases he
          obtain ⟨cells', hc, hv⟩ := fill_ok (fun _ _ hp => hp) ps qs.toList _ l ti.zero.cells hlen hq (zeroCells_ok ti.zero) hl
          refine ⟨_, .agg cells', rfl, ?_, ?_⟩
          · simp only [Instr.build, Sem.run_bind, ht.run_zero, Result.andThen_ok, ht.run_und, hd, (hE _ _ hte).run_size, hc]
            rfl
          · have := VR.agg hv
            simpa using this
        · cases he
      · cases he
    · cases he
  · cases he

theorem abuildSlice_ok {T : TypeId} {n : Nat} {ps : List (Nat × AV)} {qs : Array (Nat × Value)} {r : ANext × AH}
    (hlen : ps.length = qs.toList.length) (hq : ∀ (i : Nat) (p : Nat × AV), ps[i]? = some p → ∃ q, qs.toList[i]? = some q ∧ q.1 = p.1 ∧ VR κ p.2 q.2)
    (he : abuildSlice E T n ps σ = some r) : ∃ v, r.1 = .val v ∧ SOk E.P B w0 κ (Instr.buildSlice T n qs) w v r.2 := by
  unfold abuildSlice at he
  split at he
  · rename_i el sz by_ z hti
    have ht := hE _ _ hti
    split at he
    · rename_i te hte
      have hte' := hE _ _ hte
      split at he
      · rename_i l hl
        obtain ⟨hle, he⟩ := cond_none he
        cases he
        have hle := Nat.le_of_ble_eq_true hle
        have hbase : VRL κ (repList (zeroCells te.zero) n) ((Array.range (n * te.sz)).map (fun i => te.zero.cells[i % te.zero.cells.size]!)).toList := by
          have := rep_vals (κ := κ) te.zero.cells n
          rw [hte'.zsz] at this ⊢
          exact this
        obtain ⟨cells', hc, hv⟩ := fill_ok (place' := fun i => some (i * te.sz, te.sz)) (fun _ _ hp => hp) ps qs.toList _ l _ hlen hq hbase hl
        refine ⟨_, rfl, _, _, .slice (some ⟨w.heap.size, 0, none⟩) n n, h.sub_new (w.heap.size, 0), ?_, newCells_ok h el hv 0, ?_⟩
        · simp only [Instr.buildSlice, Sem.run_bind, ht.run_und, Result.andThen_ok, hte'.run_size]
          rw [if_neg (by omega)]
          by_cases h0 : n * te.sz = 0
          · simp only [h0, if_true, Sem.run_bind, Sem.run_pure, Result.andThen_ok]
            have hc0 : Instr.fill (fun i => some (i * te.sz, te.sz)) ((Array.range 0).map (fun x => (#[] : Array Value)[x % (#[] : Array Value).size]!)) qs.toList = some cells' := by
              rw [← hc, h0]; congr 1; simp
            rw [hc0]
            simp [newRow]
          · simp only [h0, if_false, Sem.run_bind, Sem.run_pure, Result.andThen_ok, hte'.run_zero]
            rw [hc]
            simp [newRow]
        · have := VR.sl (κ := κ.ext σ.nx (w.heap.size, 0)) (e := 0) (z := te.sz) (len := n) (cap := some n) (K.ext_self κ σ.nx (w.heap.size, 0)) rfl (by intro e; cases e)
          simpa using this
      · cases he
    · cases he
  · cases he
end
end Go.Eng
/- The engine, sixth part: places, maps, and what reads no memory. -/
namespace Go.Eng
open Go.RowKit

theorem ba_get {s : ByteArray} {j : Nat} {b : UInt8} (h : s.data.toList[j]? = some b) : s[j]? = some b := by
  obtain ⟨hj, e⟩ := List.getElem?_eq_some_iff.1 h
  have hj' : j < s.size := by simpa using hj
  rw [getElem?_pos s j hj', ← e]
  rfl

theorem ble_le {a b : Nat} (h : Nat.ble a b = true) : a ≤ b := Nat.le_of_ble_eq_true h
theorem blt_lt {a b : Nat} (h : Nat.blt a b = true) : a < b := Nat.le_of_ble_eq_true h

theorem pureRun_ok {P : Program} {α : Type} : ∀ (s : Sem α) (a : α), pureRun P s = some a → ∀ w, s.run P w = .ok a w := by
  intro s
  induction s with
  | pure a => intro b h w; simp [pureRun] at h; subst h; rfl
  | program k ih => intro b h w; simp only [pureRun] at h; exact ih P b h w
  | mark m k ih => intro b h w; simp only [pureRun] at h; exact ih b h w
  | _ => intro b h; simp [pureRun] at h

theorem natOf_some {κ : K} {x : Option AV} {u : Option Value} {d n : Nat} (hx : ∀ a, x = some a → ∃ v, u = some v ∧ VR κ a v) (hn : x = none → u = none)
    (h : natOf? x d = some n) : (x = none ∧ u = none ∧ n = d) ∨ (∃ k, u = some (.int k (n : Int)) ∧ x.isSome = true) := by
  cases x with
  | none => simp [natOf?] at h; exact .inl ⟨rfl, hn rfl, h.symm⟩
  | some a =>
    obtain ⟨v, hu, hv⟩ := hx a rfl
    cases hv with
    | sc =>
      unfold natOf? at h
      split at h
      · rename_i heq; cases heq
      · rename_i k m heq
        cases h
        simp at heq
        exact .inr ⟨k, by rw [hu, heq], rfl⟩
      · cases h
    | _ => simp [natOf?] at h

/-- optional operands -/
def OptR (κ : K) (x : Option AV) (u : Option Value) : Prop := match x, u with
  | none, none => True
  | some a, some v => VR κ a v
  | _, _ => False
theorem OptR.cases {κ : K} {x : Option AV} {u : Option Value} {d n : Nat} (hx : OptR κ x u) (h : natOf? x d = some n) : (x = none ∧ u = none ∧ n = d) ∨ (∃ k, u = some (.int k (n : Int)) ∧ x.isSome = true) := by
  refine natOf_some (κ := κ) ?_ ?_ h
  · intro a ha; subst ha
    cases u with
    | none => exact hx.elim
    | some v => exact ⟨v, rfl, hx⟩
  · intro ha; subst ha
    cases u with
    | none => rfl
    | some v => exact hx.elim

theorem sliceBound_run (P : Program) (w : World) (k : IntKind) (n y : Nat) (c : BoundsCode) (h : n ≤ y) : (Instr.sliceBound (.int k (n : Int)) y c).run P w = .ok n w := by
  have : (0 : Int) ≤ (n : Int) ∧ (n : Int) ≤ (y : Int) := ⟨by omega, by omega⟩
  simp only [Instr.sliceBound, asIntOf, pure_bind, this, and_self, if_true, Sem.run_pure, Int.toNat_natCast]

/-- the bounds of a slice, no third one -/
theorem bounds2 {κ : K} (P : Program) (w : World) (isS : Bool) {lo hi : Option AV} {ul uh : Option Value} (hl : OptR κ lo ul) (hh : OptR κ hi uh) {len cap h l : Nat}
    (e1 : natOf? hi len = some h) (e2 : natOf? lo 0 = some l) (h1 : h ≤ cap) (h2 : l ≤ h) : (Instr.sliceBounds isS len cap ul uh none).run P w = .ok (l, h, cap) w := by
  rcases hh.cases e1 with ⟨_, rfl, rfl⟩ | ⟨k, rfl, _⟩
  · rcases hl.cases e2 with ⟨_, rfl, rfl⟩ | ⟨k', rfl, _⟩
    · simp [Instr.sliceBounds]
    · simp [Instr.sliceBounds, sliceBound_run P w _ _ _ _ h2]
  · rcases hl.cases e2 with ⟨_, rfl, rfl⟩ | ⟨k', rfl, _⟩
    · simp [Instr.sliceBounds, sliceBound_run P w _ _ _ _ h1]
    · simp [Instr.sliceBounds, sliceBound_run P w _ _ _ _ h1, sliceBound_run P w _ _ _ _ h2]
/-- the bounds of a slice, with a third one -/
theorem bounds3 {κ : K} (P : Program) (w : World) (isS : Bool) {lo hi : Option AV} {ul uh : Option Value} (hl : OptR κ lo ul) (hh : OptR κ hi uh) {len cap h l m : Nat} (k0 : IntKind) (hsome : hi.isSome = true)
    (e1 : natOf? hi len = some h) (e2 : natOf? lo 0 = some l) (h0 : m ≤ cap) (h1 : h ≤ m) (h2 : l ≤ h) : (Instr.sliceBounds isS len cap ul uh (some (.int k0 (m : Int)))).run P w = .ok (l, h, m) w := by
  rcases hh.cases e1 with ⟨e, _, _⟩ | ⟨k, rfl, _⟩
  · rw [e] at hsome; cases hsome
  · rcases hl.cases e2 with ⟨_, rfl, rfl⟩ | ⟨k', rfl, _⟩
    · simp [Instr.sliceBounds, sliceBound_run P w _ _ _ _ h1, sliceBound_run P w _ _ _ _ h0]
    · simp [Instr.sliceBounds, sliceBound_run P w _ _ _ _ h1, sliceBound_run P w _ _ _ _ h2, sliceBound_run P w _ _ _ _ h0]

theorem add_mul_off (r e z l : Nat) : (⟨r, e * z, none⟩ : Addr).add (l * z) = ⟨r, (e + l) * z, none⟩ := by
  rw [add_zero_off, Nat.add_mul]

section
variable {E : Env} {B : Nat} {w0 : World} {κ : K} {σ : AH} {w : World} (hE : TTok E) (h : HR B w0 κ σ w)

include hE in
theorem afieldAddr_ok {S : TypeId} {x : AV} {u : Value} {f : Nat} {r : ANext × AH} (hx : VR κ x u) (he : afieldAddr E S x f σ = some r) :
    ∃ v y, r = (.val v, σ) ∧ (Instr.fieldAt S u f).run E.P w = .ok y w ∧ VR κ v y := by
  unfold afieldAddr at he
  split at he
  · rename_i ti id off hti
    cases hx with
    | @ptr _ _ rr c hk =>
    have ht := hE _ _ hti
    split at he
    · rename_i fl hfl
      split at he
      · rename_i te hte
        have ht2 := hE _ _ hte
        obtain ⟨hz, he⟩ := cond_none' he
        cases he
        have hz : ¬ te.sz = 0 := fun e => by rw [e] at hz; simp at hz
        refine ⟨_, .pointer (some ⟨rr, off + fl.offset, none⟩), rfl, ?_, .ptr hk⟩
        unfold fieldAt? at hfl
        split at hfl
        · rename_i fs hd
          simp only [Instr.fieldAt, Sem.run_bind, ht.run_und, Result.andThen_ok, hd, hfl, Instr.sureAddr, pure_bind, fieldPlace, ht2.run_size, hz, if_false, Sem.run_pure, add_zero_off]
        · cases hfl
      · cases he
    · cases he
  · cases he

include hE in
theorem aindexAddr_ok {T : TypeId} {x i : AV} {u n : Value} {r : ANext × AH} (hx : VR κ x u) (hi : VR κ i n) (he : aindexAddr E T x i σ = some r) :
    ∃ v y, r = (.val v, σ) ∧ (Instr.indexAt T u n).run E.P w = .ok y w ∧ VR κ v y := by
  unfold aindexAddr at he
  split at he
  · rename_i el sz by_ zz id e z len cap k j hti
    have ht := hE _ _ hti
    cases hx with
    | @sl _ _ _ _ rr c _ kk hk hkk hcc =>
    cases hi with
    | sc =>
    split at he
    · rename_i te hte
      have ht2 := hE _ _ hte
      obtain ⟨h1, he⟩ := cond_none he
      obtain ⟨h2, he⟩ := cond_none he
      cases he
      have h1 := nbeq_eq h1
      have h2 := blt_lt h2
      refine ⟨_, .pointer (some ⟨rr, (e + j) * z, none⟩), rfl, ?_, .ptr hk⟩
      have hc : (0 : Int) ≤ (j : Int) ∧ (j : Int) < (len : Int) := ⟨by omega, by omega⟩
      simp only [Instr.indexAt, asIntOf, pure_bind, Sem.run_bind, ht.run_und, Result.andThen_ok, Sem.run_pure, Int.ofNat_eq_natCast, hc, and_self, if_true, ht2.run_size, Int.toNat_natCast, h1, add_mul_off]
    · cases he
  · rename_i len el sz by_ zz id off k j hti
    have ht := hE _ _ hti
    cases hx with
    | @ptr _ _ rr c hk =>
    cases hi with
    | sc =>
    split at he
    · rename_i te hte
      have ht2 := hE _ _ hte
      obtain ⟨h2, he⟩ := cond_none he
      cases he
      have h2 := blt_lt h2
      refine ⟨_, .pointer (some ⟨rr, off + j * te.sz, none⟩), rfl, ?_, .ptr hk⟩
      have hc : (0 : Int) ≤ (j : Int) ∧ (j : Int) < (len : Int) := ⟨by omega, by omega⟩
      simp only [Instr.indexAt, asIntOf, pure_bind, Sem.run_bind, ht.run_und, Result.andThen_ok, Sem.run_pure, Instr.sureAddr, Int.ofNat_eq_natCast, hc, and_self, if_true, ht2.run_size, Int.toNat_natCast, add_zero_off]
    · cases he
  · cases he

theorem part_one {P : Program} {t : TypeId} {te : TI} (ht : TIok P t te) (hag : isAggD te.d = false) (cs : Array Value) (off : Nat) (v : Value) (hv : cs[off]? = some v) (w : World) :
    (part t cs off).run P w = .ok v w := by
  simp only [part, Sem.run_bind, ht.run_isAgg, Result.andThen_ok, hag, Bool.false_eq_true, if_false, hv, Sem.run_pure]
theorem part_agg {P : Program} {t : TypeId} {te : TI} (ht : TIok P t te) (hag : isAggD te.d = true) (cs : Array Value) (off : Nat) (w : World) :
    (part t cs off).run P w = .ok (.agg (cs.extract off (off + te.sz))) w := by
  simp only [part, Sem.run_bind, ht.run_isAgg, Result.andThen_ok, hag, if_true, ht.run_size, Sem.run_pure]

include hE in
theorem afield_ok {S : TypeId} {x : AV} {u : Value} {f : Nat} {r : ANext × AH} (hx : VR κ x u) (he : afield E S x f σ = some r) :
    ∃ v y, r = (.val v, σ) ∧ (Instr.field S u f).run E.P w = .ok y w ∧ VR κ v y := by
  unfold afield at he
  split at he
  · rename_i ti l hti
    cases hx with
    | @agg _ us hl =>
    have ht := hE _ _ hti
    split at he
    · rename_i fl hfl
      unfold fieldAt? at hfl
      split at hfl
      · rename_i fs hd
        split at he
        · rename_i te hte
          have ht2 := hE _ _ hte
          split at he
          · rename_i hag
            obtain ⟨h1, he⟩ := cond_none he
            cases he
            refine ⟨_, _, rfl, by simp only [Instr.field, Sem.run_bind, ht.run_und, Result.andThen_ok, hd, hfl, asAgg, pure_bind, part_agg ht2 hag]; rfl, ?_⟩
            have := VR.agg ((hl.drop fl.offset).take te.sz)
            have e : (us.toArray.extract fl.offset (fl.offset + te.sz)) = ((us.drop fl.offset).take te.sz).toArray := by simp
            rw [e]; exact this
          · rename_i hag
            split at he
            · rename_i v hv
              cases he
              obtain ⟨y, hy, hvy⟩ := hl.get _ _ hv
              exact ⟨_, y, rfl, by simp only [Instr.field, Sem.run_bind, ht.run_und, Result.andThen_ok, hd, hfl, asAgg, pure_bind, part_one ht2 hag us.toArray fl.offset y (by simpa using hy)], hvy⟩
            · cases he
        · cases he
      · cases hfl
    · cases he
  · cases he

include hE in
theorem aindex_ok {T : TypeId} {x i : AV} {u n : Value} {r : ANext × AH} (hx : VR κ x u) (hi : VR κ i n) (he : aindex E T x i σ = some r) :
    ∃ v y, r = (.val v, σ) ∧ (Instr.index T u n).run E.P w = .ok y w ∧ VR κ v y := by
  unfold aindex at he
  split at he
  · rename_i sz by_ zz s k j hti
    have ht := hE _ _ hti
    cases hx with
    | sc =>
    cases hi with
    | sc =>
    split at he
    · rename_i b hb
      cases he
      refine ⟨_, _, rfl, ?_, .sc _⟩
      have hb' := ba_get hb
      have hc : (0 : Int) ≤ (j : Int) := by omega
      simp only [Instr.index, asIntOf, pure_bind, Sem.run_bind, ht.run_und, Result.andThen_ok, Int.ofNat_eq_natCast, hc, if_true, Int.toNat_natCast, hb', Sem.run_pure]
    · cases he
  · rename_i len el sz by_ zz l k j hti
    have ht := hE _ _ hti
    cases hx with
    | @agg _ us hl =>
    cases hi with
    | sc =>
    split at he
    · rename_i te hte
      have ht2 := hE _ _ hte
      split at he
      · cases he
      · rename_i hag
        obtain ⟨h2, he⟩ := cond_none he
        have h2 := blt_lt h2
        split at he
        · rename_i v hv
          cases he
          obtain ⟨y, hy, hvy⟩ := hl.get _ _ hv
          have hc : (0 : Int) ≤ (j : Int) ∧ (j : Int) < (len : Int) := ⟨by omega, by omega⟩
          refine ⟨_, y, rfl, ?_, hvy⟩
          simp only [Instr.index, asIntOf, pure_bind, Sem.run_bind, ht.run_und, Result.andThen_ok, Int.ofNat_eq_natCast, hc, and_self, if_true, ht2.run_size, Int.toNat_natCast, part_one ht2 hag us.toArray _ y (by simpa using hy)]
        · cases he
    · cases he
  · cases he

theorem aextract_ok (P : Program) {x : AV} {u : Value} {i : Nat} {r : ANext × AH} (hx : VR κ x u) (he : aextract x i σ = some r) :
    ∃ v y, r = (.val v, σ) ∧ (Instr.extract u i).run P w = .ok y w ∧ VR κ v y := by
  cases hx with
  | @tup l us hl =>
    simp only [aextract] at he
    split at he
    · rename_i v hv
      cases he
      obtain ⟨y, hy, hvy⟩ := hl.get _ _ hv
      refine ⟨_, y, rfl, ?_, hvy⟩
      have : us.toArray[i]? = some y := by simpa using hy
      simp [Instr.extract, this]
    · cases he
  | sc =>
    cases u with
    | tuple vs =>
      simp only [aextract] at he
      split at he
      · rename_i v hv
        cases he
        refine ⟨_, v, rfl, ?_, .sc _⟩
        simp [Instr.extract, hv]
      · cases he
    | _ => simp [aextract] at he
  | _ => simp [aextract] at he
end
end Go.Eng
