/- The engine, seventh part: slices, makes, maps, tests. -/
import Derived.Test.YtfpngbjjogionaaGreatDoorEngD
import Derived.IntWalk
import Derived.Laws.BytesString
import Derived.Laws.Strings
namespace Go.Eng
open Go.RowKit

theorem eqB_eq : ∀ (l m : List UInt8), eqB l m = decide (l = m)
  | [], [] => rfl
  | [], b :: m => by simp [eqB]
  | a :: l, [] => by simp [eqB]
  | a :: l, b :: m => by
    simp only [eqB]
    by_cases h : a = b
    · subst h
      have : Nat.beq a.toNat a.toNat = true := Nat.beq_refl _
      rw [this, cond_true, eqB_eq l m]
      simp
    · have hn : ¬ a.toNat = b.toNat := fun e => h (UInt8.toNat_inj.1 e)
      rw [nbeq_ne hn, cond_false]
      simp [h]
theorem ba_ext {a b : ByteArray} (h : a.data.toList = b.data.toList) : a = b := by
  cases a; cases b
  simp at h; simp [h]
theorem eqB_beq (a b : ByteArray) : eqB a.data.toList b.data.toList = (a == b) := by
  rw [eqB_eq, Bool.eq_iff_iff]
  show _ ↔ (a.data == b.data) = true
  rw [decide_eq_true_iff, beq_iff_eq]
  constructor
  · intro h; exact congrArg ByteArray.data (ba_ext h)
  · intro h; rw [h]

theorem sameKey_ok {d : TypeDesc} {k k' : AV} {u u' : Value} {κ : K} (hk : VR κ k u) (hk' : VR κ k' u') (hd : keyKind d k = true) {b : Bool} (he : sameKey k k' = some b) : Instr.sameNow d u u' = some b := by
  unfold sameKey at he
  split at he
  · rename_i a c
    cases hk; cases hk'
    cases he
    cases d <;> simp [keyKind] at hd
    simp [Instr.sameNow, eqB_beq]
  · rename_i j a q c
    cases hk; cases hk'
    split at he
    · rename_i hj
      cases he
      have hj : j = q := by simpa using hj
      cases d <;> simp [keyKind] at hd
      simp only [Instr.sameNow, hj, if_true]
      rw [show (a == c) = decide (a = c) from by rw [Bool.eq_iff_iff]; simp]
    · cases he
  · cases he

theorem findKey_none {d : TypeDesc} {k : AV} {u : Value} {κ : K} (hk : VR κ k u) (hd : keyKind d k = true) : ∀ {es : List (AV × AV × Nat)} {ents : List MapEntry}, EntR κ es ents → findKey k es = some none → ∀ i, Instr.findNow d u ents i = some none
  | _, _, .nil, _, i => rfl
  | _, _, .cons hk' hv hb hl, he, i => by
    simp only [findKey] at he
    split at he
    · cases he
    · rename_i hs
      simp only [Instr.findNow, sameKey_ok hk hk' hd hs]
      exact findKey_none hk hd hl he (i + 1)
    · cases he
theorem findKey_some {d : TypeDesc} {k : AV} {u : Value} {κ : K} (hk : VR κ k u) (hd : keyKind d k = true) : ∀ {es : List (AV × AV × Nat)} {ents : List MapEntry}, EntR κ es ents → ∀ {v : AV}, findKey k es = some (some v) → ∀ i, ∃ j y, Instr.findNow d u ents i = some (some (j, y)) ∧ VR κ v y
  | _, _, .nil, v, he, i => by simp [findKey] at he
  | _, _, .cons (e := e) hk' hv hb hl, v, he, i => by
    simp only [findKey] at he
    split at he
    · rename_i hs
      cases he
      exact ⟨i, e.val, by simp [Instr.findNow, sameKey_ok hk hk' hd hs], hv⟩
    · rename_i hs
      simp only [Instr.findNow, sameKey_ok hk hk' hd hs]
      exact findKey_some hk hd hl he (i + 1)
    · cases he

theorem EntR.length {κ : K} : ∀ {es : List (AV × AV × Nat)} {ents : List MapEntry}, EntR κ es ents → ents.length = es.length
  | _, _, .nil => rfl
  | _, _, .cons _ _ _ hl => by simp [hl.length]
theorem EntR.push {κ : K} {k v : AV} {b : Nat} {e : MapEntry} (hk : VR κ k e.key) (hv : VR κ v e.val) (hb : e.born = b) : ∀ {es : List (AV × AV × Nat)} {ents : List MapEntry}, EntR κ es ents → EntR κ (es ++ [(k, v, b)]) (ents ++ [e])
  | _, _, .nil => .cons hk hv hb .nil
  | _, _, .cons hk' hv' hb' hl => .cons hk' hv' hb' (EntR.push hk hv hb hl)

theorem map_of {B : Nat} {w0 : World} {κ : K} {σ : AH} {w : World} (h : HR B w0 κ σ w) {id r c : Nat} {es : List (AV × AV × Nat)} {ck : Nat} (hg : σ.get id = some (.map es ck)) (hk : κ id = some (r, c)) :
    ∃ ents, w.heap[r]? = some (.map ents ck) ∧ EntR κ es ents.toList := by
  obtain ⟨r', c', O, e, hO, ho, _⟩ := h.live id _ hg rfl
  rw [hk] at e; cases e
  cases ho with
  | map h => exact ⟨_, hO, h⟩

theorem run_getObj_map {P : Program} {w : World} {r : Nat} {ents : Array MapEntry} {ck : Nat} (h : w.heap[r]? = some (.map ents ck)) : (getObj r).run P w = .ok (.map ents ck) w := by
  simp [getObj, Sem.run, h]
theorem run_getObj_miter {P : Program} {w : World} {r a b : Nat} {m : Option Nat} {s : Array Nat} (h : w.heap[r]? = some (.mapIter m a s b)) : (getObj r).run P w = .ok (.mapIter m a s b) w := by
  simp [getObj, Sem.run, h]
theorem setObj_upd {w : World} {r : Nat} {O O' : Obj} (h : w.heap[r]? = some O) : Upd w { w with heap := w.heap.setIfInBounds r O' } r O' := by
  have hr : r < w.heap.size := (Array.getElem?_eq_some_iff.1 h).1
  refine ⟨rfl, rfl, rfl, by simp, by simp [hr], fun k hk => ?_⟩
  show (w.heap.setIfInBounds r O')[k]? = _
  rw [Array.getElem?_setIfInBounds, if_neg (by omega)]
theorem run_setObj_map {P : Program} {w : World} {r : Nat} {ents : Array MapEntry} {ck : Nat} {O' : Obj} (h : w.heap[r]? = some (.map ents ck)) :
    (setObj r O').run P w = .ok () { w with heap := w.heap.setIfInBounds r O' } := by
  simp [setObj, Sem.run, h]

theorem checkKey_run {P : Program} {t : TypeId} {tk : TI} (ht : TIok P t tk) (e : Bool) (k : AV) (u : Value) {κ : K} (hk : VR κ k u) (hd : keyKind tk.d k = true) (w : World) : (Instr.checkKey e 10000 t u).run P w = .ok () w := by
  have h1 : Instr.checkKey e 10000 t u = Instr.checkKey e (9999 + 1) t u := rfl
  rw [h1, Instr.checkKey]
  simp only [Sem.run_bind, ht.run_und, Result.andThen_ok]
  unfold keyKind at hd
  split at hd
  · rename_i hd'
    cases hk
    simp [hd']
  · rename_i hd'
    cases hk
    simp [hd']
  · cases hd

section
variable {E : Env} {B : Nat} {w0 : World} {κ : K} {σ : AH} {w : World} (hE : TTok E) (h : HR B w0 κ σ w)
include hE h

theorem alookup_ok {T : TypeId} {m k : AV} {um uk : Value} {ok : Bool} {r : ANext × AH} (hm : VR κ m um) (hk : VR κ k uk) (he : alookup E T m k ok σ = some r) :
    ∃ v y, r = (.val v, σ) ∧ (Instr.lookup T um uk ok).run E.P w = .ok y w ∧ VR κ v y := by
  unfold alookup at he
  split at he
  · rename_i key el sz by_ zz hti
    have ht := hE _ _ hti
    split at he
    · rename_i te hte hko
      have ht2 := hE _ _ hte
      unfold keyOk at hko
      split at hko
      · rename_i tk htk
        have ht3 := hE _ _ htk
        have out : ∀ (v : AV) (y : Value) (b : Bool), VR κ v y → lookOut ok v b σ = some r →
            ∃ v' y', r = (.val v', σ) ∧ y' = (if ok then .tuple #[y, .bool b] else y) ∧ VR κ v' y' := by
          intro v y b hv hr
          cases ok with
          | true =>
            cases hr
            exact ⟨_, .tuple #[y, .bool b], rfl, rfl, .tup (.cons hv (.cons (.sc _) .nil))⟩
          | false =>
            cases hr
            exact ⟨_, y, rfl, rfl, hv⟩
        split at he
        · cases hm
          obtain ⟨v', y', e1, e2, e3⟩ := out _ te.zero false (.sc _) he
          refine ⟨v', y', e1, ?_, e3⟩
          subst e2
          simp only [Instr.lookup, Sem.run_bind, ht.run_und, Result.andThen_ok, pure_bind, checkKey_run ht3 _ k uk hk hko, Instr.findKey, ht3.run_und, Instr.findNow, Sem.run_pure, ht2.run_zero]
        · rename_i id
          cases hm with
          | @mp _ rr c hkk =>
          split at he
          · rename_i es ck hg
            obtain ⟨ents, hO, hent⟩ := map_of h hg hkk
            split at he
            · rename_i v hf
              obtain ⟨j, y, hn, hv⟩ := findKey_some hk hko hent hf 0
              obtain ⟨v', y', e1, e2, e3⟩ := out _ y true hv he
              refine ⟨v', y', e1, ?_, e3⟩
              subst e2
              simp only [Instr.lookup, Sem.run_bind, ht.run_und, Result.andThen_ok, run_getObj_map hO, Sem.run_pure, checkKey_run ht3 _ k uk hk hko, Instr.findKey, ht3.run_und, hn]
            · rename_i hf
              have hn := findKey_none hk hko hent hf 0
              obtain ⟨v', y', e1, e2, e3⟩ := out _ te.zero false (.sc _) he
              refine ⟨v', y', e1, ?_, e3⟩
              subst e2
              simp only [Instr.lookup, Sem.run_bind, ht.run_und, Result.andThen_ok, run_getObj_map hO, Sem.run_pure, checkKey_run ht3 _ k uk hk hko, Instr.findKey, ht3.run_und, hn, ht2.run_zero]
            · cases he
          · cases he
        · cases he
      · cases hko
    · cases he
  · cases he

theorem ainsert_ok {T : TypeId} {m k v : AV} {um uk uv : Value} {r : ANext × AH} (hm : VR κ m um) (hk : VR κ k uk) (hv : VR κ v uv) (he : ainsert E T m k v σ = some r) :
    r.1 = .skip ∧ ∃ w', (Instr.mapUpdate T um uk uv).run E.P w = .ok () w' ∧ HR B w0 κ r.2 w' := by
  unfold ainsert at he
  split at he
  · rename_i key el sz by_ zz hti
    have ht := hE _ _ hti
    split at he
    · rename_i id hko
      unfold keyOk at hko
      split at hko
      · rename_i tk htk
        have ht3 := hE _ _ htk
        cases hm with
        | @mp _ rr c hkk =>
        split at he
        · rename_i es ck hg
          obtain ⟨ents, hO, hent⟩ := map_of h hg hkk
          split at he
          · rename_i hf
            cases he
            have hn := findKey_none hk hko hent hf 0
            refine ⟨rfl, _, ?_, h.put hg rfl hkk (setObj_upd hO) (.map (ents := ents.push { key := uk, val := uv, born := ck }) ?_)⟩
            · simp only [Instr.mapUpdate, Sem.run_bind, ht.run_und, Result.andThen_ok, run_getObj_map hO, checkKey_run ht3 _ k uk hk hko, Instr.findKey, ht3.run_und, hn, Sem.run_pure, run_setObj_map hO]
            · simpa using hent.push (e := { key := uk, val := uv, born := ck }) hk hv rfl
          · cases he
        · cases he
      · cases hko
    · cases he
  · cases he

theorem arange_ok {T : TypeId} {x : AV} {u : Value} {r : ANext × AH} (hx : VR κ x u) (he : arange E T x σ = some r) :
    ∃ v, r.1 = .val v ∧ SOk E.P B w0 κ (Instr.range T u) w v r.2 := by
  unfold arange at he
  split at he
  · rename_i a b sz by_ zz hti
    have ht := hE _ _ hti
    cases hx
    cases he
    refine ⟨_, rfl, _, w.alloc (.mapIter none 0 #[] 0), .pointer (some ⟨w.heap.size, 0, none⟩), h.sub_new (w.heap.size, 0), ?_, h.new .miter0, .ptr (K.ext_self _ _ _)⟩
    simp only [Instr.range, Sem.run_bind, ht.run_und, Result.andThen_ok, pure_bind, run_newObj, Sem.run_pure, World.alloc_eq]
  · rename_i a b sz by_ zz id hti
    have ht := hE _ _ hti
    cases hx with
    | @mp _ rr c hkk =>
    split at he
    · rename_i ck hg
      cases he
      obtain ⟨ents, hO, hent⟩ := map_of h hg hkk
      refine ⟨_, rfl, _, w.alloc (.mapIter (some rr) ck #[] ck), .pointer (some ⟨w.heap.size, 0, none⟩), h.sub_new (w.heap.size, 0), ?_, h.new (.miter hkk), .ptr (K.ext_self _ _ _)⟩
      simp only [Instr.range, Sem.run_bind, ht.run_und, Result.andThen_ok, run_getObj_map hO, run_newObj, Sem.run_pure, World.alloc_eq]
    · cases he
  · cases he

omit hE in
theorem anext_ok {x : AV} {u : Value} {s : Bool} {t : TypeId} {r : ANext × AH} (hx : VR κ x u) (he : anext x s σ = some r) :
    ∃ v y, r = (.val v, σ) ∧ (Instr.next u s t).run E.P w = .ok y w ∧ VR κ v y := by
  unfold anext at he
  split at he
  · rename_i it
    cases hx with
    | @ptr _ _ rr c hkk =>
    split at he
    · rename_i hg
      cases he
      obtain ⟨r', c', O, e, hO, ho, _⟩ := h.live it _ hg rfl
      rw [hkk] at e; cases e
      cases ho with
      | miter0 =>
        refine ⟨_, .tuple #[.bool false], rfl, ?_, .sc _⟩
        simp [Instr.next, getObj, Sem.run, hO]
    · rename_i id hg
      split at he
      · rename_i ck hg2
        cases he
        obtain ⟨r', c', O, e, hO, ho, _⟩ := h.live it _ hg rfl
        rw [hkk] at e; cases e
        cases ho with
        | miter hk2 =>
          obtain ⟨ents, hO2, hent⟩ := map_of h hg2 hk2
          have h0 : ents = #[] := by
            have := hent.length
            simp at this
            exact this
          subst h0
          refine ⟨_, .tuple #[.bool false], rfl, ?_, .sc _⟩
          simp [Instr.next, run_getObj_miter hO, run_getObj_map hO2, Question.forced]
      · cases he
    · cases he
  · cases he
end
end Go.Eng
/- The engine, eighth part: slices, makes, tests, conversions. -/
namespace Go.Eng
open Go.RowKit

section
variable {E : Env} {B : Nat} {w0 : World} {κ : K} {σ : AH} {w : World} (hE : TTok E) (h : HR B w0 κ σ w)

theorem outSl_ok {id e z l hh m r c : Nat} {x : ANext × AH} (hk : κ id = some (r, c)) (he : outSl id e z l hh m σ = some x) :
    ∃ v, x = (.val v, σ) ∧ VR κ v (.slice (some (if m = l then ⟨r, e * z, none⟩ else (⟨r, e * z, none⟩ : Addr).add (l * z))) (hh - l) (m - l)) := by
  unfold outSl at he
  by_cases hm : m = l
  · have : Nat.beq m l = true := by rw [hm]; exact Nat.beq_refl l
    rw [this, cond_true] at he
    cases he
    refine ⟨_, rfl, ?_⟩
    rw [if_pos hm, hm, Nat.sub_self]
    exact .sl hk rfl (by intro e; cases e)
  · rw [nbeq_ne hm, cond_false] at he
    cases he
    refine ⟨_, rfl, ?_⟩
    rw [if_neg hm, add_mul_off]
    exact .sl hk rfl (by intro e; cases e)

include hE in
theorem aslice_ok {T : TypeId} {x : AV} {u : Value} {lo hi mx : Option AV} {ul uh um : Option Value} {r : ANext × AH} (hx : VR κ x u) (hl : OptR κ lo ul) (hh : OptR κ hi uh) (hm : OptR κ mx um)
    (he : aslice E T x lo hi mx σ = some r) : ∃ v y, r = (.val v, σ) ∧ (Instr.sliceAt T u ul uh um).run E.P w = .ok y w ∧ VR κ v y := by
  unfold aslice at he
  split at he
  · rename_i el sz by_ zz id e z len cap hti
    have ht := hE _ _ hti
    cases hx with
    | @sl _ _ _ _ rr c _ kk hk hkk hcc =>
    split at he
    · rename_i te hte
      have ht2 := hE _ _ hte
      obtain ⟨hz, he⟩ := cond_none he
      have hz := nbeq_eq hz
      split at he
      · rename_i hn ln e1 e2
        split at he
        · have hum : um = none := by
            cases um with
            | none => rfl
            | some v => exact hm.elim
          subst hum
          cases cap with
          | some cp =>
            simp only at he
            obtain ⟨h1, he⟩ := cond_none he
            obtain ⟨h2, he⟩ := cond_none he
            have hkc : kk = cp := hkk
            subst hkc
            obtain ⟨v, hr, hv⟩ := outSl_ok hk he
            refine ⟨v, _, hr, ?_, hv⟩
            have hb := bounds2 E.P w true hl hh e1 e2 (ble_le h1) (ble_le h2)
            simp only [Instr.sliceAt, Instr.slice, Sem.run_bind, ht.run_und, Result.andThen_ok, hb, ht2.run_size, hz, Sem.run_pure]
            split <;> rfl
          | none =>
            simp only at he
            obtain ⟨h1, he⟩ := cond_none he
            obtain ⟨h2, he⟩ := cond_none he
            have h1 := ble_le h1
            have h2 := ble_le h2
            have hcl := hcc rfl
            have hkc : kk = c - e := hkk
            have hb := bounds2 (cap := kk) E.P w true hl hh e1 e2 (by omega) h2
            by_cases h3 : ln < len
            · have : Nat.blt ln len = true := Nat.ble_eq_true_of_le h3
              rw [this, cond_true] at he
              cases he
              refine ⟨_, .slice (some ((⟨rr, e * z, none⟩ : Addr).add (ln * z))) (hn - ln) (kk - ln), rfl, ?_, ?_⟩
              · simp only [Instr.sliceAt, Instr.slice, Sem.run_bind, ht.run_und, Result.andThen_ok, hb, ht2.run_size, hz, Sem.run_pure]
                rw [if_neg (by omega)]; rfl
              · rw [add_mul_off]
                exact .sl hk (by simp only [Option.getD_none]; omega) (fun _ => by omega)
            · have : Nat.blt ln len = false := by
                cases hb : Nat.blt ln len with
                | false => rfl
                | true => exact absurd (blt_lt hb) h3
              rw [this, cond_false] at he
              obtain ⟨h4, he⟩ := cond_none he
              have h4 := nbeq_eq h4
              cases he
              refine ⟨_, .slice (some ⟨rr, e * z, none⟩) hn kk, rfl, ?_, .sl hk hkk (fun _ => by omega)⟩
              simp only [Instr.sliceAt, Instr.slice, Sem.run_bind, ht.run_und, Result.andThen_ok, hb, ht2.run_size, hz, Sem.run_pure, h4]
              simp only [Nat.sub_zero]
              split
              · rfl
              · simp [add_zero_off]
        · rename_i mv
          split at he
          · rename_i m e3
            obtain ⟨h0, he⟩ := cond_none he
            obtain ⟨h1, he⟩ := cond_none he
            obtain ⟨h2, he⟩ := cond_none he
            obtain ⟨h3, he⟩ := cond_none he
            rcases hm.cases e3 with ⟨ee, _, _⟩ | ⟨k, hum, _⟩
            · cases ee
            · subst hum
              have h1 := ble_le h1
              have hle : m ≤ kk := by
                cases cap with
                | some cp => have : kk = cp := hkk; simpa [this] using h1
                | none => have hcl := hcc rfl; have : kk = c - e := hkk; have h1' : m ≤ len := h1; omega
              obtain ⟨v, hr, hv⟩ := outSl_ok hk he
              refine ⟨v, _, hr, ?_, hv⟩
              have hb := bounds3 (cap := kk) E.P w true hl hh k h0 e1 e2 hle (ble_le h2) (ble_le h3)
              simp only [Instr.sliceAt, Instr.slice, Sem.run_bind, ht.run_und, Result.andThen_ok, hb, ht2.run_size, hz, Sem.run_pure]
              split <;> rfl
          · cases he
      · cases he
    · cases he
  · rename_i n el sz by_ zz id off hti
    have ht := hE _ _ hti
    cases hx with
    | @ptr _ _ rr c hk =>
    split at he
    · rename_i te hte
      have ht2 := hE _ _ hte
      split at he
      · have hum : um = none := by
          cases um with
          | none => rfl
          | some v => exact hm.elim
        subst hum
        split at he
        · rename_i hn ln e1 e2
          obtain ⟨hz, he⟩ := cond_none he
          obtain ⟨h1, he⟩ := cond_none he
          obtain ⟨h2, he⟩ := cond_none he
          have hz := nbeq_eq hz
          obtain ⟨v, hr, hv⟩ := outSl_ok hk he
          refine ⟨v, _, hr, ?_, hv⟩
          have hb := bounds2 E.P w false hl hh e1 e2 (ble_le h1) (ble_le h2)
          simp only [Instr.sliceAt, Sem.run_bind, ht.run_und, Result.andThen_ok, Instr.sureAddr, pure_bind, hb, ht2.run_size, hz, Sem.run_pure, Nat.mul_one]
        · cases he
      · cases he
    · cases he
  · cases he

theorem sc_int {k : IntKind} {n : Int} {u : Value} (h : VR κ (.sc (.int k n)) u) : u = .int k n := by cases h; rfl

include hE h in
theorem amakeSlice_ok {T : TypeId} {len cap : AV} {ul uc : Value} {r : ANext × AH} (hl : VR κ len ul) (hc : VR κ cap uc) (he : amakeSlice E T len cap σ = some r) :
    ∃ v, r.1 = .val v ∧ SOk E.P B w0 κ (Instr.makeSlice T ul uc) w v r.2 := by
  unfold amakeSlice at he
  split at he
  · rename_i el sz by_ zz l c hti
    have ht := hE _ _ hti
    cases hl; cases hc
    split at he
    · rename_i te hte
      have ht2 := hE _ _ hte
      obtain ⟨inf, hinf, hb1, hb2⟩ := ht2.run_info w
      have main : l ≤ c → c ≤ 4294967296 → te.bytes * c ≤ 4294967296 → ∀ us : Array Value, us = (Array.range (c * te.sz)).map (fun i => te.zero.cells[i % te.zero.cells.size]!) →
          (Instr.makeSlice T (.int .i64 (Int.ofNat l)) (.int .i64 (Int.ofNat c))).run E.P w = .ok (.slice (some ⟨w.heap.size, 0, none⟩) l c) (w.alloc (.cells us el)) := by
        intro h1 h2 h3 us hus
        have w1 : IntKind.i64.wrap (Int.ofNat l) = (l : Int) := IntWalk.i64_in (l : Int) ⟨by omega, by omega⟩
        have w2 : IntKind.i64.wrap (Int.ofNat c) = (c : Int) := IntWalk.i64_in (c : Int) ⟨by omega, by omega⟩
        have b3 : ((te.bytes : Int) * (c : Int)) ≤ 4294967296 := by
          rw [← Int.natCast_mul]
          exact Int.ofNat_le.2 h3
        have t1 : (decide ((c : Int) < 0) || decide ((te.bytes : Int) * (c : Int) > 2 ^ 48)) = false := by
          have e48 : (2 : Int) ^ 48 = 281474976710656 := by decide
          rw [e48, Bool.or_eq_false_iff, decide_eq_false_iff_not, decide_eq_false_iff_not]
          exact ⟨by omega, by omega⟩
        simp only [Instr.makeSlice, Sem.run_bind, ht.run_und, Result.andThen_ok, asInt, asIntOf, pure_bind, hinf, hb1, w1, w2, t1]
        rw [if_neg (by simp; omega)]
        simp only [Sem.run_bind, run_askRoom, Result.andThen_ok, ht2.run_size, Int.toNat_natCast]
        by_cases h0 : c * te.sz = 0
        · simp only [h0, if_true, Sem.run_pure, Result.andThen_ok, newRow, Sem.run_bind, run_newObj]
          have : us = (Array.range 0).map (fun x => (#[] : Array Value)[x % (#[] : Array Value).size]!) := by rw [hus, h0]; simp
          rw [this]; rfl
        · simp only [h0, if_false, Sem.run_bind, Sem.run_pure, Result.andThen_ok, ht2.run_zero, newRow, run_newObj]
          rw [hus]; rfl
      split at he
      · rename_i z hz
        obtain ⟨h1, he⟩ := cond_none he
        obtain ⟨h2, he⟩ := cond_none he
        cases he
        have h2' := h2
        simp only [Bool.and_eq_true] at h2'
        have hsz : te.zero.cells.size = 1 := by
          have : (zeroCells te.zero).length = 1 := by rw [hz]; rfl
          simpa [zeroCells] using this
        have hz' : z = .sc te.zero.cells[0]! := by
          have : (zeroCells te.zero)[0]? = some z := by rw [hz]; rfl
          simp only [zeroCells, List.getElem?_map, Array.getElem?_toList] at this
          rw [getElem!_some (by omega)] at this
          simpa using this.symm
        have hsz2 : te.sz = 1 := by rw [← ht2.zsz]; exact hsz
        refine ⟨_, rfl, _, _, _, h.sub_new (w.heap.size, 0), main (ble_le h1) (ble_le h2'.1) (ble_le h2'.2) _ rfl, h.new (.cells (by simp [hsz2]) (fun _ => by simp [hsz2]) (fun z e => by cases e) (fun o _ => by simp) fun o ho => ?_), ?_⟩
        · refine ⟨te.zero.cells[0]!, ?_, ?_⟩
          · have : o % te.zero.cells.size = 0 := by rw [hsz]; omega
            simp [hsz2, ho, this]
          · simp only [Cells.get, Tr.get_lf, Option.getD_none, hz']
            exact .sc _
        · have := VR.sl (κ := κ.ext σ.nx (w.heap.size, 0)) (e := 0) (z := 1) (len := l) (cap := some c) (K.ext_self κ σ.nx (w.heap.size, 0)) rfl (by intro e; cases e)
          simpa using this
      · obtain ⟨h1, he⟩ := cond_none he
        obtain ⟨h2, he⟩ := cond_none he
        cases he
        have h2' := h2
        simp only [Bool.and_eq_true] at h2'
        have hv : VRL κ (repList (zeroCells te.zero) c) ((Array.range (c * te.sz)).map (fun i => te.zero.cells[i % te.zero.cells.size]!)).toList := by
          have := rep_vals (κ := κ) te.zero.cells c
          rw [ht2.zsz] at this ⊢
          exact this
        refine ⟨_, rfl, _, _, _, h.sub_new (w.heap.size, 0), main (ble_le h1) (ble_le h2'.1) (ble_le h2'.2) _ rfl, ?_, ?_⟩
        · have := newCells_ok h el hv 0
          rw [Array.toArray_toList] at this
          exact this
        · have := VR.sl (κ := κ.ext σ.nx (w.heap.size, 0)) (e := 0) (z := te.sz) (len := l) (cap := some c) (K.ext_self κ σ.nx (w.heap.size, 0)) rfl (by intro e; cases e)
          simpa using this
    · cases he
  · cases he
end
end Go.Eng
/- The engine, ninth part: tests and conversions. -/
namespace Go.Eng
open Go.RowKit

theorem drew_of_choose {P : Program} {w : World} {q : Question} (hq : q.forced = false) : (choose q).run P w = .ok (q.cut (w.tape w.drawn q)) w.drew := by
  rw [run_choose, if_neg (by simp [hq])]; rfl

theorem markStringish_run {P : Program} {w : World} {r : Nat} {arr : Array Value} {T : TypeId} {fz : Nat × Nat} (h : w.heap[r]? = some (.cells arr T fz)) :
    (markStringish ⟨r, 0, none⟩).run P w = .ok () (w.freeze ⟨r, arr.size, none⟩ 1) := by
  have hs : w.shape? r = some (T, arr.size) := by simp [World.shape?, h]
  simp only [markStringish, Sem.run_bind, run_shape, hs, Result.andThen_ok, run_freeze]

theorem stringToBytes_run (P : Program) (w : World) (el : TypeId) (s : ByteArray) : ∃ cap, s.size ≤ cap ∧ (Conv.stringToBytes el s).run P w =
    .ok (.slice (some ⟨w.heap.size, 0, none⟩) s.size cap) ((w.drew.alloc (.cells ((s.data.map fun b => Value.int .u8 b.toNat) ++ Array.replicate (cap - s.size) (.int .u8 0)) el)).freeze ⟨w.heap.size, cap, none⟩ 1) := by
  have hq := drew_of_choose (P := P) (w := w) (q := .appendCap s.size 0 el) rfl
  have hle : s.size ≤ (Question.appendCap s.size 0 el).cut (w.tape w.drawn (.appendCap s.size 0 el)) := by show s.size ≤ s.size + _; omega
  generalize (Question.appendCap s.size 0 el).cut (w.tape w.drawn (.appendCap s.size 0 el)) = cap at hq hle
  refine ⟨cap, hle, ?_⟩
  have hsz : s.data.size = s.size := rfl
  have hO1 := heap_alloc_new w.drew (.cells ((s.data.map fun b => Value.int .u8 b.toNat) ++ Array.replicate (cap - s.size) (.int .u8 0)) el)
  rw [World.size_drew] at hO1
  have hm := markStringish_run (P := P) hO1
  simp only [Array.size_append, Array.size_map, Array.size_replicate, hsz, show s.size + (cap - s.size) = cap from by omega] at hm
  simp only [Conv.stringToBytes, Sem.run_bind, hq, Result.andThen_ok, newRow, run_newObj, Sem.run_pure, World.alloc_eq, World.size_drew, hm]

theorem foldl_push : ∀ (l : List UInt8) (acc : ByteArray), (l.map fun b => (b.toNat : Int)).foldl (fun r n => r.push (UInt8.ofNat n.toNat)) acc = ⟨(acc.data.toList ++ l).toArray⟩
  | [], acc => by simp
  | b :: l, acc => by
    simp only [List.map_cons, List.foldl_cons]
    rw [foldl_push l]
    congr 1
    simp [ByteArray.push]

section
variable {E : Env} {B : Nat} {w0 : World} {κ : K} {σ : AH} {w : World} (hE : TTok E) (h : HR B w0 κ σ w)

theorem bytesOf_vals : ∀ {l : List AV} {us : List Value} {bs : List UInt8}, VRL κ l us → bytesOf l = some bs → ∃ ns : List Int, us = ns.map (Value.int .u8) ∧ ns.map (fun n => UInt8.ofNat n.toNat) = bs
  | _, _, bs, .nil, hb => by simp only [bytesOf] at hb; cases hb; exact ⟨[], rfl, rfl⟩
  | _, _, bs, .cons (a := a) hv hl, hb => by
    unfold bytesOf at hb
    split at hb
    · rename_i heq; cases heq
    · rename_i n l' heq
      cases heq
      cases hv
      split at hb
      · rename_i r hr
        cases hb
        obtain ⟨ns, e1, e2⟩ := bytesOf_vals hl hr
        refine ⟨(n : Int) :: ns, by simp [e1], by simp [e2]⟩
      · cases hb
    · cases hb

theorem foldl_push' : ∀ (ns : List Int) (acc : ByteArray), ns.foldl (fun r n => r.push (UInt8.ofNat n.toNat)) acc = ⟨(acc.data.toList ++ ns.map (fun n => UInt8.ofNat n.toNat)).toArray⟩
  | [], acc => by simp
  | b :: l, acc => by
    simp only [List.map_cons, List.foldl_cons]
    rw [foldl_push' l]
    congr 1
    simp [ByteArray.push]

include hE h in
theorem aconvert_ok {S D : TypeId} {x : AV} {u : Value} {r : ANext × AH} (hx : VR κ x u) (he : aconvert E S D x σ = some r) :
    ∃ v, r.1 = .val v ∧ SOk E.P B w0 κ (convert S D u) w v r.2 := by
  unfold aconvert at he
  split at he
  · cases hx
    split at he
    · rename_i v hv
      cases he
      exact ⟨_, rfl, .same h (pureRun_ok _ _ hv w) (.sc _)⟩
    · cases he
  · rename_i s
    cases hx
    split at he
    · rename_i ti sz by_ zz hS hD
      cases he
      have h1 := hE _ _ hS
      have h2 := hE _ _ hD
      refine ⟨_, rfl, .same h ?_ (.sc _)⟩
      simp only [convert, Sem.run_bind, h1.run_und, h2.run_und, Result.andThen_ok]
      cases ti.d <;> rfl
    · rename_i ti el sz by_ zz hS hD
      split at he
      · rename_i sz2 by2 zz2 hel
        cases he
        have h1 := hE _ _ hS
        have h2 := hE _ _ hD
        have h3 := hE _ _ hel
        obtain ⟨cap, hcap, hrun⟩ := stringToBytes_run E.P w el s
        have hsz : s.data.size = s.size := rfl
        generalize harr : ((s.data.map fun b => Value.int .u8 b.toNat) ++ Array.replicate (cap - s.size) (.int .u8 0)) = arr at hrun
        have hasz : arr.size = cap := by rw [← harr]; simp [hsz]; omega
        have hO1 : (w.drew.alloc (.cells arr el)).heap[w.heap.size]? = some (.cells arr el) := heap_alloc_new w.drew _
        have hu : Upd (w.drew.alloc (.cells arr el)) ((w.drew.alloc (.cells arr el)).freeze ⟨w.heap.size, cap, none⟩ 1) w.heap.size (.cells arr el (cap, cap + 1)) := by
          generalize w.drew.alloc (.cells arr el) = w1 at hO1
          refine ⟨by simp [World.freeze], by simp [World.freeze], by simp [World.freeze], by simp [World.freeze], ?_, fun k hk => ?_⟩
          · simp only [World.freeze]
            rw [if_neg (by omega)]
            simp only [Array.getElem?_modify, if_true, hO1]
            rfl
          · simp only [World.freeze]
            rw [if_neg (by omega)]
            simp only [Array.getElem?_modify]
            rw [if_neg (by omega)]
        have hget : ∀ o, o < s.size → ∃ u, arr[o]? = some u ∧ VR κ (({ d := undefA, t := Tr.ofList (s.data.toList.map fun b => AV.sc (.int .u8 b.toNat)) 0 .lf } : Cells).get o) u := by
          intro o ho
          have ho' : o < s.data.size := ho
          refine ⟨.int .u8 s.data[o].toNat, ?_, ?_⟩
          · rw [← harr]
            simp only [Array.getElem?_append, Array.size_map, hsz]
            rw [if_pos ho]
            simp [Array.getElem?_eq_getElem ho']
          · simp only [Cells.get, Tr.get_ofList]
            rw [if_pos (by simp; omega)]
            simp only [Nat.sub_zero, List.getElem?_map, Array.getElem?_toList, Array.getElem?_eq_getElem ho', Option.map_some, Option.getD_some]
            exact .sc _
        have o1 : OR κ cap (.cells s.size (some 1) el { d := undefA, t := Tr.ofList (s.data.toList.map fun b => AV.sc (.int .u8 b.toNat)) 0 .lf }) (.cells arr el) :=
          .cells (by omega) (by intro e; cases e) (fun z e => by cases e; omega) (fun o _ => by simp) hget
        have hh1 := h.drew.new o1
        have o2 : OR (κ.ext σ.nx (w.heap.size, cap)) cap (.cells s.size (some 1) el { d := undefA, t := Tr.ofList (s.data.toList.map fun b => AV.sc (.int .u8 b.toNat)) 0 .lf }) (.cells arr el (cap, cap + 1)) :=
          .cells (by omega) (by intro e; cases e) (fun z e => by cases e; omega) (fun o ho => by simp; omega) (fun o ho => let ⟨u, e, v⟩ := hget o ho; ⟨u, e, v.mono (h.sub_new _)⟩)
        have hsame := hh1.turn (by rw [AH.get_new, if_pos rfl]) rfl (K.ext_self κ σ.nx (w.heap.size, cap)) hu o2
        refine ⟨_, rfl, _, _, .slice (some ⟨w.heap.size, 0, none⟩) s.size cap, h.sub_new (w.heap.size, cap), ?_, hsame, ?_⟩
        · simp only [convert, Sem.run_bind, h1.run_und, h2.run_und, h3.run_und, Result.andThen_ok]
          cases ti.d <;> first | exact hrun | rfl
        · have := VR.sl (κ := κ.ext σ.nx (w.heap.size, cap)) (e := 0) (z := 1) (len := s.size) (cap := none) (K.ext_self κ σ.nx (w.heap.size, cap)) rfl (fun _ => by omega)
          simpa using this
      · cases he
    · cases he
  · rename_i a b
    cases hx
    split at he
    · rename_i el sz by_ zz sz2 by2 zz2 hS hD
      split at he
      · rename_i sz3 by3 zz3 hel
        cases he
        have h1 := hE _ _ hS
        have h2 := hE _ _ hD
        have h3 := hE _ _ hel
        refine ⟨_, rfl, .same h ?_ (.sc _)⟩
        rw [run_convert_bytes_string w S D el none a b h1.und h3.und h2.und]
        simp [Conv.bytesToString]
      · cases he
    · cases he
  · rename_i id e z len cap
    cases hx with
    | @sl _ _ _ _ rr c _ kk hk hkk hcc =>
    split at he
    · rename_i el sz by_ zz sz2 by2 zz2 hS hD
      split at he
      · rename_i sz3 by3 zz3 n vec T' cs hel hcs
        have h1 := hE _ _ hS
        have h2 := hE _ _ hD
        have h3 := hE _ _ hel
        obtain ⟨hz, he⟩ := cond_none he
        obtain ⟨hle, he⟩ := cond_none he
        have hz := nbeq_eq hz
        have hle := ble_le hle
        split at he
        · rename_i bs hb
          cases he
          obtain ⟨arr, fz, hO, hn, _, _, hget⟩ := h.cellsAt hcs hk
          obtain ⟨us, hv, hl, hj⟩ := range_vals hget len e hle
          obtain ⟨ns, e1, e2⟩ := bytesOf_vals hv hb
          have hll := load_list (P := E.P) hO e us (by rw [hl]; exact hj)
          rw [hl, e1] at hll
          refine ⟨_, rfl, .same h ?_ (.sc _)⟩
          rw [run_convert_bytes_string w S D el _ _ _ h1.und h3.und h2.und]
          have hez : e * z = e := by rw [hz, Nat.mul_one]
          rw [hez, run_bytesToString w ⟨rr, e, none⟩ len kk ns hll, foldl_push', e2]
          simp
        · cases he
      · cases he
    · cases he
  · cases he

include h in
theorem anilCheck_ok {x : AV} {u : Value} {r : ANext × AH} {o : Oper} {ρ : Operand → Value} {xo : Operand} (ho : o.op = .nilCheck xo) (hu : ρ xo = u) (hx : VR κ x u) (he : anilCheck x σ = some r) :
    NOk E.P B w0 κ (execOp ρ o) w r := by
  unfold anilCheck at he
  split at he
  · cases hx with
    | ptr hk =>
    cases he
    refine ⟨κ, w, _, .refl κ, ?_, h, .val (.ptr hk)⟩
    simp [execOp, ho, hu]
  · cases hx with
    | fn h1 h2 =>
    cases he
    refine ⟨κ, w, _, .refl κ, ?_, h, .val (.fn h1 h2)⟩
    simp [execOp, ho, hu]
  · cases he

include hE in
theorem aeq_ok {T : TypeId} {x y : AV} {u v : Value} {b : Bool} (hx : VR κ x u) (hy : VR κ y v) (he : aeq E T x y = some b) : (Op.equal T u v).run E.P w = .ok b w := by
  unfold aeq at he
  split at he
  · rename_i ti hti
    have ht := hE _ _ hti
    have e1 : Op.equal T u v = Op.equalIn (9999 + 1) T u v := rfl
    rw [e1, Op.equalIn]
    simp only [Sem.run_bind, ht.run_und, Result.andThen_ok]
    split at he <;> first | (cases he; done) | (rename_i hd; cases he; cases hx; cases hy; simp [hd])
  · cases he

theorem aeq_shape {T : TypeId} {x y : AV} {u v : Value} {b : Bool} (hx : VR κ x u) (hy : VR κ y v) (he : aeq E T x y = some b) :
    binOp .eql T u v = (do pure (.bool (← Op.equal T u v))) ∧ binOp .neq T u v = (do pure (.bool (!(← Op.equal T u v)))) ∧ ∀ op xo yo (w : World), (eqGuard op T xo yo u v).run E.P w = .ok () w := by
  unfold aeq at he
  split at he
  · split at he <;> first | (cases he; done) | (cases he; cases hx; cases hy; exact ⟨rfl, rfl, fun op xo yo w => by simp only [eqGuard]; split <;> rfl⟩)
  · cases he

include hE h in
theorem abinOp_ok {op : BinOp} {T yT : TypeId} {x y : AV} {u v : Value} {r : ANext × AH} {o : Oper} {ρ : Operand → Value} {xo yo : Operand} (ho : o.op = .binOp op T xo yo yT) (hu : ρ xo = u) (hv : ρ yo = v)
    (hx : VR κ x u) (hy : VR κ y v) (he : abinOp E op T x y σ = some r) : NOk E.P B w0 κ (execOp ρ o) w r := by
  have key : ∀ (z : Value), (eqGuard op T xo yo u v).run E.P w = .ok () w → (binOp op T u v).run E.P w = .ok z w → (execOp ρ o).run E.P w = .ok (.value z) w := by
    intro z h1 h2
    simp only [execOp, ho, hu, hv, Sem.run_bind, h1, h2, Result.andThen_ok, Sem.run_pure]
  unfold abinOp at he
  split at he
  · cases hx; cases hy
    split at he
    · rename_i z hz
      cases he
      refine ⟨κ, w, _, .refl κ, key z ?_ (pureRun_ok _ _ hz w), h, .val (.sc z)⟩
      simp only [eqGuard]; split <;> rfl
    · cases he
  · rename_i a b
    cases hx; cases hy
    have hg : (eqGuard op T xo yo (.string a) (.string b)).run E.P w = .ok () w := by simp only [eqGuard]; split <;> rfl
    split at he
    · cases he
      refine ⟨κ, w, _, .refl κ, key (.bool (eqB a.data.toList b.data.toList)) hg ?_, h, .val (.sc _)⟩
      rw [eqB_eq]
      have : (a.toList == b.toList) = decide (a.data.toList = b.data.toList) := by
        rw [ByteArray.toList_eq, ByteArray.toList_eq, Bool.eq_iff_iff]; simp only [decide_eq_true_eq, beq_iff_eq]
      simp [binOp, Op.stringOp, this]
    · cases he
      refine ⟨κ, w, _, .refl κ, key (.bool (!eqB a.data.toList b.data.toList)) hg ?_, h, .val (.sc _)⟩
      rw [eqB_eq]
      have : (a.toList == b.toList) = decide (a.data.toList = b.data.toList) := by
        rw [ByteArray.toList_eq, ByteArray.toList_eq, Bool.eq_iff_iff]; simp only [decide_eq_true_eq, beq_iff_eq]
      simp [binOp, Op.stringOp, this]
    · obtain ⟨h1, he⟩ := cond_none he
      cases he
      have h1 := ble_le h1
      refine ⟨κ, w, _, .refl κ, key (.string ⟨(a.data.toList ++ b.data.toList).toArray⟩) hg ?_, h, .val (.sc _)⟩
      have hs : ¬ (((a.size + b.size : Nat) : Int) > IntKind.i64.max) := by
        have e1 : a.data.toList.length = a.size := by simp
        have e2 : b.data.toList.length = b.size := by simp
        have : IntKind.i64.max = 9223372036854775807 := by decide
        rw [this]; omega
      have hap : a ++ b = ⟨(a.data.toList ++ b.data.toList).toArray⟩ := by
        apply ba_ext
        simp
      simp only [binOp, Op.stringOp]
      rw [if_neg hs, hap]; rfl
    · cases he
  · cases hx; cases hy
    split at he
    · rename_i z hz
      cases he
      refine ⟨κ, w, _, .refl κ, key z ?_ (pureRun_ok _ _ hz w), h, .val (.sc z)⟩
      simp only [eqGuard]; split <;> rfl
    · cases he
  · split at he
    · rename_i b hb
      cases he
      obtain ⟨e1, _, e3⟩ := aeq_shape hx hy hb
      refine ⟨κ, w, _, .refl κ, key (.bool b) (e3 _ _ _ w) ?_, h, .val (.sc _)⟩
      rw [e1]
      simp [aeq_ok hE hx hy hb]
    · rename_i b hb
      cases he
      obtain ⟨_, e2, e3⟩ := aeq_shape hx hy hb
      refine ⟨κ, w, _, .refl κ, key (.bool !b) (e3 _ _ _ w) ?_, h, .val (.sc _)⟩
      rw [e2]
      simp [aeq_ok hE hx hy hb]
    · cases he
end
end Go.Eng
