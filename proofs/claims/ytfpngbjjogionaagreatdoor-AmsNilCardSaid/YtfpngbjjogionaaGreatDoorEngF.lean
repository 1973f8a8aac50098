/- The engine, tenth part: append, copy, len, clear, min. -/
import Derived.Test.YtfpngbjjogionaaGreatDoorEngE
namespace Go.Eng
open Go.RowKit

theorem growBy_le (m : Nat) : ∀ (r c : Nat), Builtin.growBy m r c ≤ c ∨ Builtin.growBy m r c ≤ m + (m + 768) / 4
  | 0, c => .inl (Nat.le_refl _)
  | r + 1, c => by
    simp only [Builtin.growBy]
    split
    · exact .inl (Nat.le_refl _)
    · rcases growBy_le m r (c + (c + 768) / 4) with h | h
      · exact .inr (by omega)
      · exact .inr h
theorem nextcap_le (m c : Nat) (h : c < m) : Builtin.nextslicecap m c ≤ 2 * m + 768 := by
  unfold Builtin.nextslicecap
  split
  · omega
  · split
    · omega
    · rcases growBy_le m 4 c with h' | h' <;> omega

section
variable {E : Env} {B : Nat} {w0 : World} {κ : K} {σ : AH} {w : World} (hE : TTok E) (h : HR B w0 κ σ w)

theorem lenOf_ok (P : Program) {x : AV} {u : Value} {n : Nat} (hx : VR κ x u) (he : lenOf x = some n) (w : World) : (Builtin.lenOf u).run P w = .ok n w := by
  cases hx with
  | sc =>
    unfold lenOf at he
    split at he
    · rename_i heq; cases heq; cases he; rfl
    · rename_i heq; cases heq; cases he; rfl
    · rename_i heq; cases heq
    · cases he
  | sl _ _ _ => simp [lenOf] at he; subst he; rfl
  | _ => simp [lenOf] at he

include h in
theorem firstCells_ok (P : Program) {z n : Nat} {x : AV} {u : Value} {l : List AV} (hx : VR κ x u) (he : firstCells z n x σ = some l) :
    ∃ us : List Value, (Builtin.firstCells z n u).run P w = .ok us.toArray w ∧ VRL κ l us := by
  unfold firstCells at he
  split at he
  · cases hx
    cases he
    exact ⟨[], rfl, .nil⟩
  · rename_i s
    cases hx
    obtain ⟨_, he⟩ := cond_none he
    cases he
    refine ⟨(s.data.toList.take n).map fun b => Value.int .u8 b.toNat, ?_, ?_⟩
    · simp only [Builtin.firstCells, Sem.run_pure]
      congr 1
      apply Array.ext'
      simp [ByteArray.extract, ByteArray.copySlice]
    · have := VRL.of_sc (κ := κ) ((s.data.toList.take n).map fun b => Value.int .u8 b.toNat)
      rw [List.map_map] at this
      exact this
  · rename_i id e z' len cap
    cases hx with
    | @sl _ _ _ _ rr c _ kk hk hkk hcc =>
    split at he
    · rename_i k vec T' cs hc
      obtain ⟨h1, he⟩ := cond_none he
      obtain ⟨h2, he⟩ := cond_none he
      cases he
      have h1 := nbeq_eq h1
      obtain ⟨arr, fz, hO, hn, _, _, hget⟩ := h.cellsAt hc hk
      obtain ⟨us, hv, hl, hj⟩ := range_vals hget (n * z) (e * z) (ble_le h2)
      refine ⟨us, ?_, hv⟩
      have := load_list (P := P) hO (e * z) us (by rw [hl]; exact hj)
      rw [hl] at this
      simpa [Builtin.firstCells, h1] using this
    · cases he
  · cases he

theorem firstCells_len {z n : Nat} {x : AV} {l : List AV} (he : firstCells z n x σ = some l) (hn : lenOf x = some n) : l.length = n * z := by
  unfold firstCells at he
  split at he
  · cases he
    simp only [lenOf] at hn
    split at hn
    · cases hn; simp
    · rename_i heq; cases heq
    · rename_i heq; cases heq
    · cases hn
  · obtain ⟨h1, he⟩ := cond_none he
    cases he
    have h1 := nbeq_eq h1
    simp [lenOf] at hn
    subst hn
    rw [h1]; simp
  · split at he
    · obtain ⟨_, he⟩ := cond_none he
      obtain ⟨_, he⟩ := cond_none he
      cases he
      rw [getRange_length]
    · cases he
  · cases he

theorem getRange_lf (d : AV) (off : Nat) : ∀ (n i : Nat) (x : AV), (getRange { d, t := .lf } off n)[i]? = some x → x = d := by
  intro n i x hx
  have hi := (List.getElem?_eq_some_iff.1 hx).1
  rw [getRange_length] at hi
  rw [getRange_get _ _ _ _ hi] at hx
  simp [Cells.get, Tr.get_lf] at hx
  exact hx.symm

theorem joinCells_get {z n : Nat} {x : AV} {new old : List AV} (he : firstCells z n x σ = some new) (i : Nat) (y : AV) (hy : (old ++ new)[i]? = some y) : (joinCells σ x old new).get i = y := by
  have plain : ∀ l : List AV, l[i]? = some y → ({ d := undefA, t := Tr.ofList l 0 .lf } : Cells).get i = y := by
    intro l hl
    have hi := (List.getElem?_eq_some_iff.1 hl).1
    simp only [Cells.get, Tr.get_ofList]
    rw [if_pos (by omega), Nat.sub_zero, hl]; rfl
  unfold joinCells
  split
  · split
    · split
      · rename_i _ _ d hc
        simp only [firstCells, hc] at he
        obtain ⟨_, he⟩ := cond_none he
        obtain ⟨_, he⟩ := cond_none he
        cases he
        have := getRange_lf d _ _ i y (by simpa using hy)
        simp [Cells.get, Tr.get_lf, this]
      · exact plain _ (by simpa using hy)
    · exact plain _ (by simpa using hy)
  · exact plain _ hy

/-- The block that an append makes. -/
theorem or_append {z need cap : Nat} {x : AV} {old new : List AV} {us ws : List Value} {rest : Array Value} {n : Nat} (T : TypeId) (he : firstCells z n x σ = some new) (hold : VRL κ old us) (hnew : VRL κ new ws)
    (hlen : old.length + new.length = need * z) (hrest : rest.size = (cap - need) * z) (hcap : need ≤ cap) : OR κ cap (.cells (need * z) (some z) T (joinCells σ x old new)) (.cells (us.toArray ++ ws.toArray ++ rest) T) := by
  have h1 := hold.length
  have h2 := hnew.length
  have hsize : (us.toArray ++ ws.toArray ++ rest).size = cap * z := by
    have : cap * z = need * z + (cap - need) * z := by rw [← Nat.add_mul]; congr 1; omega
    simp [hrest, h1, h2]; omega
  refine .cells ?_ (by intro e; cases e) (fun z' e => by cases e; exact hsize) (fun o _ => by simp) fun o ho => ?_
  · rw [hsize]; exact Nat.mul_le_mul_right z hcap
  · have hlt : o < (old ++ new).length := by rw [List.length_append]; omega
    obtain ⟨y, hy, hv⟩ := (hold.append hnew).get o _ (List.getElem?_eq_getElem hlt)
    refine ⟨y, ?_, ?_⟩
    · have hlt2 : o < (us.toArray ++ ws.toArray).size := by
        simp [h1, h2]
        simpa using hlt
      rw [Array.getElem?_append_left hlt2]
      simpa using hy
    · rw [joinCells_get he o _ (List.getElem?_eq_getElem hlt)]
      exact hv

/-- An append that grows: the model's run. -/
theorem append_grow {P : Program} {sT xT el : TypeId} {ti tx te : TI} (hs : TIok P sT ti) (hsd : ti.d = .slice el) (hx : TIok P xT tx) (hxd : (∃ e, tx.d = .slice e) ∨ tx.d = .string) (ht : TIok P el te)
    {base : Option Addr} {sLen sCap n : Nat} {x : Value} {us ws : List Value} {tys : Array TypeId} (h0 : tys[0]? = some sT) (h1 : tys[1]? = some xT) (ty : TypeId)
    (hl : (Builtin.lenOf x).run P w = .ok n w) (hgrow : sCap < sLen + n) (hn : sLen + n ≤ 1048576) (hb : te.bytes ≤ 65536)
    (hold' : (Builtin.firstCells te.sz sLen (.slice base sLen sCap)).run P w.drew = .ok us.toArray w.drew) (hnew : (Builtin.firstCells te.sz n x).run P w.drew = .ok ws.toArray w.drew) :
    ∃ cap rest, sLen + n ≤ cap ∧ Array.size rest = (cap - (sLen + n)) * te.sz ∧ (Builtin.append_ tys ty #[.slice base sLen sCap, x]).run P w =
      .ok (.slice (some ⟨w.heap.size, 0, none⟩) (sLen + n) cap) (w.drew.alloc (.cells (us.toArray ++ ws.toArray ++ rest) el)) := by
  have hq := drew_of_choose (P := P) (w := w) (q := .appendCap (sLen + n) sCap el) rfl
  have hle : sLen + n ≤ (Question.appendCap (sLen + n) sCap el).cut (w.tape w.drawn (.appendCap (sLen + n) sCap el)) := by show sLen + n ≤ sLen + n + _; omega
  generalize (Question.appendCap (sLen + n) sCap el).cut (w.tape w.drawn (.appendCap (sLen + n) sCap el)) = cap at hq hle
  obtain ⟨inf, hinf, hb1, hb2⟩ := ht.run_info w
  refine ⟨cap, Builtin.zeroCells te.zero.cells (cap - (sLen + n)), hle, by simp [Builtin.zeroCells, ht.zsz], ?_⟩
  have hmax : IntKind.i64.max = 9223372036854775807 := by decide
  have hnc := nextcap_le (sLen + n) sCap hgrow
  have hmul : Builtin.nextslicecap (sLen + n) sCap * te.bytes ≤ (2 * 1048576 + 768) * 65536 := Nat.mul_le_mul (by omega) hb
  have hinf' : (typeInfo el).run P w.drew = .ok inf w.drew := by
    obtain ⟨inf', hi', _⟩ := ht.run_info w.drew
    have e1 : P.info? el = some inf := by
      obtain ⟨i, e, _⟩ := ht.info
      have : (typeInfo el).run P w = .ok i w := by simp [typeInfo, e]
      rw [hinf] at this; cases this; exact e
    simp [typeInfo, e1]
  have h48 : (2 : Nat) ^ 48 = 281474976710656 := by decide
  rcases hxd with ⟨xe, hd⟩ | hd
  all_goals
    unfold Builtin.append_
    simp only [h0, List.getElem?_toArray, List.getElem?_cons_zero, List.getElem?_cons_succ, Sem.run_bind, hs.run_und, hsd, Result.andThen_ok, ht.run_size, h1, hx.run_und, Sem.run_pure, hd, Bool.false_eq_true, if_false, hl]
    rw [if_neg (by omega)]
    simp only [Sem.run_bind, hinf, hb1, Result.andThen_ok, false_or]
    rw [if_neg (by rintro ⟨a, _⟩; rw [hmax] at a; omega)]
    simp only [Sem.run_bind, hinf, hb1, Result.andThen_ok]
    rw [if_neg (by rw [h48]; omega)]
    simp only [Sem.run_bind, hq, Result.andThen_ok, hinf', run_askRoom, hold', Bool.not_false, if_true, hnew, ht.run_zero, newRow, run_newObj, Sem.run_pure, World.alloc_eq, World.size_drew]

/-- An append within the capacity: the model's run. -/
theorem append_room {P : Program} {sT xT el : TypeId} {ti tx te : TI} (hs : TIok P sT ti) (hsd : ti.d = .slice el) (hx : TIok P xT tx) (hxd : (∃ e, tx.d = .slice e) ∨ tx.d = .string) (ht : TIok P el te)
    {base : Option Addr} {sLen sCap n : Nat} {x : Value} {ws : List Value} {tys : Array TypeId} (h0 : tys[0]? = some sT) (h1 : tys[1]? = some xT) (ty : TypeId)
    (hl : (Builtin.lenOf x).run P w = .ok n w) (hroom : sLen + n ≤ sCap) (hnew : (Builtin.firstCells te.sz n x).run P w = .ok ws.toArray w) {w' : World}
    (hst : ∀ a, base = some a → (storeCells (a.add (sLen * te.sz)) ws).run P w = .ok () w') (hno : base = none → w' = w) :
    (Builtin.append_ tys ty #[.slice base sLen sCap, x]).run P w = .ok (.slice base (sLen + n) sCap) w' := by
  rcases hxd with ⟨xe, hd⟩ | hd
  all_goals
    unfold Builtin.append_
    simp only [h0, List.getElem?_toArray, List.getElem?_cons_zero, List.getElem?_cons_succ, Sem.run_bind, hs.run_und, hsd, Result.andThen_ok, ht.run_size, h1, hx.run_und, Sem.run_pure, hd, Bool.false_eq_true, if_false, hl]
    rw [if_pos hroom]
    simp only [Sem.run_bind, Bool.not_false, if_true, hnew, Result.andThen_ok]
    cases base with
    | none => rw [hno rfl]; rfl
    | some a =>
      have := hst a rfl
      simp only [Sem.run_bind, this, Result.andThen_ok, Sem.run_pure]

theorem vecIs_eq {vec : Option Nat} {z : Nat} (he : vecIs vec z = true) : vec = some z := by
  cases vec with
  | none => simp [vecIs] at he
  | some y => simp only [vecIs] at he; rw [nbeq_eq he]

/-- The cells behind a store of a row. -/
theorem put_get {arr arr' : Array Value} {n off : Nat} {c : Cells} {l : List AV} {us : List Value} (hl : VRL κ l us) (hget : ∀ o, o < n → ∃ u, arr[o]? = some u ∧ VR κ (c.get o) u)
    (hg : ∀ j : Nat, arr'[j]? = if off ≤ j ∧ j < off + us.length then us[j - off]? else arr[j]?) (m : Nat) (hm : m ≤ n ∨ m ≤ off + us.length ∧ off ≤ n) : ∀ o, o < m → ∃ u, arr'[o]? = some u ∧ VR κ ((putRange c off l).get o) u := by
  intro o ho
  have hlen := hl.length
  rw [hg o, putRange_get]
  by_cases hin : off ≤ o ∧ o < off + us.length
  · rw [if_pos hin, if_pos (by omega)]
    have hlt : o - off < l.length := by omega
    obtain ⟨y, hy, hv⟩ := hl.get (o - off) _ (List.getElem?_eq_getElem hlt)
    refine ⟨y, hy, ?_⟩
    rw [List.getElem?_eq_getElem hlt]
    exact hv
  · rw [if_neg hin, if_neg (by omega)]
    exact hget o (by omega)

include hE h in
theorem aappend_ok {tys : Array TypeId} {s x : AV} {us ux : Value} {r : ANext × AH} (ty : TypeId) (hs : VR κ s us) (hx : VR κ x ux) (he : aappend E tys s x σ = some r) :
    ∃ v, r.1 = .val v ∧ SOk E.P B w0 κ (Builtin.append_ tys ty #[us, ux]) w v r.2 := by
  unfold aappend at he
  split at he
  · rename_i sT xT h0 h1
    split at he
    · rename_i el sz by_ zz hsT hxT
      have ht := hE _ _ hsT
      obtain ⟨tx, htx, hxd⟩ : ∃ tx, E.TT xT = some tx ∧ ((∃ e, tx.d = .slice e) ∨ tx.d = .string) := by
        split at hxT
        · rename_i a b c d e; exact ⟨_, e, .inl ⟨_, rfl⟩⟩
        · rename_i b c d e; exact ⟨_, e, .inr rfl⟩
        · cases hxT
      have htx := hE _ _ htx
      split at he
      · rename_i te n hte hn
        have ht2 := hE _ _ hte
        split at he
        · rename_i new hnew
          replace he := cond_none' he
          obtain ⟨hz, he⟩ := he
          have hz : ¬ te.sz = 0 := fun e => by rw [e] at hz; simp at hz
          replace he := cond_none he
          obtain ⟨hsmall, he⟩ := he
          simp only [Bool.and_eq_true] at hsmall
          have hby := ble_le hsmall.1
          have hnl := ble_le hsmall.2
          have hlen : ∀ w, (Builtin.lenOf ux).run E.P w = .ok n w := lenOf_ok E.P hx hn
          obtain ⟨ws, hws, hvw⟩ := firstCells_ok h E.P hx hnew
          obtain ⟨ws', hws', hvw'⟩ := firstCells_ok h.drew E.P hx hnew
          split at he
          · cases hs
            cases hn0 : Nat.beq n 0 with
            | true =>
              rw [hn0, cond_true] at he
              cases he
              have hn0 := nbeq_eq hn0
              subst hn0
              refine ⟨_, rfl, .same h ?_ (.sc _)⟩
              exact append_room ht rfl htx hxd ht2 h0 h1 ty (hlen w) (by omega) hws (fun a e => by cases e) (fun _ => rfl)
            | false =>
              rw [hn0, cond_false] at he
              cases he
              have hn0 : ¬ n = 0 := fun e => by rw [e] at hn0; simp at hn0
              obtain ⟨cap, rest, hcap, hrest, hrun⟩ := append_grow (us := []) ht rfl htx hxd ht2 h0 h1 ty (hlen w) (base := none) (sLen := 0) (sCap := 0) (by omega) (by omega) hby rfl hws'
              simp only [Nat.zero_add] at hcap hrest hrun
              have hor := or_append (σ := σ) (old := []) (us := []) (need := n) (cap := cap) el hnew .nil hvw' (by
                simp [firstCells_len hnew hn]) hrest hcap
              refine ⟨_, rfl, _, _, _, h.sub_new (w.heap.size, cap), hrun, h.drew.new hor, ?_⟩
              have := VR.sl (κ := κ.ext σ.nx (w.heap.size, cap)) (e := 0) (z := te.sz) (len := n) (cap := none) (K.ext_self κ σ.nx (w.heap.size, cap)) rfl (fun _ => by omega)
              simpa using this
          · rename_i id e z len cap
            cases hs with
            | @sl _ _ _ _ rr c _ kk hk hkk hcc =>
            split at he
            · rename_i k vec T' cs hc
              obtain ⟨hz2, he⟩ := cond_none he
              have hz2 := nbeq_eq hz2
              subst hz2
              obtain ⟨hbig, he⟩ := cond_none he
              have hbig := ble_le hbig
              obtain ⟨arr, fz, hO, hna, ⟨hv1, hv2⟩, hfz, hget⟩ := h.cellsAt hc hk
              have hnl2 := firstCells_len hnew hn
              have hwl := hvw.length
              -- what an append that grows comes to
              have grow : (e + len) * te.sz ≤ k → kk < len + n → ∃ κ' w' u, K.Sub κ κ' ∧ (Builtin.append_ tys ty #[.slice (some ⟨rr, e * te.sz, none⟩) len kk, ux]).run E.P w = .ok u w' ∧
                  HR B w0 κ' (σ.new (.cells ((len + n) * te.sz) (some te.sz) el (joinCells σ x (getRange cs (e * te.sz) (len * te.sz)) new))) w' ∧ VR κ' (.sl σ.nx 0 te.sz (len + n) none) u ∧
                  ∃ cap rest us, w' = w.drew.alloc (.cells (us ++ rest) el) ∧ κ' = κ.ext σ.nx (w.heap.size, cap) := by
                intro hk1 hg
                obtain ⟨us, hvu, hlu, hju⟩ := range_vals hget (len * te.sz) (e * te.sz) (by rw [← Nat.add_mul]; exact hk1)
                have hOd : w.drew.heap[rr]? = some (.cells arr T' fz) := hO
                have hld := load_list (P := E.P) hOd (e * te.sz) us (by rw [hlu]; exact hju)
                rw [hlu] at hld
                obtain ⟨cap', rest, hcap, hrest, hrun⟩ := append_grow (us := us) ht rfl htx hxd ht2 h0 h1 ty (hlen w) (base := some ⟨rr, e * te.sz, none⟩) (sLen := len) (sCap := kk) hg hbig hby
                  (by simpa [Builtin.firstCells] using hld) hws'
                have hor := or_append (σ := σ) (old := getRange cs (e * te.sz) (len * te.sz)) (us := us) (need := len + n) (cap := cap') el hnew hvu hvw' (by rw [getRange_length, hnl2, Nat.add_mul]) hrest hcap
                refine ⟨_, _, _, h.sub_new (w.heap.size, cap'), hrun, h.drew.new hor, ?_, cap', rest, _, rfl, rfl⟩
                have := VR.sl (κ := κ.ext σ.nx (w.heap.size, cap')) (e := 0) (z := te.sz) (len := len + n) (cap := none) (K.ext_self κ σ.nx (w.heap.size, cap')) rfl (fun _ => by omega)
                simpa using this
              cases cap with
              | some cp =>
                simp only at he
                have hkc : kk = cp := hkk
                subst hkc
                cases hle : Nat.ble (len + n) kk with
                | true =>
                  rw [hle, cond_true] at he
                  obtain ⟨h3, he⟩ := cond_none he
                  obtain ⟨h4, he⟩ := cond_none he
                  cases he
                  have h3 := ble_le h3
                  obtain ⟨w', arr', hr, hu, hsz, hg⟩ := store_list (P := E.P) (off := (e + len) * te.sz) ws 0 w arr hO hfz (by omega) (hvw.one h4)
                  refine ⟨_, rfl, κ, w', _, .refl κ, append_room ht rfl htx hxd ht2 h0 h1 ty (hlen w) (ble_le hle) hws (w' := w') ?_ (fun e => by cases e),
                    h.put (cellsAt_some hc) rfl hk hu (.cells (by omega) (fun e => by rw [hsz]; exact hv1 e) (fun z e => by rw [hsz]; exact hv2 z e) (fun o ho => hfz o (by omega)) ?_), .sl hk rfl (by intro e; cases e)⟩
                  · intro a ha
                    cases ha
                    rw [add_mul_off]
                    exact hr
                  · exact put_get hvw hget (by simpa using hg) k (.inl (Nat.le_refl k))
                | false =>
                  rw [hle, cond_false] at he
                  obtain ⟨h3, he⟩ := cond_none he
                  cases he
                  have hlt : kk < len + n := by
                    rcases Nat.lt_or_ge kk (len + n) with h' | h'
                    · exact h'
                    · have := Nat.ble_eq_true_of_le h'; rw [hle] at this; cases this
                  obtain ⟨κ', w', u, a1, a2, a3, a4, _⟩ := grow (ble_le h3) hlt
                  exact ⟨_, rfl, κ', w', u, a1, a2, a3, a4⟩
              | none =>
                simp only at he
                obtain ⟨he0, he⟩ := cond_none he
                obtain ⟨hve, he⟩ := cond_none he
                obtain ⟨hke, he⟩ := cond_none he
                obtain ⟨hTe, he⟩ := cond_none he
                obtain ⟨hone, he⟩ := cond_none he
                cases he
                have he0 := nbeq_eq he0
                subst he0
                have hve := vecIs_eq hve
                have hke := nbeq_eq hke
                have hTe := nbeq_eq hTe
                subst hTe
                have hkc : kk = c - 0 := hkk
                have hcl := hcc rfl
                have hasz := hv2 _ hve
                by_cases hroom : len + n ≤ kk
                · have hfit : (0 + len) * te.sz + ws.length ≤ arr.size := by
                    rw [hasz, hwl, hnl2, ← Nat.add_mul]
                    exact Nat.mul_le_mul_right _ (by omega)
                  obtain ⟨w', arr', hr, hu, hsz, hg⟩ := store_list (P := E.P) (off := (0 + len) * te.sz) ws 0 w arr hO hfz (by omega) (hvw.one hone)
                  refine ⟨_, rfl, κ.ext σ.nx (rr, c), w', _, h.sub_new (rr, c), append_room ht rfl htx hxd ht2 h0 h1 ty (hlen w) hroom hws (w' := w') ?_ (fun e => by cases e),
                    h.rename (cellsAt_some hc) rfl hk hu (.cells ?_ (by intro e; cases e) (fun z e => by cases e; rw [hsz]; exact hasz) (fun o ho => hfz o (by omega)) ?_), ?_⟩
                  · intro a ha
                    cases ha
                    rw [add_mul_off]
                    exact hr
                  · rw [hsz, hasz]; exact Nat.mul_le_mul_right _ (by omega)
                  · have hg' : ∀ j : Nat, arr'[j]? = if len * te.sz ≤ j ∧ j < len * te.sz + ws.length then ws[j - len * te.sz]? else arr[j]? := by simpa using hg
                    refine put_get hvw hget hg' _ (.inr ⟨?_, by omega⟩)
                    rw [Nat.add_mul]; omega
                  · have := VR.sl (κ := κ.ext σ.nx (rr, c)) (e := 0) (z := te.sz) (len := len + n) (cap := none) (K.ext_self κ σ.nx (rr, c)) rfl (fun _ => by omega)
                    rw [hkc]
                    simpa using this
                · obtain ⟨us, hvu, hlu, hju⟩ := range_vals hget (len * te.sz) (0 * te.sz) (by omega)
                  have hOd : w.drew.heap[rr]? = some (.cells arr T' fz) := hO
                  have hld := load_list (P := E.P) hOd (0 * te.sz) us (by rw [hlu]; exact hju)
                  rw [hlu] at hld
                  obtain ⟨cap', rest, hcap, hrest, hrun⟩ := append_grow (us := us) ht rfl htx hxd ht2 h0 h1 ty (hlen w) (base := some ⟨rr, 0 * te.sz, none⟩) (sLen := len) (sCap := kk) (by omega) hbig hby
                    (by simpa [Builtin.firstCells] using hld) hws'
                  have hwl' := hvw'.length
                  have hsize : (us.toArray ++ ws'.toArray ++ rest).size = cap' * te.sz := by
                    have : cap' * te.sz = len * te.sz + n * te.sz + (cap' - (len + n)) * te.sz := by rw [← Nat.add_mul, ← Nat.add_mul]; congr 1; omega
                    simp [hrest, hlu, hwl', hnl2]; omega
                  have hor : OR κ cap' (.cells ((len + n) * te.sz) (some te.sz) T' (putRange cs (len * te.sz) new)) (.cells (us.toArray ++ ws'.toArray ++ rest) T') := by
                    refine .cells ?_ (by intro e; cases e) (fun z' e => by cases e; exact hsize) (fun o _ => by simp) fun o ho => ?_
                    · rw [hsize]; exact Nat.mul_le_mul_right _ hcap
                    · rw [Nat.add_mul] at ho
                      have hlt2 : o < (us.toArray ++ ws'.toArray).size := by simp [hlu, hwl', hnl2]; omega
                      rw [Array.getElem?_append_left hlt2, putRange_get]
                      by_cases hin : len * te.sz ≤ o
                      · rw [if_pos (by omega)]
                        have hlt : o - len * te.sz < new.length := by omega
                        obtain ⟨y, hy, hv⟩ := hvw'.get _ _ (List.getElem?_eq_getElem hlt)
                        refine ⟨y, ?_, ?_⟩
                        · rw [Array.getElem?_append_right (by simp [hlu]; exact hin)]
                          simp [hlu]
                          exact hy
                        · rw [List.getElem?_eq_getElem hlt]; exact hv
                      · rw [if_neg (by omega)]
                        obtain ⟨y, hy, hv⟩ := hget o (by omega)
                        refine ⟨y, ?_, hv⟩
                        rw [Array.getElem?_append_left (by simp [hlu]; omega)]
                        have := hju o (by omega)
                        simp only [Nat.zero_mul, Nat.zero_add] at this
                        rw [this] at hy
                        simpa using hy
                  refine ⟨_, rfl, _, _, _, h.sub_new (w.heap.size, cap'), hrun, (h.drew.kill id).new hor, ?_⟩
                  have := VR.sl (κ := κ.ext σ.nx (w.heap.size, cap')) (e := 0) (z := te.sz) (len := len + n) (cap := none) (K.ext_self κ σ.nx (w.heap.size, cap')) rfl (fun _ => by omega)
                  simpa using this
            · cases he
          · cases he
        · cases he
      · cases he
    · cases he
  · cases he

include hE h in
theorem acopy_ok {tys : Array TypeId} {d s : AV} {ud us : Value} {r : ANext × AH} (ty : TypeId) (hd : VR κ d ud) (hs : VR κ s us) (he : acopy E tys d s σ = some r) :
    ∃ v, r.1 = .val v ∧ SOk E.P B w0 κ (Builtin.copy_ tys ty #[ud, us]) w v r.2 := by
  unfold acopy at he
  split at he
  · rename_i dT h0
    split at he
    · rename_i el sz by_ zz hdT
      have ht := hE _ _ hdT
      split at he
      · rename_i te n m hte hn hm
        have ht2 := hE _ _ hte
        simp only at he
        have hmn : (cond (Nat.ble n m) n m) = Nat.min n m := by
          cases hb : Nat.ble n m with
          | true => rw [cond_true]; exact (Nat.min_eq_left (ble_le hb)).symm
          | false =>
            rw [cond_false]
            refine (Nat.min_eq_right ?_).symm
            rcases Nat.le_total m n with h' | h'
            · exact h'
            · have := Nat.ble_eq_true_of_le h'; rw [hb] at this; cases this
        rw [hmn] at he
        clear hmn
        split at he
        · rename_i new hnew
          obtain ⟨ws, hws, hvw⟩ := firstCells_ok h E.P hs hnew
          split at he
          · cases hd
            cases he
            simp only [lenOf] at hm
            split at hm
            · rename_i heq
              cases heq
              cases hm
              refine ⟨_, rfl, .same h ?_ (.sc _)⟩
              unfold Builtin.copy_
              simp only [h0, List.getElem?_toArray, List.getElem?_cons_zero, List.getElem?_cons_succ, Sem.run_bind, ht.run_und, Result.andThen_ok, lenOf_ok E.P hs hn, ht2.run_size, hws, Sem.run_pure]
              rfl
            · rename_i heq; cases heq
            · rename_i heq; cases heq
            · cases hm
          · rename_i id e z len cap
            cases hd with
            | @sl _ _ _ _ rr c _ kk hk hkk hcc =>
            simp only [lenOf, Option.some.injEq] at hm
            subst hm
            split at he
            · rename_i kc vec T' cs hc
              obtain ⟨hz2, he⟩ := cond_none he
              obtain ⟨h3, he⟩ := cond_none he
              obtain ⟨h4, he⟩ := cond_none he
              cases he
              have h3 := ble_le h3
              obtain ⟨arr, fz, hO, hna, ⟨hv1, hv2⟩, hfz, hget⟩ := h.cellsAt hc hk
              have hwl := hvw.length
              obtain ⟨w', arr', hr, hu, hsz, hg⟩ := store_list (P := E.P) (off := e * z) ws 0 w arr hO hfz (by omega) (hvw.one h4)
              refine ⟨_, rfl, κ, w', .int .i64 (Int.ofNat _), .refl κ, ?_, h.put (cellsAt_some hc) rfl hk hu (.cells (by omega) (fun e => by rw [hsz]; exact hv1 e) (fun z e => by rw [hsz]; exact hv2 z e) (fun o ho => hfz o (by omega)) ?_), .sc _⟩
              · unfold Builtin.copy_
                simp only [h0, List.getElem?_toArray, List.getElem?_cons_zero, List.getElem?_cons_succ, Sem.run_bind, ht.run_und, Result.andThen_ok, lenOf_ok E.P hs hn, ht2.run_size, hws, hr, Sem.run_pure]
                rfl
              · exact put_get hvw hget (by simpa using hg) kc (.inl (Nat.le_refl kc))
            · cases he
          · cases he
        · cases he
      · cases he
    · cases he
  · cases he

include hE h in
theorem alen_ok {tys : Array TypeId} {x : AV} {u : Value} {r : ANext × AH} (ty : TypeId) (hx : VR κ x u) (he : alen E tys x σ = some r) :
    ∃ v y, r = (.val v, σ) ∧ (Builtin.len_ tys ty #[u]).run E.P w = .ok y w ∧ VR κ v y := by
  unfold alen at he
  split at he
  · rename_i T h0
    split at he
    · rename_i ti hti
      have ht := hE _ _ hti
      split at he
      · rename_i hd
        cases he; cases hx
        refine ⟨_, _, rfl, ?_, .sc _⟩
        unfold Builtin.len_
        simp only [h0, List.getElem?_toArray, List.getElem?_cons_zero, Sem.run_bind, ht.run_und, Result.andThen_ok, hd]
        rfl
      · rename_i n el hd
        cases he
        refine ⟨_, _, rfl, ?_, .sc _⟩
        unfold Builtin.len_
        simp only [h0, List.getElem?_toArray, List.getElem?_cons_zero, Sem.run_bind, ht.run_und, Result.andThen_ok, hd]
        rfl
      · rename_i hd
        cases he; cases hx
        refine ⟨_, _, rfl, ?_, .sc _⟩
        unfold Builtin.len_
        simp only [h0, List.getElem?_toArray, List.getElem?_cons_zero, Sem.run_bind, ht.run_und, Result.andThen_ok, hd]
        rfl
      · rename_i hd
        cases he
        cases hx with
        | sl _ _ _ =>
        refine ⟨_, _, rfl, ?_, .sc _⟩
        unfold Builtin.len_
        simp only [h0, List.getElem?_toArray, List.getElem?_cons_zero, Sem.run_bind, ht.run_und, Result.andThen_ok, hd]
        rfl
      · rename_i hd
        cases he; cases hx
        refine ⟨_, _, rfl, ?_, .sc _⟩
        unfold Builtin.len_
        simp only [h0, List.getElem?_toArray, List.getElem?_cons_zero, Sem.run_bind, ht.run_und, Result.andThen_ok, hd]
        rfl
      · rename_i id hd
        cases hx with
        | mp hk =>
        split at he
        · rename_i es ck hg
          cases he
          obtain ⟨ents, hO, hent⟩ := map_of h hg hk
          refine ⟨_, .int .i64 ((ents.size : Nat) : Int), rfl, ?_, ?_⟩
          · unfold Builtin.len_
            simp only [h0, List.getElem?_toArray, List.getElem?_cons_zero, Sem.run_bind, ht.run_und, Result.andThen_ok, hd, run_getObj_map hO]
            rfl
          · have := hent.length
            rw [Array.length_toList] at this
            rw [this]
            exact .sc _
        · cases he
      · cases he
    · cases he
  · cases he

include hE h in
theorem aclear_ok {tys : Array TypeId} {x : AV} {u : Value} {r : ANext × AH} (ty : TypeId) (hx : VR κ x u) (he : aclear E tys x σ = some r) :
    ∃ v, r.1 = .val v ∧ SOk E.P B w0 κ (Builtin.clear_ tys ty #[u]) w v r.2 := by
  unfold aclear at he
  split at he
  · rename_i T h0
    split at he
    · rename_i ti a b hti
      have ht := hE _ _ hti
      cases hx; cases he
      refine ⟨_, rfl, .same h ?_ (.sc (.tuple #[]))⟩
      unfold Builtin.clear_
      simp only [h0, List.getElem?_toArray, List.getElem?_cons_zero, Sem.run_bind, ht.run_und, Result.andThen_ok]
      cases ti.d <;> rfl
    · rename_i el sz by_ zz id e z n cap hti
      have ht := hE _ _ hti
      cases hx with
      | @sl _ _ _ _ rr c _ kk hk hkk hcc =>
      split at he
      · rename_i te kc vec T' cs hte hc
        have ht2 := hE _ _ hte
        obtain ⟨hz2, he⟩ := cond_none he
        obtain ⟨h3, he⟩ := cond_none he
        obtain ⟨h4, he⟩ := cond_none he
        obtain ⟨h5, he⟩ := cond_none he
        cases he
        have h3 := ble_le h3
        have h4 := nbeq_eq h4
        obtain ⟨arr, fz, hO, hna, ⟨hv1, hv2⟩, hfz, hget⟩ := h.cellsAt hc hk
        have hvz := rep_vals (κ := κ) te.zero.cells n
        have hvl := hvz.length
        have hl2 : (repList (te.zero.cells.toList.map AV.sc) n).length = n * z := by rw [repList_length]; rw [show (te.zero.cells.toList.map AV.sc).length = z from h4]
        have hall : ∀ n, allOne (repList (zeroCells te.zero) n) = true := by
          intro n
          induction n with
          | zero => rfl
          | succ n ih =>
            have app : ∀ (a b : List AV), allOne a = true → allOne b = true → allOne (a ++ b) = true := by
              intro a b
              induction a with
              | nil => intro _ hb; exact hb
              | cons x a iha =>
                intro ha hb
                simp only [allOne] at ha
                cases hx : oneA x with
                | false => simp [hx] at ha
                | true =>
                  simp only [hx, cond_true] at ha
                  simp only [List.cons_append, allOne, hx, cond_true]
                  exact iha ha hb
            exact app _ _ h5 ih
        obtain ⟨w', arr', hr, hu, hsz, hg⟩ := store_list (P := E.P) (off := e * z) _ 0 w arr hO hfz (by rw [hvl, hl2]; omega) (hvz.one (hall n))
        by_cases hn0 : n = 0
        · subst hn0
          refine ⟨_, rfl, κ, w, .tuple #[], .refl κ, ?_, ?_, .sc _⟩
          · unfold Builtin.clear_
            simp only [h0, List.getElem?_toArray, List.getElem?_cons_zero, Sem.run_bind, ht.run_und, Result.andThen_ok]
            rfl
          · exact h.put (cellsAt_some hc) rfl hk (.refl hO) (.cells hna hv1 hv2 hfz (by simpa [repList, putRange] using hget))
        · refine ⟨_, rfl, κ, w', .tuple #[], .refl κ, ?_, h.put (cellsAt_some hc) rfl hk hu (.cells (by omega) (fun e => by rw [hsz]; exact hv1 e) (fun z e => by rw [hsz]; exact hv2 z e) (fun o ho => hfz o (by omega)) ?_), .sc _⟩
          · obtain ⟨n', rfl⟩ : ∃ n', n = n' + 1 := ⟨n - 1, by omega⟩
            unfold Builtin.clear_
            simp only [h0, List.getElem?_toArray, List.getElem?_cons_zero, Sem.run_bind, ht.run_und, Result.andThen_ok, ht2.run_zero]
            have : (Builtin.zeroCells te.zero.cells (n' + 1)).toList = ((Array.range ((n' + 1) * te.zero.cells.size)).map (fun i => te.zero.cells[i % te.zero.cells.size]!)).toList := rfl
            rw [this, hr]
            rfl
          · exact put_get hvz hget (by simpa using hg) kc (.inl (Nat.le_refl kc))
      · cases he
    · cases he
  · cases he

theorem amin_ok (P : Program) {l : List AV} {us : List Value} {r : ANext × AH} (tys : Array TypeId) (ty : TypeId) (hl : VRL κ l us) (he : amin l σ = some r) :
    ∃ v y, r = (.val v, σ) ∧ (Builtin.min_ tys ty us.toArray).run P w = .ok y w ∧ VR κ v y := by
  unfold amin at he
  split at he
  · rename_i k x k' y
    cases hl with
    | cons h1 hl =>
    cases hl with
    | cons h2 hl =>
    cases hl
    cases h1; cases h2
    cases he
    refine ⟨_, .int k (if y < x then y else x), rfl, ?_, ?_⟩
    · simp [Builtin.min_, Builtin.min2]
    · have : (cond (amin.Int.blt' y x) y x) = if y < x then y else x := by
        unfold amin.Int.blt'
        by_cases hxy : y < x <;> simp [hxy]
      rw [this]
      exact .sc _
  · cases he
end
end Go.Eng
/- The engine, eleventh part: every operation. -/
namespace Go.Eng
open Go.RowKit

structure FIok (P : Program) (f : FuncId) (fi : FI) : Prop where
  fn : ∃ fn, P.funcs[f]? = some fn ∧ (fn.name == "runtime.NumGoroutine") = false ∧ fn.body = some fi.body ∧ fn.ntmps = fi.nt ∧ fn.results.toList = fi.res

theorem FIok.call {P : Program} {f : FuncId} {fi : FI} (h : FIok P f fi) (args : Array Value) (w : World) : (callFunc f args).run P w = .ok (.enter f args) w := by
  obtain ⟨fn, e1, e2, e3, _⟩ := h.fn
  have e4 : ¬ fn.name = "runtime.NumGoroutine" := by simpa using e2
  simp [callFunc, e1, e3, e4]

structure Sound (E : Env) : Prop where
  tt : TTok E
  ft : ∀ f fi, E.FT f = some fi → FIok E.P f fi
  ext : ∀ f args v, E.FT f = none → E.ext f args = some v → ∀ κ us w, VRL κ args us → (callFunc f us.toArray).run E.P w = .ok (.value v) w
  hook : ∀ f args σ v σ', E.hook f args σ = some (v, σ') → ∀ B w0 κ w us, HR B w0 κ σ w → VRL κ args us →
    Calls E.P f us.toArray w fun e w' => ∃ κ' u, K.Sub κ κ' ∧ e = .returned u ∧ VR κ' v u ∧ HR B w0 κ' σ' w'

theorem setMany_ok {κ : K} {n : Nat} : ∀ (ps : List Tmp) {vs : List AV} {us : List Value} {t : Tr AV} {a : Array Value}, ltAll n ps = true → TmR κ n t a → VRL κ vs us →
    TmR κ n (setMany t ps vs) ((ps.zip us).foldl (fun tmps (x : Tmp × Value) => tmps.setIfInBounds x.1 x.2) a)
  | [], _, _, t, a, _, h, _ => by simpa [setMany] using h
  | p :: ps, _, _, t, a, _, h, .nil => by simpa [setMany] using h
  | p :: ps, _, _, t, a, hp, h, .cons hv hl => by
    simp only [ltAll] at hp
    cases h1 : Nat.blt p n with
    | false => simp [h1] at hp
    | true =>
      simp only [h1, cond_true] at hp
      simp only [setMany, List.zip_cons_cons, List.foldl_cons]
      exact setMany_ok ps hp (h.set p (blt_lt h1) hv) hl

theorem VRL.of_map {κ : K} {ρ : Operand → AV} {ρ' : Operand → Value} (hρ : ∀ x, VR κ (ρ x) (ρ' x)) : ∀ (l : List Operand), VRL κ (l.map ρ) (l.map ρ')
  | [] => .nil
  | x :: l => .cons (hρ x) (VRL.of_map hρ l)

theorem OptR.of_map {κ : K} {ρ : Operand → AV} {ρ' : Operand → Value} (hρ : ∀ x, VR κ (ρ x) (ρ' x)) (x : Option Operand) : OptR κ (x.map ρ) (x.map ρ') := by
  cases x with
  | none => trivial
  | some x => exact hρ x

theorem loop_of {B : Nat} {w0 : World} {κ : K} {σ : AH} {w : World} (h : HR B w0 κ σ w) {id r c : Nat} {l : ALoop} (hg : σ.get id = some (.loop l)) (hk : κ id = some (r, c)) :
    ∃ L, w.heap[r]? = some (.loop L) ∧ LoopR κ l L := by
  obtain ⟨r', c', O, e, hO, ho, _⟩ := h.live id _ hg rfl
  rw [hk] at e; cases e
  cases ho with
  | loop h => exact ⟨_, hO, h⟩
theorem run_getLoop {P : Program} {w : World} {r : Nat} {L : Loop} (h : w.heap[r]? = some (.loop L)) : (Instr.getLoop r).run P w = .ok L w := by
  simp [Instr.getLoop, getObj, Sem.run, h]

section
variable {E : Env} {B : Nat} {w0 : World} {κ : K} {σ : AH} {w : World} (S : Sound E) (h : HR B w0 κ σ w)

include S h in
theorem aenter_ok {f : FuncId} {args : List AV} {us : List Value} {r : ANext × AH} (hl : VRL κ args us) (he : aenter E f args σ = some r) : NOk E.P B w0 κ (callFunc f us.toArray) w r := by
  unfold aenter at he
  split at he
  · rename_i fi hf
    cases he
    exact ⟨κ, w, _, .refl κ, (S.ft _ _ hf).call _ w, h, .enter hl⟩
  · rename_i hf
    split at he
    · rename_i v hv
      cases he
      exact ⟨κ, w, _, .refl κ, S.ext _ _ _ hf hv κ us w hl, h, .val (.sc v)⟩
    · cases he

include S h in
theorem acallV_ok {f : AV} {uf : Value} {args : List AV} {us : List Value} {r : ANext × AH} (hf : VR κ f uf) (hl : VRL κ args us) (he : acallV E f args σ = some r) :
    NOk E.P B w0 κ (do let d ← Deferred.ofValue uf us.toArray; invoke d.target d.args) w r := by
  unfold acallV at he
  split at he
  · rename_i g first cap
    cases hf with
    | @fn _ _ _ u1 u2 h1 h2 =>
    have := aenter_ok S h ((h1.append hl).append h2) he
    simpa [Deferred.ofValue, invoke] using this
  · rename_i g first cap
    cases hf
    have h1 := VRL.of_sc (κ := κ) first.toList
    have h2 := VRL.of_sc (κ := κ) cap.toList
    have := aenter_ok S h ((h1.append hl).append h2) he
    have e : (first.toList ++ us ++ cap.toList).toArray = first ++ us.toArray ++ cap := by apply Array.ext'; simp
    rw [e] at this
    exact this
  · rename_i id
    cases hf with
    | @yl _ rr c hk =>
    split at he
    · rename_i l hg
      obtain ⟨hn, he⟩ := cond_none he
      obtain ⟨hps, he⟩ := cond_none he
      cases he
      have hn := nbeq_eq hn
      obtain ⟨L, hO, hL⟩ := loop_of h hg hk
      have hlen := hl.length
      refine ⟨κ, w, _, .refl κ, ?_, h, .round hk (tmps := ((l.ps.toList.zip us).foldl (fun tmps (x : Tmp × Value) => tmps.setIfInBounds x.1 x.2) L.tmps)) (setMany_ok _ hps hL.tm hl)⟩
      have hsz : us.toArray.size = L.params.size := by rw [hL.ps]; simp; omega
      simp only [Deferred.ofValue, pure_bind, invoke, Instr.yield, Sem.run_bind]
      rw [show (#[] ++ us.toArray : Array Value) = us.toArray from by simp]
      simp only [run_getLoop hO, Result.andThen_ok]
      rw [if_neg (by rw [hsz]; simp)]
      simp only [Sem.run_pure, hL.fn, hL.assign, hL.body]
      congr 2
      rw [← Array.foldl_toList, hL.ps]
      simp
    · cases he
  · cases he

include S h in
theorem abuiltin_ok {b : Builtin} {tys : Array TypeId} {args : List AV} {us : List Value} {r : ANext × AH} (ty : TypeId) (cs : Array Bool) (hl : VRL κ args us) (he : abuiltin E b tys args σ = some r) :
    NOk E.P B w0 κ (builtin b tys ty cs us.toArray) w r := by
  have val : ∀ {s : Sem Value} {v : AV} {σ' : AH}, SOk E.P B w0 κ s w v σ' → NOk E.P B w0 κ (do pure (.value (← s))) w (.val v, σ') := fun h => h.next
  unfold abuiltin at he
  split at he
  · cases hl with
    | cons h1 hl =>
    cases hl with
    | cons h2 hl =>
    cases hl
    obtain ⟨v, e, hs⟩ := aappend_ok S.tt h ty h1 h2 he
    have := val hs
    rw [← e] at this
    exact this
  · cases hl with
    | cons h1 hl =>
    cases hl with
    | cons h2 hl =>
    cases hl
    obtain ⟨v, e, hs⟩ := acopy_ok S.tt h ty h1 h2 he
    have := val hs
    rw [← e] at this
    exact this
  · cases hl with
    | cons h1 hl =>
    cases hl
    obtain ⟨v, y, rfl, hs, hv⟩ := alen_ok S.tt h ty h1 he
    exact val (.same h hs hv)
  · cases hl with
    | cons h1 hl =>
    cases hl
    obtain ⟨v, e, hs⟩ := aclear_ok S.tt h ty h1 he
    have := val hs
    rw [← e] at this
    exact this
  · obtain ⟨v, y, rfl, hs, hv⟩ := amin_ok (w := w) E.P tys ty hl he
    exact val (.same h hs hv)
  · cases he

theorem skip_ok {s : Sem Unit} {w' : World} {r : ANext × AH} (e : r.1 = .skip) (hs : s.run E.P w = .ok () w') (hh : HR B w0 κ r.2 w') : NOk E.P B w0 κ (do s; pure .skip) w r := by
  obtain ⟨r1, r2⟩ := r
  cases e
  exact ⟨κ, w', .skip, .refl κ, by simp [hs], hh, .skip⟩

include S h in
theorem aop_ok {o : Oper} {ρ : Operand → AV} {ρ' : Operand → Value} (hρ : ∀ x, VR κ (ρ x) (ρ' x)) {r : ANext × AH} (he : aop E ρ o σ = some r) : NOk E.P B w0 κ (execOp ρ' o) w r := by
  have val : ∀ {s : Sem Value} {v : AV} {σ' : AH}, SOk E.P B w0 κ s w v σ' → NOk E.P B w0 κ (do pure (.value (← s))) w (.val v, σ') := fun h => h.next
  have parts : ∀ (ps : Array (Nat × Operand)), (ps.toList.map fun p => (p.1, ρ p.2)).length = (ps.map fun (i, x) => (i, ρ' x)).toList.length ∧
      ∀ (i : Nat) (p : Nat × AV), (ps.toList.map fun p => (p.1, ρ p.2))[i]? = some p → ∃ q, (ps.map fun (i, x) => (i, ρ' x)).toList[i]? = some q ∧ q.1 = p.1 ∧ VR κ p.2 q.2 := by
    intro ps
    refine ⟨by simp, fun i p hp => ?_⟩
    rw [List.getElem?_map] at hp
    cases hx : ps.toList[i]? with
    | none => rw [hx] at hp; cases hp
    | some x =>
      rw [hx] at hp
      cases hp
      refine ⟨(x.1, ρ' x.2), ?_, rfl, hρ _⟩
      simp only [Array.toList_map, List.getElem?_map, hx, Option.map_some]
  cases hop : o.op with
  | move x =>
    simp only [aop, hop] at he; cases he
    exact ⟨κ, w, _, .refl κ, by simp only [execOp, hop]; rfl, h, .val (hρ x)⟩
  | assign x =>
    simp only [aop, hop] at he; cases he
    exact ⟨κ, w, _, .refl κ, by simp only [execOp, hop]; rfl, h, .val (hρ x)⟩
  | pick c a b =>
    simp only [aop, hop] at he
    have hc := hρ c
    split at he
    · rename_i hq
      rw [hq] at hc; cases he
      refine ⟨κ, w, _, .refl κ, ?_, h, .val (hρ a)⟩
      have : ρ' c = .bool true := by generalize ρ' c = u at hc; cases hc; rfl
      simp [execOp, hop, this, asBool]
    · rename_i hq
      rw [hq] at hc; cases he
      refine ⟨κ, w, _, .refl κ, ?_, h, .val (hρ b)⟩
      have : ρ' c = .bool false := by generalize ρ' c = u at hc; cases hc; rfl
      simp [execOp, hop, this, asBool]
    · cases he
  | alloc T =>
    simp only [aop, hop] at he
    split at he
    · rename_i ti hti
      cases he
      have := val (alloc_ok S.tt h hti (.tuple #[]))
      simp only [execOp, hop]; exact this
    · cases he
  | box T x =>
    simp only [aop, hop] at he; cases he
    have := val (box_ok (E := E) h T (hρ x))
    simp only [execOp, hop]; exact this
  | build T ps =>
    simp only [aop, hop] at he
    obtain ⟨v, x, rfl, hr, hv⟩ := abuild_ok (w := w) S.tt (parts ps).1 (parts ps).2 he
    have := val (.same h hr hv)
    simp only [execOp, hop]; exact this
  | buildSlice T n ps =>
    simp only [aop, hop] at he
    obtain ⟨v, e, hs⟩ := abuildSlice_ok S.tt h (parts ps).1 (parts ps).2 he
    have := val hs
    rw [← e] at this
    simp only [execOp, hop]; exact this
  | load T a =>
    simp only [aop, hop] at he
    obtain ⟨v, x, rfl, hr, hv⟩ := aload_ok S.tt h (hρ a) he
    have := val (.same h hr hv)
    simp only [execOp, hop]; exact this
  | store T a v =>
    simp only [aop, hop] at he
    obtain ⟨e, w', hr, hh⟩ := astore_ok S.tt h (hρ a) (hρ v) he
    have := skip_ok (E := E) e hr hh
    simp only [execOp, hop]; exact this
  | nilCheck x =>
    simp only [aop, hop] at he
    exact anilCheck_ok h hop rfl (hρ x) he
  | binOp op T x y yT =>
    simp only [aop, hop] at he
    exact abinOp_ok S.tt h hop rfl rfl (hρ x) (hρ y) he
  | unOp op T x =>
    simp only [aop, hop] at he
    have hx := hρ x
    split at he
    · rename_i v hq
      rw [hq] at hx
      split at he
      · rename_i z hz
        cases he
        have : ρ' x = v := by generalize ρ' x = u at hx; cases hx; rfl
        have := val (s := Op.unary op (ρ' x)) (.same h (by rw [this]; exact pureRun_ok _ _ hz w) (.sc z))
        simp only [execOp, hop]; exact this
      · cases he
    · cases he
  | convert A D x =>
    simp only [aop, hop] at he
    obtain ⟨v, e, hs⟩ := aconvert_ok S.tt h (hρ x) he
    have := val hs
    rw [← e] at this
    simp only [execOp, hop]; exact this
  | makeFunc f first cap =>
    simp only [aop, hop] at he
    split at he
    · rename_i g
      cases he
      have := VR.fn (κ := κ) (f := .func g) (VRL.of_map hρ first.toList) (VRL.of_map hρ cap.toList)
      refine ⟨κ, w, .value (.func (.func g) (first.map ρ') (cap.map ρ')), .refl κ, by simp [execOp, hop, Instr.makeFunc], h, .val ?_⟩
      have e1 : (first.toList.map ρ').toArray = first.map ρ' := by apply Array.ext'; simp
      have e2 : (cap.toList.map ρ').toArray = cap.map ρ' := by apply Array.ext'; simp
      rw [e1, e2] at this
      exact this
    · cases he
  | makeMap T x =>
    cases x with
    | none =>
      simp only [aop, hop] at he
      cases he
      refine ⟨_, w.alloc (.map #[] 0), _, h.sub_new (w.heap.size, 0), ?_, h.new (.map .nil), .val (.mp (K.ext_self _ _ _))⟩
      simp [execOp, hop, Instr.makeMap]
    | some y => simp [aop, hop] at he
  | makeSlice T l c =>
    simp only [aop, hop] at he
    obtain ⟨v, e, hs⟩ := amakeSlice_ok S.tt h (hρ l) (hρ c) he
    have := val hs
    rw [← e] at this
    simp only [execOp, hop]; exact this
  | slice T x lo hi mx =>
    have hx := hρ x
    simp only [aop, hop] at he
    split at he
    · rename_i s hq
      rw [hq] at hx
      have hxs : ρ' x = .string s := by generalize ρ' x = u at hx; cases hx; rfl
      split at he
      · rename_i sz by_ zz hti
        have ht := S.tt _ _ hti
        unfold sliceStr at he
        split at he
        · rename_i hn ln e1 e2
          obtain ⟨h1, he⟩ := cond_none he
          obtain ⟨h2, he⟩ := cond_none he
          cases he
          have hb := bounds2 E.P w false (OptR.of_map hρ lo) (OptR.of_map hρ hi) e1 e2 (ble_le h1) (ble_le h2)
          have := val (s := Instr.sliceAt T (ρ' x) (lo.map ρ') (hi.map ρ') none) (.same h (u := .string (s.extract ln hn)) (by
            simp [Instr.sliceAt, Instr.slice, ht.run_und, hxs, hb]) (.sc _))
          simp only [execOp, hop]; exact this
        · cases he
      · cases he
    · obtain ⟨v, y, rfl, hr, hv⟩ := aslice_ok (w := w) S.tt hx (OptR.of_map hρ lo) (OptR.of_map hρ hi) (OptR.of_map hρ mx) he
      have := val (.same h hr hv)
      simp only [execOp, hop]; exact this
  | fieldAddr A x f =>
    simp only [aop, hop] at he
    obtain ⟨v, y, rfl, hr, hv⟩ := afieldAddr_ok (w := w) S.tt (hρ x) he
    have := val (.same h hr hv)
    simp only [execOp, hop]; exact this
  | field A x f =>
    simp only [aop, hop] at he
    obtain ⟨v, y, rfl, hr, hv⟩ := afield_ok (w := w) S.tt (hρ x) he
    have := val (.same h hr hv)
    simp only [execOp, hop]; exact this
  | indexAddr T x i =>
    simp only [aop, hop] at he
    obtain ⟨v, y, rfl, hr, hv⟩ := aindexAddr_ok (w := w) S.tt (hρ x) (hρ i) he
    have := val (.same h hr hv)
    simp only [execOp, hop]; exact this
  | index T x i =>
    simp only [aop, hop] at he
    obtain ⟨v, y, rfl, hr, hv⟩ := aindex_ok (w := w) S.tt (hρ x) (hρ i) he
    have := val (.same h hr hv)
    simp only [execOp, hop]; exact this
  | lookup T m k ok =>
    simp only [aop, hop] at he
    obtain ⟨v, y, rfl, hr, hv⟩ := alookup_ok S.tt h (hρ m) (hρ k) he
    have := val (.same h hr hv)
    simp only [execOp, hop]; exact this
  | mapUpdate T m k v =>
    simp only [aop, hop] at he
    obtain ⟨e, w', hr, hh⟩ := ainsert_ok S.tt h (hρ m) (hρ k) (hρ v) he
    have := skip_ok (E := E) e hr hh
    simp only [execOp, hop]; exact this
  | insert T m k v =>
    simp only [aop, hop] at he
    obtain ⟨e, w', hr, hh⟩ := ainsert_ok S.tt h (hρ m) (hρ k) (hρ v) he
    have := skip_ok (E := E) e hr hh
    simp only [execOp, hop]; exact this
  | range T x =>
    simp only [aop, hop] at he
    obtain ⟨v, e, hs⟩ := arange_ok S.tt h (hρ x) he
    have := val hs
    rw [← e] at this
    simp only [execOp, hop]; exact this
  | next x s =>
    simp only [aop, hop] at he
    obtain ⟨v, y, rfl, hr, hv⟩ := anext_ok (E := E) (t := o.type) h (hρ x) he
    have := val (.same h hr hv)
    simp only [execOp, hop]; exact this
  | extract t i =>
    simp only [aop, hop] at he
    obtain ⟨v, y, rfl, hr, hv⟩ := aextract_ok (w := w) E.P (hρ t) he
    have := val (.same h hr hv)
    simp only [execOp, hop]; exact this
  | call c =>
    simp only [aop, hop] at he
    split at he
    · rename_i f hc
      have := acallV_ok S h (hρ f) (VRL.of_map hρ c.args.toList) he
      have e1 : (c.args.toList.map ρ').toArray = c.args.map ρ' := by apply Array.ext'; simp
      rw [e1] at this
      simp only [execOp, hop, resolve, hc]
      exact this
    · rename_i b hc
      have := abuiltin_ok S h o.type (c.args.map fun | .const _ => true | _ => false) (VRL.of_map hρ c.args.toList) he
      have e1 : (c.args.toList.map ρ').toArray = c.args.map ρ' := by apply Array.ext'; simp
      rw [e1] at this
      simp only [execOp, hop, resolve, hc, pure_bind, invoke]
      exact this
    · cases he
  | _ => simp [aop, hop] at he
end
end Go.Eng
/- The engine, twelfth part: frames, and the steps of the machine. -/
namespace Go.Eng
open Go.RowKit

inductive ItR (κ : K) : AIt → Item → Prop
  | code (c : Code) : ItR κ (.code c) (.code c)
  | inBlock (id : Nat) : ItR κ (.inBlock id) (.inBlock id)
  | inLoop (c : Code) : ItR κ (.inLoop c) (.inLoop c)
  | inScope (c : Code) : ItR κ (.inScope c) (.inScope c)
  | reg {ops : Array Oper} {i : Nat} {rest : List Oper} (h : rest = ops.toList.drop i) : ItR κ (.reg ops i rest) (.inRegion ops (List.range' i rest.length))
  | inRF {l r c : Nat} (h : κ l = some (r, c)) : ItR κ (.inRF l) (.inRangeFunc r)
  | endRF {l r c : Nat} (h : κ l = some (r, c)) : ItR κ (.endRF l) (.endRangeFunc r)
  | begin : ItR κ .begin .beginRound

inductive ItsR (κ : K) : List AIt → List Item → Prop
  | nil : ItsR κ [] []
  | cons {a : AIt} {x : Item} {l : List AIt} {k : List Item} (h : ItR κ a x) (hl : ItsR κ l k) : ItsR κ (a :: l) (x :: k)

inductive DfR (κ : K) : List Nat → List Deferred → Prop
  | nil : DfR κ [] []
  | cons {id r c : Nat} {l : List Nat} {k : List Deferred} (h : κ id = some (r, c)) (hl : DfR κ l k) : DfR κ (id :: l) ({ target := .collected r, args := #[] } :: k)

def RndR (κ : K) : Option Nat → Option Nat → Prop
  | none, none => True
  | some l, some r => ∃ c, κ l = some (r, c)
  | _, _ => False

structure FrR (κ : K) (a : AFr) (fr : Frame) : Prop where
  fn : fr.fn = a.fn
  tm : TmR κ a.nt a.tm fr.tmps
  todo : ItsR κ a.todo fr.todo
  df : DfR κ a.df fr.defers
  mode : fr.mode = if a.ret then .returning else .run
  kind : fr.kind = .normal
  rnd : RndR κ a.rnd fr.roundOf

inductive CsR (κ : K) : List AFr → List Frame → Prop
  | nil : CsR κ [] []
  | cons {a : AFr} {fr : Frame} {l : List AFr} {k : List Frame} (h : FrR κ a fr) (hl : CsR κ l k) : CsR κ (a :: l) (fr :: k)

theorem ItR.mono {κ κ' : K} (s : K.Sub κ κ') {a : AIt} {x : Item} (h : ItR κ a x) : ItR κ' a x := by
  cases h with
  | code c => exact .code c
  | inBlock id => exact .inBlock id
  | inLoop c => exact .inLoop c
  | inScope c => exact .inScope c
  | reg h => exact .reg h
  | inRF h => exact .inRF (s _ _ h)
  | endRF h => exact .endRF (s _ _ h)
  | begin => exact .begin
theorem ItsR.mono {κ κ' : K} (s : K.Sub κ κ') {a : List AIt} {x : List Item} (h : ItsR κ a x) : ItsR κ' a x := by
  induction h with
  | nil => exact .nil
  | cons h _ ih => exact .cons (h.mono s) ih
theorem DfR.mono {κ κ' : K} (s : K.Sub κ κ') {a : List Nat} {x : List Deferred} (h : DfR κ a x) : DfR κ' a x := by
  induction h with
  | nil => exact .nil
  | cons h _ ih => exact .cons (s _ _ h) ih
theorem RndR.mono {κ κ' : K} (s : K.Sub κ κ') {a b : Option Nat} (h : RndR κ a b) : RndR κ' a b := by
  cases a <;> cases b <;> simp only [RndR] at h ⊢
  obtain ⟨c, e⟩ := h
  exact ⟨c, s _ _ e⟩
theorem FrR.mono {κ κ' : K} (s : K.Sub κ κ') {a : AFr} {fr : Frame} (h : FrR κ a fr) : FrR κ' a fr :=
  ⟨h.fn, h.tm.mono s, h.todo.mono s, h.df.mono s, h.mode, h.kind, h.rnd.mono s⟩
theorem CsR.mono {κ κ' : K} (s : K.Sub κ κ') {a : List AFr} {x : List Frame} (h : CsR κ a x) : CsR κ' a x := by
  induction h with
  | nil => exact .nil
  | cons h _ ih => exact .cons (h.mono s) ih

theorem FrR.eval {κ : K} {a : AFr} {fr : Frame} (h : FrR κ a fr) (x : Operand) : VR κ (evalA a.tm x) (fr.eval x) := by
  cases x with
  | tmp t => exact h.tm.getD t
  | const v => exact .sc v
  | global g => exact .sc _
  | func f =>
    have := VR.fn (κ := κ) (f := .func f) .nil .nil
    exact this

/-- the last caller's function -/
def baseA : AFr → List AFr → FuncId
  | fr, [] => fr.fn
  | _, c :: cs => baseA c cs
theorem baseA_fn {a b : AFr} (h : a.fn = b.fn) : ∀ cs, baseA a cs = baseA b cs
  | [] => h
  | _ :: _ => rfl

structure Sim (B : Nat) (w0 : World) (g : FuncId) (κ : K) (s : ASt) (fr : Frame) (cs : List Frame) (w : World) : Prop where
  fr : FrR κ s.fr fr
  cs : CsR κ s.cs cs
  hp : HR B w0 κ s.σ w
  base : baseA s.fr s.cs = g

theorem FrR.finish {κ : K} {a a' : AFr} {fr : Frame} (h : FrR κ a fr) {v : AV} {u : Value} (hv : VR κ v u) (he : finishA a v = some a') : FrR κ a' (fr.finish u) ∧ a'.fn = a.fn := by
  obtain ⟨h1, h2, h3, h4, h5, h6, h7⟩ := h
  unfold finishA at he
  split at he
  · rename_i ops i o rest k htodo
    cases he
    rw [htodo] at h3
    obtain ⟨fn, tmps, todo, defers, mode, kind, ro⟩ := fr
    simp only at h1 h2 h3 h4 h5 h6 h7
    cases h3 with
    | cons hi hk =>
    cases hi with
    | reg hr =>
    have ho : ops[i]? = some o := by
      have : (ops.toList.drop i)[0]? = some o := by rw [← hr]; rfl
      simpa using this
    have hrest : rest = ops.toList.drop (i + 1) := by
      have : (o :: rest).drop 1 = (ops.toList.drop i).drop 1 := by rw [hr]
      simpa [List.drop_drop] using this
    refine ⟨⟨h1, ?_, ?_, h4, h5, h6, h7⟩, rfl⟩
    · simp only [Frame.finish, List.length_cons, List.range'_succ, ho, Option.bind_some]
      unfold setDst
      cases hd : o.dst with
      | none => exact h2
      | some d =>
        simp only
        cases hb : Nat.blt d a.nt with
        | true => exact h2.set d (blt_lt hb) hv
        | false =>
          have hge : a.nt ≤ d := by
            rcases Nat.lt_or_ge d a.nt with h' | h'
            · have := Nat.ble_eq_true_of_le h'; rw [show Nat.ble (d + 1) a.nt = Nat.blt d a.nt from rfl, hb] at this; cases this
            · exact h'
          have : tmps.setIfInBounds d u = tmps := Array.setIfInBounds_eq_of_size_le (by rw [h2.size]; exact hge)
          rw [this]; exact h2
    · simp only [Frame.finish, List.length_cons, List.range'_succ]
      exact .cons (.reg hrest) hk
  · rename_i l k htodo
    cases he
    rw [htodo] at h3
    obtain ⟨fn, tmps, todo, defers, mode, kind, ro⟩ := fr
    simp only at h1 h2 h3 h4 h5 h6 h7
    cases h3 with
    | cons hi hk =>
    cases hi with
    | inRF hr => exact ⟨⟨h1, h2, .cons (.endRF hr) hk, h4, h5, h6, h7⟩, rfl⟩
  · rename_i k htodo
    cases he
    rw [htodo] at h3
    obtain ⟨fn, tmps, todo, defers, mode, kind, ro⟩ := fr
    simp only at h1 h2 h3 h4 h5 h6 h7
    cases h3 with
    | cons hi hk =>
    cases hi with
    | begin => exact ⟨⟨h1, h2, hk, h4, h5, h6, h7⟩, rfl⟩
  · cases he

theorem ofList_tm {κ : K} {args : List AV} {us : List Value} (hl : VRL κ args us) {nt : Nat} (hn : args.length ≤ nt) :
    TmR κ nt (Tr.ofList args 0 .lf) (us.toArray ++ Array.replicate (nt - us.toArray.size) undef) := by
  have hlen := hl.length
  refine ⟨by simp; omega, fun i hi => ?_, fun i hi => ?_⟩
  · rw [Tr.get_ofList]
    by_cases h : i < args.length
    · rw [if_pos (by omega)]
      obtain ⟨y, e, hv⟩ := hl.get i _ (List.getElem?_eq_getElem h)
      refine ⟨y, ?_, ?_⟩
      · rw [Array.getElem?_append_left (by simp; omega)]
        simpa using e
      · simpa [List.getElem?_eq_getElem h] using hv
    · rw [if_neg (by omega), Tr.get_lf]
      refine ⟨undef, ?_, VR.undef⟩
      rw [Array.getElem?_append_right (by simp; omega), Array.getElem?_replicate, if_pos (by simp; omega)]
  · rw [Tr.get_ofList, if_neg (by omega), Tr.get_lf]

section
variable {E : Env} (S : Sound E)

include S in
theorem enterA_ok {κ : K} {f : FuncId} {args : List AV} {us : List Value} {fr' : AFr} (hl : VRL κ args us) (he : enterA E f args = some fr') :
    FrR κ fr' (Frame.enter E.P f us.toArray .normal) ∧ fr'.fn = f := by
  unfold enterA at he
  split at he
  · rename_i fi hf
    obtain ⟨hn, he⟩ := cond_none he
    cases he
    obtain ⟨fn, e1, e2, e3, e4, e5⟩ := (S.ft _ _ hf).fn
    have hn := ble_le hn
    refine ⟨⟨rfl, ?_, ?_, .nil, rfl, rfl, trivial⟩, rfl⟩
    · simp only [Frame.enter, e1, Option.map_some, Option.getD_some, e4]
      exact ofList_tm hl hn
    · simp only [Frame.enter, e1, Option.bind_some, e3, Option.getD_some]
      exact .cons (.code _) .nil
  · cases he
end

/-! ### single steps of the model's machine, any frame -/
abbrev FR (fn : FuncId) (tmps : Array Value) (todo : List Item) (defers : List Deferred) (ro : Option Nat) : Frame :=
  { fn, tmps, todo, defers, mode := .run, kind := .normal, roundOf := ro }

section
variable {P : Program} {fn : FuncId} {t : Array Value} {d : List Deferred} {ro : Option Nat} {k : List Item} {cs : List Frame} {w : World}
theorem st_skip : step P (lone (FR fn t (.code .skip :: k) d ro) cs w) = .next (lone (FR fn t k d ro) cs w) := step_lone_go (by simp [stepG, stepG.exec])
theorem st_label {l : Nat} : step P (lone (FR fn t (.code (.label l) :: k) d ro) cs w) = .next (lone (FR fn t k d ro) cs w) := step_lone_go (by simp [stepG, stepG.exec])
theorem st_inBlock {l : Nat} : step P (lone (FR fn t (.inBlock l :: k) d ro) cs w) = .next (lone (FR fn t k d ro) cs w) := step_lone_go (by simp [stepG, stepG.exec])
theorem st_inScope {c : Code} : step P (lone (FR fn t (.inScope c :: k) d ro) cs w) = .next (lone (FR fn t k d ro) cs w) := step_lone_go (by simp [stepG, stepG.exec])
theorem st_seq {a b : Code} : step P (lone (FR fn t (.code (.seq a b) :: k) d ro) cs w) = .next (lone (FR fn t (.code a :: .code b :: k) d ro) cs w) := step_lone_go (by simp [stepG, stepG.exec])
theorem st_cond {c : Operand} {a b : Code} {v : Bool} (h : (FR fn t (.code (.cond c a b) :: k) d ro).eval c = .bool v) :
    step P (lone (FR fn t (.code (.cond c a b) :: k) d ro) cs w) = .next (lone (FR fn t (.code (if v then a else b) :: k) d ro) cs w) := step_lone_go (by simp [stepG, stepG.exec, h])
theorem st_block {id : Nat} {c : Code} : step P (lone (FR fn t (.code (.block id c) :: k) d ro) cs w) = .next (lone (FR fn t (.code c :: .inBlock id :: k) d ro) cs w) := step_lone_go (by simp [stepG, stepG.exec])
theorem st_loop {c : Code} : step P (lone (FR fn t (.code (.loop c) :: k) d ro) cs w) = .next (lone (FR fn t (.code c :: .inLoop c :: k) d ro) cs w) := step_lone_go (by simp [stepG, stepG.exec])
theorem st_inLoop {c : Code} : step P (lone (FR fn t (.inLoop c :: k) d ro) cs w) = .next (lone (FR fn t (.code c :: .inLoop c :: k) d ro) cs w) := step_lone_go (by simp [stepG, stepG.exec])
theorem st_scope {c : Code} : step P (lone (FR fn t (.code (.scope c) :: k) d ro) cs w) = .next (lone (FR fn t (.code c :: .inScope c :: k) d ro) cs w) := step_lone_go (by simp [stepG, stepG.exec])
theorem st_exit {id : Nat} {k' : List Item} (h : exitTo id k = some k') : step P (lone (FR fn t (.code (.exit id) :: k) d ro) cs w) = .next (lone (FR fn t k' d ro) cs w) := step_lone_go (by simp [stepG, stepG.exec, h])
theorem st_region {id : Nat} {ops : Array Oper} : step P (lone (FR fn t (.code (.region id ops false) :: k) d ro) cs w) = .next (lone (FR fn t (.inRegion ops (List.range ops.size) :: k) d ro) cs w) :=
  step_lone_go (by simp [stepG, stepG.exec])
theorem st_regionD {id : Nat} {ops : Array Oper} : step P (lone (FR fn t (.code (.region id ops true) :: k) d ro) cs w) =
    .next (lone (FR fn t (.inRegion ops (Region.schedule (P.follows .mixedOrders) ops (w.tape w.drawn (.order fn id))) :: k) d ro) cs w.drew) :=
  step_lone_go (by simp [stepG, stepG.exec, choose, Sem.run, Question.forced, Question.cut])
theorem st_regionEnd {ops : Array Oper} : step P (lone (FR fn t (.inRegion ops [] :: k) d ro) cs w) = .next (lone (FR fn t k d ro) cs w) := step_lone_go (by simp [stepG, stepG.exec])
theorem st_ret0 : step P (lone (FR fn t (.code .ret :: k) d none) cs w) = .next (lone { FR fn t (.code .ret :: k) d none with mode := .returning } cs w) := step_lone_go (by simp [stepG, stepG.exec])
theorem st_end0 : step P (lone (FR fn t [] d none) cs w) = .next (lone { FR fn t [] d none with mode := .returning } cs w) := step_lone_go (by simp [stepG, stepG.exec])
theorem st_unwanted {ops : Array Oper} {i : Nat} {rest : List Nat} (h : ((ops[i]?).map (Region.wanted · (yielded ops t))).getD false = false) :
    step P (lone (FR fn t (.inRegion ops (i :: rest) :: k) d ro) cs w) = .next (lone ((FR fn t (.inRegion ops (i :: rest) :: k) d ro).finish undef) cs w) :=
  step_lone_go (by
    simp [stepG, stepG.exec, h, Frame.finish])

theorem st_oper {ops : Array Oper} {i : Nat} {rest : List Nat} {o : Oper} (ho : ops[i]? = some o) (hw : Region.wanted o (yielded ops t) = true) (hd : ∀ c, o.op ≠ .defer c) :
    stepG P true { frame := FR fn t (.inRegion ops (i :: rest) :: k) d ro, callers := cs, status := .running, dying := none } w =
      stepG.apply P true (FR fn t (.inRegion ops (i :: rest) :: k) d ro) cs none (execOp (FR fn t (.inRegion ops (i :: rest) :: k) d ro).eval o) w := by
  simp only [stepG, stepG.exec, ho, Option.map_some, hw, Option.getD_some, if_true, stepG.oper, Frame.oper?]
  split
  · rename_i heq
    exact absurd heq (hd _)
  · rfl
section
variable {ops : Array Oper} {i : Nat} {rest : List Nat} {o : Oper} (ho : ops[i]? = some o) (hw : Region.wanted o (yielded ops t) = true) (hd : ∀ c, o.op ≠ .defer c) {w' : World}
include ho hw hd
theorem st_value {v : Value} (hr : (execOp (FR fn t (.inRegion ops (i :: rest) :: k) d ro).eval o).run P w = .ok (.value v) w') :
    step P (lone (FR fn t (.inRegion ops (i :: rest) :: k) d ro) cs w) = .next (lone ((FR fn t (.inRegion ops (i :: rest) :: k) d ro).finish v) cs w') :=
  step_lone_go (by rw [st_oper ho hw hd]; simp [stepG.apply, hr, Frame.finish])
theorem st_opskip (hr : (execOp (FR fn t (.inRegion ops (i :: rest) :: k) d ro).eval o).run P w = .ok .skip w') :
    step P (lone (FR fn t (.inRegion ops (i :: rest) :: k) d ro) cs w) = .next (lone ((FR fn t (.inRegion ops (i :: rest) :: k) d ro).finish undef) cs w') :=
  step_lone_go (by rw [st_oper ho hw hd]; simp [stepG.apply, hr, Frame.finish])
theorem st_enter {f : FuncId} {args : Array Value} (hr : (execOp (FR fn t (.inRegion ops (i :: rest) :: k) d ro).eval o).run P w = .ok (.enter f args) w') :
    step P (lone (FR fn t (.inRegion ops (i :: rest) :: k) d ro) cs w) = .next (lone (Frame.enter P f args .normal) (FR fn t (.inRegion ops (i :: rest) :: k) d ro :: cs) w') :=
  step_lone_go (by rw [st_oper ho hw hd]; simp [stepG.apply, hr])
theorem st_round {l : Nat} {f : FuncId} {tmps : Array Value} {assign body : Code} (hr : (execOp (FR fn t (.inRegion ops (i :: rest) :: k) d ro).eval o).run P w = .ok (.round l f tmps assign body) w') :
    step P (lone (FR fn t (.inRegion ops (i :: rest) :: k) d ro) cs w) = .next (lone (Frame.round l f tmps assign body .normal) (FR fn t (.inRegion ops (i :: rest) :: k) d ro :: cs) w') :=
  step_lone_go (by rw [st_oper ho hw hd]; simp [stepG.apply, hr])
end

/-- a round's end -/
theorem st_leave {l : Nat} {todo : List Item} {jump : Option Code} {c : Frame} {L : Loop} {O : Obj} (hL : w.heap[l]? = some (.loop L)) (hO : O = .loop { L with state := if jump.isNone then .ready else .done, pending := jump })
    (ht : (todo = [] ∧ jump = none) ∨ (∃ k, todo = .code .ret :: k ∧ jump = some .ret) ∨ (∃ id k, todo = .code (.exit id) :: k ∧ exitTo id k = none ∧ jump = some (.exit id))) :
    step P (lone (FR fn t todo d (some l)) (c :: cs) w) = .next (lone (c.finish (.bool jump.isNone)) cs { w with heap := w.heap.setIfInBounds l O }) := by
  have hrun : (Instr.endRound l jump).run P w = .ok (.bool jump.isNone) { w with heap := w.heap.setIfInBounds l O } := by
    simp [Instr.endRound, Instr.getLoop, getObj, setObj, Sem.run, hL, hO]
  refine step_lone_go ?_
  rcases ht with ⟨rfl, rfl⟩ | ⟨k', rfl, rfl⟩ | ⟨id, k', rfl, he, rfl⟩
  · simp [stepG, stepG.exec, hrun, doReturn]
  · simp [stepG, stepG.exec, hrun, doReturn]
  · simp [stepG, stepG.exec, hrun, doReturn, he]

theorem st_begin {l : Nat} {L : Loop} (hL : w.heap[l]? = some (.loop L)) (hs : L.state = .ready) :
    step P (lone (FR fn t (.beginRound :: k) d (some l)) cs w) = .next (lone (FR fn t k d (some l)) cs { w with heap := w.heap.setIfInBounds l (.loop { L with state := .busy }) }) := by
  have hrun : (Instr.beginRound l).run P w = .ok () { w with heap := w.heap.setIfInBounds l (.loop { L with state := .busy }) } := by
    simp [Instr.beginRound, Instr.getLoop, getObj, setObj, Sem.run, hL, hs]
  refine step_lone_go ?_
  simp [stepG, stepG.exec, stepG.apply, hrun, Frame.finish]

theorem st_endRF {l : Nat} {L : Loop} (hL : w.heap[l]? = some (.loop L)) (hs : L.state ≠ .busy) :
    step P (lone (FR fn t (.endRangeFunc l :: k) d ro) cs w) = .next (lone (FR fn t ((L.pending.map Item.code).toList ++ k) d ro) cs { w with heap := w.heap.setIfInBounds l (.loop { L with state := .exhausted }) }) := by
  have hrun : (Instr.endLoop l).run P w = .ok L.pending { w with heap := w.heap.setIfInBounds l (.loop { L with state := .exhausted }) } := by
    have : (L.state == .busy) = false := by simpa using hs
    simp [Instr.endLoop, Instr.getLoop, getObj, setObj, Sem.run, hL, hs]
  refine step_lone_go ?_
  simp [stepG, stepG.exec, hrun]

theorem st_rangeFunc {f : Operand} {ps : Array Tmp} {assign body : Code} {g : FuncId} {args : Array Value} {w' : World}
    (hr : (do let dd ← resolve (FR fn t (.inRangeFunc (w.heap.size + 1) :: k) ({ target := .collected w.heap.size, args := #[] } :: d) none).eval { callee := .value f, args := #[.const (.func (.yield (w.heap.size + 1)) #[] #[])], argTypes := #[] } 0; invoke dd.target dd.args).run P
      ((w.alloc (.deferred (some []))).alloc (.loop { state := .ready, pending := none, fn, tmps := t, params := ps, assign, body, defers := w.heap.size })) = .ok (.enter g args) w') :
    step P (lone (FR fn t (.code (.rangeFunc f ps assign body) :: k) d none) cs w) =
      .next (lone (Frame.enter P g args .normal) (FR fn t (.inRangeFunc (w.heap.size + 1) :: k) ({ target := .collected w.heap.size, args := #[] } :: d) none :: cs) w') := by
  have hrun : (Instr.enterLoop fn t ps assign body none).run P w = .ok (w.heap.size + 1, [{ target := .collected w.heap.size, args := #[] }])
      ((w.alloc (.deferred (some []))).alloc (.loop { state := .ready, pending := none, fn, tmps := t, params := ps, assign, body, defers := w.heap.size })) := by
    simp [Instr.enterLoop]
  refine step_lone_go ?_
  simp only [stepG, stepG.exec]
  simp only [Sem.runT_eq, hrun]
  simp only [stepG.apply, Sem.runT_eq, if_true, GStep.bare_after]
  simp only [List.cons_append, List.nil_append]
  rw [hr]
  simp

theorem st_taken {b : Nat} {ds : List Deferred} {todo : List Item} (hb : w.heap[b]? = some (.deferred (some []))) :
    step P (lone { FR fn t todo ({ target := .collected b, args := #[] } :: ds) ro with mode := .returning } cs w) =
      .next (lone { FR fn t todo ds ro with mode := .returning } cs { w with heap := w.heap.setIfInBounds b (.deferred none) }) := by
  have hrun : (Instr.takeDeferred b).run P w = .ok [] { w with heap := w.heap.setIfInBounds b (.deferred none) } := by
    simp [Instr.takeDeferred, getObj, setObj, Sem.run, hb]
  refine step_lone_go ?_
  simp [stepG, unwind, hrun]
end
end Go.Eng
