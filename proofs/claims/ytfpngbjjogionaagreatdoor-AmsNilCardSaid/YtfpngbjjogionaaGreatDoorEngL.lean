/- The engine, seventeenth part: two functions by their hand-proved words. -/
import Derived.Test.YtfpngbjjogionaaGreatDoorEngI
import Derived.Test.YtfpngbjjogionaaGreatDoorNorN
namespace Go.Eng
open Go.RowKit

theorem HR.below {B : Nat} {w0 : World} {κ : K} {σ : AH} {w w' : World} (h : HR B w0 κ σ w) (hb : Below w.heap.size w w') : HR B w0 κ σ w' := by
  refine ⟨h.dom, fun id b hg hd => ?_, h.inj, h.bel.trans (hb.mono h.big), Nat.le_trans h.big hb.size⟩
  obtain ⟨r, c, O, e, hO, ho, hB⟩ := h.live id b hg hd
  exact ⟨r, c, O, e, by rw [hb.block r (Array.getElem?_eq_some_iff.1 hO).1]; exact hO, ho, hB⟩

def Free (κ : K) (σ : AH) (r : Nat) : Prop := ∀ id b c, σ.get id = some b → b.isDead = false → κ id ≠ some (r, c)

theorem HR.free {B : Nat} {w0 : World} {κ : K} {σ : AH} {w : World} (h : HR B w0 κ σ w) {r : Nat} (hr : w.heap.size ≤ r) : Free κ σ r :=
  fun _ _ _ hg hd e => by have := h.lt hg hd e; omega

theorem HR.adopt {B : Nat} {w0 : World} {κ : K} {σ : AH} {w : World} (h : HR B w0 κ σ w) {b : Blk} {O : Obj} {r c : Nat} (hr : w.heap[r]? = some O) (hO : OR κ c b O) (hB : B ≤ r) (hf : Free κ σ r) :
    HR B w0 (κ.ext σ.nx (r, c)) (σ.new b) w := by
  have s := h.sub_new (r, c)
  have old : ∀ id p, (κ.ext σ.nx (r, c)) id = some p → id ≠ σ.nx → κ id = some p := by
    intro id p e hne
    unfold K.ext at e; rw [if_neg hne] at e; exact e
  refine ⟨?_, ?_, ?_, h.bel, h.big⟩
  · intro id p e
    show id < σ.nx + 1
    by_cases hid : id = σ.nx
    · omega
    · have := h.dom id p (old _ _ e hid); omega
  · intro id b' hg hd
    rw [AH.get_new] at hg
    by_cases hid : id = σ.nx
    · rw [if_pos hid] at hg; cases hg; subst hid
      exact ⟨_, _, O, K.ext_self _ _ _, hr, hO.mono s, hB⟩
    · rw [if_neg hid] at hg
      obtain ⟨r', c', O', e, hO', ho, hb⟩ := h.live id b' hg hd
      exact ⟨r', c', O', s _ _ e, hO', ho.mono s, hb⟩
  · intro id id' b1 b2 r' c1 c2 hg1 hd1 hg2 hd2 e1 e2
    rw [AH.get_new] at hg1 hg2
    by_cases h1 : id = σ.nx
    · by_cases h2 : id' = σ.nx
      · rw [h1, h2]
      · rw [if_neg h2] at hg2
        rw [h1, K.ext_self] at e1; cases e1
        exact absurd (old _ _ e2 h2) (hf _ _ _ hg2 hd2)
    · rw [if_neg h1] at hg1
      by_cases h2 : id' = σ.nx
      · rw [h2, K.ext_self] at e2; cases e2
        exact absurd (old _ _ e1 h1) (hf _ _ _ hg1 hd1)
      · rw [if_neg h2] at hg2
        exact h.inj _ _ _ _ _ _ _ hg1 hd1 hg2 hd2 (old _ _ e1 h1) (old _ _ e2 h2)

theorem Free.new {κ : K} {σ : AH} {b : Blk} {r r' c : Nat} (h : Free κ σ r) (hne : r' ≠ r) : Free (κ.ext σ.nx (r', c)) (σ.new b) r := by
  intro id b' c' hg hd e
  rw [AH.get_new] at hg
  unfold K.ext at e
  by_cases hid : id = σ.nx
  · rw [if_pos hid] at e; cases e; exact hne rfl
  · rw [if_neg hid] at e hg
    exact h _ _ _ hg hd e

/-! ### a new chip -/
def chipCells (σ : AH) (S Z L : Nat) : List AV :=
  [.sc (.int .i64 (.ofNat S)), .sc (.int .i64 (.ofNat Z)), .sc (.int .i64 (.ofNat L)), .sl σ.nx 0 1 (S * Z) (some (S * Z)), .sl (σ.nx + 1) 0 1 S (some S), .sc (.bool false), .sc (.int .i64 (-1)), .sc (.int .i64 0), .sc (.int .u8 0)]

def hookNew (args : List AV) (σ : AH) : Option (AV × AH) :=
  match args with
  | [.agg [.sc (.int .i64 (.ofNat S)), .sc (.int .i64 (.ofNat Z)), .sc (.int .i64 (.ofNat L))]] =>
    cond (Nat.ble 1 S && (Nat.ble S 64 && (Nat.ble 64 Z && (Nat.ble Z 65536 && (Nat.ble 1 L && Nat.ble L 1048576)))))
      (some (.tup [.ptr (σ.nx + 2) 0, .sc (.int .i64 0)],
        ((σ.new (.cells (S * Z) (some 1) 5 { d := .sc (.int .u8 255), t := .lf })).new (.cells S none 3 { d := .sc (.int .i64 0), t := .lf })).new
          (.cells 9 none 181 { d := undefA, t := Tr.ofList (chipCells σ S Z L) 0 .lf }))) none
  | _ => none

theorem ofList_get (l : List AV) (i : Nat) (h : i < l.length) : (Cells.get { d := undefA, t := Tr.ofList l 0 .lf } i) = l[i] := by
  unfold Cells.get
  rw [Tr.get_ofList, if_pos ⟨Nat.zero_le _, by omega⟩, Nat.sub_zero, List.getElem?_eq_getElem h]
  rfl

theorem hookNew_ok {args : List AV} {σ σ' : AH} {v : AV} (he : hookNew args σ = some (v, σ')) {B : Nat} {w0 : World} {κ : K} {w : World} {us : List Value} (h : HR B w0 κ σ w) (hl : VRL κ args us) :
    Calls Go.Proofs.Tryz.prog 30 us.toArray w fun e w' => ∃ κ' u, K.Sub κ κ' ∧ e = .returned u ∧ VR κ' v u ∧ HR B w0 κ' σ' w' := by
  unfold hookNew at he
  split at he
  · rename_i S Z L
    obtain ⟨hc, he⟩ := cond_none he
    cases he
    simp only [Bool.and_eq_true] at hc
    obtain ⟨c1, c2, c3, c4, c5, c6⟩ := hc
    cases hl with
    | cons hv hl =>
    cases hl
    cases hv with
    | agg hv =>
    cases hv with
    | cons h1 hv =>
    cases hv with
    | cons h2 hv =>
    cases hv with
    | cons h3 hv =>
    cases hv
    cases h1; cases h2; cases h3
    refine (Go.Proofs.Tryz.norNew S Z L w (Nat.le_of_ble_eq_true c1) (Nat.le_of_ble_eq_true c2) (Nat.le_of_ble_eq_true c3) (Nat.le_of_ble_eq_true c4) (Nat.le_of_ble_eq_true c5) (Nat.le_of_ble_eq_true c6)).mono ?_
    rintro e w' ⟨rb, rw, rc, arr, rfl, b1, b2, b3, n1, n2, n3, g1, ga, gx, g2, g3, hb⟩
    have H0 := h.below hb
    have H1 := H0.adopt (b := .cells (S * Z) (some 1) 5 { d := .sc (.int .u8 255), t := .lf }) (c := arr.size) g1
      (.cells ga (fun e => by cases e) (fun z hz => by cases hz; rw [Nat.mul_one]) (fun o ho => by simp) (fun o ho => ⟨_, gx o ho, .sc _⟩)) (Nat.le_trans h.big b1) (fun id b c hg hd e => h.free b1 id b c hg hd e)
    have F2 : Free (κ.ext σ.nx (rb, arr.size)) (σ.new (.cells (S * Z) (some 1) 5 { d := .sc (.int .u8 255), t := .lf })) rw := Free.new (h.free b2) n1
    have H2 := H1.adopt (b := .cells S none 3 { d := .sc (.int .i64 0), t := .lf }) (c := S) g2
      (.cells (by rw [size_madeCells]; omega) (fun _ => by rw [size_madeCells]; omega) (fun z hz => by cases hz) (fun o ho => by simp) (fun o ho => ⟨.int .i64 0, by
        have ho' : o < S := ho
        have hc : (Value.int .i64 0).cells = #[.int .i64 0] := rfl
        rw [hc]
        simp [madeCells, ho', Nat.mod_one], .sc _⟩)) (Nat.le_trans h.big b2) F2
    have F3 := Free.new (b := .cells S none 3 { d := .sc (.int .i64 0), t := .lf }) (c := S) (Free.new (b := .cells (S * Z) (some 1) 5 { d := .sc (.int .u8 255), t := .lf }) (c := arr.size) (h.free b3) n2) n3
    have s0 := h.sub_new (rb, arr.size)
    have s1 := H1.sub_new (rw, S)
    have k1 : ((κ.ext σ.nx (rb, arr.size)).ext (σ.new (.cells (S * Z) (some 1) 5 { d := .sc (.int .u8 255), t := .lf })).nx (rw, S)) σ.nx = some (rb, arr.size) := s1 _ _ (K.ext_self _ _ _)
    have k2 : ((κ.ext σ.nx (rb, arr.size)).ext (σ.new (.cells (S * Z) (some 1) 5 { d := .sc (.int .u8 255), t := .lf })).nx (rw, S)) (σ.nx + 1) = some (rw, S) := K.ext_self _ _ _
    have H3 := H2.adopt (b := .cells 9 none 181 { d := undefA, t := Tr.ofList (chipCells σ S Z L) 0 .lf }) (c := 0) g3
      (.cells (by simp) (fun _ => by simp) (fun z hz => by cases hz) (fun o ho => by simp) (fun o ho => by
        have ho' : o < (chipCells σ S Z L).length := ho
        rw [ofList_get _ _ ho']
        rcases o with _ | _ | _ | _ | _ | _ | _ | _ | _ | o
        · exact ⟨_, rfl, .sc _⟩
        · exact ⟨_, rfl, .sc _⟩
        · exact ⟨_, rfl, .sc _⟩
        · exact ⟨_, rfl, .sl k1 rfl (fun e => by cases e)⟩
        · exact ⟨_, rfl, .sl k2 rfl (fun e => by cases e)⟩
        · exact ⟨_, rfl, .sc _⟩
        · exact ⟨_, rfl, .sc _⟩
        · exact ⟨_, rfl, .sc _⟩
        · exact ⟨_, rfl, .sc _⟩
        · omega)) (Nat.le_trans h.big b3) F3
    have s2 := H2.sub_new (rc, 0)
    exact ⟨_, _, s0.trans (s1.trans s2), rfl, .tup (.cons (.ptr (K.ext_self _ _ _)) (.cons (.sc _) .nil)), H3⟩
  · cases he

/-! ### the first byte that is not blank -/
def isFF : AV → Bool
  | .sc (.int .u8 (.ofNat n)) => Nat.beq n 255
  | _ => false
def allFF (c : Cells) : Nat → Nat → Bool
  | _, 0 => true
  | e, n + 1 => cond (isFF (c.get e)) (allFF c (e + 1) n) false
def rangeFF (c : Cells) (e n : Nat) : Bool :=
  match c.t with
  | .lf => isFF c.d
  | _ => allFF c e n

theorem isFF_eq {a : AV} (h : isFF a = true) : a = .sc (.int .u8 255) := by
  unfold isFF at h
  split at h
  · rw [nbeq_eq h]; rfl
  · cases h
theorem allFF_get {c : Cells} : ∀ {n e : Nat}, allFF c e n = true → ∀ j, j < n → c.get (e + j) = .sc (.int .u8 255)
  | 0, _, _, j, hj => by omega
  | n + 1, e, h, j, hj => by
    simp only [allFF] at h
    obtain ⟨h1, h2⟩ := cond_tt h
    cases j with
    | zero => exact isFF_eq h1
    | succ j =>
      have := allFF_get h2 j (by omega)
      rwa [show e + 1 + j = e + (j + 1) by omega] at this
theorem rangeFF_get {c : Cells} {n e : Nat} (h : rangeFF c e n = true) (j : Nat) (hj : j < n) : c.get (e + j) = .sc (.int .u8 255) := by
  unfold rangeFF at h
  split at h
  · rename_i ht
    unfold Cells.get
    rw [ht]
    exact isFF_eq h
  · exact allFF_get h j hj

def hookIdx (args : List AV) (σ : AH) : Option (AV × AH) :=
  match args with
  | [.sl id e z len _, .fn (.func c) [] []] =>
    match cellsAt σ id with
    | some (n, _, _, cs) => cond (Nat.beq c 142 && (Nat.beq z 1 && (Nat.ble (e + len) n && (Nat.ble len 1099511627776 && rangeFF cs e len)))) (some (.sc (.int .i64 (-1)), σ)) none
    | none => none
  | _ => none

theorem hookIdx_ok {args : List AV} {σ σ' : AH} {v : AV} (he : hookIdx args σ = some (v, σ')) {B : Nat} {w0 : World} {κ : K} {w : World} {us : List Value} (h : HR B w0 κ σ w) (hl : VRL κ args us) :
    Calls Go.Proofs.Tryz.prog 250 us.toArray w fun e w' => ∃ κ' u, K.Sub κ κ' ∧ e = .returned u ∧ VR κ' v u ∧ HR B w0 κ' σ' w' := by
  unfold hookIdx at he
  split at he
  · rename_i id e z len cap c
    split at he
    · rename_i n vec T cs hcs
      obtain ⟨hc, he⟩ := cond_none he
      cases he
      simp only [Bool.and_eq_true] at hc
      obtain ⟨c1, c2, c3, c4, c5⟩ := hc
      obtain rfl := nbeq_eq c1
      obtain rfl := nbeq_eq c2
      have c3 := Nat.le_of_ble_eq_true c3
      have c4 := Nat.le_of_ble_eq_true c4
      have hg : σ.get id = some (.cells n vec T cs) := by
        unfold cellsAt at hcs
        split at hcs
        · cases hcs; assumption
        · cases hcs
      obtain ⟨r0, cc, O, hk, hO, ho, _⟩ := h.live id _ hg rfl
      cases ho with
      | @cells _ _ _ _ arr fz hn hvec hvc hfz hget =>
      cases hl with
      | cons h1 hl =>
      cases hl with
      | cons h2 hl =>
      cases hl
      cases h1 with
      | @sl _ _ _ _ r c' _ k hk' hkk hcc =>
      rw [hk] at hk'; cases hk'
      cases h2 with
      | fn ha hb =>
      cases ha; cases hb
      refine (Go.Proofs.Tryz.indexFunc r0 (e * 1) len k w c4 fun j hj => ?_).mono ?_
      · obtain ⟨u, hu, hv⟩ := hget (e + j) (by omega)
        rw [rangeFF_get c5 j hj] at hv
        cases hv
        rw [Nat.mul_one]
        simp only [World.cell?, hO]
        exact hu
      · rintro e' w' ⟨rfl, rfl⟩
        exact ⟨κ, _, .refl κ, rfl, .sc _, h⟩
    · cases he
  · cases he
end Go.Eng
