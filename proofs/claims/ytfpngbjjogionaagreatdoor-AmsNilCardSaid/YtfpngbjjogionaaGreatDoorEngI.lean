/- The engine, fifteenth part: a region whose order is open. -/
import Derived.Test.YtfpngbjjogionaaGreatDoorEngG
namespace Go.Eng
open Go.RowKit

/-! ### the same value -/
theorem eqV_eq : ∀ {a b : Value}, eqV a b = true → a = b := by
  intro a b h
  unfold eqV at h
  split at h
  · rename_i a b; cases a <;> cases b <;> simp at h ⊢
  · simp at h; obtain ⟨rfl, rfl⟩ := h; rfl
  · rename_i a b
    have h := of_decide_eq_true h
    have : a = b := by
      cases a; cases b
      simp only at h
      congr 1
      exact Array.toList_inj.1 h
    rw [this]
  · rfl
  · simp at h
    rw [h.1, h.2]
  · rfl
  · rfl
  · rfl
  · simp at h
    obtain ⟨rfl, rfl⟩ := h; rfl
  · cases h

mutual
theorem eqAV_eq : ∀ {a b : AV}, eqAV a b = true → a = b
  | .sc a, b, h => by
    cases b <;> simp only [eqAV, Bool.false_eq_true] at h
    rw [eqV_eq h]
  | .ptr a c, b, h => by
    cases b <;> simp only [eqAV, Bool.false_eq_true, Bool.and_eq_true] at h
    rw [nbeq_eq h.1, nbeq_eq h.2]
  | .sl .., b, h => by
    cases b <;> simp only [eqAV, Bool.false_eq_true, Bool.and_eq_true, decide_eq_true_eq] at h
    obtain ⟨h1, h2, h3, h4, rfl⟩ := h
    rw [nbeq_eq h1, nbeq_eq h2, nbeq_eq h3, nbeq_eq h4]
  | .mp a, b, h => by
    cases b <;> simp only [eqAV, Bool.false_eq_true] at h
    rw [nbeq_eq h]
  | .agg a, b, h => by
    cases b <;> simp only [eqAV, Bool.false_eq_true] at h
    rw [eqAVL_eq h]
  | .tup a, b, h => by
    cases b <;> simp only [eqAV, Bool.false_eq_true] at h
    rw [eqAVL_eq h]
  | .fn .., b, h => by cases b <;> simp only [eqAV, Bool.false_eq_true] at h
  | .yl _, b, h => by cases b <;> simp only [eqAV, Bool.false_eq_true] at h
theorem eqAVL_eq : ∀ {a b : List AV}, eqAVL a b = true → a = b
  | [], b, h => by
    cases b <;> simp only [eqAVL, Bool.false_eq_true] at h
    rfl
  | x :: l, b, h => by
    cases b <;> simp only [eqAVL, Bool.false_eq_true, Bool.and_eq_true] at h
    rw [eqAV_eq h.1, eqAVL_eq h.2]
end

/-! ### quiet operations -/
section
variable {E : Env}

def Qt (σ : AH) (r : ANext × AH) : Prop := r.2 = σ ∧ ∃ v, r.1 = .val v

theorem aload_qt {T : TypeId} {a : AV} {σ : AH} {r} (he : aload E T a σ = some r) : Qt σ r := by
  unfold aload at he
  try simp only [Bool.cond_eq_ite] at he
  repeat' (first | (cases he; done) | (cases he; exact ⟨rfl, _, rfl⟩) | split at he)
theorem abuild_qt {T : TypeId} {l} {σ : AH} {r} (he : abuild E T l σ = some r) : Qt σ r := by
  unfold abuild at he
  try simp only [Bool.cond_eq_ite] at he
  repeat' (first | (cases he; done) | (cases he; exact ⟨rfl, _, rfl⟩) | split at he)
theorem anilCheck_qt {a : AV} {σ : AH} {r} (he : anilCheck a σ = some r) : Qt σ r := by
  unfold anilCheck at he
  try simp only [Bool.cond_eq_ite] at he
  repeat' (first | (cases he; done) | (cases he; exact ⟨rfl, _, rfl⟩) | split at he)
theorem abinOp_qt {op} {T : TypeId} {x y} {σ : AH} {r} (he : abinOp E op T x y σ = some r) : Qt σ r := by
  unfold abinOp at he
  try simp only [Bool.cond_eq_ite] at he
  repeat' (first | (cases he; done) | (cases he; exact ⟨rfl, _, rfl⟩) | split at he)
theorem afieldAddr_qt {T : TypeId} {x f} {σ : AH} {r} (he : afieldAddr E T x f σ = some r) : Qt σ r := by
  unfold afieldAddr at he
  try simp only [Bool.cond_eq_ite] at he
  repeat' (first | (cases he; done) | (cases he; exact ⟨rfl, _, rfl⟩) | split at he)
theorem afield_qt {T : TypeId} {x f} {σ : AH} {r} (he : afield E T x f σ = some r) : Qt σ r := by
  unfold afield at he
  try simp only [Bool.cond_eq_ite] at he
  repeat' (first | (cases he; done) | (cases he; exact ⟨rfl, _, rfl⟩) | split at he)
theorem aindexAddr_qt {T : TypeId} {x f} {σ : AH} {r} (he : aindexAddr E T x f σ = some r) : Qt σ r := by
  unfold aindexAddr at he
  try simp only [Bool.cond_eq_ite] at he
  repeat' (first | (cases he; done) | (cases he; exact ⟨rfl, _, rfl⟩) | split at he)
theorem aindex_qt {T : TypeId} {x f} {σ : AH} {r} (he : aindex E T x f σ = some r) : Qt σ r := by
  unfold aindex at he
  try simp only [Bool.cond_eq_ite] at he
  repeat' (first | (cases he; done) | (cases he; exact ⟨rfl, _, rfl⟩) | split at he)
theorem alookup_qt {T : TypeId} {x f ok} {σ : AH} {r} (he : alookup E T x f ok σ = some r) : Qt σ r := by
  unfold alookup at he
  try simp only [lookOut] at he
  repeat' (first | (cases he; done) | (cases he; exact ⟨rfl, _, rfl⟩) | split at he)
theorem aextract_qt {x i} {σ : AH} {r} (he : aextract x i σ = some r) : Qt σ r := by
  unfold aextract at he
  try simp only [Bool.cond_eq_ite] at he
  repeat' (first | (cases he; done) | (cases he; exact ⟨rfl, _, rfl⟩) | split at he)
theorem sliceStr_qt {s lo hi} {σ : AH} {r} (he : sliceStr s lo hi σ = some r) : Qt σ r := by
  unfold sliceStr at he
  try simp only [Bool.cond_eq_ite] at he
  repeat' (first | (cases he; done) | (cases he; exact ⟨rfl, _, rfl⟩) | split at he)
theorem aslice_qt {T x lo hi mx} {σ : AH} {r} (he : aslice E T x lo hi mx σ = some r) : Qt σ r := by
  unfold aslice at he
  simp only [Bool.cond_eq_ite, outSl] at he
  repeat' (first | (cases he; done) | (cases he; exact ⟨rfl, _, rfl⟩) | split at he)
theorem alen_qt {tys x} {σ : AH} {r} (he : alen E tys x σ = some r) : Qt σ r := by
  unfold alen at he
  try simp only [Bool.cond_eq_ite] at he
  repeat' (first | (cases he; done) | (cases he; exact ⟨rfl, _, rfl⟩) | split at he)
theorem amin_qt {l} {σ : AH} {r} (he : amin l σ = some r) : Qt σ r := by
  unfold amin at he
  try simp only [Bool.cond_eq_ite] at he
  repeat' (first | (cases he; done) | (cases he; exact ⟨rfl, _, rfl⟩) | split at he)

theorem aop_qt {ρ : Operand → AV} {o : Oper} {σ : AH} {r} (hq : quietOp o.op = true) (he : aop E ρ o σ = some r) : Qt σ r := by
  unfold aop at he
  unfold quietOp at hq
  split at hq <;> simp only [*] at he
  all_goals first
    | (cases hq; done)
    | exact aload_qt he
    | exact abuild_qt he
    | exact anilCheck_qt he
    | exact abinOp_qt he
    | exact afieldAddr_qt he
    | exact afield_qt he
    | exact aindexAddr_qt he
    | exact aindex_qt he
    | exact alookup_qt he
    | exact aextract_qt he
    | (unfold abuiltin at he; repeat' (first | (cases he; done) | (cases ‹Builtin.len = _›; done) | (cases ‹Builtin.min = _›; done) | exact alen_qt he | exact amin_qt he | split at he))
    | (repeat' (first | (cases he; done) | (cases he; exact ⟨rfl, _, rfl⟩) | exact sliceStr_qt he | exact aslice_qt he | split at he))
    | cases hq
end

/-! ### the certificate -/
def befs (bs : Tr Nat) (i : Nat) : Nat := (bs.get i).getD 0

theorem befOf_bit {bs : Tr Nat} {j : Nat} : ∀ {l : List Edge}, (befOf l bs).testBit j = true → ∃ e ∈ l, Region.binds .any e = true ∧ (e.on = j ∨ (befs bs e.on).testBit j = true)
  | [], h => by simp [befOf] at h
  | e :: l, h => by
    simp only [befOf] at h
    cases hb : Region.binds .any e with
    | true =>
      rw [hb, cond_true] at h
      simp only [Nat.testBit_or, Bool.or_eq_true] at h
      rcases h with (h | h) | h
      · refine ⟨e, List.mem_cons_self .., hb, .inl ?_⟩
        rw [Nat.testBit_two_pow] at h; simpa using h
      · exact ⟨e, List.mem_cons_self .., hb, .inr h⟩
      · obtain ⟨e', h1, h2, h3⟩ := befOf_bit h
        exact ⟨e', List.mem_cons_of_mem _ h1, h2, h3⟩
    | false =>
      rw [hb, cond_false] at h
      obtain ⟨e', h1, h2, h3⟩ := befOf_bit h
      exact ⟨e', List.mem_cons_of_mem _ h1, h2, h3⟩

theorem cond_tt {a b : Bool} (h : cond a b false = true) : a = true ∧ b = true := by
  cases a
  · cases h
  · exact ⟨rfl, h⟩

theorem edgesLt_get {i : Nat} : ∀ {l : List Edge}, edgesLt i l = true → ∀ e ∈ l, Region.binds .any e = true → e.on < i
  | [], _, e, he, _ => by cases he
  | x :: l, h, e, he, hb => by
    simp only [edgesLt] at h
    rcases List.mem_cons.1 he with rfl | he
    · rw [hb, cond_true] at h
      exact blt_lt (cond_tt h).1
    · refine edgesLt_get ?_ e he hb
      cases hx : Region.binds .any x with
      | true => rw [hx, cond_true] at h; exact (cond_tt h).2
      | false => rw [hx, cond_false] at h; exact h

theorem befsOk_get {bs : Tr Nat} : ∀ {l : List Oper} {i : Nat}, befsOk bs i l = true → ∀ k o, l[k]? = some o → edgesLt (i + k) o.after.toList = true ∧ befOf o.after.toList bs = befs bs (i + k)
  | [], _, _, k, o, h => by simp at h
  | x :: l, i, h, k, o, hk => by
    simp only [befsOk] at h
    obtain ⟨h1, h2⟩ := cond_tt h
    obtain ⟨h2, h3⟩ := cond_tt h2
    cases k with
    | zero => simp at hk; subst hk; exact ⟨h1, nbeq_eq h2⟩
    | succ k =>
      have := befsOk_get h3 k o (by simpa using hk)
      rwa [show i + 1 + k = i + (k + 1) by omega] at this

theorem okTmp_get {bef d : Nat} : ∀ {l : List Oper} {i : Nat}, okTmp bef d i l = true → ∀ k o, l[k]? = some o → o.dst = some d → bef.testBit (i + k) = true
  | [], _, _, k, o, h, _ => by simp at h
  | x :: l, i, h, k, o, hk, hd => by
    have tl : okTmp bef d (i + 1) l = true := by
      simp only [okTmp] at h
      split at h
      · rename_i e _
        cases hb : Nat.beq e d with
        | true => rw [hb, cond_true] at h; exact (cond_tt h).2
        | false => rw [hb, cond_false] at h; exact h
      · exact h
    cases k with
    | zero =>
      simp at hk; subst hk
      simp only [okTmp, hd, Nat.beq_refl, cond_true] at h
      exact (cond_tt h).1
    | succ k =>
      have := okTmp_get tl k o (by simpa using hk) hd
      rwa [show i + 1 + k = i + (k + 1) by omega] at this

theorem busyOf_mem : ∀ {l : List Oper} {i : Nat} (k : Nat) (o : Oper), l[k]? = some o → quietOp o.op = false → i + k ∈ busyOf i l
  | [], _, k, o, h, _ => by simp at h
  | x :: l, i, k, o, hk, hq => by
    simp only [busyOf]
    cases k with
    | zero => simp at hk; subst hk; rw [hq, cond_false]; exact List.mem_cons_self ..
    | succ k =>
      have := busyOf_mem (i := i + 1) k o (by simpa using hk) hq
      rw [show i + 1 + k = i + (k + 1) by omega] at this
      cases quietOp x.op
      · exact List.mem_cons_of_mem _ this
      · exact this
theorem busyOf_of : ∀ {l : List Oper} {i b : Nat}, b ∈ busyOf i l → ∃ k o, b = i + k ∧ l[k]? = some o ∧ quietOp o.op = false
  | [], _, _, h => by cases h
  | x :: l, i, b, h => by
    simp only [busyOf] at h
    have tl : b ∈ busyOf (i + 1) l → ∃ k o, b = i + k ∧ (x :: l)[k]? = some o ∧ quietOp o.op = false := fun h => by
      obtain ⟨k, o, h1, h2, h3⟩ := busyOf_of h
      exact ⟨k + 1, o, by omega, by simpa using h2, h3⟩
    cases hq : quietOp x.op with
    | true => rw [hq, cond_true] at h; exact tl h
    | false =>
      rw [hq, cond_false] at h
      rcases List.mem_cons.1 h with rfl | h
      · exact ⟨0, x, rfl, rfl, hq⟩
      · exact tl h
theorem busyOf_nodup : ∀ {l : List Oper} {i : Nat}, (busyOf i l).Nodup
  | [], _ => by simp [busyOf]
  | x :: l, i => by
    simp only [busyOf]
    cases quietOp x.op with
    | true => exact busyOf_nodup
    | false =>
      refine List.nodup_cons.2 ⟨fun h => ?_, busyOf_nodup⟩
      obtain ⟨k, _, h1, _⟩ := busyOf_of h
      omega

section
variable {E : Env} {call : FuncId → List AV → AH → Option (AV × AH)} {nt : Nat} {ops : Array Oper} {tm : Tr AV} {bs : Tr Nat}

theorem quietsOk_get {done rest : List Nat} {σ : AH} : ∀ {l : List Oper} {i : Nat}, quietsOk E call nt ops tm bs done rest σ i l = true → ∀ k o, l[k]? = some o → quietOp o.op = true → feasible bs done rest (i + k) = true →
    ∃ v σ', drawAt E call ops (befs bs (i + k)) tm o σ = some (v, σ') ∧ dstOk nt tm o.dst v = true
  | [], _, _, k, o, h, _, _ => by simp at h
  | x :: l, i, h, k, o, hk, hq, hf => by
    simp only [quietsOk] at h
    cases k with
    | zero =>
      simp at hk; subst hk
      rw [hq, cond_true, show feasible bs done rest i = true from hf, cond_true] at h
      split at h
      · rename_i v σ' hd
        exact ⟨v, σ', hd, (cond_tt h).1⟩
      · cases h
    | succ k =>
      have tl : quietsOk E call nt ops tm bs done rest σ (i + 1) l = true := by
        cases hqx : quietOp x.op with
        | false => rw [hqx, cond_false] at h; exact h
        | true =>
          rw [hqx, cond_true] at h
          cases hfx : feasible bs done rest i with
          | false => rw [hfx, cond_false] at h; exact h
          | true =>
            rw [hfx, cond_true] at h
            split at h
            · exact (cond_tt h).2
            · cases h
      have := quietsOk_get tl k o (by simpa using hk) hq (by rwa [show i + 1 + k = i + (k + 1) by omega])
      rwa [show i + 1 + k = i + (k + 1) by omega] at this

theorem cond_some {α : Type} {a : Bool} {x : Option α} {y : α} (h : cond a x none = some y) : a = true ∧ x = some y := by
  cases a
  · cases h
  · exact ⟨rfl, h⟩

theorem chk_nil {done : List Nat} {σ σF : AH} (h : chk E call nt ops tm bs done [] σ = some σF) : quietsOk E call nt ops tm bs done [] σ 0 ops.toList = true ∧ σF = σ := by
  simp only [chk] at h
  obtain ⟨h1, h2⟩ := cond_some h
  cases h2
  exact ⟨h1, rfl⟩
theorem chk_cons {done r : List Nat} {b : Nat} {σ σF : AH} (h : chk E call nt ops tm bs done (b :: r) σ = some σF) :
    quietsOk E call nt ops tm bs done (b :: r) σ 0 ops.toList = true ∧ (∀ j ∈ done, (befs bs b).testBit j = true) ∧
    ∃ o v σ', ops[b]? = some o ∧ drawAt E call ops (befs bs b) tm o σ = some (v, σ') ∧ dstOk nt tm o.dst v = true ∧ chk E call nt ops tm bs (b :: done) r σ' = some σF := by
  simp only [chk] at h
  obtain ⟨h1, h2⟩ := cond_some h
  obtain ⟨h2, h3⟩ := cond_some h2
  refine ⟨h1, fun j hj => List.all_eq_true.1 h2 j hj, ?_⟩
  split at h3
  · rename_i o ho
    split at h3
    · rename_i v σ' hd
      obtain ⟨h4, h5⟩ := cond_some h3
      exact ⟨o, v, σ', ho, hd, h4, h5⟩
    · cases h3
  · cases h3
theorem chk_quiets {done rest : List Nat} {σ σF : AH} (h : chk E call nt ops tm bs done rest σ = some σF) : quietsOk E call nt ops tm bs done rest σ 0 ops.toList = true := by
  cases rest with
  | nil => exact (chk_nil h).1
  | cons b r => exact (chk_cons h).1
theorem chk_bits : ∀ {rest done : List Nat} {σ σF : AH}, chk E call nt ops tm bs done rest σ = some σF → ∀ i ∈ rest, ∀ j ∈ done, (befs bs i).testBit j = true
  | [], _, _, _, _, i, hi, _, _ => by cases hi
  | b :: r, done, σ, σF, h, i, hi, j, hj => by
    obtain ⟨_, h1, o, v, σ', _, _, _, h2⟩ := chk_cons h
    rcases List.mem_cons.1 hi with rfl | hi
    · exact h1 j hj
    · exact chk_bits h2 i hi j (List.mem_cons_of_mem _ hj)

theorem setDst_get {d : Option Tmp} {v : AV} {e : Nat} (h : d ≠ some e ∨ nt ≤ e) : (setDst nt tm d v).get e = tm.get e := by
  unfold setDst
  cases d with
  | none => rfl
  | some d =>
    simp only
    cases hb : Nat.blt d nt with
    | false => rfl
    | true =>
      have := blt_lt hb
      rw [cond_true, Tr.get_set, if_neg]
      rintro rfl
      rcases h with h | h
      · exact h rfl
      · omega
theorem drawRun_get : ∀ {l : List Oper} {i : Nat} {tm tm' : Tr AV} {σ : AH} {bs bs' : Tr Nat}, drawRun E call nt ops l i tm σ bs = some (tm', bs') → ∀ d, (∀ o ∈ l, o.dst ≠ some d) ∨ nt ≤ d → tm'.get d = tm.get d
  | [], _, _, _, _, _, _, h, d, _ => by simp only [drawRun] at h; cases h; rfl
  | o :: l, i, tm, tm', σ, bs, bs', h, d, hd => by
    simp only [drawRun] at h
    split at h
    · rename_i v σ' _
      rw [drawRun_get h d (hd.imp (fun h o ho => h o (List.mem_cons_of_mem _ ho)) id)]
      exact setDst_get (hd.imp (fun h => h o (List.mem_cons_self ..)) id)
    · cases h
end

/-! ### one operation of the region -/
section
variable {E : Env} {B : Nat} {w0 : World} {call : FuncId → List AV → AH → Option (AV × AH)} {nt : Nat} {ops : Array Oper} {tm : Tr AV}

theorem drawAt_quiet {bef : Nat} {o : Oper} {σ σ' : AH} {v : AV} (hq : quietOp o.op = true) (h : drawAt E call ops bef tm o σ = some (v, σ')) : σ' = σ := by
  unfold drawAt at h
  split at h
  · unfold drawOp at h
    split at h
    · cases h; rfl
    · split at h
      · rename_i he; cases h; exact (aop_qt hq he).1
      · rename_i he; cases h; exact (aop_qt hq he).1
      · rename_i he; obtain ⟨_, v, e⟩ := aop_qt hq he; cases e
      · cases h
  · cases h

theorem wanted_ok2 {κ : K} {t : Array Value} {o : Oper} (hv : ∀ d ∈ o.looksAt ops, VR κ ((tm.get d).getD undefA) (t.getD d undef)) :
    Region.wanted o (yielded ops t) = wantedA o ops tm := by
  unfold Region.wanted wantedA
  cases hg : o.guard with
  | none => rfl
  | some p =>
    obtain ⟨j, b⟩ := p
    simp only
    unfold yielded
    cases hd : (ops[j]?).bind (·.dst) with
    | none => simp
    | some d =>
      simp only [Option.bind_some]
      have hm : d ∈ o.looksAt ops := by
        unfold Oper.looksAt
        rw [hg]
        simp [hd]
      have hv := hv d hm
      rw [Array.getD_eq_getD_getElem?] at hv
      generalize (tm.get d).getD undefA = av at hv ⊢
      cases ht : t[d]? with
      | none =>
        rw [ht] at hv
        simp only [Option.getD_none] at hv
        cases hv with
        | sc => rfl
        | _ => rfl
      | some u =>
        rw [ht] at hv
        simp only [Option.getD_some] at hv
        cases hv with
        | sc =>
          cases u <;> first | rfl | (rename_i b'; cases b <;> cases b' <;> rfl)
        | _ => rfl

theorem aop_notSelect {ρ : Operand → AV} {o : Oper} {σ : AH} {r : ANext × AH} (he : aop E ρ o σ = some r) : ∀ cs b, o.op ≠ .select cs b := by
  intro cs b hc
  simp [aop, hc] at he

theorem finish_reg {fn : FuncId} {t : Array Value} {i : Nat} {l : List Nat} {k : List Item} {d : List Deferred} {ro : Option Nat} {o : Oper} {u : Value} (ho : ops[i]? = some o) :
    (FR fn t (.inRegion ops (i :: l) :: k) d ro).finish u = FR fn (match o.dst with | some d => t.setIfInBounds d u | none => t) (.inRegion ops l :: k) d ro := by
  simp only [Frame.finish, ho, Option.bind_some]
  rfl

theorem drawAt_ok (S : Sound E) (hC : CallOk E.P call) {κ : K} {bef : Nat} {o : Oper} {σ σ' : AH} {v : AV} {w : World} {fn : FuncId} {t : Array Value} {i : Nat} {l : List Nat} {k : List Item} {d : List Deferred} {ro : Option Nat} {cs : List Frame}
    (ho : ops[i]? = some o) (hh : HR B w0 κ σ w) (hok : ∀ d, okTmp bef d 0 ops.toList = true → VR κ ((tm.get d).getD undefA) (t.getD d undef)) (h : drawAt E call ops bef tm o σ = some (v, σ')) :
    ∃ κ' u w', K.Sub κ κ' ∧ VR κ' v u ∧ HR B w0 κ' σ' w' ∧ Steps E.P (lone (FR fn t (.inRegion ops (i :: l) :: k) d ro) cs w) (lone ((FR fn t (.inRegion ops (i :: l) :: k) d ro).finish u) cs w') := by
  unfold drawAt at h
  split at h
  · rename_i hlook
    have hlook := List.all_eq_true.1 hlook
    have hw : Region.wanted o (yielded ops t) = wantedA o ops tm := wanted_ok2 (κ := κ) fun d hd => hok d (hlook d hd)
    unfold drawOp at h
    split at h
    · rename_i hn
      rw [hn] at hw
      cases h
      exact ⟨κ, undef, w, .refl κ, .undef, hh, .one (st_unwanted (by simp [ho, hw]))⟩
    · rename_i hn
      rw [hn] at hw
      have hρ : ∀ x, VR κ (evalM ops.toList bef tm x) ((fun x => match x with
          | .tmp d => cond (okTmp bef d 0 ops.toList) (t.getD d undef) undef
          | x => (FR fn t (.inRegion ops (i :: l) :: k) d ro).eval x) x) := by
        intro x
        cases x with
        | tmp d =>
          simp only [evalM]
          cases hb : okTmp bef d 0 ops.toList with
          | true => exact hok d hb
          | false => exact VR.undef
        | const v => exact .sc v
        | global g => exact .sc _
        | func f => exact VR.fn (κ := κ) (f := .func f) .nil .nil
      have hcong (hs : ∀ cs b, o.op ≠ .select cs b) : execOp (FR fn t (.inRegion ops (i :: l) :: k) d ro).eval o = execOp (fun x => match x with
          | .tmp d => cond (okTmp bef d 0 ops.toList) (t.getD d undef) undef
          | x => (FR fn t (.inRegion ops (i :: l) :: k) d ro).eval x) o := by
        refine execOp_congr o hs fun x hx => ?_
        cases x with
        | tmp d =>
          have : d ∈ o.looksAt ops := List.mem_append_left _ (List.mem_filterMap.2 ⟨.tmp d, by simpa using hx, rfl⟩)
          simp only [hlook d this, cond_true]
          rfl
        | _ => rfl
      split at h
      · rename_i v' σ1 he
        cases h
        have hnd := aop_notDefer he
        obtain ⟨κ', w', x, hs, hrun, hh', hx⟩ := aop_ok S hh hρ he
        rw [← hcong (aop_notSelect he)] at hrun
        cases hx with
        | @val _ u hvu => exact ⟨κ', u, w', hs, hvu, hh', .one (st_value ho hw hnd hrun)⟩
      · rename_i σ1 he
        cases h
        have hnd := aop_notDefer he
        obtain ⟨κ', w', x, hs, hrun, hh', hx⟩ := aop_ok S hh hρ he
        rw [← hcong (aop_notSelect he)] at hrun
        cases hx with
        | skip => exact ⟨κ', undef, w', hs, .undef, hh', .one (st_opskip ho hw hnd hrun)⟩
      · rename_i f args σ1 he
        have hnd := aop_notDefer he
        obtain ⟨κ', w', x, hs, hrun, hh', hx⟩ := aop_ok S hh hρ he
        rw [← hcong (aop_notSelect he)] at hrun
        cases hx with
        | @enter _ _ us hl =>
          have hc := hC f args σ1 v σ' h B w0 κ' w' us hh' hl
          obtain ⟨u, w'', ⟨κ'', hs', hvu, hh''⟩, hst⟩ := calls_steps (c := FR fn t (.inRegion ops (i :: l) :: k) d ro) (cs := cs) (R := fun u w'' => ∃ κ'', K.Sub κ' κ'' ∧ VR κ'' v u ∧ HR B w0 κ'' σ' w'')
            (hc.mono fun e w'' ⟨κ'', u, h1, h2, h3, h4⟩ => ⟨u, h2, κ'', h1, h3, h4⟩)
          exact ⟨κ'', u, w'', hs.trans hs', hvu, hh'', Steps.trans (.one (st_enter ho hw hnd hrun)) hst⟩
      · cases h
  · cases h

/-! ### the listing -/
structure DI (E : Env) (call : FuncId → List AV → AH → Option (AV × AH)) (B : Nat) (w0 : World) (nt : Nat) (ops : Array Oper) (tm : Tr AV) (bs : Tr Nat) (σF : AH)
    (listed : Array Bool) (done rest : List Nat) (σ : AH) (κ : K) (t : Array Value) (w : World) : Prop where
  size : listed.size = ops.size
  closed : ∀ i, listed[i]? = some true → ∀ j, (befs bs i).testBit j = true → listed[j]? = some true
  tsz : t.size = nt
  tget : ∀ d, d < nt → (∀ (j : Nat) (o : Oper), ops[j]? = some o → o.dst = some d → listed[j]? = some true) → VR κ ((tm.get d).getD undefA) (t.getD d undef)
  busy : ∀ (i : Nat) (o : Oper), ops[i]? = some o → quietOp o.op = false → i ∈ done ∨ i ∈ rest
  rb : ∀ i ∈ rest, ∃ o, ops[i]? = some o ∧ quietOp o.op = false
  dn : ∀ i ∈ done, listed[i]? = some true
  rs : ∀ i ∈ rest, listed[i]? = some false
  nd : rest.Nodup
  ck : chk E call nt ops tm bs done rest σ = some σF
  hh : HR B w0 κ σ w

theorem listed_set {listed : Array Bool} {i j : Nat} (hi : listed[i]? = some false) : (listed.setIfInBounds i true)[j]? = if j = i then some true else listed[j]? := by
  have hlt : i < listed.size := by
    rcases Nat.lt_or_ge i listed.size with h | h
    · exact h
    · rw [Array.getElem?_eq_none h] at hi; cases hi
  by_cases e : j = i
  · subst e; simp [hlt]
  · rw [if_neg e, Array.getElem?_setIfInBounds, if_neg (by omega)]

theorem putT_get {t : Array Value} {dst : Option Tmp} {u : Value} {d : Nat} (hd : d < t.size) :
    (match dst with | some d => t.setIfInBounds d u | none => t).getD d undef = if dst = some d then u else t.getD d undef := by
  cases dst with
  | none => simp
  | some e =>
    simp only [Option.some.injEq]
    by_cases he : e = d
    · subst he; simp [Array.getD_eq_getD_getElem?, hd]
    · rw [if_neg he, Array.getD_eq_getD_getElem?, Array.getElem?_setIfInBounds, if_neg he, ← Array.getD_eq_getD_getElem?]

theorem draw_step (S : Sound E) (hC : CallOk E.P call) {bs : Tr Nat} {σF : AH} {listed : Array Bool} {done rest : List Nat} {σ : AH} {κ : K} {t : Array Value} {w : World}
    (hout : ∀ d, nt ≤ d → tm.get d = none) (hbs : befsOk bs 0 ops.toList = true)
    (h : DI E call B w0 nt ops tm bs σF listed done rest σ κ t w) {i : Nat} (hr : i ∈ Region.ready .any ops listed)
    {fn : FuncId} {l : List Nat} {k : List Item} {d : List Deferred} {ro : Option Nat} {cs : List Frame} :
    ∃ κ' t' w' done' rest' σ', K.Sub κ κ' ∧ Steps E.P (lone (FR fn t (.inRegion ops (i :: l) :: k) d ro) cs w) (lone (FR fn t' (.inRegion ops l :: k) d ro) cs w') ∧
      DI E call B w0 nt ops tm bs σF (listed.setIfInBounds i true) done' rest' σ' κ' t' w' ∧ listed[i]? = some false := by
  unfold Region.ready at hr
  obtain ⟨hrange, hr⟩ := List.mem_filter.1 hr
  have hlt : i < ops.size := List.mem_range.1 hrange
  have ho : ops[i]? = some ops[i] := by simp [hlt]
  generalize ops[i] = o at ho
  rw [ho] at hr
  simp only [Option.map_some, Option.getD_some, Bool.and_eq_true, Bool.not_eq_true'] at hr
  obtain ⟨hnl, hafter⟩ := hr
  have hi : listed[i]? = some false := by
    rw [Array.getD_eq_getD_getElem?] at hnl
    have : i < listed.size := by rw [h.size]; exact hlt
    rw [Array.getElem?_eq_getElem this] at hnl ⊢
    simpa using hnl
  have hset := fun j => listed_set (j := j) hi
  have hol : ops.toList[i]? = some o := by simpa using ho
  obtain ⟨_, hbefe⟩ := befsOk_get hbs i o hol
  rw [Nat.zero_add] at hbefe
  -- what stands before it has been listed
  have hbef : ∀ j, (befs bs i).testBit j = true → listed[j]? = some true := by
    intro j hj
    rw [← hbefe] at hj
    obtain ⟨e, he, hb, hj⟩ := befOf_bit hj
    have he' : e ∈ o.after := by simpa using he
    have := (Array.all_eq_true_iff_forall_mem.1 hafter) e he'
    rw [hb] at this
    simp only [Bool.not_true, Bool.false_or] at this
    have hon : listed[e.on]? = some true := by
      rw [Array.getD_eq_getD_getElem?] at this
      cases hx : listed[e.on]? with
      | none => rw [hx] at this; cases this
      | some b => rw [hx] at this; simp at this; rw [this]
    rcases hj with rfl | hj
    · exact hon
    · exact h.closed _ hon j hj
  have hok : ∀ d, okTmp (befs bs i) d 0 ops.toList = true → VR κ ((tm.get d).getD undefA) (t.getD d undef) := by
    intro d hd
    by_cases hlt : d < nt
    · refine h.tget d hlt fun j o' ho' hdst => ?_
      have := okTmp_get hd j o' (by simpa using ho') hdst
      rw [Nat.zero_add] at this
      exact hbef j this
    · rw [hout d (by omega)]
      have : t.getD d undef = undef := by
        rw [Array.getD_eq_getD_getElem?, Array.getElem?_eq_none (by rw [h.tsz]; omega)]; rfl
      rw [this]; exact VR.undef
  -- it does what the row says
  have key : ∃ v σ' done' rest', drawAt E call ops (befs bs i) tm o σ = some (v, σ') ∧ dstOk nt tm o.dst v = true ∧ chk E call nt ops tm bs done' rest' σ' = some σF ∧
      (∀ (i : Nat) (o : Oper), ops[i]? = some o → quietOp o.op = false → i ∈ done' ∨ i ∈ rest') ∧ (∀ j ∈ done', j = i ∨ j ∈ done) ∧ (∀ j ∈ rest', j ∈ rest ∧ j ≠ i) ∧ rest'.Nodup := by
    cases hq : quietOp o.op with
    | true =>
      have hf : feasible bs done rest (0 + i) = true := by
        rw [Nat.zero_add]
        unfold feasible
        have h1 : (rest.all fun j => !Nat.testBit ((bs.get i).getD 0) j) = true := by
          refine List.all_eq_true.2 fun j hj => ?_
          cases hb : Nat.testBit ((bs.get i).getD 0) j with
          | false => rfl
          | true =>
            have := hbef j hb
            rw [h.rs j hj] at this; cases this
        rw [h1, cond_true]
        refine List.all_eq_true.2 fun j hj => ?_
        cases hb : Nat.testBit ((bs.get j).getD 0) i with
        | false => rfl
        | true =>
          have := h.closed j (h.dn j hj) i hb
          rw [hi] at this; cases this
      obtain ⟨v, σ', hd, hv⟩ := quietsOk_get (chk_quiets h.ck) i o hol hq hf
      rw [Nat.zero_add] at hd
      have := drawAt_quiet hq hd
      subst this
      refine ⟨v, _, done, rest, hd, hv, h.ck, h.busy, fun j hj => .inr hj, fun j hj => ⟨hj, ?_⟩, h.nd⟩
      rintro rfl
      obtain ⟨o', h1, h2⟩ := h.rb _ hj
      rw [ho] at h1; cases h1
      rw [hq] at h2; cases h2
    | false =>
      have hin : i ∈ rest := by
        rcases h.busy i o ho hq with hd | hr
        · have := h.dn i hd; rw [hi] at this; cases this
        · exact hr
      cases hre : rest with
      | nil => rw [hre] at hin; cases hin
      | cons b r =>
        have hck := h.ck
        rw [hre] at hck hin
        obtain ⟨_, _, o', v, σ', ho', hd, hv, hck'⟩ := chk_cons hck
        have hib : i = b := by
          rcases List.mem_cons.1 hin with e | hir
          · exact e
          · have hb := hbef b (chk_bits hck' i hir b (List.mem_cons_self ..))
            rw [h.rs b (by rw [hre]; exact List.mem_cons_self ..)] at hb
            cases hb
        subst hib
        rw [ho] at ho'; cases ho'
        have hnd := h.nd
        rw [hre] at hnd
        have hnd := List.nodup_cons.1 hnd
        refine ⟨v, σ', i :: done, r, hd, hv, hck', fun j o' h1 h2 => ?_, fun j hj => List.mem_cons.1 hj, fun j hj => ⟨List.mem_cons_of_mem _ hj, ?_⟩, hnd.2⟩
        · rcases h.busy j o' h1 h2 with hx | hx
          · exact .inl (List.mem_cons_of_mem _ hx)
          · rw [hre] at hx
            rcases List.mem_cons.1 hx with rfl | hx
            · exact .inl (List.mem_cons_self ..)
            · exact .inr hx
        · rintro rfl
          exact hnd.1 hj
  obtain ⟨v, σ', done', rest', hd, hv, hck, hbusy, hdn, hrs, hnd⟩ := key
  obtain ⟨κ', u, w', hs, hvu, hh', hst⟩ := drawAt_ok S hC (fn := fn) (l := l) (k := k) (d := d) (ro := ro) (cs := cs) ho h.hh hok hd
  rw [finish_reg ho] at hst
  refine ⟨κ', _, w', done', rest', σ', hs, hst, ?_, hi⟩
  refine ⟨by simp [h.size], ?_, ?_, ?_, hbusy, fun j hj => h.rb j (hrs j hj).1, ?_, ?_, hnd, hck, hh'⟩
  · intro j hj j' hb
    rw [hset] at hj ⊢
    by_cases e' : j' = i
    · rw [if_pos e']
    · rw [if_neg e']
      by_cases e : j = i
      · subst e; exact hbef j' hb
      · rw [if_neg e] at hj; exact h.closed j hj j' hb
  · cases o.dst <;> simp [h.tsz]
  · intro e he hw
    rw [putT_get (by rw [h.tsz]; exact he)]
    by_cases hdst : o.dst = some e
    · rw [if_pos hdst]
      rw [hdst] at hv
      unfold dstOk at hv
      simp only [Nat.blt, Nat.ble_eq_true_of_le he, cond_true] at hv
      rw [eqAV_eq hv]; exact hvu
    · rw [if_neg hdst]
      refine (h.tget e he fun j o' ho' hd' => ?_).mono hs
      have := hw j o' ho' hd'
      rw [hset] at this
      by_cases ej : j = i
      · subst ej; rw [ho] at ho'; cases ho'; exact (hdst hd').elim
      · rwa [if_neg ej] at this
  · intro j hj
    rw [hset]
    split
    · rfl
    · rcases hdn j hj with e | e
      · rename_i hne; exact (hne e).elim
      · exact h.dn j e
  · intro j hj
    rw [hset, if_neg (hrs j hj).2]
    exact h.rs j (hrs j hj).1

theorem ready_none {bs : Tr Nat} {listed : Array Bool} (hsz : listed.size = ops.size) (hbs : befsOk bs 0 ops.toList = true) (hr : Region.ready .any ops listed = []) : ∀ i, i < ops.size → listed[i]? = some true := by
  intro i
  induction i using Nat.strongRecOn with
  | ind i ih =>
    intro hi
    have hl : i < listed.size := by rw [hsz]; exact hi
    cases hb : listed[i] with
    | true => rw [Array.getElem?_eq_getElem hl, hb]
    | false =>
      exfalso
      have hol : ops.toList[i]? = some ops[i] := by simp [hi]
      obtain ⟨hlt, _⟩ := befsOk_get hbs i _ hol
      rw [Nat.zero_add] at hlt
      have : i ∈ Region.ready .any ops listed := by
        unfold Region.ready
        refine List.mem_filter.2 ⟨List.mem_range.2 hi, ?_⟩
        have h1 : listed.getD i true = false := by simp [Array.getD_eq_getD_getElem?, hl, hb]
        rw [h1]
        simp only [Bool.not_false, Bool.true_and, Array.getElem?_eq_getElem hi, Option.map_some, Option.getD_some]
        refine Array.all_eq_true_iff_forall_mem.2 fun e he => ?_
        cases hbi : Region.binds .any e with
        | false => rfl
        | true =>
          have hon := edgesLt_get hlt e (by simpa using he) hbi
          have := ih e.on hon (by omega)
          simp [Array.getD_eq_getD_getElem?, this]
      rw [hr] at this
      cases this

theorem draw_go (S : Sound E) (hC : CallOk E.P call) {bs : Tr Nat} {σF : AH} (hout : ∀ d, nt ≤ d → tm.get d = none) (hbs : befsOk bs 0 ops.toList = true)
    {fn : FuncId} {k : List Item} {d : List Deferred} {ro : Option Nat} {cs : List Frame} : ∀ (fuel τ : Nat) {listed : Array Bool} {done rest : List Nat} {σ : AH} {κ : K} {t : Array Value} {w : World},
    DI E call B w0 nt ops tm bs σF listed done rest σ κ t w → listed.toList.count false ≤ fuel →
    ∃ κ' t' w', K.Sub κ κ' ∧ Steps E.P (lone (FR fn t (.inRegion ops (Region.linearise.go .any ops fuel τ listed []) :: k) d ro) cs w) (lone (FR fn t' k d ro) cs w') ∧ TmR κ' nt tm t' ∧ HR B w0 κ' σF w' := by
  intro fuel
  have fin : ∀ {listed : Array Bool} {done rest : List Nat} {σ : AH} {κ : K} {t : Array Value} {w : World}, DI E call B w0 nt ops tm bs σF listed done rest σ κ t w → (∀ i, i < ops.size → listed[i]? = some true) →
      ∃ κ' t' w', K.Sub κ κ' ∧ Steps E.P (lone (FR fn t (.inRegion ops [] :: k) d ro) cs w) (lone (FR fn t' k d ro) cs w') ∧ TmR κ' nt tm t' ∧ HR B w0 κ' σF w' := by
    intro listed done rest σ κ t w h hall
    have hrest : rest = [] := by
      cases hre : rest with
      | nil => rfl
      | cons b r =>
        obtain ⟨o, ho, _⟩ := h.rb b (by rw [hre]; exact List.mem_cons_self ..)
        have hb := h.rs b (by rw [hre]; exact List.mem_cons_self ..)
        have hlt : b < ops.size := by
          rcases Nat.lt_or_ge b ops.size with h | h
          · exact h
          · rw [Array.getElem?_eq_none h] at ho; cases ho
        rw [hall b hlt] at hb
        cases hb
    have hck := h.ck
    rw [hrest] at hck
    obtain ⟨_, rfl⟩ := chk_nil hck
    refine ⟨κ, t, w, .refl κ, .one st_regionEnd, ⟨h.tsz, fun i hi => ?_, fun i hi => hout i hi⟩, h.hh⟩
    refine ⟨t.getD i undef, ?_, h.tget i hi fun j o ho _ => ?_⟩
    · have : i < t.size := by rw [h.tsz]; exact hi
      simp [Array.getD_eq_getD_getElem?, this]
    · refine hall j ?_
      rcases Nat.lt_or_ge j ops.size with h | h
      · exact h
      · rw [Array.getElem?_eq_none h] at ho; cases ho
  induction fuel with
  | zero =>
    intro τ listed done rest σ κ t w h hc
    simp only [Region.linearise.go, List.reverse_nil]
    refine fin h fun i hi => ?_
    have hl : i < listed.size := by rw [h.size]; exact hi
    cases hb : listed[i] with
    | true => rw [Array.getElem?_eq_getElem hl, hb]
    | false =>
      exfalso
      have : false ∈ listed.toList := by
        rw [← hb]; simp
      have := List.count_pos_iff.2 this
      omega
  | succ fuel ih =>
    intro τ listed done rest σ κ t w h hc
    simp only [Region.linearise.go]
    change ∃ κ' t' w', K.Sub κ κ' ∧ Steps E.P (lone (FR fn t (.inRegion ops (match (Region.ready .any ops listed)[τ % (Region.ready .any ops listed).length]? with
      | some i => Region.linearise.go .any ops fuel (τ / (Region.ready .any ops listed).length) (listed.setIfInBounds i true) [i]
      | none => [].reverse) :: k) d ro) cs w) (lone (FR fn t' k d ro) cs w') ∧ TmR κ' nt tm t' ∧ HR B w0 κ' σF w'
    cases hi : (Region.ready .any ops listed)[τ % (Region.ready .any ops listed).length]? with
    | none =>
      have hnil : Region.ready .any ops listed = [] := by
        cases hr : Region.ready .any ops listed with
        | nil => rfl
        | cons x xs =>
          rw [hr] at hi
          have hlt : τ % (x :: xs).length < (x :: xs).length := Nat.mod_lt _ (by simp)
          simp at hi
          simp at hlt
          omega
      exact fin h (ready_none h.size hbs hnil)
    | some i =>
      simp only []
      rw [linearise_go_acc, List.reverse_singleton, List.singleton_append]
      obtain ⟨κ1, t1, w1, done1, rest1, σ1, hs1, hst1, h1, hf⟩ := draw_step S hC hout hbs h (List.mem_of_getElem? hi) (fn := fn) (l := Region.linearise.go .any ops fuel (τ / (Region.ready .any ops listed).length) (listed.setIfInBounds i true) []) (k := k) (d := d) (ro := ro) (cs := cs)
      have hc1 : (listed.setIfInBounds i true).toList.count false ≤ fuel := by
        have hlt : i < listed.toList.length := by
          rcases Nat.lt_or_ge i listed.size with h | h
          · simpa using h
          · rw [Array.getElem?_eq_none h] at hf; cases hf
        have hfl : listed.toList[i] = false := by
          have : listed.toList[i]? = some false := by simpa using hf
          rw [List.getElem?_eq_getElem hlt] at this
          simpa using this
        rw [Array.toList_setIfInBounds, List.count_set hlt, hfl]
        have : 0 < listed.toList.count false := List.count_pos_iff.2 (by rw [← hfl]; exact List.getElem_mem hlt)
        simp
        simp at this hc
        omega
      obtain ⟨κ2, t2, w2, hs2, hst2, h2, h3⟩ := ih _ h1 hc1
      exact ⟨κ2, t2, w2, hs1.trans hs2, Steps.trans hst1 hst2, h2, h3⟩

/-- a region whose order is open -/
theorem draw_ok (S : Sound E) (hC : CallOk E.P call) (hm : E.P.follows .mixedOrders = true) : DrawOk E call := by
  intro nt tm ops σ tm' σ' h B w0 κ w t hh htm fn id k d ro cs
  unfold drawA at h
  split at h
  · rename_i tmF bs hrun
    obtain ⟨hbs, h⟩ := cond_some h
    split at h
    · rename_i σF hck
      cases h
      have hget := drawRun_get hrun
      have hdi : DI E call B w0 nt ops tm' bs σ' (Array.replicate ops.size false) [] (busyOf 0 ops.toList) σ κ t w.drew := by
        refine ⟨by simp, ?_, htm.size, ?_, ?_, ?_, ?_, ?_, busyOf_nodup, hck, hh.drew⟩
        · intro i hi
          rw [Array.getElem?_replicate] at hi
          split at hi <;> cases hi
        · intro d hd hw
          rw [hget d (.inl fun o ho hdst => ?_)]
          · exact htm.getD d
          · obtain ⟨j, hj⟩ := List.getElem?_of_mem ho
            have := hw j o (by simpa using hj) hdst
            rw [Array.getElem?_replicate] at this
            split at this <;> cases this
        · intro i o ho hq
          have := busyOf_mem (l := ops.toList) (i := 0) i o (by simpa using ho) hq
          rw [Nat.zero_add] at this
          exact .inr this
        · intro i hi
          obtain ⟨j, o, h1, h2, h3⟩ := busyOf_of hi
          rw [Nat.zero_add] at h1
          subst h1
          exact ⟨o, by simpa using h2, h3⟩
        · intro i hi; cases hi
        · intro i hi
          obtain ⟨j, o, h1, h2, h3⟩ := busyOf_of hi
          rw [Nat.zero_add] at h1
          subst h1
          rw [Array.getElem?_replicate, if_pos]
          rcases Nat.lt_or_ge i ops.size with h | h
          · exact h
          · rw [List.getElem?_eq_none (by simpa using h)] at h2; cases h2
      have hout : ∀ d, nt ≤ d → tm'.get d = none := fun d hd => by rw [hget d (.inr hd)]; exact htm.out d hd
      obtain ⟨κ', t', w', hs, hst, h1, h2⟩ := draw_go S hC hout hbs (fn := fn) (k := k) (d := d) (ro := ro) (cs := cs) ops.size (w.tape w.drawn (.order fn id)) hdi (by
        rw [Array.toList_replicate]; simp)
      refine ⟨κ', t', w', hs, Steps.trans (.one ?_) hst, h1, h2⟩
      rw [st_regionD]
      simp only [Region.schedule, hm, Bool.true_or, if_true]
      rfl
    · cases h
  · cases h
end
end Go.Eng
/- The engine, sixteenth part: whole runs. -/
namespace Go.Eng
open Go.RowKit

theorem run_ok {E : Env} (S : Sound E) (hm : E.P.follows .mixedOrders = true) : ∀ n,
    (∀ {B : Nat} {w0 : World} {g : FuncId} {κ : K} {s : ASt} {fr : Frame} {cs base : List Frame} {w : World} {out : AOut}, Sim B w0 g κ s fr cs w → runA E n s = some out → OutOk E.P B w0 g κ fr cs w base out) ∧
    CallOk E.P (callA E n)
  | 0 => by
    refine ⟨?_, ?_⟩
    · intro B w0 g κ s fr cs base w out hs h
      simp only [runA] at h; cases h
      exact ⟨κ, fr, cs, w, .refl κ, .refl _ _, hs⟩
    · intro f args σ v σ' h
      simp only [callA] at h; cases h
  | n + 1 => by
    obtain ⟨ih, ihC⟩ := run_ok S hm n
    have hD := draw_ok S ihC hm
    refine ⟨?_, ?_⟩
    · intro B w0 g κ s fr cs base w out hs h
      simp only [runA] at h
      split at h
      · rename_i s' hst
        obtain ⟨κ', fr', cs', w', h1, h2, h3⟩ := stepA_ok S hD (base := base) hs hst
        have := ih (base := base) h3 h
        cases out with
        | go s'' =>
          obtain ⟨κ'', fr'', cs'', w'', k1, k2, k3⟩ := this
          exact ⟨κ'', fr'', cs'', w'', h1.trans k1, Steps.trans h2 k2, k3⟩
        | done v σ' =>
          obtain ⟨κ'', u, fr'', w'', k1, k2, k3, k4, k5, k6⟩ := this
          exact ⟨κ'', u, fr'', w'', h1.trans k1, Steps.trans h2 k2, k3, k4, k5, k6⟩
      · exact stepA_ok S hD hs h
    · intro f args σ v σ' h B w0 κ w us hh hl
      simp only [callA] at h
      split at h
      · rename_i r hr
        cases h
        exact S.hook f args σ v σ' hr B w0 κ w us hh hl
      · split at h
        · rename_i fr hfr
          split at h
          · rename_i v' σ1 hrun
            cases h
            obtain ⟨h1, h2⟩ := enterA_ok S hl hfr
            intro base
            obtain ⟨κ', u, fr', w', k1, k2, k3, k4, k5, k6⟩ := ih (base := base) (show Sim B w0 f κ { fr := fr, cs := [], σ } _ [] w from ⟨h1, .nil, hh, h2⟩) hrun
            exact ⟨.returned u, w', fr', ⟨κ', u, k1, rfl, k5, k6⟩, k2, k4, k3⟩
          · cases h
        · cases h

/-- a closed call, run by the engine -/
theorem call_ok {E : Env} (S : Sound E) (hm : E.P.follows .mixedOrders = true) {n : Nat} {f : FuncId} {args : List AV} {v : AV} {σ' : AH} {w : World}
    (h : callA E n f args { nx := 0, t := .lf } = some (v, σ')) {us : List Value} (hl : VRL (fun _ => none) args us) :
    Calls E.P f us.toArray w fun e w' => ∃ κ u, e = .returned u ∧ VR κ v u ∧ HR w.heap.size w κ σ' w' := by
  refine ((run_ok S hm n).2 f args _ v σ' h w.heap.size w (fun _ => none) w us ?_ hl).mono fun e w' ⟨κ, u, _, h1, h2, h3⟩ => ⟨κ, u, h1, h2, h3⟩
  exact ⟨fun _ _ e => (by cases e), fun _ _ e => (by cases e), fun _ _ _ _ _ _ _ e => (by cases e), .refl _ _, Nat.le_refl _⟩

/-- a bool's slot, told by its own value -/
def withBool (s : ASt) (d : Nat) (b : Bool) : ASt := { s with fr := { s.fr with tm := s.fr.tm.set d (.sc (.bool b)) } }
def boolAt (s : ASt) (d : Nat) : Option Bool :=
  match s.fr.tm.get d with
  | some (.sc (.bool b)) => some b
  | _ => none
theorem Sim.withBool {B : Nat} {w0 : World} {g : FuncId} {κ : K} {s : ASt} {d : Nat} {b : Bool} (hb : boolAt s d = some b) {fr : Frame} {cs : List Frame} {w : World} (h : Sim B w0 g κ s fr cs w) : Sim B w0 g κ (withBool s d b) fr cs w := by
  have hd : s.fr.tm.get d = some (.sc (.bool b)) := by
    unfold boolAt at hb
    split at hb
    · rename_i b' e; cases hb; exact e
    · cases hb
  have hget : ∀ j, (s.fr.tm.set d (.sc (.bool b))).get j = s.fr.tm.get j := by
    intro j
    rw [Tr.get_set]
    by_cases e : j = d
    · subst e; rw [if_pos rfl, hd]
    · rw [if_neg e]
  obtain ⟨⟨f1, f2, f3, f4, f5, f6, f7⟩, hcs, hh, hbase⟩ := h
  refine ⟨⟨f1, ⟨f2.size, fun i hi => ?_, fun i hi => ?_⟩, f3, f4, f5, f6, f7⟩, hcs, hh, (@baseA_fn (Go.Eng.withBool s d b).fr s.fr rfl s.cs).trans hbase⟩
  · show ∃ u, _ ∧ VR κ (((s.fr.tm.set d (.sc (.bool b))).get i).getD undefA) u
    rw [hget]; exact f2.get i hi
  · show (s.fr.tm.set d (.sc (.bool b))).get i = none
    rw [hget]; exact f2.out i hi

/-- a call in two runs, the state between them named -/
theorem call2_ok {E : Env} (S : Sound E) (hm : E.P.follows .mixedOrders = true) {n m : Nat} {f : FuncId} {args : List AV} {fr : AFr} {s s' : ASt} {v : AV} {σ' : AH} {w : World}
    (he : enterA E f args = some fr) (h1 : runA E n { fr, cs := [], σ := { nx := 0, t := .lf } } = some (.go s)) (hss : ∀ {B : Nat} {w0 : World} {g : FuncId} {κ : K} {fr : Frame} {cs : List Frame} {w : World}, Sim B w0 g κ s fr cs w → Sim B w0 g κ s' fr cs w) (h2 : runA E m s' = some (.done v σ')) {us : List Value} (hl : VRL (fun _ => none) args us) :
    Calls E.P f us.toArray w fun e w' => ∃ κ u, e = .returned u ∧ VR κ v u ∧ HR w.heap.size w κ σ' w' := by
  obtain ⟨g1, g2⟩ := enterA_ok S hl he
  intro base
  have hs : Sim w.heap.size w f (fun _ => none) { fr := fr, cs := [], σ := { nx := 0, t := .lf } } (Frame.enter E.P f us.toArray .normal) [] w :=
    ⟨g1, .nil, ⟨fun _ _ e => (by cases e), fun _ _ e => (by cases e), fun _ _ _ _ _ _ _ e => (by cases e), .refl _ _, Nat.le_refl _⟩, g2⟩
  obtain ⟨κ', fr', cs', w', k1, k2, k3⟩ := (run_ok S hm n).1 (base := base) hs h1
  obtain ⟨κ'', u, fr'', w'', m1, m2, m3, m4, m5, m6⟩ := (run_ok S hm m).1 (base := base) (hss k3) h2
  exact ⟨.returned u, w'', fr'', ⟨κ'', u, rfl, m5, m6⟩, Steps.trans k2 m2, m4, m3⟩
end Go.Eng
