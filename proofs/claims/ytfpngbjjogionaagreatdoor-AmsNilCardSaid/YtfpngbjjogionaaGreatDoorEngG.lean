/- The engine, thirteenth part: one step of the engine's machine is so many of the model's. -/
import Derived.Test.YtfpngbjjogionaaGreatDoorEngF
namespace Go.Eng
open Go.RowKit

def OutOk (P : Program) (B : Nat) (w0 : World) (g : FuncId) (κ : K) (fr : Frame) (cs : List Frame) (w : World) (base : List Frame) : AOut → Prop
  | .go s' => ∃ κ' fr' cs' w', K.Sub κ κ' ∧ Steps P (lone fr (cs ++ base) w) (lone fr' (cs' ++ base) w') ∧ Sim B w0 g κ' s' fr' cs' w'
  | .done v σ' => ∃ κ' u fr' w', K.Sub κ κ' ∧ Steps P (lone fr (cs ++ base) w) (lone fr' base w') ∧ fr'.leaving P w' (.returned u) ∧ fr'.fn = g ∧ VR κ' v u ∧ HR B w0 κ' σ' w'

def CallOk (P : Program) (call : FuncId → List AV → AH → Option (AV × AH)) : Prop :=
  ∀ f args σ v σ', call f args σ = some (v, σ') → ∀ B w0 κ w us, HR B w0 κ σ w → VRL κ args us →
    Calls P f us.toArray w fun e w' => ∃ κ' u, K.Sub κ κ' ∧ e = .returned u ∧ VR κ' v u ∧ HR B w0 κ' σ' w'

/-- A call, by its word, up to the caller's going on. -/
theorem calls_steps {P : Program} {f : FuncId} {args : Array Value} {w : World} {R : Value → World → Prop} {c : Frame} {cs : List Frame}
    (h : Calls P f args w fun e w' => ∃ u, e = .returned u ∧ R u w') : ∃ u w', R u w' ∧ Steps P (lone (Frame.enter P f args .normal) (c :: cs) w) (lone (c.finish u) cs w') := by
  obtain ⟨e, w', fr', ⟨u, rfl, hR⟩, hst, _, hl⟩ := h (c :: cs)
  exact ⟨u, w', hR, Steps.trans hst (.one (step_leave_returned hl))⟩

section
variable {E : Env} (S : Sound E) {B : Nat} {w0 : World} {g : FuncId} {κ : K}

include S in
theorem nextA_ok {a : AFr} {acs : List AFr} {fr0 fr : Frame} {cs base : List Frame} {w w' : World} {κ' : K} {r : ANext × AH} {x : Next} {out : AOut}
    (hs : K.Sub κ κ') (hfr : FrR κ' a fr) (hcs : CsR κ' acs cs) (hh : HR B w0 κ' r.2 w') (hx : NR κ' r.1 x) (hb : baseA a acs = g)
    (hv : ∀ v, x = .value v → Steps E.P (lone fr0 (cs ++ base) w) (lone (fr.finish v) (cs ++ base) w'))
    (hk : x = .skip → Steps E.P (lone fr0 (cs ++ base) w) (lone (fr.finish undef) (cs ++ base) w'))
    (he : ∀ f args, x = .enter f args → Steps E.P (lone fr0 (cs ++ base) w) (lone (Frame.enter E.P f args .normal) (fr :: (cs ++ base)) w'))
    (hr : ∀ l f tmps assign body, x = .round l f tmps assign body → Steps E.P (lone fr0 (cs ++ base) w) (lone (Frame.round l f tmps assign body .normal) (fr :: (cs ++ base)) w'))
    (ho : nextA E a acs r = some out) : OutOk E.P B w0 g κ fr0 cs w base out := by
  obtain ⟨r1, r2⟩ := r
  cases hx with
  | @val v u hvu =>
    simp only [nextA] at ho
    split at ho
    · rename_i a' hf
      cases ho
      obtain ⟨h1, h2⟩ := hfr.finish hvu hf
      exact ⟨κ', _, cs, w', hs, hv u rfl, h1, hcs, hh, by rw [← hb]; exact baseA_fn h2 _⟩
    · cases ho
  | skip =>
    simp only [nextA] at ho
    split at ho
    · rename_i a' hf
      cases ho
      obtain ⟨h1, h2⟩ := hfr.finish VR.undef hf
      exact ⟨κ', _, cs, w', hs, hk rfl, h1, hcs, hh, by rw [← hb]; exact baseA_fn h2 _⟩
    · cases ho
  | @enter f args us hl =>
    simp only [nextA] at ho
    split at ho
    · rename_i v σ' hhook
      split at ho
      · rename_i a' hf
        cases ho
        have hc := S.hook f args r2 v σ' hhook B w0 κ' w' us hh hl
        obtain ⟨u, w'', ⟨κ'', hs', hvu, hh'⟩, hst⟩ := calls_steps (c := fr) (cs := cs ++ base) (R := fun u w'' => ∃ κ'', K.Sub κ' κ'' ∧ VR κ'' v u ∧ HR B w0 κ'' σ' w'')
          (hc.mono fun e w'' ⟨κ'', u, h1, h2, h3, h4⟩ => ⟨u, h2, κ'', h1, h3, h4⟩)
        obtain ⟨h1, h2⟩ := (hfr.mono hs').finish hvu hf
        exact ⟨κ'', _, cs, w'', hs.trans hs', Steps.trans (he f _ rfl) hst, h1, hcs.mono hs', hh', by rw [← hb]; exact baseA_fn h2 _⟩
      · cases ho
    · split at ho
      · rename_i fr' hf
        cases ho
        obtain ⟨h1, h2⟩ := enterA_ok S hl hf
        exact ⟨κ', _, fr :: cs, w', hs, he f _ rfl, h1, .cons hfr hcs, hh, hb⟩
      · cases ho
  | @round l rl c rr tm tmps hl ht =>
    simp only [nextA] at ho
    cases ho
    refine ⟨κ', _, fr :: cs, w', hs, hr _ _ _ _ _ rfl, ⟨rfl, ht, .cons (.code _) (.cons .begin (.cons (.code _) .nil)), .nil, rfl, rfl, ⟨c, hl⟩⟩, .cons hfr hcs, hh, hb⟩

theorem popA_ok {c : AFr} {acs : List AFr} {fr cf : Frame} {cs base : List Frame} {w w' : World} {κ' : K} {σ : AH} {v : AV} {u : Value} {out : AOut}
    (hs : K.Sub κ κ') (hc : FrR κ' c cf) (hcs : CsR κ' acs cs) (hh : HR B w0 κ' σ w') (hvu : VR κ' v u) (hb : baseA c acs = g)
    (hst : Steps E.P (lone fr (cf :: cs ++ base) w) (lone (cf.finish u) (cs ++ base) w')) (ho : popA c acs v σ = some out) : OutOk E.P B w0 g κ fr (cf :: cs) w base out := by
  unfold popA at ho
  split at ho
  · rename_i c' hf
    cases ho
    obtain ⟨h1, h2⟩ := hc.finish hvu hf
    exact ⟨κ', _, cs, w', hs, hst, h1, hcs, hh, by rw [← hb]; exact baseA_fn h2 _⟩
  · cases ho

theorem nbeq_false {a b : Nat} (h : Nat.beq a b = false) : (a == b) = false := by
  rw [beq_eq_false_iff_ne]
  intro e
  subst e
  rw [Nat.beq_refl] at h
  cases h

theorem exitTo_ok {id : Nat} : ∀ {l : List AIt} {k : List Item}, ItsR κ l k → ∀ {l' : List AIt}, exitToA id l = some l' → ∃ k', exitTo id k = some k' ∧ ItsR κ l' k'
  | _, _, .nil, l', h => by simp [exitToA] at h
  | _, _, .cons hi hk, l', h => by
    cases hi with
    | inBlock id' =>
      simp only [exitToA] at h
      cases hb : Nat.beq id' id with
      | true =>
        rw [hb, cond_true] at h
        cases h
        have := nbeq_eq hb
        exact ⟨_, by simp [exitTo, this], hk⟩
      | false =>
        rw [hb, cond_false] at h
        obtain ⟨k', e, hk'⟩ := exitTo_ok hk h
        have : (id' == id) = false := nbeq_false hb
        exact ⟨k', by simp only [exitTo, this, Bool.false_eq_true, if_false]; exact e, hk'⟩
    | _ =>
      simp only [exitToA] at h
      obtain ⟨k', e, hk'⟩ := exitTo_ok hk h
      exact ⟨k', by simp only [exitTo]; exact e, hk'⟩
theorem exitTo_none {id : Nat} : ∀ {l : List AIt} {k : List Item}, ItsR κ l k → exitToA id l = none → exitTo id k = none
  | _, _, .nil, _ => rfl
  | _, _, .cons hi hk, h => by
    cases hi with
    | inBlock id' =>
      simp only [exitToA] at h
      cases hb : Nat.beq id' id with
      | true => rw [hb, cond_true] at h; cases h
      | false =>
        rw [hb, cond_false] at h
        have : (id' == id) = false := nbeq_false hb
        simp only [exitTo, this, Bool.false_eq_true, if_false]
        exact exitTo_none hk h
    | _ =>
      simp only [exitToA] at h
      simp only [exitTo]
      exact exitTo_none hk h

theorem wanted_ok {a : AFr} {fr : Frame} (h : FrR κ a fr) (ops : Array Oper) (o : Oper) : Region.wanted o (yielded ops fr.tmps) = wantedA o ops a.tm := by
  unfold Region.wanted wantedA
  cases hg : o.guard with
  | none => rfl
  | some p =>
    obtain ⟨j, b⟩ := p
    simp only
    unfold yielded
    cases hd : (ops[j]?).bind (·.dst) with
    | none => simp
    | some d =>
      simp only [Option.bind_some]
      by_cases hlt : d < a.nt
      · obtain ⟨u, e, hv⟩ := h.tm.get d hlt
        rw [e]
        generalize (a.tm.get d).getD undefA = av at hv ⊢
        cases hv with
        | sc =>
          cases u <;> first | rfl | (rename_i b'; cases b <;> cases b' <;> rfl)
        | _ => rfl
      · have hge : a.nt ≤ d := Nat.le_of_not_lt hlt
        rw [h.tm.out d hge, Array.getElem?_eq_none (by rw [h.tm.size]; exact hge)]
        rfl

/-- the results of a function -/
theorem results_ok {a : AFr} {fr : Frame} (S : Sound E) {σ : AH} {w : World} (hfr : FrR κ a fr) (hh : HR B w0 κ σ w) : ∀ (rs : List ResultVar) (vs : List AV), resultsA E a σ rs = some vs →
    ∃ us, VRL κ vs us ∧ (rs.mapM (m := Sem) fun
    | .tmp t => pure (fr.tmps.getD t undef)
    | .cell a t => do loadVar t (← asAddr (fr.tmps.getD a undef))).run E.P w = .ok us w
  | [], vs, he => by
    simp only [resultsA] at he; cases he
    exact ⟨[], .nil, by simp⟩
  | r :: rs, vs, he => by
    simp only [resultsA] at he
    split at he
    · rename_i v vs' hv hvs
      cases he
      obtain ⟨us, hus, hrun⟩ := results_ok S hfr hh rs vs' hvs
      cases r with
      | tmp t =>
        simp only [resultA] at hv
        cases hv
        exact ⟨_, .cons (hfr.tm.getD t) hus, by rw [List.mapM_cons]; simp only [Sem.run_bind, Sem.run_pure, Result.andThen_ok, hrun]⟩
      | cell t T =>
        simp only [resultA] at hv
        split at hv
        · rename_i v' σ' hl
          cases hv
          have ht := hfr.tm.getD t
          obtain ⟨v2, x, e, hr, hvx⟩ := aload_ok S.tt hh ht hl
          cases e
          refine ⟨x :: us, .cons hvx hus, ?_⟩
          rw [List.mapM_cons]
          have key : (do loadVar T (← asAddr (fr.tmps.getD t undef))).run E.P w = .ok x w := by
            generalize fr.tmps.getD t undef = u at ht hr
            generalize (a.tm.get t).getD undefA = av at ht hl
            cases ht with
            | ptr hk =>
              simp only [Instr.loadAt, Instr.sureAddr, pure_bind] at hr
              simp only [asAddr, pure_bind, hr]
            | _ => simp [aload] at hl
          rw [Sem.run_bind, key]
          simp only [Result.andThen_ok, Sem.run_bind, hrun, Sem.run_pure]
        · cases hv
    · cases he

theorem unwindA_ok (S : Sound E) {s : ASt} {fr : Frame} {cs base : List Frame} {w : World} {out : AOut} (h : Sim B w0 g κ s fr cs w) (hret : s.fr.ret = true) (ho : unwindA E s = some out) :
    OutOk E.P B w0 g κ fr cs w base out := by
  obtain ⟨hfr, hcs, hh, hb⟩ := h
  obtain ⟨fn, tmps, todo, defers, mode, kind, ro⟩ := fr
  have hmode := hfr.mode
  have hkind := hfr.kind
  rw [hret] at hmode
  simp only [if_true] at hmode hkind
  subst hmode hkind
  unfold unwindA at ho
  split at ho
  · rename_i b ds hdf
    split at ho
    · rename_i hg
      cases ho
      have hd := hfr.df
      rw [hdf] at hd
      obtain ⟨r, c, k, rfl, hk, hl⟩ : ∃ r c k, defers = { target := .collected r, args := #[] } :: k ∧ κ b = some (r, c) ∧ DfR κ ds k := by
        generalize hdd : ({ fn := fn, tmps := tmps, todo := todo, defers := defers, mode := FrameMode.returning, kind := CallKind.normal, roundOf := ro } : Frame).defers = dd at hd
        simp only at hdd
        subst hdd
        cases hd with
        | cons hk hl => exact ⟨_, _, _, rfl, hk, hl⟩
      obtain ⟨r', c', O, e, hO, ho', _⟩ := hh.live b _ hg rfl
      rw [hk] at e; cases e
      cases ho' with
      | defd =>
        refine ⟨κ, _, cs, _, .refl κ, .one (st_taken hO), ⟨hfr.fn, hfr.tm, hfr.todo, hl, by rw [hret]; rfl, rfl, hfr.rnd⟩, hcs, ?_, (@baseA_fn { s.fr with df := ds } s.fr rfl s.cs).trans hb⟩
        exact hh.lose hg rfl hk (setObj_upd hO)
    · cases ho
  · rename_i hdf
    have hd := hfr.df
    rw [hdf] at hd
    have hd0 : defers = [] := by
      generalize hdd : ({ fn := fn, tmps := tmps, todo := todo, defers := defers, mode := FrameMode.returning, kind := CallKind.normal, roundOf := ro } : Frame).defers = dd at hd
      simp only at hdd
      subst hdd
      cases hd with
      | nil => rfl
    subst hd0
    split at ho
    · rename_i fi hfi
      obtain ⟨f, e1, _, _, _, e5⟩ := (S.ft _ _ hfi).fn
      split at ho
      · rename_i vs hvs
        obtain ⟨us, hus, hrun⟩ := results_ok S hfr hh fi.res vs hvs
        rw [← e5] at hrun
        have hres : (results f tmps).run E.P w = .ok (if h : us.toArray.size = 1 then us.toArray[0] else .tuple us.toArray) w := by
          unfold results
          rw [Array.mapM_eq_mapM_toList]
          simp only [Sem.run_bind, Sem.run_map]
          simp only at hrun
          erw [hrun]
          rfl
        have hfn : E.P.funcs[fn]? = some f := by rw [show fn = s.fr.fn from hfr.fn]; exact e1
        have hvu : VR κ (oneOrTup vs) (if h : us.toArray.size = 1 then us.toArray[0] else .tuple us.toArray) := by
          cases hus with
          | nil => exact .tup .nil
          | cons h1 h2 =>
            cases h2 with
            | nil => exact h1
            | cons h2 h3 =>
              rw [dif_neg (by simp)]
              exact .tup (.cons h1 (.cons h2 h3))
        generalize (if h : us.toArray.size = 1 then us.toArray[0] else .tuple us.toArray) = u at hres hvu
        have hleave : ({ fn := fn, tmps := tmps, todo := todo, defers := [], mode := FrameMode.returning, kind := CallKind.normal, roundOf := ro } : Frame).leaving E.P w (.returned u) :=
          ⟨rfl, rfl, rfl, f, hfn, hres⟩
        cases hcsa : s.cs with
        | nil =>
          rw [hcsa] at ho hcs hb
          cases hcs
          simp only at ho
          cases ho
          exact ⟨κ, u, _, w, .refl κ, .refl _ _, hleave, by rw [← hb]; exact hfr.fn, hvu, hh⟩
        | cons c acs =>
          rw [hcsa] at ho hcs hb
          cases hcs with
          | cons hc hcs' =>
            simp only at ho
            exact popA_ok (.refl κ) hc hcs' hh hvu hb (.one (step_leave_returned hleave)) ho
      · cases ho
    · cases ho
end
end Go.Eng
/- The engine, fourteenth part: one step, whole. -/
namespace Go.Eng
open Go.RowKit

def DrawOk (E : Env) (call : FuncId → List AV → AH → Option (AV × AH)) : Prop :=
  ∀ nt tm ops σ tm' σ', drawA E call nt tm ops σ = some (tm', σ') → ∀ B w0 κ w t, HR B w0 κ σ w → TmR κ nt tm t → ∀ fn id k d ro cs,
    ∃ κ' t' w', K.Sub κ κ' ∧ Steps E.P (lone (FR fn t (.code (.region id ops true) :: k) d ro) cs w) (lone (FR fn t' k d ro) cs w') ∧ TmR κ' nt tm' t' ∧ HR B w0 κ' σ' w'

section
variable {E : Env} {B : Nat} {w0 : World} {g : FuncId} {κ : K}

theorem sim_to {s : ASt} {fn : FuncId} {t : Array Value} {d : List Deferred} {ro : Option Nat} {todo todo' : List Item} {atodo : List AIt} {cs base : List Frame} {w : World}
    (h : Sim B w0 g κ s (FR fn t todo d ro) cs w) (hst : step E.P (lone (FR fn t todo d ro) (cs ++ base) w) = .next (lone (FR fn t todo' d ro) (cs ++ base) w)) (hr : s.fr.ret = false) (ht : ItsR κ atodo todo') :
    OutOk E.P B w0 g κ (FR fn t todo d ro) cs w base (.go { s with fr := { s.fr with todo := atodo } }) := by
  obtain ⟨hfr, hcs, hh, hb⟩ := h
  exact ⟨κ, _, cs, w, .refl κ, .one hst, ⟨hfr.fn, hfr.tm, ht, hfr.df, by rw [hr]; rfl, rfl, hfr.rnd⟩, hcs, hh, (@baseA_fn { s.fr with todo := atodo } s.fr rfl s.cs).trans hb⟩

theorem leaveA_ok {s : ASt} {fn : FuncId} {t : Array Value} {d : List Deferred} {ro : Option Nat} {todo : List Item} {cs base : List Frame} {w : World} {jump : Option Code} {out : AOut}
    (h : Sim B w0 g κ s (FR fn t todo d ro) cs w)
    (ht : (todo = [] ∧ jump = none) ∨ (∃ k, todo = .code .ret :: k ∧ jump = some .ret) ∨ (∃ id k, todo = .code (.exit id) :: k ∧ exitTo id k = none ∧ jump = some (.exit id)))
    (ho : leaveA s jump = some out) : OutOk E.P B w0 g κ (FR fn t todo d ro) cs w base out := by
  obtain ⟨hfr, hcs, hh, hb⟩ := h
  have hrnd := hfr.rnd
  unfold leaveA at ho
  split at ho
  · rename_i hr
    rw [hr] at hrnd
    have hro : ro = none := by
      cases ro with
      | none => rfl
      | some r => exact hrnd.elim
    subst hro
    have go : step E.P (lone (FR fn t todo d none) (cs ++ base) w) = .next (lone { FR fn t todo d none with mode := .returning } (cs ++ base) w) → out = .go { s with fr := { s.fr with ret := true } } →
        OutOk E.P B w0 g κ (FR fn t todo d none) cs w base out := by
      intro hst e
      subst e
      exact ⟨κ, _, cs, w, .refl κ, .one hst, ⟨hfr.fn, hfr.tm, hfr.todo, hfr.df, rfl, rfl, by rw [hr]; trivial⟩, hcs, hh, (@baseA_fn { s.fr with ret := true } s.fr rfl s.cs).trans hb⟩
    rcases ht with ⟨rfl, rfl⟩ | ⟨k, rfl, rfl⟩ | ⟨id, k, rfl, _, rfl⟩
    · simp only at ho; cases ho
      exact go st_end0 rfl
    · simp only at ho; cases ho
      exact go st_ret0 rfl
    · simp only at ho; cases ho
  · rename_i l hr
    rw [hr] at hrnd
    obtain ⟨rl, hro⟩ : ∃ rl, ro = some rl := by
      cases ro with
      | none => exact hrnd.elim
      | some r => exact ⟨r, rfl⟩
    subst hro
    obtain ⟨c, hk⟩ := hrnd
    split at ho
    · rename_i r hg
      obtain ⟨L, hO, hL⟩ := loop_of hh hg hk
      cases hcsa : s.cs with
      | nil => rw [hcsa] at ho; cases jump <;> simp at ho
      | cons ca acs =>
        rw [hcsa] at ho hcs hb
        cases hcs with
        | @cons _ cf _ cs' hc hcs' =>
        cases jump with
        | none =>
          simp only at ho
          have hst := st_leave (P := E.P) (fn := fn) (t := t) (d := d) (cs := cs' ++ base) (jump := none) (c := cf) hO rfl ht
          refine popA_ok (.refl κ) hc hcs' (hh.put hg rfl hk (setObj_upd hO) (.loop ?_)) (.sc (.bool true)) hb (.one hst) ho
          exact ⟨rfl, rfl, hL.fn, hL.tm, hL.ps, hL.assign, hL.body, hL.df⟩
        | some j =>
          simp only at ho
          have hst := st_leave (P := E.P) (fn := fn) (t := t) (d := d) (cs := cs' ++ base) (jump := some j) (c := cf) hO rfl ht
          refine popA_ok (.refl κ) hc hcs' (hh.put hg rfl hk (setObj_upd hO) (.loop ?_)) (.sc (.bool false)) hb (.one hst) ho
          exact ⟨rfl, rfl, hL.fn, hL.tm, hL.ps, hL.assign, hL.body, hL.df⟩
    · cases ho

theorem aop_notDefer {ρ : Operand → AV} {o : Oper} {σ : AH} {r : ANext × AH} (he : aop E ρ o σ = some r) : ∀ c, o.op ≠ .defer c := by
  intro c hc
  simp [aop, hc] at he

theorem stepA_ok (S : Sound E) {call : FuncId → List AV → AH → Option (AV × AH)} (hD : DrawOk E call) {s : ASt} {fr : Frame} {cs base : List Frame} {w : World} {out : AOut}
    (h : Sim B w0 g κ s fr cs w) (ho : stepA E call s = some out) : OutOk E.P B w0 g κ fr cs w base out := by
  unfold stepA at ho
  split at ho
  · rename_i hret
    exact unwindA_ok S h hret ho
  · rename_i hret
    obtain ⟨hfr, hcs, hh, hb⟩ := h
    obtain ⟨fn, t, todo, d, mode, kind, ro⟩ := fr
    have hmode := hfr.mode
    have hkind := hfr.kind
    rw [hret] at hmode
    simp only [Bool.false_eq_true, if_false] at hmode hkind
    subst hmode hkind
    have h : Sim B w0 g κ s (FR fn t todo d ro) cs w := ⟨hfr, hcs, hh, hb⟩
    have htodo : ItsR κ s.fr.todo todo := hfr.todo
    simp only at ho
    split at ho
    · -- the end
      rename_i e
      rw [e] at htodo; cases htodo
      exact leaveA_ok h (.inl ⟨rfl, rfl⟩) ho
    · -- code
      rename_i c k e
      rw [e] at htodo
      cases htodo with
      | @cons _ _ _ k2 hi hk =>
      cases hi with
      | code =>
      split at ho
      · cases ho; exact sim_to h st_skip hret hk
      · cases ho; exact sim_to h st_label hret hk
      · exact leaveA_ok h (.inr (.inl ⟨_, rfl, rfl⟩)) ho
      · cases ho; exact sim_to h st_seq hret (.cons (.code _) (.cons (.code _) hk))
      · rename_i c a b
        have hev := hfr.eval c
        split at ho
        · rename_i hq
          rw [hq] at hev
          cases ho
          refine sim_to h (st_cond (v := true) ?_) hret (.cons (.code _) hk)
          generalize Frame.eval _ c = u at hev
          cases hev; rfl
        · rename_i hq
          rw [hq] at hev
          cases ho
          refine sim_to h (st_cond (v := false) ?_) hret (.cons (.code _) hk)
          generalize Frame.eval _ c = u at hev
          cases hev; rfl
        · cases ho
      · cases ho; exact sim_to h st_block hret (.cons (.code _) (.cons (.inBlock _) hk))
      · cases ho; exact sim_to h st_loop hret (.cons (.code _) (.cons (.inLoop _) hk))
      · cases ho; exact sim_to h st_scope hret (.cons (.code _) (.cons (.inScope _) hk))
      · rename_i id
        split at ho
        · rename_i k' hx
          cases ho
          obtain ⟨k'', e1, e2⟩ := exitTo_ok hk hx
          exact sim_to h (st_exit e1) hret e2
        · rename_i hx
          exact leaveA_ok h (.inr (.inr ⟨_, _, rfl, exitTo_none hk hx, rfl⟩)) ho
      · rename_i id ops
        cases ho
        refine sim_to h st_region hret (.cons ?_ hk)
        have := ItR.reg (κ := κ) (ops := ops) (i := 0) (rest := ops.toList) (by simp)
        rw [Array.length_toList, ← List.range_eq_range'] at this
        exact this
      · rename_i id ops
        split at ho
        · rename_i tm' σ' hd
          cases ho
          obtain ⟨κ', t', w', hs, hst, htm, hh'⟩ := hD _ _ _ _ _ _ hd B w0 κ w t hh hfr.tm fn id _ d ro (cs ++ base)
          refine ⟨κ', _, cs, w', hs, hst, ⟨hfr.fn, htm, hk.mono hs, hfr.df.mono hs, by show FrameMode.run = if s.fr.ret then _ else _; rw [hret]; rfl, rfl, hfr.rnd.mono hs⟩, hcs.mono hs, hh', by rw [← hb]; exact baseA_fn (b := s.fr) (by rfl) s.cs⟩
        · cases ho
      · rename_i f ps assign body
        split at ho
        · cases ho
        · rename_i hr
          have hrnd := hfr.rnd
          rw [hr] at hrnd
          have hro : ro = none := by
            cases ro with
            | none => rfl
            | some r => exact hrnd.elim
          subst hro
          split at ho
          · rename_i g' args σ' hc
            have h1 := hh.new (b := .defd) (O := .deferred (some [])) (c := 0) .defd
            have hloop : LoopR (κ.ext s.σ.nx (w.heap.size, 0)) { st := .ready, pend := none, fn := s.fr.fn, nt := s.fr.nt, tm := s.fr.tm, ps, assign, body, df := s.σ.nx }
                { state := .ready, pending := none, fn, tmps := t, params := ps, assign, body, defers := w.heap.size } :=
              ⟨rfl, rfl, hfr.fn, hfr.tm.mono (hh.sub_new _), rfl, rfl, rfl, ⟨0, K.ext_self _ _ _⟩⟩
            have h2 := h1.new (.loop hloop) (c := 0)
            have hs1 := hh.sub_new (w.heap.size, 0)
            have hs2 := h1.sub_new ((w.alloc (.deferred (some []))).heap.size, 0)
            have hs := hs1.trans hs2
            have hyl := VR.yl (κ := K.ext (κ.ext s.σ.nx (w.heap.size, 0)) (s.σ.new .defd).nx ((w.alloc (.deferred (some []))).heap.size, 0)) (K.ext_self _ _ _)
            obtain ⟨κ3, w3, x, hs3, hrun, hh3, hx⟩ := acallV_ok S h2 ((hfr.eval f).mono hs) (.cons hyl .nil) hc
            rw [World.size_alloc] at hrun hyl hs2 hs3
            have hs := hs1.trans hs2
            cases hx with
            | @enter _ _ us hl =>
            have hfr' : FrR κ3 { s.fr with todo := .inRF (s.σ.new .defd).nx :: k, df := s.σ.nx :: s.fr.df } (FR fn t (.inRangeFunc (w.heap.size + 1) :: k2) ({ target := .collected w.heap.size, args := #[] } :: d) none) := by
              refine ⟨hfr.fn, hfr.tm.mono (hs.trans hs3), .cons (.inRF (c := 0) ?_) (hk.mono (hs.trans hs3)), .cons (c := 0) ?_ (hfr.df.mono (hs.trans hs3)), ?_, rfl, ?_⟩
              · have := hs3 _ _ (K.ext_self (κ.ext s.σ.nx (w.heap.size, 0)) (s.σ.new .defd).nx (w.heap.size + 1, 0))
                exact this
              · exact (hs2.trans hs3) _ _ (K.ext_self κ s.σ.nx (w.heap.size, 0))
              · show FrameMode.run = if s.fr.ret then _ else _; rw [hret]; rfl
              · show RndR κ3 s.fr.rnd none; rw [hr]; trivial
            refine nextA_ok (fr := FR fn t (.inRangeFunc (w.heap.size + 1) :: k2) ({ target := .collected w.heap.size, args := #[] } :: d) none) S (hs.trans hs3) hfr' (hcs.mono (hs.trans hs3)) hh3 (.enter hl) (by rw [← hb]; exact baseA_fn (b := s.fr) (by rfl) s.cs) ?_ ?_ ?_ ?_ ho
            · intro v e; cases e
            · intro e; cases e
            · intro f' args' e
              cases e
              refine .one (st_rangeFunc ?_)
              simp only [resolve, List.map_toArray, List.map_cons, List.map_nil]
              cases f <;> exact hrun
            · intro l f' tmps' assign' body' e; cases e
          · cases ho
      · cases ho
    · rename_i id k e
      rw [e] at htodo
      cases htodo with
      | cons hi hk =>
      cases hi with
      | inBlock => cases ho; exact sim_to h st_inBlock hret hk
    · rename_i c k e
      rw [e] at htodo
      cases htodo with
      | cons hi hk =>
      cases hi with
      | inScope => cases ho; exact sim_to h st_inScope hret hk
    · rename_i c k e
      rw [e] at htodo
      cases htodo with
      | cons hi hk =>
      cases hi with
      | inLoop => cases ho; exact sim_to h st_inLoop hret (.cons (.code _) (.cons (.inLoop _) hk))
    · rename_i ops i k e
      rw [e] at htodo
      cases htodo with
      | cons hi hk =>
      cases hi with
      | reg => cases ho; exact sim_to h st_regionEnd hret hk
    · rename_i ops i o rest k e
      rw [e] at htodo
      cases htodo with
      | cons hi hk =>
      cases hi with
      | reg hrr =>
      have hoi : ops[i]? = some o := by
        have : (ops.toList.drop i)[0]? = some o := by rw [← hrr]; rfl
        simpa using this
      have hrest : rest = ops.toList.drop (i + 1) := by
        have : (o :: rest).drop 1 = (ops.toList.drop i).drop 1 := by rw [hrr]
        simpa [List.drop_drop] using this
      have hwant := wanted_ok hfr ops o
      simp only at hwant
      have hlr : List.range' i (o :: rest).length = i :: List.range' (i + 1) rest.length := by simp [List.range'_succ]
      simp only [hlr] at h hfr ⊢
      split at ho
      · rename_i hw
        rw [hw] at hwant
        split at ho
        · rename_i r hr
          have hnd := aop_notDefer hr
          obtain ⟨κ', w', x, hs, hrun, hh', hx⟩ := aop_ok S hh (o := o) (ρ' := (FR fn t (.inRegion ops (i :: List.range' (i + 1) rest.length) :: _) d ro).eval) (fun x => hfr.eval x) hr
          refine nextA_ok S hs (hfr.mono hs) (hcs.mono hs) hh' hx hb ?_ ?_ ?_ ?_ ho
          · intro v e; subst e; exact .one (st_value hoi hwant hnd hrun)
          · intro e; subst e; exact .one (st_opskip hoi hwant hnd hrun)
          · intro f args e; subst e; exact .one (st_enter hoi hwant hnd hrun)
          · intro l f tmps assign body e; subst e; exact .one (st_round hoi hwant hnd hrun)
        · cases ho
      · rename_i hw
        rw [hw] at hwant
        cases ho
        have hfin : finishA s.fr undefA = some { s.fr with tm := setDst s.fr.nt s.fr.tm o.dst undefA, todo := .reg ops (i + 1) rest :: k } := by
          unfold finishA; rw [e]
        obtain ⟨h1, h2⟩ := hfr.finish VR.undef hfin
        exact ⟨κ, _, cs, w, .refl κ, .one (st_unwanted (by simp [hoi, hwant])), h1, hcs, hh, (baseA_fn h2 s.cs).trans hb⟩
    · rename_i k e
      rw [e] at htodo
      cases htodo with
      | cons hi hk =>
      cases hi with
      | begin =>
      split at ho
      · rename_i l hr
        have hrnd := hfr.rnd
        rw [hr] at hrnd
        obtain ⟨rl, hro⟩ : ∃ rl, ro = some rl := by
          cases ro with
          | none => exact hrnd.elim
          | some r => exact ⟨r, rfl⟩
        subst hro
        obtain ⟨c, hkl⟩ := hrnd
        split at ho
        · rename_i r hg
          obtain ⟨L, hO, hL⟩ := loop_of hh hg hkl
          split at ho
          · rename_i hst
            cases ho
            have hls := hL.st
            rw [hst] at hls
            refine ⟨κ, _, cs, _, .refl κ, .one (st_begin hO hls), ⟨hfr.fn, hfr.tm, hk, hfr.df, by show FrameMode.run = if s.fr.ret then _ else _; rw [hret]; rfl, rfl, hfr.rnd⟩, hcs, hh.put hg rfl hkl (setObj_upd hO) (.loop ?_), by rw [← hb]; exact baseA_fn (b := s.fr) (by rfl) s.cs⟩
            exact ⟨rfl, hL.pend, hL.fn, hL.tm, hL.ps, hL.assign, hL.body, hL.df⟩
          · cases ho
        · cases ho
      · cases ho
    · cases ho
    · rename_i l k e
      rw [e] at htodo
      cases htodo with
      | @cons _ _ _ k2 hi hk =>
      cases hi with
      | @endRF _ rl c hkl =>
      split at ho
      · rename_i r hg
        obtain ⟨L, hO, hL⟩ := loop_of hh hg hkl
        split at ho
        · cases ho
        · rename_i hst
          cases ho
          have hls : L.state ≠ .busy := by
            intro e2
            have h2 := hL.st
            rw [e2] at h2
            cases hrs : r.st with
            | busy => exact hst hrs
            | ready => rw [hrs] at h2; cases h2
            | done => rw [hrs] at h2; cases h2
            | exhausted => rw [hrs] at h2; cases h2
          have hst2 := st_endRF (P := E.P) (fn := fn) (t := t) (d := d) (ro := ro) (cs := cs ++ base) (k := k2) hO hls
          refine ⟨κ, _, cs, _, .refl κ, .one hst2, ⟨hfr.fn, hfr.tm, ?_, hfr.df, by show FrameMode.run = if s.fr.ret then _ else _; rw [hret]; rfl, rfl, hfr.rnd⟩, hcs, hh.put hg rfl hkl (setObj_upd hO) (.loop ?_), by rw [← hb]; exact baseA_fn (b := s.fr) (by rfl) s.cs⟩
          · rw [hL.pend]
            cases r.pend with
            | none => exact hk
            | some c => exact .cons (.code c) hk
          · exact ⟨rfl, hL.pend, hL.fn, hL.tm, hL.ps, hL.assign, hL.body, hL.df⟩
      · cases ho
end
end Go.Eng
