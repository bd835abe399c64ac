/- Regions in any order: sound. -/
import Derived.Test.YtggofahhehkbbaaGreatDoorEvDrawA
namespace Go.Proofs.YtggofahhehkbbaaGreatDoor.Ev
set_option autoImplicit false
set_option linter.unusedVariables false
set_option linter.unusedSimpArgs false

/-! ### What was read alone counts -/
theorem runF_local {E : Env} {h : Handler} {base : Nat} {o : Oper} {gr : List Nat} {st st' : St} {u : Upd} (he : runF E h base o gr st = some u) (ht : ∀ t, t ∈ u.eff.tr → st'.tm t = st.tm t) (hb : ∀ i, i ∈ u.eff.br → st'.bk i = st.bk i) :
    runF E h base o gr st' = some u ∧ ∀ t, t ∈ gr → t ∈ u.eff.tr := by
  unfold runF at he ⊢
  split at he
  case h_1 t a b hop =>
    split at he
    case h_2 => simp at he
    case h_1 c hc =>
      split at he
      case h_2 => simp at he
      case h_1 x tr br hr =>
        simp only [Option.some.injEq] at he
        subst he
        obtain ⟨l1, l2, l3⟩ := run_local _ hr
        have h1 := ht t (l1 t (by simp))
        rw [hc] at h1
        simp only [h1]
        rw [l3 st' ht hb]
        exact ⟨rfl, fun t' h' => l1 t' (by simp [h'])⟩
  case h_2 x hne =>
    split at he
    case h_4 => simp at he
    all_goals
      rename_i hr
      simp only [Option.some.injEq] at he
      subst he
      obtain ⟨l1, l2, l3⟩ := run_local _ hr
      rw [l3 st' ht hb]
      exact ⟨rfl, fun t' h' => l1 t' h'⟩

theorem opF_local {E : Env} {h : Handler} {base : Nat} {ops : List Oper} {o : Oper} {st st' : St} {u : Upd} (he : opF E h base ops o st = some u) (ht : ∀ t, t ∈ u.eff.tr → st'.tm t = st.tm t) (hb : ∀ i, i ∈ u.eff.br → st'.bk i = st.bk i) :
    opF E h base ops o st' = some u := by
  unfold opF at he ⊢
  cases hg : o.guard with
  | none => rw [hg] at he; exact (runF_local he ht hb).1
  | some jw =>
    obtain ⟨j, want⟩ := jw
    rw [hg] at he
    simp only at he ⊢
    cases hd : dstOf ops j with
    | none => rw [hd] at he; simp at he
    | some d =>
      rw [hd] at he
      simp only at he ⊢
      have hgr : grOf ops o = [d] := by simp [grOf, hg, hd, optL]
      split at he
      case h_1 b hb' =>
        split at he
        case isTrue hw =>
          have := runF_local he ht hb
          have h1 := ht d (this.2 d (by rw [hgr]; simp))
          rw [hb'] at h1
          simp only [h1, if_pos hw]
          exact this.1
        case isFalse hw =>
          have he' := he
          simp only [Option.some.injEq] at he'
          have h1 := ht d (by rw [← he']; simp [hgr])
          rw [hb'] at h1
          simp only [h1, if_neg hw]
          exact he
      case h_2 hb' =>
        have he' := he
        simp only [Option.some.injEq] at he'
        have h1 := ht d (by rw [← he']; simp [hgr])
        rw [hb'] at h1
        simp only [h1]
        exact he
      case h_3 => simp at he

structure Upd.wf (u : Upd) : Prop where
  tw : ∀ t, u.d = some t → t ∈ u.eff.tw
  bw : u.eff.bw = bwIds u.bw

theorem runF_wf {E : Env} {h : Handler} {base : Nat} {o : Oper} {gr : List Nat} {st : St} {u : Upd} (he : runF E h base o gr st = some u) : u.wf := by
  unfold runF at he
  split at he
  · split at he
    · split at he
      · simp only [Option.some.injEq] at he; subst he; exact ⟨fun t h => by simp only at h; simp [h, optL], rfl⟩
      · simp at he
    · simp at he
  · split at he
    · simp only [Option.some.injEq] at he; subst he; exact ⟨fun t h => by simp only at h; simp [h, optL], rfl⟩
    · simp only [Option.some.injEq] at he; subst he; exact ⟨fun t h => by simp only at h; simp [h, optL], rfl⟩
    · simp only [Option.some.injEq] at he; subst he; exact ⟨fun t h => by simp at h, rfl⟩
    · simp at he

theorem opF_wf {E : Env} {h : Handler} {base : Nat} {ops : List Oper} {o : Oper} {st : St} {u : Upd} (he : opF E h base ops o st = some u) : u.wf := by
  unfold opF at he
  split at he
  · exact runF_wf he
  · split at he
    · split at he
      · split at he
        · exact runF_wf he
        · simp only [Option.some.injEq] at he; subst he; exact ⟨fun t h => by simp only at h; simp [h, optL], rfl⟩
      · simp only [Option.some.injEq] at he; subst he; exact ⟨fun t h => by simp only at h; simp [h, optL], rfl⟩
      · simp at he
    · simp at he

theorem noUpd_wf : noUpd.wf := ⟨fun t h => by simp [noUpd] at h, rfl⟩

theorem mem_bwIds {bw : BW} {i : Nat} (h : BW.find bw i ≠ none) : i ∈ bwIds bw := by
  induction bw with
  | nil => simp [BW.find] at h
  | cons x r ih =>
    obtain ⟨j, b⟩ := x
    rw [find_cons] at h
    by_cases hj : j = i
    · simp [bwIds, hj]
    · rw [if_neg hj] at h
      simp [bwIds, ih h]

/-! ### Writes that pass each other -/
theorem app_tm (u : Upd) (st : St) (t : Nat) : (u.app st).tm t = if u.d = some t then u.x else st.tm t := by
  unfold Upd.app
  cases hd : u.d with
  | none => simp [St.setD, setBs_tm]
  | some d =>
    show upd (st.setBs u.bw).tm d u.x t = _
    by_cases he : t = d
    · subst he; simp [upd_same]
    · rw [upd_ne _ _ he, setBs_tm]
      simp [Ne.symm he]

theorem app_bk (u : Upd) (st : St) (i : Nat) : (u.app st).bk i = match BW.find u.bw i with | some b => some b | none => st.bk i := by
  have : (u.app st).bk = (st.setBs u.bw).bk := by unfold Upd.app; cases u.d <;> rfl
  rw [this, find_setBs]
  cases BW.find u.bw i <;> rfl

theorem app_nx (u : Upd) (st : St) : (u.app st).nx = st.nx := by
  have h1 : ∀ bw : BW, (st.setBs bw).nx = st.nx := by
    intro bw
    induction bw with
    | nil => rfl
    | cons x r ih => exact ih
  unfold Upd.app
  cases u.d <;> exact h1 _

theorem St.eq' {a b : St} (h1 : ∀ t, a.tm t = b.tm t) (h2 : ∀ i, a.bk i = b.bk i) (h3 : a.nx = b.nx) : a = b := by
  cases a; cases b
  simp only at h1 h2 h3
  obtain rfl := funext h1
  obtain rfl := funext h2
  subst h3
  rfl

def Upd.apart (u v : Upd) : Prop := (∀ t, u.d = some t → v.d ≠ some t) ∧ ∀ i, BW.find u.bw i ≠ none → BW.find v.bw i = none

theorem app_comm {u v : Upd} (h : u.apart v) (st : St) : u.app (v.app st) = v.app (u.app st) := by
  refine St.eq' (fun t => ?_) (fun i => ?_) (by simp [app_nx])
  · simp only [app_tm]
    by_cases h1 : u.d = some t
    · simp [h1, h.1 t h1]
    · simp [h1]
  · simp only [app_bk]
    cases h1 : BW.find u.bw i with
    | some b => simp [h.2 i (by rw [h1]; simp)]
    | none => rfl

def apS (S : Nat → Bool) : List Upd → Nat → St → St
  | [], _, st => st
  | u :: r, i, st => apS S r (i + 1) (bif S i then u.app st else st)

theorem apS_comm {S : Nat → Bool} {u : Upd} : ∀ (us : List Upd) (i : Nat) (st : St), (∀ (j : Nat) v, us[j]? = some v → S (i + j) = true → u.apart v) → apS S us i (u.app st) = u.app (apS S us i st)
  | [], i, st, h => rfl
  | v :: r, i, st, h => by
    simp only [apS]
    have hr : ∀ (j : Nat) v', r[j]? = some v' → S (i + 1 + j) = true → u.apart v' := fun j v' hj hs => h (j + 1) v' (by simpa using hj) (by rw [show i + (j + 1) = i + 1 + j by omega]; exact hs)
    cases hS : S i with
    | true =>
      simp only [cond_true]
      rw [← app_comm (h 0 v rfl (by simpa using hS)), apS_comm r (i + 1) _ hr]
    | false =>
      simp only [cond_false]
      exact apS_comm r (i + 1) _ hr

theorem apS_congr {S S' : Nat → Bool} : ∀ (us : List Upd) (i : Nat) (st : St), (∀ j, j < us.length → S (i + j) = S' (i + j)) → apS S us i st = apS S' us i st
  | [], i, st, h => rfl
  | v :: r, i, st, h => by
    simp only [apS]
    have h0 := h 0 (by simp)
    rw [Nat.add_zero] at h0
    rw [h0]
    exact apS_congr r (i + 1) _ fun j hj => by
      have := h (j + 1) (by simpa using hj)
      rw [show i + (j + 1) = i + 1 + j by omega] at this
      exact this

/-- One more has come up. -/
theorem apS_add {S S' : Nat → Bool} {u : Upd} : ∀ (us : List Upd) (i k : Nat) (st : St), us[k]? = some u → S (i + k) = false → S' (i + k) = true → (∀ j, j ≠ i + k → S' j = S j) → (∀ (j : Nat) v, us[j]? = some v → k < j → S (i + j) = true → u.apart v) →
    apS S' us i st = u.app (apS S us i st)
  | [], i, k, st, hu, _, _, _, _ => by simp at hu
  | v :: r, i, 0, st, hu, h1, h2, h3, h4 => by
    simp only [List.getElem?_cons_zero, Option.some.injEq] at hu
    subst hu
    rw [Nat.add_zero] at h1 h2 h3
    simp only [apS, h1, h2, cond_true, cond_false]
    rw [apS_congr (S := S') (S' := S) r (i + 1) _ fun j _ => h3 _ (by omega)]
    exact apS_comm r (i + 1) st fun j v' hj hs => h4 (j + 1) v' (by simpa using hj) (by omega) (by rw [show i + (j + 1) = i + 1 + j by omega]; exact hs)
  | v :: r, i, k + 1, st, hu, h1, h2, h3, h4 => by
    simp only [apS]
    rw [h3 i (by omega)]
    have e : i + (k + 1) = i + 1 + k := by omega
    rw [e] at h1 h2 h3
    exact apS_add r (i + 1) k _ (by simpa using hu) h1 h2 h3 fun j v' hj hk hs => h4 (j + 1) v' (by simpa using hj) (by omega) (by rw [show i + (j + 1) = i + 1 + j by omega]; exact hs)

theorem apS_tm {S S' : Nat → Bool} {t : Nat} : ∀ (us : List Upd) (i : Nat) (st st' : St), st.tm t = st'.tm t → (∀ (j : Nat) v, us[j]? = some v → v.d = some t → S (i + j) = S' (i + j)) → (apS S us i st).tm t = (apS S' us i st').tm t
  | [], i, st, st', h0, h => h0
  | v :: r, i, st, st', h0, h => by
    simp only [apS]
    refine apS_tm r (i + 1) _ _ ?_ fun j v' hj hd => by
      have := h (j + 1) v' (by simpa using hj) hd
      rw [show i + (j + 1) = i + 1 + j by omega] at this
      exact this
    by_cases hd : v.d = some t
    · have := h 0 v rfl hd
      rw [Nat.add_zero] at this
      rw [this]
      cases S' i <;> simp [app_tm, hd, h0]
    · cases S i <;> cases S' i <;> simp [app_tm, hd, h0]

theorem apS_bk {S S' : Nat → Bool} {id : Nat} : ∀ (us : List Upd) (i : Nat) (st st' : St), st.bk id = st'.bk id → (∀ (j : Nat) v, us[j]? = some v → BW.find v.bw id ≠ none → S (i + j) = S' (i + j)) → (apS S us i st).bk id = (apS S' us i st').bk id
  | [], i, st, st', h0, h => h0
  | v :: r, i, st, st', h0, h => by
    simp only [apS]
    refine apS_bk r (i + 1) _ _ ?_ fun j v' hj hd => by
      have := h (j + 1) v' (by simpa using hj) hd
      rw [show i + (j + 1) = i + 1 + j by omega] at this
      exact this
    cases hd : BW.find v.bw id with
    | some b =>
      have := h 0 v rfl (by rw [hd]; simp)
      rw [Nat.add_zero] at this
      rw [this]
      cases S' i <;> simp [app_bk, hd, h0]
    | none => cases S i <;> cases S' i <;> simp [app_bk, hd, h0]

theorem apS_none {S : Nat → Bool} : ∀ (us : List Upd) (i : Nat) (st : St), (∀ j, j < us.length → S (i + j) = false) → apS S us i st = st
  | [], i, st, h => rfl
  | v :: r, i, st, h => by
    have h0 := h 0 (by simp)
    rw [Nat.add_zero] at h0
    simp only [apS, h0, cond_false]
    exact apS_none r (i + 1) st fun j hj => by
      have := h (j + 1) (by simpa using hj)
      rw [show i + (j + 1) = i + 1 + j by omega] at this
      exact this

theorem apS_take : ∀ (us : List Upd) (i k : Nat) (st : St), apS (fun j => decide (j < i + k)) us i st = appAll (us.take k) st
  | [], i, k, st => by simp [apS, appAll]
  | v :: r, i, 0, st => by
    rw [apS_none _ _ _ (fun j _ => by simp)]
    simp [appAll]
  | v :: r, i, k + 1, st => by
    simp only [apS, List.take_succ_cons, appAll]
    have : decide (i < i + (k + 1)) = true := by simp
    rw [this]
    simp only [cond_true]
    have := apS_take r (i + 1) k (v.app st)
    rw [show i + 1 + k = i + (k + 1) by omega] at this
    exact this

theorem apS_all {S : Nat → Bool} : ∀ (us : List Upd) (i : Nat) (st : St), (∀ j, j < us.length → S (i + j) = true) → apS S us i st = appAll us st
  | [], i, st, h => rfl
  | v :: r, i, st, h => by
    have h0 := h 0 (by simp)
    rw [Nat.add_zero] at h0
    simp only [apS, h0, cond_true, appAll]
    exact apS_all r (i + 1) _ fun j hj => by
      have := h (j + 1) (by simpa using hj)
      rw [show i + (j + 1) = i + 1 + j by omega] at this
      exact this

end Go.Proofs.YtggofahhehkbbaaGreatDoor.Ev
