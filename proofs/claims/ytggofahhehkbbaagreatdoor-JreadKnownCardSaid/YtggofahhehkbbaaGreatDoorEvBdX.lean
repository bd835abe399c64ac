/- Out over a call's border: sound. -/
import Derived.Test.YtggofahhehkbbaaGreatDoorEvBd
namespace Go.Proofs.YtggofahhehkbbaaGreatDoor.Ev
set_option autoImplicit false
set_option linter.unusedVariables false
set_option linter.unusedSimpArgs false

section
variable {B : Base} {st : St} {w : World} {ι : Nat → Nat}

structure ExtS (B : Base) (st : St) (w : World) (ι : Nat → Nat) (bw bw' : BW) (M : List Nat) : Prop where
  sim : SimB B (st.setBs bw').bk w ι
  ext : Ext (ctx B (st.setBs bw).bk w ι) (ctx B (st.setBs bw').bk w ι)
  nd : M.Nodup
  mv : ∀ i, i ∈ M → (∃ ep ty sz es, (st.setBs bw).bk i = some (.arr ep ty sz false es)) ∧ (st.setBs bw').bk i = some .lent
  kd : ∀ i, kdOf ((st.setBs bw').bk i) = kdOf ((st.setBs bw).bk i)
  lent : ∀ i, (st.setBs bw).bk i = some .lent → (st.setBs bw').bk i = some .lent
  back : ∀ i ep ty sz es, (st.setBs bw').bk i = some (.arr ep ty sz false es) → (st.setBs bw).bk i = some (.arr ep ty sz false es)
  none : ∀ i, (st.setBs bw).bk i = none → (st.setBs bw').bk i = none

theorem ExtS.refl {bw : BW} (h : SimB B (st.setBs bw).bk w ι) : ExtS B st w ι bw bw [] :=
  ⟨h, Ext.refl _, List.nodup_nil, fun i hi => by simp at hi, fun i => rfl, fun i h => h, fun i ep ty sz es h => h, fun i h => h⟩

theorem ExtS.trans {bw bw1 bw2 : BW} {M1 M2 : List Nat} (h : ExtS B st w ι bw bw1 M1) (k : ExtS B st w ι bw1 bw2 M2) : ExtS B st w ι bw bw2 (M1 ++ M2) := by
  refine ⟨k.sim, h.ext.trans k.ext (Nat.le_refl _), ?_, fun i hi => ?_, fun i => (k.kd i).trans (h.kd i), fun i hi => k.lent i (h.lent i hi), fun i ep ty sz es hi => h.back i _ _ _ _ (k.back i _ _ _ _ hi), fun i hi => k.none i (h.none i hi)⟩
  · rw [List.nodup_append]
    refine ⟨h.nd, k.nd, fun a ha b hb he => ?_⟩
    subst he
    obtain ⟨ep, ty, sz, es, h1⟩ := (k.mv a hb).1
    rw [(h.mv a ha).2] at h1
    simp at h1
  · rcases List.mem_append.1 hi with hi | hi
    · exact ⟨(h.mv i hi).1, k.lent i (h.mv i hi).2⟩
    · obtain ⟨⟨ep, ty, sz, es, h1⟩, h2⟩ := k.mv i hi
      exact ⟨⟨ep, ty, sz, es, h.back i _ _ _ _ h1⟩, h2⟩

/-- A slice frozen on the way. -/
theorem ExtS.freeze {bw : BW} (h : SimB B (st.setBs bw).bk w ι) {id ep ty sz : Nat} {es : List (List PV)} (hid : (st.setBs bw).bk id = some (.arr ep ty sz false es)) : ExtS B st w ι bw ((id, .arr ep ty sz true es) :: bw) [] := by
  obtain ⟨e1, s1⟩ := h.freeze hid
  refine ⟨s1, e1, List.nodup_nil, fun i hi => by simp at hi, fun i => ?_, fun i hi => ?_, fun i ep' ty' sz' es' hi => ?_, fun i hi => ?_⟩ <;> rw [setBs_cons_bk] at * <;> by_cases he : i = id
  · subst he; rw [upd_same, hid]; rfl
  · rw [upd_ne _ _ he]
  · subst he; rw [hid] at hi; simp at hi
  · rw [upd_ne _ _ he]; exact hi
  · subst he; rw [upd_same] at hi; simp at hi
  · rw [upd_ne _ _ he] at hi; exact hi
  · subst he; rw [hid] at hi; simp at hi
  · rw [upd_ne _ _ he]; exact hi

theorem ExtS.lend {bw : BW} (h : SimB B (st.setBs bw).bk w ι) {id ep ty sz : Nat} {es : List (List PV)} (hid : (st.setBs bw).bk id = some (.arr ep ty sz false es)) : ExtS B st w ι bw ((id, .lent) :: bw) [id] := by
  obtain ⟨e1, s1⟩ := h.lend hid rfl
  refine ⟨s1, e1, by simp, fun i hi => ?_, fun i => ?_, fun i hi => ?_, fun i ep' ty' sz' es' hi => ?_, fun i hi => ?_⟩ <;> rw [setBs_cons_bk] at * <;> by_cases he : i = id
  · subst he; exact ⟨⟨_, _, _, _, hid⟩, upd_same _ _ _⟩
  · simp at hi; exact absurd hi he
  · subst he; rw [upd_same, hid]; rfl
  · rw [upd_ne _ _ he]
  · subst he; rw [hid] at hi; simp at hi
  · rw [upd_ne _ _ he]; exact hi
  · subst he; rw [upd_same] at hi; simp at hi
  · rw [upd_ne _ _ he] at hi; exact hi
  · subst he; rw [hid] at hi; simp at hi
  · rw [upd_ne _ _ he]; exact hi

def bdOf (B : Base) (st : St) (w : World) (ι : Nat → Nat) (ids : List Nat) (bw : BW) : Bd := ⟨w, nav B (st.setBs bw).bk w ι, fun j => ι (ids.getD j 0), fun j => kdOf ((ids[j]?).bind (st.setBs bw).bk), ids.length⟩

theorem bdOf_kd {ids : List Nat} {bw bw' : BW} {M : List Nat} (h : ExtS B st w ι bw bw' M) : (bdOf B st w ι ids bw').kd = (bdOf B st w ι ids bw).kd := by
  funext j
  simp only [bdOf]
  cases ids[j]? with
  | none => rfl
  | some i => exact h.kd i

theorem bdOf_eq {ids : List Nat} {bw bw' : BW} {M : List Nat} (h : ExtS B st w ι bw bw' M) : bdOf B st w ι ids bw' = { bdOf B st w ι ids bw with N := nav B (st.setBs bw').bk w ι } := by
  have := bdOf_kd (ids := ids) h
  simp only [bdOf] at this ⊢
  rw [this]

theorem IRep.up {ids : List Nat} {bw bw' : BW} {M : List Nat} (h : ExtS B st w ι bw bw' M) {a : AV} {v : Value} {o : List Nat} (hr : IRep (bdOf B st w ι ids bw) a v o) : IRep (bdOf B st w ι ids bw') a v o := by
  rw [bdOf_eq h]
  exact IRep.monoN (fun b hb => (h.ext.rep b hb).1) _ _ _ hr
theorem IRepL.up {ids : List Nat} {bw bw' : BW} {M : List Nat} (h : ExtS B st w ι bw bw' M) {a : List AV} {v : List Value} {o : List Nat} (hr : IRepL (bdOf B st w ι ids bw) a v o) : IRepL (bdOf B st w ι ids bw') a v o := by
  rw [bdOf_eq h]
  exact IRepL.monoN (fun b hb => (h.ext.rep b hb).1) _ _ _ hr

theorem idxN_some {n : Nat} : ∀ {l : List Nat} {k j : Nat}, idxN n l k = some j → k ≤ j ∧ l[j - k]? = some n
  | [], k, j, h => by simp [idxN] at h
  | a :: r, k, j, h => by
    simp only [idxN] at h
    cases hb : Nat.beq a n with
    | true =>
      rw [hb] at h
      simp only [cond_true, Option.some.injEq] at h
      subst h
      exact ⟨Nat.le_refl _, by simp [beqN hb]⟩
    | false =>
      rw [hb] at h
      simp only [cond_false] at h
      obtain ⟨h1, h2⟩ := idxN_some h
      refine ⟨by omega, ?_⟩
      rw [show j - k = (j - (k + 1)) + 1 by omega]
      simpa using h2

theorem fresh_rep {bw : BW} (hs : SimB B (st.setBs bw).bk w ι) {ids : List Nat} {id ep ty sz : Nat} {es : List (List PV)} {v : Value} (hid : (st.setBs bw).bk id = some (.arr ep ty sz false es)) (hv : AVRep (ctx B (st.setBs bw).bk w ι) (.own id ep) v) :
    IRep (bdOf B st w ι ids bw) (.fresh ty sz es) v [ι id] := by
  have hb := hs.blks id _ hid
  obtain ⟨C, f, h1, h2, ⟨cap, h3, h4, h5⟩, h6⟩ := hb
  simp only [AVRep] at hv
  obtain ⟨b, h7, h8, h9⟩ := hv
  simp only [ctx] at h7
  rw [hid] at h7
  simp only [Option.some.injEq] at h7
  subst h7
  obtain ⟨cap', h10, h11, h12⟩ := (h9 _ _ _ _ _ rfl).2 rfl
  obtain ⟨C', T', f', h13, h14⟩ := h12 rfl
  simp only [ctx] at h1 h13
  rw [h1] at h13
  simp only [Option.some.injEq, Obj.cells.injEq] at h13
  obtain ⟨rfl, rfl, rfl⟩ := h13
  obtain rfl : cap = cap' := Nat.eq_of_mul_eq_mul_right h6.1 (h3.symm.trans h14)
  simp only [IRep]
  exact ⟨ι id, cap, C, f, rfl, h10, h11, h5, h1, h2, h3, h6⟩

theorem frozen_rep {bw : BW} (hs : SimB B (st.setBs bw).bk w ι) {id ep ty sz : Nat} {es : List (List PV)} {v : Value} (hid : (st.setBs bw).bk id = some (.arr ep ty sz true es)) (hv : AVRep (ctx B (st.setBs bw).bk w ι) (.own id ep) v) :
    Rep w (nav B (st.setBs bw).bk w ι) (.sl es) v := by
  have h1 : (pureA bw (.own id ep)).ev st = some (.sl es, bw) := by
    simp only [pureA, ev_bind, ev_getBO, Option.bind_some, hid, Nat.beq_refl]
    rfl
  exact (pureA_sound _ _ _ _ _ hs h1 hv).2.2

mutual
theorem extA_sound {ids : List Nat} : ∀ (mv tight : Bool) (a : AV) (bw bw' : BW) (a' : AV) (v : Value), SimB B (st.setBs bw).bk w ι → (extA ids mv tight bw a).ev st = some (a', bw') → AVRep (ctx B (st.setBs bw).bk w ι) a v →
    ∃ M, ExtS B st w ι bw bw' M ∧ IRep (bdOf B st w ι ids bw') a' v (M.map ι)
  | mv, tight, .p q, bw, bw', a', v, hs, he, hv => by
    simp only [extA, ev_ret, Option.some.injEq, Prod.mk.injEq] at he
    obtain ⟨rfl, rfl⟩ := he
    refine ⟨[], ExtS.refl hs, ?_⟩
    simp only [IRep, AVRep] at hv ⊢
    exact ⟨rfl, hv⟩
  | mv, tight, .tsl es, bw, bw', a', v, hs, he, hv => by
    simp only [extA] at he
    simp only [AVRep] at hv
    cases tight with
    | true =>
      simp only [ev_ret, Option.some.injEq, Prod.mk.injEq] at he
      obtain ⟨rfl, rfl⟩ := he
      refine ⟨[], ExtS.refl hs, ?_⟩
      simp only [IRep]
      exact ⟨rfl, hv.1, hv.2⟩
    | false =>
      simp only [ev_ret, Option.some.injEq, Prod.mk.injEq] at he
      obtain ⟨rfl, rfl⟩ := he
      refine ⟨[], ExtS.refl hs, ?_⟩
      simp only [IRep]
      exact ⟨rfl, hv.1⟩
  | mv, tight, .nl, bw, bw', a', v, hs, he, hv => by
    simp only [extA] at he
    simp only [AVRep] at hv
    subst hv
    cases mv with
    | true =>
      simp only [ev_ret, Option.some.injEq, Prod.mk.injEq] at he
      obtain ⟨rfl, rfl⟩ := he
      refine ⟨[], ExtS.refl hs, ?_⟩
      simp only [IRep]
      exact ⟨rfl, trivial⟩
    | false =>
      simp only [ev_ret, Option.some.injEq, Prod.mk.injEq] at he
      obtain ⟨rfl, rfl⟩ := he
      refine ⟨[], ExtS.refl hs, ?_⟩
      simp only [IRep]
      exact ⟨rfl, .nil _ _⟩
  | mv, tight, .own id ep, bw, bw', a', v, hs, he, hv => by
    have hdead : ∀ {x : RM (AV × BW)}, x.ev st = some (a', bw') → (x = .ret (.dead, bw) ∨ x = .fail) → ∃ M, ExtS B st w ι bw bw' M ∧ IRep (bdOf B st w ι ids bw') a' v (M.map ι) := by
      intro x hx h
      rcases h with rfl | rfl
      · simp only [ev_ret, Option.some.injEq, Prod.mk.injEq] at hx
        obtain ⟨rfl, rfl⟩ := hx
        refine ⟨[], ExtS.refl hs, ?_⟩
        simp only [IRep]
        exact ⟨rfl, AVRep.one _ _ hv⟩
      · simp at hx
    simp only [extA, ev_bind, ev_getBO, Option.bind_some] at he
    cases hb : (st.setBs bw).bk id with
    | none => rw [hb] at he; exact hdead he (by cases mv <;> simp)
    | some b =>
      rw [hb] at he
      cases b with
      | arr ep' ty sz fz es =>
        simp only at he
        cases hep : Nat.beq ep ep' with
        | false => rw [hep] at he; exact hdead he (by cases mv <;> simp)
        | true =>
          rw [hep] at he
          have := beqN hep
          subst this
          cases fz with
          | true =>
            simp only [ev_ret, Option.some.injEq, Prod.mk.injEq] at he
            obtain ⟨rfl, rfl⟩ := he
            refine ⟨[], ExtS.refl hs, ?_⟩
            simp only [IRep]
            exact ⟨rfl, frozen_rep hs hb hv⟩
          | false =>
            cases mv with
            | true =>
              simp only [ev_ret, Option.some.injEq, Prod.mk.injEq] at he
              obtain ⟨rfl, rfl⟩ := he
              have hx := ExtS.lend hs hb
              exact ⟨[id], hx, IRep.up hx (fresh_rep hs hb hv)⟩
            | false =>
              simp only [ev_ret, Option.some.injEq, Prod.mk.injEq] at he
              obtain ⟨rfl, rfl⟩ := he
              have hx := ExtS.freeze hs hb
              refine ⟨[], hx, ?_⟩
              simp only [IRep]
              refine ⟨rfl, frozen_rep hx.sim (id := id) (ep := ep) (ty := ty) (sz := sz) (by rw [setBs_cons_bk, upd_same]) (AVRep.ext hx.ext _ _ hv)⟩
      | _ => exact hdead he (by cases mv <;> simp)
  | mv, tight, .ptr id ep i off, bw, bw', a', v, hs, he, hv => by
    simp only [extA] at he
    split at he
    · rename_i k hk
      simp only [ev_ret, Option.some.injEq, Prod.mk.injEq] at he
      obtain ⟨rfl, rfl⟩ := he
      refine ⟨[], ExtS.refl hs, ?_⟩
      simp only [IRep]
      obtain ⟨_, h1⟩ := idxN_some hk
      rw [Nat.sub_zero] at h1
      simp only [AVRep] at hv
      obtain ⟨b, h2, h3, h4, _⟩ := hv
      refine ⟨rfl, trivial, trivial, (List.getElem?_eq_some_iff.1 h1).1, h3, fun hkd => ?_⟩
      simp only [bdOf, h1, Option.bind_some] at hkd ⊢
      simp only [ctx] at h2
      rw [h2] at hkd
      cases b <;> simp [kdOf] at hkd
      rw [h4 _ _ rfl rfl rfl]
      simp only [ctx]
      rw [show ids.getD k 0 = id by simp [h1]]
    · simp at he
  | mv, tight, .mp id, bw, bw', a', v, hs, he, hv => by
    simp only [extA] at he
    split at he
    · rename_i k hk
      simp only [ev_ret, Option.some.injEq, Prod.mk.injEq] at he
      obtain ⟨rfl, rfl⟩ := he
      refine ⟨[], ExtS.refl hs, ?_⟩
      simp only [IRep]
      obtain ⟨_, h1⟩ := idxN_some hk
      rw [Nat.sub_zero] at h1
      simp only [AVRep] at hv
      obtain ⟨b, h2, h3, h4⟩ := hv
      refine ⟨rfl, (List.getElem?_eq_some_iff.1 h1).1, h3, fun hkd => ?_⟩
      simp only [bdOf, h1, Option.bind_some] at hkd ⊢
      simp only [ctx] at h2
      rw [h2] at hkd
      cases b <;> simp [kdOf] at hkd
      rw [h4 _ rfl]
      simp only [ctx]
      rw [show ids.getD k 0 = id by simp [h1]]
    · simp at he
  | mv, tight, .clo fn f c, bw, bw', a', v, hs, he, hv => by
    simp only [extA, ev_bind] at he
    obtain ⟨⟨f', bw1⟩, h1, h2⟩ := bind_some he
    obtain ⟨⟨c', bw2⟩, h3, h4⟩ := bind_some h2
    simp only [ev_ret, Option.some.injEq, Prod.mk.injEq] at h4
    obtain ⟨rfl, rfl⟩ := h4
    simp only [AVRep] at hv
    obtain ⟨F, K, rfl, h5, h6⟩ := hv
    obtain ⟨M1, x1, r1⟩ := extL_sound false false f bw bw1 f' _ hs h1 h5
    obtain ⟨M2, x2, r2⟩ := extL_sound false false c bw1 bw2 c' _ x1.sim h3 (AVRepL.ext x1.ext _ _ h6)
    refine ⟨M1 ++ M2, x1.trans x2, ?_⟩
    simp only [IRep]
    exact ⟨F, K, _, _, rfl, List.map_append, IRepL.up x2 r1, r2⟩
  | mv, tight, .ifc t g cs, bw, bw', a', v, hs, he, hv => by
    simp only [extA, ev_bind] at he
    obtain ⟨⟨cs', bw1⟩, h1, h2⟩ := bind_some he
    simp only [ev_ret, Option.some.injEq, Prod.mk.injEq] at h2
    obtain ⟨rfl, rfl⟩ := h2
    simp only [AVRep] at hv
    obtain ⟨C, h5, h6⟩ := hv
    obtain ⟨M1, x1, r1⟩ := extL_sound false false cs bw bw1 cs' _ hs h1 h5
    refine ⟨M1, x1, ?_⟩
    simp only [IRep]
    exact ⟨C, r1, h6⟩
  | mv, tight, .dead, bw, bw', a', v, hs, he, hv => by
    simp only [extA, ev_ret, Option.some.injEq, Prod.mk.injEq] at he
    obtain ⟨rfl, rfl⟩ := he
    refine ⟨[], ExtS.refl hs, ?_⟩
    simp only [IRep, AVRep] at hv ⊢
    exact ⟨rfl, hv⟩
  | mv, tight, .fresh _ _ _, bw, bw', a', v, hs, he, hv => by simp [extA] at he
theorem extL_sound {ids : List Nat} : ∀ (mv tight : Bool) (as : List AV) (bw bw' : BW) (as' : List AV) (vs : List Value), SimB B (st.setBs bw).bk w ι → (extL ids mv tight bw as).ev st = some (as', bw') → AVRepL (ctx B (st.setBs bw).bk w ι) as vs →
    ∃ M, ExtS B st w ι bw bw' M ∧ IRepL (bdOf B st w ι ids bw') as' vs (M.map ι)
  | mv, tight, [], bw, bw', as', vs, hs, he, hv => by
    simp only [extL, ev_ret, Option.some.injEq, Prod.mk.injEq] at he
    obtain ⟨rfl, rfl⟩ := he
    refine ⟨[], ExtS.refl hs, ?_⟩
    simp only [IRepL, AVRepL] at hv ⊢
    exact ⟨hv, rfl⟩
  | mv, tight, a :: r, bw, bw', as', vs, hs, he, hv => by
    simp only [extL, ev_bind] at he
    obtain ⟨⟨a1, bw1⟩, h1, h2⟩ := bind_some he
    obtain ⟨⟨r1, bw2⟩, h3, h4⟩ := bind_some h2
    simp only [ev_ret, Option.some.injEq, Prod.mk.injEq] at h4
    obtain ⟨rfl, rfl⟩ := h4
    simp only [AVRepL] at hv
    obtain ⟨v, vs', rfl, h5, h6⟩ := hv
    obtain ⟨M1, x1, q1⟩ := extA_sound mv tight a bw bw1 a1 v hs h1 h5
    obtain ⟨M2, x2, q2⟩ := extL_sound mv tight r bw1 bw2 r1 vs' x1.sim h3 (AVRepL.ext x1.ext _ _ h6)
    refine ⟨M1 ++ M2, x1.trans x2, ?_⟩
    simp only [IRepL]
    exact ⟨v, vs', _, _, rfl, List.map_append, IRep.up x2 q1, q2⟩
end

theorem IVal.up {ids : List Nat} {bw bw' : BW} {M : List Nat} (h : ExtS B st w ι bw bw' M) {g : Bool} {cs : List AV} {v : Value} {o : List Nat} (hr : IVal (bdOf B st w ι ids bw) g cs v o) : IVal (bdOf B st w ι ids bw') g cs v o := by
  rw [bdOf_eq h]
  exact IVal.monoN (fun b hb => (h.ext.rep b hb).1) hr

theorem extC_sound {ids : List Nat} {mv tight g : Bool} {cs cs' : List AV} {bw bw' : BW} {v : Value} (hs : SimB B (st.setBs bw).bk w ι) (he : (extL ids mv tight bw cs).ev st = some (cs', bw')) (hv : VRepC (ctx B (st.setBs bw).bk w ι) g cs v) :
    ∃ M, ExtS B st w ι bw bw' M ∧ IVal (bdOf B st w ι ids bw') g cs' v (M.map ι) := by
  cases g with
  | true =>
    obtain ⟨C, rfl, h1⟩ := hv
    obtain ⟨M, h2, h3⟩ := extL_sound mv tight cs bw bw' cs' _ hs he h1
    exact ⟨M, h2, C, rfl, h3⟩
  | false =>
    obtain ⟨M, h2, h3⟩ := extL_sound mv tight cs bw bw' cs' _ hs he hv
    exact ⟨M, h2, h3⟩

theorem extVs_sound {ids : List Nat} {mv tight : Bool} : ∀ {vs vs' : Args} {bw bw' : BW} {us : List Value}, SimB B (st.setBs bw).bk w ι → (extVs ids mv tight bw vs).ev st = some (vs', bw') → VRepT (ctx B (st.setBs bw).bk w ι) vs us →
    ∃ M, ExtS B st w ι bw bw' M ∧ IVals (bdOf B st w ι ids bw') vs' us (M.map ι)
  | [], vs', bw, bw', us, hs, he, hv => by
    simp only [extVs, ev_ret, Option.some.injEq, Prod.mk.injEq] at he
    obtain ⟨rfl, rfl⟩ := he
    exact ⟨[], ExtS.refl hs, hv, rfl⟩
  | (g, cs) :: r, vs', bw, bw', us, hs, he, hv => by
    simp only [extVs, ev_bind] at he
    obtain ⟨⟨a1, bw1⟩, h1, h2⟩ := bind_some he
    obtain ⟨⟨r1, bw2⟩, h3, h4⟩ := bind_some h2
    simp only [ev_ret, Option.some.injEq, Prod.mk.injEq] at h4
    obtain ⟨rfl, rfl⟩ := h4
    obtain ⟨v, vs', rfl, h5, h6⟩ := hv
    obtain ⟨M1, x1, q1⟩ := extC_sound hs h1 h5
    obtain ⟨M2, x2, q2⟩ := extVs_sound x1.sim h3 (h6.ext x1.ext)
    exact ⟨M1 ++ M2, x1.trans x2, v, vs', _, _, rfl, List.map_append, IVal.up x2 q1, q2⟩

theorem extEs_sound {ids : List Nat} : ∀ {es es' : List (Value × Bool × List AV)} {bw bw' : BW} {ms : List MapEntry}, SimB B (st.setBs bw).bk w ι → (extEs ids bw es).ev st = some (es', bw') → EntRep (ctx B (st.setBs bw).bk w ι) es ms →
    ∃ M, ExtS B st w ι bw bw' M ∧ IEnts (bdOf B st w ι ids bw') es' ms (M.map ι)
  | [], es', bw, bw', ms, hs, he, hv => by
    simp only [extEs, ev_ret, Option.some.injEq, Prod.mk.injEq] at he
    obtain ⟨rfl, rfl⟩ := he
    exact ⟨[], ExtS.refl hs, hv, rfl⟩
  | (k, g, cs) :: r, es', bw, bw', ms, hs, he, hv => by
    simp only [extEs, ev_bind] at he
    obtain ⟨⟨a1, bw1⟩, h1, h2⟩ := bind_some he
    obtain ⟨⟨r1, bw2⟩, h3, h4⟩ := bind_some h2
    simp only [ev_ret, Option.some.injEq, Prod.mk.injEq] at h4
    obtain ⟨rfl, rfl⟩ := h4
    obtain ⟨m, ms', rfl, h5, h6, h7, h8⟩ := hv
    obtain ⟨M1, x1, q1⟩ := extC_sound hs h1 h7
    obtain ⟨M2, x2, q2⟩ := extEs_sound x1.sim h3 (EntRep.ext x1.ext h8)
    exact ⟨M1 ++ M2, x1.trans x2, m, ms', _, _, rfl, List.map_append, h5, h6, IVal.up x2 q1, q2⟩

theorem IEnts.up {ids : List Nat} {bw bw' : BW} {M : List Nat} (h : ExtS B st w ι bw bw' M) {es : List (Value × Bool × List AV)} {ms : List MapEntry} {o : List Nat} (hr : IEnts (bdOf B st w ι ids bw) es ms o) : IEnts (bdOf B st w ι ids bw') es ms o := by
  rw [bdOf_eq h]
  exact IEnts.monoN (fun b hb => (h.ext.rep b hb).1) hr

theorem extBs_sound {ids : List Nat} : ∀ {l : List Nat} {k : Nat} {bs : Boxes} {bw bw' : BW}, SimB B (st.setBs bw).bk w ι → (extBs ids bw l).ev st = some (bs, bw') → (∀ j, j < l.length → ids[k + j]? = l[j]?) →
    ∃ M, ExtS B st w ι bw bw' M ∧ IBoxes (bdOf B st w ι ids bw') k bs (M.map ι) ∧ bs.length = l.length ∧ ∀ j, j < l.length → kdOf bs[j]? = kdOf ((l[j]?).bind (st.setBs bw).bk) ∧ kdOf bs[j]? ≠ 0
  | [], k, bs, bw, bw', hs, he, hl => by
    simp only [extBs, ev_ret, Option.some.injEq, Prod.mk.injEq] at he
    obtain ⟨rfl, rfl⟩ := he
    exact ⟨[], ExtS.refl hs, rfl, rfl, fun j hj => by simp at hj⟩
  | id :: r, k, bs, bw, bw', hs, he, hl => by
    simp only [extBs, ev_bind, ev_getBO, Option.bind_some] at he
    have h0 := hl 0 (by simp)
    simp only [Nat.add_zero, List.getElem?_cons_zero] at h0
    have hι : ∀ bw, (bdOf B st w ι ids bw).β k = ι id := fun bw => by
      simp only [bdOf]
      rw [show ids.getD k 0 = id by simp [h0]]
    have hl' : ∀ j, j < r.length → ids[k + 1 + j]? = r[j]? := fun j hj => by
      have := hl (j + 1) (by simpa using hj)
      rw [show k + 1 + j = k + (j + 1) by omega]
      simpa using this
    cases hb : (st.setBs bw).bk id with
    | none => rw [hb] at he; simp at he
    | some b =>
      rw [hb] at he
      have hbr := hs.blks id b hb
      cases b with
      | box ty cs =>
        simp only [ev_bind] at he
        obtain ⟨⟨xs, bw1⟩, h1, h2⟩ := bind_some he
        obtain ⟨⟨ys, bw2⟩, h3, h4⟩ := bind_some h2
        simp only [ev_ret, Option.some.injEq, Prod.mk.injEq] at h4
        obtain ⟨rfl, rfl⟩ := h4
        obtain ⟨C, f, h5, h6, h7⟩ := hbr
        obtain ⟨M1, x1, q1⟩ := extL_sound true true cs bw bw1 xs _ hs h1 h7
        obtain ⟨M2, x2, q2, q3, q4⟩ := extBs_sound x1.sim h3 hl'
        refine ⟨M1 ++ M2, x1.trans x2, ⟨C, f, _, _, ?_, h6, List.map_append, IRepL.up x2 q1, q2⟩, by simp [q3], fun j hj => ?_⟩
        · rw [hι]; exact h5
        · cases j with
          | zero => simp [hb, kdOf]
          | succ j =>
            have hj' : j < r.length := by simpa using hj
            obtain ⟨q5, q6⟩ := q4 j hj'
            refine ⟨?_, by simpa using q6⟩
            simp only [List.getElem?_cons_succ]
            rw [q5]
            cases r[j]? with
            | none => rfl
            | some i => exact x1.kd i
      | map es =>
        simp only [ev_bind] at he
        obtain ⟨⟨xs, bw1⟩, h1, h2⟩ := bind_some he
        obtain ⟨⟨ys, bw2⟩, h3, h4⟩ := bind_some h2
        simp only [ev_ret, Option.some.injEq, Prod.mk.injEq] at h4
        obtain ⟨rfl, rfl⟩ := h4
        obtain ⟨ms, ck, h5, hst, h6⟩ := hbr
        obtain ⟨M1, x1, q1⟩ := extEs_sound hs h1 h6
        obtain ⟨M2, x2, q2, q3, q4⟩ := extBs_sound x1.sim h3 hl'
        refine ⟨M1 ++ M2, x1.trans x2, ⟨ms, ck, _, _, ?_, hst, List.map_append, IEnts.up x2 q1, q2⟩, by simp [q3], fun j hj => ?_⟩
        · rw [hι]; exact h5
        · cases j with
          | zero => simp [hb, kdOf]
          | succ j =>
            have hj' : j < r.length := by simpa using hj
            obtain ⟨q5, q6⟩ := q4 j hj'
            refine ⟨?_, by simpa using q6⟩
            simp only [List.getElem?_cons_succ]
            rw [q5]
            cases r[j]? with
            | none => rfl
            | some i => exact x1.kd i
      | _ => simp at he

end

end Go.Proofs.YtggofahhehkbbaaGreatDoor.Ev
