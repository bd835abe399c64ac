/- Regions in their order. -/
import Derived.Test.YtggofahhehkbbaaGreatDoorEvStep
namespace Go.Proofs.YtggofahhehkbbaaGreatDoor.Ev
set_option autoImplicit false
set_option linter.unusedVariables false
set_option linter.unusedSimpArgs false

section
variable {E : Env} {h : Handler} {B : Base} {κ : Kp} {n : Nat}

theorem bool_tmp {st : St} {w : World} {ι : Nat → Nat} {T : Array Value} {t : Nat} {c : Bool} (hs : Sim B st w ι T) (h : st.tm t = .v false [.p (.lit (.bool c))]) : T.getD t undef = .bool c := by
  have := hs.tmps t
  rw [h, show (AVal.v false [.p (.lit (.bool c))]) = litV (.bool c) from rfl, vrep_lit] at this
  exact this.2

theorem testB_some {b : Bool} {x y : Res} {res : Out × Boxes} (h : testB b x y = some res) : (b = true ∧ x = some res) ∨ (b = false ∧ y = some res) := by
  cases b
  · exact .inr ⟨rfl, h⟩
  · exact .inl ⟨rfl, h⟩

theorem Inv.step {st st' : St} {a : Act} {w w' : World} {ι ι' : Nat → Nat} {d : Option Nat} {x : AVal} {v : Value} (hi : Inv B κ n st a w) (hk : Kept κ st.bk ι) (ex : Ext (ctx B st.bk w ι) (ctx B st'.bk w' ι')) (hs : Sim B st' w' ι' a.tmps)
    (hv : VRep (ctx B st'.bk w' ι') x v) (hd : ∀ t, d = some t → t < n ∧ κ.pin t = none) : Inv B κ n (st'.setD d x) (a.put d v) w' := by
  refine ⟨hi.defers.put d v fun t ht => (hd t ht).2, by rw [put_size]; exact hi.size, ι', hs.setD hv (fun t ht => by rw [hi.size]; exact (hd t ht).1), ?_⟩
  have := Kept.ext (c := ctx B st.bk w ι) (c' := ctx B st'.bk w' ι') hk ex
  cases d <;> exact this

theorem execK_wp (hh : HSound E h) (hB : BaseOK B) (hg : GlobOK E B) {o : Oper} {base : Nat} {st : St} {a : Act} {w : World} {K : X → St → Res} {res : Out × Boxes} (hd : ∀ t, o.dst = some t → t < n ∧ κ.pin t = none) (he : execK E h base o st K = some res) (hi : Inv B κ n st a w)
    {next : Act → World → Prop} {Q : Exit → Act → World → Prop} (hn : ∀ st' a' w', K .normal st' = some res → Inv B κ n st' a' w' → next a' w')
    (hp : ∀ x st' chain a' w', K (.panic x) st' = some res → Panicked B κ st'.bk x chain a' w' → Q (.panic chain) a' w') : o.wp E.P a w next Q := by
  obtain ⟨ι, hs, hk⟩ := hi.sim
  unfold execK at he
  split at he
  · rename_i t x y hop
    split at he
    · rename_i c hc
      have hb := bool_tmp hs hc
      have hev : a.eval (.tmp t) = .bool c := hb
      have hsame : Sim B (st.setT t (boolV c)) w ι a.tmps := hs.same (by rw [hb, boolV, vrep_lit]; exact ⟨rfl, rfl⟩)
      have hrun : (execOp a.eval o).run E.P w = .ok (.value (if c then a.eval x else a.eval y)) w := by
        simp [execOp, hop, hev, asBool]
      unfold Oper.wp
      rw [hrun]
      have hi' : Inv B κ n (st.setT t (boolV c)) a w := ⟨hi.defers, hi.size, ι, hsame, hk⟩
      rcases testB_some he with ⟨rfl, he⟩ | ⟨rfl, he⟩
      · obtain ⟨v, h1, h2⟩ := ev_of_runK _ he
        exact hn _ _ w h2 (hi'.step hk (Ext.refl _) hsame (opd_sound hsame hB hg h1) hd)
      · obtain ⟨v, h1, h2⟩ := ev_of_runK _ he
        exact hn _ _ w h2 (hi'.step hk (Ext.refl _) hsame (opd_sound hsame hB hg h1) hd)
    · simp at he
  · obtain ⟨out, h1, h2⟩ := ev_of_runK _ he
    refine op_wp hh hB hg hs h1 (fun x bw ho v w' ι' q1 q2 q3 => ?_) (fun bw ho w' ι' q1 q2 => ?_) (fun x bw ho v w' ι' q1 q2 q3 => ?_)
    · subst ho
      exact hn _ _ w' h2 (hi.step (st' := st.setBs bw) hk q1 q2 q3 hd)
    · subst ho
      exact hn _ _ w' h2 (hi.step (st' := st.setBs bw) hk q1 q2 (vrep_undef _) hd)
    · subst ho
      exact hp x _ _ a w' h2 ⟨hi.defers, v, ι', rfl, q2, Kept.ext (c := ctx B st.bk w ι) (c' := ctx B (st.setBs bw).bk w' ι') hk q1, q3⟩

theorem yielded_of {ops : Array Oper} {st : St} {w : World} {ι : Nat → Nat} {T : Array Value} {j d : Nat} (hs : Sim B st w ι T) (hd : dstOf ops.toList j = some d) (hlt : d < T.size) :
    (∀ b, st.tm d = .v false [.p (.lit (.bool b))] → yielded ops T j = some b) ∧ (st.tm d = .tup [] → yielded ops T j = none) := by
  have hdst : (ops[j]?).bind (·.dst) = some d := by
    unfold dstOf at hd
    rw [Array.getElem?_toList] at hd
    cases hj : ops[j]? with
    | none => rw [hj] at hd; simp at hd
    | some o => rw [hj] at hd; exact hd
  refine ⟨fun b hb => ?_, fun hu => ?_⟩
  · have := bool_tmp hs hb
    simp only [yielded, hdst, Option.bind_some]
    have hg : T[d]? = some (.bool b) := by
      rw [Array.getElem?_eq_getElem hlt]
      simpa [Array.getD, hlt] using this
    rw [hg]
  · have h1 := hs.tmps d
    rw [hu] at h1
    obtain ⟨C, h2, h3⟩ := h1
    have hC : C = #[] := by
      have : C.toList = [] := h3
      simpa using this
    subst hC
    simp only [yielded, hdst, Option.bind_some]
    have hg : T[d]? = some (.tuple #[]) := by
      rw [Array.getElem?_eq_getElem hlt]
      simpa [Array.getD, hlt] using h2
    rw [hg]

def DstOK (κ : Kp) (n : Nat) (ops : List Oper) : Prop := ∀ o, o ∈ ops → ∀ t, o.dst = some t → t < n ∧ κ.pin t = none

theorem dstOf_lt {ops : List Oper} {j d : Nat} (h : DstOK κ n ops) (hd : dstOf ops j = some d) : d < n := by
  unfold dstOf at hd
  split at hd
  · rename_i o ho
    exact (h o (List.mem_of_getElem? ho) d hd).1
  · simp at hd

/-- With its guard: the ways it may go. -/
theorem guardK_sound {ops : Array Oper} {o : Oper} {st : St} {a : Act} {w : World} {run skip : St → Res} {res : Out × Boxes} (hd : DstOK κ n ops.toList) (he : guardK ops.toList o st run skip = some res) (hi : Inv B κ n st a w) :
    (Region.wanted o (yielded ops a.tmps) = true ∧ ∃ st', st'.bk = st.bk ∧ Inv B κ n st' a w ∧ run st' = some res) ∨ (Region.wanted o (yielded ops a.tmps) = false ∧ ∃ st', st'.bk = st.bk ∧ Inv B κ n st' a w ∧ skip st' = some res) := by
  obtain ⟨ι, hs, hk⟩ := hi.sim
  unfold guardK at he
  unfold Region.wanted
  cases hgu : o.guard with
  | none => rw [hgu] at he; exact .inl ⟨rfl, st, rfl, hi, he⟩
  | some jw =>
    obtain ⟨j, want⟩ := jw
    rw [hgu] at he
    simp only at he ⊢
    cases hdst : dstOf ops.toList j with
    | none => rw [hdst] at he; simp at he
    | some d =>
      rw [hdst] at he
      simp only at he
      have hlt := dstOf_lt hd hdst
      obtain ⟨y1, y2⟩ := yielded_of hs hdst (by rw [hi.size]; exact hlt)
      split at he
      · rename_i b hb
        have hy := y1 b hb
        have hv := bool_tmp hs hb
        have hsame : Inv B κ n (st.setT d (boolV b)) a w := ⟨hi.defers, hi.size, ι, hs.same (by rw [hv, boolV, vrep_lit]; exact ⟨rfl, rfl⟩), hk⟩
        rw [hy]
        rcases testB_some he with ⟨rfl, he⟩ | ⟨rfl, he⟩ <;> cases want <;> simp only at he
        · exact .inr ⟨rfl, st.setT d _, rfl, hsame, he⟩
        · exact .inl ⟨rfl, st.setT d _, rfl, hsame, he⟩
        · exact .inl ⟨rfl, st.setT d _, rfl, hsame, he⟩
        · exact .inr ⟨rfl, st.setT d _, rfl, hsame, he⟩
      · rename_i hu
        rw [y2 hu]
        exact .inr ⟨rfl, st, rfl, hi, he⟩
      · simp at he

theorem evOps_wp (hh : HSound E h) (hB : BaseOK B) (hg : GlobOK E B) {ops : Array Oper} {base : Nat} {K : X → St → Res} {res : Out × Boxes} (hd : DstOK κ n ops.toList) {Q : Exit → Act → World → Prop}
    (hn : ∀ st' a' w', K .normal st' = some res → Inv B κ n st' a' w' → Q .normal a' w') (hp : ∀ x st' chain a' w', K (.panic x) st' = some res → Panicked B κ st'.bk x chain a' w' → Q (.panic chain) a' w') :
    ∀ (r : List Oper) (i : Nat) (st : St) (a : Act) (w : World), (∀ j, j < r.length → ops[i + j]? = r[j]?) → evOps E h base ops.toList r i st K = some res → Inv B κ n st a w → wpOps E.P ops Q (List.range' i r.length) a w
  | [], i, st, a, w, hr, he, hi => by
    simp only [evOps] at he
    exact hn _ _ _ he hi
  | o :: r, i, st, a, w, hr, he, hi => by
    simp only [evOps] at he
    have ho : ops[i]? = some o := by simpa using hr 0 (by simp)
    have hm : o ∈ ops.toList := by
      have := List.mem_of_getElem? (l := ops.toList) (i := i) (by rw [Array.getElem?_toList]; exact ho)
      exact this
    have hr' : ∀ j, j < r.length → ops[i + 1 + j]? = r[j]? := fun j hj => by
      have := hr (j + 1) (by simpa using hj)
      rw [show i + 1 + j = i + (j + 1) by omega]
      simpa using this
    simp only [List.length_cons, List.range'_succ, wpOps, ho]
    rcases guardK_sound hd he hi with ⟨hw, st', _, hi', he'⟩ | ⟨hw, st', _, hi', he'⟩
    · rw [if_pos hw]
      refine .inl (execK_wp hh hB hg (hd o hm) he' hi' (fun st2 a2 w2 he2 hi2 => evOps_wp hh hB hg hd hn hp r (i + 1) st2 a2 w2 hr' he2 hi2) (fun x st2 chain a2 w2 he2 hp2 => hp x st2 chain a2 w2 he2 hp2))
    · rw [if_neg (by rw [hw]; simp)]
      obtain ⟨ι, hs, hk⟩ := hi'.sim
      exact evOps_wp hh hB hg hd hn hp r (i + 1) _ _ w hr' he' (hi'.step (st' := st') hk (Ext.refl _) hs (vrep_undef _) (hd o hm))

end

end Go.Proofs.YtggofahhehkbbaaGreatDoor.Ev
