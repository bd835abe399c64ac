/- Regions in any order: sound, all in one. -/
import Derived.Test.YtggofahhehkbbaaGreatDoorEvDrawB
namespace Go.Proofs.YtggofahhehkbbaaGreatDoor.Ev
set_option autoImplicit false
set_option linter.unusedVariables false
set_option linter.unusedSimpArgs false

theorem apartN_spec : ∀ {xs ys : List Nat}, apartN xs ys = true → ∀ x, x ∈ xs → x ∉ ys
  | [], ys, h, x, hx => by simp at hx
  | a :: r, ys, h, x, hx => by
    simp only [apartN, Bool.and_eq_true, Bool.not_eq_true'] at h
    rcases List.mem_cons.1 hx with rfl | hx
    · exact memN_false h.1
    · exact apartN_spec h.2 x hx

theorem apartAll_spec {mask i : Nat} {e : Eff} : ∀ {fs : List Eff} {j0 : Nat}, apartAll mask i e fs j0 = true → ∀ (j : Nat) f, fs[j]? = some f → Nat.testBit mask (j0 + j) = true ∨ Eff.apart f e = true
  | [], j0, h, j, f, hj => by simp at hj
  | g :: r, j0, h, j, f, hj => by
    simp only [apartAll, Bool.and_eq_true, Bool.or_eq_true] at h
    cases j with
    | zero => simp only [List.getElem?_cons_zero, Option.some.injEq] at hj; subst hj; exact h.1
    | succ j =>
      have := apartAll_spec h.2 j f (by simpa using hj)
      rw [show j0 + (j + 1) = j0 + 1 + j by omega]
      exact this

theorem okEffs_spec : ∀ {ms : List Nat} {es done : List Eff} {i : Nat}, okEffs ms es done i = true → done.length = i → ∀ (k : Nat) e, es[k]? = some e → ∃ m, ms[k]? = some m ∧ ∀ (j : Nat) f, (done ++ es)[j]? = some f → j < i + k → Nat.testBit m j = true ∨ Eff.apart f e = true
  | ms, [], done, i, h, hl, k, e, hk => by simp at hk
  | [], e' :: es, done, i, h, hl, k, e, hk => by simp [okEffs] at h
  | m :: ms, e' :: es, done, i, h, hl, k, e, hk => by
    simp only [okEffs, Bool.and_eq_true] at h
    cases k with
    | zero =>
      simp only [List.getElem?_cons_zero, Option.some.injEq] at hk
      subst hk
      refine ⟨m, rfl, fun j f hj hlt => ?_⟩
      rw [List.getElem?_append_left (by omega)] at hj
      have := apartAll_spec h.1 j f hj
      rwa [Nat.zero_add] at this
    | succ k =>
      obtain ⟨m', h1, h2⟩ := okEffs_spec h.2 (by simp [hl]) k e (by simpa using hk)
      refine ⟨m', by simpa using h1, fun j f hj hlt => h2 j f (by simpa using hj) (by omega)⟩

theorem quietBut_spec {m i : Nat} : ∀ {es : List Eff} {j0 : Nat}, quietBut m i es j0 = true → ∀ (j : Nat) e, es[j]? = some e → j0 + j = i ∨ Nat.testBit m (j0 + j) = true ∨ e.bw = []
  | [], j0, h, j, e, hj => by simp at hj
  | g :: r, j0, h, j, e, hj => by
    simp only [quietBut, Bool.and_eq_true, Bool.or_eq_true] at h
    cases j with
    | zero =>
      simp only [List.getElem?_cons_zero, Option.some.injEq] at hj
      subst hj
      rcases h.1 with (h1 | h1) | h1
      · exact .inl (beqN h1)
      · exact .inr (.inl h1)
      · exact .inr (.inr (by simpa using h1))
    | succ j =>
      have := quietBut_spec h.2 j e (by simpa using hj)
      rw [show j0 + (j + 1) = j0 + 1 + j by omega]
      exact this

def Closed (ops : List Oper) (S : Nat → Bool) : Prop := ∀ (k : Nat) o, S k = true → ops[k]? = some o → ∀ e, e ∈ o.after → Region.binds .any e = true → S e.on = true
def AheadOf (ops : List Oper) (S : Nat → Bool) (i : Nat) : Prop := ∀ o, ops[i]? = some o → ∀ e, e ∈ o.after → Region.binds .any e = true → S e.on = true
def GoodM (ops : List Oper) (i m : Nat) : Prop := ∀ S, Closed ops S → AheadOf ops S i → ∀ j, Nat.testBit m j = true → S j = true

theorem foldl_mask {acc : List Nat} : ∀ (l : List Edge) (m0 j : Nat), Nat.testBit (l.foldl (fun m e => bif Region.binds .any e then m ||| (1 <<< e.on) ||| ((acc[e.on]?).getD 0) else m) m0) j = true →
    Nat.testBit m0 j = true ∨ ∃ e, e ∈ l ∧ Region.binds .any e = true ∧ (e.on = j ∨ ∃ m, acc[e.on]? = some m ∧ Nat.testBit m j = true)
  | [], m0, j, h => .inl h
  | e :: r, m0, j, h => by
    simp only [List.foldl_cons] at h
    rcases foldl_mask r _ j h with h1 | ⟨e', h1, h2, h3⟩
    · cases hb : Region.binds .any e with
      | false => rw [hb] at h1; exact .inl h1
      | true =>
        rw [hb] at h1
        simp only [cond_true, Nat.testBit_or, Bool.or_eq_true] at h1
        rcases h1 with (h1 | h1) | h1
        · exact .inl h1
        · refine .inr ⟨e, by simp, hb, .inl ?_⟩
          rw [Nat.testBit_shiftLeft] at h1
          simp only [Bool.and_eq_true, decide_eq_true_eq] at h1
          have h0 : ∀ k, Nat.testBit 1 k = true → k = 0 := by
            intro k hk
            cases k with
            | zero => rfl
            | succ k => simp [Nat.testBit_succ] at hk
          have h4 := h0 _ h1.2
          omega
        · cases hm : acc[e.on]? with
          | none => rw [hm] at h1; simp at h1
          | some m => rw [hm] at h1; exact .inr ⟨e, by simp, hb, .inr ⟨m, hm, h1⟩⟩
    · exact .inr ⟨e', by simp [h1], h2, h3⟩

theorem beforeL_good {ops : List Oper} : ∀ (r : List Oper) (acc : List Nat) (i : Nat), acc.length = i → (∀ j, j < r.length → ops[i + j]? = r[j]?) → (∀ (k m : Nat), acc.reverse[k]? = some m → GoodM ops k m) →
    ∀ (k m : Nat), (beforeL r acc)[k]? = some m → GoodM ops k m
  | [], acc, i, hl, hr, h, k, m, hk => h k m hk
  | o :: r, acc, i, hl, hr, h, k, m, hk => by
    simp only [beforeL] at hk
    refine beforeL_good r _ (i + 1) (by simp [hl]) (fun j hj => ?_) (fun k' m' hk' => ?_) k m hk
    · have := hr (j + 1) (by simpa using hj)
      rw [show i + 1 + j = i + (j + 1) by omega]
      simpa using this
    · rw [List.reverse_cons] at hk'
      rcases Nat.lt_or_ge k' i with hlt | hge
      · rw [List.getElem?_append_left (by simpa [hl] using hlt)] at hk'
        exact h k' m' hk'
      · rw [List.getElem?_append_right (by simpa [hl] using hge)] at hk'
        have hk0 : k' = i := by
          have := (List.getElem?_eq_some_iff.1 hk').1
          simp [hl] at this
          omega
        subst hk0
        rw [List.length_reverse, hl, Nat.sub_self, List.getElem?_cons_zero, Option.some.injEq] at hk'
        subst hk'
        intro S hS hA j hj
        have ho : ops[k']? = some o := by simpa using hr 0 (by simp)
        rcases foldl_mask _ _ j hj with h1 | ⟨e, h1, h2, h3⟩
        · simp at h1
        · have hSe : S e.on = true := hA o ho e (by simpa using h1) h2
          rcases h3 with h3 | ⟨m, h3, h4⟩
          · rw [← h3]; exact hSe
          · exact h _ m h3 S hS (fun o' ho' e' he' hb' => hS e.on o' hSe ho' e' he' hb') j h4

theorem edgesBack_spec : ∀ {l : List Oper} {i : Nat}, edgesBack l i = true → ∀ (k : Nat) o, l[k]? = some o → ∀ e, e ∈ o.after → Region.binds .any e = true → e.on < i + k
  | [], i, h, k, o, hk, e, he, hb => by simp at hk
  | o' :: r, i, h, k, o, hk, e, he, hb => by
    simp only [edgesBack, Bool.and_eq_true] at h
    cases k with
    | zero =>
      simp only [List.getElem?_cons_zero, Option.some.injEq] at hk
      subst hk
      have := List.all_eq_true.1 h.1 e (by simpa using he)
      rw [hb] at this
      simp only [Bool.not_true, Bool.false_or] at this
      have h1 : e.on < i := by simpa [Nat.blt_eq] using this
      omega
    | succ k =>
      have := edgesBack_spec h.2 k o (by simpa using hk) e he hb
      omega

theorem count_set : ∀ (l : List Bool) (i : Nat), l[i]? = some false → (l.set i true).count false + 1 = l.count false
  | [], i, h => by simp at h
  | b :: r, 0, h => by
    simp only [List.getElem?_cons_zero, Option.some.injEq] at h
    subst h
    simp
  | b :: r, i + 1, h => by
    have := count_set r i (by simpa using h)
    simp only [List.set_cons_succ, List.count_cons]
    omega

/-! ### One operation -/
theorem opF_wp {E : Env} {h : Handler} {B : Base} {κ : Kp} {n : Nat} (hh : HSound E h) (hB : BaseOK B) (hg : GlobOK E B) {ops : Array Oper} {o : Oper} {base : Nat} {st : St} {a : Act} {w : World} {u : Upd} (hd : DstOK κ n ops.toList) (hm : o ∈ ops.toList)
    (he : opF E h base ops.toList o st = some u) (hi : Inv B κ n st a w) {next : Act → World → Prop} {Q : Exit → Act → World → Prop} (hn : u.pan = none → ∀ a' w', Inv B κ n (u.app st) a' w' → next a' w')
    (hp : ∀ x, u.pan = some x → ∀ chain a' w', Panicked B κ (u.app st).bk x chain a' w' → Q (.panic chain) a' w') :
    if Region.wanted o (yielded ops a.tmps) = true then o.wp E.P a w next Q else next (a.put o.dst undef) w := by
  obtain ⟨ι, hs, hk⟩ := hi.sim
  have hdo := hd o hm
  have hrun : ∀ gr, runF E h base o gr st = some u → o.wp E.P a w next Q := by
    intro gr hr
    unfold runF at hr
    split at hr
    case h_1 t x y hop =>
      split at hr
      case h_2 => simp at hr
      case h_1 c hc =>
        split at hr
        case h_2 => simp at hr
        case h_1 v tr br hv =>
          simp only [Option.some.injEq] at hr
          subst hr
          have hb := bool_tmp hs hc
          have hev : a.eval (.tmp t) = .bool c := hb
          have hx : (execOp a.eval o).run E.P w = .ok (.value (if c then a.eval x else a.eval y)) w := by
            simp [execOp, hop, hev, asBool]
          unfold Oper.wp
          rw [hx]
          have h1 := ev_of_run _ hv
          have h2 := opd_sound hs hB hg h1
          refine hn rfl _ w ?_
          have h3 : VRep (ctx B st.bk w ι) v (if c then a.eval x else a.eval y) := by cases c <;> exact h2
          exact hi.step (st' := st) hk (Ext.refl _) hs h3 hdo
    case h_2 x hne =>
      split at hr
      case h_4 => simp at hr
      all_goals
        rename_i hv
        simp only [Option.some.injEq] at hr
        subst hr
        have h1 := ev_of_run _ hv
        refine op_wp hh hB hg hs h1 (fun x' bw' ho v w' ι' q1 q2 q3 => ?_) (fun bw' ho w' ι' q1 q2 => ?_) (fun x' bw' ho v w' ι' q1 q2 q3 => ?_)
      · simp only [OpOut.val.injEq] at ho
        obtain ⟨rfl, rfl⟩ := ho
        exact hn rfl _ w' (hi.step (st' := st.setBs _) hk q1 q2 q3 hdo)
      · simp at ho
      · simp at ho
      · simp at ho
      · simp only [OpOut.skip.injEq] at ho
        subst ho
        exact hn rfl _ w' (hi.step (st' := st.setBs _) hk q1 q2 (vrep_undef _) hdo)
      · simp at ho
      · simp at ho
      · simp at ho
      · simp only [OpOut.pan.injEq] at ho
        obtain ⟨rfl, rfl⟩ := ho
        exact hp _ rfl _ a w' ⟨hi.defers, v, ι', rfl, q2, Kept.ext (c := ctx B st.bk w ι) (c' := ctx B (st.setBs _).bk w' ι') hk q1, q3⟩
  have hskip : u = ⟨o.dst, .tup [], [], ⟨grOf ops.toList o, [], optL o.dst, []⟩, none⟩ → next (a.put o.dst undef) w := by
    intro hu
    subst hu
    exact hn rfl _ w (hi.step (st' := st) hk (Ext.refl _) hs (vrep_undef _) hdo)
  unfold opF at he
  cases hgu : o.guard with
  | none =>
    have hw : Region.wanted o (yielded ops a.tmps) = true := by simp [Region.wanted, hgu]
    rw [hgu] at he
    rw [if_pos hw]
    exact hrun _ he
  | some jw =>
    obtain ⟨j, want⟩ := jw
    have hwant : Region.wanted o (yielded ops a.tmps) = (yielded ops a.tmps j == some want) := by simp [Region.wanted, hgu]
    rw [hwant]
    rw [hgu] at he
    simp only at he
    cases hdst : dstOf ops.toList j with
    | none => rw [hdst] at he; simp at he
    | some d =>
      rw [hdst] at he
      simp only at he
      obtain ⟨y1, y2⟩ := yielded_of hs hdst (by rw [hi.size]; exact dstOf_lt hd hdst)
      split at he
      case h_1 b hb =>
        rw [y1 b hb]
        split at he
        case isTrue hw => subst hw; rw [if_pos (by simp)]; exact hrun _ he
        case isFalse hw =>
          rw [if_neg (by simpa using hw)]
          simp only [Option.some.injEq] at he
          exact hskip he.symm
      case h_2 hb =>
        rw [y2 hb, if_neg (by simp)]
        simp only [Option.some.injEq] at he
        exact hskip he.symm
      case h_3 => simp at he

end Go.Proofs.YtggofahhehkbbaaGreatDoor.Ev
