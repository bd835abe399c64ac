/- One operation's step, in a function. -/
import Derived.Test.YtggofahhehkbbaaGreatDoorEvInp
namespace Go.Proofs.YtggofahhehkbbaaGreatDoor.Ev
set_option autoImplicit false
set_option linter.unusedVariables false
set_option linter.unusedSimpArgs false

structure Kp where
  m : Nat
  β : Nat → Nat
  kd : Nat → Nat
  ds : List Deferred
  pin : Nat → Option Value

/-- What is deferred is as it was; what nobody writes is as it was. -/
structure KeepA (κ : Kp) (a : Act) : Prop where
  ds : a.defers = κ.ds
  pin : ∀ t v, κ.pin t = some v → a.tmps[t]? = some v

theorem KeepA.put {κ : Kp} {a : Act} (h : KeepA κ a) (d : Option Nat) (v : Value) (hd : ∀ t, d = some t → κ.pin t = none) : KeepA κ (a.put d v) := by
  cases d with
  | none => exact h
  | some d =>
    refine ⟨h.ds, fun t u ht => ?_⟩
    have hne : d ≠ t := fun he => by subst he; rw [hd d rfl] at ht; simp at ht
    show (a.tmps.setIfInBounds d v)[t]? = _
    rw [Array.getElem?_setIfInBounds, if_neg hne]
    exact h.pin t u ht

/-- The boxes that were handed over are where they were. -/
def Kept (κ : Kp) (bk : Nat → Option Blk) (ι : Nat → Nat) : Prop := ∀ k, k < κ.m → ∃ b, bk k = some b ∧ (kdOf (some b) ≠ 0 → ι k = κ.β k ∧ kdOf (some b) = κ.kd k)

theorem Kept.ext {κ : Kp} {c c' : RepCtx} (h : Kept κ c.bk c.ι) (e : Ext c c') : Kept κ c'.bk c'.ι := by
  intro k hk
  obtain ⟨b, hb, h1⟩ := h k hk
  obtain ⟨b', hb', hc⟩ := e.bk k b hb
  refine ⟨b', hb', fun h0 => ?_⟩
  cases b' with
  | box ty cs =>
    obtain ⟨⟨_, cs', rfl⟩, h2⟩ := hc
    obtain ⟨h3, h4⟩ := h1 (by simp [kdOf])
    exact ⟨h2.trans h3, h4⟩
  | map es =>
    obtain ⟨⟨cs', rfl⟩, h2⟩ := hc
    obtain ⟨h3, h4⟩ := h1 (by simp [kdOf])
    exact ⟨h2.trans h3, h4⟩
  | _ => exact absurd rfl h0

structure Inv (B : Base) (κ : Kp) (n : Nat) (st : St) (a : Act) (w : World) : Prop where
  defers : KeepA κ a
  size : a.tmps.size = n
  sim : ∃ ι, Sim B st w ι a.tmps ∧ Kept κ st.bk ι

def Panicked (B : Base) (κ : Kp) (bk : Nat → Option Blk) (x : AV) (chain : List PanicEntry) (a : Act) (w : World) : Prop :=
  KeepA κ a ∧ ∃ v ι, chain = [{ v := v, recovered := false }] ∧ SimB B bk w ι ∧ Kept κ bk ι ∧ AVRep (ctx B bk w ι) x v

theorem Sim.setD {B : Base} {st : St} {w : World} {ι : Nat → Nat} {a : Act} {d : Option Nat} {x : AVal} {v : Value} (h : Sim B st w ι a.tmps) (hv : VRep (ctx B st.bk w ι) x v) (hd : ∀ t, d = some t → t < a.tmps.size) :
    Sim B (st.setD d x) w ι (a.put d v).tmps := by
  cases d with
  | none => exact h
  | some d =>
    have hlt := hd d rfl
    refine ⟨h.toSimB, fun t => ?_⟩
    show VRep (ctx B st.bk w ι) (upd st.tm d x t) ((a.tmps.setIfInBounds d v).getD t undef)
    by_cases he : t = d
    · subst he
      rw [upd_same]
      simpa [Array.getD, hlt] using hv
    · rw [upd_ne _ _ he]
      have : (a.tmps.setIfInBounds d v).getD t undef = a.tmps.getD t undef := by
        simp [Array.getD_eq_getD_getElem?, Array.getElem?_setIfInBounds, Ne.symm he]
      rw [this]
      exact h.tmps t

theorem put_size (a : Act) (d : Option Nat) (v : Value) : (a.put d v).tmps.size = a.tmps.size := by cases d <;> simp [Act.put]
theorem put_defers (a : Act) (d : Option Nat) (v : Value) : (a.put d v).defers = a.defers := by cases d <;> rfl

theorem Sim.same {B : Base} {st : St} {w : World} {ι : Nat → Nat} {T : Array Value} {d : Nat} {x : AVal} (h : Sim B st w ι T) (hv : VRep (ctx B st.bk w ι) x (T.getD d undef)) : Sim B (st.setT d x) w ι T := by
  refine ⟨h.toSimB, fun t => ?_⟩
  show VRep (ctx B st.bk w ι) (upd st.tm d x t) _
  by_cases he : t = d
  · subst he; rw [upd_same]; exact hv
  · rw [upd_ne _ _ he]; exact h.tmps t

theorem vrep_undef (c : RepCtx) : VRep c (.tup []) undef := ⟨#[], rfl, rfl⟩

theorem rep_cells_map {c : RepCtx} : ∀ {as : List AV} {vs : List Value}, AVRepL c as vs → VRepT c (as.map fun a => (false, [a])) vs
  | [], vs, h => by simp only [AVRepL] at h; exact h
  | a :: r, vs, h => by
    simp only [AVRepL] at h
    obtain ⟨v, vs', rfl, h1, h2⟩ := h
    exact ⟨v, vs', rfl, by simp only [VRepC, AVRepL]; exact ⟨v, [], rfl, h1, rfl⟩, rep_cells_map h2⟩

theorem VRepT.append {c : RepCtx} : ∀ {as bs : Args} {us vs : List Value}, VRepT c as us → VRepT c bs vs → VRepT c (as ++ bs) (us ++ vs)
  | [], bs, us, vs, h, k => by
    have : us = [] := h
    subst this
    exact k
  | (g, cs) :: r, bs, us, vs, h, k => by
    obtain ⟨v, us', rfl, h1, h2⟩ := h
    exact ⟨v, us' ++ vs, rfl, h1, h2.append k⟩

theorem asVs_ev {st : St} {c : RepCtx} : ∀ {vs : List AVal} {as : Args} {us : List Value}, (asVs vs).ev st = some as → us.length = vs.length → (∀ (i : Nat) v u, vs[i]? = some v → us[i]? = some u → VRep c v u) → VRepT c as us
  | [], as, us, he, hl, h => by
    simp only [asVs, ev_ret, Option.some.injEq] at he
    subst he
    exact List.length_eq_zero_iff.1 hl
  | .v g cs :: r, as, us, he, hl, h => by
    simp only [asVs, ev_bind] at he
    obtain ⟨xs, h1, h2⟩ := bind_some he
    simp only [ev_ret, Option.some.injEq] at h2
    subst h2
    cases us with
    | nil => simp at hl
    | cons u us =>
      exact ⟨u, us, rfl, h 0 _ u rfl rfl, asVs_ev h1 (by simpa using hl) fun i v u' hv hu => h (i + 1) v u' (by simpa using hv) (by simpa using hu)⟩
  | .tup _ :: _, as, us, he, hl, h => by simp [asVs] at he
  | .undef :: _, as, us, he, hl, h => by simp [asVs] at he

theorem calleeM_ev {st : St} {c : RepCtx} {a : AV} {g : Nat} {f k : List AV} {v : Value} (he : (calleeM a).ev st = some (g, f, k)) (hv : AVRep c a v) :
    ∃ F K, v = .func (.func g) F K ∧ AVRepL c f F.toList ∧ AVRepL c k K.toList := by
  unfold calleeM at he
  split at he
  · simp only [ev_ret, Option.some.injEq, Prod.mk.injEq] at he
    obtain ⟨rfl, rfl, rfl⟩ := he
    simp only [AVRep] at hv
    exact hv
  · rename_i g' f' c'
    simp only [ev_bind] at he
    obtain ⟨_, h1, h2⟩ := bind_some he
    have h1 := chk_some h1
    simp only [ev_ret, Option.some.injEq, Prod.mk.injEq] at h2
    obtain ⟨rfl, rfl, rfl⟩ := h2
    simp only [Bool.and_eq_true] at h1
    obtain ⟨_, rfl⟩ := avrep_lit.1 hv
    have e1 : f' = #[] := by simpa using h1.1
    have e2 : c' = #[] := by simpa using h1.2
    subst e1
    subst e2
    exact ⟨#[], #[], rfl, by simp [AVRepL], by simp [AVRepL]⟩
  · simp at he

theorem op_wp {E : Env} {h : Handler} (hh : HSound E h) {B : Base} (hB : BaseOK B) (hg : GlobOK E B) {st : St} {w : World} {ι : Nat → Nat} {a : Act} {o : Oper} {base : Nat} {out : OpOut} (hs : Sim B st w ι a.tmps)
    (he : (opM E h base o).ev st = some out) {next : Act → World → Prop} {Q : Exit → Act → World → Prop}
    (hval : ∀ x bw, out = .val x bw → ∀ v w' ι', Ext (ctx B st.bk w ι) (ctx B (st.setBs bw).bk w' ι') → Sim B (st.setBs bw) w' ι' a.tmps → VRep (ctx B (st.setBs bw).bk w' ι') x v → next (a.put o.dst v) w')
    (hskip : ∀ bw, out = .skip bw → ∀ w' ι', Ext (ctx B st.bk w ι) (ctx B (st.setBs bw).bk w' ι') → Sim B (st.setBs bw) w' ι' a.tmps → next (a.put o.dst undef) w')
    (hpan : ∀ x bw, out = .pan x bw → ∀ v w' ι', Ext (ctx B st.bk w ι) (ctx B (st.setBs bw).bk w' ι') → SimB B (st.setBs bw).bk w' ι' → AVRep (ctx B (st.setBs bw).bk w' ι') x v → Q (.panic [{ v := v, recovered := false }]) a w') :
    o.wp E.P a w next Q := by
  cases hc : isCall o with
  | false =>
    have hr := opM_sound hs hB hg hc he
    unfold Oper.wp
    cases out with
    | val x bw =>
      obtain ⟨v, w', ι', h1, h2, h3, h4⟩ := hr
      rw [h1]
      exact hval x bw rfl v w' ι' h2 h3 h4
    | skip bw =>
      obtain ⟨w', ι', h1, h2, h3⟩ := hr
      rw [h1]
      exact hskip bw rfl w' ι' h2 h3
    | pan x bw =>
      obtain ⟨v, w', ι', h1, h2, h3, h4⟩ := hr
      rw [h1]
      exact hpan x bw rfl v w' ι' h2 h3 h4
  | true =>
    unfold isCall at hc
    split at hc
    · rename_i c hop
      split at hc
      · rename_i f hcal
        unfold opM at he
        rw [hop] at he
        simp only at he
        rw [hcal] at he
        simp only [ev_bind] at he
        obtain ⟨fv, h1, he1⟩ := bind_some he
        obtain ⟨fa, h2, he2⟩ := bind_some he1
        obtain ⟨⟨g, first, cap⟩, h3, he3⟩ := bind_some he2
        obtain ⟨as, h4, he4⟩ := bind_some he3
        obtain ⟨args, h5, he5⟩ := bind_some he4
        clear he he1 he2 he3 he4
        have e1 := asOne_ev h2
        subst e1
        have h6 := opd_sound hs hB hg h1
        rw [vrep_one] at h6
        obtain ⟨F, K, h7, h8, h9⟩ := calleeM_ev h3 h6
        obtain ⟨l1, r1⟩ := opds_sound hs hB hg h4
        have h10 : VRepT (ctx B st.bk w ι) args (c.args.toList.map a.eval) := asVs_ev h5 (by simp [l1]) fun i v u hv hu => by
          rw [List.getElem?_map] at hu
          cases hx : c.args.toList[i]? with
          | none => rw [hx] at hu; simp at hu
          | some x =>
            rw [hx] at hu
            simp only [Option.map_some, Option.some.injEq] at hu
            subst hu
            exact r1 i x v hx hv
        have h11 := ((rep_cells_map h8).append h10).append (rep_cells_map h9)
        have h12 := callG_sound hh hs.toSimB hB hg he5 h11
        have hex : execOp a.eval o = callFunc g (F.toList ++ c.args.toList.map a.eval ++ K.toList).toArray := by
          simp only [execOp, hop, resolve, hcal, h7, Deferred.ofValue, pure_bind, invoke]
          congr 1
          apply Array.toList_inj.1
          simp
        unfold Oper.wp
        rw [hex]
        have hgo : ∀ e w', CallRes B st w ι out e w' → match e with
            | .returned v => next (a.put o.dst v) w'
            | .panicked chain => Q (.panic chain) a w'
            | .outgrown => LetsOut Q := by
          intro e w' hr
          obtain ⟨ι', hr⟩ := hr
          cases out with
          | val x bw =>
            obtain ⟨q1, q2, v, rfl, q3⟩ := hr
            exact hval x bw rfl v w' ι' q1 ⟨q2, fun t => by rw [setBs_tm]; exact (hs.tmps t).ext q1⟩ q3
          | pan x bw =>
            obtain ⟨q1, q2, v, rfl, q3⟩ := hr
            exact hpan x bw rfl v w' ι' q1 q2 q3
          | skip bw => exact hr.elim
        unfold CallOp at h12
        split at h12
        · rename_i v w' hrun
          rw [hrun]
          exact hgo _ _ h12
        · rename_i f' as' w' hrun
          rw [hrun]
          refine Calls.mono h12 fun e w'' hr => ?_
          have := hgo e w'' hr
          cases e <;> exact this
        · rename_i row as' w' hrun
          rw [hrun]
          exact Rows.mono h12 fun v w'' hr => hgo _ w'' hr
        · rename_i v w' hrun
          rw [hrun]
          exact hgo _ _ h12
        · exact h12.elim
      · simp at hc
    · simp at hc

end Go.Proofs.YtggofahhehkbbaaGreatDoor.Ev
