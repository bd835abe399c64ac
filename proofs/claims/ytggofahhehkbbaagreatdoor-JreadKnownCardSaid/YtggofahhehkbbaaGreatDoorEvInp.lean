/- A callee that rewrites its first argument's cells. -/
import Derived.Test.YtggofahhehkbbaaGreatDoorEvCall
namespace Go.Proofs.YtggofahhehkbbaaGreatDoor.Ev
set_option autoImplicit false
set_option linter.unusedVariables false
set_option linter.unusedSimpArgs false

/-- A block of one's own has been rewritten by somebody else; new blocks lie behind. -/
theorem SimB.moved {B : Base} {bk : Nat → Option Blk} {w w' : World} {ι : Nat → Nat} (h : SimB B bk w ι) {id ep ty sz : Nat} {es es' : List (List PV)} {C C' : Array Value} {f f' : Nat × Nat} (hid : bk id = some (.arr ep ty sz false es))
    (hk : Keep ⟨nav B bk w ι, fun k => k = ι id, w, B.md⟩ w') (hlen : es'.length = es.length) (hC : w.heap[ι id]? = some (.cells C ty f)) (hC' : w'.heap[ι id]? = some (.cells C' ty f')) (hf' : okFz f' C'.size) (hsz : C'.size = C.size)
    (hcap : ∃ cap, C.size = cap * sz ∧ es.length ≤ cap ∧ cap ≤ 9223372036854775807)
    (ha : ArrCells w' (fun k => (Base.mk (nav B bk w ι) (fun k => k = ι id) w B.md).A k ∧ k < w'.heap.size ∧ k ≠ ι id) sz es' fun i => C'[i]?) :
    Ext (ctx B bk w ι) (ctx B (upd bk id (some (.arr ep ty sz false es'))) w' ι) ∧ SimB B (upd bk id (some (.arr ep ty sz false es'))) w' ι := by
  have hown : ∀ i y, upd bk id (some (.arr ep ty sz false es')) i = some y → y.owned = true → ∃ z, bk i = some z ∧ z.owned = true := by
    intro i y hy ho
    by_cases hi : i = id
    · subst hi; exact ⟨_, hid, rfl⟩
    · rw [upd_ne _ _ hi] at hy; exact ⟨y, hy, ho⟩
  have hsame : ∀ b, b < w.heap.size → b ≠ ι id → w'.heap[b]? = w.heap[b]? := fun b hb hne => hk.block b hb hne
  have hne : ∀ i y, bk i = some y → y.owned = true → i ≠ id → w'.heap[ι i]? = w.heap[ι i]? := fun i y hy ho hi =>
    hsame _ (h.lt hy ho) fun he => hi (h.inj i id y _ hy hid ho rfl he)
  have ext : Ext (ctx B bk w ι) (ctx B (upd bk id (some (.arr ep ty sz false es'))) w' ι) := by
    refine ⟨fun b hb => ⟨⟨hb.1, Nat.lt_of_lt_of_le hb.2.1 hk.size, fun i y hy ho => ?_⟩, fun hlt => ?_⟩, fun i b hi => ?_⟩
    · obtain ⟨z, h1, h2⟩ := hown i y hy ho
      exact hb.2.2 i z h1 h2
    · exact hsame b hlt fun he => hb.2.2 id _ hid rfl he.symm
    · by_cases he : i = id
      · subst he
        simp only [ctx] at hi
        rw [hid] at hi
        simp only [Option.some.injEq] at hi
        subst hi
        refine ⟨_, upd_same _ _ _, ep, ty, sz, false, es, rfl, .inr ⟨rfl, rfl, hlen, rfl, fun _ => ⟨rfl, fun C0 T0 f0 h0 => ⟨C', ty, f', hC', ?_⟩⟩⟩⟩
        simp only [ctx] at h0
        rw [hC] at h0
        simp only [Option.some.injEq, Obj.cells.injEq] at h0
        rw [← h0.1, hsz]
      · exact ⟨b, by simp only [ctx] at hi ⊢; rw [upd_ne _ _ he]; exact hi, Compat.refl rfl fun ho => hne i b hi ho he⟩
  have hkeep : Keep B w' := by
    refine h.keep.step hk.os hk.tape hk.output hk.size (fun b hb => ?_) hk.drawn
    by_cases he : b = ι id
    · subst he; exact .inr (h.terr id _ hid rfl)
    · exact .inl (hsame b hb he)
  refine ⟨ext, h.step ext hkeep (fun i y hy ho => ?_) (fun i j y z hy hz ho hp he => ?_) fun i y hy => ?_⟩
  · obtain ⟨z, h1, h2⟩ := hown i y hy ho
    exact h.terr i z h1 h2
  · obtain ⟨y', h1, h2⟩ := hown i y hy ho
    obtain ⟨z', h3, h4⟩ := hown j z hz hp
    exact h.inj i j y' z' h1 h3 h2 h4 he
  · by_cases he : i = id
    · subst he
      rw [upd_same] at hy
      simp only [Option.some.injEq] at hy
      subst hy
      refine .inr ⟨C', f', hC', hf', ?_, ?_⟩
      · obtain ⟨cap, h1, h2, h3⟩ := hcap
        exact ⟨cap, by rw [hsz, h1], by omega, h3⟩
      · refine ha.monoN fun k hkk => ?_
        obtain ⟨h1, h2, h3⟩ := hkk
        refine ⟨?_, h2, fun i' x hi' hx => ?_⟩
        · rcases h1 with h1 | h1 | h1
          · exact h1.1
          · exact absurd h1 h3
          · exact .inr (.inr (Nat.le_trans h.keep.size h1))
        · obtain ⟨z, h4, h5⟩ := hown i' x hi' hx
          rcases h1 with h1 | h1 | h1
          · exact h1.2.2 i' z h4 h5
          · exact absurd h1 h3
          · have := h.lt h4 h5
            have h1 : w.heap.size ≤ k := h1
            intro he2
            omega
    · rw [upd_ne _ _ he] at hy; exact .inl ⟨hy, rfl, fun ho => hne i y hy ho he⟩

/-- The world has grown, nothing else. -/
theorem SimB.grown {B : Base} {bk : Nat → Option Blk} {w w' : World} {ι : Nat → Nat} (h : SimB B bk w ι) (hk : Keep ⟨nav B bk w ι, fun _ => False, w, B.md⟩ w') :
    Ext (ctx B bk w ι) (ctx B bk w' ι) ∧ SimB B bk w' ι := by
  have hsame : ∀ b, b < w.heap.size → w'.heap[b]? = w.heap[b]? := fun b hb => hk.block b hb fun h => h
  have ext : Ext (ctx B bk w ι) (ctx B bk w' ι) :=
    ⟨fun b hb => ⟨⟨hb.1, Nat.lt_of_lt_of_le hb.2.1 hk.size, hb.2.2⟩, fun hlt => hsame b hlt⟩, fun i b hi => ⟨b, hi, Compat.refl rfl fun ho => hsame _ (h.lt hi ho)⟩⟩
  exact ⟨ext, h.step ext (h.keep.step hk.os hk.tape hk.output hk.size (fun b hb => .inl (hsame b hb)) hk.drawn) h.terr h.inj fun i y hy => .inl ⟨hy, rfl, fun ho => hsame _ (h.lt hy ho)⟩⟩

theorem extS_nil {B : Base} {st : St} {w : World} {ι : Nat → Nat} {M : List Nat} (h : ExtS B st w ι [] [] M) : M = [] := by
  cases M with
  | nil => rfl
  | cons i r =>
    obtain ⟨⟨ep, ty, sz, es, h1⟩, h2⟩ := h.mv i (List.mem_cons_self)
    rw [h1] at h2
    simp at h2

theorem inplM_sound {E : Env} {g : Nat} {p : List (List PV) → Args → Option (List (List PV))} (hip : InplSound E g p) {B : Base} {st : St} {w : World} {ι : Nat → Nat} (hs : SimB B st.bk w ι) (hB : BaseOK B) (hg : GlobOK E B) {args : Args} {us : List Value} {r : OpOut}
    (he : (inplM p args).ev st = some r) (hv : VRepT (ctx B st.bk w ι) args us) : CallOp E.P g us.toArray w (CallRes B st w ι r) := by
  unfold inplM at he
  split at he
  case h_2 => simp at he
  case h_1 a rest =>
    simp only [ev_bind] at he
    obtain ⟨⟨rest', bw⟩, h1, he1⟩ := bind_some he
    obtain ⟨_, h2, he2⟩ := bind_some he1
    have h2 := chk_some h2
    cases bw with
    | cons x y => simp at h2
    | nil =>
      clear he he1 h2
      obtain ⟨v, us', rfl, hv1, hv2⟩ := hv
      obtain ⟨M, x1, q1⟩ := extVs_sound (ids := []) (bw := []) hs h1 hv2
      obtain rfl := extS_nil x1
      have hv1 : AVRep (ctx B st.bk w ι) (unNl a) v := (vrep_one.1 hv1).unNl
      generalize unNl a = a0 at he2 hv1
      have hglob : ∀ O : Nat → Prop, GlobOK E ⟨nav B st.bk w ι, O, w, B.md⟩ := fun O => ⟨fun gg cs hgg => hs.rep0 hB (hg.gl gg cs hgg), hg.md⟩
      split at he2
      case h_1 id ep =>
        simp only [ev_bind, ev_getB] at he2
        obtain ⟨b, h3, he3⟩ := bind_some he2
        simp only [Option.some.injEq] at h3
        subst h3
        split at he3
        case h_2 => simp at he3
        case h_1 ep' ty sz fz es hid =>
          simp only [ev_bind] at he3
          obtain ⟨_, h4, he4⟩ := bind_some he3
          have h4 := chk_some h4
          simp only [Bool.and_eq_true, Bool.not_eq_true'] at h4
          obtain ⟨h5, rfl⟩ := h4
          obtain rfl := Nat.eq_of_beq_eq_true h5
          split at he4
          case h_2 => simp at he4
          case h_1 es' hp =>
            simp only [ev_ret, Option.some.injEq] at he4
            subst he4
            simp only [AVRep] at hv1
            obtain ⟨b, hb, _, hsl⟩ := hv1
            simp only [ctx] at hb
            rw [hid] at hb
            simp only [Option.some.injEq] at hb
            subst hb
            obtain ⟨cap, rfl, hcap, k2⟩ := (hsl _ _ _ _ _ rfl).2 rfl
            have hbr := hs.blks id _ hid
            obtain ⟨C, f, hC, hf, ⟨cap', hc1, hc2, hc3⟩, ha⟩ := hbr
            obtain ⟨C0, T0, f0, hC0, hs0⟩ := k2 rfl
            simp only [ctx] at hC hC0
            rw [hC] at hC0
            simp only [Option.some.injEq, Obj.cells.injEq] at hC0
            obtain ⟨rfl, rfl, rfl⟩ := hC0
            have hcc : cap ≤ 9223372036854775807 := by
              have h0 := ha.1
              have : cap * sz = cap' * sz := by rw [← hs0, hc1]
              have := Nat.eq_of_mul_eq_mul_right h0 this
              omega
            have hBB : BaseOK ⟨nav B st.bk w ι, fun k => k = ι id, w, B.md⟩ := ⟨fun b hb => ⟨hb.2.1, fun he => hb.2.2 id _ hid rfl (Eq.symm he)⟩⟩
            have hgo := (hip es rest' es' hp ⟨nav B st.bk w ι, fun k => k = ι id, w, B.md⟩ (bdOf B st w ι [] []) us' hBB (hglob _) rfl rfl rfl q1).1 (ι id) cap ty sz C f (fun k => Iff.rfl) hC hf hs0 hcap hcc ha
            refine CallOp.mono hgo fun e w' hr => ?_
            obtain ⟨rfl, hk, hl, C', f', k1, k2, k3, k4⟩ := hr
            obtain ⟨e1, e2⟩ := hs.moved hid hk hl hC k1 k2 k3 ⟨cap, hs0, hcap, hcc⟩ k4
            exact ⟨ι, e1, e2, _, rfl, ⟨#[], rfl, rfl⟩⟩
      all_goals try (simp at he2; done)
      all_goals
        split at he2
        case h_2 => simp at he2
        case h_1 es' hp =>
          simp only [ev_ret, Option.some.injEq] at he2
          subst he2
          have hsl : ∃ ad cap, v = .slice ad 0 cap := by
            simp only [AVRep] at hv1
            first
              | (cases hv1 with | nil a cap => exact ⟨a, cap, rfl⟩ | sl es b o cap sz V hb hcap hsz hc hr => exact ⟨_, _, rfl⟩)
              | (obtain ⟨_, a, rfl⟩ := hv1; exact ⟨a, _, rfl⟩)
          obtain ⟨ad, cap, rfl⟩ := hsl
          have hBB : BaseOK ⟨nav B st.bk w ι, fun _ => False, w, B.md⟩ := ⟨fun b hb => ⟨hb.2.1, fun he => he⟩⟩
          have hgo := (hip [] rest' es' hp ⟨nav B st.bk w ι, fun _ => False, w, B.md⟩ (bdOf B st w ι [] []) us' hBB (hglob _) rfl rfl rfl q1).2 rfl ad cap (fun k h => h)
          refine CallOp.mono hgo fun e w' hr => ?_
          obtain ⟨rfl, hk⟩ := hr
          obtain ⟨e1, e2⟩ := hs.grown hk
          exact ⟨ι, e1, e2, _, rfl, ⟨#[], rfl, rfl⟩⟩

theorem callG_sound {E : Env} {h : Handler} (hh : HSound E h) {B : Base} {st : St} {w : World} {ι : Nat → Nat} (hs : SimB B st.bk w ι) (hB : BaseOK B) (hg : GlobOK E B) {base g : Nat} {args : Args} {us : List Value} {r : OpOut}
    (he : (callG E h base g args).ev st = some r) (hv : VRepT (ctx B st.bk w ι) args us) : CallOp E.P g us.toArray w (CallRes B st w ι r) := by
  unfold callG at he
  split at he
  case h_1 p hp => exact inplM_sound (hh.ip g p hp) hs hB hg he hv
  case h_2 => exact callM_sound hh hs hB hg he hv

end Go.Proofs.YtggofahhehkbbaaGreatDoor.Ev
