/- Operands, readers, purity: sound. -/
import Derived.Test.YtggofahhehkbbaaGreatDoorEvMem
namespace Go.Proofs.YtggofahhehkbbaaGreatDoor.Ev
set_option autoImplicit false
set_option linter.unusedVariables false
set_option linter.unusedSimpArgs false

/-! ### Readers, without their logs -/
def RM.ev {α : Type} (st : St) : RM α → Option α
  | .ret a => some a
  | .fail => none
  | .tmp n k => (k (st.tm n)).ev st
  | .blk i k => (k (st.bk i)).ev st
  | .test b k => (k b).ev st

section
variable {α β : Type} {st : St}
@[simp] theorem ev_bind (m : RM α) (f : α → RM β) : (m.bind f).ev st = (m.ev st).bind fun a => (f a).ev st := by
  induction m with
  | ret a => rfl
  | fail => rfl
  | tmp n k ih => exact ih _
  | blk i k ih => exact ih _
  | test b k ih => exact ih _
@[simp] theorem ev_ret (a : α) : (RM.ret a).ev st = some a := rfl
@[simp] theorem ev_fail : (RM.fail : RM α).ev st = none := rfl
@[simp] theorem ev_getT (n : Nat) : (RM.getT n).ev st = some (st.tm n) := rfl
@[simp] theorem ev_getB (n : Nat) : (RM.getB n).ev st = some (st.bk n) := rfl
@[simp] theorem ev_chk (b : Bool) : (RM.chk b).ev st = if b = true then some () else none := by cases b <;> rfl
@[simp] theorem ev_ask (b : Bool) : (RM.ask b).ev st = some b := rfl
@[simp] theorem ev_ofOpt (o : Option α) : (RM.ofOpt o).ev st = o := by cases o <;> rfl

theorem ev_of_runK (m : RM α) {K : α → Res} {o : Out × Boxes} : m.runK st K = some o → ∃ a, m.ev st = some a ∧ K a = some o := by
  induction m with
  | ret a => exact fun h => ⟨a, rfl, h⟩
  | fail => intro h; simp [RM.runK] at h
  | tmp n k ih => exact ih _
  | blk i k ih => exact ih _
  | test b k ih => cases b <;> exact ih _

theorem ev_of_runKL (m : RM α) {K : α → List Nat → List Nat → Res} {o : Out × Boxes} : ∀ {tr br : List Nat}, m.runKL st tr br K = some o →
    ∃ a tr' br', m.run st tr br = some (a, tr', br') ∧ m.ev st = some a ∧ K a tr' br' = some o := by
  induction m with
  | ret a => exact fun h => ⟨a, _, _, rfl, rfl, h⟩
  | fail => intro _ _ h; simp [RM.runKL] at h
  | tmp n k ih => intro tr br h; exact ih _ h
  | blk i k ih => intro tr br h; exact ih _ h
  | test b k ih => intro tr br h; cases b <;> exact ih _ h

theorem ev_of_run (m : RM α) : ∀ {tr br : List Nat} {x : α × List Nat × List Nat}, m.run st tr br = some x → m.ev st = some x.1 := by
  induction m with
  | ret a => intro tr br x h; simp only [RM.run, Option.some.injEq] at h; subst h; rfl
  | fail => intro _ _ _ h; simp [RM.run] at h
  | tmp n k ih => intro tr br x h; exact ih _ h
  | blk i k ih => intro tr br x h; exact ih _ h
  | test b k ih => intro tr br x h; exact ih _ h

/-- What was read alone counts. -/
theorem run_local (m : RM α) : ∀ {tr br : List Nat} {x : α × List Nat × List Nat}, m.run st tr br = some x →
    (∀ n ∈ tr, n ∈ x.2.1) ∧ (∀ n ∈ br, n ∈ x.2.2) ∧ ∀ st' : St, (∀ n ∈ x.2.1, st'.tm n = st.tm n) → (∀ n ∈ x.2.2, st'.bk n = st.bk n) → m.run st' tr br = some x := by
  induction m with
  | ret a => intro tr br x h; simp only [RM.run, Option.some.injEq] at h; subst h; exact ⟨fun _ h => h, fun _ h => h, fun _ _ _ => rfl⟩
  | fail => intro _ _ _ h; simp [RM.run] at h
  | tmp n k ih =>
    intro tr br x h
    obtain ⟨h1, h2, h3⟩ := ih _ h
    refine ⟨fun m hm => h1 m (by simp [hm]), h2, fun st' ht hb => ?_⟩
    simp only [RM.run]
    rw [ht n (h1 n (by simp))]
    exact h3 st' ht hb
  | blk i k ih =>
    intro tr br x h
    obtain ⟨h1, h2, h3⟩ := ih _ h
    refine ⟨h1, fun m hm => h2 m (by simp [hm]), fun st' ht hb => ?_⟩
    simp only [RM.run]
    rw [hb i (h2 i (by simp))]
    exact h3 st' ht hb
  | test b k ih => intro tr br x h; exact ih _ h
end

theorem bind_some {α β : Type} {x : Option α} {f : α → Option β} {b : β} (h : x.bind f = some b) : ∃ a, x = some a ∧ f a = some b := Option.bind_eq_some_iff.1 h

theorem find_setBs (st : St) : ∀ (bw : BW) (id : Nat), (st.setBs bw).bk id = match BW.find bw id with | some b => some b | none => st.bk id
  | [], id => rfl
  | (j, b) :: r, id => by
    simp only [St.setBs, BW.find]
    by_cases h : j = id
    · subst h; simp [upd]
    · have : Nat.beq j id = false := by cases hb : Nat.beq j id with | false => rfl | true => exact absurd (Nat.eq_of_beq_eq_true hb) h
      rw [upd_ne _ _ (Ne.symm h), find_setBs st r id]
      simp [this]

@[simp] theorem ev_getBO (st : St) (bw : BW) (id : Nat) : (getBO bw id).ev st = some ((st.setBs bw).bk id) := by
  unfold getBO
  rw [find_setBs]
  cases BW.find bw id <;> rfl

@[simp] theorem setBs_nil (st : St) : st.setBs [] = st := rfl
@[simp] theorem setBs_tm (st : St) : ∀ bw : BW, (st.setBs bw).tm = st.tm
  | [] => rfl
  | (i, b) :: r => by simp [St.setBs, setBs_tm st r]
@[simp] theorem setBs_cons_bk (st : St) (i : Nat) (b : Blk) (r : BW) : (st.setBs ((i, b) :: r)).bk = upd (st.setBs r).bk i (some b) := rfl

/-! ### Constants -/
theorem flat_func {fn : Fn} {f c : Array Value} (h : flatV (.func fn f c) = true) : ∃ g, fn = .func g ∧ f = #[] ∧ c = #[] := by
  cases fn <;> simp [flatV] at h
  obtain ⟨h1, h2⟩ := h
  exact ⟨_, rfl, h1, h2⟩

theorem constCell_sound {v : Value} {a : AV} (h : constCell v = some a) (c : RepCtx) : AVRep c a v := by
  unfold constCell at h
  split at h
  · simp only [Option.some.injEq] at h
    subst h
    simp only [AVRep]
  · split at h
    · rename_i hf
      simp only [Option.some.injEq] at h
      subst h
      simp only [AVRep]
      exact .lit _ hf
    · simp at h

theorem mapM_const {c : RepCtx} : ∀ {vs : List Value} {as : List AV}, vs.mapM constCell = some as → AVRepL c as vs
  | [], as, h => by simp at h; subst h; simp [AVRepL]
  | v :: r, as, h => by
    simp only [List.mapM_cons, Option.bind_eq_bind] at h
    obtain ⟨a, h1, h⟩ := bind_some h
    obtain ⟨as', h2, h⟩ := bind_some h
    simp at h
    subst h
    simp only [AVRepL]
    exact ⟨v, r, rfl, constCell_sound h1 c, mapM_const h2⟩

theorem constVal_sound {v : Value} {x : AVal} (h : constVal v = some x) (c : RepCtx) : VRep c x v := by
  unfold constVal at h
  split at h
  · rename_i cs
    obtain ⟨as, h1, rfl⟩ := Option.map_eq_some_iff.1 h
    exact ⟨cs, rfl, mapM_const h1⟩
  · rename_i cs
    split at h
    · rename_i he
      simp only [Option.some.injEq] at h
      subst h
      refine ⟨cs, rfl, ?_⟩
      have : cs = #[] := by simpa using he
      subst this
      rfl
    · simp at h
  · obtain ⟨a, h1, rfl⟩ := Option.map_eq_some_iff.1 h
    show AVRepL c [a] [v]
    simp only [AVRepL]
    exact ⟨v, [], rfl, constCell_sound h1 c, rfl⟩

theorem vrep_one {c : RepCtx} {a : AV} {v : Value} : VRep c (.v false [a]) v ↔ AVRep c a v := by
  show AVRepL c [a] [v] ↔ _
  simp only [AVRepL]
  constructor
  · rintro ⟨u, us, he, h, rfl⟩; simp at he; rw [he]; exact h
  · intro h; exact ⟨v, [], rfl, h, rfl⟩

theorem vrep_lit {c : RepCtx} {u v : Value} : VRep c (litV u) v ↔ flatV u = true ∧ v = u := by
  unfold litV
  rw [vrep_one]
  simp only [AVRep]
  constructor
  · intro h; cases h with | lit _ h => exact ⟨h, rfl⟩
  · rintro ⟨h, rfl⟩; exact .lit _ h

theorem avrep_lit {c : RepCtx} {u v : Value} : AVRep c (.p (.lit u)) v ↔ flatV u = true ∧ v = u := by
  simp only [AVRep]
  constructor
  · intro h; cases h with | lit _ h => exact ⟨h, rfl⟩
  · rintro ⟨h, rfl⟩; exact .lit _ h

/-! ### What holds at the start and stays -/
structure BaseOK (B : Base) : Prop where
  n0 : ∀ b, B.N0 b → b < B.w0.heap.size ∧ ¬ B.O0 b

structure GlobOK (E : Env) (B : Base) : Prop where
  gl : ∀ g cs, E.glob g = some cs → Rep B.w0 B.N0 (.ppt cs 0) (.pointer (some ⟨g, 0, none⟩))
  md : B.md = true → E.md = true

theorem SimB.rep0 {B : Base} {bk : Nat → Option Blk} {w : World} {ι : Nat → Nat} (h : SimB B bk w ι) (hB : BaseOK B) {q : PV} {v : Value} (hr : Rep B.w0 B.N0 q v) : Rep w (nav B bk w ι) q v := by
  refine hr.mono fun b hb => ?_
  obtain ⟨h1, h2⟩ := hB.n0 b hb
  refine ⟨⟨.inl hb, Nat.lt_of_lt_of_le h1 h.keep.size, fun id x hx ho he => ?_⟩, fun hlt => h.keep.block b h1 h2⟩
  rcases h.terr id x hx ho with h3 | h3
  · rw [he] at h3; exact h2 h3
  · omega

theorem opd_sound {E : Env} {B : Base} {st : St} {w : World} {ι : Nat → Nat} {a : Act} (h : Sim B st w ι a.tmps) (hB : BaseOK B) (hg : GlobOK E B) {x : Operand} {v : AVal} (he : (opd E x).ev st = some v) :
    VRep (ctx B st.bk w ι) v (a.eval x) := by
  cases x with
  | tmp t =>
    simp only [opd, ev_getT, Option.some.injEq] at he
    subst he
    exact h.tmps t
  | const c =>
    simp only [opd, ev_ofOpt] at he
    exact constVal_sound he _
  | global g =>
    simp only [opd] at he
    split at he
    · rename_i cs hcs
      simp only [ev_ret, Option.some.injEq] at he
      subst he
      rw [vrep_one]
      simp only [AVRep]
      exact h.toSimB.rep0 hB (hg.gl g cs hcs)
    · simp at he
  | func f =>
    simp only [opd, ev_ret, Option.some.injEq] at he
    subst he
    rw [vrep_one]
    simp only [AVRep]
    exact ⟨#[], #[], rfl, by simp [AVRepL], by simp [AVRepL]⟩

theorem opds_sound {E : Env} {B : Base} {st : St} {w : World} {ι : Nat → Nat} {a : Act} (h : Sim B st w ι a.tmps) (hB : BaseOK B) (hg : GlobOK E B) : ∀ {xs : List Operand} {vs : List AVal}, (opds E xs).ev st = some vs →
    vs.length = xs.length ∧ ∀ (i : Nat) x v, xs[i]? = some x → vs[i]? = some v → VRep (ctx B st.bk w ι) v (a.eval x)
  | [], vs, he => by simp only [opds, ev_ret, Option.some.injEq] at he; subst he; simp
  | x :: r, vs, he => by
    simp only [opds, ev_bind] at he
    obtain ⟨v, h1, he⟩ := bind_some he
    obtain ⟨vs', h2, he⟩ := bind_some he
    simp only [ev_ret, Option.some.injEq] at he
    subst he
    obtain ⟨h3, h4⟩ := opds_sound h hB hg h2
    refine ⟨by simp [h3], fun i y u hi hu => ?_⟩
    cases i with
    | zero => simp at hi hu; subst hi hu; exact opd_sound h hB hg h1
    | succ i => simp at hi hu; exact h4 i y u hi hu

theorem asOne_ev {st : St} {x : AVal} {a : AV} (h : (asOne x).ev st = some a) : x = .v false [a] := by
  unfold asOne at h
  split at h
  · simp at h; subst h; rfl
  · simp at h

theorem asCells_ev {st : St} {x : AVal} {cs : List AV} (h : (asCells x).ev st = some cs) : ∃ g, x = .v g cs := by
  unfold asCells at h
  split at h
  · simp at h; subst h; exact ⟨_, rfl⟩
  · simp at h

theorem asLit_ev {st : St} {x : AVal} {u : Value} (h : (asLit x).ev st = some u) : x = litV u := by
  unfold asLit at h
  split at h
  · simp at h; subst h; rfl
  · simp at h

theorem asI_ev {st : St} {x : AVal} {k : IntKind} {n : Int} (h : (asI x).ev st = some (k, n)) : x = litV (.int k n) := by
  unfold asI at h
  split at h
  · simp at h; obtain ⟨rfl, rfl⟩ := h; rfl
  · simp at h

/-! ### Made pure -/
abbrev RepL (w : World) (N : Nat → Prop) : List PV → List Value → Prop := CellsP (Rep w N)

theorem RepL.mono {w w' : World} {N N' : Nat → Prop} (hm : ∀ b, N b → N' b ∧ (b < w.heap.size → w'.heap[b]? = w.heap[b]?)) : ∀ {qs : List PV} {vs : List Value}, RepL w N qs vs → RepL w' N' qs vs
  | [], vs, h => h
  | q :: r, vs, h => by
    obtain ⟨v, vs', rfl, h1, h2⟩ := h
    exact ⟨v, vs', rfl, h1.mono hm, RepL.mono hm h2⟩

theorem RepL.length {w : World} {N : Nat → Prop} : ∀ {qs : List PV} {vs : List Value}, RepL w N qs vs → vs.length = qs.length
  | [], vs, h => by have : vs = [] := h; subst this; rfl
  | q :: r, vs, h => by obtain ⟨v, vs', rfl, h1, h2⟩ := h; simp [RepL.length h2]

theorem RepL.get {w : World} {N : Nat → Prop} : ∀ {qs : List PV} {vs : List Value} (h : RepL w N qs vs) (i : Nat) (q : PV), qs[i]? = some q → ∃ v, vs[i]? = some v ∧ Rep w N q v
  | [], vs, h, i, q, hi => by simp at hi
  | p :: r, vs, h, i, q, hi => by
    obtain ⟨v, vs', rfl, h1, h2⟩ := h
    cases i with
    | zero => simp at hi; subst hi; exact ⟨v, by simp, h1⟩
    | succ i => simp at hi; obtain ⟨u, h3, h4⟩ := RepL.get h2 i q hi; exact ⟨u, by simpa using h3, h4⟩

theorem RepL.of_get {w : World} {N : Nat → Prop} : ∀ {qs : List PV} {vs : List Value}, vs.length = qs.length → (∀ (i : Nat) q v, qs[i]? = some q → vs[i]? = some v → Rep w N q v) → RepL w N qs vs
  | [], vs, hl, h => by simp at hl; exact hl
  | q :: r, [], hl, h => by simp at hl
  | q :: r, v :: vs, hl, h => ⟨v, vs, rfl, h 0 q v (by simp) (by simp), RepL.of_get (by simpa using hl) fun i p u h1 h2 => h (i + 1) p u (by simpa using h1) (by simpa using h2)⟩

/-- The elements of an own slice, read where it lies. -/
theorem rep_of_arr {w : World} {N : Nat → Prop} {b cap sz : Nat} {es : List (List PV)} (hb : N b) (hcap : es.length ≤ cap) (h : ArrCells w N sz es fun i => w.cell? ⟨b, i, none⟩) :
    Rep w N (.sl es) (.slice (some ⟨b, 0, none⟩) es.length cap) := by
  refine .sl es b 0 cap sz (fun i j => (w.cell? ⟨b, 0 + i * sz + j, none⟩).getD undef) hb hcap h.2.1 (fun i e j q h1 h2 => ?_) (fun i e j q h1 h2 => ?_)
  all_goals
    obtain ⟨v, h3, h4⟩ := h.2.2 i e j q h1 h2
    simp only at h3
    simp only [Nat.zero_add, h3, Option.getD_some]
  exact h4

mutual
theorem pureA_sound {B : Base} {st : St} {w : World} {ι : Nat → Nat} : ∀ (a : AV) (bw bw' : BW) (q : PV) (v : Value), SimB B (st.setBs bw).bk w ι → (pureA bw a).ev st = some (q, bw') →
    AVRep (ctx B (st.setBs bw).bk w ι) a v →
    SimB B (st.setBs bw').bk w ι ∧ Ext (ctx B (st.setBs bw).bk w ι) (ctx B (st.setBs bw').bk w ι) ∧ Rep w (nav B (st.setBs bw').bk w ι) q v
  | .p q', bw, bw', q, v, hs, he, hv => by
    simp only [pureA, ev_ret, Option.some.injEq, Prod.mk.injEq] at he
    obtain ⟨rfl, rfl⟩ := he
    simp only [AVRep] at hv
    exact ⟨hs, Ext.refl _, hv⟩
  | .tsl es, bw, bw', q, v, hs, he, hv => by
    simp only [pureA, ev_ret, Option.some.injEq, Prod.mk.injEq] at he
    obtain ⟨rfl, rfl⟩ := he
    simp only [AVRep] at hv
    exact ⟨hs, Ext.refl _, hv.1⟩
  | .nl, bw, bw', q, v, hs, he, hv => by
    simp only [pureA, ev_ret, Option.some.injEq, Prod.mk.injEq] at he
    obtain ⟨rfl, rfl⟩ := he
    simp only [AVRep] at hv
    subst hv
    exact ⟨hs, Ext.refl _, .nil _ _⟩
  | .own id ep, bw, bw', q, v, hs, he, hv => by
    simp only [pureA, ev_bind, ev_getBO, Option.bind_some] at he
    simp only [AVRep] at hv
    obtain ⟨b, hb, h1, hv⟩ := hv
    simp only [ctx] at hb
    rw [hb] at he
    cases b with
    | arr ep' ty sz fz es =>
      simp only [ev_bind, ev_chk] at he
      split at he
      · rename_i hep
        obtain rfl : ep = ep' := Nat.eq_of_beq_eq_true hep
        obtain ⟨_, hv⟩ := hv _ _ _ _ _ rfl
        obtain ⟨cap, rfl, hcap, hcell⟩ := hv rfl
        simp only [Option.bind_some] at he
        cases fz with
        | true =>
          simp only [ev_ret, Option.some.injEq, Prod.mk.injEq] at he
          obtain ⟨rfl, rfl⟩ := he
          obtain ⟨h2, h3⟩ := hs.blks _ _ hb
          exact ⟨hs, Ext.refl _, rep_of_arr h3 hcap h2⟩
        | false =>
          simp only [ev_ret, Option.some.injEq, Prod.mk.injEq] at he
          obtain ⟨rfl, rfl⟩ := he
          obtain ⟨ext, hs'⟩ := hs.freeze hb
          obtain ⟨h2, h3⟩ := hs'.blks id _ (upd_same _ _ _)
          exact ⟨hs', ext, rep_of_arr h3 hcap h2⟩
      · simp at he
    | _ => simp at he
  | .ifc t g cs, bw, bw', q, v, hs, he, hv => by
    simp only [pureA, ev_bind] at he
    obtain ⟨⟨qs, bw1⟩, h1, he⟩ := bind_some he
    simp only [ev_ret, Option.some.injEq, Prod.mk.injEq] at he
    obtain ⟨rfl, rfl⟩ := he
    simp only [AVRep] at hv
    obtain ⟨C, h2, h3⟩ := hv
    obtain ⟨h4, h5, h6⟩ := pureL_sound cs bw bw1 qs C hs h1 h2
    refine ⟨h4, h5, ?_⟩
    cases g with
    | true =>
      subst h3
      refine .ifcA t qs C.toArray (by simpa using h6.length) fun j q hj hq => ?_
      obtain ⟨u, h7, h8⟩ := h6.get j q hq
      have : C.toArray[j] = u := by
        have := List.getElem?_eq_some_iff.1 h7
        obtain ⟨_, h9⟩ := this
        simpa using h9
      rw [this]; exact h8
    | false =>
      obtain ⟨u, rfl, rfl⟩ := h3
      cases qs with
      | nil => exact absurd h6 (by simp [RepL, CellsP])
      | cons q r =>
        obtain ⟨v, vs', hvs, h7, h8⟩ := h6
        simp at hvs
        obtain ⟨rfl, rfl⟩ := hvs
        cases r with
        | nil => exact .ifcO t q _ h7
        | cons q' r' => obtain ⟨v', vs'', hvs, _⟩ := h8; simp at hvs
  | .clo fn f k, bw, bw', q, v, hs, he, hv => by
    match f, k, fn with
    | [], [], .func g =>
      simp only [pureA, ev_ret, Option.some.injEq, Prod.mk.injEq] at he
      obtain ⟨rfl, rfl⟩ := he
      simp only [AVRep, AVRepL] at hv
      obtain ⟨F, K, rfl, h1, h2⟩ := hv
      have h1 : F = #[] := by simpa using h1
      have h2 : K = #[] := by simpa using h2
      subst h1 h2
      exact ⟨hs, Ext.refl _, .lit _ rfl⟩
    | [], [], .method _ => simp [pureA] at he
    | [], [], .methodOf _ _ => simp [pureA] at he
    | [], [], .via _ _ _ _ => simp [pureA] at he
    | [], [], .yield _ => simp [pureA] at he
    | _ :: _, _, _ => simp [pureA] at he
    | [], _ :: _, _ => simp [pureA] at he
  | .ptr id ep i off, bw, bw', q, v, hs, he, hv => by simp [pureA] at he
  | .mp id, bw, bw', q, v, hs, he, hv => by simp [pureA] at he
  | .fresh _ _ _, bw, bw', q, v, hs, he, hv => by simp [pureA] at he
  | .dead, bw, bw', q, v, hs, he, hv => by simp [pureA] at he
theorem pureL_sound {B : Base} {st : St} {w : World} {ι : Nat → Nat} : ∀ (as : List AV) (bw bw' : BW) (qs : List PV) (vs : List Value), SimB B (st.setBs bw).bk w ι → (pureL bw as).ev st = some (qs, bw') →
    AVRepL (ctx B (st.setBs bw).bk w ι) as vs →
    SimB B (st.setBs bw').bk w ι ∧ Ext (ctx B (st.setBs bw).bk w ι) (ctx B (st.setBs bw').bk w ι) ∧ RepL w (nav B (st.setBs bw').bk w ι) qs vs
  | [], bw, bw', qs, vs, hs, he, hv => by
    simp only [pureL, ev_ret, Option.some.injEq, Prod.mk.injEq] at he
    obtain ⟨rfl, rfl⟩ := he
    simp only [AVRepL] at hv
    exact ⟨hs, Ext.refl _, hv⟩
  | a :: r, bw, bw', qs, vs, hs, he, hv => by
    simp only [pureL, ev_bind] at he
    obtain ⟨⟨q, bw1⟩, h1, he⟩ := bind_some he
    obtain ⟨⟨qs', bw2⟩, h2, he⟩ := bind_some he
    simp only [ev_ret, Option.some.injEq, Prod.mk.injEq] at he
    obtain ⟨rfl, rfl⟩ := he
    simp only [AVRepL] at hv
    obtain ⟨v, vs', rfl, h3, h4⟩ := hv
    obtain ⟨s1, e1, r1⟩ := pureA_sound a bw bw1 q v hs h1 h3
    obtain ⟨s2, e2, r2⟩ := pureL_sound r bw1 bw2 qs' vs' s1 h2 (AVRepL.ext e1 _ _ h4)
    exact ⟨s2, e1.trans e2 (Nat.le_refl _), ⟨v, vs', rfl, r1.mono e2.rep, r2⟩⟩
end

end Go.Proofs.YtggofahhehkbbaaGreatDoor.Ev
