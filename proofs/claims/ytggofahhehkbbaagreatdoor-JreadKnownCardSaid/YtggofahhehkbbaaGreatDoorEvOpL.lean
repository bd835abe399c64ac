/- Every operation but a call: sound. -/
import Derived.Test.YtggofahhehkbbaaGreatDoorEvOpK
namespace Go.Proofs.YtggofahhehkbbaaGreatDoor.Ev
set_option autoImplicit false
set_option linter.unusedVariables false
set_option linter.unusedSimpArgs false

section
variable {P : Program} {B : Base} {st : St} {w : World} {ι : Nat → Nat} {a : Act} {o : Oper}

theorem SimB.grow {bk : Nat → Option Blk} (h : SimB B bk w ι) (ob : Obj) : Ext (ctx B bk w ι) (ctx B bk (w.alloc ob) ι) ∧ SimB B bk (w.alloc ob) ι := by
  have hold : ∀ b, b < w.heap.size → (w.alloc ob).heap[b]? = w.heap[b]? := fun b hb => by
    show (w.heap.push ob)[b]? = _
    rw [Array.getElem?_push_lt hb, Array.getElem?_eq_getElem hb]
  have hsz : (w.alloc ob).heap.size = w.heap.size + 1 := by
    show (w.heap.push ob).size = _
    simp
  have hown : ∀ id x, bk id = some x → x.owned = true → (w.alloc ob).heap[ι id]? = w.heap[ι id]? := fun id x hx ho => hold _ (h.lt hx ho)
  have ext : Ext (ctx B bk w ι) (ctx B bk (w.alloc ob) ι) := by
    refine ⟨fun b hb => ⟨⟨hb.1, ?_, hb.2.2⟩, fun hl => hold b hl⟩, fun id x hx => ⟨x, hx, Compat.refl rfl fun ho => hown id x hx ho⟩⟩
    show b < (w.alloc ob).heap.size
    rw [hsz]
    have := hb.2.1
    omega
  refine ⟨ext, h.step ext (h.keep.step rfl rfl rfl (by rw [hsz]; omega) (fun b hb => .inl (hold b hb)) fun _ => Nat.le_refl _) h.terr h.inj fun id x hx => .inl ⟨hx, rfl, fun ho => hown id x hx ho⟩⟩

theorem OpRes.ofVal (h : Sim B st w ι a.tmps) {x : AVal} {bw : BW} {s : Sem Value} (hx : execOp a.eval o = (do pure (.value (← s))))
    (hr : ∃ u w' ι', s.run P w = .ok u w' ∧ Ext (ctx B st.bk w ι) (ctx B (st.setBs bw).bk w' ι') ∧ SimB B (st.setBs bw).bk w' ι' ∧ VRep (ctx B (st.setBs bw).bk w' ι') x u) : OpRes P B st w ι a o (.val x bw) := by
  obtain ⟨u, w', ι', h1, h2, h3, h4⟩ := hr
  refine ⟨u, w', ι', by rw [hx]; simp [h1], h2, ?_, h4⟩
  have := h.step h2 h3
  exact ⟨this.toSimB, fun t => by rw [setBs_tm]; exact this.tmps t⟩

theorem OpRes.ofSkip (h : Sim B st w ι a.tmps) {bw : BW} {s : Sem Unit} (hx : execOp a.eval o = (do s; pure .skip))
    (hr : ∃ w' ι', s.run P w = .ok () w' ∧ Ext (ctx B st.bk w ι) (ctx B (st.setBs bw).bk w' ι') ∧ SimB B (st.setBs bw).bk w' ι') : OpRes P B st w ι a o (.skip bw) := by
  obtain ⟨w', ι', h1, h2, h3⟩ := hr
  refine ⟨w', ι', by rw [hx]; simp [h1], h2, ?_⟩
  have := h.step h2 h3
  exact ⟨this.toSimB, fun t => by rw [setBs_tm]; exact this.tmps t⟩

def isCall (o : Oper) : Bool := match o.op with
  | .call c => match c.callee with | .value _ => true | _ => false
  | _ => false

theorem val_ev {m : RM AVal} {out : OpOut} (h : (val m).ev st = some out) : ∃ x, m.ev st = some x ∧ out = .val x [] := by
  simp only [val, ev_bind] at h
  obtain ⟨x, h1, h⟩ := bind_some h
  simp only [ev_ret, Option.some.injEq] at h
  exact ⟨x, h1, h.symm⟩

theorem valW_ev {m : RM (AVal × BW)} {out : OpOut} (h : (valW m).ev st = some out) : ∃ x bw, m.ev st = some (x, bw) ∧ out = .val x bw := by
  simp only [valW, ev_bind] at h
  obtain ⟨⟨x, bw⟩, h1, h⟩ := bind_some h
  simp only [ev_ret, Option.some.injEq] at h
  exact ⟨x, bw, h1, h.symm⟩

theorem same_val {s : Sem Value} {x : AVal} {u : Value} (h1 : s.run P w = .ok u w) (h2 : VRep (ctx B st.bk w ι) x u) (hs : SimB B st.bk w ι) :
    ∃ u w' ι', s.run P w = .ok u w' ∧ Ext (ctx B st.bk w ι) (ctx B (st.setBs []).bk w' ι') ∧ SimB B (st.setBs []).bk w' ι' ∧ VRep (ctx B (st.setBs []).bk w' ι') x u :=
  ⟨u, w, ι, h1, Ext.refl _, hs, h2⟩

theorem allOnes_ev : ∀ {vs : List AVal} {as : List AV}, (allOnes vs).ev st = some as → ∀ us : List Value, us.length = vs.length → (∀ (i : Nat) v u, vs[i]? = some v → us[i]? = some u → VRep (ctx B st.bk w ι) v u) → AVRepL (ctx B st.bk w ι) as us
  | [], as, he, us, hl, h => by
    simp only [allOnes, ev_ret, Option.some.injEq] at he
    subst he
    simp only [AVRepL]
    exact List.length_eq_zero_iff.1 hl
  | .v false [x] :: r, as, he, us, hl, h => by
    simp only [allOnes, ev_bind] at he
    obtain ⟨as', h1, he⟩ := bind_some he
    simp only [ev_ret, Option.some.injEq] at he
    subst he
    cases us with
    | nil => simp at hl
    | cons u us =>
      simp only [AVRepL]
      refine ⟨u, us, rfl, ?_, allOnes_ev h1 us (by simpa using hl) fun i v u' hv hu => h (i + 1) v u' (by simpa using hv) (by simpa using hu)⟩
      have := h 0 _ u rfl rfl
      rwa [vrep_one] at this
  | .v true _ :: _, as, he, us, hl, h => by simp [allOnes] at he
  | .v false [] :: _, as, he, us, hl, h => by simp [allOnes] at he
  | .v false (_ :: _ :: _) :: _, as, he, us, hl, h => by simp [allOnes] at he
  | .tup _ :: _, as, he, us, hl, h => by simp [allOnes] at he
  | .undef :: _, as, he, us, hl, h => by simp [allOnes] at he

theorem optI_sound {E : Env} (h : Sim B st w ι a.tmps) (hB : BaseOK B) (hg : GlobOK E B) {x : Option Operand} {r : Option Int} (he : (optI E x).ev st = some r) : optV r (x.map a.eval) := by
  cases x with
  | none =>
    simp only [optI, ev_ret, Option.some.injEq] at he
    subst he
    rfl
  | some x =>
    simp only [optI, ev_bind] at he
    obtain ⟨v, h1, he⟩ := bind_some he
    obtain ⟨⟨k, n⟩, h2, he⟩ := bind_some he
    simp only [ev_ret, Option.some.injEq] at he
    subst he
    obtain rfl := asI_ev h2
    obtain ⟨_, h3⟩ := vrep_lit.1 (opd_sound h hB hg h1)
    exact ⟨k, by simp [h3]⟩

theorem minM_sound {c : RepCtx} {xs : List AVal} {r : AVal} {us : List Value} {ts : Array TypeId} {ty : TypeId} (he : (minM xs).ev st = some r) (hl : us.length = xs.length) (h : ∀ (i : Nat) v u, xs[i]? = some v → us[i]? = some u → VRep c v u) :
    ∃ u, (Builtin.min_ ts ty us.toArray).run P w = .ok u w ∧ VRep c r u := by
  unfold minM at he
  split at he
  · rename_i k x k' y
    simp only [ev_bind] at he
    obtain ⟨_, h1, he⟩ := bind_some he
    simp only [ev_ret, Option.some.injEq] at he
    subst he
    match us, hl with
    | [u, v], _ =>
      have hu := h 0 _ u rfl rfl
      have hv := h 1 _ v rfl rfl
      rw [show AVal.v false [.p (.lit (.int k x))] = litV (.int k x) from rfl, vrep_lit] at hu
      rw [show AVal.v false [.p (.lit (.int k' y))] = litV (.int k' y) from rfl, vrep_lit] at hv
      obtain ⟨_, rfl⟩ := hu
      obtain ⟨_, rfl⟩ := hv
      exact ⟨.int k (if y < x then y else x), by simp [Builtin.min_, Builtin.min2], by rw [vrep_lit]; exact ⟨rfl, rfl⟩⟩
  · simp at he

theorem maxM_sound {c : RepCtx} {xs : List AVal} {r : AVal} {us : List Value} {ts : Array TypeId} {ty : TypeId} (he : (maxM xs).ev st = some r) (hl : us.length = xs.length) (h : ∀ (i : Nat) v u, xs[i]? = some v → us[i]? = some u → VRep c v u) :
    ∃ u, (Builtin.max_ ts ty us.toArray).run P w = .ok u w ∧ VRep c r u := by
  unfold maxM at he
  split at he
  · rename_i k x k' y
    simp only [ev_bind] at he
    obtain ⟨_, h1, he⟩ := bind_some he
    simp only [ev_ret, Option.some.injEq] at he
    subst he
    match us, hl with
    | [u, v], _ =>
      have hu := h 0 _ u rfl rfl
      have hv := h 1 _ v rfl rfl
      rw [show AVal.v false [.p (.lit (.int k x))] = litV (.int k x) from rfl, vrep_lit] at hu
      rw [show AVal.v false [.p (.lit (.int k' y))] = litV (.int k' y) from rfl, vrep_lit] at hv
      obtain ⟨_, rfl⟩ := hu
      obtain ⟨_, rfl⟩ := hv
      exact ⟨.int k (if x < y then y else x), by simp [Builtin.max_, Builtin.max2], by rw [vrep_lit]; exact ⟨rfl, rfl⟩⟩
  · simp at he

theorem run_buildSlice {t e : TypeId} {len sz : Nat} (hd : P.underlying t = some (.slice e)) (hsz : tySize P e = some (sz + 1)) {i : TypeInfo} {z : Value} (h1 : P.info? e = some i) (h2 : i.zero = some z) (hl : len * (sz + 1) ≤ 16777216) {parts : Array (Nat × Value)} {C : Array Value}
    (hf : Instr.fill (fun i => some (i * (sz + 1), sz + 1)) ((Array.range (len * (sz + 1))).map (z.cells[· % z.cells.size]!)) parts.toList = some C) :
    (Instr.buildSlice t len parts).run P w = .ok (.slice (some ⟨w.heap.size, 0, none⟩) len len) (w.alloc (.cells C e)) := by
  have hl' : ¬ (len * (sz + 1) > 2 ^ 24) := by
    have : (2 : Nat) ^ 24 = 16777216 := by decide
    omega
  unfold Instr.buildSlice
  simp only [Sem.run_bind, run_under hd, Result.andThen_ok, run_sizeOf hsz, if_neg hl']
  by_cases hz : len * (sz + 1) = 0
  · have hl0 : len = 0 := by
      rcases Nat.mul_eq_zero.1 hz with h | h
      · exact h
      · omega
    subst hl0
    simp only [Nat.zero_mul, Array.range_zero'] at hf ⊢
    simp at hf
    simp [hf, newRow]
  · simp only [if_neg hz, Sem.run_bind, run_zeroValue h1 h2, Result.andThen_ok, Sem.run_pure, hf]
    simp [newRow]

end

end Go.Proofs.YtggofahhehkbbaaGreatDoor.Ev
