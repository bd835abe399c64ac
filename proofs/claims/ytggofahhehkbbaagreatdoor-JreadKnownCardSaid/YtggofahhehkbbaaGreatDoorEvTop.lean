/- From the evaluator's answer to a call's contract. -/
import Derived.Test.YtggofahhehkbbaaGreatDoorEvFnT
import Derived.Below
namespace Go.Proofs.YtggofahhehkbbaaGreatDoor.Ev
set_option autoImplicit false
set_option linter.unusedVariables false
set_option linter.unusedSimpArgs false

theorem callOp_calls {P : Program} {f : Nat} {fn : Func} {c : Code} {args : Array Value} {w : World} {R : Ending → World → Prop} (hf : P.funcs[f]? = some fn) (hb : fn.body = some c) (hn : (fn.name == "runtime.NumGoroutine") = false) (h : CallOp P f args w R) : Calls P f args w R := by
  have hne : ¬ fn.name = "runtime.NumGoroutine" := beq_eq_false_iff_ne.1 hn
  have hcall : (callFunc f args).run P w = .ok (.enter f args) w := by
    simp [callFunc, program, Sem.run, hf, hne, hb]
  unfold CallOp at h
  rw [hcall] at h
  exact h

/-- A call with pure arguments that answers true: whatever the arguments stand for. -/
theorem says_true {E : Env} {h : Handler} (hh : HSound E h) {f : Nat} {fn : Func} {c : Code} (hf : E.P.funcs[f]? = some fn) (hb : fn.body = some c) (hn : (fn.name == "runtime.NumGoroutine") = false) {args : Args}
    (he : h f args [] = some (.ret [(false, [.p (.lit (.bool true))])], [])) {W : World} {N : Nat → Prop} (hN : ∀ b, N b → b < W.heap.size) {us : List Value}
    (ha : IVals (mkBd W N [] fun _ => 0) args us []) (hg : ∀ g cs, E.glob g = some cs → Rep W N (.ppt cs 0) (.pointer (some ⟨g, 0, none⟩))) :
    Calls E.P f us.toArray W fun e w' => e = .returned (.bool true) ∧ Go.RowKit.Below W.heap.size W w' := by
  have hs := hh.fn _ _ _ _ _ he
  let B : Base := ⟨N, fun _ => False, W, false⟩
  have hbd : Border B.w0 B.N0 [] args us (fun _ => 0) [] := ⟨⟨[], [], rfl, ha, rfl⟩, by simp [bdBlocks], fun b hb => by simp [bdBlocks] at hb, fun b hb => by simp [bdBlocks] at hb⟩
  have hc := hs B (fun _ => 0) [] us hbd (fun b => by simp [B, bdBlocks]) ⟨fun b hb => ⟨hN b hb, fun h => h⟩⟩ ⟨hg, fun h => by simp [B] at h⟩
  refine (callOp_calls hf hb hn hc).mono fun e w' hl => ?_
  obtain ⟨hk, _, β', o, us', _, hbd', _, hout⟩ := hl
  obtain ⟨o1, o2, rfl, hv, _⟩ := hbd'.vals
  obtain ⟨v, vs', o3, o4, rfl, _, hv1, hv2⟩ := hv
  have h0 : vs' = [] := hv2.1
  subst h0
  have hvv : v = .bool true := by
    obtain ⟨v', vs2, o5, o6, h1, h2, h3, h4⟩ := hv1
    simp only [List.cons.injEq] at h1
    obtain ⟨rfl, rfl⟩ := h1
    simp only [IRep] at h3
    cases h3.2
    rfl
  subst hvv
  exact ⟨hout, hk.os, hk.tape, hk.output, hk.size, fun k hlt => hk.block k hlt fun h => h⟩

/-- A callee met by a contract: pure arguments, one pure result, nothing handed over. -/
theorem fnSound_pure {E : Env} {f : Nat} {fn : Func} {c : Code} (hf : E.P.funcs[f]? = some fn) (hb : fn.body = some c) (hn : (fn.name == "runtime.NumGoroutine") = false) {args : Args} {rs : Args}
    (h : ∀ (B : Base) (us : List Value) (o : List Nat) (d : Bd), d.w = B.w0 → d.N = B.N0 → d.nb = 0 → IVals d args us o → BaseOK B → GlobOK E B →
      Calls E.P f us.toArray B.w0 fun e w' => ∃ vs, e = .returned (retVal vs) ∧ Go.RowKit.Below B.w0.heap.size B.w0 w' ∧ (B.md = true → B.w0.drawn ≤ w'.drawn) ∧ ∀ d' : Bd, d'.w = w' → (∀ b, B.N0 b ∨ (B.w0.heap.size ≤ b ∧ b < w'.heap.size) → d'.N b) → IVals d' rs vs []) :
    FnSound E f args [] (.ret rs) [] := by
  intro B β o us hbd hO hB hg
  obtain ⟨o1, o2, rfl, hv, _⟩ := hbd.vals
  have hc := h B us o1 (mkBd B.w0 B.N0 [] β) rfl rfl rfl hv hB hg
  have hne : ¬ fn.name = "runtime.NumGoroutine" := beq_eq_false_iff_ne.1 hn
  have hcall : (callFunc f us.toArray).run E.P B.w0 = .ok (.enter f us.toArray) B.w0 := by
    simp [callFunc, program, Sem.run, hf, hne, hb]
  unfold CallOp
  rw [hcall]
  simp only
  refine hc.mono fun e w' hr => ?_
  obtain ⟨vs, rfl, hbl, hdr, hvs⟩ := hr
  refine ⟨⟨hbl.os, hbl.tape, hbl.output, hbl.size, fun b hlt _ => hbl.block b hlt, hdr⟩, Nat.le_refl _, β, [], vs, fun k hk => by simp at hk, ⟨⟨[], [], rfl, ?_, rfl⟩, by simp [bdBlocks], fun b hb => by simp [bdBlocks] at hb, fun b hb => by simp [bdBlocks] at hb⟩, fun b hb => by simp [bdBlocks] at hb, rfl⟩
  refine hvs _ rfl fun b hb => ?_
  refine ⟨?_, ?_, by simp [bdBlocks]⟩
  · rcases hb with h | h
    · exact .inl h
    · exact .inr (.inr h.1)
  · rcases hb with h | h
    · exact Nat.lt_of_lt_of_le (hB.n0 b h).1 hbl.size
    · exact h.2

end Go.Proofs.YtggofahhehkbbaaGreatDoor.Ev
