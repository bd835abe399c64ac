/- The prims are sound: contracts of Go's library met by the evaluator. -/
import Derived.Test.YtggofahhehkbbaaGreatDoorEvBuild
import Derived.Test.YtggofahhehkbbaaGreatDoorEvSort
import Derived.Shelf.Strings.Replace
import Derived.KernelRfl
namespace Go.Proofs.YtggofahhehkbbaaGreatDoor.Ev
open Go.Shelf Go.RowKit
set_option autoImplicit false
set_option linter.unusedVariables false
set_option linter.unusedSimpArgs false

/-- All functions' shapes, asked of the whole table at once. -/
def shapeOK (fn : Func) : Bool := match fn.body with
  | some c => !(fn.name == "runtime.NumGoroutine") && dstCode (fun t => Nat.blt t fn.ntmps) c
  | none => true
theorem progOK_of {P : Program} (h : P.funcs.toList.all shapeOK = true) : progOK P := by
  intro f fn c hf hb
  have hm : fn ∈ P.funcs.toList := by
    have := Array.mem_of_getElem? hf
    simpa using this
  have := List.all_eq_true.1 h fn hm
  unfold shapeOK at this
  rw [hb] at this
  simpa using this

theorem body_of {fn : Func} (h : fn.body.isSome = true) : fn.body = some (fn.body.get h) := (Option.some_get h).symm

/-- What is sound in one surrounding is so in another of the same program and the same variables. -/
theorem FnSound.env {E E' : Env} (hP : E'.P = E.P) (hgl : ∀ g cs, E'.glob g = some cs → E.glob g = some cs) (hmd : E.md = true → E'.md = true) {f : Nat} {args : Args} {bxs : Boxes} {out : Out} {bxs' : Boxes} (h : FnSound E' f args bxs out bxs') : FnSound E f args bxs out bxs' := by
  intro B β o us hbd hO hB hg
  rw [← hP]
  exact h B β o us hbd hO hB ⟨fun g cs hgg => hg.gl g cs (hgl g cs hgg), fun hm => hmd (hg.md hm)⟩

theorem hsound_none {E : Env} (hip : E.inpl = fun _ => none) : HSound E fun _ _ _ => none :=
  ⟨fun f args bxs out bxs' h => by simp at h, fun g p h => by rw [hip] at h; simp at h⟩

theorem ivals_cons {d : Bd} {g : Bool} {cs : List AV} {r : Args} {us : List Value} {o : List Nat} (h : IVals d ((g, cs) :: r) us o) : ∃ v vs o1 o2, us = v :: vs ∧ o = o1 ++ o2 ∧ IVal d g cs v o1 ∧ IVals d r vs o2 := h
theorem ival_p {d : Bd} {q : PV} {v : Value} {o : List Nat} (h : IVal d false [.p q] v o) : o = [] ∧ Rep d.w d.N q v := by
  obtain ⟨v', vs', o3, o4, h1, rfl, h3, h4⟩ := h
  simp only [List.cons.injEq] at h1
  obtain ⟨rfl, rfl⟩ := h1
  simp only [IRepL] at h4
  obtain ⟨_, rfl⟩ := h4
  simp only [IRep] at h3
  exact ⟨by simp [h3.1], h3.2⟩
theorem ival_p_mk {d : Bd} {q : PV} {v : Value} (h : Rep d.w d.N q v) : IVal d false [.p q] v [] :=
  ⟨v, [], [], [], rfl, rfl, by simp only [IRep]; exact ⟨trivial, h⟩, rfl, rfl⟩
theorem ivals_one {d : Bd} {q : PV} {v : Value} (h : Rep d.w d.N q v) : IVals d [(false, [.p q])] [v] [] := ⟨v, [], [], [], rfl, rfl, ival_p_mk h, rfl, rfl⟩
theorem rep_lit {w : World} {N : Nat → Prop} {v u : Value} (h : Rep w N (.lit v) u) : u = v := by cases h; rfl

/-- A listed variable's first cell. -/
theorem glob_cell {E : Env} {B : Base} (hg : GlobOK E B) {g : Nat} {v : Value} {cs : List PV} (h : E.glob g = some (.lit v :: cs)) : B.w0.cell? ⟨g, 0, none⟩ = some v := by
  have := hg.gl g _ h
  generalize hp : Value.pointer (some ⟨g, 0, none⟩) = u at this
  cases this with
  | ppt cs off b o V hb hc hr =>
    simp only [Value.pointer.injEq, Option.some.injEq, Addr.mk.injEq] at hp
    obtain ⟨rfl, h2, _⟩ := hp
    have h3 := hc 0 _ rfl
    have h4 := rep_lit (hr 0 _ rfl)
    have : o = 0 := by omega
    subst this
    rw [← h4]
    exact h3

section
variable {P : Program} {ρ : Ren} {E : Env}

theorem compare_sound (L : Lays.n106 P ρ) (hE : E.P = P) {fc : Nat} (hρ : ρ.f 106 = fc) {fn : Func} {c : Code} (hf : P.funcs[fc]? = some fn) (hb : fn.body = some c) (hn : (fn.name == "runtime.NumGoroutine") = false)
    {args : Args} {bxs : Boxes} {out : Out} {bxs' : Boxes} (he : primCompare args bxs = some (out, bxs')) : FnSound E fc args bxs out bxs' := by
  unfold primCompare at he
  split at he
  case h_2 => simp at he
  case h_1 x y =>
    simp only [Option.some.injEq, Prod.mk.injEq] at he
    obtain ⟨rfl, rfl⟩ := he
    refine fnSound_pure (by rw [hE]; exact hf) hb hn fun B us o d hdw hdN hd0 hv hB hg => ?_
    obtain ⟨v0, vs0, o1, o2, rfl, rfl, h0, hv⟩ := ivals_cons hv
    obtain ⟨v1, vs1, o3, o4, rfl, rfl, h1, hv⟩ := ivals_cons hv
    obtain ⟨rfl, rfl⟩ := hv
    obtain ⟨rfl, k0⟩ := ival_p h0
    obtain ⟨rfl, k1⟩ := ival_p h1
    obtain rfl := rep_lit k0
    obtain rfl := rep_lit k1
    have := Any.strings_Compare L x y B.w0
    rw [hρ, ← hE] at this
    refine this.mono fun e w' ⟨he, hw⟩ => ?_
    subst hw
    exact ⟨[_], he, Below.refl _ _, fun _ => Nat.le_refl _, fun d' _ _ => ivals_one (.lit _ rfl)⟩

theorem replaceAll_sound (L : Lays.n155 P ρ) (X : Builder.Extra P ρ) (hE : E.P = P) (hmd : E.md = false) {fc : Nat} (hρ : ρ.f 155 = fc) {m : Int} (hm : E.glob (ρ.g 1) = some [.lit (.int .i64 m)])
    {fn : Func} {c : Code} (hf : P.funcs[fc]? = some fn) (hb : fn.body = some c) (hn : (fn.name == "runtime.NumGoroutine") = false)
    {args : Args} {bxs : Boxes} {out : Out} {bxs' : Boxes} (he : primReplaceAll args bxs = some (out, bxs')) : FnSound E fc args bxs out bxs' := by
  unfold primReplaceAll at he
  split at he
  case h_2 => simp at he
  case h_1 x y z =>
    rw [cond_eq_ite] at he
    split at he
    case isFalse => simp at he
    case isTrue hc =>
      simp only [Option.some.injEq, Prod.mk.injEq] at he
      obtain ⟨rfl, rfl⟩ := he
      simp only [Bool.and_eq_true, Nat.ble_eq] at hc
      obtain ⟨⟨hc1, hc2⟩, hc3⟩ := hc
      refine fnSound_pure (by rw [hE]; exact hf) hb hn fun B us o d hdw hdN hd0 hv hB hg => ?_
      obtain ⟨v0, vs0, o1, o2, rfl, rfl, h0, hv⟩ := ivals_cons hv
      obtain ⟨v1, vs1, o3, o4, rfl, rfl, h1, hv⟩ := ivals_cons hv
      obtain ⟨v2, vs2, o5, o6, rfl, rfl, h2, hv⟩ := ivals_cons hv
      obtain ⟨rfl, rfl⟩ := hv
      obtain ⟨rfl, k0⟩ := ival_p h0
      obtain ⟨rfl, k1⟩ := ival_p h1
      obtain ⟨rfl, k2⟩ := ival_p h2
      obtain rfl := rep_lit k0
      obtain rfl := rep_lit k1
      obtain rfl := rep_lit k2
      have sz : ∀ s : ByteArray, s.size = (lst s).length := fun s => rfl
      have hcb := Lib.countB_le y (by rw [sz]; exact hc1) x.size x (Nat.le_refl _)
      have := Any.strings_ReplaceAll L X x y z m B.w0 (by rw [sz]; omega) (glob_cell hg hm) (by rw [sz]; exact hc1) (by
        have h3 : Lib.countB x y * z.size ≤ 1000000 * 1000000 := Nat.mul_le_mul (by rw [sz] at hcb; omega) (by rw [sz]; exact hc3)
        have h4 : x.size ≤ 1000000 := by rw [sz]; exact hc2
        omega)
      rw [hρ, ← hE] at this
      refine this.mono fun e w' ⟨he, hw⟩ => ?_
      exact ⟨[_], he, hw, fun h => by have := hg.md h; rw [hmd] at this; simp at this, fun d' _ _ => ivals_one (.lit _ rfl)⟩

theorem primCopyCheck_sound (L : Lays.n240 P ρ) (X : Builder.X72 P ρ) (hE : E.P = P) {fc : Nat} (hρ : ρ.f 240 = fc) {ty : Nat} (hty : ρ.t 72 = ty)
    {fn : Func} {c : Code} (hf : P.funcs[fc]? = some fn) (hb : fn.body = some c) (hn : (fn.name == "runtime.NumGoroutine") = false)
    {args : Args} {bxs : Boxes} {out : Out} {bxs' : Boxes} (he : primCopyCheck ty args bxs = some (out, bxs')) : FnSound E fc args bxs out bxs' := by
  unfold primCopyCheck at he
  split at he
  case h_3 => simp at he
  all_goals
    rw [cond_eq_ite] at he
    split at he
    case isFalse => simp at he
    case isTrue hc =>
      obtain rfl := Nat.eq_of_beq_eq_true hc
      simp only [Option.some.injEq, Prod.mk.injEq] at he
      obtain ⟨rfl, rfl⟩ := he
      exact copyCheck_sound L X hE hρ hty hf hb hn (by simp)

theorem primBString_sound (L : Lays.n169 P ρ) (X : Builder.Extra P ρ) (hE : E.P = P) {fc : Nat} (hρ : ρ.f 169 = fc) {ty5 : Nat} (hty : ρ.t 5 = ty5)
    {fn : Func} {c : Code} (hf : P.funcs[fc]? = some fn) (hb : fn.body = some c) (hn : (fn.name == "runtime.NumGoroutine") = false)
    {args : Args} {bxs : Boxes} {out : Out} {bxs' : Boxes} (he : primBString ty5 args bxs = some (out, bxs')) : FnSound E fc args bxs out bxs' := by
  unfold primBString at he
  split at he
  case h_4 => simp at he
  case h_1 t ty sz e es =>
    rw [cond_eq_ite] at he
    split at he
    case isFalse => simp at he
    case isTrue hc =>
      simp only [Bool.and_eq_true] at hc
      obtain rfl := Nat.eq_of_beq_eq_true hc.1
      simp only [Option.some.injEq, Prod.mk.injEq] at he
      obtain ⟨rfl, rfl⟩ := he
      exact bstring_fresh_sound L X hE hρ hty hf hb hn rfl hc.2 (by simp)
  all_goals
    simp only [Option.some.injEq, Prod.mk.injEq] at he
    obtain ⟨rfl, rfl⟩ := he
    exact bstring_nl_sound L X hE hρ hf hb hn (by simp)

/-- slices.Clone: the walk at no element, else the text's own run. -/
theorem primClone_sound {E0 : Env} (hmix : E0.P.follows .mixedOrders = true) (hok : progOK E0.P) (hP : E0.P = E.P) (hgl : ∀ g cs, E0.glob g = some cs → E.glob g = some cs) (hmd : E.md = true → E0.md = true) (hip : E0.inpl = fun _ => none) {fc fuel : Nat} {fn : Func} {c : Code} (hf : E.P.funcs[fc]? = some fn) (hb : fn.body = some c) (hn : (fn.name == "runtime.NumGoroutine") = false)
    (hwalk : ∀ (w : World) (a : Option Addr) (cap : Nat), Calls E.P fc #[.slice a 0 cap] w fun e w' => (∃ a' c', e = .returned (.slice a' 0 c')) ∧ ∃ n os, w' = Sort.grow (w.drewN n) os)
    {args : Args} {bxs : Boxes} {out : Out} {bxs' : Boxes} (he : primClone (evBody E0 (fun _ _ _ => none) fuel fc) args bxs = some (out, bxs')) : FnSound E fc args bxs out bxs' := by
  unfold primClone at he
  split at he
  case h_1 =>
    simp only [Option.some.injEq, Prod.mk.injEq] at he
    obtain ⟨rfl, rfl⟩ := he
    refine fnSound_pure hf hb hn fun B us o d hdw hdN hd0 hv hB hg => ?_
    obtain ⟨v0, vs0, o1, o2, rfl, rfl, h0, hv⟩ := ivals_cons hv
    obtain ⟨rfl, rfl⟩ := hv
    obtain ⟨rfl, k0⟩ := ival_p h0
    have hsl : ∃ ad cap, v0 = .slice ad 0 cap := by
      cases k0 with
      | nil a cap => exact ⟨a, cap, rfl⟩
      | sl es b o cap sz V hb hcap hsz hc hr => exact ⟨_, _, rfl⟩
    obtain ⟨ad, cap, rfl⟩ := hsl
    refine (hwalk B.w0 ad cap).mono fun e w' ⟨he, hw⟩ => ?_
    obtain ⟨a', c', rfl⟩ := he
    obtain ⟨n, os, rfl⟩ := hw
    refine ⟨[_], rfl, ⟨rfl, rfl, rfl, ?_, fun k hk => ?_⟩, fun _ => Nat.le_add_right _ _, fun d' _ _ => ivals_one (.nil _ _)⟩
    · rw [Sort.size_grow]; exact Nat.le_add_right _ _
    · exact Sort.heap_grow_old _ _ hk
  case h_2 =>
    exact FnSound.env hP hgl hmd (evBody_sound hmix hok (hsound_none hip) he)
end
end Go.Proofs.YtggofahhehkbbaaGreatDoor.Ev
