/- strings.Builder: copyCheck and String, at a builder that is a block of its own. -/
import Derived.Test.YtggofahhehkbbaaGreatDoorEvTop
import Derived.Test.YtggofahhehkbbaaGreatDoorEvPrim
import Derived.Shelf.Strings.Builder1
import Derived.Sort.Row
namespace Go.Proofs.YtggofahhehkbbaaGreatDoor.Ev
open Go.Shelf Go.RowKit
set_option autoImplicit false
set_option linter.unusedVariables false
set_option linter.unusedSimpArgs false

/-! ### What stands at a border, in another world -/
structure Mv (d d' : Bd) : Prop where
  β : d'.β = d.β
  kd : d'.kd = d.kd
  nb : d'.nb = d.nb
  N : ∀ b, d.N b → d'.N b ∧ (b < d.w.heap.size → d'.w.heap[b]? = d.w.heap[b]?)

mutual
theorem IRep.move {d d' : Bd} (hm : Mv d d') : ∀ (a : AV) (v : Value) (o : List Nat), (∀ b, b ∈ o → d'.w.heap[b]? = d.w.heap[b]?) → IRep d a v o → IRep d' a v o
  | .p q, v, o, _, h => by simp only [IRep] at h ⊢; exact ⟨h.1, h.2.mono hm.N⟩
  | .tsl es, v, o, _, h => by simp only [IRep] at h ⊢; exact ⟨h.1, h.2.1.mono hm.N, h.2.2⟩
  | .nl, v, o, _, h => by simp only [IRep] at h ⊢; exact h
  | .fresh ty sz es, v, o, ho, h => by
    simp only [IRep] at h ⊢
    obtain ⟨b, cap, C, f, rfl, h2, h3, h4, h5, h6, h7, h8⟩ := h
    exact ⟨b, cap, C, f, rfl, h2, h3, h4, by rw [ho b List.mem_cons_self]; exact h5, h6, h7, h8.mono hm.N fun _ _ _ _ _ _ _ h => h⟩
  | .ptr k ep i off, v, o, _, h => by simp only [IRep] at h ⊢; rw [hm.β, hm.kd, hm.nb]; exact h
  | .mp k, v, o, _, h => by simp only [IRep] at h ⊢; rw [hm.β, hm.kd, hm.nb]; exact h
  | .clo fn f c, v, o, ho, h => by
    simp only [IRep] at h ⊢
    obtain ⟨F, K, o1, o2, h1, rfl, h3, h4⟩ := h
    exact ⟨F, K, o1, o2, h1, rfl, IRepL.move hm f _ _ (fun b hb => ho b (List.mem_append_left _ hb)) h3, IRepL.move hm c _ _ (fun b hb => ho b (List.mem_append_right _ hb)) h4⟩
  | .ifc t g cs, v, o, ho, h => by
    simp only [IRep] at h ⊢
    obtain ⟨C, h1, h2⟩ := h
    exact ⟨C, IRepL.move hm cs _ _ ho h1, h2⟩
  | .dead, v, o, _, h => by simp only [IRep] at h ⊢; exact h
  | .own _ _, v, o, _, h => by simp only [IRep] at h
theorem IRepL.move {d d' : Bd} (hm : Mv d d') : ∀ (xs : List AV) (vs : List Value) (o : List Nat), (∀ b, b ∈ o → d'.w.heap[b]? = d.w.heap[b]?) → IRepL d xs vs o → IRepL d' xs vs o
  | [], vs, o, _, h => by simp only [IRepL] at h ⊢; exact h
  | a :: r, vs, o, ho, h => by
    simp only [IRepL] at h ⊢
    obtain ⟨v, vs', o1, o2, h1, rfl, h3, h4⟩ := h
    exact ⟨v, vs', o1, o2, h1, rfl, IRep.move hm a _ _ (fun b hb => ho b (List.mem_append_left _ hb)) h3, IRepL.move hm r _ _ (fun b hb => ho b (List.mem_append_right _ hb)) h4⟩
end

theorem callOp_of {P : Program} {f : Nat} {fn : Func} {c : Code} {args : Array Value} {w : World} {R : Ending → World → Prop} (hf : P.funcs[f]? = some fn) (hb : fn.body = some c) (hn : (fn.name == "runtime.NumGoroutine") = false) (h : Calls P f args w R) : CallOp P f args w R := by
  have hne : ¬ fn.name = "runtime.NumGoroutine" := beq_eq_false_iff_ne.1 hn
  have hcall : (callFunc f args).run P w = .ok (.enter f args) w := by
    simp [callFunc, program, Sem.run, hf, hne, hb]
  unfold CallOp
  rw [hcall]
  exact h

/-- One box, a reference to it as the only argument: what the border says. -/
theorem border_box {B : Base} {β : Nat → Nat} {o : List Nat} {us : List Value} {ty : Nat} {p x : AV} (hb : Border B.w0 B.N0 [.box ty [p, x]] [(false, [.ptr 0 0 0 0])] us β o) :
    us = [.pointer (some ⟨β 0, 0, none⟩)] ∧ ∃ (v0 v1 : Value) (f : Nat × Nat) (o1 o2 : List Nat), B.w0.heap[β 0]? = some (.cells #[v0, v1] ty f) ∧ okFz f 2 ∧ o = o1 ++ o2 ∧
      IRep (mkBd B.w0 B.N0 [.box ty [p, x]] β) p v0 o1 ∧ IRep (mkBd B.w0 B.N0 [.box ty [p, x]] β) x v1 o2 := by
  obtain ⟨oa, ob, rfl, hv, hx⟩ := hb.vals
  obtain ⟨v, vs', o1, o2, rfl, rfl, hv1, hv2⟩ := hv
  obtain ⟨rfl, rfl⟩ := hv2
  obtain ⟨v', vs', o3, o4, h1, rfl, hv3, hv4⟩ := hv1
  simp only [List.cons.injEq] at h1
  obtain ⟨rfl, rfl⟩ := h1
  simp only [IRepL] at hv4
  obtain ⟨_, rfl⟩ := hv4
  simp only [IRep] at hv3
  obtain ⟨rfl, _, _, _, _, hp⟩ := hv3
  have hp := hp rfl
  subst hp
  simp only [IBoxes] at hx
  obtain ⟨C, f, o5, o6, hC, hf, rfl, hL, rfl⟩ := hx
  simp only [IRepL] at hL
  obtain ⟨v0, vs0, o7, o8, hC1, rfl, h7, v1, vs1, o9, o10, rfl, rfl, h9, rfl, rfl⟩ := hL
  have hC2 : C = #[v0, v1] := by
    apply Array.toList_inj.1
    rw [hC1]
  subst hC2
  refine ⟨rfl, v0, v1, f, o7, o9, hC, by simpa using hf, by simp, h7, h9⟩

section
variable {P : Program} {ρ : Ren} {E : Env}

theorem setCell_at {w : World} {b i : Nat} {C : Array Value} {T : Nat} {f : Nat × Nat} (h : w.heap[b]? = some (.cells C T f)) (v : Value) : (w.setCell ⟨b, i, none⟩ v).heap[b]? = some (.cells (C.setIfInBounds i v) T f) := by
  simp [World.setCell, Array.getElem?_modify, h]
theorem setCell_id {w : World} {b i : Nat} {C : Array Value} {T : Nat} {f : Nat × Nat} {v : Value} (h : w.heap[b]? = some (.cells C T f)) (hi : C[i]? = some v) : w.setCell ⟨b, i, none⟩ v = w := by
  rw [Go.Sort.setCell_eq]
  refine Go.Sort.mapBlock_id _ _ _ fun c e fr hb => ?_
  rw [h] at hb
  simp only [Option.some.injEq, Obj.cells.injEq] at hb
  obtain ⟨rfl, rfl, rfl⟩ := hb
  apply Array.ext_getElem?
  intro k
  rw [Array.getElem?_setIfInBounds]
  by_cases hk : i = k
  · subst hk
    rw [if_pos rfl, hi, if_pos (Array.getElem?_eq_some_iff.1 hi).1]
  · rw [if_neg hk]
theorem setCell_ne {w : World} {b i k : Nat} (h : k ≠ b) (v : Value) : (w.setCell ⟨b, i, none⟩ v).heap[k]? = w.heap[k]? := by
  simp only [World.setCell, Array.getElem?_modify, if_neg (Ne.symm h)]
theorem setCell_size {w : World} {b i : Nat} (v : Value) : (w.setCell ⟨b, i, none⟩ v).heap.size = w.heap.size := by simp [World.setCell]

theorem copyCheck_sound (L : Lays.n240 P ρ) (X : Builder.X72 P ρ) (hE : E.P = P) {fc : Nat} (hρ : ρ.f 240 = fc) {ty : Nat} (hty : ρ.t 72 = ty)
    {fn : Func} {c : Code} (hf : P.funcs[fc]? = some fn) (hb : fn.body = some c) (hn : (fn.name == "runtime.NumGoroutine") = false) {p x : AV} (hp : p = .p (.lit (.pointer none)) ∨ p = .ptr 0 0 0 0) :
    FnSound E fc [(false, [.ptr 0 0 0 0])] [.box ty [p, x]] (.ret []) [.box ty [.ptr 0 0 0 0, x]] := by
  intro B β o us hbd hO hB hg
  obtain ⟨rfl, v0, v1, f, o1, o2, hC, hfz, rfl, h0, h1⟩ := border_box hbd
  have hself : β 0 ∈ bdBlocks [.box ty [p, x]] β (o1 ++ o2) := by simp [bdBlocks]
  have hlt := hbd.lt _ hself
  have hnd := hbd.nodup
  have hnd' : β 0 ∉ o1 ++ o2 := by
    simp only [bdBlocks, List.length_cons, List.length_nil, List.range_one, List.map_cons, List.map_nil, List.cons_append, List.nil_append] at hnd
    exact (List.nodup_cons.1 hnd).1
  have hcell : ∀ k, B.w0.cell? ⟨β 0, k, none⟩ = (#[v0, v1] : Array Value)[k]? := fun k => by simp [World.cell?, hC]
  have hone : o1 = [] ∧ (v0 = .pointer none ∨ v0 = .pointer (some ⟨β 0, 0, none⟩)) := by
    rcases hp with rfl | rfl
    · simp only [IRep] at h0
      refine ⟨h0.1, .inl ?_⟩
      cases h0.2
      rfl
    · simp only [IRep] at h0
      exact ⟨h0.1, .inr (h0.2.2.2.2.2 rfl)⟩
  obtain ⟨rfl, hv0⟩ := hone
  rw [hE]
  refine callOp_of hf hb hn ?_
  have hcall : Calls P fc #[.pointer (some ⟨β 0, 0, none⟩)] B.w0 fun e w' => e = .returned (.tuple #[]) ∧ w' = B.w0.setCell ⟨β 0, 0, none⟩ (.pointer (some ⟨β 0, 0, none⟩)) := by
    rcases hv0 with rfl | rfl
    · have := Any.Builder_copyCheck_fresh L X (β 0) B.w0 (by rw [hcell]; rfl) (by simp [World.shape?, hC, hty]) (by
        have := hfz 0 (by omega)
        simp only [World.frozen?, hC]
        simpa using this)
      rw [hρ] at this
      exact this
    · have := Any.Builder_copyCheck_used L X (β 0) B.w0 (by rw [hcell]; rfl)
      rw [hρ] at this
      refine this.mono fun e w' ⟨he, hw⟩ => ⟨he, ?_⟩
      rw [hw]
      exact (setCell_id hC rfl).symm
  refine hcall.mono fun e w' ⟨he, hw⟩ => ?_
  subst hw
  have hne : ∀ k, k ≠ β 0 → (B.w0.setCell ⟨β 0, 0, none⟩ (.pointer (some ⟨β 0, 0, none⟩))).heap[k]? = B.w0.heap[k]? := fun k hk => setCell_ne hk _
  have hmv : Mv (mkBd B.w0 B.N0 [.box ty [p, x]] β) (mkBd (B.w0.setCell ⟨β 0, 0, none⟩ (.pointer (some ⟨β 0, 0, none⟩))) (fun b => B.A b ∧ b < (B.w0.setCell ⟨β 0, 0, none⟩ (.pointer (some ⟨β 0, 0, none⟩))).heap.size ∧ b ∉ bdBlocks [.box ty [.ptr 0 0 0 0, x]] β ([] ++ o2)) [.box ty [.ptr 0 0 0 0, x]] β) := by
    refine ⟨rfl, ?_, rfl, fun b hb => ⟨⟨.inl hb, by rw [setCell_size]; exact (hB.n0 b hb).1, fun hm => hbd.notN b hm hb⟩, fun _ => hne b fun he => hbd.notN _ hself (he ▸ hb)⟩⟩
    funext k
    cases k <;> rfl
  refine ⟨⟨rfl, rfl, rfl, by rw [setCell_size]; exact Nat.le_refl _, fun k hk hk2 => hne k fun he => hk2 ((hO k).2 (he ▸ hself)), fun _ => Nat.le_refl _⟩, Nat.le_refl _, β, [] ++ o2, [], fun k hk => ?_, ⟨⟨[], [] ++ o2, rfl, ⟨rfl, rfl⟩, ?_⟩, hnd, fun b hb => by rw [setCell_size]; exact hbd.lt b hb, fun b hb hN => hN.2.2 hb⟩, fun b hb => .inl ((hO b).2 hb), he⟩
  · have : k = 0 := by simp at hk; exact hk
    subst this
    exact ⟨rfl, rfl⟩
  · simp only [IBoxes]
    refine ⟨#[.pointer (some ⟨β 0, 0, none⟩), v1], f, o2, [], ?_, hfz, by simp, ?_, rfl⟩
    · have := setCell_at (i := 0) hC (.pointer (some ⟨β 0, 0, none⟩))
      exact this
    · simp only [IRepL]
      refine ⟨_, [v1], [], o2, rfl, rfl, ?_, v1, [], o2, [], rfl, by simp, ?_, rfl, rfl⟩
      · simp only [IRep]
        exact ⟨trivial, trivial, trivial, by show (0 : Nat) < 1; omega, rfl, fun _ => rfl⟩
      · refine IRep.move hmv _ _ _ (fun b hb => hne b fun he => hnd' ?_) h1
        rw [← he]
        exact List.mem_append_right _ hb

/-! ### String: what it does to the world, to the block -/
set_option maxHeartbeats 1000000 in
set_option maxRecDepth 100000 in
theorem bstring_row (L : Lays.n169 P ρ) (X : Builder.Extra P ρ) (b g cap : Nat) (l : List UInt8) (C : Array Value) (f : Nat × Nat) (w : World) (h0 : l ≠ []) (hcap : l.length ≤ cap) (hmax : cap ≤ 9223372036854775807)
    (hb : w.cell? ⟨b, 1, none⟩ = some (.slice (some ⟨g, 0, none⟩) l.length cap)) (hg : w.heap[g]? = some (.cells C (ρ.t 5) f)) (hs : l.length ≤ C.size)
    (hc : ∀ (j : Nat) x, l[j]? = some x → C[j]? = some (.int .u8 x.toNat)) :
    Calls P (ρ.f 169) #[.pointer (some ⟨b, 0, none⟩)] w fun e w' => e = .returned (.string ⟨l.toArray⟩) ∧ w' = w.drew.freeze ⟨g, 0, none⟩ l.length := by
  have hl0 : l.length ≠ 0 := by simpa using h0
  have c1 : w.drew.cell? ⟨b, 1, none⟩ = some (.slice (some ⟨g, 0, none⟩) l.length cap) := hb
  have hSD : (Builtin.unsafeSliceData_ #[(ρ.t 37)] (ρ.t 127) #[.slice (some ⟨g, 0, none⟩) l.length cap]).run P w.drew = .ok (.pointer (some ⟨g, 0, none⟩)) w.drew :=
    Lib.run_unsafeSliceData_row _ _ _ _ _ _ (by omega)
  have hUS : (Builtin.unsafeString_ #[(ρ.t 127), (ρ.t 3)] (ρ.t 9) #[.pointer (some ⟨g, 0, none⟩), .int .i64 l.length]).run P w.drew = .ok (.string ⟨l.toArray⟩) (w.drew.freeze ⟨g, 0, none⟩ l.length) := by
    refine Lib.run_unsafeString_row w.drew (ρ.t 127) (ρ.t 3) (ρ.t 9) (ρ.t 5) L.t127 X.cellsByte g C.size (by have hg' : w.drew.heap[g]? = some (.cells C (ρ.t 5) f) := hg; simp [World.shape?, hg']) l h0 (by omega) (by omega) ?_
    intro j x hx
    have h2 : w.drew.heap[g]? = some (.cells C (ρ.t 5) f) := hg
    have h3 : w.drew.cell? ⟨g, 0 + j, none⟩ = C[0 + j]? := by simp [World.cell?, h2]
    rw [Nat.zero_add] at h3
    have h4 : ((⟨g, 0, none⟩ : Addr).add j) = ⟨g, j, none⟩ := by simp [Addr.add]; omega
    rw [h4, h3]
    exact hc j x hx
  clear hc hb hg hcap hmax hs h0
  have mixed := L.mixed
  have t72 := L.t72; have a72 := L.a72; have z72 := L.z72; have v72 := L.v72; have u72 := run_underlying L.t72
  have t70 := L.t70; have a70 := L.a70; have z70 := L.z70; have v70 := L.v70; have u70 := run_underlying L.t70
  have t37 := L.t37; have a37 := L.a37; have z37 := L.z37; have v37 := L.v37; have u37 := run_underlying L.t37
  have t127 := L.t127; have a127 := L.a127; have z127 := L.z127; have v127 := L.v127; have u127 := run_underlying L.t127
  have t3 := L.t3; have a3 := L.a3; have z3 := L.z3; have v3 := L.v3; have u3 := run_underlying L.t3
  have t9 := L.t9; have a9 := L.a9; have z9 := L.z9; have v9 := L.v9; have u9 := run_underlying L.t9
  have t5 := X.t5; have a5 := X.a5; have z5 := X.z5; have v5 := X.v5; have u5 := run_underlying X.t5
  go_enter L.f169, Body.n169_ntmps ρ
  go_wp2
  go_region_o
  all_goals (go_wp2; go_ret; exact ⟨rfl, rfl⟩)

set_option maxHeartbeats 2000000 in
set_option maxRecDepth 100000 in
theorem bstring_nil (L : Lays.n169 P ρ) (X : Builder.Extra P ρ) (b : Nat) (w : World) (hb : w.cell? ⟨b, 1, none⟩ = some (.slice none 0 0)) :
    Calls P (ρ.f 169) #[.pointer (some ⟨b, 0, none⟩)] w fun e w' => e = .returned (.string ⟨#[]⟩) ∧ w' = w.drew := by
  have hUS := Any.unsafeString_none L X
  have c1 : w.drew.cell? ⟨b, 1, none⟩ = some (.slice none 0 0) := hb
  have hSD : (Builtin.unsafeSliceData_ #[(ρ.t 37)] (ρ.t 127) #[.slice none 0 0]).run P w.drew = .ok (.pointer none) w.drew := rfl
  clear hb
  have mixed := L.mixed
  have t72 := L.t72; have a72 := L.a72; have z72 := L.z72; have v72 := L.v72; have u72 := run_underlying L.t72
  have t70 := L.t70; have a70 := L.a70; have z70 := L.z70; have v70 := L.v70; have u70 := run_underlying L.t70
  have t37 := L.t37; have a37 := L.a37; have z37 := L.z37; have v37 := L.v37; have u37 := run_underlying L.t37
  have t127 := L.t127; have a127 := L.a127; have z127 := L.z127; have v127 := L.v127; have u127 := run_underlying L.t127
  have t3 := L.t3; have a3 := L.a3; have z3 := L.z3; have v3 := L.v3; have u3 := run_underlying L.t3
  have t9 := L.t9; have a9 := L.a9; have z9 := L.z9; have v9 := L.v9; have u9 := run_underlying L.t9
  have t5 := X.t5; have a5 := X.a5; have z5 := X.z5; have v5 := X.v5; have u5 := run_underlying X.t5
  go_enter L.f169, Body.n169_ntmps ρ
  go_wp2
  go_region_o
  all_goals (go_wp2; go_ret; exact ⟨rfl, rfl⟩)

theorem freeze_heap {w : World} {b n : Nat} (k : Nat) : ∃ f' : Nat × Nat → Nat × Nat, ∀ C T f, w.heap[k]? = some (.cells C T f) → ((w.freeze ⟨b, 0, none⟩ n).heap[k]? = some (.cells C T (f' f))) := by
  unfold World.freeze
  by_cases hn : n = 0
  · exact ⟨id, fun C T f h => by rw [if_pos hn]; exact h⟩
  · rw [if_neg hn]
    by_cases hk : b = k
    · subst hk
      exact ⟨fun f => if f.1 == f.2 then (0, 0 + n) else (min f.1 0, max f.2 (0 + n)), fun C T f h => by simp [Array.getElem?_modify, h]⟩
    · exact ⟨id, fun C T f h => by simp only [Array.getElem?_modify, if_neg hk]; exact h⟩
theorem freeze_ne {w : World} {b n k : Nat} (h : k ≠ b) : (w.freeze ⟨b, 0, none⟩ n).heap[k]? = w.heap[k]? := by
  unfold World.freeze
  by_cases hn : n = 0
  · rw [if_pos hn]
  · rw [if_neg hn]
    simp only [Array.getElem?_modify, if_neg (Ne.symm h)]
theorem freeze_size {w : World} {b n : Nat} : (w.freeze ⟨b, 0, none⟩ n).heap.size = w.heap.size := by
  unfold World.freeze
  by_cases hn : n = 0
  · rw [if_pos hn]
  · rw [if_neg hn]; simp
theorem freeze_rest {w : World} {a : Addr} {n : Nat} : (w.freeze a n).os = w.os ∧ (w.freeze a n).tape = w.tape ∧ (w.freeze a n).output = w.output ∧ (w.freeze a n).drawn = w.drawn := by
  unfold World.freeze
  by_cases hn : n = 0
  · rw [if_pos hn]; exact ⟨rfl, rfl, rfl, rfl⟩
  · rw [if_neg hn]; exact ⟨rfl, rfl, rfl, rfl⟩

/-- Bytes in cells, read. -/
theorem bytes_get {es : List (List PV)} (h : es.all isU8 = true) : ∀ (j : Nat) x, (es.map cellU8)[j]? = some x → es[j]? = some [.lit (.int .u8 x.toNat)] := by
  intro j x hx
  rw [List.getElem?_map] at hx
  cases he : es[j]? with
  | none => rw [he] at hx; simp at hx
  | some e =>
    rw [he] at hx
    simp only [Option.map_some, Option.some.injEq] at hx
    have hu := List.all_eq_true.1 h e (List.mem_of_getElem? he)
    unfold isU8 at hu
    split at hu
    · rename_i n
      simp only [Bool.and_eq_true, decide_eq_true_eq] at hu
      subst hx
      simp only [cellU8]
      congr 4
      have h1 : (UInt8.ofNat n.toNat).toNat = n.toNat := by rw [UInt8.toNat_ofNat']; omega
      rw [h1]
      omega
    · simp at hu

theorem bstring_fresh_sound (L : Lays.n169 P ρ) (X : Builder.Extra P ρ) (hE : E.P = P) {fc : Nat} (hρ : ρ.f 169 = fc) {ty5 : Nat} (hty : ρ.t 5 = ty5)
    {fn : Func} {c : Code} (hf : P.funcs[fc]? = some fn) (hb : fn.body = some c) (hn : (fn.name == "runtime.NumGoroutine") = false) {ty sz : Nat} {p : AV} {es : List (List PV)} (hp : p = .ptr 0 0 0 0) (hes : es.all isU8 = true) (hne : es ≠ []) :
    FnSound E fc [(false, [.ptr 0 0 0 0])] [.box ty [p, .fresh ty5 sz es]] (.ret [(false, [.p (.lit (.string (mkS (es.map cellU8))))])]) [.box ty [p, .p (.sl es)]] := by
  intro B β o us hbd hO hB hg
  obtain ⟨rfl, v0, v1, f, o1, o2, hC, hfz, rfl, h0, h1⟩ := border_box hbd
  subst hp
  simp only [IRep] at h0 h1
  obtain ⟨rfl, _, _, _, _, hv0⟩ := h0
  have hv0 := hv0 rfl
  subst hv0
  obtain ⟨g, cap, Cg, fg, rfl, rfl, hle, hmax, hg2, hokg, hsz2, ha⟩ := h1
  have hselfm : β 0 ∈ bdBlocks [.box ty [AV.ptr 0 0 0 0, .fresh ty5 sz es]] β ([] ++ [g]) := by simp [bdBlocks]
  have hgm : g ∈ bdBlocks [.box ty [AV.ptr 0 0 0 0, .fresh ty5 sz es]] β ([] ++ [g]) := by simp [bdBlocks]
  have hnd := hbd.nodup
  have hgb : g ≠ β 0 := by
    simp only [bdBlocks, List.length_cons, List.length_nil, List.range_one, List.map_cons, List.map_nil, List.cons_append, List.nil_append] at hnd
    have := (List.nodup_cons.1 hnd).1
    intro he
    exact this (by rw [he]; exact List.mem_cons_self)
  have hsz1 : sz = 1 := by
    cases es with
    | nil => exact absurd rfl hne
    | cons e r =>
      have h2 := ha.2.1 e List.mem_cons_self
      have h3 := List.all_eq_true.1 hes e List.mem_cons_self
      unfold isU8 at h3
      split at h3
      · simpa using h2.symm
      · simp at h3
  subst hsz1
  have hcell : B.w0.cell? ⟨β 0, 1, none⟩ = some (.slice (some ⟨g, 0, none⟩) es.length cap) := by simp [World.cell?, hC]
  rw [hE]
  refine callOp_of hf hb hn ?_
  have hlen : (es.map cellU8).length = es.length := List.length_map ..
  have hcall := bstring_row L X (β 0) g cap (es.map cellU8) Cg fg B.w0 (by simpa using hne) (by rw [hlen]; exact hle) hmax (by rw [hlen]; exact hcell) (by rw [hty]; exact hg2) (by
      rw [hlen, hsz2]
      have : es.length ≤ cap := hle
      omega) (by
      intro j x hx
      have h2 := bytes_get hes j x hx
      obtain ⟨v, h3, h4⟩ := ha.2.2 j _ 0 _ h2 rfl
      cases h4
      simpa using h3)
  rw [hρ] at hcall
  refine hcall.mono fun e w' ⟨he, hw⟩ => ?_
  subst hw
  have hrest := freeze_rest (w := B.w0.drew) (a := ⟨g, 0, none⟩) (n := (es.map cellU8).length)
  have hsame : ∀ k, k ≠ g → (B.w0.drew.freeze ⟨g, 0, none⟩ (es.map cellU8).length).heap[k]? = B.w0.heap[k]? := fun k hk => freeze_ne hk
  have hsize : (B.w0.drew.freeze ⟨g, 0, none⟩ (es.map cellU8).length).heap.size = B.w0.heap.size := freeze_size
  have hglt := hbd.lt g hgm
  have hblt := hbd.lt (β 0) hselfm
  have hAg : B.A g := .inr (.inl ((hO g).2 hgm))
  have hNmove : ∀ b, B.N0 b → (B.A b ∧ b < (B.w0.drew.freeze ⟨g, 0, none⟩ (es.map cellU8).length).heap.size ∧ b ∉ bdBlocks [.box ty [AV.ptr 0 0 0 0, .p (.sl es)]] β []) ∧ (b < B.w0.heap.size → (B.w0.drew.freeze ⟨g, 0, none⟩ (es.map cellU8).length).heap[b]? = B.w0.heap[b]?) := by
    intro b hb
    refine ⟨⟨.inl hb, by rw [hsize]; exact (hB.n0 b hb).1, fun hm => ?_⟩, fun _ => hsame b fun he => hbd.notN _ hgm (he ▸ hb)⟩
    have : b = β 0 := by simpa [bdBlocks] using hm
    exact hbd.notN _ hselfm (this ▸ hb)
  refine ⟨⟨hrest.1, hrest.2.1, hrest.2.2.1, by rw [hsize]; exact Nat.le_refl _, fun k hk hk2 => hsame k fun he => hk2 ((hO k).2 (he ▸ hgm)), fun _ => by rw [hrest.2.2.2]; exact Nat.le_succ _⟩, Nat.le_refl _, β, [], [_], fun k hk => ?_, ⟨⟨[], [], rfl, ⟨_, _, [], [], rfl, rfl, ⟨_, _, [], [], rfl, rfl, ?_, rfl, rfl⟩, rfl, rfl⟩, ?_⟩, ?_, fun b hb => ?_, fun b hb hN => hN.2.2 hb⟩, fun b hb => ?_, he⟩
  · have : k = 0 := by simp at hk; exact hk
    subst this
    exact ⟨rfl, rfl⟩
  · simp only [IRep]
    exact ⟨trivial, .lit _ rfl⟩
  · simp only [IBoxes]
    refine ⟨#[.pointer (some ⟨β 0, 0, none⟩), .slice (some ⟨g, 0, none⟩) es.length cap], f, [], [], ?_, hfz, rfl, ?_, rfl⟩
    · show (B.w0.drew.freeze ⟨g, 0, none⟩ (es.map cellU8).length).heap[β 0]? = _
      rw [hsame _ (Ne.symm hgb)]; exact hC
    · simp only [IRepL]
      refine ⟨_, _, [], [], rfl, rfl, ?_, _, [], [], [], rfl, rfl, ?_, rfl, rfl⟩
      · simp only [IRep]
        exact ⟨trivial, trivial, trivial, by show (0 : Nat) < 1; omega, rfl, fun _ => rfl⟩
      · simp only [IRep]
        refine ⟨trivial, ?_⟩
        obtain ⟨f', hf'⟩ := freeze_heap (w := B.w0.drew) (b := g) (n := (es.map cellU8).length) g
        have hg3 := hf' Cg ty5 fg hg2
        have hcg : ∀ k, (B.w0.drew.freeze ⟨g, 0, none⟩ (es.map cellU8).length).cell? ⟨g, k, none⟩ = Cg[k]? := fun k => by simp only [World.cell?]; rw [hg3]; rfl
        refine .sl es g 0 cap 1 (fun i j => (Cg[i * 1 + j]?).getD undef) ⟨hAg, by show g < _; rw [hsize]; exact hglt, fun hm => hgb (by simpa [bdBlocks] using hm)⟩ hle ha.2.1 ?_ ?_
        · intro i e j q hi hj
          obtain ⟨v, h3, h4⟩ := ha.2.2 i e j q hi hj
          show (B.w0.drew.freeze ⟨g, 0, none⟩ (es.map cellU8).length).cell? ⟨g, 0 + i * 1 + j, none⟩ = _
          rw [hcg, Nat.zero_add]
          simp only at h3
          rw [h3]; rfl
        · intro i e j q hi hj
          obtain ⟨v, h3, h4⟩ := ha.2.2 i e j q hi hj
          simp only at h3
          rw [h3]
          exact h4.mono hNmove
  · simp [bdBlocks]
  · have : b = β 0 := by simpa [bdBlocks] using hb
    subst this
    rw [hsize]; exact hblt
  · have : b = β 0 := by simpa [bdBlocks] using hb
    subst this
    exact .inl ((hO _).2 hselfm)

theorem bstring_nl_sound (L : Lays.n169 P ρ) (X : Builder.Extra P ρ) (hE : E.P = P) {fc : Nat} (hρ : ρ.f 169 = fc)
    {fn : Func} {c : Code} (hf : P.funcs[fc]? = some fn) (hb : fn.body = some c) (hn : (fn.name == "runtime.NumGoroutine") = false) {ty : Nat} {p : AV} (hp : p = .p (.lit (.pointer none)) ∨ p = .ptr 0 0 0 0) :
    FnSound E fc [(false, [.ptr 0 0 0 0])] [.box ty [p, .nl]] (.ret [(false, [.p (.lit (.string (mkS [])))])]) [.box ty [p, .nl]] := by
  intro B β o us hbd hO hB hg
  obtain ⟨rfl, v0, v1, f, o1, o2, hC, hfz, rfl, h0, h1⟩ := border_box hbd
  simp only [IRep] at h1
  obtain ⟨rfl, rfl⟩ := h1
  have hselfm : β 0 ∈ bdBlocks [.box ty [p, .nl]] β (o1 ++ []) := by simp [bdBlocks]
  have hcell : B.w0.cell? ⟨β 0, 1, none⟩ = some (.slice none 0 0) := by simp [World.cell?, hC]
  rw [hE]
  refine callOp_of hf hb hn ?_
  have hcall := bstring_nil L X (β 0) B.w0 hcell
  rw [hρ] at hcall
  refine hcall.mono fun e w' ⟨he, hw⟩ => ?_
  subst hw
  have hmv : Mv (mkBd B.w0 B.N0 [.box ty [p, .nl]] β) (mkBd B.w0.drew (fun b => B.A b ∧ b < B.w0.drew.heap.size ∧ b ∉ bdBlocks [.box ty [p, .nl]] β (o1 ++ [])) [.box ty [p, .nl]] β) :=
    ⟨rfl, rfl, rfl, fun b hb => ⟨⟨.inl hb, (hB.n0 b hb).1, fun hm => hbd.notN b hm hb⟩, fun _ => rfl⟩⟩
  refine ⟨⟨rfl, rfl, rfl, Nat.le_refl _, fun k hk hk2 => rfl, fun _ => Nat.le_succ _⟩, Nat.le_refl _, β, o1 ++ [], [_], fun k hk => ⟨rfl, rfl⟩, ⟨⟨[], o1 ++ [], rfl, ⟨_, _, [], [], rfl, rfl, ⟨_, _, [], [], rfl, rfl, ?_, rfl, rfl⟩, rfl, rfl⟩, ?_⟩, hbd.nodup, hbd.lt, fun b hb hN => hN.2.2 hb⟩, fun b hb => .inl ((hO b).2 hb), he⟩
  · simp only [IRep]
    exact ⟨trivial, .lit _ rfl⟩
  · simp only [IBoxes]
    refine ⟨#[v0, .slice none 0 0], f, o1 ++ [], [], hC, hfz, by simp, ?_, rfl⟩
    simp only [IRepL]
    refine ⟨v0, [.slice none 0 0], o1, [], rfl, rfl, IRep.move hmv _ _ _ (fun b hb => rfl) h0, _, [], [], [], rfl, rfl, ?_, rfl, rfl⟩
    simp only [IRep]
    exact ⟨trivial, trivial⟩
end
end Go.Proofs.YtggofahhehkbbaaGreatDoor.Ev
