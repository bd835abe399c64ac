/- In over a call's border: sound. -/
import Derived.Test.YtggofahhehkbbaaGreatDoorEvBdX
namespace Go.Proofs.YtggofahhehkbbaaGreatDoor.Ev
set_option autoImplicit false
set_option linter.unusedVariables false
set_option linter.unusedSimpArgs false

theorem find_append (a b : BW) (i : Nat) : BW.find (a ++ b) i = match BW.find a i with | some x => some x | none => BW.find b i := by
  induction a with
  | nil => rfl
  | cons x r ih =>
    obtain ⟨j, y⟩ := x
    simp only [List.cons_append, BW.find]
    cases Nat.beq j i with
    | true => rfl
    | false => simpa using ih

structure Good (c : RepCtx) (d : Bd) (ids : List Nat) : Prop where
  w : c.w = d.w
  N : ∀ b, d.N b → c.N b
  ids : ∀ (j id : Nat), ids[j]? = some id → c.ι id = d.β j ∧ ∃ b, c.bk id = some b ∧ kdOf (some b) ≠ 0 ∧ kdOf (some b) = d.kd j

/-- What has come in: the numbers from k to k', each a slice's. -/
structure In (k k' : Nat) (bwn : BW) (o : List Nat) : Prop where
  num : k' = k + o.length
  dom : ∀ i, BW.find bwn i ≠ none ↔ (k ≤ i ∧ i < k')
  arr : ∀ i x, BW.find bwn i = some x → ∃ ty sz es, x = .arr 0 ty sz false es

def Lies (c : RepCtx) (k : Nat) (bwn : BW) (o : List Nat) : Prop := (∀ (j b : Nat), o[j]? = some b → c.ι (k + j) = b) ∧ ∀ i x, BW.find bwn i = some x → c.bk i = some x

theorem In.nil (k : Nat) : In k k [] [] := ⟨rfl, fun i => by simp [BW.find], fun i x h => by simp [BW.find] at h⟩

theorem In.append {k k1 k2 : Nat} {a b : BW} {o1 o2 : List Nat} (h1 : In k k1 a o1) (h2 : In k1 k2 b o2) : In k k2 (b ++ a) (o1 ++ o2) := by
  have e1 := h1.num
  have e2 := h2.num
  refine ⟨by rw [List.length_append]; omega, fun i => ?_, fun i x hx => ?_⟩
  · rw [find_append]
    cases hb : BW.find b i with
    | some x =>
      have := (h2.dom i).1 (by rw [hb]; simp)
      simp; omega
    | none =>
      have hn : ¬ (k1 ≤ i ∧ i < k2) := fun h => (h2.dom i).2 h hb
      have := h1.dom i
      simp only
      rw [this]
      omega
  · rw [find_append] at hx
    cases hb : BW.find b i with
    | some y => rw [hb] at hx; simp at hx; subst hx; exact h2.arr i _ hb
    | none => rw [hb] at hx; exact h1.arr i x hx

theorem Lies.left {c : RepCtx} {k k1 k2 : Nat} {a b : BW} {o1 o2 : List Nat} (h1 : In k k1 a o1) (h2 : In k1 k2 b o2) (h : Lies c k (b ++ a) (o1 ++ o2)) : Lies c k a o1 := by
  refine ⟨fun j x hj => h.1 j x ?_, fun i x hx => h.2 i x ?_⟩
  · rw [List.getElem?_append_left (List.getElem?_eq_some_iff.1 hj).1]; exact hj
  · rw [find_append]
    have h3 := (h1.dom i).1 (by rw [hx]; simp)
    cases hb : BW.find b i with
    | none => exact hx
    | some y =>
      have := (h2.dom i).1 (by rw [hb]; simp)
      omega

theorem Lies.right {c : RepCtx} {k k1 k2 : Nat} {a b : BW} {o1 o2 : List Nat} (h1 : In k k1 a o1) (h2 : In k1 k2 b o2) (h : Lies c k (b ++ a) (o1 ++ o2)) : Lies c k1 b o2 := by
  refine ⟨fun j x hj => ?_, fun i x hx => h.2 i x ?_⟩
  · have := h.1 (o1.length + j) x (by rw [List.getElem?_append_right (by omega)]; simpa using hj)
    rw [h1.num, Nat.add_assoc]
    exact this
  · rw [find_append, hx]

mutual
theorem intA_sound {d : Bd} {ids : List Nat} : ∀ (a : AV) (v : Value) (o : List Nat) (k : Nat) (bw : BW) (a' : AV) (k' : Nat) (bw' : BW), IRep d a v o → intA ids k bw a = some (a', k', bw') →
    ∃ bwn, bw' = bwn ++ bw ∧ In k k' bwn o ∧ ∀ c, Good c d ids → Lies c k bwn o → AVRep c a' v ∧ ∀ i x, BW.find bwn i = some x → BRep c i x
  | .p q, v, o, k, bw, a', k', bw', h, he => by
    simp only [intA, Option.some.injEq, Prod.mk.injEq] at he
    obtain ⟨rfl, rfl, rfl⟩ := he
    simp only [IRep] at h
    obtain ⟨rfl, h⟩ := h
    refine ⟨[], rfl, In.nil _, fun c hc hl => ⟨?_, fun i x hx => by simp [BW.find] at hx⟩⟩
    simp only [AVRep, hc.w]
    exact h.mono fun b hb => ⟨hc.N b hb, fun _ => rfl⟩
  | .tsl es, v, o, k, bw, a', k', bw', h, he => by
    simp only [intA, Option.some.injEq, Prod.mk.injEq] at he
    obtain ⟨rfl, rfl, rfl⟩ := he
    simp only [IRep] at h
    obtain ⟨rfl, h, h2⟩ := h
    refine ⟨[], rfl, In.nil _, fun c hc hl => ⟨?_, fun i x hx => by simp [BW.find] at hx⟩⟩
    simp only [AVRep, hc.w]
    exact ⟨h.mono fun b hb => ⟨hc.N b hb, fun _ => rfl⟩, h2⟩
  | .nl, v, o, k, bw, a', k', bw', h, he => by
    simp only [intA, Option.some.injEq, Prod.mk.injEq] at he
    obtain ⟨rfl, rfl, rfl⟩ := he
    simp only [IRep] at h
    obtain ⟨rfl, h⟩ := h
    refine ⟨[], rfl, In.nil _, fun c hc hl => ⟨?_, fun i x hx => by simp [BW.find] at hx⟩⟩
    simp only [AVRep]
    exact h
  | .fresh ty sz es, v, o, k, bw, a', k', bw', h, he => by
    simp only [intA, Option.some.injEq, Prod.mk.injEq] at he
    obtain ⟨rfl, rfl, rfl⟩ := he
    simp only [IRep] at h
    obtain ⟨b, cap, C, f, rfl, rfl, h3, h4, h5, h6, h7, h8⟩ := h
    have hfind : ∀ i x, BW.find [(k, Blk.arr 0 ty sz false es)] i = some x → i = k ∧ x = .arr 0 ty sz false es := by
      intro i x hx
      simp only [BW.find] at hx
      cases hb : Nat.beq k i with
      | true => rw [hb] at hx; simp at hx; exact ⟨(beqN hb).symm, hx.symm⟩
      | false => rw [hb] at hx; simp at hx
    refine ⟨[(k, .arr 0 ty sz false es)], rfl, ⟨rfl, fun i => ?_, fun i x hx => ?_⟩, fun c hc hl => ⟨?_, fun i x hx => ?_⟩⟩
    · constructor
      · intro h
        cases hx : BW.find [(k, Blk.arr 0 ty sz false es)] i with
        | none => exact absurd hx h
        | some x => have := (hfind i x hx).1; omega
      · intro h
        have : i = k := by omega
        subst this
        simp [BW.find]
    · exact ⟨ty, sz, es, (hfind i x hx).2⟩
    · have h9 := hl.1 0 b (by simp)
      have h10 := hl.2 k (.arr 0 ty sz false es) (by simp [BW.find])
      simp only [AVRep]
      refine ⟨_, h10, rfl, fun ep' ty' sz' fz' es' he => ?_⟩
      simp only [Blk.arr.injEq] at he
      obtain ⟨rfl, rfl, rfl, rfl, rfl⟩ := he
      rw [Nat.add_zero] at h9
      rw [h9, hc.w]
      exact ⟨Nat.le_refl _, fun _ => ⟨cap, rfl, h3, fun _ => ⟨C, ty, f, h5, h7⟩⟩⟩
    · obtain ⟨rfl, rfl⟩ := hfind i x hx
      have h9 := hl.1 0 b (by simp)
      rw [Nat.add_zero] at h9
      simp only [BRep, h9, hc.w]
      exact ⟨C, f, h5, h6, ⟨cap, h7, h3, h4⟩, h8.monoN hc.N⟩
  | .mp j, v, o, k, bw, a', k', bw', h, he => by
    simp only [intA] at he
    split at he
    · rename_i id hid
      simp only [Option.some.injEq, Prod.mk.injEq] at he
      obtain ⟨rfl, rfl, rfl⟩ := he
      simp only [IRep] at h
      obtain ⟨rfl, h1, h2, h3⟩ := h
      refine ⟨[], rfl, In.nil _, fun c hc hl => ⟨?_, fun i x hx => by simp [BW.find] at hx⟩⟩
      obtain ⟨h4, b, h5, h6, h7⟩ := hc.ids j id hid
      simp only [AVRep]
      refine ⟨b, h5, h2, fun es he => ?_⟩
      subst he
      rw [h3 h7.symm, h4]
    · simp at he
  | .ptr j ep i off, v, o, k, bw, a', k', bw', h, he => by
    simp only [intA] at he
    split at he
    · rename_i id hid
      simp only [Option.some.injEq, Prod.mk.injEq] at he
      obtain ⟨rfl, rfl, rfl⟩ := he
      simp only [IRep] at h
      obtain ⟨rfl, _, _, h1, h2, h3⟩ := h
      refine ⟨[], rfl, In.nil _, fun c hc hl => ⟨?_, fun i x hx => by simp [BW.find] at hx⟩⟩
      obtain ⟨h4, b, h5, h6, h7⟩ := hc.ids j id hid
      simp only [AVRep]
      refine ⟨b, h5, h2, fun ty es he _ _ => ?_, fun ep ty sz fz es he => ?_⟩
      · subst he
        rw [h3 h7.symm, h4]
      · subst he
        exact absurd rfl h6
    · simp at he
  | .clo fn f g, v, o, k, bw, a', k', bw', h, he => by
    simp only [intA] at he
    split at he
    · rename_i f' k1 bw1 h1
      split at he
      · rename_i g' k2 bw2 h2
        simp only [Option.some.injEq, Prod.mk.injEq] at he
        obtain ⟨rfl, rfl, rfl⟩ := he
        simp only [IRep] at h
        obtain ⟨F, K, o1, o2, rfl, rfl, h3, h4⟩ := h
        obtain ⟨b1, rfl, i1, r1⟩ := intL_sound f F.toList o1 k bw f' k1 bw1 h3 h1
        obtain ⟨b2, rfl, i2, r2⟩ := intL_sound g K.toList o2 k1 _ g' k2 bw2 h4 h2
        refine ⟨b2 ++ b1, by simp, i1.append i2, fun c hc hl => ?_⟩
        obtain ⟨q1, q2⟩ := r1 c hc (hl.left i1 i2)
        obtain ⟨q3, q4⟩ := r2 c hc (hl.right i1 i2)
        refine ⟨?_, fun i x hx => ?_⟩
        · simp only [AVRep]; exact ⟨F, K, rfl, q1, q3⟩
        · rw [find_append] at hx
          cases hb : BW.find b2 i with
          | none => rw [hb] at hx; exact q2 i x hx
          | some y => rw [hb] at hx; simp at hx; subst hx; exact q4 i _ hb
      · simp at he
    · simp at he
  | .ifc t g cs, v, o, k, bw, a', k', bw', h, he => by
    simp only [intA] at he
    split at he
    · rename_i f' k1 bw1 h1
      simp only [Option.some.injEq, Prod.mk.injEq] at he
      obtain ⟨rfl, rfl, rfl⟩ := he
      simp only [IRep] at h
      obtain ⟨C, h3, h4⟩ := h
      obtain ⟨b1, rfl, i1, r1⟩ := intL_sound cs C o k bw f' k1 bw1 h3 h1
      refine ⟨b1, rfl, i1, fun c hc hl => ?_⟩
      obtain ⟨q1, q2⟩ := r1 c hc hl
      refine ⟨?_, q2⟩
      simp only [AVRep]
      exact ⟨C, q1, h4⟩
    · simp at he
  | .dead, v, o, k, bw, a', k', bw', h, he => by
    simp only [intA, Option.some.injEq, Prod.mk.injEq] at he
    obtain ⟨rfl, rfl, rfl⟩ := he
    simp only [IRep] at h
    obtain ⟨rfl, h⟩ := h
    refine ⟨[], rfl, In.nil _, fun c hc hl => ⟨?_, fun i x hx => by simp [BW.find] at hx⟩⟩
    simp only [AVRep]
    exact h
  | .own _ _, v, o, k, bw, a', k', bw', h, he => by simp [intA] at he
theorem intL_sound {d : Bd} {ids : List Nat} : ∀ (as : List AV) (vs : List Value) (o : List Nat) (k : Nat) (bw : BW) (as' : List AV) (k' : Nat) (bw' : BW), IRepL d as vs o → intL ids k bw as = some (as', k', bw') →
    ∃ bwn, bw' = bwn ++ bw ∧ In k k' bwn o ∧ ∀ c, Good c d ids → Lies c k bwn o → AVRepL c as' vs ∧ ∀ i x, BW.find bwn i = some x → BRep c i x
  | [], vs, o, k, bw, as', k', bw', h, he => by
    simp only [intL, Option.some.injEq, Prod.mk.injEq] at he
    obtain ⟨rfl, rfl, rfl⟩ := he
    simp only [IRepL] at h
    obtain ⟨rfl, rfl⟩ := h
    refine ⟨[], rfl, In.nil _, fun c hc hl => ⟨?_, fun i x hx => by simp [BW.find] at hx⟩⟩
    simp only [AVRepL]
  | a :: r, vs, o, k, bw, as', k', bw', h, he => by
    simp only [intL] at he
    split at he
    · rename_i f' k1 bw1 h1
      split at he
      · rename_i g' k2 bw2 h2
        simp only [Option.some.injEq, Prod.mk.injEq] at he
        obtain ⟨rfl, rfl, rfl⟩ := he
        simp only [IRepL] at h
        obtain ⟨v, vs', o1, o2, rfl, rfl, h3, h4⟩ := h
        obtain ⟨b1, rfl, i1, r1⟩ := intA_sound a v o1 k bw f' k1 bw1 h3 h1
        obtain ⟨b2, rfl, i2, r2⟩ := intL_sound r vs' o2 k1 _ g' k2 bw2 h4 h2
        refine ⟨b2 ++ b1, by simp, i1.append i2, fun c hc hl => ?_⟩
        obtain ⟨q1, q2⟩ := r1 c hc (hl.left i1 i2)
        obtain ⟨q3, q4⟩ := r2 c hc (hl.right i1 i2)
        refine ⟨?_, fun i x hx => ?_⟩
        · simp only [AVRepL]; exact ⟨v, vs', rfl, q1, q3⟩
        · rw [find_append] at hx
          cases hb : BW.find b2 i with
          | none => rw [hb] at hx; exact q2 i x hx
          | some y => rw [hb] at hx; simp at hx; subst hx; exact q4 i _ hb
      · simp at he
    · simp at he
end

theorem intC_sound {d : Bd} {ids : List Nat} {g : Bool} {cs cs' : List AV} {v : Value} {o : List Nat} {k k' : Nat} {bw bw' : BW} (h : IVal d g cs v o) (he : intL ids k bw cs = some (cs', k', bw')) :
    ∃ bwn, bw' = bwn ++ bw ∧ In k k' bwn o ∧ ∀ c, Good c d ids → Lies c k bwn o → VRepC c g cs' v ∧ ∀ i x, BW.find bwn i = some x → BRep c i x := by
  cases g with
  | true =>
    obtain ⟨C, rfl, h⟩ := h
    obtain ⟨bwn, h1, h2, h3⟩ := intL_sound _ _ _ _ _ _ _ _ h he
    exact ⟨bwn, h1, h2, fun c hc hl => ⟨⟨C, rfl, (h3 c hc hl).1⟩, (h3 c hc hl).2⟩⟩
  | false =>
    obtain ⟨bwn, h1, h2, h3⟩ := intL_sound _ _ _ _ _ _ _ _ h he
    exact ⟨bwn, h1, h2, fun c hc hl => ⟨(h3 c hc hl).1, (h3 c hc hl).2⟩⟩

theorem intVs_sound {d : Bd} {ids : List Nat} : ∀ {vs vs' : Args} {us : List Value} {o : List Nat} {k k' : Nat} {bw bw' : BW}, IVals d vs us o → intVs ids k bw vs = some (vs', k', bw') →
    ∃ bwn, bw' = bwn ++ bw ∧ In k k' bwn o ∧ ∀ c, Good c d ids → Lies c k bwn o → VRepT c vs' us ∧ ∀ i x, BW.find bwn i = some x → BRep c i x
  | [], vs', us, o, k, k', bw, bw', h, he => by
    simp only [intVs, Option.some.injEq, Prod.mk.injEq] at he
    obtain ⟨rfl, rfl, rfl⟩ := he
    obtain ⟨rfl, rfl⟩ := h
    exact ⟨[], rfl, In.nil _, fun c hc hl => ⟨rfl, fun i x hx => by simp [BW.find] at hx⟩⟩
  | (g, cs) :: r, vs', us, o, k, k', bw, bw', h, he => by
    simp only [intVs] at he
    split at he
    · rename_i f' k1 bw1 h1
      split at he
      · rename_i g' k2 bw2 h2
        simp only [Option.some.injEq, Prod.mk.injEq] at he
        obtain ⟨rfl, rfl, rfl⟩ := he
        obtain ⟨v, vs', o1, o2, rfl, rfl, h3, h4⟩ := h
        obtain ⟨b1, rfl, i1, r1⟩ := intC_sound h3 h1
        obtain ⟨b2, rfl, i2, r2⟩ := intVs_sound h4 h2
        refine ⟨b2 ++ b1, by simp, i1.append i2, fun c hc hl => ?_⟩
        obtain ⟨q1, q2⟩ := r1 c hc (hl.left i1 i2)
        obtain ⟨q3, q4⟩ := r2 c hc (hl.right i1 i2)
        refine ⟨⟨v, vs', rfl, q1, q3⟩, fun i x hx => ?_⟩
        rw [find_append] at hx
        cases hb : BW.find b2 i with
        | none => rw [hb] at hx; exact q2 i x hx
        | some y => rw [hb] at hx; simp at hx; subst hx; exact q4 i _ hb
      · simp at he
    · simp at he

theorem intEs_sound {d : Bd} {ids : List Nat} : ∀ {es es' : List (Value × Bool × List AV)} {ms : List MapEntry} {o : List Nat} {k k' : Nat} {bw bw' : BW}, IEnts d es ms o → intEs ids k bw es = some (es', k', bw') →
    ∃ bwn, bw' = bwn ++ bw ∧ In k k' bwn o ∧ ∀ c, Good c d ids → Lies c k bwn o → EntRep c es' ms ∧ ∀ i x, BW.find bwn i = some x → BRep c i x
  | [], es', ms, o, k, k', bw, bw', h, he => by
    simp only [intEs, Option.some.injEq, Prod.mk.injEq] at he
    obtain ⟨rfl, rfl, rfl⟩ := he
    obtain ⟨rfl, rfl⟩ := h
    exact ⟨[], rfl, In.nil _, fun c hc hl => ⟨rfl, fun i x hx => by simp [BW.find] at hx⟩⟩
  | (key, g, cs) :: r, es', ms, o, k, k', bw, bw', h, he => by
    simp only [intEs] at he
    split at he
    · rename_i f' k1 bw1 h1
      split at he
      · rename_i g' k2 bw2 h2
        simp only [Option.some.injEq, Prod.mk.injEq] at he
        obtain ⟨rfl, rfl, rfl⟩ := he
        obtain ⟨m, ms', o1, o2, rfl, rfl, h5, h6, h3, h4⟩ := h
        obtain ⟨b1, rfl, i1, r1⟩ := intC_sound h3 h1
        obtain ⟨b2, rfl, i2, r2⟩ := intEs_sound h4 h2
        refine ⟨b2 ++ b1, by simp, i1.append i2, fun c hc hl => ?_⟩
        obtain ⟨q1, q2⟩ := r1 c hc (hl.left i1 i2)
        obtain ⟨q3, q4⟩ := r2 c hc (hl.right i1 i2)
        refine ⟨⟨m, ms', rfl, h5, h6, q1, q3⟩, fun i x hx => ?_⟩
        rw [find_append] at hx
        cases hb : BW.find b2 i with
        | none => rw [hb] at hx; exact q2 i x hx
        | some y => rw [hb] at hx; simp at hx; subst hx; exact q4 i _ hb
      · simp at he
    · simp at he

/-- What has come in with the boxes 'l'. -/
structure InB (k k' : Nat) (l : List Nat) (bs : Boxes) (bwn : BW) (o : List Nat) : Prop where
  num : k' = k + o.length
  dom : ∀ i, BW.find bwn i ≠ none ↔ ((k ≤ i ∧ i < k') ∨ i ∈ l)
  arr : ∀ i x, BW.find bwn i = some x → i ∉ l → ∃ ty sz es, x = .arr 0 ty sz false es
  box : ∀ (j id : Nat), l[j]? = some id → ∃ x, BW.find bwn id = some x ∧ kdOf (some x) = kdOf bs[j]? ∧ kdOf (some x) ≠ 0
  len : l.length = bs.length

theorem find_cons (j : Nat) (y : Blk) (b : BW) (i : Nat) : BW.find ((j, y) :: b) i = if j = i then some y else BW.find b i := by
  simp only [BW.find]
  cases hb : Nat.beq j i with
  | true => rw [if_pos (beqN hb)]; rfl
  | false =>
    have : ¬ j = i := fun he => by rw [he, Nat.beq_refl] at hb; simp at hb
    rw [if_neg this]
    rfl

theorem intBs_step {d : Bd} {ids : List Nat} {id : Nat} {r : List Nat} {x : Blk} {b : Blk} {bs : Boxes} {k k1 k2 : Nat} {b1 b2 : BW} {o1 o2 : List Nat} (hxk : kdOf (some x) = kdOf (some b)) (hx0 : kdOf (some x) ≠ 0)
    (hid : id ∉ r) (hfree : ∀ i, i ∈ id :: r → i < k ∨ k + (o1 ++ o2).length ≤ i) (i1 : In k k1 b1 o1) (i2 : InB k1 k2 r bs b2 o2)
    (r1 : ∀ c, Good c d ids → Lies c k b1 o1 → (c.bk id = some x → BRep c id x) ∧ ∀ i x, BW.find b1 i = some x → BRep c i x)
    (r2 : ∀ c, Good c d ids → Lies c k1 b2 o2 → ∀ i x, BW.find b2 i = some x → BRep c i x) :
    InB k k2 (id :: r) (b :: bs) (b2 ++ (id, x) :: b1) (o1 ++ o2) ∧ ∀ c, Good c d ids → Lies c k (b2 ++ (id, x) :: b1) (o1 ++ o2) → ∀ i x', BW.find (b2 ++ (id, x) :: b1) i = some x' → BRep c i x' := by
  have e1 := i1.num
  have e2 := i2.num
  have hlen : (o1 ++ o2).length = o1.length + o2.length := List.length_append
  have hid' := hfree id (by simp)
  have hb2id : BW.find b2 id = none := by
    cases h : BW.find b2 id with
    | none => rfl
    | some y =>
      rcases (i2.dom id).1 (by rw [h]; simp) with h | h
      · omega
      · exact absurd h hid
  have hb2 : ∀ i, BW.find b2 i ≠ none → (k1 ≤ i ∧ i < k2) ∨ i ∈ r := fun i => (i2.dom i).1
  have hb1 : ∀ i, BW.find b1 i ≠ none → k ≤ i ∧ i < k1 := fun i => (i1.dom i).1
  have hleft : ∀ c, Lies c k (b2 ++ (id, x) :: b1) (o1 ++ o2) → Lies c k b1 o1 := by
    intro c hl
    refine ⟨fun j y hj => hl.1 j y ?_, fun i y hy => hl.2 i y ?_⟩
    · rw [List.getElem?_append_left (List.getElem?_eq_some_iff.1 hj).1]; exact hj
    · rw [find_append, find_cons]
      have h3 := hb1 i (by rw [hy]; simp)
      cases hb : BW.find b2 i with
      | none =>
        have : ¬ id = i := by omega
        simp only [if_neg this]
        exact hy
      | some z =>
        rcases hb2 i (by rw [hb]; simp) with h | h
        · omega
        · have := hfree i (by simp [h]); omega
  have hright : ∀ c, Lies c k (b2 ++ (id, x) :: b1) (o1 ++ o2) → Lies c k1 b2 o2 := by
    intro c hl
    refine ⟨fun j y hj => ?_, fun i y hy => hl.2 i y (by rw [find_append, hy])⟩
    have := hl.1 (o1.length + j) y (by rw [List.getElem?_append_right (by omega)]; simpa using hj)
    rw [e1, Nat.add_assoc]
    exact this
  refine ⟨⟨by omega, fun i => ?_, fun i y hy hn => ?_, fun j i hj => ?_, by simp [i2.len]⟩, fun c hc hl i y hy => ?_⟩
  · rw [find_append, find_cons]
    cases hb : BW.find b2 i with
    | some z =>
      have := hb2 i (by rw [hb]; simp)
      simp only [ne_eq, reduceCtorEq, not_false_eq_true, true_iff, List.mem_cons]
      rcases this with h | h
      · left; omega
      · right; right; exact h
    | none =>
      have hn2 : ¬ ((k1 ≤ i ∧ i < k2) ∨ i ∈ r) := fun h => (i2.dom i).2 h hb
      by_cases hi : id = i
      · subst hi
        simp
      · simp only [if_neg hi]
        rw [i1.dom i]
        simp only [List.mem_cons]
        constructor
        · intro h; left; omega
        · rintro (h | h | h)
          · rcases Nat.lt_or_ge i k1 with h' | h'
            · omega
            · exact absurd (.inl ⟨h', h.2⟩) hn2
          · exact absurd h.symm hi
          · exact absurd (.inr h) hn2
  · rw [find_append, find_cons] at hy
    simp only [List.mem_cons, not_or] at hn
    cases hb : BW.find b2 i with
    | some z => rw [hb] at hy; simp at hy; subst hy; exact i2.arr i _ hb hn.2
    | none =>
      rw [hb] at hy
      simp only [if_neg (fun h : id = i => hn.1 h.symm)] at hy
      exact i1.arr i y hy
  · cases j with
    | zero =>
      simp only [List.getElem?_cons_zero, Option.some.injEq] at hj
      subst hj
      exact ⟨x, by rw [find_append, hb2id, find_cons, if_pos rfl], hxk, hx0⟩
    | succ j =>
      simp only [List.getElem?_cons_succ] at hj ⊢
      obtain ⟨y, h1, h2⟩ := i2.box j i hj
      exact ⟨y, by rw [find_append, h1], h2⟩
  · have hl1 := hleft c hl
    have hl2 := hright c hl
    obtain ⟨q1, q2⟩ := r1 c hc hl1
    rw [find_append, find_cons] at hy
    cases hb : BW.find b2 i with
    | some z => rw [hb] at hy; simp at hy; subst hy; exact r2 c hc hl2 i _ hb
    | none =>
      rw [hb] at hy
      by_cases hi : id = i
      · subst hi
        simp only [if_pos, Option.some.injEq] at hy
        subst hy
        exact q1 (hl.2 id x (by rw [find_append, hb2id, find_cons, if_pos rfl]))
      · simp only [if_neg hi] at hy
        exact q2 i y hy

theorem intBs_sound {d : Bd} {ids : List Nat} : ∀ {l : List Nat} {bs : Boxes} {k0 : Nat} {o : List Nat} {k k' : Nat} {bw bw' : BW}, IBoxes d k0 bs o → intBs ids k bw l bs = some (k', bw') → (∀ j, j < l.length → ids[k0 + j]? = l[j]?) → l.Nodup →
    (∀ i, i ∈ l → i < k ∨ k + o.length ≤ i) →
    ∃ bwn, bw' = bwn ++ bw ∧ InB k k' l bs bwn o ∧ ∀ c, Good c d ids → Lies c k bwn o → ∀ i x, BW.find bwn i = some x → BRep c i x
  | [], [], k0, o, k, k', bw, bw', h, he, hj, hn, hf => by
    simp only [intBs, Option.some.injEq, Prod.mk.injEq] at he
    obtain ⟨rfl, rfl⟩ := he
    have : o = [] := h
    subst this
    exact ⟨[], rfl, ⟨rfl, fun i => by simp [BW.find], fun i x hx => by simp [BW.find] at hx, fun j id hj => by simp at hj, rfl⟩, fun c hc hl i x hx => by simp [BW.find] at hx⟩
  | id :: r, .box ty cs :: bs, k0, o, k, k', bw, bw', h, he, hj, hn, hf => by
    simp only [intBs] at he
    split at he
    case h_2 => simp at he
    case h_1 xs k1 bw1 h1 =>
      obtain ⟨C, f, o1, o2, h2, h3, rfl, h4, h5⟩ := h
      obtain ⟨b1, rfl, i1, r1⟩ := intL_sound cs C.toList o1 k bw xs k1 bw1 h4 h1
      have e1 := i1.num
      obtain ⟨b2, rfl, i2, r2⟩ := intBs_sound h5 he (fun j hj' => by
        have := hj (j + 1) (by simpa using hj')
        rw [show k0 + 1 + j = k0 + (j + 1) by omega]
        simpa using this) (List.nodup_cons.1 hn).2 (fun i hi => by
        have := hf i (by simp [hi])
        rw [List.length_append] at this
        omega)
      have h0 := hj 0 (by simp)
      simp only [Nat.add_zero, List.getElem?_cons_zero] at h0
      obtain ⟨q1, q2⟩ := intBs_step (d := d) (ids := ids) (x := .box ty xs) (b := .box ty cs) rfl (by simp [kdOf]) (List.nodup_cons.1 hn).1 hf i1 i2 (fun c hc hl => ⟨fun hb => ⟨C, f, by rw [(hc.ids k0 id h0).1, hc.w]; exact h2, h3, (r1 c hc hl).1⟩, (r1 c hc hl).2⟩) r2
      exact ⟨b2 ++ (id, .box ty xs) :: b1, by simp, q1, q2⟩
  | id :: r, .map es :: bs, k0, o, k, k', bw, bw', h, he, hj, hn, hf => by
    simp only [intBs] at he
    split at he
    case h_2 => simp at he
    case h_1 xs k1 bw1 h1 =>
      obtain ⟨ms, ck, o1, o2, h2, hst, rfl, h4, h5⟩ := h
      obtain ⟨b1, rfl, i1, r1⟩ := intEs_sound h4 h1
      have e1 := i1.num
      obtain ⟨b2, rfl, i2, r2⟩ := intBs_sound h5 he (fun j hj' => by
        have := hj (j + 1) (by simpa using hj')
        rw [show k0 + 1 + j = k0 + (j + 1) by omega]
        simpa using this) (List.nodup_cons.1 hn).2 (fun i hi => by
        have := hf i (by simp [hi])
        rw [List.length_append] at this
        omega)
      have h0 := hj 0 (by simp)
      simp only [Nat.add_zero, List.getElem?_cons_zero] at h0
      obtain ⟨q1, q2⟩ := intBs_step (d := d) (ids := ids) (x := .map xs) (b := .map es) rfl (by simp [kdOf]) (List.nodup_cons.1 hn).1 hf i1 i2 (fun c hc hl => ⟨fun hb => ⟨ms, ck, by rw [(hc.ids k0 id h0).1, hc.w]; exact h2, hst, (r1 c hc hl).1⟩, (r1 c hc hl).2⟩) r2
      exact ⟨b2 ++ (id, .map xs) :: b1, by simp, q1, q2⟩
  | [], _ :: _, _, _, _, _, _, _, h, he, _, _, _ => by simp [intBs] at he
  | _ :: _, [], _, _, _, _, _, _, h, he, _, _, _ => by simp [intBs] at he
  | _ :: _, .arr _ _ _ _ _ :: _, _, _, _, _, _, _, h, he, _, _, _ => by simp [intBs] at he
  | _ :: _, .lent :: _, _, _, _, _, _, _, h, he, _, _, _ => by simp [intBs] at he
  | _ :: _, .gone :: _, _, _, _, _, _, _, h, he, _, _, _ => by simp [intBs] at he

end Go.Proofs.YtggofahhehkbbaaGreatDoor.Ev
