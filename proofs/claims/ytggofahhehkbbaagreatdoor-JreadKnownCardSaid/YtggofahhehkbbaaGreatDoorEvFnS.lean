/- Functions: sound. -/
import Derived.Test.YtggofahhehkbbaaGreatDoorEvCodeS
namespace Go.Proofs.YtggofahhehkbbaaGreatDoor.Ev
set_option autoImplicit false
set_option linter.unusedVariables false
set_option linter.unusedSimpArgs false

theorem ivals_length {d : Bd} : ∀ {vs : Args} {us : List Value} {o : List Nat}, IVals d vs us o → us.length = vs.length
  | [], us, o, h => by rw [h.1]; rfl
  | (g, cs) :: r, us, o, h => by
    obtain ⟨v, us', o1, o2, rfl, rfl, _, h4⟩ := h
    simp [ivals_length h4]

theorem vrepT_length {c : RepCtx} : ∀ {vs : Args} {us : List Value}, VRepT c vs us → us.length = vs.length
  | [], us, h => by have : us = [] := h; rw [this]; rfl
  | (g, cs) :: r, us, h => by
    obtain ⟨v, us', rfl, _, h4⟩ := h
    simp [vrepT_length h4]

theorem argT_rep {c : RepCtx} : ∀ {vs : Args} {us : List Value}, VRepT c vs us → ∀ t, VRep c (argT vs t) ((us[t]?).getD undef)
  | [], us, h, t => by have : us = [] := h; subst this; simp only [argT]; exact vrep_undef c
  | (g, cs) :: r, us, h, t => by
    obtain ⟨v, us', rfl, h1, h2⟩ := h
    cases t with
    | zero => exact h1
    | succ t => simpa [argT] using argT_rep h2 t

/-! ### In -/
theorem enter_sound {B : Base} {bxs : Boxes} {args : Args} {us : List Value} {β : Nat → Nat} {o : List Nat} {n : Nat} {st : St} (hb : Border B.w0 B.N0 bxs args us β o) (hO : ∀ b, B.O0 b ↔ b ∈ bdBlocks bxs β o) (hB : BaseOK B)
    (he : enterSt args bxs = some st) (hn : args.length ≤ n) :
    Inv B ⟨bxs.length, β, fun k => kdOf bxs[k]?, [], fun _ => none⟩ n st { tmps := us.toArray ++ Array.replicate (n - us.toArray.size) undef, defers := [] } B.w0 := by
  unfold enterSt at he
  split at he
  case h_2 => simp at he
  case h_1 as k bw1 h1 =>
    split at he
    case h_2 => simp at he
    case h_1 k' bw2 h2 =>
      simp only [Option.some.injEq] at he
      subst he
      obtain ⟨o1, o2, rfl, hiv, hib⟩ := hb.vals
      obtain ⟨bwV, rfl, iV, rV⟩ := intVs_sound hiv h1
      have hk := iV.num
      obtain ⟨bwB, rfl, iB, rB⟩ := intBs_sound (ids := rangeL 0 bxs.length) hib h2 (fun j _ => by rw [Nat.zero_add]) rangeL_nodup (fun i hi => by have := range_mem.1 hi; omega)
      have hk' := iB.num
      let ι : Nat → Nat := fun i => if i < bxs.length then β i else (o1 ++ o2).getD (i - bxs.length) 0
      let st : St := St.setBs { tm := argT as, bk := fun _ => none, nx := k' } (bwB ++ (bwV ++ []))
      have hbk : ∀ i, st.bk i = match BW.find bwB i with | some x => some x | none => BW.find bwV i := by
        intro i
        show (St.setBs _ _).bk i = _
        rw [setBs_append]
        cases BW.find bwB i with
        | some x => rfl
        | none =>
          simp only
          rw [setBs_append]
          cases BW.find bwV i <;> rfl
      have hblk1 : ∀ pos, pos < bxs.length → (bdBlocks bxs β (o1 ++ o2))[pos]? = some (β pos) := by
        intro pos h
        unfold bdBlocks
        rw [List.getElem?_append_left (by simpa using h), List.getElem?_map, List.getElem?_range h]
        rfl
      have hblk2 : ∀ (j b : Nat), (o1 ++ o2)[j]? = some b → (bdBlocks bxs β (o1 ++ o2))[bxs.length + j]? = some b := by
        intro j b h
        unfold bdBlocks
        rw [List.getElem?_append_right (by simp)]
        simpa using h
      have hdom : ∀ i x, st.bk i = some x → (bdBlocks bxs β (o1 ++ o2))[i]? = some (ι i) := by
        intro i x hi
        rw [hbk] at hi
        have hlt : i < bxs.length ∨ (bxs.length ≤ i ∧ i < k') := by
          cases hfB : BW.find bwB i with
          | some y =>
            rcases (iB.dom i).1 (by rw [hfB]; simp) with h | h
            · right; omega
            · left; have := range_mem.1 h; omega
          | none =>
            rw [hfB] at hi
            simp only at hi
            have := (iV.dom i).1 (by rw [hi]; simp)
            right; omega
        rcases hlt with h | ⟨h, h'⟩
        · simp only [ι, if_pos h]
          exact hblk1 i h
        · have hj : i - bxs.length < (o1 ++ o2).length := by rw [List.length_append]; omega
          have hg := List.getElem?_eq_getElem hj
          have := hblk2 _ _ hg
          rw [show bxs.length + (i - bxs.length) = i by omega] at this
          simp only [ι, if_neg (by omega : ¬ i < bxs.length)]
          rw [this]
          simp [List.getD, hg]
      have hidx : ∀ (j i : Nat), (rangeL 0 bxs.length)[j]? = some i → i = j ∧ j < bxs.length := by
        intro j i hj
        have hl := (List.getElem?_eq_some_iff.1 hj).1
        rw [rangeL_length] at hl
        rw [rangeL_get hl] at hj
        simp at hj
        exact ⟨hj.symm, hl⟩
      have hgood : Good (ctx B st.bk B.w0 ι) (mkBd B.w0 B.N0 bxs β) (rangeL 0 bxs.length) := by
        refine ⟨rfl, fun b hb' => ⟨.inl hb', (hB.n0 b hb').1, fun i x hi _ he => ?_⟩, fun j i hj => ?_⟩
        · have := List.mem_of_getElem? (hdom i x hi)
          rw [he] at this
          exact (hB.n0 b hb').2 ((hO b).2 this)
        · obtain ⟨x, h3, h4, h5⟩ := iB.box j i hj
          obtain ⟨rfl, hl⟩ := hidx j i hj
          exact ⟨by simp only [ctx, ι, if_pos hl]; rfl, x, by simp only [ctx]; rw [hbk, h3], h5, h4⟩
      have hι2 : ∀ (j b : Nat), (o1 ++ o2)[j]? = some b → ι (bxs.length + j) = b := by
        intro j b hj
        simp only [ι]
        rw [if_neg (by omega), show bxs.length + j - bxs.length = j by omega]
        simp [List.getD, hj]
      have hlV : Lies (ctx B st.bk B.w0 ι) bxs.length bwV o1 := by
        refine ⟨fun j b hj => hι2 j b (by rw [List.getElem?_append_left (List.getElem?_eq_some_iff.1 hj).1]; exact hj), fun i x hi => ?_⟩
        simp only [ctx]
        rw [hbk, hi]
        have h3 := (iV.dom i).1 (by rw [hi]; simp)
        cases hfB : BW.find bwB i with
        | none => rfl
        | some y =>
          rcases (iB.dom i).1 (by rw [hfB]; simp) with h | h
          · omega
          · have := range_mem.1 h; omega
      have hlB : Lies (ctx B st.bk B.w0 ι) k bwB o2 := by
        refine ⟨fun j b hj => ?_, fun i x hi => by simp only [ctx]; rw [hbk, hi]⟩
        have := hι2 (o1.length + j) b (by rw [List.getElem?_append_right (by omega)]; simpa using hj)
        rw [hk, Nat.add_assoc]
        exact this
      obtain ⟨vV, bV⟩ := rV _ hgood hlV
      have bB := rB _ hgood hlB
      have hlen := vrepT_length vV
      have hlen2 := ivals_length hiv
      refine ⟨⟨rfl, fun t v h => by simp at h⟩, by simp; omega, ι, ⟨⟨⟨rfl, rfl, rfl, Nat.le_refl _, fun _ _ _ => rfl, fun _ => Nat.le_refl _⟩, fun i x hi _ => .inl ((hO _).2 (List.mem_of_getElem? (hdom i x hi))), fun i j x y hi hj _ _ he => ?_, fun i x hi => ?_⟩, fun t => ?_⟩, fun k0 hk0 => ?_⟩
      · have h3 := hdom i x hi
        have h4 := hdom j y hj
        exact (List.getElem?_inj (List.getElem?_eq_some_iff.1 h3).1 hb.nodup).1 (by rw [h3, h4, he])
      · have hi' := hi
        rw [hbk] at hi
        cases hfB : BW.find bwB i with
        | some y => rw [hfB] at hi; simp only [Option.some.injEq] at hi; subst hi; exact bB i _ hfB
        | none => rw [hfB] at hi; exact bV i x hi
      · have htm : st.tm = argT as := setBs_tm _ _
        show VRep (ctx B st.bk B.w0 ι) (st.tm t) _
        rw [htm]
        have h3 := argT_rep vV t
        have : (us.toArray ++ Array.replicate (n - us.toArray.size) undef).getD t undef = (us[t]?).getD undef := by
          rw [Array.getD_eq_getD_getElem?, Array.getElem?_append]
          split
          · simp
          · rename_i hge
            simp only [List.size_toArray] at hge
            rw [List.getElem?_eq_none (by omega), Array.getElem?_replicate]
            split <;> rfl
        simp only
        rw [this]
        exact h3
      · obtain ⟨x, h3, h4, h5⟩ := iB.box k0 k0 (by have := rangeL_get (a := 0) hk0; simpa using this)
        exact ⟨x, by show st.bk k0 = _; rw [hbk, h3], fun _ => ⟨by simp only [ι]; exact if_pos hk0, h4⟩⟩

end Go.Proofs.YtggofahhehkbbaaGreatDoor.Ev
