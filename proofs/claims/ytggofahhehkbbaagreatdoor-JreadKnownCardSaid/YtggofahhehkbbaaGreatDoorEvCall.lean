/- A call: sound. -/
import Derived.Test.YtggofahhehkbbaaGreatDoorEvBdI
namespace Go.Proofs.YtggofahhehkbbaaGreatDoor.Ev
set_option autoImplicit false
set_option linter.unusedVariables false
set_option linter.unusedSimpArgs false

theorem memN_iff {n : Nat} : ∀ {l : List Nat}, memN n l = true ↔ n ∈ l
  | [] => by simp [memN]
  | a :: r => by
    simp only [memN, Bool.or_eq_true, List.mem_cons, memN_iff]
    constructor
    · rintro (h | h)
      · exact .inl (beqN h).symm
      · exact .inr h
    · rintro (h | h)
      · subst h; exact .inl (Nat.beq_refl _)
      · exact .inr h

theorem memN_false {n : Nat} {l : List Nat} (h : memN n l = false) : n ∉ l := fun hm => by rw [memN_iff.2 hm] at h; simp at h

theorem reach_nodup {st : St} {bw : BW} : ∀ {n : Nat} {l seen ids : List Nat}, (reach bw n l seen).ev st = some ids → seen.Nodup → ids.Nodup
  | n, [], seen, ids, h, hs => by
    cases n <;> (simp only [reach, ev_ret, Option.some.injEq] at h; subst h; exact (List.reverse_perm _).nodup_iff.2 hs)
  | 0, _ :: _, seen, ids, h, hs => by simp [reach] at h
  | n + 1, id :: r, seen, ids, h, hs => by
    simp only [reach] at h
    cases hm : memN id seen with
    | true => rw [hm] at h; exact reach_nodup h hs
    | false =>
      rw [hm] at h
      simp only [ev_bind, ev_getBO, Option.bind_some] at h
      have hs' : (id :: seen).Nodup := List.nodup_cons.2 ⟨memN_false hm, hs⟩
      cases hb : (st.setBs bw).bk id with
      | none => rw [hb] at h; simp at h
      | some b =>
        rw [hb] at h
        cases b with
        | box ty cs => exact reach_nodup h hs'
        | map es => exact reach_nodup h hs'
        | _ => simp at h

theorem reach_pre {st : St} {bw : BW} : ∀ {n : Nat} {l1 l2 seen ids : List Nat}, (reach bw n (l1 ++ l2) seen).ev st = some ids → (seen.reverse ++ l1).Nodup → (seen.reverse ++ l1) <+: ids
  | n, [], l2, seen, ids, h, hs => by
    have gen : ∀ {n : Nat} {l seen ids : List Nat}, (reach bw n l seen).ev st = some ids → seen.reverse <+: ids := by
      intro n
      induction n with
      | zero =>
        intro l seen ids h
        cases l with
        | nil => simp only [reach, ev_ret, Option.some.injEq] at h; subst h; exact List.prefix_refl _
        | cons _ _ => simp [reach] at h
      | succ n ih =>
        intro l seen ids h
        cases l with
        | nil => simp only [reach, ev_ret, Option.some.injEq] at h; subst h; exact List.prefix_refl _
        | cons id r =>
          simp only [reach] at h
          cases hm : memN id seen with
          | true => rw [hm] at h; exact ih h
          | false =>
            rw [hm] at h
            simp only [ev_bind, ev_getBO, Option.bind_some] at h
            have hp : seen.reverse <+: (id :: seen).reverse := by simp
            cases hb : (st.setBs bw).bk id with
            | none => rw [hb] at h; simp at h
            | some b =>
              rw [hb] at h
              cases b with
              | box ty cs => exact hp.trans (ih h)
              | map es => exact hp.trans (ih h)
              | _ => simp at h
    rw [List.append_nil]
    exact gen h
  | 0, _ :: _, _, seen, ids, h, hs => by simp [reach] at h
  | n + 1, id :: r, l2, seen, ids, h, hs => by
    simp only [List.cons_append, reach] at h
    have hns : id ∉ seen := fun hm => by
      rw [List.nodup_append] at hs
      exact hs.2.2 id (by simpa using hm) id (by simp) rfl
    have hm : memN id seen = false := by
      cases hb : memN id seen with
      | false => rfl
      | true => exact absurd (memN_iff.1 hb) hns
    rw [hm] at h
    simp only [ev_bind, ev_getBO, Option.bind_some] at h
    have hs' : ((id :: seen).reverse ++ r).Nodup := by simpa using hs
    cases hb : (st.setBs bw).bk id with
    | none => rw [hb] at h; simp at h
    | some b =>
      rw [hb] at h
      cases b with
      | box ty cs =>
        simp only [List.append_assoc] at h
        have := reach_pre h hs'
        simpa using this
      | map es =>
        simp only [List.append_assoc] at h
        have := reach_pre h hs'
        simpa using this
      | _ => simp at h

theorem unlend_find : ∀ (bw : BW) (i : Nat), BW.find (unlend bw) i = match BW.find bw i with | some .lent => some .gone | x => x
  | [], i => rfl
  | (j, b) :: r, i => by
    have ih := unlend_find r i
    cases hj : Nat.beq j i with
    | true => cases b <;> simp [unlend, BW.find, hj]
    | false => cases b <;> simp [unlend, BW.find, hj, ih]

theorem range_mem {a : Nat} : ∀ {n i : Nat}, i ∈ rangeL a n ↔ a ≤ i ∧ i < a + n
  | 0, i => by simp only [rangeL, List.not_mem_nil, false_iff]; omega
  | n + 1, i => by
    simp only [rangeL, List.mem_cons]
    rw [range_mem (a := a + 1)]
    omega

theorem rangeL_length {a : Nat} : ∀ {n : Nat}, (rangeL a n).length = n
  | 0 => rfl
  | n + 1 => by simp [rangeL, rangeL_length]

theorem rangeL_get {a : Nat} : ∀ {n j : Nat}, j < n → (rangeL a n)[j]? = some (a + j)
  | 0, j, h => by omega
  | n + 1, 0, h => by simp [rangeL]
  | n + 1, j + 1, h => by
    simp only [rangeL, List.getElem?_cons_succ]
    rw [rangeL_get (by omega)]
    congr 1
    omega

theorem rangeL_nodup {a : Nat} : ∀ {n : Nat}, (rangeL a n).Nodup
  | 0 => List.nodup_nil
  | n + 1 => by
    simp only [rangeL]
    refine List.nodup_cons.2 ⟨fun h => ?_, rangeL_nodup⟩
    have := range_mem.1 h
    omega

theorem freeRange_ev {st : St} {bw : BW} : ∀ {n k : Nat} {u : Unit}, (freeRange bw k n).ev st = some u → ∀ i, k ≤ i → i < k + n → (st.setBs bw).bk i = none
  | 0, k, u, h, i, h1, h2 => by omega
  | n + 1, k, u, h, i, h1, h2 => by
    simp only [freeRange, ev_bind] at h
    obtain ⟨_, h3, h4⟩ := bind_some h
    rcases Nat.eq_or_lt_of_le h1 with h5 | h5
    · subst h5; exact freeId_ev h3
    · exact freeRange_ev h4 i h5 (by omega)

theorem setBs_append (st : St) (a b : BW) (i : Nat) : (st.setBs (a ++ b)).bk i = match BW.find a i with | some x => some x | none => (st.setBs b).bk i := by
  rw [find_setBs, find_append]
  cases BW.find a i with
  | some x => rfl
  | none => simp only; rw [find_setBs]

theorem intBs_num {d : Bd} {ids : List Nat} : ∀ {l : List Nat} {bs : Boxes} {k0 : Nat} {o : List Nat} {k k' : Nat} {bw bw' : BW}, IBoxes d k0 bs o → intBs ids k bw l bs = some (k', bw') → k' = k + o.length
  | [], [], k0, o, k, k', bw, bw', h, he => by
    simp only [intBs, Option.some.injEq, Prod.mk.injEq] at he
    have : o = [] := h
    subst this
    exact he.1.symm
  | id :: r, .box ty cs :: bs, k0, o, k, k', bw, bw', h, he => by
    simp only [intBs] at he
    split at he
    case h_2 => simp at he
    case h_1 xs k1 bw1 h1 =>
      obtain ⟨C, f, o1, o2, h2, h3, rfl, h4, h5⟩ := h
      obtain ⟨b1, rfl, i1, r1⟩ := intL_sound cs C.toList o1 k bw xs k1 bw1 h4 h1
      have e1 := i1.num
      have := intBs_num h5 he
      rw [List.length_append]
      omega
  | id :: r, .map es :: bs, k0, o, k, k', bw, bw', h, he => by
    simp only [intBs] at he
    split at he
    case h_2 => simp at he
    case h_1 xs k1 bw1 h1 =>
      obtain ⟨ms, ck, o1, o2, h2, hst, rfl, h4, h5⟩ := h
      obtain ⟨b1, rfl, i1, r1⟩ := intEs_sound h4 h1
      have e1 := i1.num
      have := intBs_num h5 he
      rw [List.length_append]
      omega
  | [], _ :: _, _, _, _, _, _, _, h, he => by simp [intBs] at he
  | _ :: _, [], _, _, _, _, _, _, h, he => by simp [intBs] at he
  | _ :: _, .arr _ _ _ _ _ :: _, _, _, _, _, _, _, h, he => by simp [intBs] at he
  | _ :: _, .lent :: _, _, _, _, _, _, _, h, he => by simp [intBs] at he
  | _ :: _, .gone :: _, _, _, _, _, _, _, h, he => by simp [intBs] at he

theorem kd_owned {b : Blk} (h : kdOf (some b) ≠ 0) : b.owned = true := by cases b <;> first | rfl | exact absurd rfl h

theorem kd_compat {c c' : RepCtx} {id : Nat} {b b' : Blk} (h0 : kdOf (some b) ≠ 0) (h : kdOf (some b') = kdOf (some b)) (hι : c'.ι id = c.ι id) : Compat c c' id b b' := by
  cases b <;> first | exact absurd rfl h0 | (cases b' <;> first | (simp [kdOf] at h; done) | exact ⟨⟨_, rfl⟩, hι⟩ | exact ⟨⟨_, _, rfl⟩, hι⟩)

/-- What comes back from a call, taken in. -/
theorem take_core {B : Base} {st : St} {w w' : World} {ι : Nat → Nat} {bw : BW} {M ids : List Nat} {base n : Nat} {bx0 bs : Boxes} {β' : Nat → Nat} {o : List Nat} {vs rs : Args} {us : List Value} {k k' : Nat} {bw1 bw2 : BW}
    (hx : ExtS B st w ι [] bw M) (hbx : ∀ j, j < ids.length → kdOf bx0[j]? = kdOf ((ids[j]?).bind (st.setBs bw).bk) ∧ kdOf bx0[j]? ≠ 0) (hl0 : bx0.length = ids.length) (hn : ids.Nodup)
    {B' : Base} (hB1 : ∀ b, B'.N0 b ↔ nav B (st.setBs bw).bk w ι b) (hB2 : ∀ b, B'.O0 b ↔ b ∈ bdBlocks bx0 (fun j => ι (ids.getD j 0)) (M.map ι)) (hB3 : B'.w0 = w) (hB4 : B'.md = B.md)
    (hkeep : Keep B' w') (hbl : bs.length = ids.length + n) (hβ : ∀ k, k < ids.length → β' k = ι (ids.getD k 0) ∧ kdOf bs[k]? = kdOf bx0[k]?)
    (hbd : Border w' (fun b => B'.A b ∧ b < w'.heap.size ∧ b ∉ bdBlocks bs β' o) bs vs us β' o) (hterr : ∀ b, b ∈ bdBlocks bs β' o → B'.O0 b ∨ B'.w0.heap.size ≤ b)
    (he1 : intVs (ids ++ rangeL base n) (base + n) (unlend bw) vs = some (rs, k, bw1)) (he2 : intBs (ids ++ rangeL base n) k bw1 (ids ++ rangeL base n) bs = some (k', bw2))
    (hfree : ∀ i, base ≤ i → i < k' → (st.setBs (unlend bw)).bk i = none) :
    ∃ ι', Ext (ctx B st.bk w ι) (ctx B (st.setBs bw2).bk w' ι') ∧ SimB B (st.setBs bw2).bk w' ι' ∧ VRepT (ctx B (st.setBs bw2).bk w' ι') rs us := by
  have hs := hx.sim
  obtain ⟨o1, o2, rfl, hiv, hib⟩ := hbd.vals
  obtain ⟨bwV, rfl, iV, rV⟩ := intVs_sound hiv he1
  have hk := iV.num
  have hk' := intBs_num hib he2
  generalize hids : ids ++ rangeL base n = ids' at *
  have hidl : ids'.length = bs.length := by rw [← hids, List.length_append, rangeL_length, hbl]
  have hgetold : ∀ j, j < ids.length → ids'[j]? = ids[j]? := fun j hj => by rw [← hids, List.getElem?_append_left hj]
  have hgetnew : ∀ j, j < n → ids'[ids.length + j]? = some (base + j) := fun j hj => by
    rw [← hids, List.getElem?_append_right (by omega), show ids.length + j - ids.length = j by omega, rangeL_get hj]
  have hmem' : ∀ i, i ∈ ids' ↔ i ∈ ids ∨ (base ≤ i ∧ i < base + n) := fun i => by rw [← hids, List.mem_append, range_mem]
  -- what is there is not free
  have hbwu : ∀ i, (st.setBs (unlend bw)).bk i = match BW.find bw i with | some .lent => some .gone | _ => (st.setBs bw).bk i := by
    intro i
    rw [find_setBs, find_setBs, unlend_find]
    cases BW.find bw i with
    | none => rfl
    | some b => cases b <;> rfl
  have hnotfree : ∀ i b, (st.setBs bw).bk i = some b → ¬ (base ≤ i ∧ i < k') := by
    intro i b hb ⟨h1, h2⟩
    have := hfree i h1 h2
    rw [hbwu] at this
    split at this
    · simp at this
    · rw [hb] at this; simp at this
  have hidbk : ∀ i, i ∈ ids → ∃ b, (st.setBs bw).bk i = some b ∧ kdOf (some b) ≠ 0 := by
    intro i hi
    obtain ⟨j, hj⟩ := List.getElem?_of_mem hi
    have hjl := (List.getElem?_eq_some_iff.1 hj).1
    obtain ⟨h1, h2⟩ := hbx j hjl
    rw [h1, hj, Option.bind_some] at h2
    cases hb : (st.setBs bw).bk i with
    | none => rw [hb] at h2; exact absurd rfl h2
    | some b => rw [hb] at h2; exact ⟨b, rfl, h2⟩
  have hidnf : ∀ i, i ∈ ids → ¬ (base ≤ i ∧ i < k') := fun i hi => by
    obtain ⟨b, hb, _⟩ := hidbk i hi
    exact hnotfree i b hb
  have hnd' : ids'.Nodup := by
    rw [← hids, List.nodup_append]
    refine ⟨hn, rangeL_nodup, fun a ha b hb he => ?_⟩
    subst he
    have := range_mem.1 hb
    exact hidnf a ha ⟨this.1, by omega⟩
  obtain ⟨bwB, hbw2, iB, rB⟩ := intBs_sound hib he2 (fun j hj => by rw [Nat.zero_add]) hnd' (fun i hi => by
    rcases (hmem' i).1 hi with h | h
    · have := hidnf i h; omega
    · omega)
  subst hbw2
  -- where things lie now
  let ι' : Nat → Nat := fun i => if base ≤ i ∧ i < base + n then β' (ids.length + (i - base)) else if base + n ≤ i ∧ i < k' then (o1 ++ o2).getD (i - (base + n)) 0 else ι i
  have hι1 : ∀ i, ¬ (base ≤ i ∧ i < k') → ι' i = ι i := fun i hi => by
    simp only [ι']
    rw [if_neg (by omega), if_neg (by omega)]
  have hιid : ∀ (j i : Nat), ids'[j]? = some i → ι' i = β' j := by
    intro j i hj
    rcases Nat.lt_or_ge j ids.length with h | h
    · rw [hgetold j h] at hj
      have hi := List.mem_of_getElem? hj
      rw [hι1 i (hidnf i hi), (hβ j h).1]
      simp [hj]
    · have hjl := (List.getElem?_eq_some_iff.1 hj).1
      have := hgetnew (j - ids.length) (by omega)
      rw [show ids.length + (j - ids.length) = j by omega, hj] at this
      simp only [Option.some.injEq] at this
      subst this
      simp only [ι']
      rw [if_pos (by omega)]
      congr 1
      omega
  have hιo : ∀ (j b : Nat), (o1 ++ o2)[j]? = some b → ι' (base + n + j) = b := by
    intro j b hj
    have hjl := (List.getElem?_eq_some_iff.1 hj).1
    rw [List.length_append] at hjl
    simp only [ι']
    rw [if_neg (by omega), if_pos (by omega), show base + n + j - (base + n) = j by omega]
    simp [List.getD, hj]
  have hbkF : ∀ i, (st.setBs (bwB ++ (bwV ++ unlend bw))).bk i = match BW.find bwB i with | some x => some x | none => match BW.find bwV i with | some x => some x | none => (st.setBs (unlend bw)).bk i := by
    intro i
    rw [setBs_append]
    cases BW.find bwB i with
    | some x => rfl
    | none => simp only; rw [setBs_append]
  -- the blocks that came back
  have hBl : ∀ (pos b : Nat), (bdBlocks bs β' (o1 ++ o2))[pos]? = some b → (pos < bs.length ∧ β' pos = b) ∨ (bs.length ≤ pos ∧ (o1 ++ o2)[pos - bs.length]? = some b) := by
    intro pos b hp
    unfold bdBlocks at hp
    rcases Nat.lt_or_ge pos bs.length with h | h
    · rw [List.getElem?_append_left (by simpa using h)] at hp
      rw [List.getElem?_map, List.getElem?_range h] at hp
      simp at hp
      exact .inl ⟨h, hp⟩
    · rw [List.getElem?_append_right (by simpa using h)] at hp
      simp at hp
      exact .inr ⟨h, by simpa using hp⟩
  have hblk1 : ∀ pos, pos < bs.length → (bdBlocks bs β' (o1 ++ o2))[pos]? = some (β' pos) := by
    intro pos h
    unfold bdBlocks
    rw [List.getElem?_append_left (by simpa using h), List.getElem?_map, List.getElem?_range h]
    rfl
  have hblk2 : ∀ (j b : Nat), (o1 ++ o2)[j]? = some b → (bdBlocks bs β' (o1 ++ o2))[bs.length + j]? = some b := by
    intro j b h
    unfold bdBlocks
    rw [List.getElem?_append_right (by simp)]
    simpa using h
  -- every owned block: one that came back, or an old one
  have hO0 : ∀ b, B'.O0 b → ∃ i x, (i ∈ ids ∨ i ∈ M) ∧ (st.setBs bw).bk i = some x ∧ x.owned = true ∧ ι i = b := by
    intro b hb
    rw [hB2] at hb
    unfold bdBlocks at hb
    rcases List.mem_append.1 hb with h | h
    · obtain ⟨j, hj, rfl⟩ := List.mem_map.1 h
      rw [List.mem_range, hl0] at hj
      obtain ⟨i, hi⟩ : ∃ i, ids[j]? = some i := ⟨_, List.getElem?_eq_getElem hj⟩
      have hm := List.mem_of_getElem? hi
      obtain ⟨x, hx1, hx2⟩ := hidbk i hm
      exact ⟨i, x, .inl hm, hx1, kd_owned hx2, by simp [hi]⟩
    · obtain ⟨i, hi, rfl⟩ := List.mem_map.1 h
      exact ⟨i, .lent, .inr hi, (hx.mv i hi).2, rfl, rfl⟩
  have hMfind : ∀ i, i ∈ M → BW.find bw i = some .lent := by
    intro i hi
    obtain ⟨⟨ep, ty, sz, es, h1⟩, h2⟩ := hx.mv i hi
    rw [find_setBs] at h2
    cases hf : BW.find bw i with
    | some b => rw [hf] at h2; exact h2
    | none => rw [hf] at h2; rw [setBs_nil] at h1; rw [h1] at h2; simp at h2
  have hold : ∀ i x, (st.setBs bw).bk i = some x → x.owned = true → i ∉ ids → i ∉ M → ∀ b, b ∈ bdBlocks bs β' (o1 ++ o2) → ι i ≠ b := by
    intro i x h1 h2 h3 h4 b hb he
    rcases hterr b hb with h | h
    · obtain ⟨i', x', h5, h6, h7, h8⟩ := hO0 b h
      have := hs.inj i i' x x' h1 h6 h2 h7 (by rw [he, h8])
      subst this
      rcases h5 with h5 | h5
      · exact h3 h5
      · exact h4 h5
    · have := hs.lt h1 h2
      rw [hB3] at h
      omega
  have hcls : ∀ i x, (st.setBs (bwB ++ (bwV ++ unlend bw))).bk i = some x → x.owned = true →
      (∃ pos, (bdBlocks bs β' (o1 ++ o2))[pos]? = some (ι' i) ∧ ∀ i2, (∃ j, j = pos ∧ j < bs.length ∧ ids'[j]? = some i2) ∨ (bs.length ≤ pos ∧ i2 = base + n + (pos - bs.length)) → i2 = i) ∧ ((∃ j, j < bs.length ∧ ids'[j]? = some i) ∨ ∃ j, j < (o1 ++ o2).length ∧ i = base + n + j) ∨
      ((st.setBs bw).bk i = some x ∧ i ∉ ids ∧ i ∉ M ∧ ι' i = ι i) := by
    intro i x hi ho
    rw [hbkF] at hi
    have hnew : i ∈ ids' ∨ (base + n ≤ i ∧ i < k') → (∃ pos, (bdBlocks bs β' (o1 ++ o2))[pos]? = some (ι' i) ∧ ∀ i2, (∃ j, j = pos ∧ j < bs.length ∧ ids'[j]? = some i2) ∨ (bs.length ≤ pos ∧ i2 = base + n + (pos - bs.length)) → i2 = i) ∧ ((∃ j, j < bs.length ∧ ids'[j]? = some i) ∨ ∃ j, j < (o1 ++ o2).length ∧ i = base + n + j) := by
      rintro (h | h)
      · obtain ⟨j, hj⟩ := List.getElem?_of_mem h
        have hjl := (List.getElem?_eq_some_iff.1 hj).1
        refine ⟨⟨j, by rw [hιid j i hj]; exact hblk1 j (by omega), fun i2 h2 => ?_⟩, .inl ⟨j, by omega, hj⟩⟩
        rcases h2 with ⟨j', rfl, _, h3⟩ | h3
        · rw [hj] at h3; simpa using h3.symm
        · omega
      · have hjl : i - (base + n) < (o1 ++ o2).length := by rw [List.length_append]; omega
        obtain ⟨b, hb⟩ : ∃ b, (o1 ++ o2)[i - (base + n)]? = some b := ⟨_, List.getElem?_eq_getElem hjl⟩
        have h1 := hιo _ b hb
        rw [show base + n + (i - (base + n)) = i by omega] at h1
        refine ⟨⟨bs.length + (i - (base + n)), by rw [h1]; exact hblk2 _ b hb, fun i2 h2 => ?_⟩, .inr ⟨i - (base + n), hjl, by omega⟩⟩
        rcases h2 with ⟨j', h3, h4, _⟩ | h3
        · omega
        · omega
    cases hfB : BW.find bwB i with
    | some y =>
      rcases (iB.dom i).1 (by rw [hfB]; simp) with h | h
      · exact .inl (hnew (.inr (by omega)))
      · exact .inl (hnew (.inl h))
    | none =>
      rw [hfB] at hi
      simp only at hi
      cases hfV : BW.find bwV i with
      | some y =>
        have := (iV.dom i).1 (by rw [hfV]; simp)
        exact .inl (hnew (.inr (by omega)))
      | none =>
        rw [hfV] at hi
        simp only at hi
        rw [hbwu] at hi
        have hnl : (st.setBs bw).bk i = some x ∧ BW.find bw i ≠ some .lent := by
          split at hi
          · simp only [Option.some.injEq] at hi; subst hi; simp [Blk.owned] at ho
          · rename_i h; exact ⟨hi, h⟩
        refine .inr ⟨hnl.1, fun hm => ?_, fun hm => hnl.2 (hMfind i hm), hι1 i (hnotfree i x hnl.1)⟩
        have := (iB.dom i).2 (.inr ((hmem' i).2 (.inl hm)))
        exact this hfB
  have hterr2 : ∀ b, b ∈ bdBlocks bs β' (o1 ++ o2) → B.O0 b ∨ B.w0.heap.size ≤ b := by
    intro b hb
    rcases hterr b hb with h | h
    · obtain ⟨i', x', h5, h6, h7, rfl⟩ := hO0 b h
      exact hs.terr i' x' h6 h7
    · right
      rw [hB3] at h
      exact Nat.le_trans hs.keep.size h
  have hsame : ∀ b, b < w.heap.size → ¬ B'.O0 b → w'.heap[b]? = w.heap[b]? := fun b h1 h2 => by
    have := hkeep.block b (by rw [hB3]; exact h1) h2
    rw [hB3] at this
    exact this
  have hsize : w.heap.size ≤ w'.heap.size := by have := hkeep.size; rw [hB3] at this; exact this
  have hnavO : ∀ b, nav B (st.setBs bw).bk w ι b → ¬ B'.O0 b := fun b hb h => by
    obtain ⟨i', x', h5, h6, h7, h8⟩ := hO0 b h
    exact hb.2.2 i' x' h6 h7 h8
  have hnavBl : ∀ b, nav B (st.setBs bw).bk w ι b → b ∉ bdBlocks bs β' (o1 ++ o2) := fun b hb hm => by
    rcases hterr b hm with h | h
    · exact hnavO b hb h
    · rw [hB3] at h
      have := hb.2.1
      omega
  have holdsame : ∀ i x, (st.setBs bw).bk i = some x → x.owned = true → i ∉ ids → i ∉ M → w'.heap[ι i]? = w.heap[ι i]? := by
    intro i x h1 h2 h3 h4
    refine hsame _ (hs.lt h1 h2) fun h => ?_
    obtain ⟨i', x', h5, h6, h7, h8⟩ := hO0 _ h
    have := hs.inj i i' x x' h1 h6 h2 h7 h8.symm
    subst this
    rcases h5 with h5 | h5
    · exact h3 h5
    · exact h4 h5
  have hlast : ∀ i b, (st.setBs bw).bk i = some b → BW.find bwV i = none ∧ (BW.find bwB i = none ∨ i ∈ ids) := by
    intro i b hb
    have h1 := hnotfree i b hb
    refine ⟨?_, ?_⟩
    · cases h : BW.find bwV i with
      | none => rfl
      | some y => have := (iV.dom i).1 (by rw [h]; simp); omega
    · cases h : BW.find bwB i with
      | none => exact .inl rfl
      | some y =>
        rcases (iB.dom i).1 (by rw [h]; simp) with h2 | h2
        · omega
        · rcases (hmem' i).1 h2 with h3 | h3
          · exact .inr h3
          · omega
  have ext : Ext (ctx B (st.setBs bw).bk w ι) (ctx B (st.setBs (bwB ++ (bwV ++ unlend bw))).bk w' ι') := by
    refine ⟨fun b hb => ⟨⟨hb.1, Nat.lt_of_lt_of_le hb.2.1 hsize, fun i x hi ho => ?_⟩, fun hlt => hsame b hlt (hnavO b hb)⟩, fun i b hb => ?_⟩
    · rcases hcls i x hi ho with ⟨⟨pos, h1, _⟩, _⟩ | ⟨h1, _, _, h2⟩
      · intro he
        rw [he] at h1
        exact hnavBl b hb (List.mem_of_getElem? h1)
      · rw [h2]
        exact hb.2.2 i x h1 ho
    · simp only [ctx] at hb ⊢
      have hnf := hnotfree i b hb
      obtain ⟨h1, h2⟩ := hlast i b hb
      rw [hbkF]
      by_cases hm : i ∈ ids
      · obtain ⟨j, hj⟩ := List.getElem?_of_mem hm
        have hjl := (List.getElem?_eq_some_iff.1 hj).1
        obtain ⟨x, h3, h4, h5⟩ := iB.box j i (by rw [hgetold j hjl]; exact hj)
        rw [h3]
        refine ⟨x, rfl, ?_⟩
        obtain ⟨h6, h7⟩ := hbx j hjl
        rw [hj, Option.bind_some, hb] at h6
        rw [h6] at h7
        exact kd_compat h7 (by rw [h4, (hβ j hjl).2, h6]) (hι1 i hnf)
      · have hB0 : BW.find bwB i = none := h2.resolve_right hm
        rw [hB0, h1]
        simp only
        rw [hbwu]
        split
        · exact ⟨.gone, rfl, trivial⟩
        · rename_i hnl
          refine ⟨b, hb, Compat.refl (hι1 i hnf) fun ho => holdsame i b hb ho hm fun hM => hnl (hMfind i hM)⟩
  have hgood : Good (ctx B (st.setBs (bwB ++ (bwV ++ unlend bw))).bk w' ι') (mkBd w' (fun b => B'.A b ∧ b < w'.heap.size ∧ b ∉ bdBlocks bs β' (o1 ++ o2)) bs β') ids' := by
    refine ⟨rfl, fun b hb => ⟨?_, hb.2.1, fun i x hi ho he => ?_⟩, fun j i hj => ⟨hιid j i hj, ?_⟩⟩
    · rcases hb.1 with h | h | h
      · exact ((hB1 b).1 h).1
      · obtain ⟨i', x', h5, h6, h7, rfl⟩ := hO0 b h
        exact .inr (hs.terr i' x' h6 h7)
      · rw [hB3] at h
        exact .inr (.inr (Nat.le_trans hs.keep.size h))
    · rcases hcls i x hi ho with ⟨⟨pos, h1, _⟩, _⟩ | ⟨h1, h2, h3, h4⟩
      · rw [he] at h1
        exact hb.2.2 (List.mem_of_getElem? h1)
      · rw [h4] at he
        rcases hb.1 with h | h | h
        · exact ((hB1 b).1 h).2.2 i x h1 ho he
        · obtain ⟨i', x', h5, h6, h7, h8⟩ := hO0 b h
          have := hs.inj i i' x x' h1 h6 ho h7 (by rw [he, h8])
          subst this
          rcases h5 with h5 | h5
          · exact h2 h5
          · exact h3 h5
        · have := hs.lt h1 ho
          rw [hB3] at h
          omega
    · obtain ⟨x, h3, h4, h5⟩ := iB.box j i hj
      exact ⟨x, by simp only [ctx]; rw [hbkF, h3], h5, h4⟩
  have hliesV : Lies (ctx B (st.setBs (bwB ++ (bwV ++ unlend bw))).bk w' ι') (base + n) bwV o1 := by
    refine ⟨fun j b hj => hιo j b (by rw [List.getElem?_append_left (List.getElem?_eq_some_iff.1 hj).1]; exact hj), fun i x hi => ?_⟩
    simp only [ctx]
    rw [hbkF, hi]
    have h1 := (iV.dom i).1 (by rw [hi]; simp)
    cases hfB : BW.find bwB i with
    | none => rfl
    | some y =>
      rcases (iB.dom i).1 (by rw [hfB]; simp) with h | h
      · omega
      · rcases (hmem' i).1 h with h' | h'
        · exact absurd ⟨by omega, by omega⟩ (hidnf i h')
        · omega
  have hliesB : Lies (ctx B (st.setBs (bwB ++ (bwV ++ unlend bw))).bk w' ι') k bwB o2 := by
    refine ⟨fun j b hj => ?_, fun i x hi => by simp only [ctx]; rw [hbkF, hi]⟩
    have := hιo (o1.length + j) b (by rw [List.getElem?_append_right (by omega)]; simpa using hj)
    rw [hk, Nat.add_assoc (base + n)]
    exact this
  obtain ⟨vV, bV⟩ := rV _ hgood hliesV
  have bB := rB _ hgood hliesB
  refine ⟨ι', hx.ext.trans ext (Nat.le_refl _), ⟨⟨?_, ?_, ?_, Nat.le_trans hs.keep.size hsize, fun b h1 h2 => ?_, fun hm => ?_⟩, fun i x hi ho => ?_, fun i j x y hi hj h1 h2 he => ?_, fun i x hi => ?_⟩, vV⟩
  · have := hkeep.os; rw [hB3] at this; exact this.trans hs.keep.os
  · have := hkeep.tape; rw [hB3] at this; exact this.trans hs.keep.tape
  · have := hkeep.output; rw [hB3] at this; exact this.trans hs.keep.output
  · rw [hsame b (Nat.lt_of_lt_of_le h1 hs.keep.size) fun h => ?_]
    · exact hs.keep.block b h1 h2
    · obtain ⟨i', x', h5, h6, h7, rfl⟩ := hO0 b h
      rcases hs.terr i' x' h6 h7 with h8 | h8
      · exact h2 h8
      · omega
  · have := hkeep.drawn (hB4.trans hm); rw [hB3] at this; exact Nat.le_trans (hs.keep.drawn hm) this
  · rcases hcls i x hi ho with ⟨⟨pos, h1, _⟩, _⟩ | ⟨h1, _, _, h2⟩
    · exact hterr2 _ (List.mem_of_getElem? h1)
    · rw [h2]; exact hs.terr i x h1 ho
  · rcases hcls i x hi h1 with ⟨⟨pos, h3, h4⟩, h5⟩ | ⟨h3, h4, h5, h6⟩ <;> rcases hcls j y hj h2 with ⟨⟨pos', h7, h8⟩, h9⟩ | ⟨h7, h8, h9, h10⟩
    · have hp : pos = pos' := by
        have l1 := (List.getElem?_eq_some_iff.1 h3).1
        have l2 := (List.getElem?_eq_some_iff.1 h7).1
        rw [he] at h3
        exact (List.getElem?_inj l1 hbd.nodup).1 (by rw [h3, h7])
      subst hp
      rcases Nat.lt_or_ge pos bs.length with hlt | hge
      · obtain ⟨i2, hi2⟩ : ∃ i2, ids'[pos]? = some i2 := ⟨_, List.getElem?_eq_getElem (by omega)⟩
        rw [← h4 i2 (.inl ⟨pos, rfl, hlt, hi2⟩), ← h8 i2 (.inl ⟨pos, rfl, hlt, hi2⟩)]
      · rw [← h4 _ (.inr ⟨hge, rfl⟩), ← h8 _ (.inr ⟨hge, rfl⟩)]
    · rw [he, h10] at h3
      exact absurd rfl (hold j y h7 h2 h8 h9 _ (List.mem_of_getElem? h3))
    · rw [← he, h6] at h7
      exact absurd rfl (hold i x h3 h1 h4 h5 _ (List.mem_of_getElem? h7))
    · rw [h6, h10] at he
      exact hs.inj i j x y h3 h7 h1 h2 he
  · have hi' := hi
    rw [hbkF] at hi
    cases hfB : BW.find bwB i with
    | some y => rw [hfB] at hi; simp only [Option.some.injEq] at hi; subst hi; exact bB i _ hfB
    | none =>
      rw [hfB] at hi
      simp only at hi
      cases hfV : BW.find bwV i with
      | some y => rw [hfV] at hi; simp only [Option.some.injEq] at hi; subst hi; exact bV i _ hfV
      | none =>
        rw [hfV] at hi
        simp only at hi
        rw [hbwu] at hi
        split at hi
        · simp only [Option.some.injEq] at hi; subst hi; trivial
        · rename_i hnl
          have hnf := hnotfree i x hi
          refine BRep.ext ext (hι1 i hnf) (fun ho => holdsame i x hi ho (fun hm => ?_) fun hM => hnl (hMfind i hM)) (hs.blks i x hi)
          exact (iB.dom i).2 (.inr ((hmem' i).2 (.inl hm))) hfB

theorem CallOp.mono {P : Program} {g : Nat} {args : Array Value} {w : World} {R R' : Ending → World → Prop} (h : CallOp P g args w R) (hr : ∀ e w', R e w' → R' e w') : CallOp P g args w R' := by
  unfold CallOp at h ⊢
  split at h
  · exact hr _ _ h
  · exact Calls.mono h hr
  · exact Rows.mono h fun v w' h => hr _ _ h
  · exact hr _ _ h
  · exact h.elim

theorem vrep_ret {c : RepCtx} : ∀ {rs : Args} {us : List Value}, VRepT c rs us → VRep c (retV rs) (retVal us)
  | [], us, h => by
    have : us = [] := h
    subst this
    exact ⟨#[], rfl, rfl⟩
  | [(g, cs)], us, h => by
    obtain ⟨v, vs', rfl, h1, h2⟩ := h
    have : vs' = [] := h2
    subst this
    exact h1
  | (g1, c1) :: (g2, c2) :: r, us, h => by
    have h' := h
    obtain ⟨v1, vs1, rfl, h1, v2, vs2, rfl, h2, h3⟩ := h
    exact ⟨(v1 :: v2 :: vs2).toArray, rfl, by simpa using h'⟩

/-- What a call has to do with the evaluator's answer. -/
def CallRes (B : Base) (st : St) (w : World) (ι : Nat → Nat) (r : OpOut) (e : Ending) (w' : World) : Prop :=
  ∃ ι', match r with
    | .val x bwr => Ext (ctx B st.bk w ι) (ctx B (st.setBs bwr).bk w' ι') ∧ SimB B (st.setBs bwr).bk w' ι' ∧ ∃ v, e = .returned v ∧ VRep (ctx B (st.setBs bwr).bk w' ι') x v
    | .pan a bwr => Ext (ctx B st.bk w ι) (ctx B (st.setBs bwr).bk w' ι') ∧ SimB B (st.setBs bwr).bk w' ι' ∧ ∃ v, e = .panicked [{ v := v, recovered := false }] ∧ AVRep (ctx B (st.setBs bwr).bk w' ι') a v
    | .skip _ => False

theorem intVs_one {ids : List Nat} {a a' : AV} {k k' : Nat} {bw bw' : BW} (h : intA ids k bw a = some (a', k', bw')) : intVs ids k bw [(false, [a])] = some ([(false, [a'])], k', bw') := by
  simp [intVs, intL, h]

theorem callM_sound {E : Env} {h : Handler} (hh : HSound E h) {B : Base} {st : St} {w : World} {ι : Nat → Nat} (hs : SimB B st.bk w ι) (hB : BaseOK B) (hg : GlobOK E B) {mv : Bool} {base g : Nat} {args : Args} {us : List Value} {r : OpOut}
    (he : (callM h mv base g args).ev st = some r) (hv : VRepT (ctx B st.bk w ι) args us) : CallOp E.P g us.toArray w (CallRes B st w ι r) := by
  unfold callM at he
  simp only [ev_bind] at he
  obtain ⟨ids, h1, he1⟩ := bind_some he
  obtain ⟨⟨as, bw1⟩, h2, he2⟩ := bind_some he1
  obtain ⟨⟨bs, bw2⟩, h3, he3⟩ := bind_some he2
  clear he he1 he2
  simp only at h3 he3
  cases hc : h g as bs with
  | none => rw [hc] at he3; simp at he3
  | some p =>
    obtain ⟨out, bs'⟩ := p
    rw [hc] at he3
    simp only at he3
    have hn := reach_nodup h1 List.nodup_nil
    obtain ⟨M1, x1, q1⟩ := extVs_sound (ids := ids) (bw := []) hs h2 hv
    obtain ⟨M2, x2, q2, q3, q4⟩ := extBs_sound (ids := ids) (k := 0) x1.sim h3 (fun j hj => by rw [Nat.zero_add])
    have hx := x1.trans x2
    have hs2 := hx.sim
    have hbx : ∀ j, j < ids.length → kdOf bs[j]? = kdOf ((ids[j]?).bind (st.setBs bw2).bk) ∧ kdOf bs[j]? ≠ 0 := by
      intro j hj
      obtain ⟨h4, h5⟩ := q4 j hj
      refine ⟨?_, h5⟩
      rw [h4]
      cases ids[j]? with
      | none => rfl
      | some i => exact (x2.kd i).symm
    let β : Nat → Nat := fun j => ι (ids.getD j 0)
    let O := bdBlocks bs β ((M1 ++ M2).map ι)
    let B' : Base := ⟨nav B (st.setBs bw2).bk w ι, fun b => b ∈ O, w, B.md⟩
    have hidbk : ∀ i, i ∈ ids → ∃ b, (st.setBs bw2).bk i = some b ∧ kdOf (some b) ≠ 0 := by
      intro i hi
      obtain ⟨j, hj⟩ := List.getElem?_of_mem hi
      have hjl := (List.getElem?_eq_some_iff.1 hj).1
      obtain ⟨h1, h2⟩ := hbx j hjl
      rw [h1, hj, Option.bind_some] at h2
      cases hb : (st.setBs bw2).bk i with
      | none => rw [hb] at h2; exact absurd rfl h2
      | some b => rw [hb] at h2; exact ⟨b, rfl, h2⟩
    have hOeq : O = (ids ++ (M1 ++ M2)).map ι := by
      show (List.range bs.length).map β ++ (M1 ++ M2).map ι = _
      rw [show (ids ++ (M1 ++ M2)).map ι = ids.map ι ++ (M1 ++ M2).map ι from List.map_append]
      congr 1
      apply List.ext_getElem?
      intro j
      rw [List.getElem?_map, List.getElem?_map, q3]
      rcases Nat.lt_or_ge j ids.length with hj | hj
      · rw [List.getElem?_range hj, List.getElem?_eq_getElem hj]
        simp [β, List.getElem?_eq_getElem hj]
      · rw [List.getElem?_eq_none (by simpa using hj), List.getElem?_eq_none hj]
        rfl
    have hown : ∀ i, i ∈ ids ++ (M1 ++ M2) → ∃ x, (st.setBs bw2).bk i = some x ∧ x.owned = true := by
      intro i hi
      rcases List.mem_append.1 hi with h | h
      · obtain ⟨b, hb, hk⟩ := hidbk i h
        exact ⟨b, hb, kd_owned hk⟩
      · exact ⟨.lent, (hx.mv i h).2, rfl⟩
    have hnd : (ids ++ (M1 ++ M2)).Nodup := by
      rw [List.nodup_append]
      refine ⟨hn, hx.nd, fun a ha b hb he => ?_⟩
      subst he
      obtain ⟨x, hx1, hx2⟩ := hidbk a ha
      rw [(hx.mv a hb).2] at hx1
      simp only [Option.some.injEq] at hx1
      subst hx1
      exact absurd rfl hx2
    have hmk : mkBd w B'.N0 bs β = bdOf B st w ι ids bw2 := by
      simp only [mkBd, bdOf, B', β, q3]
      congr 1
      funext j
      rcases Nat.lt_or_ge j ids.length with hj | hj
      · exact (hbx j hj).1
      · rw [List.getElem?_eq_none (by omega), List.getElem?_eq_none hj]
        rfl
    have hbord : Border w B'.N0 bs as us β ((M1 ++ M2).map ι) := by
      refine ⟨⟨M1.map ι, M2.map ι, List.map_append, ?_, ?_⟩, ?_, ?_, ?_⟩
      · rw [hmk, bdOf_eq x2]
        exact IVals.monoN (fun b hb => (x2.ext.rep b hb).1) q1
      · rw [hmk]; exact q2
      · show O.Nodup
        rw [hOeq]
        unfold List.Nodup
        rw [List.pairwise_map]
        refine List.Pairwise.imp_of_mem ?_ hnd
        intro a b ha hb hne he
        obtain ⟨x, hx1, hx2⟩ := hown a ha
        obtain ⟨y, hy1, hy2⟩ := hown b hb
        exact hne (hs2.inj a b x y hx1 hy1 hx2 hy2 he)
      · intro b hb
        have hb : b ∈ O := hb
        rw [hOeq] at hb
        obtain ⟨i, hi, rfl⟩ := List.mem_map.1 hb
        obtain ⟨x, hx1, hx2⟩ := hown i hi
        exact hs2.lt hx1 hx2
      · intro b hb hN
        have hb : b ∈ O := hb
        rw [hOeq] at hb
        obtain ⟨i, hi, rfl⟩ := List.mem_map.1 hb
        obtain ⟨x, hx1, hx2⟩ := hown i hi
        exact hN.2.2 i x hx1 hx2 rfl
    have hBase : BaseOK B' := ⟨fun b hb => ⟨hb.2.1, fun hO => hbord.notN b hO hb⟩⟩
    have hGlob : GlobOK E B' := ⟨fun gg cs hgg => hs2.rep0 hB (hg.gl gg cs hgg), hg.md⟩
    refine CallOp.mono (hh.fn g as bs out bs' hc B' β _ us hbord (fun b => Iff.rfl) hBase hGlob) fun e w' hl => ?_
    obtain ⟨hkeep, hlen, β', o, us', hβ, hbd, hterr, hout⟩ := hl
    rw [q3] at hlen hβ
    have hβ' : ∀ k, k < ids.length → β' k = ι (ids.getD k 0) ∧ kdOf bs'[k]? = kdOf bs[k]? := hβ
    unfold takeM at he3
    simp only at he3
    cases out with
    | ret rs =>
      simp only at he3
      split at he3
      case h_2 => simp at he3
      case h_1 rs' k bwa hi1 =>
        split at he3
        case h_2 => simp at he3
        case h_1 k' bwb hi2 =>
          simp only [ev_bind] at he3
          obtain ⟨_, hf, he4⟩ := bind_some he3
          simp only [ev_ret, Option.some.injEq] at he4
          subst he4
          obtain ⟨ι', e1, e2, e3⟩ := take_core (B' := B') hx hbx q3 hn (fun b => Iff.rfl) (fun b => Iff.rfl) rfl rfl hkeep (n := bs'.length - ids.length) (by omega) hβ' hbd hterr hi1 hi2 (fun i h1 h2 => freeRange_ev hf i h1 (by omega))
          exact ⟨ι', e1, e2, _, hout, vrep_ret e3⟩
    | pan a =>
      simp only at he3
      split at he3
      case h_2 => simp at he3
      case h_1 a' k bwa hi1 =>
        split at he3
        case h_2 => simp at he3
        case h_1 k' bwb hi2 =>
          simp only [ev_bind] at he3
          obtain ⟨_, hf, he4⟩ := bind_some he3
          simp only [ev_ret, Option.some.injEq] at he4
          subst he4
          obtain ⟨ι', e1, e2, e3⟩ := take_core (B' := B') hx hbx q3 hn (fun b => Iff.rfl) (fun b => Iff.rfl) rfl rfl hkeep (n := bs'.length - ids.length) (by omega) hβ' hbd hterr (intVs_one hi1) hi2 (fun i h1 h2 => freeRange_ev hf i h1 (by omega))
          obtain ⟨v, rfl, h5⟩ := hout
          obtain ⟨v', vs', h6, h7, h8⟩ := e3
          simp only [List.cons.injEq] at h6
          obtain ⟨rfl, rfl⟩ := h6
          exact ⟨ι', e1, e2, v, h5, vrep_one.1 h7⟩

end Go.Proofs.YtggofahhehkbbaaGreatDoor.Ev

