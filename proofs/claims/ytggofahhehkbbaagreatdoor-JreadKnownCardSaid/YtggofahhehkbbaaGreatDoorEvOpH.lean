/- Stores, slices of slices, conversions, makes: sound. -/
import Derived.Test.YtggofahhehkbbaaGreatDoorEvOpG
import Derived.Laws.BytesArg
namespace Go.Proofs.YtggofahhehkbbaaGreatDoor.Ev
set_option autoImplicit false
set_option linter.unusedVariables false
set_option linter.unusedSimpArgs false

theorem repL_p {w : World} {N : Nat → Prop} {qs : List PV} {vs : List Value} (h : RepL w N qs vs) : ∀ v ∈ vs, v.oneCell' = true := by
  intro v hv
  obtain ⟨i, hi⟩ := List.getElem?_of_mem hv
  have hlt := (List.getElem?_eq_some_iff.1 hi).1
  rw [h.length] at hlt
  obtain ⟨u, h1, h2⟩ := h.get i _ (List.getElem?_eq_getElem hlt)
  rw [hi] at h1
  simp at h1
  subst h1
  exact h2.one

theorem splice_set {sz : Nat} {e : List PV} {qs : List PV} {off : Nat} {L xs : List Value} {o : Nat} (he : e.length = sz) (hoff : off + qs.length ≤ sz) (hx : xs.length = qs.length) {w : World} {N : Nat → Prop}
    (hL : ∀ (j : Nat) q, e[j]? = some q → ∃ u, L[o + j]? = some u ∧ Rep w N q u) (hLl : o + sz ≤ L.length) (hr : RepL w N qs xs) :
    ∀ (j : Nat) q, (splice e off qs)[j]? = some q → ∃ u, (splice L (o + off) xs)[o + j]? = some u ∧ Rep w N q u := by
  intro j q hj
  unfold splice at hj ⊢
  rcases Nat.lt_or_ge j off with h | h
  · rw [List.append_assoc, List.getElem?_append_left (by simp; omega), List.getElem?_take, if_pos h] at hj
    obtain ⟨u, h1, h2⟩ := hL j q hj
    exact ⟨u, by rw [List.append_assoc, List.getElem?_append_left (by simp; omega), List.getElem?_take, if_pos (by omega)]; exact h1, h2⟩
  · rcases Nat.lt_or_ge j (off + qs.length) with h' | h'
    · rw [List.append_assoc, List.getElem?_append_right (by simp; omega), List.getElem?_append_left (by simp; omega), List.length_take, Nat.min_eq_left (by omega)] at hj
      obtain ⟨u, h1, h2⟩ := hr.get _ q hj
      refine ⟨u, ?_, h2⟩
      rw [List.append_assoc, List.getElem?_append_right (by simp; omega), List.length_take, Nat.min_eq_left (by omega), List.getElem?_append_left (by omega)]
      rw [show o + j - (o + off) = j - off by omega]
      exact h1
    · rw [List.getElem?_append_right (by simp; omega), List.getElem?_drop, List.length_append, List.length_take, Nat.min_eq_left (by omega)] at hj
      rw [show off + qs.length + (j - (off + qs.length)) = j by omega] at hj
      obtain ⟨u, h1, h2⟩ := hL j q hj
      refine ⟨u, ?_, h2⟩
      rw [List.getElem?_append_right (by simp; omega), List.getElem?_drop, List.length_append, List.length_take, Nat.min_eq_left (by omega), hx]
      rw [show o + off + qs.length + (o + j - (o + off + qs.length)) = o + j by omega]
      exact h1

theorem storeM_sound {P : Program} {B : Base} {st : St} {w : World} {ι : Nat → Nat} (hs : SimB B st.bk w ι) {t : TypeId} {a : AV} {g : Bool} {xs : List AV} {bw : BW} {va vx : Value} (he : (storeM P t a xs).ev st = some bw)
    (hva : AVRep (ctx B st.bk w ι) a va) (hvx : VRepC (ctx B st.bk w ι) g xs vx) :
    ∃ w', (Instr.storeAt t va vx).run P w = .ok () w' ∧ Ext (ctx B st.bk w ι) (ctx B (st.setBs bw).bk w' ι) ∧ SimB B (st.setBs bw).bk w' ι := by
  unfold storeM at he
  cases hn : tySize P t with
  | none => rw [hn] at he; simp at he
  | some n =>
    rw [hn] at he
    simp only [ev_bind] at he
    obtain ⟨_, h0, he⟩ := bind_some he
    have h0 := beqN (chk_some h0)
    have hxc := vrep_cells hvx
    have hxl : vx.cells.size = n := by have := hxc.length; simpa [h0] using this
    cases a with
    | ptr id ep i off =>
      simp only [ev_bind, ev_getB, Option.bind_some] at he
      simp only [AVRep] at hva
      obtain ⟨bl, hb, h1, h2, h3⟩ := hva
      simp only [ctx] at hb
      rw [hb] at he
      have hbr := hs.blks id bl hb
      cases bl with
      | box ty cs =>
        match ep, i, he with
        | 0, 0, he =>
          simp only [ev_bind] at he
          obtain ⟨_, h4, he⟩ := bind_some he
          have h4 := Nat.le_of_ble_eq_true (chk_some h4)
          simp only [ev_ret, Option.some.injEq] at he
          subst he
          obtain rfl := h2 ty cs rfl rfl rfl
          obtain ⟨C, f, hC, hf, hr⟩ := hbr
          simp only [ctx] at hC
          have hCl := avrepL_toArray hr
          have hrun := run_storeVar (P := P) (t := t) (o := off) (by rw [hn, hxl]) hC hf (by rw [hxl, hCl]; exact h4) (hxc.ones)
          have hspl : (splice C.toList off vx.cells.toList).length = C.size := by
            rw [splice_length _ _ _ (by simp [hxl, hCl]; exact h4)]; simp
          obtain ⟨ext, hs'⟩ := hs.put hb rfl (x' := .box ty (splice cs off xs)) rfl (.cells (splice C.toList off vx.cells.toList).toArray ty f) ⟨⟨ty, cs, rfl⟩, rfl⟩ (fun ext =>
            ⟨_, f, setB_heap _ _ _ (heap_lt hC), by rw [List.size_toArray, hspl]; exact hf, by
              have := (AVRepL.ext ext _ _ hr).splice off (AVRepL.ext ext _ _ hxc)
              simpa using this⟩)
          exact ⟨_, by simp [Instr.storeAt, Instr.sureAddr]; exact hrun, ext, hs'⟩
        | _ + 1, _, he => simp at he
        | 0, _ + 1, he => simp at he
      | arr ep' ty sz fz es =>
        simp only [ev_bind] at he
        obtain ⟨_, h4, he⟩ := bind_some he
        have h4 := chk_some h4
        simp only [Bool.and_eq_true, Bool.not_eq_true'] at h4
        obtain ⟨hep, hfz⟩ := h4
        subst hfz
        obtain ⟨hle, h3⟩ := h3 _ _ _ _ _ rfl
        obtain ⟨hi, hva⟩ := h3 (beqN hep)
        subst hva
        cases hie : es[i]? with
        | none => rw [hie] at he; simp at he
        | some e =>
          rw [hie] at he
          simp only [ev_bind] at he
          obtain ⟨_, h5, he⟩ := bind_some he
          obtain ⟨⟨qs, bw1⟩, h6, he⟩ := bind_some he
          obtain ⟨_, h7, he⟩ := bind_some he
          have h5 := Nat.le_of_ble_eq_true (chk_some h5)
          simp only [ev_ret, Option.some.injEq] at he
          subst he
          obtain ⟨s1, e1, r1⟩ := pureL_sound (st := st) xs [] bw1 qs _ hs h6 hxc
          have hb1 : (st.setBs bw1).bk id = some (.arr ep' ty sz false es) := by
            rw [find_setBs]
            cases hf : BW.find bw1 id with
            | none => exact hb
            | some x => rw [hf] at h7; simp at h7
          obtain ⟨C, f, hC, hf, ⟨cap, hc1, hc2, hc3⟩, hsz, hzl, hzc⟩ := s1.blks id _ hb1
          simp only [ctx] at hC
          have hqx := r1.length
          have hqn : qs.length = n := by have : vx.cells.toList.length = n := by simpa using hxl
                                         omega
          have hel := hzl e (List.mem_of_getElem? hie)
          have hmul : (i + 1) * sz ≤ cap * sz := Nat.mul_le_mul_right _ (by omega)
          rw [Nat.succ_mul] at hmul
          have hrun := run_storeVar (P := P) (t := t) (o := i * sz + off) (v := vx) (by rw [hn, hxl]) hC hf (by rw [hxl, hc1]; omega) (by
            intro u hu; exact repL_p r1 u hu)
          have hspl : (splice C.toList (i * sz + off) vx.cells.toList).length = C.size := by
            rw [splice_length _ _ _ (by simp [hxl, hc1]; omega)]; simp
          obtain ⟨ext, hs'⟩ := s1.put hb1 rfl (x' := .arr ep' ty sz false (es.set i (splice e off qs))) rfl (.cells (splice C.toList (i * sz + off) vx.cells.toList).toArray ty f)
            ⟨ep', ty, sz, false, es, rfl, .inr ⟨rfl, rfl, by simp, rfl, fun _ => ⟨rfl, fun C' T' f' hC' => ⟨_, ty, f, setB_heap _ _ _ (heap_lt hC), by simp only [ctx] at hC'; rw [hC] at hC'; simp only [Option.some.injEq, Obj.cells.injEq] at hC'; obtain ⟨rfl, rfl, rfl⟩ := hC'; rw [List.size_toArray, hspl]⟩⟩⟩⟩ (fun ext => by
              refine ⟨_, f, setB_heap _ _ _ (heap_lt hC), by rw [List.size_toArray, hspl]; exact hf, ⟨cap, by rw [List.size_toArray, hspl, hc1], by simpa using hc2, hc3⟩, hsz, fun x hx => ?_, fun k x j q hk hj => ?_⟩
              · rcases List.mem_or_eq_of_mem_set hx with h | h
                · exact hzl x h
                · subst h; rw [splice_length _ _ _ (by omega)]; exact hel
              · show ∃ v, (splice C.toList (i * sz + off) vx.cells.toList).toArray[k * sz + j]? = some v ∧ _
                rw [List.getElem?_set] at hk
                by_cases hik : i = k
                · subst hik
                  rw [if_pos rfl, if_pos hi] at hk
                  simp only [Option.some.injEq] at hk
                  subst hk
                  obtain ⟨u, h8, h9⟩ := splice_set (o := i * sz) (L := C.toList) hel (by omega) (by omega) (fun j q hq => by
                    obtain ⟨u, h8, h9⟩ := hzc i e j q hie hq
                    exact ⟨u, by simpa using h8, h9⟩) (by simp [hc1]; omega) r1 j q hj
                  exact ⟨u, by simpa using h8, h9.mono ext.rep⟩
                · rw [if_neg hik] at hk
                  obtain ⟨u, h8, h9⟩ := hzc k x j q hk hj
                  refine ⟨u, ?_, h9.mono ext.rep⟩
                  have hklt := (List.getElem?_eq_some_iff.1 hk).1
                  have hjl : j < sz := by
                    have := (List.getElem?_eq_some_iff.1 hj).1
                    rw [hzl x (List.mem_of_getElem? hk)] at this
                    exact this
                  have h8' : C.toList[k * sz + j]? = some u := by simpa using h8
                  rw [List.getElem?_toArray]
                  unfold splice
                  rcases Nat.lt_or_ge k i with h | h
                  · have : (k + 1) * sz ≤ i * sz := Nat.mul_le_mul_right _ h
                    rw [Nat.succ_mul] at this
                    rw [List.append_assoc, List.getElem?_append_left (by simp [hc1]; omega), List.getElem?_take, if_pos (by omega)]
                    exact h8'
                  · have : (i + 1) * sz ≤ k * sz := Nat.mul_le_mul_right _ (by omega)
                    rw [Nat.succ_mul] at this
                    have hlen : (C.toList.take (i * sz + off) ++ vx.cells.toList).length = i * sz + off + n := by simp [hc1, hxl]; omega
                    rw [List.getElem?_append_right (by rw [hlen]; omega), List.getElem?_drop, hlen]
                    rw [show vx.cells.toList.length = n by simpa using hxl]
                    rw [show i * sz + off + n + (k * sz + j - (i * sz + off + n)) = k * sz + j by omega]
                    exact h8')
          exact ⟨_, by simp [Instr.storeAt, Instr.sureAddr]; exact hrun, e1.trans ext (Nat.le_refl _), hs'⟩
      | map es => simp at he
      | lent => simp at he
      | gone => simp at he
    | _ => simp at he

end Go.Proofs.YtggofahhehkbbaaGreatDoor.Ev
