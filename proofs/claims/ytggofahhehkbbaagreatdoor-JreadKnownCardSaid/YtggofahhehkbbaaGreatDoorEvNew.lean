/- Callees met by contracts that take blocks along, or hand new ones back. -/
import Derived.Test.YtggofahhehkbbaaGreatDoorEvPrimS
namespace Go.Proofs.YtggofahhehkbbaaGreatDoor.Ev
open Go.RowKit
set_option autoImplicit false
set_option linter.unusedVariables false
set_option linter.unusedSimpArgs false

/-- A callee met by a contract: no boxes; its arguments may bring blocks along, its results too. -/
theorem fnSound_o {E : Env} {f : Nat} {fn : Func} {c : Code} (hf : E.P.funcs[f]? = some fn) (hb : fn.body = some c) (hn : (fn.name == "runtime.NumGoroutine") = false) {args : Args} {rs : Args}
    (h : ∀ (B : Base) (us : List Value) (o : List Nat) (d : Bd), d.w = B.w0 → d.N = B.N0 → d.nb = 0 → IVals d args us o → o.Nodup → (∀ b, B.O0 b ↔ b ∈ o) → (∀ b, b ∈ o → b < B.w0.heap.size ∧ ¬ B.N0 b) → BaseOK B → GlobOK E B →
      Calls E.P f us.toArray B.w0 fun e w' => ∃ vs o', e = .returned (retVal vs) ∧ Keep B w' ∧ o'.Nodup ∧ (∀ b, b ∈ o' → (b ∈ o ∨ B.w0.heap.size ≤ b) ∧ b < w'.heap.size) ∧
        ∀ d' : Bd, d'.w = w' → (∀ b, B.A b ∧ b < w'.heap.size ∧ b ∉ o' → d'.N b) → IVals d' rs vs o') :
    FnSound E f args [] (.ret rs) [] := by
  intro B β o us hbd hO hB hg
  obtain ⟨o1, o2, rfl, hv, ho2⟩ := hbd.vals
  have ho2 : o2 = [] := ho2
  subst ho2
  have hbl : bdBlocks [] β (o1 ++ []) = o1 := by simp [bdBlocks]
  have hc := h B us o1 (mkBd B.w0 B.N0 [] β) rfl rfl rfl hv (by have := hbd.nodup; rw [hbl] at this; exact this) (fun b => by rw [hO, hbl]) (fun b hb => ⟨hbd.lt b (by rw [hbl]; exact hb), hbd.notN b (by rw [hbl]; exact hb)⟩) hB hg
  refine (callOp_of hf hb hn hc).mono fun e w' hr => ?_
  obtain ⟨vs, o', rfl, hk, hnd, ho', hvs⟩ := hr
  have hbl' : bdBlocks [] β (o' ++ []) = o' := by simp [bdBlocks]
  refine ⟨hk, Nat.le_refl _, β, o' ++ [], vs, fun k hk => by simp at hk, ⟨⟨o', [], rfl, ?_, rfl⟩, by rw [hbl']; exact hnd, fun b hb => by rw [hbl'] at hb; exact (ho' b hb).2, fun b hb hN => hN.2.2 hb⟩, fun b hb => ?_, rfl⟩
  · refine hvs _ rfl fun b hb => ⟨hb.1, hb.2.1, by rw [hbl']; exact hb.2.2⟩
  · rw [hbl'] at hb
    rcases (ho' b hb).1 with h1 | h1
    · exact .inl ((hO b).2 (by rw [hbl]; exact h1))
    · exact .inr h1

theorem callOp_mono' {P : Program} {g : Nat} {args : Array Value} {w : World} {R R' : Ending → World → Prop} (h : CallOp P g args w R) (hr : ∀ e w', R e w' → R' e w') : CallOp P g args w R' := CallOp.mono h hr

theorem ival_fresh {d : Bd} {ty sz : Nat} {es : List (List PV)} {v : Value} {o : List Nat} (h : IVal d false [.fresh ty sz es] v o) :
    ∃ b cap C f, o = [b] ∧ v = .slice (some ⟨b, 0, none⟩) es.length cap ∧ es.length ≤ cap ∧ cap ≤ 9223372036854775807 ∧ d.w.heap[b]? = some (.cells C ty f) ∧ okFz f C.size ∧ C.size = cap * sz ∧ ArrCells d.w d.N sz es fun i => C[i]? := by
  obtain ⟨v', vs', o3, o4, h1, rfl, h3, h4⟩ := h
  simp only [List.cons.injEq] at h1
  obtain ⟨rfl, rfl⟩ := h1
  simp only [IRepL] at h4
  obtain ⟨_, rfl⟩ := h4
  simp only [IRep] at h3
  obtain ⟨b, cap, C, f, rfl, h5, h6, h7, h8, h9, h10, h11⟩ := h3
  exact ⟨b, cap, C, f, rfl, h5, h6, h7, h8, h9, h10, h11⟩
theorem ivals_fresh_mk {d : Bd} {ty sz : Nat} {es : List (List PV)} {b cap : Nat} {C : Array Value} {f : Nat × Nat} (h1 : es.length ≤ cap) (h2 : cap ≤ 9223372036854775807) (h3 : d.w.heap[b]? = some (.cells C ty f)) (h4 : okFz f C.size) (h5 : C.size = cap * sz) (h6 : ArrCells d.w d.N sz es fun i => C[i]?) :
    IVals d [(false, [.fresh ty sz es])] [.slice (some ⟨b, 0, none⟩) es.length cap] [b] :=
  ⟨_, _, [b], [], rfl, rfl, ⟨_, _, [b], [], rfl, rfl, by simp only [IRep]; exact ⟨b, cap, C, f, rfl, rfl, h1, h2, h3, h4, h5, h6⟩, rfl, rfl⟩, rfl, rfl⟩

/-! ### slices.Delete -/
def primDelete (ty sz : Nat) : Args → Boxes → Res := fun a b => match a, b with
  | [(false, [.fresh ty' sz' es]), (false, [.p (.lit (.int .i64 i))]), (false, [.p (.lit (.int .i64 j))])], [] =>
    bif Nat.beq ty' ty && Nat.beq sz' sz && decide (0 ≤ i) && decide (i < j) && decide (j ≤ es.length) then some (.ret [(false, [.fresh ty' sz' (es.take i.toNat ++ es.drop j.toNat)])], []) else none
  | _, _ => none

/-- A range of a block's cells overwritten: what the block holds, and that nothing else turns. -/
theorem setCells_spec {b : Nat} : ∀ (vs : List Value) (o : Nat) {w : World} {C : Array Value} {T : Nat} {f : Nat × Nat}, w.heap[b]? = some (.cells C T f) →
    ∃ C', (w.setCells b o vs).heap[b]? = some (.cells C' T f) ∧ C'.size = C.size ∧ (∀ t, C'[t]? = if o ≤ t ∧ t < o + vs.length ∧ t < C.size then vs[t - o]? else C[t]?) ∧ (∀ k, k ≠ b → (w.setCells b o vs).heap[k]? = w.heap[k]?) ∧
      (w.setCells b o vs).heap.size = w.heap.size ∧ (w.setCells b o vs).os = w.os ∧ (w.setCells b o vs).tape = w.tape ∧ (w.setCells b o vs).output = w.output ∧ (w.setCells b o vs).drawn = w.drawn
  | [], o, w, C, T, f, h => ⟨C, h, rfl, fun t => by rw [if_neg (by simp; omega)], fun _ _ => rfl, rfl, rfl, rfl, rfl, rfl⟩
  | v :: r, o, w, C, T, f, h => by
    have h1 := setCell_at (i := o) h v
    obtain ⟨C', h2, h3, h4, h5, h6, h7, h8, h9, h10⟩ := setCells_spec r (o + 1) h1
    refine ⟨C', h2, by rw [h3]; simp, fun t => ?_, fun k hk => by rw [World.setCells, h5 k hk, setCell_ne hk], by rw [World.setCells, h6, setCell_size], by rw [World.setCells, h7]; rfl, by rw [World.setCells, h8]; rfl, by rw [World.setCells, h9]; rfl, by rw [World.setCells, h10]; rfl⟩
    rw [h4 t]
    simp only [Array.size_setIfInBounds, List.length_cons, Array.getElem?_setIfInBounds]
    by_cases ht : t = o
    · subst ht
      rw [if_neg (by omega), if_pos rfl]
      by_cases hc : t < C.size
      · rw [if_pos hc, if_pos (by omega)]; simp
      · rw [if_neg hc, if_neg (by omega), Array.getElem?_eq_none (by omega)]
    · by_cases hr : o + 1 ≤ t ∧ t < o + 1 + r.length ∧ t < C.size
      · rw [if_pos hr, if_pos (by omega), show t - o = (t - (o + 1)) + 1 by omega, List.getElem?_cons_succ]
      · rw [if_neg hr, if_neg (Ne.symm ht), if_neg (by omega)]

theorem primDelete_sound {E : Env} {fc ty sz : Nat} {fn : Func} {c : Code} (hf : E.P.funcs[fc]? = some fn) (hb : fn.body = some c) (hn : (fn.name == "runtime.NumGoroutine") = false)
    (hwalk : ∀ (w : World) (b n cap i j : Nat) (C : Array Value) (f : Nat × Nat), w.heap[b]? = some (.cells C ty f) → okFz f C.size → C.size = cap * sz → n ≤ cap → cap ≤ 9223372036854775807 → i < j → j ≤ n →
      (∀ (t : Nat) u, t < n * sz → C[t]? = some u → u.oneCell' = true) →
      Calls E.P fc #[.slice (some ⟨b, 0, none⟩) n cap, .int .i64 i, .int .i64 j] w fun e w' => e = .returned (.slice (some ⟨b, 0, none⟩) (n - (j - i)) cap) ∧
        ∃ zs : List Value, zs.length = (j - i) * sz ∧ w' = (w.drew.setCells b (i * sz) ((C.toList.drop (j * sz)).take ((n - j) * sz))).setCells b ((n - (j - i)) * sz) zs)
    {args : Args} {bxs : Boxes} {out : Out} {bxs' : Boxes} (he : primDelete ty sz args bxs = some (out, bxs')) : FnSound E fc args bxs out bxs' := by
  unfold primDelete at he
  split at he
  case h_2 => simp at he
  case h_1 ty' sz' es i j =>
    rw [cond_eq_ite] at he
    split at he
    case isFalse => simp at he
    case isTrue hc =>
      simp only [Option.some.injEq, Prod.mk.injEq] at he
      obtain ⟨rfl, rfl⟩ := he
      simp only [Bool.and_eq_true, decide_eq_true_eq] at hc
      obtain ⟨⟨⟨⟨hc1, hc2⟩, hi0⟩, hij⟩, hjn⟩ := hc
      obtain rfl := Nat.eq_of_beq_eq_true hc1
      obtain rfl := Nat.eq_of_beq_eq_true hc2
      obtain ⟨i', rfl⟩ := Int.eq_ofNat_of_zero_le hi0
      obtain ⟨j', rfl⟩ := Int.eq_ofNat_of_zero_le (show 0 ≤ j by omega)
      simp only [Int.toNat_natCast]
      refine fnSound_o hf hb hn fun B us o d hdw hdN hd0 hv hnd hO ho hB hg => ?_
      obtain ⟨v0, vs0, o1, o2, rfl, rfl, h0, hv⟩ := ivals_cons hv
      obtain ⟨v1, vs1, o3, o4, rfl, rfl, h1, hv⟩ := ivals_cons hv
      obtain ⟨v2, vs2, o5, o6, rfl, rfl, h2, hv⟩ := ivals_cons hv
      obtain ⟨rfl, rfl⟩ := hv
      obtain ⟨rfl, k1⟩ := ival_p h1
      obtain ⟨rfl, k2⟩ := ival_p h2
      obtain rfl := rep_lit k1
      obtain rfl := rep_lit k2
      obtain ⟨b, cap, C, f, rfl, rfl, hle, hmax, hC, hfz, hsz, ha⟩ := ival_fresh h0
      rw [hdw] at hC ha
      rw [hdN] at ha
      have hlt := ho b (by simp)
      refine (hwalk B.w0 b es.length cap i' j' C f hC hfz hsz hle hmax (by omega) (by omega) fun t u ht hu => ?_).mono fun e w' hr => ?_
      · have hsz0 := ha.1
        have h3 : t / sz' < es.length := Nat.div_lt_of_lt_mul (by rw [Nat.mul_comm]; exact ht)
        have h4 := List.getElem?_eq_getElem h3
        have h5 := ha.2.1 _ (List.getElem_mem h3)
        have h6 : t % sz' < (es[t / sz']).length := by rw [h5]; exact Nat.mod_lt _ hsz0
        obtain ⟨v, h7, h8⟩ := ha.2.2 _ _ _ _ h4 (List.getElem?_eq_getElem h6)
        simp only at h7
        rw [Nat.mul_comm, Nat.div_add_mod] at h7
        rw [h7] at hu
        simp only [Option.some.injEq] at hu
        subst hu
        exact h8.one
      · obtain ⟨he, zs, hzl, hw⟩ := hr
        have hC0 : B.w0.drew.heap[b]? = some (.cells C ty' f) := hC
        obtain ⟨C1, a1, a2, a3, a4, a5, a6, a7, a8, a9⟩ := setCells_spec (b := b) ((C.toList.drop (j' * sz')).take ((es.length - j') * sz')) (i' * sz') hC0
        obtain ⟨C2, b1, b2, b3, b4, b5, b6, b7, b8, b9⟩ := setCells_spec (b := b) zs ((es.length - (j' - i')) * sz') a1
        rw [← hw] at b1 b4 b5 b6 b7 b8 b9
        have hlen : (es.take i' ++ es.drop j').length = es.length - (j' - i') := by rw [List.length_append, List.length_take, List.length_drop]; omega
        have hsame : ∀ k, k ≠ b → w'.heap[k]? = B.w0.heap[k]? := fun k hk => (b4 k hk).trans (a4 k hk)
        have hsize : w'.heap.size = B.w0.heap.size := b5.trans a5
        have hnewl : ((C.toList.drop (j' * sz')).take ((es.length - j') * sz')).length = (es.length - j') * sz' := by
          have : j' * sz' + (es.length - j') * sz' ≤ cap * sz' := by rw [← Nat.add_mul]; exact Nat.mul_le_mul_right _ (by omega)
          have hCl : C.toList.length = C.size := Array.length_toList
          rw [List.length_take, List.length_drop, hCl, hsz]
          omega
        refine ⟨[.slice (some ⟨b, 0, none⟩) (es.take i' ++ es.drop j').length cap], [b], ?_, ⟨b6.trans a6, b7.trans a7, b8.trans a8, by rw [hsize]; exact Nat.le_refl _, fun k hk hk2 => hsame k fun hkb => hk2 ((hO k).2 (by simp [hkb])), fun _ => ?_⟩, (by simp), fun b' hb' => ?_, fun d' hd' hN' => ?_⟩
        · rw [he, ← hlen]; rfl
        · rw [b9, a9]; exact Nat.le_succ _
        · obtain rfl := List.mem_singleton.1 hb'
          exact ⟨.inl (by simp), by rw [hsize]; exact hlt.1⟩
        · refine ivals_fresh_mk (C := C2) (f := f) (by rw [hlen]; omega) hmax (by rw [hd']; exact b1) (by rw [b2, a2]; exact hfz) (by rw [b2, a2]; exact hsz) ?_
          have hN : ∀ k, B.N0 k → d'.N k ∧ (k < B.w0.heap.size → d'.w.heap[k]? = B.w0.heap[k]?) := fun k hk => by
            have hkb : k ≠ b := fun h => hlt.2 (h ▸ hk)
            exact ⟨hN' k ⟨.inl hk, by rw [hsize]; exact (hB.n0 k hk).1, by simpa using hkb⟩, fun _ => by rw [hd']; exact hsame k hkb⟩
          refine ⟨ha.1, fun e he => ?_, fun t e r q h3 h4 => ?_⟩
          · rcases List.mem_append.1 he with h | h
            · exact ha.2.1 e (List.mem_of_mem_take h)
            · exact ha.2.1 e (List.mem_of_mem_drop h)
          · have hmem : e ∈ es := by
              rcases List.mem_append.1 (List.mem_of_getElem? h3) with h | h
              · exact List.mem_of_mem_take h
              · exact List.mem_of_mem_drop h
            have hrl : r < sz' := by have := (List.getElem?_eq_some_iff.1 h4).1; rw [ha.2.1 e hmem] at this; exact this
            have htl : t < es.length - (j' - i') := by have := (List.getElem?_eq_some_iff.1 h3).1; rw [hlen] at this; exact this
            have hlow : t * sz' + r < (es.length - (j' - i')) * sz' := by
              have := Nat.mul_le_mul_right sz' (show t + 1 ≤ es.length - (j' - i') by omega)
              rw [Nat.add_mul] at this
              omega
            have hcs : t * sz' + r < C.size := by
              have := Nat.mul_le_mul_right sz' (show es.length - (j' - i') ≤ cap by omega)
              rw [hsz]; omega
            simp only
            rw [b3, if_neg (by omega), a3, hnewl]
            rcases Nat.lt_or_ge t i' with hti | hti
            · have h5 : es[t]? = some e := by
                rw [List.getElem?_append_left (by rw [List.length_take]; omega), List.getElem?_take, if_pos hti] at h3
                exact h3
              have := Nat.mul_le_mul_right sz' (show t + 1 ≤ i' by omega)
              rw [Nat.add_mul] at this
              rw [if_neg (by omega)]
              obtain ⟨v, h7, h8⟩ := ha.2.2 t e r q h5 h4
              exact ⟨v, h7, h8.mono hN⟩
            · obtain ⟨s, rfl⟩ : ∃ s, t = i' + s := ⟨t - i', by omega⟩
              have h5 : es[j' + s]? = some e := by
                rw [List.getElem?_append_right (by rw [List.length_take]; omega), List.length_take, List.getElem?_drop] at h3
                rw [show j' + s = j' + (i' + s - min i' es.length) by omega]
                exact h3
              obtain ⟨v, h7, h8⟩ := ha.2.2 _ e r q h5 h4
              have e1 : (i' + s) * sz' = i' * sz' + s * sz' := Nat.add_mul _ _ _
              have e2 : (j' + s) * sz' = j' * sz' + s * sz' := Nat.add_mul _ _ _
              have := Nat.mul_le_mul_right sz' (show s + 1 ≤ es.length - j' by omega)
              rw [Nat.add_mul] at this
              rw [if_pos (by omega), List.getElem?_take, if_pos (by omega), List.getElem?_drop, Array.getElem?_toList]
              simp only at h7
              refine ⟨v, ?_, h8.mono hN⟩
              rw [← h7]
              congr 1
              omega
end Go.Proofs.YtggofahhehkbbaaGreatDoor.Ev
