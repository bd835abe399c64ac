/- Functions: sound, the whole. -/
import Derived.Test.YtggofahhehkbbaaGreatDoorEvFnS
namespace Go.Proofs.YtggofahhehkbbaaGreatDoor.Ev
set_option autoImplicit false
set_option linter.unusedVariables false
set_option linter.unusedSimpArgs false

/-- What lies at the border behind 'extVs' and 'extBs'. -/
theorem ext_border {B : Base} {st : St} {w : World} {ι : Nat → Nat} {mv tight : Bool} {ids : List Nat} {args as : Args} {us : List Value} {bw1 bw2 : BW} {bs : Boxes} (hs : SimB B st.bk w ι) (hn : ids.Nodup)
    (h2 : (extVs ids mv tight [] args).ev st = some (as, bw1)) (h3 : (extBs ids bw1 ids).ev st = some (bs, bw2)) (hv : VRepT (ctx B st.bk w ι) args us) :
    ∃ o, bs.length = ids.length ∧ Border w (fun b => B.A b ∧ b < w.heap.size ∧ b ∉ bdBlocks bs (fun j => ι (ids.getD j 0)) o) bs as us (fun j => ι (ids.getD j 0)) o ∧
      (∀ b, b ∈ bdBlocks bs (fun j => ι (ids.getD j 0)) o → B.O0 b ∨ B.w0.heap.size ≤ b) ∧ ∀ j, j < ids.length → kdOf bs[j]? = kdOf ((ids[j]?).bind st.bk) ∧ kdOf bs[j]? ≠ 0 := by
  obtain ⟨M1, x1, q1⟩ := extVs_sound (ids := ids) (bw := []) hs h2 hv
  obtain ⟨M2, x2, q2, q3, q4⟩ := extBs_sound (ids := ids) (k := 0) x1.sim h3 (fun j hj => by rw [Nat.zero_add])
  have hx := x1.trans x2
  have hs2 := hx.sim
  have hbx : ∀ j, j < ids.length → kdOf bs[j]? = kdOf ((ids[j]?).bind (st.setBs bw2).bk) ∧ kdOf bs[j]? ≠ 0 := by
    intro j hj
    obtain ⟨h4, h5⟩ := q4 j hj
    refine ⟨?_, h5⟩
    rw [h4]
    cases ids[j]? with
    | none => rfl
    | some i => exact (x2.kd i).symm
  let β : Nat → Nat := fun j => ι (ids.getD j 0)
  let O := bdBlocks bs β ((M1 ++ M2).map ι)
  have hidbk : ∀ i, i ∈ ids → ∃ b, (st.setBs bw2).bk i = some b ∧ kdOf (some b) ≠ 0 := by
    intro i hi
    obtain ⟨j, hj⟩ := List.getElem?_of_mem hi
    have hjl := (List.getElem?_eq_some_iff.1 hj).1
    obtain ⟨h1, h2⟩ := hbx j hjl
    rw [h1, hj, Option.bind_some] at h2
    cases hb : (st.setBs bw2).bk i with
    | none => rw [hb] at h2; exact absurd rfl h2
    | some b => rw [hb] at h2; exact ⟨b, rfl, h2⟩
  have hOeq : O = (ids ++ (M1 ++ M2)).map ι := by
    show (List.range bs.length).map β ++ (M1 ++ M2).map ι = _
    rw [show (ids ++ (M1 ++ M2)).map ι = ids.map ι ++ (M1 ++ M2).map ι from List.map_append]
    congr 1
    apply List.ext_getElem?
    intro j
    rw [List.getElem?_map, List.getElem?_map, q3]
    rcases Nat.lt_or_ge j ids.length with hj | hj
    · rw [List.getElem?_range hj, List.getElem?_eq_getElem hj]
      simp [β, List.getElem?_eq_getElem hj]
    · rw [List.getElem?_eq_none (by simpa using hj), List.getElem?_eq_none hj]
      rfl
  have hown : ∀ i, i ∈ ids ++ (M1 ++ M2) → ∃ x, (st.setBs bw2).bk i = some x ∧ x.owned = true := by
    intro i hi
    rcases List.mem_append.1 hi with h | h
    · obtain ⟨b, hb, hk⟩ := hidbk i h
      exact ⟨b, hb, kd_owned hk⟩
    · exact ⟨.lent, (hx.mv i h).2, rfl⟩
  have hnd : (ids ++ (M1 ++ M2)).Nodup := by
    rw [List.nodup_append]
    refine ⟨hn, hx.nd, fun a ha b hb he => ?_⟩
    subst he
    obtain ⟨x, hx1, hx2⟩ := hidbk a ha
    rw [(hx.mv a hb).2] at hx1
    simp only [Option.some.injEq] at hx1
    subst hx1
    exact absurd rfl hx2
  have hOn : ∀ b, b ∈ O → ¬ nav B (st.setBs bw2).bk w ι b := by
    intro b hb hN
    rw [hOeq] at hb
    obtain ⟨i, hi, rfl⟩ := List.mem_map.1 hb
    obtain ⟨x, hx1, hx2⟩ := hown i hi
    exact hN.2.2 i x hx1 hx2 rfl
  let N : Nat → Prop := fun b => B.A b ∧ b < w.heap.size ∧ b ∉ O
  have hNN : ∀ b, nav B (st.setBs bw2).bk w ι b → N b := fun b hb => ⟨hb.1, hb.2.1, fun hO => hOn b hO hb⟩
  have hmk : mkBd w N bs β = { bdOf B st w ι ids bw2 with N := N } := by
    simp only [mkBd, bdOf, β, q3]
    congr 1
    funext j
    rcases Nat.lt_or_ge j ids.length with hj | hj
    · exact (hbx j hj).1
    · rw [List.getElem?_eq_none (by omega), List.getElem?_eq_none hj]
      rfl
  refine ⟨(M1 ++ M2).map ι, q3, ⟨⟨M1.map ι, M2.map ι, List.map_append, ?_, ?_⟩, ?_, ?_, fun b hb h => h.2.2 hb⟩, ?_, fun j hj => ?_⟩
  · show IVals (mkBd w N bs β) as us _
    rw [hmk]
    have : IVals (bdOf B st w ι ids bw2) as us (M1.map ι) := by
      rw [bdOf_eq x2]
      exact IVals.monoN (fun b hb => (x2.ext.rep b hb).1) q1
    exact IVals.monoN hNN this
  · show IBoxes (mkBd w N bs β) 0 bs _
    rw [hmk]
    exact IBoxes.monoN hNN q2
  · show O.Nodup
    rw [hOeq]
    unfold List.Nodup
    rw [List.pairwise_map]
    refine List.Pairwise.imp_of_mem ?_ hnd
    intro a b ha hb hne he
    obtain ⟨x, hx1, hx2⟩ := hown a ha
    obtain ⟨y, hy1, hy2⟩ := hown b hb
    exact hne (hs2.inj a b x y hx1 hy1 hx2 hy2 he)
  · intro b hb
    have hb : b ∈ O := hb
    rw [hOeq] at hb
    obtain ⟨i, hi, rfl⟩ := List.mem_map.1 hb
    obtain ⟨x, hx1, hx2⟩ := hown i hi
    exact hs2.lt hx1 hx2
  · intro b hb
    have hb : b ∈ O := hb
    rw [hOeq] at hb
    obtain ⟨i, hi, rfl⟩ := List.mem_map.1 hb
    obtain ⟨x, hx1, hx2⟩ := hown i hi
    exact hs2.terr i x hx1 hx2
  · obtain ⟨h4, h5⟩ := q4 j hj
    refine ⟨?_, h5⟩
    rw [h4]
    cases ids[j]? with
    | none => rfl
    | some i => exact x1.kd i

theorem leave_core {B : Base} {bxs bs : Boxes} {β : Nat → Nat} {st : St} {w : World} {ι : Nat → Nat} {args as : Args} {us : List Value} {refs ids : List Nat} {bw1 bw2 : BW} {mv tight : Bool}
    (hs : SimB B st.bk w ι) (hk : Kept ⟨bxs.length, β, fun k => kdOf bxs[k]?, [], fun _ => none⟩ st.bk ι) (hv : VRepT (ctx B st.bk w ι) args us) (h1 : (reach [] 64 (rangeL 0 bxs.length ++ refs) []).ev st = some ids)
    (h2 : (extVs ids mv tight [] args).ev st = some (as, bw1)) (h3 : (extBs ids bw1 ids).ev st = some (bs, bw2)) :
    Keep B w ∧ bxs.length ≤ bs.length ∧ ∃ β' o, (∀ k, k < bxs.length → β' k = β k ∧ kdOf bs[k]? = kdOf bxs[k]?) ∧
    Border w (fun b => B.A b ∧ b < w.heap.size ∧ b ∉ bdBlocks bs β' o) bs as us β' o ∧ (∀ b, b ∈ bdBlocks bs β' o → B.O0 b ∨ B.w0.heap.size ≤ b) := by
  obtain ⟨o, q1, q2, q3, q4⟩ := ext_border hs (reach_nodup h1 List.nodup_nil) h2 h3 hv
  have hp := reach_pre (l1 := rangeL 0 bxs.length) h1 (by simpa using rangeL_nodup)
  simp only [List.reverse_nil, List.nil_append] at hp
  have hpl := hp.length_le
  rw [rangeL_length] at hpl
  refine ⟨hs.keep, by omega, _, o, fun k hkk => ?_, q2, q3⟩
  have hid : ids[k]? = some k := by
    have h5 := rangeL_get (a := 0) hkk
    rw [Nat.zero_add] at h5
    obtain ⟨t, rfl⟩ := hp
    rw [List.getElem?_append_left (by rw [rangeL_length]; exact hkk)]
    exact h5
  obtain ⟨h5, h6⟩ := q4 k (by omega)
  rw [hid, Option.bind_some] at h5
  obtain ⟨b, h7, h8⟩ := hk k hkk
  rw [h5, h7] at h6
  obtain ⟨h9, h10⟩ := h8 h6
  exact ⟨by simp [hid]; exact h9, by rw [h5, h7, h10]⟩

def resVar (T : Array Value) : ResultVar → Sem Value
  | .tmp t => pure (T.getD t undef)
  | .cell a t => do loadVar t (← asAddr (T.getD a undef))

theorem resultsM_sound {P : Program} {B : Base} {st : St} {w : World} {ι : Nat → Nat} {T : Array Value} (hs : Sim B st w ι T) : ∀ {rs : List ResultVar} {xs : Args}, (resultsM P rs).ev st = some xs →
    ∃ us, (rs.mapM (resVar T)).run P w = .ok us w ∧ VRepT (ctx B st.bk w ι) xs us
  | [], xs, he => by
    simp only [resultsM, ev_ret, Option.some.injEq] at he
    subst he
    exact ⟨[], by simp, rfl⟩
  | .tmp t :: r, xs, he => by
    simp only [resultsM, ev_bind, ev_getT, Option.bind_some] at he
    have ht := hs.tmps t
    split at he
    case h_2 => simp at he
    case h_1 g cs hx =>
      simp only [ev_bind] at he
      obtain ⟨ys, h1, h2⟩ := bind_some he
      simp only [ev_ret, Option.some.injEq] at h2
      subst h2
      obtain ⟨us, h3, h4⟩ := resultsM_sound hs h1
      rw [hx] at ht
      exact ⟨T.getD t undef :: us, by rw [List.mapM_cons]; simp only [resVar, Sem.run_bind, Sem.run_pure, Result.andThen_ok, h3], _, us, rfl, ht, h4⟩
  | .cell a ty :: r, xs, he => by
    simp only [resultsM, ev_bind, ev_getT, Option.bind_some] at he
    obtain ⟨c, h1, h2⟩ := bind_some he
    obtain ⟨x, h3, h4⟩ := bind_some h2
    have hc := asOne_ev h1
    have ha := hs.tmps a
    rw [hc, vrep_one] at ha
    obtain ⟨u, h5, h6⟩ := loadM_sound hs.toSimB h3 ha
    have hload : (do loadVar ty (← asAddr (T.getD a undef)) : Sem Value).run P w = .ok u w := by
      unfold Instr.loadAt at h5
      generalize T.getD a undef = v at h5 ⊢
      cases v with
      | pointer p =>
        cases p with
        | some p => simpa [Instr.sureAddr, asAddr] using h5
        | none => simp [Instr.sureAddr, stuck] at h5
      | _ => simp [Instr.sureAddr, stuck] at h5
    split at h4
    case h_2 => simp at h4
    case h_1 g cs =>
      simp only [ev_bind] at h4
      obtain ⟨ys, h7, h8⟩ := bind_some h4
      simp only [ev_ret, Option.some.injEq] at h8
      subst h8
      obtain ⟨us, h9, h10⟩ := resultsM_sound hs h7
      refine ⟨u :: us, ?_, u, us, rfl, h6, h10⟩
      rw [List.mapM_cons]
      simp only [resVar, Sem.run_bind]
      simp only [Sem.run_bind] at hload
      rw [hload]
      simp only [Result.andThen_ok, h9, Sem.run_pure]

theorem run_results {P : Program} {w : World} {fn : Func} {T : Array Value} {us : List Value} (h : (fn.results.toList.mapM (resVar T)).run P w = .ok us w) : (results fn T).run P w = .ok (retVal us) w := by
  have h1 : (fn.results.mapM (resVar T)).run P w = .ok us.toArray w := by
    rw [Array.mapM_eq_mapM_toList]
    simp [h]
  have h2 : results fn T = (do let vs ← fn.results.mapM (resVar T); pure (if h : vs.size = 1 then vs[0] else .tuple vs)) := rfl
  rw [h2]
  simp only [Sem.run_bind, h1, Result.andThen_ok, Sem.run_pure]
  congr 1
  match us with
  | [] => rfl
  | [v] => rfl
  | _ :: _ :: _ => rfl

/-- The functions' shapes: their temporaries lie in their frames. -/
def progOK (P : Program) : Prop := ∀ (f : Nat) fn c, P.funcs[f]? = some fn → fn.body = some c → (fn.name == "runtime.NumGoroutine") = false ∧ dstCode (fun t => Nat.blt t fn.ntmps) c = true

theorem evBody_sound {E : Env} {h : Handler} {fuel f : Nat} (hmix : E.P.follows .mixedOrders = true) (hok : progOK E.P) (hh : HSound E h) {args : Args} {bxs : Boxes} {out : Out} {bxs' : Boxes} (he : evBody E h fuel f args bxs = some (out, bxs')) :
    FnSound E f args bxs out bxs' := by
  intro B β o us hb hO hB hg
  unfold evBody at he
  split at he
  case h_2 => simp at he
  case h_1 fn hf =>
    split at he
    case h_2 => simp at he
    case h_1 c hc =>
      split at he
      case h_2 => simp at he
      case h_1 st hst =>
        split at he
        case h_1 => simp at he
        case h_2 hble =>
          obtain ⟨hname, hdst⟩ := hok f fn c hf hc
          have hn := Nat.le_of_ble_eq_true hble
          have hi := enter_sound hb hO hB hst hn
          have hne : ¬ fn.name = "runtime.NumGoroutine" := beq_eq_false_iff_ne.1 hname
          have hcall : (callFunc f us.toArray).run E.P B.w0 = .ok (.enter f us.toArray) B.w0 := by
            simp [callFunc, program, Sem.run, hf, hne, hc]
          unfold CallOp
          rw [hcall]
          simp only
          refine calls_of_wp hf hc ?_
          refine evCode_sound hmix hh hB hg (κ := ⟨bxs.length, β, fun k => kdOf bxs[k]?, [], fun _ => none⟩) rfl (fun t ht => ⟨by simpa [Nat.blt_eq] using ht, rfl⟩) c st _ _ B.w0 _ hdst he hi fun x st' e a' w' hk ha => ?_
          have hret : ∀ (hi' : Inv B ⟨bxs.length, β, fun k => kdOf bxs[k]?, [], fun _ => none⟩ fn.ntmps st' a' w'), ((leaveM E.P fn.results.toList bxs.length).runK st' fun (vs, bs) => some (.ret vs, bs)) = some (out, bxs') →
              a'.defers = [] ∧ ∃ v, (results fn a'.tmps).run E.P w' = .ok v w' ∧ Leave B bxs β out bxs' (.returned v) w' := by
            intro hi' hk
            obtain ⟨⟨vs, bs⟩, h1, h2⟩ := ev_of_runK _ hk
            simp only [Option.some.injEq, Prod.mk.injEq] at h2
            obtain ⟨rfl, rfl⟩ := h2
            simp only [leaveM, ev_bind] at h1
            obtain ⟨xs, h3, h4⟩ := bind_some h1
            obtain ⟨ids, h5, h6⟩ := bind_some h4
            obtain ⟨⟨vs', bw1⟩, h7, h8⟩ := bind_some h6
            obtain ⟨⟨bs', bw2⟩, h9, h10⟩ := bind_some h8
            simp only [ev_ret, Option.some.injEq, Prod.mk.injEq] at h10
            obtain ⟨rfl, rfl⟩ := h10
            obtain ⟨ι, hs, hkp⟩ := hi'.sim
            obtain ⟨us', q1, q2⟩ := resultsM_sound hs h3
            obtain ⟨r1, r2, β', o', r3, r4, r5⟩ := leave_core hs.toSimB hkp q2 h5 h7 h9
            exact ⟨hi'.defers.ds, _, run_results q1, r1, r2, β', o', us', r3, r4, r5, rfl⟩
          cases x with
          | normal => obtain ⟨rfl, hi'⟩ := ha; exact hret hi' hk
          | ret => obtain ⟨rfl, hi'⟩ := ha; exact hret hi' hk
          | exit id => simp at hk
          | panic y =>
            obtain ⟨chain, rfl, hd, v, ι, rfl, hs, hkp, hv⟩ := ha
            refine ⟨hd.ds, ?_⟩
            obtain ⟨⟨y', bs⟩, h1, h2⟩ := ev_of_runK _ hk
            simp only [Option.some.injEq, Prod.mk.injEq] at h2
            obtain ⟨rfl, rfl⟩ := h2
            simp only [leaveP, ev_bind] at h1
            obtain ⟨ids, h5, h6⟩ := bind_some h1
            obtain ⟨⟨vs', bw1⟩, h7, h8⟩ := bind_some h6
            obtain ⟨⟨bs', bw2⟩, h9, h10⟩ := bind_some h8
            simp only [ev_ret, Option.some.injEq, Prod.mk.injEq] at h10
            obtain ⟨rfl, rfl⟩ := h10
            have hv2 : VRepT (ctx B st'.bk w' ι) [(false, [y])] [v] := ⟨v, [], rfl, vrep_one.2 hv, rfl⟩
            have h7' : (extVs ids true true [] [(false, [y])]).ev st' = some ([(false, [vs'])], bw1) := by
              simp only [extVs, extL, ev_bind, Bool.not_false, Bool.and_true, h7, Option.bind_some, ev_ret]
            obtain ⟨r1, r2, β', o', r3, r4, r5⟩ := leave_core hs hkp hv2 h5 h7' h9
            exact ⟨r1, r2, β', o', [v], r3, r4, r5, v, rfl, rfl⟩

/-- THE EVALUATOR IS SOUND. -/
theorem evFn_sound {E : Env} (hmix : E.P.follows .mixedOrders = true) (hok : progOK E.P) (hprim : ∀ f p args bxs out bxs', E.prim f = some p → p args bxs = some (out, bxs') → FnSound E f args bxs out bxs') (hip : ∀ g p, E.inpl g = some p → InplSound E g p) : ∀ n, HSound E (evFn E n)
  | 0 => ⟨fun f args bxs out bxs' he => by simp [evFn] at he, hip⟩
  | n + 1 => ⟨fun f args bxs out bxs' he => by
    simp only [evFn] at he
    split at he
    · rename_i p hp
      exact hprim f p args bxs out bxs' hp he
    · exact evBody_sound hmix hok (evFn_sound hmix hok hprim hip n) he, hip⟩

end Go.Proofs.YtggofahhehkbbaaGreatDoor.Ev
#print axioms Go.Proofs.YtggofahhehkbbaaGreatDoor.Ev.evFn_sound

