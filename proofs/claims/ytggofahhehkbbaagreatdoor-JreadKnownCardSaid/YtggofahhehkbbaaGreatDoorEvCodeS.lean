/- Code: sound. -/
import Derived.Test.YtggofahhehkbbaaGreatDoorEvDrawD
import Derived.LoopN
namespace Go.Proofs.YtggofahhehkbbaaGreatDoor.Ev
set_option autoImplicit false
set_option linter.unusedVariables false
set_option linter.unusedSimpArgs false

def dstOps (ok : Nat → Bool) (l : List Oper) : Bool := l.all fun o => match o.dst with | some d => ok d | none => true

def dstCode (ok : Nat → Bool) : Code → Bool
  | .region _ ops _ => dstOps ok ops.toList
  | .seq a b => dstCode ok a && dstCode ok b
  | .cond _ a b => dstCode ok a && dstCode ok b
  | .block _ c => dstCode ok c
  | .loop c => dstCode ok c
  | _ => true

theorem dstOps_spec {κ : Kp} {n : Nat} {ok : Nat → Bool} (hok : ∀ t, ok t = true → t < n ∧ κ.pin t = none) {l : List Oper} (h : dstOps ok l = true) : DstOK κ n l := by
  intro o ho t ht
  have := List.all_eq_true.1 h o ho
  rw [ht] at this
  exact hok t this

def After (B : Base) (κ : Kp) (n : Nat) : X → St → Exit → Act → World → Prop
  | .normal, st, e, a, w => e = .normal ∧ Inv B κ n st a w
  | .exit id, st, e, a, w => e = .exit id ∧ Inv B κ n st a w
  | .ret, st, e, a, w => e = .ret ∧ Inv B κ n st a w
  | .panic x, st, e, a, w => ∃ chain, e = .panic chain ∧ Panicked B κ st.bk x chain a w

theorem Inv.bk {B : Base} {κ : Kp} {n : Nat} {st st' : St} {a : Act} {w : World} (h : Inv B κ n st a w) (h1 : st'.tm = st.tm) (h2 : st'.bk = st.bk) : Inv B κ n st' a w := by
  obtain ⟨ι, hs, hk⟩ := h.sim
  refine ⟨h.defers, h.size, ι, ⟨by rw [h2]; exact hs.toSimB, fun t => ?_⟩, by rw [h2]; exact hk⟩
  rw [h1, h2]
  exact hs.tmps t

theorem Inv.drew {B : Base} {κ : Kp} {n : Nat} {st : St} {a : Act} {w : World} (h : Inv B κ n st a w) : Inv B κ n st a w.drew := by
  obtain ⟨ι, hs, hk⟩ := h.sim
  obtain ⟨e, s⟩ := hs.toSimB.drew
  exact ⟨h.defers, h.size, ι, ⟨s, fun t => (hs.tmps t).ext e⟩, hk⟩

theorem evCode_sound {E : Env} {h : Handler} {B : Base} {κ : Kp} {n : Nat} (hmix : E.P.follows .mixedOrders = true) (hh : HSound E h) (hB : BaseOK B) (hg : GlobOK E B) {fuel f m : Nat} (hm : κ.m = m) {ok : Nat → Bool} (hokt : ∀ t, ok t = true → t < n ∧ κ.pin t = none) {res : Out × Boxes} :
    ∀ (c : Code) (st : St) (K : X → St → Res) (a : Act) (w : World) (Q : Exit → Act → World → Prop), dstCode ok c = true → evCode E h fuel f m c st K = some res → Inv B κ n st a w →
      (∀ x st' e a' w', K x st' = some res → After B κ n x st' e a' w' → Q e a' w') → c.wp E.P Q a w := by
  intro c
  induction c with
  | skip =>
    intro st K a w Q hd he hi hQ
    simp only [evCode] at he
    exact wp_skip (hQ _ _ _ _ _ he ⟨rfl, hi⟩)
  | region id ops draw =>
    intro st K a w Q hd he hi hQ
    have hdo := dstOps_spec hokt (show dstOps ok ops.toList = true from hd)
    cases draw with
    | false =>
      simp only [evCode] at he
      refine wp_region ?_
      have := evOps_wp hh hB hg (ops := ops) (Q := Q) (K := fun e st' => K e { st' with nx := st.nx + 64 * ops.toList.length }) hdo (fun st' a' w' hk hi' => hQ _ _ _ _ _ hk ⟨rfl, hi'.bk rfl rfl⟩) (fun x st' chain a' w' hk hp => hQ _ _ _ _ _ hk ⟨chain, rfl, hp⟩) ops.toList 0 st a w (fun j _ => by rw [Nat.zero_add, Array.getElem?_toList]) he hi
      rw [List.range_eq_range']
      simpa using this
    | true =>
      simp only [evCode] at he
      obtain ⟨us, pn, tr, hk⟩ := evDraw_trace _ _ _ _ _ _ he
      rw [List.nil_append] at hk
      split at hk
      case h_2 => simp at hk
      case h_1 hok =>
        simp only [Bool.and_eq_true] at hok
        refine wp_region_any hmix ?_
        have hinit : JInv B κ n ops us st pn ops.size (Array.replicate ops.size false) a { w with drawn := w.drawn + 1 } := by
          have hgd : ∀ k, (Array.replicate ops.size false).getD k false = false := fun k => by
            simp only [Array.getD_eq_getD_getElem?, Array.getElem?_replicate]
            split <;> rfl
          refine ⟨by simp, by simp, fun k o hk _ => by simp only [hgd] at hk; simp at hk, fun p x _ => hgd p, ?_⟩
          rw [apS_none us 0 st fun j _ => hgd _]
          exact hi.drew
        cases pn with
        | none =>
          simp only at hk
          exact draw_wp hh hB hg hdo tr hok.1 hok.2 (fun p x hp => by simp at hp) (fun _ a' w' hi' => hQ _ _ _ _ _ hk ⟨rfl, hi'.bk rfl rfl⟩) (fun p x hp => by simp at hp) _ _ _ _ hinit
        | some px =>
          obtain ⟨p, x⟩ := px
          simp only at hk
          split at hk
          case h_2 => simp at hk
          case h_1 hq =>
            exact draw_wp hh hB hg hdo tr hok.1 hok.2 (fun p' x' hp => by simp only [Option.some.injEq, Prod.mk.injEq] at hp; obtain ⟨rfl, rfl⟩ := hp; exact hq) (fun hp => by simp at hp)
              (fun p' x' hp chain a' w' hpp => by simp only [Option.some.injEq, Prod.mk.injEq] at hp; obtain ⟨rfl, rfl⟩ := hp; exact hQ _ _ _ _ _ hk ⟨chain, rfl, hpp⟩) _ _ _ _ hinit
  | seq x y ihx ihy =>
    intro st K a w Q hd he hi hQ
    simp only [dstCode, Bool.and_eq_true] at hd
    simp only [evCode] at he
    refine wp_seq (ihx st _ a w _ hd.1 he hi fun r st' e a' w' hk ha => ?_)
    cases r with
    | normal =>
      obtain ⟨rfl, hi'⟩ := ha
      exact ihy st' K a' w' Q hd.2 hk hi' hQ
    | exit id => obtain ⟨rfl, hi'⟩ := ha; exact hQ _ _ _ _ _ hk ⟨rfl, hi'⟩
    | ret => obtain ⟨rfl, hi'⟩ := ha; exact hQ _ _ _ _ _ hk ⟨rfl, hi'⟩
    | panic p => obtain ⟨chain, rfl, hp⟩ := ha; exact hQ _ _ _ _ _ hk ⟨chain, rfl, hp⟩
  | cond c x y ihx ihy =>
    intro st K a w Q hd he hi hQ
    simp only [dstCode, Bool.and_eq_true] at hd
    obtain ⟨ι, hs, hk⟩ := hi.sim
    simp only [evCode] at he
    split at he
    · rename_i t
      split at he
      · rename_i b hb
        have hv := bool_tmp hs hb
        have hi' : Inv B κ n (st.setT t (boolV b)) a w := ⟨hi.defers, hi.size, ι, hs.same (by rw [hv, boolV, vrep_lit]; exact ⟨rfl, rfl⟩), hk⟩
        rcases testB_some he with ⟨rfl, he⟩ | ⟨rfl, he⟩
        · exact wp_cond_true hv (ihx _ K a w Q hd.1 he hi' hQ)
        · exact wp_cond_false hv (ihy _ K a w Q hd.2 he hi' hQ)
      · simp at he
    · rename_i b
      cases b with
      | true => exact wp_cond_true rfl (ihx _ K a w Q hd.1 he hi hQ)
      | false => exact wp_cond_false rfl (ihy _ K a w Q hd.2 he hi hQ)
    · simp at he
  | block id c ih =>
    intro st K a w Q hd he hi hQ
    simp only [evCode] at he
    refine wp_block (ih st _ a w _ hd he hi fun r st' e a' w' hk ha => ?_)
    cases r with
    | normal => obtain ⟨rfl, hi'⟩ := ha; exact hQ _ _ _ _ _ hk ⟨rfl, hi'⟩
    | exit j =>
      obtain ⟨rfl, hi'⟩ := ha
      simp only at hk
      show if j = id then Q .normal a' w' else Q (.exit j) a' w'
      cases hb : Nat.beq j id with
      | true =>
        rw [hb] at hk
        rw [if_pos (beqN hb)]
        exact hQ _ _ _ _ _ hk ⟨rfl, hi'⟩
      | false =>
        rw [hb] at hk
        rw [if_neg (fun h => by rw [h, Nat.beq_refl] at hb; simp at hb)]
        exact hQ _ _ _ _ _ hk ⟨rfl, hi'⟩
    | ret => obtain ⟨rfl, hi'⟩ := ha; exact hQ _ _ _ _ _ hk ⟨rfl, hi'⟩
    | panic p => obtain ⟨chain, rfl, hp⟩ := ha; exact hQ _ _ _ _ _ hk ⟨chain, rfl, hp⟩
  | loop c ih =>
    intro st K a w Q hd he hi hQ
    simp only [evCode] at he
    have key : ∀ (N : Nat) (st : St) (a : Act) (w : World), evLoop (nrmOf E f m c) (fun st K => evCode E h fuel f m c st K) N st K = some res → Inv B κ n st a w → Code.rounds E.P c Q N a w := by
      intro N
      induction N with
      | zero => intro st a w he hi; simp [evLoop] at he
      | succ N ihN =>
        intro st a w he hi
        simp only [evLoop] at he
        split at he
        · simp at he
        · rename_i st1 hn
          have hi1 : Inv B κ n st1 a w := by
            unfold nrmOf at hn
            split at hn
            · split at hn
              · exact nrmSt_sound hm hn hi
              · simp only [Option.some.injEq] at hn; subst hn; exact hi
            · simp only [Option.some.injEq] at hn; subst hn; exact hi
          rw [rounds_succ]
          refine ih st1 _ a w _ hd he hi1 fun r st' e a' w' hk ha => ?_
          cases r with
          | normal => obtain ⟨rfl, hi'⟩ := ha; exact ihN st' a' w' hk hi'
          | exit id => obtain ⟨rfl, hi'⟩ := ha; exact hQ _ _ _ _ _ hk ⟨rfl, hi'⟩
          | ret => obtain ⟨rfl, hi'⟩ := ha; exact hQ _ _ _ _ _ hk ⟨rfl, hi'⟩
          | panic p => obtain ⟨chain, rfl, hp⟩ := ha; exact hQ _ _ _ _ _ hk ⟨chain, rfl, hp⟩
    exact wp_loop_rounds fuel (key fuel st a w he hi)
  | exit id =>
    intro st K a w Q hd he hi hQ
    simp only [evCode] at he
    exact wp_exit (hQ _ _ _ _ _ he ⟨rfl, hi⟩)
  | ret =>
    intro st K a w Q hd he hi hQ
    simp only [evCode] at he
    exact wp_ret (hQ _ _ _ _ _ he ⟨rfl, hi⟩)
  | _ => intro st K a w Q hd he; simp [evCode] at he

end Go.Proofs.YtggofahhehkbbaaGreatDoor.Ev
