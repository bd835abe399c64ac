/- Functions that defer a closure which recovers. -/
import Derived.Test.YtggofahhehkbbaaGreatDoorEvFnT
import Derived.Recover
namespace Go.Proofs.YtggofahhehkbbaaGreatDoor.Ev
set_option autoImplicit false
set_option linter.unusedVariables false
set_option linter.unusedSimpArgs false

def ptrV (k : Nat) : AVal := .v false [.ptr k 0 0 0]
def isBox : Option Blk → Bool
  | some (.box _ _) => true
  | _ => false
def boxes3 (bk : Nat → Option Blk) : Bool := isBox (bk 0) && isBox (bk 1) && isBox (bk 2)
def isPtr (k : Nat) : AVal → Bool
  | .v false [.ptr i 0 0 0] => Nat.beq i k
  | _ => false
/-- The closure's temporaries behind recover. -/
def gtm (v : AVal) : Nat → AVal
  | 0 => ptrV 0
  | 1 => ptrV 1
  | 2 => ptrV 2
  | 3 => v
  | 6 => v
  | _ => .undef
/-- The function's temporaries where its results are read. -/
def rtm : Nat → AVal
  | 4 => ptrV 1
  | 5 => ptrV 2
  | _ => .undef

/-- What runs behind the function's own end: the closure, then the results. -/
def deferFin (E : Env) (h : Handler) (fuel g : Nat) (grest : Code) (rs : List ResultVar) (st2 : St) (v : AVal) : Res := match boxes3 st2.bk with
  | true => evCode E h fuel g 3 grest { tm := gtm v, bk := st2.bk, nx := st2.nx } fun x st3 => match x with
    | .normal => (match boxes3 st3.bk with
      | true => (leaveM E.P rs 0).runK { tm := rtm, bk := st3.bk, nx := st3.nx } fun (vs, bs) => some (.ret vs, bs)
      | false => none)
    | .ret => (match boxes3 st3.bk with
      | true => (leaveM E.P rs 0).runK { tm := rtm, bk := st3.bk, nx := st3.nx } fun (vs, bs) => some (.ret vs, bs)
      | false => none)
    | _ => none
  | false => none

/-- A function that defers a closure over the variables of the temporaries 2, 4, 5; 4 and 5: its results. -/
def deferEv (E : Env) (h : Handler) (fuel f g : Nat) (r0 rest grest : Code) (rs : List ResultVar) (n : Nat) : Args → Boxes → Res := fun args bxs => match bxs with
  | [] => (match enterSt args [] with
    | some st0 => (match Nat.ble args.length n with
      | true => evCode E h fuel f 0 r0 st0 fun x st => (match x with
        | .normal => (match nrmSt 0 [2, 4, 5, 0, 1] st with
          | some st1 => (match isPtr 0 (st1.tm 2) && isPtr 1 (st1.tm 4) && isPtr 2 (st1.tm 5) && boxes3 st1.bk with
            | true => evCode E h fuel f 3 rest { st1 with tm := upd st1.tm 7 .undef } fun x st2 => (match x with
              | .normal => deferFin E h fuel g grest rs st2 (.v false [.p (.lit .nilIface)])
              | .ret => deferFin E h fuel g grest rs st2 (.v false [.p (.lit .nilIface)])
              | .panic a => deferFin E h fuel g grest rs st2 (.v false [a])
              | .exit _ => none)
            | false => none)
          | none => none)
        | _ => none)
      | false => none)
    | none => none)
  | _ :: _ => none

structure DeferOK (P : Program) (f g n gn : Nat) (fn gfn : Func) (r0 rest grest : Code) (i1 j0 : Nat) (ops1 gops0 : Array Oper) : Prop where
  hf : P.funcs[f]? = some fn
  hb : fn.body = some (.seq r0 (.seq (.region i1 ops1 false) rest))
  hn : fn.ntmps = n
  hg : P.funcs[g]? = some gfn
  hgb : gfn.body = some (.seq (.region j0 gops0 false) grest)
  hgn : gfn.ntmps = gn
  hgr : gfn.results = #[]
  hnm : (gfn.name == "runtime.NumGoroutine") = false
  hnf : (fn.name == "runtime.NumGoroutine") = false
  h3 : 7 ≤ gn
  h0 : dstCode (fun t => Nat.blt t n) r0 = true
  hr : dstCode (fun t => Nat.blt t n && !Nat.beq t 4 && !Nat.beq t 5) rest = true
  hgd : dstCode (fun t => Nat.blt t gn) grest = true
  h7 : 7 < n
  hop1 : ∀ (Q : Exit → Act → World → Prop) (a : Act) (w : World) (p2 p4 p5 : Value), a.tmps[2]? = some p2 → a.tmps[4]? = some p4 → a.tmps[5]? = some p5 → 7 < a.tmps.size →
    Q .normal { tmps := (a.put (some 7) (.func (.func g) #[] #[p2, p4, p5])).tmps, defers := { target := .fn (.func g) #[p2, p4, p5], args := #[] } :: a.defers } w → (Code.region i1 ops1 false).wp P Q a w
  hop2 : ∀ (Q : Exit → Act → List Frame → World → Prop) (a : Act) (cs cs' : List Frame) (w : World) (v : Value), (recoverD cs = some (v, cs') ∨ (recoverD cs = none ∧ v = .nilIface ∧ cs' = cs)) → a.tmps.size = gn →
    Q .normal ((a.put (some 6) v).put (some 3) v) cs' w → (Code.region j0 gops0 false).wpS P Q a cs w

theorem isPtr_spec {k : Nat} {x : AVal} (h : isPtr k x = true) : x = ptrV k := by
  unfold isPtr at h
  split at h
  · rw [Nat.eq_of_beq_eq_true h]; rfl
  · simp at h
theorem isBox_spec {b : Option Blk} (h : isBox b = true) : ∃ ty cs, b = some (.box ty cs) := by
  unfold isBox at h
  split at h
  · exact ⟨_, _, rfl⟩
  · simp at h

theorem ptr_rep {c : RepCtx} {k : Nat} {ty : Nat} {cs : List AV} (hb : c.bk k = some (.box ty cs)) {v : Value} (h : VRep c (ptrV k) v) : v = .pointer (some ⟨c.ι k, 0, none⟩) := by
  unfold ptrV at h
  rw [vrep_one] at h
  simp only [AVRep] at h
  obtain ⟨b, h1, _, h2, _⟩ := h
  rw [hb] at h1
  simp only [Option.some.injEq] at h1
  exact h2 ty cs h1.symm rfl rfl
theorem ptr_rep_mk {c : RepCtx} {k : Nat} {ty : Nat} {cs : List AV} (hb : c.bk k = some (.box ty cs)) : VRep c (ptrV k) (.pointer (some ⟨c.ι k, 0, none⟩)) := by
  unfold ptrV
  rw [vrep_one]
  simp only [AVRep]
  exact ⟨_, hb, rfl, fun _ _ _ _ _ => rfl, fun ep' ty sz fz es h => by simp at h⟩

variable {E : Env} {h : Handler}

/-- Behind the function's own end. -/
theorem deferFin_sound (hmix : E.P.follows .mixedOrders = true) (hh : HSound E h) {B : Base} (hB : BaseOK B) (hgl : GlobOK E B) {fuel f g n gn : Nat} {fn gfn : Func} {r0 rest grest : Code} {i1 j0 : Nat} {ops1 gops0 : Array Oper} (D : DeferOK E.P f g n gn fn gfn r0 rest grest i1 j0 ops1 gops0)
    {st2 : St} {v : AVal} {out : Out} {bxs' : Boxes} (he : deferFin E h fuel g grest fn.results.toList st2 v = some (out, bxs')) {w : World} {ι : Nat → Nat} (hs : SimB B st2.bk w ι) {vv : Value} (hv : VRep (ctx B st2.bk w ι) v vv) {T : Array Value} {p2 p4 p5 : Value}
    (h2 : p2 = .pointer (some ⟨ι 0, 0, none⟩)) (h4 : p4 = .pointer (some ⟨ι 1, 0, none⟩)) (h5 : p5 = .pointer (some ⟨ι 2, 0, none⟩)) (hT4 : T[4]? = some p4) (hT5 : T[5]? = some p5) {u : FrameMode}
    (hu : (u = .returning ∧ vv = .nilIface) ∨ u = .panicking [{ v := vv, recovered := false }]) (β : Nat → Nat) :
    Leaves E.P fn T (Leave B [] β out bxs') [{ target := .fn (.func g) #[p2, p4, p5], args := #[] }] u w := by
  unfold deferFin at he
  split at he
  case h_2 => simp at he
  case h_1 hb3 =>
    simp only [boxes3, Bool.and_eq_true] at hb3
    obtain ⟨⟨b0, b1⟩, b2⟩ := hb3
    obtain ⟨t0, c0, b0⟩ := isBox_spec b0
    obtain ⟨t1, c1, b1⟩ := isBox_spec b1
    obtain ⟨t2, c2, b2⟩ := isBox_spec b2
    have hne : ¬ gfn.name = "runtime.NumGoroutine" := beq_eq_false_iff_ne.1 D.hnm
    have hinv : (invoke (.fn (.func g) #[p2, p4, p5]) #[]).run E.P w = .ok (.enter g #[p2, p4, p5]) w := by
      simp [invoke, callFunc, program, Sem.run, D.hg, hne, D.hgb]
    have hune : u ≠ .run := by
      rcases hu with ⟨h, _⟩ | h <;> rw [h] <;> simp
    refine leaves_cons hune hinv ?_
    refine callsD_of_wpS D.hg D.hgb fun c₀ cs hmode => ?_
    apply wpS_seq
    obtain ⟨u', hset, hrec⟩ : ∃ u', settle u' = .returning ∧ (recoverD (c₀ :: cs) = some (vv, { c₀ with mode := u' } :: cs) ∨ (recoverD (c₀ :: cs) = none ∧ vv = .nilIface ∧ ({ c₀ with mode := u' } :: cs) = c₀ :: cs)) := by
      rcases hu with ⟨rfl, rfl⟩ | rfl
      · refine ⟨.returning, rfl, .inr ⟨by simp [recoverD, hmode], rfl, ?_⟩⟩
        cases c₀
        simp only at hmode
        subst hmode
        rfl
      · exact ⟨.panicking [{ v := vv, recovered := true }], rfl, .inl (by simp [recoverD, hmode])⟩
    have h3 := D.h3
    refine D.hop2 _ _ _ _ _ vv hrec (by rw [D.hgn]; simp; omega) ?_
    refine wpS_of_wp ?_
    rw [D.hgn]
    let κ : Kp := ⟨3, ι, fun k => kdOf (st2.bk k), [], fun _ => none⟩
    have hinv0 : Inv B κ gn { tm := gtm v, bk := st2.bk, nx := st2.nx } ((({ tmps := #[p2, p4, p5] ++ Array.replicate (gn - (#[p2, p4, p5] : Array Value).size) undef, defers := [] } : Act).put (some 6) vv).put (some 3) vv) w := by
      refine ⟨⟨rfl, fun t v h => by simp [κ] at h⟩, by simp [Act.put]; omega, ι, ⟨hs, fun t => ?_⟩, fun k hk => ?_⟩
      · have hget : ∀ t, ((({ tmps := #[p2, p4, p5] ++ Array.replicate (gn - (#[p2, p4, p5] : Array Value).size) undef, defers := [] } : Act).put (some 6) vv).put (some 3) vv).tmps.getD t undef =
            if 3 = t then vv else if 6 = t then vv else (#[p2, p4, p5] ++ Array.replicate (gn - 3) undef : Array Value).getD t undef := fun t => by
          have hl : (#[p2, p4, p5] ++ Array.replicate (gn - 3) undef : Array Value).size = gn := by simp; omega
          show ((((#[p2, p4, p5] ++ Array.replicate (gn - 3) undef : Array Value).setIfInBounds 6 vv).setIfInBounds 3 vv).getD t undef) = _
          simp only [Array.getD_eq_getD_getElem?, Array.getElem?_setIfInBounds, Array.size_setIfInBounds, hl]
          by_cases h3t : 3 = t
          · rw [if_pos h3t, if_pos h3t, if_pos (by omega)]; rfl
          · rw [if_neg h3t, if_neg h3t]
            by_cases h6t : 6 = t
            · rw [if_pos h6t, if_pos h6t, if_pos (by omega)]; rfl
            · rw [if_neg h6t, if_neg h6t]
        rw [hget]
        match t with
        | 0 =>
          have e : (#[p2, p4, p5] ++ Array.replicate (gn - 3) undef : Array Value).getD 0 undef = p2 := by rw [Array.getD_eq_getD_getElem?, Array.getElem?_append_left (by simp)]; rfl
          rw [if_neg (by omega), if_neg (by omega), e, h2]
          exact ptr_rep_mk (c := ctx B st2.bk w ι) b0
        | 1 =>
          have e : (#[p2, p4, p5] ++ Array.replicate (gn - 3) undef : Array Value).getD 1 undef = p4 := by rw [Array.getD_eq_getD_getElem?, Array.getElem?_append_left (by simp)]; rfl
          rw [if_neg (by omega), if_neg (by omega), e, h4]
          exact ptr_rep_mk (c := ctx B st2.bk w ι) b1
        | 2 =>
          have e : (#[p2, p4, p5] ++ Array.replicate (gn - 3) undef : Array Value).getD 2 undef = p5 := by rw [Array.getD_eq_getD_getElem?, Array.getElem?_append_left (by simp)]; rfl
          rw [if_neg (by omega), if_neg (by omega), e, h5]
          exact ptr_rep_mk (c := ctx B st2.bk w ι) b2
        | 3 => rw [if_pos rfl]; exact hv
        | 4 => trivial
        | 5 => trivial
        | 6 => rw [if_neg (by omega), if_pos rfl]; exact hv
        | t + 7 => trivial
      · match k, hk with
        | 0, _ => exact ⟨_, b0, fun _ => ⟨rfl, by simp [κ, b0]⟩⟩
        | 1, _ => exact ⟨_, b1, fun _ => ⟨rfl, by simp [κ, b1]⟩⟩
        | 2, _ => exact ⟨_, b2, fun _ => ⟨rfl, by simp [κ, b2]⟩⟩
    have hend : ∀ (st3 : St) (a3 : Act) (w3 : World), Inv B κ gn st3 a3 w3 → (match boxes3 st3.bk with
        | true => (leaveM E.P fn.results.toList 0).runK { tm := rtm, bk := st3.bk, nx := st3.nx } fun (vs, bs) => some (Out.ret vs, bs)
        | false => none) = some (out, bxs') →
        a3.defers = [] ∧ ∃ u'', { c₀ with mode := u' } :: cs = { c₀ with mode := u'' } :: cs ∧ ∃ v, (results gfn a3.tmps).run E.P w3 = .ok v w3 ∧ Leaves E.P fn T (Leave B [] β out bxs') [] (settle u'') w3 := by
      intro st3 a3 w3 hi hk
      split at hk
      case h_2 => simp at hk
      case h_1 hb3 =>
        simp only [boxes3, Bool.and_eq_true] at hb3
        obtain ⟨⟨d0, d1⟩, d2⟩ := hb3
        obtain ⟨s1, e1, d1⟩ := isBox_spec d1
        obtain ⟨s2, e2, d2⟩ := isBox_spec d2
        obtain ⟨ι3, hs3, hk3⟩ := hi.sim
        have hι1 : ι3 1 = ι 1 := by
          obtain ⟨b, hb, hbk⟩ := hk3 1 (by show 1 < 3; omega)
          rw [d1] at hb
          simp only [Option.some.injEq] at hb
          subst hb
          exact (hbk (by simp [kdOf])).1
        have hι2 : ι3 2 = ι 2 := by
          obtain ⟨b, hb, hbk⟩ := hk3 2 (by show 2 < 3; omega)
          rw [d2] at hb
          simp only [Option.some.injEq] at hb
          subst hb
          exact (hbk (by simp [kdOf])).1
        have hsr : Sim B { tm := rtm, bk := st3.bk, nx := st3.nx } w3 ι3 T := by
          refine ⟨hs3.toSimB, fun t => ?_⟩
          match t with
          | 4 =>
            have : T.getD 4 undef = p4 := by rw [Array.getD_eq_getD_getElem?, hT4]; rfl
            rw [this, h4, ← hι1]
            exact ptr_rep_mk (c := ctx B st3.bk w3 ι3) d1
          | 5 =>
            have : T.getD 5 undef = p5 := by rw [Array.getD_eq_getD_getElem?, hT5]; rfl
            rw [this, h5, ← hι2]
            exact ptr_rep_mk (c := ctx B st3.bk w3 ι3) d2
          | 0 => trivial
          | 1 => trivial
          | 2 => trivial
          | 3 => trivial
          | t + 6 => trivial
        refine ⟨hi.defers.ds, u', rfl, .tuple #[], by simp [results, D.hgr], ?_⟩
        rw [hset]
        obtain ⟨⟨vs, bs⟩, h1, h2⟩ := ev_of_runK _ hk
        simp only [Option.some.injEq, Prod.mk.injEq] at h2
        obtain ⟨rfl, rfl⟩ := h2
        simp only [leaveM, ev_bind] at h1
        obtain ⟨xs, h3, h4⟩ := bind_some h1
        obtain ⟨ids, h5, h6⟩ := bind_some h4
        obtain ⟨⟨vs', bw1⟩, h7, h8⟩ := bind_some h6
        obtain ⟨⟨bs', bw2⟩, h9, h10⟩ := bind_some h8
        simp only [ev_ret, Option.some.injEq, Prod.mk.injEq] at h10
        obtain ⟨rfl, rfl⟩ := h10
        obtain ⟨us', q1, q2⟩ := resultsM_sound hsr h3
        obtain ⟨r1, r2, β', o', r3, r4, r5⟩ := leave_core (bxs := []) (β := β) hsr.toSimB (fun k hk => absurd hk (Nat.not_lt_zero k)) q2 h5 h7 h9
        exact ⟨_, run_results q1, r1, r2, β', o', us', r3, r4, r5, rfl⟩
    refine evCode_sound hmix hh hB hgl (κ := κ) rfl (fun t ht => ⟨by simpa [Nat.blt_eq] using ht, rfl⟩) grest _ _ _ w _ D.hgd he hinv0 fun x st3 e a3 w3 hk ha => ?_
    cases x with
    | normal => obtain ⟨rfl, hi⟩ := ha; exact hend st3 a3 w3 hi hk
    | ret => obtain ⟨rfl, hi⟩ := ha; exact hend st3 a3 w3 hi hk
    | exit id => simp at hk
    | panic y => simp at hk

theorem deferEv_sound (hmix : E.P.follows .mixedOrders = true) (hh : HSound E h) {fuel f g n gn : Nat} {fn gfn : Func} {r0 rest grest : Code} {i1 j0 : Nat} {ops1 gops0 : Array Oper} (D : DeferOK E.P f g n gn fn gfn r0 rest grest i1 j0 ops1 gops0)
    {args : Args} {bxs : Boxes} {out : Out} {bxs' : Boxes} (he : deferEv E h fuel f g r0 rest grest fn.results.toList n args bxs = some (out, bxs')) : FnSound E f args bxs out bxs' := by
  intro B β o us hb hO hB hgl
  unfold deferEv at he
  split at he
  case h_2 => simp at he
  case h_1 =>
    split at he
    case h_2 => simp at he
    case h_1 st0 hst =>
      split at he
      case h_2 => simp at he
      case h_1 hble =>
        have hn := Nat.le_of_ble_eq_true hble
        have hi0 := enter_sound hb hO hB hst hn
        have hne : ¬ fn.name = "runtime.NumGoroutine" := beq_eq_false_iff_ne.1 D.hnf
        have hcall : (callFunc f us.toArray).run E.P B.w0 = .ok (.enter f us.toArray) B.w0 := by
          simp [callFunc, program, Sem.run, D.hf, hne, D.hb]
        unfold CallOp
        rw [hcall]
        simp only
        refine calls_of_wp_defers D.hf D.hb ?_
        rw [D.hn]
        refine wp_seq ?_
        refine evCode_sound hmix hh hB hgl (κ := ⟨([] : Boxes).length, β, fun k => kdOf ([] : Boxes)[k]?, [], fun _ => none⟩) rfl (fun t ht => ⟨by simpa [Nat.blt_eq] using ht, rfl⟩) r0 st0 _ _ B.w0 _ D.h0 he hi0 fun x st e a w hk ha => ?_
        cases x with
        | ret => simp at hk
        | exit id => simp at hk
        | panic y => simp at hk
        | normal =>
          obtain ⟨rfl, hi⟩ := ha
          simp only at hk
          split at hk
          case h_2 => simp at hk
          case h_1 st1 hst1 =>
            have hi1 := nrmSt_sound (m := 0) rfl hst1 hi
            split at hk
            case h_2 => simp at hk
            case h_1 hck =>
              simp only [Bool.and_eq_true] at hck
              obtain ⟨⟨⟨k2, k4⟩, k5⟩, hb3⟩ := hck
              have k2 := isPtr_spec k2
              have k4 := isPtr_spec k4
              have k5 := isPtr_spec k5
              simp only [boxes3, Bool.and_eq_true] at hb3
              obtain ⟨⟨b0, b1⟩, b2⟩ := hb3
              obtain ⟨t0, c0, b0⟩ := isBox_spec b0
              obtain ⟨t1, c1, b1⟩ := isBox_spec b1
              obtain ⟨t2, c2, b2⟩ := isBox_spec b2
              obtain ⟨ι, hs, _⟩ := hi1.sim
              have v2 := hs.tmps 2
              rw [k2] at v2
              have v2 := ptr_rep (c := ctx B st1.bk w ι) b0 v2
              have v4 := hs.tmps 4
              rw [k4] at v4
              have v4 := ptr_rep (c := ctx B st1.bk w ι) b1 v4
              have v5 := hs.tmps 5
              rw [k5] at v5
              have v5 := ptr_rep (c := ctx B st1.bk w ι) b2 v5
              have hget : ∀ t p, a.tmps.getD t undef = .pointer p → a.tmps[t]? = some (.pointer p) := fun t p ht => by
                rw [Array.getD_eq_getD_getElem?] at ht
                cases hx : a.tmps[t]? with
                | none => rw [hx] at ht; simp [undef] at ht
                | some y => rw [hx] at ht; simpa using ht
              refine wp_seq ?_
              refine D.hop1 _ a w _ _ _ (hget 2 _ v2) (hget 4 _ v4) (hget 5 _ v5) (by rw [hi1.size]; exact D.h7) ?_
              show rest.wp E.P _ _ w
              let p2 : Value := .pointer (some ⟨ι 0, 0, none⟩)
              let p4 : Value := .pointer (some ⟨ι 1, 0, none⟩)
              let p5 : Value := .pointer (some ⟨ι 2, 0, none⟩)
              let κ : Kp := ⟨3, ι, fun k => kdOf (st1.bk k), [{ target := .fn (.func g) #[p2, p4, p5], args := #[] }], fun t => if t = 4 then some p4 else if t = 5 then some p5 else none⟩
              have hinv : Inv B κ n { st1 with tm := upd st1.tm 7 .undef } { tmps := (a.put (some 7) (.func (.func g) #[] #[p2, p4, p5])).tmps, defers := { target := .fn (.func g) #[p2, p4, p5], args := #[] } :: a.defers } w := by
                refine ⟨⟨by rw [hi1.defers.ds], fun t v ht => ?_⟩, by rw [put_size]; exact hi1.size, ι, ⟨hs.toSimB, fun t => ?_⟩, fun k hk => ?_⟩
                · show (a.tmps.setIfInBounds 7 _)[t]? = _
                  simp only [κ] at ht
                  by_cases h4 : t = 4
                  · subst h4
                    rw [if_pos rfl] at ht
                    simp only [Option.some.injEq] at ht
                    subst ht
                    rw [Array.getElem?_setIfInBounds, if_neg (by omega)]
                    exact hget 4 _ v4
                  · rw [if_neg h4] at ht
                    by_cases h5 : t = 5
                    · subst h5
                      rw [if_pos rfl] at ht
                      simp only [Option.some.injEq] at ht
                      subst ht
                      rw [Array.getElem?_setIfInBounds, if_neg (by omega)]
                      exact hget 5 _ v5
                    · rw [if_neg h5] at ht
                      simp at ht
                · show VRep (ctx B st1.bk w ι) (upd st1.tm 7 .undef t) ((a.tmps.setIfInBounds 7 _).getD t undef)
                  by_cases h7 : t = 7
                  · subst h7
                    rw [upd_same]
                    trivial
                  · rw [upd_ne _ _ h7]
                    have : (a.tmps.setIfInBounds 7 (.func (.func g) #[] #[p2, p4, p5])).getD t undef = a.tmps.getD t undef := by
                      simp [Array.getD_eq_getD_getElem?, Array.getElem?_setIfInBounds, Ne.symm h7]
                    rw [this]
                    exact hs.tmps t
                · match k, hk with
                  | 0, _ => exact ⟨_, b0, fun _ => ⟨rfl, by simp [κ, b0]⟩⟩
                  | 1, _ => exact ⟨_, b1, fun _ => ⟨rfl, by simp [κ, b1]⟩⟩
                  | 2, _ => exact ⟨_, b2, fun _ => ⟨rfl, by simp [κ, b2]⟩⟩
              refine evCode_sound hmix hh hB hgl (κ := κ) rfl (ok := fun t => Nat.blt t n && !Nat.beq t 4 && !Nat.beq t 5) (fun t ht => ?_) rest _ _ _ w _ D.hr hk hinv fun x st2 e a2 w2 hk2 ha2 => ?_
              · simp only [Bool.and_eq_true, Bool.not_eq_true', Nat.blt_eq] at ht
                refine ⟨ht.1.1, ?_⟩
                have h4 : t ≠ 4 := fun h => by rw [h] at ht; simp at ht
                have h5 : t ≠ 5 := fun h => by rw [h] at ht; simp at ht
                simp only [κ, if_neg h4, if_neg h5]
              -- where the blocks of the three variables are
              have hfin : ∀ (bk : Nat → Option Blk) (ι2 : Nat → Nat), boxes3 bk = true → Kept κ bk ι2 → ι2 0 = ι 0 ∧ ι2 1 = ι 1 ∧ ι2 2 = ι 2 := by
                intro bk ι2 hb3 hkept
                simp only [boxes3, Bool.and_eq_true] at hb3
                obtain ⟨⟨d0, d1⟩, d2⟩ := hb3
                obtain ⟨s0, e0, d0⟩ := isBox_spec d0
                obtain ⟨s1, e1, d1⟩ := isBox_spec d1
                obtain ⟨s2, e2, d2⟩ := isBox_spec d2
                have one : ∀ k ty cs, k < 3 → bk k = some (.box ty cs) → ι2 k = ι k := fun k ty cs hk3 hbk => by
                  obtain ⟨b, hb, h1⟩ := hkept k hk3
                  rw [hbk] at hb
                  simp only [Option.some.injEq] at hb
                  subst hb
                  exact (h1 (by simp [kdOf])).1
                exact ⟨one 0 _ _ (by omega) d0, one 1 _ _ (by omega) d1, one 2 _ _ (by omega) d2⟩
              have hb3of : ∀ {v : AVal}, deferFin E h fuel g grest fn.results.toList st2 v = some (out, bxs') → boxes3 st2.bk = true := fun {v} hf => by
                unfold deferFin at hf
                split at hf
                · assumption
                · simp at hf
              have hret : ∀ (hi2 : Inv B κ n st2 a2 w2), deferFin E h fuel g grest fn.results.toList st2 (.v false [.p (.lit .nilIface)]) = some (out, bxs') → Leaves E.P fn a2.tmps (Leave B [] β out bxs') a2.defers .returning w2 := by
                intro hi2 hf
                obtain ⟨ι2, hs2, hk2'⟩ := hi2.sim
                obtain ⟨q0, q1, q2⟩ := hfin _ _ (hb3of hf) hk2'
                rw [hi2.defers.ds]
                exact deferFin_sound hmix hh hB hgl D hf hs2.toSimB (vv := .nilIface) (by
                  rw [show (AVal.v false [.p (.lit .nilIface)]) = litV .nilIface from rfl, vrep_lit]; exact ⟨rfl, rfl⟩) (by simp only [p2]; rw [q0]) (by rw [q1]) (by rw [q2]) (hi2.defers.pin 4 p4 (by simp [κ])) (hi2.defers.pin 5 p5 (by simp [κ])) (.inl ⟨rfl, rfl⟩) β
              cases x with
              | normal => obtain ⟨rfl, hi2⟩ := ha2; exact hret hi2 hk2
              | ret => obtain ⟨rfl, hi2⟩ := ha2; exact hret hi2 hk2
              | exit id => simp at hk2
              | panic y =>
                obtain ⟨chain, rfl, hd, v, ι2, rfl, hs2, hk2', hv⟩ := ha2
                simp only at hk2
                obtain ⟨q0, q1, q2⟩ := hfin _ _ (hb3of hk2) hk2'
                show Leaves E.P fn a2.tmps _ a2.defers (.panicking _) w2
                rw [hd.ds]
                exact deferFin_sound hmix hh hB hgl D hk2 hs2 (vrep_one.2 hv) (by simp only [p2]; rw [q0]) (by rw [q1]) (by rw [q2]) (hd.pin 4 p4 (by simp [κ])) (hd.pin 5 p5 (by simp [κ])) (.inr rfl) β

/-! ### The two regions that the evaluator does not run -/
theorem hop1_of {P : Program} {g i1 : Nat} {o1 o2 : Oper} (h1 : o1.op = .makeFunc (.func g) #[] #[.tmp 2, .tmp 4, .tmp 5]) (h1d : o1.dst = some 7) (h1g : o1.guard = none)
    (h2 : o2.op = .defer { callee := .value (.tmp 7), args := #[], argTypes := #[] }) (h2d : o2.dst = none) (h2g : o2.guard = none) (Q : Exit → Act → World → Prop) (a : Act) (w : World) (p2 p4 p5 : Value)
    (e2 : a.tmps[2]? = some p2) (e4 : a.tmps[4]? = some p4) (e5 : a.tmps[5]? = some p5) (e7 : 7 < a.tmps.size)
    (hq : Q .normal { tmps := (a.put (some 7) (.func (.func g) #[] #[p2, p4, p5])).tmps, defers := { target := .fn (.func g) #[p2, p4, p5], args := #[] } :: a.defers } w) : (Code.region i1 #[o1, o2] false).wp P Q a w := by
  have g2 : a.eval (.tmp 2) = p2 := by show a.tmps.getD 2 undef = _; rw [Array.getD_eq_getD_getElem?, e2]; rfl
  have g4 : a.eval (.tmp 4) = p4 := by show a.tmps.getD 4 undef = _; rw [Array.getD_eq_getD_getElem?, e4]; rfl
  have g5 : a.eval (.tmp 5) = p5 := by show a.tmps.getD 5 undef = _; rw [Array.getD_eq_getD_getElem?, e5]; rfl
  have hr1 : (execOp a.eval o1).run P w = .ok (.value (.func (.func g) #[] #[p2, p4, p5])) w := by
    simp [execOp, h1, g2, g4, g5, Instr.makeFunc]
  have g7 : (a.put (some 7) (.func (.func g) #[] #[p2, p4, p5])).eval (.tmp 7) = .func (.func g) #[] #[p2, p4, p5] := by
    show (a.tmps.setIfInBounds 7 _).getD 7 undef = _
    rw [Array.getD_eq_getD_getElem?, Array.getElem?_setIfInBounds, if_pos rfl, if_pos e7]
    rfl
  have hr2 : (execOp (a.put (some 7) (.func (.func g) #[] #[p2, p4, p5])).eval o2).run P w = .ok (.defer { target := .fn (.func g) #[p2, p4, p5], args := #[] }) w := by
    simp [execOp, h2, resolve, g7, Deferred.ofValue]
  refine wp_region ?_
  show wpOps P #[o1, o2] Q (List.range 2) a w
  simp only [List.range, List.range.loop, wpOps, List.getElem?_toArray, List.getElem?_cons_zero, List.getElem?_cons_succ, Region.wanted, h1g, h2g, if_true]
  refine .inl ?_
  unfold Oper.wp
  rw [hr1, Oper.upon_value, h1d]
  refine .inl ?_
  rw [hr2, Oper.upon_defer, h2d]
  exact hq

theorem hop2_of {P : Program} {j0 gn : Nat} {o1 o2 : Oper} (h1 : o1.op = .call { callee := .builtin .recover, args := #[], argTypes := #[] }) (h1d : o1.dst = some 6) (h1g : o1.guard = none)
    (h2 : o2.op = .assign (.tmp 6)) (h2d : o2.dst = some 3) (h2g : o2.guard = none) (h6 : 6 < gn) (Q : Exit → Act → List Frame → World → Prop) (a : Act) (cs cs' : List Frame) (w : World) (v : Value)
    (hr : recoverD cs = some (v, cs') ∨ (recoverD cs = none ∧ v = .nilIface ∧ cs' = cs)) (hsz : a.tmps.size = gn)
    (hq : Q .normal ((a.put (some 6) v).put (some 3) v) cs' w) : (Code.region j0 #[o1, o2] false).wpS P Q a cs w := by
  have hr1 : (execOp a.eval o1).run P w = .ok .recover w := by
    simp [execOp, h1, resolve, invoke, builtin]
  have g6 : (a.put (some 6) v).eval (.tmp 6) = v := by
    show (a.tmps.setIfInBounds 6 _).getD 6 undef = _
    rw [Array.getD_eq_getD_getElem?, Array.getElem?_setIfInBounds, if_pos rfl, if_pos (by omega)]
    rfl
  have hr2 : (execOp (a.put (some 6) v).eval o2).run P w = .ok (.value v) w := by
    simp [execOp, h2, g6]
  refine wpS_region ?_
  show wpOpsS P #[o1, o2] Q (List.range 2) a cs w
  simp only [List.range, List.range.loop, wpOpsS, List.getElem?_toArray, List.getElem?_cons_zero, List.getElem?_cons_succ, Region.wanted, h1g, h2g, if_true, hr1]
  rcases hr with h | ⟨h, rfl, rfl⟩
  · rw [h]
    simp only [h1d, hr2]
    rw [Oper.upon_value, h2d]
    exact hq
  · rw [h]
    simp only [h1d, hr2]
    rw [Oper.upon_value, h2d]
    exact hq

def codeOf (P : Program) (f : Nat) : Code := match P.funcs[f]? with
  | some fn => match fn.body with | some c => c | none => .skip
  | none => .skip
def seqL : Code → Code
  | .seq a _ => a
  | c => c
def seqR : Code → Code
  | .seq _ b => b
  | c => c
end Go.Proofs.YtggofahhehkbbaaGreatDoor.Ev
