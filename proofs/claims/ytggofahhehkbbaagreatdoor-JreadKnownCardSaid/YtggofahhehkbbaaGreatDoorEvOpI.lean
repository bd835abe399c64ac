/- Slices of slices, conversions, makes: sound. -/
import Derived.Test.YtggofahhehkbbaaGreatDoorEvOpH
import Derived.Laws.Slices
import Derived.Laws.BytesString
import Derived.Laws.BytesArg
import Derived.Laws.MakeOwn
import Derived.Laws.IdiomStrings
namespace Go.Proofs.YtggofahhehkbbaaGreatDoor.Ev
set_option autoImplicit false
set_option linter.unusedVariables false
set_option linter.unusedSimpArgs false

theorem rep_slice {w : World} {N : Nat → Prop} {es : List (List PV)} {ad : Option Addr} {n c l h m sz : Nat} (hr : Rep w N (.sl es) (.slice ad n c)) (hlh : l ≤ h) (hh : h ≤ es.length) (hz : l = 0 ∨ ∀ e, e ∈ es → e.length = sz) (hm : h ≤ m) :
    Rep w N (.sl ((es.take h).drop l)) (.slice (if m = l then ad else ad.map (·.add (l * sz))) (h - l) (m - l)) := by
  cases hr with
  | nil a cap =>
    simp only [List.length_nil, Nat.le_zero] at hh
    subst hh
    obtain rfl : l = 0 := by omega
    simpa using Rep.nil _ _
  | sl es b o cap sz' V hb hcap hsz hc hr =>
    by_cases he : l = h
    · subst he
      have : (es.take l).drop l = [] := by simp
      rw [this, Nat.sub_self]
      exact .nil _ _
    · have hml : m ≠ l := by omega
      have hle : ((es.take h).drop l).length = h - l := by simp; omega
      rw [if_neg hml]
      have hoff : l * sz = l * sz' := by
        rcases hz with rfl | hz
        · simp
        · have hmem := List.getElem_mem (l := es) (n := 0) (by omega)
          rw [← hz _ hmem, ← hsz _ hmem]
      simp only [Option.map_some, add_mk]
      rw [hoff, ← hle]
      refine .sl _ b (o + l * sz') (m - l) sz' (fun i j => V (l + i) j) hb (by omega) (fun e hm => hsz e (List.mem_of_mem_take (List.mem_of_mem_drop hm))) ?_ ?_
      · intro i e j q hi hj
        rw [List.getElem?_drop, List.getElem?_take] at hi
        split at hi
        · have := hc (l + i) e j q hi hj
          rw [Nat.add_mul] at this
          simpa [Nat.add_assoc] using this
        · simp at hi
      · intro i e j q hi hj
        rw [List.getElem?_drop, List.getElem?_take] at hi
        split at hi
        · exact hr (l + i) e j q hi hj
        · simp at hi

theorem elems_pure {st : St} {a : AV} {es : List (List PV)} {q : PV} {bw : BW} (h1 : (elemsM [] a).ev st = some es) (h2 : (pureA [] a).ev st = some (q, bw)) : q = .sl es := by
  cases a with
  | p p =>
    cases p <;> simp [elemsM] at h1
    simp [pureA] at h2
    rw [← h2.1, h1]
  | tsl es' =>
    simp [elemsM] at h1
    simp [pureA] at h2
    rw [← h2.1, h1]
  | own id ep =>
    simp only [elemsM, pureA, getBO, BW.find, ev_bind, ev_getB, Option.bind_some] at h1 h2
    cases hb : st.bk id with
    | none => rw [hb] at h1; simp at h1
    | some b =>
      rw [hb] at h1 h2
      cases b with
      | arr ep' ty sz fz es' =>
        simp only [ev_bind] at h1 h2
        obtain ⟨_, _, h1⟩ := bind_some h1
        obtain ⟨_, _, h2⟩ := bind_some h2
        simp only [ev_ret, Option.some.injEq] at h1
        subst h1
        cases fz <;> simp at h2 <;> exact h2.1.symm
      | _ => simp at h1
  | _ => simp [elemsM] at h1

def optV : Option Int → Option Value → Prop
  | none, v => v = none
  | some n, v => ∃ k, v = some (.int k n)

theorem run_bounds {P : Program} {w : World} {b : Bool} {len cap : Nat} {lo hi mx : Option Int} {vl vh vm : Option Value} (h1 : optV lo vl) (h2 : optV hi vh) (h3 : optV mx vm)
    {l h m : Int} (hl : l = lo.getD 0) (hh : h = hi.getD (len : Int)) (hm : m = mx.getD (cap : Int)) (h0 : 0 ≤ l) (hlh : l ≤ h) (hhm : h ≤ m) (hmc : m ≤ cap) (hok : mx.isSome → hi.isSome) :
    (Instr.sliceBounds b len cap vl vh vm).run P w = .ok (l.toNat, h.toNat, m.toNat) w := by
  have hb : ∀ (k : IntKind) (i : Int) (y : Nat) (code : BoundsCode), 0 ≤ i → i ≤ (y : Int) → (Instr.sliceBound (.int k i) y code).run P w = .ok i.toNat w := fun k i y code a b => run_sliceBound w k i y code a b
  have eh : (h.toNat : Int) = h := Int.toNat_of_nonneg (by omega)
  have em : (m.toNat : Int) = m := Int.toNat_of_nonneg (by omega)
  cases lo <;> cases hi <;> cases mx <;> simp only [optV, Option.getD_some, Option.getD_none] at h1 h2 h3 hl hh hm hok <;> (try obtain ⟨_, rfl⟩ := h1) <;> (try obtain ⟨_, rfl⟩ := h2) <;> (try obtain ⟨_, rfl⟩ := h3) <;> (try subst h1) <;> (try subst h2) <;> (try subst h3) <;> (try subst hl) <;> (try subst hh) <;> (try subst hm) <;>
    first
    | (exact absurd (hok rfl) Bool.false_ne_true)
    | (simp only [Instr.sliceBounds, Sem.run_bind, Sem.run_pure, Result.andThen_ok]
       first
       | rfl
       | (repeat (rw [hb _ _ _ _ (by omega) (by omega)]; simp only [Result.andThen_ok]))
       <;> simp)

theorem sliceM_sound {P : Program} {B : Base} {st : St} {w : World} {ι : Nat → Nat} (hs : SimB B st.bk w ι) {t : TypeId} {x r : AVal} {lo hi mx : Option Int} {vl vh vm : Option Value} (h1 : optV lo vl) (h2 : optV hi vh) (h3 : optV mx vm) {bw : BW} {v : Value}
    (he : (sliceM P t x lo hi mx).ev st = some (r, bw)) (hv : VRep (ctx B st.bk w ι) x v) :
    ∃ u, (Instr.sliceAt t v vl vh vm).run P w = .ok u w ∧ Ext (ctx B st.bk w ι) (ctx B (st.setBs bw).bk w ι) ∧ SimB B (st.setBs bw).bk w ι ∧ VRep (ctx B (st.setBs bw).bk w ι) r u := by
  unfold sliceM at he
  cases hd : P.underlying t with
  | none => rw [hd] at he; simp at he
  | some d =>
  rw [hd] at he
  cases d with
  | string =>
    simp only at he
    split at he
    case h_2 => simp at he
    case h_1 s =>
      rw [show (AVal.v false [.p (.lit (.string s))]) = litV (.string s) from rfl, vrep_lit] at hv
      obtain ⟨_, rfl⟩ := hv
      simp only [ev_bind] at he
      obtain ⟨_, hc, he⟩ := bind_some he
      have hc := chk_some hc
      simp only [ev_ret, Option.some.injEq, Prod.mk.injEq] at he
      obtain ⟨rfl, rfl⟩ := he
      simp only [Bool.and_eq_true, decide_eq_true_eq, lst_size] at hc
      simp only [optV] at h3
      subst h3
      have hb := run_bounds (P := P) (w := w) (b := false) (len := s.size) (cap := s.size) h1 h2 (show optV none none from rfl) rfl rfl rfl hc.1.1 hc.1.2 hc.2 (Int.le_refl _) (by simp)
      refine ⟨.string (mkS (((lst s).take (hi.getD ((lst s).length : Int)).toNat).drop (lo.getD 0).toNat)), ?_, Ext.refl _, hs, ?_⟩
      rotate_left
      · rw [vrep_lit]; exact ⟨rfl, rfl⟩
      · rw [lst_size]
        simp only [Instr.sliceAt, Instr.slice, Sem.run_bind, run_under hd, Result.andThen_ok, Option.isSome_none, Bool.false_eq_true, if_false, Sem.run_pure, hb, mkS_extract]
        try simp [hb, mkS_extract]
  | slice e =>
    simp only at he
    split at he
    case h_2 => simp at he
    case h_1 a sz hsz =>
      rw [vrep_one] at hv
      simp only [ev_bind] at he
      obtain ⟨es, hes, he⟩ := bind_some he
      obtain ⟨_, hc, he⟩ := bind_some he
      have hc := chk_some hc
      obtain ⟨⟨q, bw1⟩, hp, he⟩ := bind_some he
      obtain ⟨_, hz, he⟩ := bind_some he
      have hz := chk_some hz
      obtain rfl := elems_pure hes hp
      obtain ⟨s1, e1, r1⟩ := pureA_sound a [] bw1 _ v hs hp hv
      simp only [Bool.and_eq_true, Bool.or_eq_true, decide_eq_true_eq, List.all_eq_true] at hc hz
      obtain ⟨⟨h0, hlh⟩, hhl⟩ := hc
      have hrep : ∃ ad c, v = .slice ad es.length c ∧ es.length ≤ c := by
        cases r1 with
        | nil ad c => exact ⟨ad, c, rfl, Nat.zero_le _⟩
        | sl es b o c sz V hb hcap => exact ⟨_, c, rfl, hcap⟩
      obtain ⟨ad, c, rfl, hcap⟩ := hrep
      have hz' : (lo.getD 0).toNat = 0 ∨ ∀ e, e ∈ es → e.length = sz := by
        rcases hz with hz | hz
        · left; omega
        · right; exact fun e he => beqN (hz e he)
      have hgo : ∀ m : Int, m = mx.getD (c : Int) → hi.getD (es.length : Int) ≤ m → m ≤ c → (mx.isSome → hi.isSome) →
          ∃ u, (Instr.sliceAt t (.slice ad es.length c) vl vh vm).run P w = .ok u w ∧ Rep w (nav B (st.setBs bw1).bk w ι) (.sl ((es.take (hi.getD (es.length : Int)).toNat).drop (lo.getD 0).toNat)) u ∧
            ∃ a', u = .slice a' ((hi.getD (es.length : Int)).toNat - (lo.getD 0).toNat) (m.toNat - (lo.getD 0).toNat) := by
        intro m hm hhm hmc hok
        have hb := run_bounds (P := P) (w := w) (b := true) (len := es.length) (cap := c) h1 h2 h3 rfl rfl hm h0 hlh hhm hmc hok
        refine ⟨_, ?_, rep_slice r1 (m := m.toNat) (sz := sz) (by omega) (by omega) hz' (by omega), _, rfl⟩
        simp only [Instr.sliceAt, Instr.slice, Sem.run_bind, run_under hd, Result.andThen_ok, Sem.run_pure, hb, run_sizeOf hsz]
      have hlen : ((es.take (hi.getD (es.length : Int)).toNat).drop (lo.getD 0).toNat).length = (hi.getD (es.length : Int)).toNat - (lo.getD 0).toNat := by simp; omega
      cases mx with
      | some m =>
        simp only at he
        cases hi with
        | none => simp at he
        | some h =>
          simp only [ev_bind] at he
          obtain ⟨_, hm, he⟩ := bind_some he
          have hm := chk_some hm
          simp only [Bool.and_eq_true, decide_eq_true_eq, Option.getD_some] at hm
          simp only [ev_ret, Option.some.injEq, Prod.mk.injEq] at he
          obtain ⟨rfl, rfl⟩ := he
          simp only [Option.getD_some] at hgo hlen hlh hhl
          obtain ⟨u, hr, hrep, a', hu⟩ := hgo m rfl hm.1 (by omega) (by simp)
          refine ⟨u, hr, e1, s1, ?_⟩
          rw [vrep_one]
          simp only [AVRep]
          refine ⟨hrep, a', ?_⟩
          have : m = h := by omega
          simp only [Option.getD_some] at hu ⊢
          rw [hu, hlen, this]
      | none =>
        simp only [Option.getD_none, Option.isSome_none] at hgo
        obtain ⟨u, hr, hrep, a', hu⟩ := hgo c rfl (by omega) (Int.le_refl _) (by simp)
        simp only at he
        split at he
        · simp only [ev_ret, Option.some.injEq, Prod.mk.injEq] at he
          obtain ⟨rfl, rfl⟩ := he
          refine ⟨u, hr, e1, s1, ?_⟩
          rw [vrep_one]
          simp only [AVRep]
          refine ⟨hrep, a', ?_⟩
          simp only [AVRep] at hv
          obtain ⟨_, a2, h5⟩ := hv
          simp only [elemsM, ev_ret, Option.some.injEq] at hes
          subst hes
          simp only [Value.slice.injEq] at h5
          rw [hu, hlen, h5.2.2]
          simp
        · simp only [ev_ret, Option.some.injEq, Prod.mk.injEq] at he
          obtain ⟨rfl, rfl⟩ := he
          exact ⟨u, hr, e1, s1, by rw [vrep_one]; simp only [AVRep]; exact hrep⟩
  | _ => simp at he

end Go.Proofs.YtggofahhehkbbaaGreatDoor.Ev
