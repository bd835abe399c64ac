/- Indexes, fields, slices, conversions, lengths: sound. -/
import Derived.Test.YtggofahhehkbbaaGreatDoorEvOpC
namespace Go.Proofs.YtggofahhehkbbaaGreatDoor.Ev
set_option autoImplicit false
set_option linter.unusedVariables false
set_option linter.unusedSimpArgs false

theorem chk_some {st : St} {b : Bool} {u : Unit} (h : (RM.chk b).ev st = some u) : b = true := by
  cases b
  · simp at h
  · rfl

theorem run_indexAt_slice {P : Program} {w : World} {t e : TypeId} {sz : Nat} (h1 : P.underlying t = some (.slice e)) (h2 : tySize P e = some sz) (b o len cap : Nat) (k : IntKind) (n : Int) (h0 : 0 ≤ n) (hn : n.toNat < len) :
    (Instr.indexAt t (.slice (some ⟨b, o, none⟩) len cap) (.int k n)).run P w = .ok (.pointer (some ⟨b, o + n.toNat * sz, none⟩)) w := by
  have : 0 ≤ n ∧ n < (len : Int) := ⟨h0, by omega⟩
  simp [Instr.indexAt, asIntOf, run_under h1, this, run_sizeOf h2, add_mk]

theorem rep_elem {w : World} {N : Nat → Prop} {es : List (List PV)} {v : Value} (h : Rep w N (.sl es) v) {i : Nat} {e : List PV} (hi : es[i]? = some e) :
    ∃ b o cap, v = .slice (some ⟨b, o, none⟩) es.length cap ∧ ∀ m, Rep w N (.ppt e m) (.pointer (some ⟨b, o + i * e.length + m, none⟩)) := by
  cases h with
  | nil => simp at hi
  | sl es b o cap sz V hb hcap hsz hc hr =>
    have he := hsz e (List.mem_of_getElem? hi)
    subst he
    exact ⟨b, o, cap, rfl, fun m => .ppt e m b (o + i * e.length) (V i) hb (fun j q hq => hc i e j q hi hq) (fun j q hq => hr i e j q hi hq)⟩

theorem indexAddrM_sound {P : Program} {B : Base} {st : St} {w : World} {ι : Nat → Nat} (hs : SimB B st.bk w ι) {t : TypeId} {a r : AV} {k : IntKind} {n : Int} {v : Value} (he : (indexAddrM P t a n).ev st = some r) (hv : AVRep (ctx B st.bk w ι) a v) :
    ∃ u, (Instr.indexAt t v (.int k n)).run P w = .ok u w ∧ AVRep (ctx B st.bk w ι) r u := by
  unfold indexAddrM at he
  split at he
  · rename_i e ht
    cases hsz : tySize P e with
    | none => rw [hsz] at he; simp at he
    | some sz =>
      rw [hsz] at he
      simp only [ev_bind] at he
      obtain ⟨_, h0, he⟩ := bind_some he
      have h0 := of_decide_eq_true (chk_some h0)
      obtain ⟨es, h1, he⟩ := bind_some he
      cases hx : es[n.toNat]? with
      | none => rw [hx] at he; simp at he
      | some x =>
        rw [hx] at he
        simp only [ev_bind] at he
        obtain ⟨_, h2, he⟩ := bind_some he
        have h2 := beqN (chk_some h2)
        have hlt : n.toNat < es.length := (List.getElem?_eq_some_iff.1 hx).1
        have pure_ : Rep w (nav B st.bk w ι) (.sl es) v → r = .p (.ppt x 0) → ∃ u, (Instr.indexAt t v (.int k n)).run P w = .ok u w ∧ AVRep (ctx B st.bk w ι) r u := by
          rintro hr rfl
          obtain ⟨b, o, cap, rfl, h3⟩ := rep_elem hr hx
          refine ⟨_, run_indexAt_slice ht hsz b o es.length cap k n h0 hlt, ?_⟩
          simp only [AVRep]
          rw [← h2]
          exact h3 0
        cases a with
        | p q =>
          cases q with
          | sl es' =>
            simp only [elemsM, ev_ret, Option.some.injEq] at h1 he
            simp only [AVRep] at hv
            subst h1
            exact pure_ hv he.symm
          | _ => simp [elemsM] at h1
        | tsl es' =>
          simp only [elemsM, ev_ret, Option.some.injEq] at h1 he
          simp only [AVRep] at hv
          subst h1
          exact pure_ hv.1 he.symm
        | own id ep =>
          simp only [ev_ret, Option.some.injEq] at he
          subst he
          simp only [elemsM, ev_bind, ev_getBO, Option.bind_some, setBs_nil] at h1
          simp only [AVRep] at hv ⊢
          obtain ⟨bl, hb, h3, h4⟩ := hv
          have hb' := hb
          simp only [ctx] at hb
          rw [hb] at h1
          have hbr := hs.blks id bl hb
          cases bl with
          | arr ep' ty sz' fz es' =>
            simp only [ev_bind, ev_chk] at h1
            have hep := beqN (ite_some h1).1
            replace h1 := (ite_some h1).2
            simp only [ev_ret, Option.some.injEq] at h1
            subst hep h1
            obtain ⟨cap, rfl, hcap, _⟩ := (h4 _ _ _ _ _ rfl).2 rfl
            have harr := arr_cells hbr
            have hl := harr.2.1 x (List.mem_of_getElem? hx)
            refine ⟨_, run_indexAt_slice ht hsz _ 0 es'.length cap k n h0 hlt, ⟨_, hb', rfl, fun _ cs h => by simp at h, fun ep' ty' sz'' fz' es'' h => ?_⟩⟩
            simp only [Blk.arr.injEq] at h
            obtain ⟨rfl, rfl, rfl, rfl, rfl⟩ := h
            refine ⟨Nat.le_refl _, fun _ => ⟨hlt, ?_⟩⟩
            rw [← h2, hl, Nat.zero_add, Nat.add_zero]
          | _ => simp at h1
        | _ => simp [elemsM] at h1
  · rename_i len e ht
    match hsz : tySize P e, he with
    | none, he => simp at he
    | some 0, he => simp at he
    | some (sz + 1), he =>
      simp only [ev_bind] at he
      obtain ⟨_, h0, he⟩ := bind_some he
      have h0 := chk_some h0
      simp only [Bool.and_eq_true, decide_eq_true_eq] at h0
      have run : ∀ b o, (Instr.indexAt t (.pointer (some ⟨b, o, none⟩)) (.int k n)).run P w = .ok (.pointer (some ⟨b, o + n.toNat * (sz + 1), none⟩)) w := by
        intro b o
        simp [Instr.indexAt, asIntOf, run_under ht, h0, run_sizeOf hsz, add_mk, Instr.sureAddr]
      cases a with
      | ptr id ep i off =>
        simp only [ev_bind] at he
        obtain ⟨_, hl, he⟩ := bind_some he
        simp only [ev_ret, Option.some.injEq] at he
        subst he
        obtain ⟨b, o, rfl, hp⟩ := livePtr_place hl hv
        exact ⟨_, run b o, hp _⟩
      | p q =>
        cases q with
        | ppt cs off =>
          simp only [ev_ret, Option.some.injEq] at he
          subst he
          simp only [AVRep] at hv ⊢
          obtain ⟨b, o, rfl, hp⟩ := ppt_place hv
          exact ⟨_, run b o, hp _⟩
        | _ => simp at he
      | _ => simp at he
  · simp at he

/-- A part of a value that is several cells. -/
theorem partBack {P : Program} {st : St} {w : World} {t : TypeId} {n : Nat} {g : Bool} (hn : tySize P t = some n) (hg : tyAgg P t = some g) {c : RepCtx} {cs : List AV} {C : Array Value} {off : Nat} {x : AVal}
    (he : ((RM.chk (Nat.beq ((cs.drop off).take n).length n)).bind fun _ => (match g with
      | true => RM.ret (AVal.v true ((cs.drop off).take n))
      | false => match (cs.drop off).take n with | [c] => RM.ret (AVal.v false [c]) | _ => RM.fail)).ev st = some x)
    (hr : AVRepL c cs C.toList) : ∃ u, (part t C off).run P w = .ok u w ∧ VRep c x u := by
  simp only [ev_bind] at he
  obtain ⟨_, hl, he⟩ := bind_some he
  have hl := beqN (chk_some hl)
  have hds := (hr.drop off).take n
  have hdl := hds.length
  cases g with
  | true =>
    simp only [ev_ret, Option.some.injEq] at he
    subst he
    refine ⟨_, run_part_agg hg hn C off, ⟨_, rfl, ?_⟩⟩
    rw [Array.toList_extract, List.extract_eq_take_drop]
    rw [show off + n - off = n by omega]
    exact hds
  | false =>
    match hm : (cs.drop off).take n, he with
    | [d], he =>
      simp only [ev_ret, Option.some.injEq] at he
      subst he
      rw [hm] at hds
      simp only [AVRepL] at hds
      obtain ⟨u, us, h1, h2, h3⟩ := hds
      refine ⟨u, run_part_one hg ?_, by rw [vrep_one]; exact h2⟩
      have : ((C.toList.drop off).take n)[0]? = some u := by rw [h1]; rfl
      rw [List.getElem?_take] at this
      split at this
      · rw [List.getElem?_drop] at this; simpa using this
      · simp at this
    | [], he => simp at he
    | _ :: _ :: _, he => simp at he

theorem fieldM_sound {P : Program} {c : RepCtx} {st : St} {w : World} {t : TypeId} {x r : AVal} {f : Nat} {v : Value} (he : (fieldM P t x f).ev st = some r) (hv : VRep c x v) : ∃ u, (Instr.field t v f).run P w = .ok u w ∧ VRep c r u := by
  unfold fieldM at he
  split at he
  · rename_i fs ht
    cases hf : fs[f]? with
    | none => rw [hf] at he; simp at he
    | some fl =>
      rw [hf] at he
      simp only at he
      split at he
      · rename_i sz g cs hsz hg
        obtain ⟨C, rfl, hC⟩ := hv
        obtain ⟨u, h1, h2⟩ := partBack (w := w) hsz hg he hC
        exact ⟨u, by simp [Instr.field, run_under ht, hf, asAgg, h1], h2⟩
      · simp at he
  · simp at he

theorem indexM_sound {P : Program} {c : RepCtx} {st : St} {w : World} {t : TypeId} {x r : AVal} {k : IntKind} {n : Int} {v : Value} (he : (indexM P t x n).ev st = some r) (hv : VRep c x v) : ∃ u, (Instr.index t v (.int k n)).run P w = .ok u w ∧ VRep c r u := by
  unfold indexM at he
  split at he
  · rename_i ht
    split at he
    · rename_i s
      simp only [ev_bind] at he
      obtain ⟨_, h0, he⟩ := bind_some he
      have h0 := of_decide_eq_true (chk_some h0)
      cases hb : (lst s)[n.toNat]? with
      | none => rw [hb] at he; simp at he
      | some b =>
        rw [hb] at he
        simp only [ev_ret, Option.some.injEq] at he
        subst he
        obtain ⟨_, rfl⟩ := vrep_lit.1 hv
        have hs : s[n.toNat]? = some b := by
          have hlt := (List.getElem?_eq_some_iff.1 hb)
          obtain ⟨hlt, heq⟩ := hlt
          rw [lst_size] at hlt
          rw [getElem?_pos s n.toNat hlt]
          congr 1
        exact ⟨_, by simp [Instr.index, asIntOf, run_under ht, h0, hs], vrep_lit.2 ⟨rfl, rfl⟩⟩
    · simp at he
  · rename_i len e ht
    split at he
    · rename_i sz g cs hsz hg
      simp only [ev_bind] at he
      obtain ⟨_, h0, he⟩ := bind_some he
      have h0 := chk_some h0
      simp only [Bool.and_eq_true, decide_eq_true_eq] at h0
      obtain ⟨C, rfl, hC⟩ := hv
      obtain ⟨u, h1, h2⟩ := partBack (w := w) (st := st) hsz hg (by simp only [ev_bind]; exact he) hC
      exact ⟨u, by simp [Instr.index, asIntOf, run_under ht, h0, run_sizeOf hsz, h1], h2⟩
    · simp at he
  · simp at he

theorem lenM_sound {P : Program} {B : Base} {st : St} {w : World} {ι : Nat → Nat} (hs : SimB B st.bk w ι) {t : TypeId} {x r : AVal} {v : Value} {ty : TypeId} (he : (lenM P t x).ev st = some r) (hv : VRep (ctx B st.bk w ι) x v) :
    ∃ u, (Builtin.len_ #[t] ty #[v]).run P w = .ok u w ∧ VRep (ctx B st.bk w ι) r u := by
  unfold lenM at he
  split at he
  · rename_i ht
    split at he
    · rename_i s
      simp only [ev_ret, Option.some.injEq] at he
      subst he
      obtain ⟨_, rfl⟩ := vrep_lit.1 hv
      exact ⟨_, by simp [Builtin.len_, run_under ht]; rfl, vrep_lit.2 ⟨rfl, by rw [lst_size]; rfl⟩⟩
    · simp at he
  · rename_i n e ht
    simp only [ev_ret, Option.some.injEq] at he
    subst he
    exact ⟨_, by simp [Builtin.len_, run_under ht]; rfl, vrep_lit.2 ⟨rfl, rfl⟩⟩
  · rename_i e ht
    split at he
    · rename_i a
      simp only [ev_bind] at he
      obtain ⟨es, h1, he⟩ := bind_some he
      simp only [ev_ret, Option.some.injEq] at he
      subst he
      rw [vrep_one] at hv
      obtain ⟨ad, cap, rfl, _⟩ := elemsM_sound [] hs h1 hv
      exact ⟨_, by simp [Builtin.len_, run_under ht]; rfl, vrep_lit.2 ⟨rfl, rfl⟩⟩
    · simp at he
  · rename_i kt et ht
    split at he
    · rename_i a
      simp only [ev_bind] at he
      obtain ⟨es, h1, he⟩ := bind_some he
      simp only [ev_ret, Option.some.injEq] at he
      subst he
      rw [vrep_one] at hv
      unfold mapEs at h1
      split at h1
      · simp only [ev_ret, Option.some.injEq] at h1
        subst h1
        obtain ⟨_, rfl⟩ := avrep_lit.1 hv
        exact ⟨_, by simp [Builtin.len_, run_under ht]; rfl, vrep_lit.2 ⟨rfl, rfl⟩⟩
      · rename_i id
        simp only [ev_bind, ev_getB, Option.bind_some] at h1
        simp only [AVRep] at hv
        obtain ⟨bl, hb, h3, h4⟩ := hv
        simp only [ctx] at hb
        rw [hb] at h1
        have hbr := hs.blks id bl hb
        cases bl with
        | map es' =>
          simp only [ev_ret, Option.some.injEq] at h1
          subst h1
          obtain rfl := h4 _ rfl
          obtain ⟨ms, ck, hh, hst, hent⟩ := hbr
          have hlen : ∀ {es : List (Value × Bool × List AV)} {ms : List MapEntry}, EntRep (ctx B st.bk w ι) es ms → ms.length = es.length := by
            intro es
            induction es with
            | nil => intro ms h; have : ms = [] := h; subst this; rfl
            | cons e r ih => intro ms h; obtain ⟨k, g, cs⟩ := e; obtain ⟨m, ms', rfl, _, _, _, h⟩ := h; simp [ih h]
          have := hlen hent
          refine ⟨_, by simp [Builtin.len_, run_under ht, getObj, Sem.run, ctx] ; simp only [ctx] at hh; rw [hh]; rfl, vrep_lit.2 ⟨rfl, ?_⟩⟩
          show goInt _ = _
          simp only [goInt, Value.int.injEq, true_and]
          rw [← this]
          simp
        | _ => simp at h1
      · simp at h1
    · simp at he
  · simp at he

end Go.Proofs.YtggofahhehkbbaaGreatDoor.Ev
