/- Operations that read memory or write into it: sound. -/
import Derived.Test.YtggofahhehkbbaaGreatDoorEvOpB
namespace Go.Proofs.YtggofahhehkbbaaGreatDoor.Ev
set_option autoImplicit false
set_option linter.unusedVariables false
set_option linter.unusedSimpArgs false

theorem cells_vs {α : Type} (R : α → Value → Prop) : ∀ (qs : List α) (get : Nat → Option Value), (∀ (j : Nat) q, qs[j]? = some q → ∃ u, get j = some u ∧ R q u) →
    ∃ vs : List Value, vs.length = qs.length ∧ (∀ (j : Nat) v, vs[j]? = some v → get j = some v) ∧ ∀ (j : Nat) q v, qs[j]? = some q → vs[j]? = some v → R q v
  | [], get, _ => ⟨[], rfl, by simp, by simp⟩
  | q :: r, get, h => by
    obtain ⟨u, h1, h2⟩ := h 0 q (by simp)
    obtain ⟨vs, h3, h4, h5⟩ := cells_vs R r (fun j => get (j + 1)) fun j p hp => h (j + 1) p (by simpa using hp)
    refine ⟨u :: vs, by simp [h3], fun j v hv => ?_, fun j p v hp hv => ?_⟩
    · cases j with
      | zero => simp at hv; subst hv; exact h1
      | succ j => simp at hv; exact h4 j v hv
    · cases j with
      | zero => simp at hp hv; subst hp hv; exact h2
      | succ j => simp at hp hv; exact h5 j p v hp hv

theorem avrepL_p {c : RepCtx} : ∀ {qs : List PV} {vs : List Value}, RepL c.w c.N qs vs → AVRepL c (qs.map .p) vs
  | [], vs, h => by simp only [List.map_nil, AVRepL]; exact h
  | q :: r, vs, h => by
    obtain ⟨v, vs', rfl, h1, h2⟩ := h
    simp only [List.map_cons, AVRepL, AVRep]
    exact ⟨v, vs', rfl, h1, avrepL_p h2⟩

theorem beqN {a b : Nat} (h : Nat.beq a b = true) : a = b := Nat.eq_of_beq_eq_true h

theorem ite_some {p : Prop} [Decidable p] {α β : Type} {x : α} {f : α → Option β} {b : β} (h : (if p then some x else none).bind f = some b) : p ∧ f x = some b := by
  by_cases hp : p
  · rw [if_pos hp] at h; exact ⟨hp, h⟩
  · rw [if_neg hp] at h; simp at h

/-- The cells at an address, as what they hold. -/
theorem loadBack {P : Program} {st : St} {t : TypeId} {n : Nat} {g : Bool} (hn : tySize P t = some n) (hg : tyAgg P t = some g) {c : RepCtx} {cs : List AV} {x : AVal} {b o : Nat} {vs : List Value}
    (he : ((RM.chk (Nat.beq cs.length n)).bind fun _ => (match g with
      | true => RM.ret (AVal.v true cs)
      | false => match cs with | [c] => RM.ret (AVal.v false [c]) | _ => RM.fail)).ev st = some x)
    (hr : AVRepL c cs vs) (hc : ∀ (j : Nat) v, vs[j]? = some v → c.w.cell? ⟨b, o + j, none⟩ = some v) :
    ∃ u, (loadVar t ⟨b, o, none⟩).run P c.w = .ok u c.w ∧ VRep c x u := by
  simp only [ev_bind, ev_chk] at he
  obtain ⟨hl, he⟩ := ite_some he
  have hl := beqN hl
  have hlen := hr.length
  cases g with
  | true =>
    simp only [ev_ret, Option.some.injEq] at he
    subst he
    exact ⟨_, run_loadVar hg (by rw [hn]; congr 1; omega) hc (by simp), ⟨vs.toArray, rfl, by simpa using hr⟩⟩
  | false =>
    match cs, he with
    | [d], he =>
      simp only [ev_ret, Option.some.injEq] at he
      subst he
      have h1 : vs.length = 1 := by simpa using hlen
      match vs, h1 with
      | [v], _ =>
        refine ⟨_, run_loadVar hg (by rw [hn]; congr 1; simp at hl; simp; omega) hc (fun _ => rfl), ?_⟩
        exact hr
    | [], he => simp at he
    | _ :: _ :: _, he => simp at he

theorem arr_cells {c : RepCtx} {id ep ty sz : Nat} {fz : Bool} {es : List (List PV)} (h : BRep c id (.arr ep ty sz fz es)) : ArrCells c.w c.N sz es (fun k => c.w.cell? ⟨c.ι id, k, none⟩) := by
  cases fz with
  | true => exact h.1
  | false =>
    obtain ⟨C, f, hC, _, _, h4⟩ := h
    refine h4.mono (fun b hb => ⟨hb, fun _ => rfl⟩) fun _ _ _ _ _ _ _ h5 => ?_
    rw [cell_of hC]
    exact h5

theorem loadM_sound {P : Program} {B : Base} {st : St} {w : World} {ι : Nat → Nat} (hs : SimB B st.bk w ι) {t : TypeId} {a : AV} {x : AVal} {v : Value} (he : (loadM P t a).ev st = some x) (hv : AVRep (ctx B st.bk w ι) a v) :
    ∃ u, (Instr.loadAt t v).run P w = .ok u w ∧ VRep (ctx B st.bk w ι) x u := by
  unfold loadM at he
  split at he
  · rename_i n g hn hg
    have back : ∀ (cs : List AV) (b o : Nat) (vs : List Value), v = .pointer (some ⟨b, o, none⟩) → ((RM.chk (Nat.beq cs.length n)).bind fun _ => (match g with
        | true => RM.ret (AVal.v true cs)
        | false => match cs with | [c] => RM.ret (AVal.v false [c]) | _ => RM.fail)).ev st = some x →
        AVRepL (ctx B st.bk w ι) cs vs → (∀ (j : Nat) v, vs[j]? = some v → w.cell? ⟨b, o + j, none⟩ = some v) →
        ∃ u, (Instr.loadAt t v).run P w = .ok u w ∧ VRep (ctx B st.bk w ι) x u := by
      rintro cs b o vs rfl h1 h2 h3
      obtain ⟨u, h4, h5⟩ := loadBack hn hg h1 h2 h3
      exact ⟨u, by simp [Instr.loadAt, Instr.sureAddr]; exact h4, h5⟩
    cases a with
    | p q =>
      cases q with
      | ppt cs off =>
        simp only [AVRep] at hv
        obtain ⟨b, o, rfl, hb, hc⟩ := rep_ppt hv
        obtain ⟨vs, h1, h2, h3⟩ := cells_vs (Rep w (nav B st.bk w ι)) ((cs.drop off).take n) (fun j => w.cell? ⟨b, o + off + j, none⟩) (by
          intro j q hq
          have : cs[off + j]? = some q := by
            rw [List.getElem?_take] at hq
            split at hq
            · rw [List.getElem?_drop] at hq; exact hq
            · simp at hq
          obtain ⟨u, h4, h5⟩ := hc _ _ this
          exact ⟨u, by rw [Nat.add_assoc]; exact h4, h5⟩)
        exact back _ b (o + off) vs rfl he (avrepL_p (RepL.of_get h1 fun i q v hq hv => h3 i q v hq hv)) h2
      | _ => simp at he
    | ptr id ep i off =>
      simp only [ev_bind, ev_getB, Option.bind_some] at he
      simp only [AVRep] at hv
      obtain ⟨bl, hb, h1, h2, h3⟩ := hv
      simp only [ctx] at hb
      rw [hb] at he
      have hbr := hs.blks id bl hb
      cases bl with
      | box ty cs =>
        obtain ⟨C, f, hC, hf, hr⟩ := hbr
        match ep, i, he with
        | 0, 0, he =>
          obtain rfl := h2 ty cs rfl rfl rfl
          refine back _ (ι id) off ((C.toList.drop off).take n) rfl he ((hr.drop off).take n) fun j u hu => ?_
          simp only [ctx] at hC
          rw [cell_of hC]
          rw [List.getElem?_take] at hu
          split at hu
          · rw [List.getElem?_drop] at hu; simpa using hu
          · simp at hu
        | _ + 1, _, he => simp at he
        | 0, _ + 1, he => simp at he
      | arr ep' ty sz fz es =>
        simp only [ev_bind, ev_chk] at he
        have hep := (ite_some he).1
        replace he := (ite_some he).2
        obtain rfl := beqN hep
        obtain ⟨hi, rfl⟩ := (h3 _ _ _ _ _ rfl).2 rfl
        cases hie : es[i]? with
        | none => rw [hie] at he; simp at he
        | some e =>
          rw [hie] at he
          have harr := arr_cells hbr
          obtain ⟨vs, h1, h2, h3⟩ := cells_vs (Rep w (nav B st.bk w ι)) ((e.drop off).take n) (fun j => w.cell? ⟨ι id, i * sz + off + j, none⟩) (by
            intro j q hq
            have : e[off + j]? = some q := by
              rw [List.getElem?_take] at hq
              split at hq
              · rw [List.getElem?_drop] at hq; exact hq
              · simp at hq
            obtain ⟨u, h4, h5⟩ := harr.2.2 i e _ _ hie this
            exact ⟨u, by rw [Nat.add_assoc]; exact h4, h5⟩)
          exact back _ (ι id) (i * sz + off) vs rfl he (avrepL_p (RepL.of_get h1 fun i q v hq hv => h3 i q v hq hv)) h2
      | map es => simp at he
      | lent => simp at he
      | gone => simp at he
    | _ => simp at he
  · simp at he

/-! ### Places -/
theorem placeOf_ev {P : Program} {st : St} {s : TypeId} {f k : Nat} (h : (placeOf P s f).ev st = some k) : ∃ fs fl n, P.underlying s = some (.struct fs) ∧ fs[f]? = some fl ∧ tySize P fl.type = some (n + 1) ∧ fl.offset = k := by
  unfold placeOf at h
  split at h
  · rename_i fs hfs
    split at h
    · rename_i fl hfl
      split at h
      · rename_i n hn
        simp only [ev_ret, Option.some.injEq] at h
        exact ⟨fs, fl, n, hfs, hfl, hn, h⟩
      · simp at h
    · simp at h
  · simp at h

theorem run_fieldAt {P : Program} {w : World} {s : TypeId} {fs : Array Field} {f n : Nat} {fl : Field} (h1 : P.underlying s = some (.struct fs)) (h2 : fs[f]? = some fl) (h3 : tySize P fl.type = some (n + 1)) (b o : Nat) :
    (Instr.fieldAt s (.pointer (some ⟨b, o, none⟩)) f).run P w = .ok (.pointer (some ⟨b, o + fl.offset, none⟩)) w := by
  simp [Instr.fieldAt, run_under h1, h2, Instr.sureAddr, fieldPlace, run_sizeOf h3, add_mk]

/-- A reference that lives: where it leads, and that it may be moved. -/
theorem livePtr_place {B : Base} {st : St} {w : World} {ι : Nat → Nat} {id ep i off : Nat} {v : Value} (h : (livePtr id ep i).ev st = some ()) (hv : AVRep (ctx B st.bk w ι) (.ptr id ep i off) v) :
    ∃ b o, v = .pointer (some ⟨b, o, none⟩) ∧ ∀ k, AVRep (ctx B st.bk w ι) (.ptr id ep i (off + k)) (.pointer (some ⟨b, o + k, none⟩)) := by
  simp only [AVRep] at hv ⊢
  obtain ⟨bl, hb, h5, h6, h7⟩ := hv
  have hb' := hb
  simp only [ctx] at hb
  simp only [livePtr, ev_bind, ev_getB, Option.bind_some, hb] at h
  cases bl with
  | box ty cs =>
    simp only [ev_chk] at h
    have h : (Nat.beq ep 0 && Nat.beq i 0) = true := by revert h; cases (Nat.beq ep 0 && Nat.beq i 0) <;> simp
    simp only [Bool.and_eq_true] at h
    exact ⟨_, _, h6 ty cs rfl (beqN h.1) (beqN h.2), fun k => ⟨_, hb', rfl, fun ty' cs' _ _ _ => rfl, fun _ _ _ _ _ h => by simp at h⟩⟩
  | arr ep' ty sz fz es =>
    simp only [ev_chk] at h
    have h : Nat.beq ep ep' = true := by revert h; cases (Nat.beq ep ep') <;> simp
    obtain rfl := beqN h
    obtain ⟨hi, h8⟩ := (h7 _ _ _ _ _ rfl).2 rfl
    refine ⟨_, _, h8, fun k => ⟨_, hb', rfl, fun _ cs' h => by simp at h, fun ep' ty' sz' fz' es' h => ?_⟩⟩
    simp only [Blk.arr.injEq] at h
    obtain ⟨rfl, rfl, rfl, rfl, rfl⟩ := h
    exact ⟨Nat.le_refl _, fun _ => ⟨hi, by rw [Nat.add_assoc]⟩⟩
  | _ => simp at h

theorem ppt_place {w : World} {N : Nat → Prop} {cs : List PV} {off : Nat} {v : Value} (h : Rep w N (.ppt cs off) v) : ∃ b o, v = .pointer (some ⟨b, o, none⟩) ∧ ∀ k, Rep w N (.ppt cs (off + k)) (.pointer (some ⟨b, o + k, none⟩)) := by
  cases h with
  | ppt cs off b o V hb hc hr => exact ⟨b, o + off, rfl, fun k => by rw [Nat.add_assoc]; exact .ppt cs (off + k) b o V hb hc hr⟩

theorem fieldAddrM_sound {P : Program} {B : Base} {st : St} {w : World} {ι : Nat → Nat} {s : TypeId} {f : Nat} {a r : AV} {v : Value} (he : (fieldAddrM P s f a).ev st = some r) (hv : AVRep (ctx B st.bk w ι) a v) :
    ∃ u, (Instr.fieldAt s v f).run P w = .ok u w ∧ AVRep (ctx B st.bk w ι) r u := by
  unfold fieldAddrM at he
  simp only [ev_bind] at he
  obtain ⟨k, h1, he⟩ := bind_some he
  obtain ⟨fs, fl, n, h2, h3, h4, rfl⟩ := placeOf_ev h1
  cases a with
  | ptr id ep i off =>
    simp only [ev_bind] at he
    obtain ⟨_, hl, he⟩ := bind_some he
    simp only [ev_ret, Option.some.injEq] at he
    subst he
    obtain ⟨b, o, rfl, hp⟩ := livePtr_place hl hv
    exact ⟨_, run_fieldAt h2 h3 h4 _ _, hp _⟩
  | p q =>
    cases q with
    | ppt cs off =>
      simp only [ev_ret, Option.some.injEq] at he
      subst he
      simp only [AVRep] at hv
      obtain ⟨b, o, rfl, hp⟩ := ppt_place hv
      refine ⟨_, run_fieldAt h2 h3 h4 _ _, ?_⟩
      simp only [AVRep]
      exact hp _
    | _ => simp at he
  | _ => simp at he

/-- A slice's elements: where they lie. -/
theorem elemsM_sound {B : Base} {st : St} {w : World} {ι : Nat → Nat} (bw : BW) (hs : SimB B (st.setBs bw).bk w ι) {a : AV} {es : List (List PV)} {v : Value} (he : (elemsM bw a).ev st = some es) (hv : AVRep (ctx B (st.setBs bw).bk w ι) a v) :
    ∃ ad cap, v = .slice ad es.length cap ∧ es.length ≤ cap ∧ (es = [] ∨ ∃ b o sz, ad = some ⟨b, o, none⟩ ∧ (∀ e, e ∈ es → e.length = sz) ∧
      ∀ (i : Nat) e (j : Nat) q, es[i]? = some e → e[j]? = some q → ∃ u, w.cell? ⟨b, o + i * sz + j, none⟩ = some u ∧ Rep w (nav B (st.setBs bw).bk w ι) q u) := by
  have pure_ : ∀ es', Rep w (nav B (st.setBs bw).bk w ι) (.sl es') v → es' = es →
      ∃ ad cap, v = .slice ad es.length cap ∧ es.length ≤ cap ∧ (es = [] ∨ ∃ b o sz, ad = some ⟨b, o, none⟩ ∧ (∀ e, e ∈ es → e.length = sz) ∧
      ∀ (i : Nat) e (j : Nat) q, es[i]? = some e → e[j]? = some q → ∃ u, w.cell? ⟨b, o + i * sz + j, none⟩ = some u ∧ Rep w (nav B (st.setBs bw).bk w ι) q u) := by
    rintro es' h rfl
    cases h with
    | nil a cap => exact ⟨a, cap, rfl, Nat.zero_le _, .inl rfl⟩
    | sl es' b o cap sz V hb hcap hsz hc hr => exact ⟨_, cap, rfl, hcap, .inr ⟨b, o, sz, rfl, hsz, fun i e j q h1 h2 => ⟨_, hc i e j q h1 h2, hr i e j q h1 h2⟩⟩⟩
  unfold elemsM at he
  split at he
  · simp only [ev_ret, Option.some.injEq] at he
    simp only [AVRep] at hv
    exact pure_ _ hv he
  · simp only [ev_ret, Option.some.injEq] at he
    simp only [AVRep] at hv
    exact pure_ _ hv.1 he
  · rename_i id ep
    simp only [ev_bind, ev_getBO, Option.bind_some] at he
    simp only [AVRep] at hv
    obtain ⟨bl, hb, h1, h2⟩ := hv
    have hbr := hs.blks id bl hb
    simp only [ctx] at hb
    rw [hb] at he
    cases bl with
    | arr ep' ty sz fz es' =>
      simp only [ev_bind, ev_chk] at he
      have hep := (ite_some he).1
      replace he := (ite_some he).2
      obtain rfl := beqN hep
      simp only [ev_ret, Option.some.injEq] at he
      subst he
      obtain ⟨cap, rfl, hcap, _⟩ := (h2 _ _ _ _ _ rfl).2 rfl
      have harr := arr_cells hbr
      refine ⟨_, cap, rfl, hcap, .inr ⟨ι id, 0, sz, rfl, harr.2.1, fun i e j q h3 h4 => ?_⟩⟩
      obtain ⟨u, h5, h6⟩ := harr.2.2 i e j q h3 h4
      exact ⟨u, by rw [Nat.zero_add]; exact h5, h6⟩
    | _ => simp at he
  · simp at he

end Go.Proofs.YtggofahhehkbbaaGreatDoor.Ev
