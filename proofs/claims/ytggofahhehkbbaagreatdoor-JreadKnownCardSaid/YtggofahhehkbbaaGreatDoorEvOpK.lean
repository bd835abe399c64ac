/- Maps: sound. -/
import Derived.Test.YtggofahhehkbbaaGreatDoorEvOpJ
import Derived.MapKept
namespace Go.Proofs.YtggofahhehkbbaaGreatDoor.Ev
set_option autoImplicit false
set_option linter.unusedVariables false
set_option linter.unusedSimpArgs false

theorem keyOk_ev {P : Program} {st : St} {t : TypeId} {k : Value} {u : Unit} (h : (keyOk P t k).ev st = some u) : ∃ d, P.underlying t = some d ∧ flatV k = true ∧ ((∃ i j n, d = .int i ∧ k = .int j n) ∨ ∃ s, d = .string ∧ k = .string s) := by
  unfold keyOk at h
  split at h
  · rename_i i j n h1
    exact ⟨_, h1, rfl, .inl ⟨i, j, n, rfl, rfl⟩⟩
  · rename_i s h1
    exact ⟨_, h1, rfl, .inr ⟨s, rfl, rfl⟩⟩
  · simp at h

theorem keyEq_ev {st : St} {d : TypeDesc} {k k' : Value} {b : Bool} (hd : (∃ i j n, d = .int i ∧ k = .int j n) ∨ ∃ s, d = .string ∧ k = .string s) (h : (keyEq k k').ev st = some b) :
    Instr.sameNow d k k' = some b ∧ (b = true → k = k') ∧ (b = false → k' ≠ k) := by
  rcases hd with ⟨i, j, n, rfl, rfl⟩ | ⟨s, rfl, rfl⟩
  · cases k' with
    | int j' n' =>
      simp only [keyEq, ev_bind] at h
      obtain ⟨_, h1, h'⟩ := bind_some h
      replace h := h'
      clear h'
      have h1 := of_decide_eq_true (chk_some h1)
      simp only [ev_ret, Option.some.injEq] at h
      subst h1
      subst h
      refine ⟨?_, fun hb => ?_, fun hb he => ?_⟩
      · simp only [Instr.sameNow, if_pos]
        congr 1
      · have := of_decide_eq_true hb
        rw [this]
      · simp only [Value.int.injEq] at he
        exact of_decide_eq_false hb he.2.symm
    | _ => simp [keyEq] at h
  · cases k' with
    | string s' =>
      simp only [keyEq, ev_ret, Option.some.injEq] at h
      subst h
      refine ⟨?_, fun hb => ?_, fun hb he => ?_⟩
      · simp only [Instr.sameNow, beq_lst]
      · rw [lst_inj (eq_of_beq hb)]
      · simp only [Value.string.injEq] at he
        subst he
        simp at hb
    | _ => simp [keyEq] at h

theorem mapFind_sound {st : St} {c : RepCtx} {d : TypeDesc} {k : Value} (hd : (∃ i j n, d = .int i ∧ k = .int j n) ∨ ∃ s, d = .string ∧ k = .string s) :
    ∀ {es : List (Value × Bool × List AV)} {ms : List MapEntry} {i : Nat} {r : Option (Nat × Bool × List AV)}, (mapFind k es i).ev st = some r → EntRep c es ms →
    ∃ r', Instr.findNow d k ms i = some r' ∧ match r with
      | none => r' = none ∧ ∀ m ∈ ms, m.key ≠ k
      | some (j, g, cs) => ∃ v, r' = some (j, v) ∧ VRepC c g cs v ∧ i ≤ j ∧ ∃ m, ms[j - i]? = some m ∧ m.key = k
  | [], ms, i, r, h, hr => by
    simp only [mapFind, ev_ret, Option.some.injEq] at h
    subst h
    simp only [EntRep] at hr
    subst hr
    exact ⟨none, rfl, rfl, fun m hm => by simp at hm⟩
  | (k', g, cs) :: es, ms, i, r, h, hr => by
    simp only [mapFind, ev_bind] at h
    obtain ⟨b, h1, h⟩ := bind_some h
    obtain ⟨b', h2, h⟩ := bind_some h
    have : b' = b := by
      have h2 : some b = some b' := h2
      simp at h2
      exact h2.symm
    subst this
    simp only [EntRep] at hr
    obtain ⟨m, ms', rfl, rfl, hf, hv, hr⟩ := hr
    obtain ⟨h3, h4, h4'⟩ := keyEq_ev hd h1
    cases b' with
    | true =>
      have h : some (some (i, g, cs)) = some r := h
      simp only [Option.some.injEq] at h
      subst h
      refine ⟨some (i, m.val), by simp [Instr.findNow, h3], m.val, rfl, hv, Nat.le_refl _, m, by simp, (h4 rfl).symm⟩
    | false =>
      obtain ⟨r', h5, h6⟩ := mapFind_sound hd h hr
      refine ⟨r', by simp [Instr.findNow, h3, h5], ?_⟩
      cases r with
      | none =>
        refine ⟨h6.1, fun m' hm' => ?_⟩
        rcases List.mem_cons.1 hm' with rfl | hm'
        · exact h4' rfl
        · exact h6.2 _ hm'
      | some r =>
        obtain ⟨j, g', cs'⟩ := r
        obtain ⟨v, h7, h8, h9, m', h10, h11⟩ := h6
        refine ⟨v, h7, h8, by omega, m', ?_, h11⟩
        rw [show j - i = (j - (i + 1)) + 1 by omega]
        simpa using h10

theorem mapEs_sound {P : Program} {B : Base} {st : St} {w : World} {ι : Nat → Nat} (hs : SimB B st.bk w ι) {m : AV} {es : List (Value × Bool × List AV)} {v : Value} (he : (mapEs m).ev st = some es) (hv : AVRep (ctx B st.bk w ι) m v) :
    (v = .map none ∧ es = []) ∨ ∃ id b ms ck, m = .mp id ∧ st.bk id = some (.map es) ∧ b = ι id ∧ v = .map (some b) ∧ w.heap[b]? = some (.map ms ck) ∧ EntRep (ctx B st.bk w ι) es ms.toList ∧ MapKept.Stamped ms ck := by
  unfold mapEs at he
  split at he
  · simp only [ev_ret, Option.some.injEq] at he
    rw [avrep_lit] at hv
    exact .inl ⟨hv.2, he.symm⟩
  · rename_i id
    simp only [ev_bind, ev_getB, Option.bind_some] at he
    cases hb : st.bk id with
    | none => rw [hb] at he; simp at he
    | some b =>
      rw [hb] at he
      cases b with
      | map es' =>
        simp only [ev_ret, Option.some.injEq] at he
        subst he
        obtain ⟨ms, ck, h1, hst, h2⟩ := hs.blks id _ hb
        simp only [AVRep] at hv
        obtain ⟨b', h3, h4, h5⟩ := hv
        simp only [ctx] at h3
        rw [hb] at h3
        simp only [Option.some.injEq] at h3
        subst h3
        exact .inr ⟨id, _, ms, ck, rfl, hb, rfl, h5 _ rfl, h1, h2, hst⟩
      | _ => simp at he
  · simp at he

theorem run_checkKey {P : Program} {w : World} {kt : TypeId} {d : TypeDesc} {k : Value} (e : Bool) (n : Nat) (h : P.underlying kt = some d) (hd : (∃ i j n, d = .int i ∧ k = .int j n) ∨ ∃ s, d = .string ∧ k = .string s) :
    (Instr.checkKey e (n + 1) kt k).run P w = .ok () w := by
  rcases hd with ⟨i, j, n, rfl, rfl⟩ | ⟨s, rfl, rfl⟩ <;> simp [Instr.checkKey, run_under h]

theorem run_findKey {P : Program} {w : World} {kt : TypeId} {d : TypeDesc} {k : Value} {ms : List MapEntry} {r : Option (Nat × Value)} (h : P.underlying kt = some d) (hf : Instr.findNow d k ms 0 = some r) :
    (Instr.findKey kt k ms).run P w = .ok r w := by
  simp [Instr.findKey, run_under h, hf]

theorem getObj_map {P : Program} {w : World} {r : Nat} {es : Array MapEntry} {ck : Nat} (h : w.heap[r]? = some (.map es ck)) : (getObj r).run P w = .ok (.map es ck) w := by simp [getObj, Sem.run, h]
theorem setObj_map {P : Program} {w : World} {r : Nat} {es : Array MapEntry} {ck : Nat} (o : Obj) (h : w.heap[r]? = some (.map es ck)) : (setObj r o).run P w = .ok () (World.setB w r o) := by simp [setObj, Sem.run, h, World.setB]

theorem zeroV_spec {P : Program} {t : TypeId} {g : Bool} {cs : List AV} (h : zeroV P t = some (g, cs)) : ∃ i z, P.info? t = some i ∧ i.zero = some z ∧ ∀ c, VRepC c g cs z := by
  unfold zeroV at h
  cases hi : P.info? t with
  | none => rw [hi] at h; simp at h
  | some i =>
    rw [hi] at h
    simp only at h
    cases hz : i.zero with
    | none => rw [hz] at h; simp at h
    | some z =>
      rw [hz] at h
      simp only at h
      split at h
      · rename_i g' cs' hc
        simp only [Option.some.injEq, Prod.mk.injEq] at h
        obtain ⟨rfl, rfl⟩ := h
        exact ⟨i, z, rfl, hz, fun c => constVal_sound hc c⟩
      · simp at h

theorem lookupM_sound {P : Program} {B : Base} {st : St} {w : World} {ι : Nat → Nat} (hs : SimB B st.bk w ι) {t : TypeId} {m : AV} {k : Value} {ok : Bool} {r : AVal} {v : Value} (he : (lookupM P t m k ok).ev st = some r) (hv : AVRep (ctx B st.bk w ι) m v) :
    ∃ u, (Instr.lookup t v k ok).run P w = .ok u w ∧ VRep (ctx B st.bk w ι) r u := by
  unfold lookupM at he
  cases hd : P.underlying t with
  | none => rw [hd] at he; simp at he
  | some d =>
  rw [hd] at he
  cases d with
  | map kt et =>
    simp only [ev_bind] at he
    obtain ⟨_, hk, he⟩ := bind_some he
    obtain ⟨dk, hkd, hkf, hkk⟩ := keyOk_ev hk
    split at he
    case h_2 => simp at he
    case h_1 g z hz =>
      simp only [ev_bind] at he
      obtain ⟨es, hes, he⟩ := bind_some he
      obtain ⟨fr, hfr, he⟩ := bind_some he
      have hcases : ∃ ms : Array MapEntry, EntRep (ctx B st.bk w ι) es ms.toList ∧ (v = .map none ∧ ms = #[] ∨ ∃ b ck, v = .map (some b) ∧ w.heap[b]? = some (.map ms ck)) := by
        rcases mapEs_sound (P := P) hs hes hv with ⟨rfl, rfl⟩ | ⟨id, b, ms, ck, rfl, hb, rfl, rfl, h1, h2, _⟩
        · exact ⟨#[], rfl, .inl ⟨rfl, rfl⟩⟩
        · exact ⟨ms, h2, .inr ⟨_, ck, rfl, h1⟩⟩
      obtain ⟨ms, hent, hcase⟩ := hcases
      obtain ⟨r', hfn, hrr⟩ := mapFind_sound hkk hfr hent
      have hlk : (Instr.lookup t v k ok).run P w = ((match r' with | some (_, v) => (pure (v, true) : Sem (Value × Bool)) | none => do pure (← zeroValue et, false)).run P w).andThen fun p w => .ok (if ok then .tuple #[p.1, .bool p.2] else p.1) w := by
        rcases hcase with ⟨rfl, rfl⟩ | ⟨b, ck, rfl, h1⟩
        · simp only [Instr.lookup, Sem.run_bind, run_under hd, Result.andThen_ok, Sem.run_pure, run_checkKey _ _ hkd hkk, run_findKey hkd hfn]
          cases r' with
          | none => simp; cases Sem.run P (zeroValue et) w <;> simp [Result.andThen]
          | some p => obtain ⟨_, _⟩ := p; simp
        · simp only [Instr.lookup, Sem.run_bind, run_under hd, Result.andThen_ok, Sem.run_pure, getObj_map h1, run_checkKey _ _ hkd hkk, run_findKey hkd hfn]
          cases r' with
          | none => simp; cases Sem.run P (zeroValue et) w <;> simp [Result.andThen]
          | some p => obtain ⟨_, _⟩ := p; simp
      have hfin : ∀ (g' : Bool) (cs : List AV) (u : Value) (b : Bool), VRepC (ctx B st.bk w ι) g' cs u → VRep (ctx B st.bk w ι) (match ok with | true => .tup [(g', cs), (false, [.p (.lit (.bool b))])] | false => .v g' cs) (if ok then .tuple #[u, .bool b] else u) := by
        intro g' cs u b h
        cases ok with
        | true => exact ⟨#[u, .bool b], rfl, u, _, rfl, h, .bool b, [], rfl, by rw [show VRepC (ctx B st.bk w ι) false [.p (.lit (.bool b))] (.bool b) = VRep (ctx B st.bk w ι) (litV (.bool b)) (.bool b) from rfl, vrep_lit]; exact ⟨rfl, rfl⟩, rfl⟩
        | false => exact h
      cases fr with
      | none =>
        obtain ⟨hrr, _⟩ := hrr
        subst hrr
        simp only [ev_ret, Option.some.injEq] at he
        subst he
        obtain ⟨i, zv, h1, h2, h3⟩ := zeroV_spec hz
        refine ⟨if ok then .tuple #[zv, .bool false] else zv, by rw [hlk]; simp only [Sem.run_bind, run_zeroValue h1 h2, Result.andThen_ok, Sem.run_pure], ?_⟩
        cases ok <;> exact hfin g z zv false (h3 _)
      | some p =>
        obtain ⟨j, g', cs⟩ := p
        simp only [ev_bind] at he
        obtain ⟨_, h1, h'⟩ := bind_some he
        clear he
        simp only [ev_ret, Option.some.injEq] at h'
        have h1 := eq_of_beq (chk_some h1)
        subst h1
        subst h'
        obtain ⟨u, rfl, hu, _⟩ := hrr
        exact ⟨if ok then .tuple #[u, .bool true] else u, by rw [hlk]; simp only [Sem.run_pure, Result.andThen_ok], by cases ok <;> exact hfin _ cs u true hu⟩
  | _ => simp at he

theorem sameBits_key {d : TypeDesc} {k : Value} (n : Nat) (hd : (∃ i j n, d = .int i ∧ k = .int j n) ∨ ∃ s, d = .string ∧ k = .string s) : Instr.sameBits n k k = true := by
  rcases hd with ⟨i, j, m, rfl, rfl⟩ | ⟨s, rfl, rfl⟩ <;> simp [Instr.sameBits, ← beq_lst]

theorem EntRep.append {c : RepCtx} {k : Value} {g : Bool} {cs : List AV} {m : MapEntry} (hk : m.key = k) (hf : flatV k = true) (hv : VRepC c g cs m.val) : ∀ {es : List (Value × Bool × List AV)} {ms : List MapEntry}, EntRep c es ms → EntRep c (es ++ [(k, g, cs)]) (ms ++ [m])
  | [], ms, h => by
    simp only [EntRep] at h
    subst h
    exact ⟨m, [], rfl, hk, hf, hv, rfl⟩
  | (k', g', cs') :: es, ms, h => by
    obtain ⟨m', ms', rfl, h1, h2, h3, h4⟩ := h
    exact ⟨m', ms' ++ [m], rfl, h1, h2, h3, EntRep.append hk hf hv h4⟩

theorem EntRep.set {c : RepCtx} {k : Value} {g : Bool} {cs : List AV} {m : MapEntry} (hk : m.key = k) (hf : flatV k = true) (hv : VRepC c g cs m.val) : ∀ {es : List (Value × Bool × List AV)} {ms : List MapEntry} (i : Nat), EntRep c es ms → EntRep c (es.set i (k, g, cs)) (ms.set i m)
  | [], ms, i, h => by
    simp only [EntRep] at h
    subst h
    simp [EntRep]
  | (k', g', cs') :: es, ms, i, h => by
    obtain ⟨m', ms', rfl, h1, h2, h3, h4⟩ := h
    cases i with
    | zero => exact ⟨m, ms', rfl, hk, hf, hv, h4⟩
    | succ i => exact ⟨m', ms'.set i m, rfl, h1, h2, h3, EntRep.set hk hf hv i h4⟩

theorem modify_set (ms : Array MapEntry) (i : Nat) (f : MapEntry → MapEntry) {m : MapEntry} (h : ms[i]? = some m) : (ms.modify i f).toList = ms.toList.set i (f m) := by
  apply List.ext_getElem?
  intro j
  rw [Array.getElem?_toList, Array.getElem?_modify, List.getElem?_set]
  by_cases hj : i = j
  · subst hj
    have hlt := (Array.getElem?_eq_some_iff.1 h).1
    rw [if_pos rfl, if_pos rfl, h, if_pos (by simpa using hlt)]
    rfl
  · rw [if_neg hj, if_neg hj, Array.getElem?_toList]

theorem mapUpdM_sound {P : Program} {B : Base} {st : St} {w : World} {ι : Nat → Nat} (hs : SimB B st.bk w ι) {t : TypeId} {m : AV} {k : Value} {g : Bool} {cs : List AV} {bw : BW} {v x : Value} (he : (mapUpdM P t m k g cs).ev st = some bw)
    (hv : AVRep (ctx B st.bk w ι) m v) (hx : VRepC (ctx B st.bk w ι) g cs x) :
    ∃ w', (Instr.mapUpdate t v k x).run P w = .ok () w' ∧ Ext (ctx B st.bk w ι) (ctx B (st.setBs bw).bk w' ι) ∧ SimB B (st.setBs bw).bk w' ι := by
  unfold mapUpdM at he
  split at he
  case h_2 => simp at he
  case h_1 kt et id hd =>
    simp only [ev_bind] at he
    obtain ⟨_, hk, he⟩ := bind_some he
    obtain ⟨dk, hkd, hkf, hkk⟩ := keyOk_ev hk
    split at he
    case h_2 => simp at he
    case h_1 g' hg =>
      simp only [ev_bind] at he
      obtain ⟨_, hgg, he⟩ := bind_some he
      obtain ⟨es, hes, he⟩ := bind_some he
      obtain ⟨fr, hfr, he⟩ := bind_some he
      rcases mapEs_sound (P := P) hs hes hv with ⟨rfl, _⟩ | ⟨id', b, ms, ck, hid, hb, rfl, rfl, h1, h2, hst⟩
      · simp only [AVRep] at hv
        simp only [mapEs, ev_bind, ev_getB, Option.bind_some] at hes
        obtain ⟨b', h3, h4, h5⟩ := hv
        simp only [ctx] at h3
        rw [h3] at hes
        cases b' with
        | map es' => have := h5 _ rfl; simp at this
        | _ => simp at hes
      · simp only [AV.mp.injEq] at hid
        subst hid
        obtain ⟨r', hfn, hrr⟩ := mapFind_sound hkk hfr h2
        have hput : ∀ (es' : List (Value × Bool × List AV)) (ms' : Array MapEntry) (ck' : Nat), MapKept.Stamped ms' ck' → (∀ c', Ext (ctx B st.bk w ι) c' → EntRep c' es' ms'.toList) →
            Ext (ctx B st.bk w ι) (ctx B (st.setBs [(id, .map es')]).bk (World.setB w (ι id) (.map ms' ck')) ι) ∧ SimB B (st.setBs [(id, .map es')]).bk (World.setB w (ι id) (.map ms' ck')) ι := by
          intro es' ms' ck' hst' hr
          exact hs.put hb rfl (x' := .map es') rfl (.map ms' ck') ⟨⟨es, rfl⟩, rfl⟩ (fun ext => ⟨ms', ck', setB_heap _ _ _ (heap_lt h1), hst', hr _ ext⟩)
        cases fr with
        | none =>
          obtain ⟨hrr, hnk⟩ := hrr
          subst hrr
          simp only [ev_ret, Option.some.injEq] at he
          subst he
          obtain ⟨h6, h7⟩ := hput (es ++ [(k, g, cs)]) (ms.push { key := k, val := x, born := ck }) (ck + 1) (MapKept.stamped_push hst hnk) (fun c' ext => by
            have := EntRep.append (m := { key := k, val := x, born := ck }) rfl hkf (hx.ext ext) (EntRep.ext ext h2)
            simpa using this)
          refine ⟨_, ?_, h6, h7⟩
          simp only [Instr.mapUpdate, Sem.run_bind, run_under hd, Result.andThen_ok, getObj_map h1, run_checkKey _ _ hkd hkk, run_findKey hkd hfn, setObj_map _ h1]
        | some p =>
          obtain ⟨j, g2, cs2⟩ := p
          simp only [ev_ret, Option.some.injEq] at he
          subst he
          obtain ⟨u, rfl, hu, hij, m, hm, hmk⟩ := hrr
          have hm' := hm
          rw [Nat.sub_zero, Array.getElem?_toList] at hm
          obtain ⟨h6, h7⟩ := hput (es.set j (k, g, cs)) (ms.modify j fun e => { e with key := k, val := x }) ck (MapKept.stamped_modify hst j _ (fun _ _ => rfl) (fun e _ he => by rw [Nat.sub_zero] at hm' ; rw [Array.getElem?_toList] at hm'; rw [hm'] at he; simp only [Option.some.injEq] at he; subst he; exact hmk.symm)) (fun c' ext => by
            rw [modify_set _ _ _ hm]
            exact EntRep.set (m := { m with key := k, val := x }) rfl hkf (hx.ext ext) j (EntRep.ext ext h2))
          refine ⟨_, ?_, h6, h7⟩
          simp only [Instr.mapUpdate, Sem.run_bind, run_under hd, Result.andThen_ok, getObj_map h1, run_checkKey _ _ hkd hkk, run_findKey hkd hfn, hm, Option.map_some, Option.getD_some, hmk, Instr.keyThatStays, sameBits_key 10000 hkk, if_true, Sem.run_pure, setObj_map _ h1]

end Go.Proofs.YtggofahhehkbbaaGreatDoor.Ev
