/- New blocks, literals, stores: sound. -/
import Derived.Test.YtggofahhehkbbaaGreatDoorEvOpF
namespace Go.Proofs.YtggofahhehkbbaaGreatDoor.Ev
set_option autoImplicit false
set_option linter.unusedVariables false
set_option linter.unusedSimpArgs false

theorem freeId_ev {st : St} {bw : BW} {id : Nat} {u : Unit} (h : (freeId bw id).ev st = some u) : (st.setBs bw).bk id = none := by
  simp only [freeId, ev_bind, ev_getBO, Option.bind_some] at h
  cases hb : (st.setBs bw).bk id with
  | none => rfl
  | some b => rw [hb] at h; simp at h

theorem okFz0 (n : Nat) : okFz (0, 0) n := fun o _ h => by omega

theorem zeroCells_spec {P : Program} {t : TypeId} {cs : List AV} (h : zeroCells P t = some cs) : ∃ i z, P.info? t = some i ∧ i.zero = some z ∧ z.cells.toList.mapM constCell = some cs := by
  unfold zeroCells at h
  split at h
  · rename_i i hi
    split at h
    · rename_i z hz
      exact ⟨i, z, hi, hz, h⟩
    · simp at h
  · simp at h

theorem run_zeroValue {P : Program} {t : TypeId} {i : TypeInfo} {z : Value} (h1 : P.info? t = some i) (h2 : i.zero = some z) (w : World) : (zeroValue t).run P w = .ok z w := by
  simp [zeroValue, typeInfo, h1, h2]

/-- A new variable. -/
theorem SimB.newBox {B : Base} {bk : Nat → Option Blk} {w : World} {ι : Nat → Nat} (h : SimB B bk w ι) {id : Nat} (hid : bk id = none) {cs : List AV} {C : Array Value} (t : TypeId) (hc : AVRepL (ctx B bk w ι) cs C.toList) :
    Ext (ctx B bk w ι) (ctx B (upd bk id (some (.box t cs))) (w.alloc (.cells C t)) (upd ι id w.heap.size)) ∧ SimB B (upd bk id (some (.box t cs))) (w.alloc (.cells C t)) (upd ι id w.heap.size) ∧
    AVRep (ctx B (upd bk id (some (.box t cs))) (w.alloc (.cells C t)) (upd ι id w.heap.size)) (.ptr id 0 0 0) (.pointer (some ⟨w.heap.size, 0, none⟩)) := by
  obtain ⟨e, s⟩ := h.alloc hid (x := .box t cs) rfl (.cells C t) fun ext => ⟨C, (0, 0), by simp only [ctx]; rw [upd_same]; exact heap_alloc_new _ _, okFz0 _, AVRepL.ext ext _ _ hc⟩
  refine ⟨e, s, ?_⟩
  simp only [AVRep]
  exact ⟨_, upd_same _ _ _, rfl, fun _ cs' _ _ _ => by simp only [ctx]; rw [upd_same], fun _ _ _ _ _ h => by simp at h⟩

theorem vrep_cells {c : RepCtx} {g : Bool} {cs : List AV} {v : Value} (h : VRepC c g cs v) : AVRepL c cs v.cells.toList := by
  cases g with
  | true => obtain ⟨C, rfl, hC⟩ := h; exact hC
  | false =>
    have h' : AVRepL c cs [v] := h
    have hone : v.oneCell' = true := AVRepL.ones h' v (by simp)
    have : v.cells = #[v] := by cases v <;> first | rfl | (simp [Value.oneCell'] at hone)
    rw [this]; exact h'

/-! ### Parts filled in -/
theorem foldl_set {off : Nat} : ∀ (xs : List Value) (k : Nat) (C : Array Value), off + k + xs.length ≤ C.size →
    ((xs.zipIdx k).foldl (fun cs p => cs.setIfInBounds (off + p.2) p.1) C).toList = splice C.toList (off + k) xs
  | [], k, C, _ => by simp [splice_nil]
  | x :: r, k, C, h => by
    simp only [List.length_cons] at h
    rw [List.zipIdx_cons, List.foldl_cons, foldl_set r (k + 1) _ (by simp; omega), Array.toList_setIfInBounds, show off + (k + 1) = off + k + 1 by omega, splice_cons _ _ _ _ (by simp; omega)]

theorem fill_step {place : Nat → Option (Nat × Nat)} {C : Array Value} {i off size : Nat} {v : Value} {rest : List (Nat × Value)} (hp : place i = some (off, size)) (hs : v.cells.size = size) (hl : off + size ≤ C.size) :
    Instr.fill place C ((i, v) :: rest) = Instr.fill place (splice C.toList off v.cells.toList).toArray rest := by
  have h1 : ¬ (v.cells.size ≠ size ∨ off + v.cells.size > C.size) := by omega
  simp only [Instr.fill, hp, hs]
  have h2 : ¬ (off + size > C.size) := by omega
  simp only [ne_eq, not_true, false_or, h2, decide_false, Bool.or_false, Bool.false_eq_true, if_false]
  congr 1
  apply Array.toList_inj.1
  rw [← Array.foldl_toList, Array.toList_zipIdx]
  exact foldl_set (off := off) v.cells.toList 0 C (by simp [hs]; omega)

/-- A list of parts, and what they are. -/
def PartsRep (c : RepCtx) : List (Nat × List AV) → List (Nat × Value) → Prop
  | [], vs => vs = []
  | (i, cs) :: r, vs => ∃ v vs', vs = (i, v) :: vs' ∧ AVRepL c cs v.cells.toList ∧ PartsRep c r vs'

theorem partsM_sound {E : Env} {B : Base} {st : St} {w : World} {ι : Nat → Nat} {a : Act} (h : Sim B st w ι a.tmps) (hB : BaseOK B) (hg : GlobOK E B) : ∀ {xs : List (Nat × Operand)} {ps : List (Nat × List AV)}, (partsM E xs).ev st = some ps →
    PartsRep (ctx B st.bk w ι) ps (xs.map fun (i, x) => (i, a.eval x))
  | [], ps, he => by simp only [partsM, ev_ret, Option.some.injEq] at he; subst he; rfl
  | (i, x) :: r, ps, he => by
    simp only [partsM, ev_bind] at he
    obtain ⟨v, h1, he⟩ := bind_some he
    obtain ⟨cs, h2, he⟩ := bind_some he
    obtain ⟨ps', h3, he⟩ := bind_some he
    simp only [ev_ret, Option.some.injEq] at he
    subst he
    obtain ⟨g, rfl⟩ := asCells_ev h2
    exact ⟨a.eval x, _, rfl, vrep_cells (opd_sound h hB hg h1), partsM_sound h hB hg h3⟩

def placeB (P : Program) (t : TypeId) (i : Nat) : Option (Nat × Nat) := match P.underlying t with
  | some (.struct fs) => match fs[i]? with
    | some fl => match tySize P fl.type with | some size => some (fl.offset, size) | none => none
    | none => none
  | some (.array _ e) => match tySize P e with | some size => some (i * size, size) | none => none
  | _ => none

theorem fillC_sound {P : Program} {st : St} {c : RepCtx} {t : TypeId} : ∀ {ps : List (Nat × List AV)} {vs : List (Nat × Value)} {cs r : List AV} {C : Array Value}, (fillC P t cs ps).ev st = some r → PartsRep c ps vs → AVRepL c cs C.toList →
    ∃ C', Instr.fill (placeB P t) C vs = some C' ∧ AVRepL c r C'.toList ∧ C'.size = C.size
  | [], vs, cs, r, C, he, hp, hc => by
    simp only [fillC, ev_ret, Option.some.injEq] at he
    subst he
    have : vs = [] := hp
    subst this
    exact ⟨C, rfl, hc, rfl⟩
  | (i, xs) :: ps, vs, cs, r, C, he, hp, hc => by
    obtain ⟨v, vs', rfl, h1, h2⟩ := hp
    have hCl := avrepL_toArray hc
    have go : ∀ off size, placeB P t i = some (off, size) → ((RM.chk (Nat.beq xs.length size && Nat.ble (off + size) cs.length)).bind fun _ => fillC P t (splice cs off xs) ps).ev st = some r →
        ∃ C', Instr.fill (placeB P t) C ((i, v) :: vs') = some C' ∧ AVRepL c r C'.toList ∧ C'.size = C.size := by
      intro off size hpl he
      simp only [ev_bind] at he
      obtain ⟨_, h3, he⟩ := bind_some he
      have h3 := chk_some h3
      simp only [Bool.and_eq_true] at h3
      have hsz := beqN h3.1
      have hle := Nat.le_of_ble_eq_true h3.2
      have hvs : v.cells.size = size := by have := h1.length; simpa [hsz] using this
      rw [fill_step hpl hvs (by omega)]
      obtain ⟨C', h4, h5, h6⟩ := fillC_sound he h2 (C := (splice C.toList off v.cells.toList).toArray) (by simpa using hc.splice off h1)
      refine ⟨C', h4, h5, ?_⟩
      rw [h6, List.size_toArray, splice_length _ _ _ (by simp [hvs]; omega)]
      simp
    unfold fillC at he
    simp only at he
    cases hu : P.underlying t with
    | none => rw [hu] at he; simp at he
    | some d =>
      rw [hu] at he
      cases d with
      | struct fs =>
        simp only at he
        cases hf : fs[i]? with
        | none => rw [hf] at he; simp at he
        | some fl =>
          rw [hf] at he
          simp only at he
          cases hs : tySize P fl.type with
          | none => rw [hs] at he; simp at he
          | some size =>
            rw [hs] at he
            exact go _ _ (by unfold placeB; rw [hu]; simp only [hf, hs]) he
      | array n e =>
        simp only at he
        cases hs : tySize P e with
        | none => rw [hs] at he; simp at he
        | some size =>
          rw [hs] at he
          exact go _ _ (by unfold placeB; rw [hu]; simp only [hs]) he
      | _ => simp at he

theorem run_mapM_list {P : Program} {w : World} {α β : Type} {f : α → Sem β} {g : α → β} : ∀ (l : List α), (∀ x, x ∈ l → (f x).run P w = .ok (g x) w) → (l.mapM f).run P w = .ok (l.map g) w
  | [], _ => by simp
  | x :: r, h => by
    rw [List.mapM_cons]
    simp only [Sem.run_bind, h x (by simp), Result.andThen_ok, run_mapM_list r (fun y hy => h y (by simp [hy])), Sem.run_pure, List.map_cons]

theorem run_build {P : Program} {w : World} {t : TypeId} (hok : fieldsOk P t = true) {i : TypeInfo} {z : Value} (h1 : P.info? t = some i) (h2 : i.zero = some z) {parts : Array (Nat × Value)} {C : Array Value}
    (hf : Instr.fill (placeB P t) z.cells parts.toList = some C) : (Instr.build t parts).run P w = .ok (.agg C) w := by
  unfold fieldsOk at hok
  unfold Instr.build
  simp only [Sem.run_bind, run_zeroValue h1 h2, Result.andThen_ok]
  cases hu : P.underlying t with
  | none => rw [hu] at hok; simp at hok
  | some d =>
    rw [hu] at hok
    simp only [run_under hu, Result.andThen_ok]
    cases d with
    | struct fs =>
      simp only at hok
      have hm : (fs.mapM fun f => (do pure (f.offset, ← sizeOf f.type) : Sem (Nat × Nat))).run P w = .ok (fs.map fun f => (f.offset, (tySize P f.type).getD 0)) w := by
        have : fs = fs.toList.toArray := rfl
        rw [this, List.mapM_toArray]
        simp only [Sem.run_map]
        rw [run_mapM_list (g := fun f => (f.offset, (tySize P f.type).getD 0)) fs.toList]
        · simp only [Result.andThen_ok]
          congr 1
          apply Array.toList_inj.1
          simp
        · intro f hf
          have := List.all_eq_true.1 hok f hf
          cases hs : tySize P f.type with
          | none => rw [hs] at this; simp at this
          | some n => simp [run_sizeOf hs]
      simp only [Sem.run_bind, hm, Result.andThen_ok]
      have hpl : (fun x => (fs.map fun f => (f.offset, (tySize P f.type).getD 0))[x]?) = placeB P t := by
        funext k
        unfold placeB
        rw [hu]
        simp only [Array.getElem?_map]
        cases hk : fs[k]? with
        | none => rfl
        | some f =>
          have hmem : f ∈ fs.toList := by
            have := Array.mem_of_getElem? hk
            simpa using this
          have := List.all_eq_true.1 hok f hmem
          cases hs : tySize P f.type with
          | none => rw [hs] at this; simp at this
          | some n => simp [hs]
      rw [hpl, hf]
      simp
    | array n e =>
      simp only at hok
      cases hs : tySize P e with
      | none => rw [hs] at hok; simp at hok
      | some size =>
        have hpl : (fun i => some (i * size, size)) = placeB P t := by
          funext k
          unfold placeB
          rw [hu]
          simp only
          rw [hs]
        simp only [Sem.run_bind, run_sizeOf hs, Result.andThen_ok]
        rw [hpl, hf]
        simp
    | _ => simp at hok

/-! ### Elements filled in -/
theorem tells_set {w : World} {N : Nat → Prop} {sz : Nat} {es : List (List PV)} {L xs : List Value} {qs : List PV} {i : Nat} (hL : L.length = es.length * sz) (ht : Tells w N sz es L) (hl : ∀ e, e ∈ es → e.length = sz) (hi : i < es.length) (hq : qs.length = sz) (hr : RepL w N qs xs) :
    Tells w N sz (es.set i qs) (splice L (i * sz) xs) := by
  have hxl := hr.length
  have hmul : (i + 1) * sz ≤ es.length * sz := Nat.mul_le_mul_right _ hi
  rw [Nat.succ_mul] at hmul
  intro k e j q hk hj
  rw [List.getElem?_set] at hk
  unfold splice
  by_cases hik : i = k
  · subst hik
    rw [if_pos rfl, if_pos hi] at hk
    simp only [Option.some.injEq] at hk
    subst hk
    obtain ⟨u, h1, h2⟩ := hr.get j q hj
    refine ⟨u, ?_, h2⟩
    have hjl := (List.getElem?_eq_some_iff.1 h1).1
    rw [List.append_assoc, List.getElem?_append_right (by simp; omega), List.getElem?_append_left (by simp; omega)]
    rw [List.length_take, Nat.min_eq_left (by omega), Nat.add_sub_cancel_left]
    exact h1
  · rw [if_neg hik] at hk
    obtain ⟨u, h1, h2⟩ := ht k e j q hk hj
    refine ⟨u, ?_, h2⟩
    have hklt := (List.getElem?_eq_some_iff.1 hk).1
    have hjl : j < sz := by
      have := (List.getElem?_eq_some_iff.1 hj).1
      rw [hl e (List.mem_of_getElem? hk)] at this
      exact this
    rcases Nat.lt_or_ge k i with h | h
    · have : (k + 1) * sz ≤ i * sz := Nat.mul_le_mul_right _ h
      rw [Nat.succ_mul] at this
      rw [List.append_assoc, List.getElem?_append_left (by simp; omega), List.getElem?_take, if_pos (by omega)]
      exact h1
    · have : (i + 1) * sz ≤ k * sz := Nat.mul_le_mul_right _ (by omega)
      rw [Nat.succ_mul] at this
      rw [List.getElem?_append_right (by simp; omega), List.getElem?_drop]
      rw [List.length_append, List.length_take, Nat.min_eq_left (by omega), hxl, hq]
      rw [show i * sz + sz + (k * sz + j - (i * sz + sz)) = k * sz + j by omega]
      exact h1

def PPartsRep (w : World) (N : Nat → Prop) : List (Nat × List PV) → List (Nat × Value) → Prop
  | [], vs => vs = []
  | (i, qs) :: r, vs => ∃ v vs', vs = (i, v) :: vs' ∧ RepL w N qs v.cells.toList ∧ PPartsRep w N r vs'

theorem fillE_sound {st : St} {w : World} {N : Nat → Prop} {sz : Nat} : ∀ {ps : List (Nat × List PV)} {vs : List (Nat × Value)} {es r : List (List PV)} {C : Array Value}, (fillE sz es ps).ev st = some r → PPartsRep w N ps vs →
    C.size = es.length * sz → Tells w N sz es C.toList → (∀ e, e ∈ es → e.length = sz) →
    ∃ C', Instr.fill (fun i => some (i * sz, sz)) C vs = some C' ∧ Tells w N sz r C'.toList ∧ C'.size = C.size ∧ r.length = es.length ∧ ∀ e, e ∈ r → e.length = sz
  | [], vs, es, r, C, he, hp, hs, ht, hl => by
    simp only [fillE, ev_ret, Option.some.injEq] at he
    subst he
    have : vs = [] := hp
    subst this
    exact ⟨C, rfl, ht, rfl, rfl, hl⟩
  | (i, qs) :: ps, vs, es, r, C, he, hp, hs, ht, hl => by
    obtain ⟨v, vs', rfl, h1, h2⟩ := hp
    simp only [fillE, ev_bind] at he
    obtain ⟨_, h3, he⟩ := bind_some he
    have h3 := chk_some h3
    simp only [Bool.and_eq_true] at h3
    have hq := beqN h3.1
    have hi : i < es.length := Nat.le_of_ble_eq_true h3.2
    have hvs : v.cells.size = sz := by have := h1.length; simpa [hq] using this
    have hmul : (i + 1) * sz ≤ es.length * sz := Nat.mul_le_mul_right _ hi
    rw [Nat.succ_mul] at hmul
    rw [fill_step (place := fun i => some (i * sz, sz)) rfl hvs (by omega)]
    have hsl : (splice C.toList (i * sz) v.cells.toList).length = C.size := by
      rw [splice_length _ _ _ (by simp [hvs]; omega)]; simp
    obtain ⟨C', h4, h5, h6, h7, h8⟩ := fillE_sound (C := (splice C.toList (i * sz) v.cells.toList).toArray) he h2 (by rw [List.size_toArray, hsl, List.length_set]; exact hs)
      (by simpa using tells_set (by simpa using hs) ht hl hi hq h1) (fun e he => by
        rcases List.mem_or_eq_of_mem_set he with h | h
        · exact hl e h
        · subst h; exact hq)
    exact ⟨C', h4, h5, by rw [h6, List.size_toArray, hsl], by rw [h7, List.length_set], h8⟩

theorem pureCells_sound {c : RepCtx} : ∀ {cs : List AV} {qs : List PV} {vs : List Value}, pureCells cs = some qs → AVRepL c cs vs → RepL c.w c.N qs vs
  | [], qs, vs, h, hc => by
    simp only [pureCells, Option.some.injEq] at h
    subst h
    simp only [AVRepL] at hc
    exact hc
  | a :: r, qs, vs, h, hc => by
    simp only [pureCells] at h
    split at h
    · rename_i q qs' h1 h2
      simp only [Option.some.injEq] at h
      subst h
      simp only [AVRepL] at hc
      obtain ⟨v, vs', rfl, h3, h4⟩ := hc
      refine ⟨v, vs', rfl, ?_, pureCells_sound h2 h4⟩
      unfold pureCell at h1
      split at h1 <;> simp at h1
      · subst h1; simpa [AVRep] using h3
      · subst h1; simp only [AVRep] at h3; exact h3.1
      · subst h1; simp only [AVRep] at h3; subst h3; exact .nil _ _
    · simp at h

theorem zeroE_spec {P : Program} {t : TypeId} {qs : List PV} (h : zeroE P t = some qs) : ∃ i z, P.info? t = some i ∧ i.zero = some z ∧ ∀ (w : World) (N : Nat → Prop), RepL w N qs z.cells.toList := by
  unfold zeroE at h
  split at h
  · rename_i cs hcs
    obtain ⟨i, z, h1, h2, h3⟩ := zeroCells_spec hcs
    exact ⟨i, z, h1, h2, fun w N => pureCells_sound (c := ⟨w, N, fun x => x, fun _ => none⟩) h (mapM_const h3)⟩
  · simp at h

/-- Rows of zeros. -/
theorem tells_zero {w : World} {N : Nat → Prop} {sz n : Nat} (hsz : 0 < sz) {qs : List PV} {Z : Array Value} (hq : qs.length = sz) (hZ : Z.size = sz) (hr : RepL w N qs Z.toList) : Tells w N sz (List.replicate n qs) ((Array.range (n * sz)).map (Z[· % Z.size]!)).toList := by
  intro i e j q hi hj
  have hlt : i < n := by have := (List.getElem?_eq_some_iff.1 hi).1; simpa using this
  have he : e = qs := by
    have := List.mem_of_getElem? hi
    exact (List.mem_replicate.1 this).2
  subst he
  have hjl : j < sz := by have := (List.getElem?_eq_some_iff.1 hj).1; omega
  have hmul : (i + 1) * sz ≤ n * sz := Nat.mul_le_mul_right _ hlt
  rw [Nat.succ_mul] at hmul
  obtain ⟨u, h1, h2⟩ := hr.get j q hj
  refine ⟨u, ?_, h2⟩
  have hmod : (i * sz + j) % Z.size = j := by
    rw [hZ, Nat.add_comm, Nat.add_mul_mod_self_right]
    exact Nat.mod_eq_of_lt hjl
  rw [Array.getElem?_toList, Array.getElem?_map]
  rw [Array.getElem?_range, if_pos (by omega)]
  simp only [Option.map_some, hmod]
  have h3 : Z[j]? = some u := by simpa using h1
  rw [getElem!_def, h3]

theorem pureParts_sound {B : Base} {st : St} {w : World} {ι : Nat → Nat} : ∀ {ps : List (Nat × List AV)} {bw bw' : BW} {qs : List (Nat × List PV)} {vs : List (Nat × Value)}, SimB B (st.setBs bw).bk w ι → (pureParts bw ps).ev st = some (qs, bw') →
    PartsRep (ctx B (st.setBs bw).bk w ι) ps vs → SimB B (st.setBs bw').bk w ι ∧ Ext (ctx B (st.setBs bw).bk w ι) (ctx B (st.setBs bw').bk w ι) ∧ PPartsRep w (nav B (st.setBs bw').bk w ι) qs vs
  | [], bw, bw', qs, vs, hs, he, hp => by
    simp only [pureParts, ev_ret, Option.some.injEq, Prod.mk.injEq] at he
    obtain ⟨rfl, rfl⟩ := he
    exact ⟨hs, Ext.refl _, hp⟩
  | (i, cs) :: r, bw, bw', qs, vs, hs, he, hp => by
    obtain ⟨v, vs', rfl, h1, h2⟩ := hp
    simp only [pureParts, ev_bind] at he
    obtain ⟨⟨q, bw1⟩, h3, he⟩ := bind_some he
    obtain ⟨⟨qs', bw2⟩, h4, he⟩ := bind_some he
    simp only [ev_ret, Option.some.injEq, Prod.mk.injEq] at he
    obtain ⟨rfl, rfl⟩ := he
    obtain ⟨s1, e1, r1⟩ := pureL_sound cs bw bw1 q _ hs h3 h1
    have ext_parts : ∀ {ps : List (Nat × List AV)} {vs : List (Nat × Value)}, PartsRep (ctx B (st.setBs bw).bk w ι) ps vs → PartsRep (ctx B (st.setBs bw1).bk w ι) ps vs := by
      intro ps
      induction ps with
      | nil => exact fun h => h
      | cons p r ih =>
        obtain ⟨k, ds⟩ := p
        rintro vs ⟨v, vs', rfl, h5, h6⟩
        exact ⟨v, vs', rfl, AVRepL.ext e1 _ _ h5, ih h6⟩
    obtain ⟨s2, e2, r2⟩ := pureParts_sound s1 h4 (ext_parts h2)
    exact ⟨s2, e1.trans e2 (Nat.le_refl _), v, vs', rfl, r1.mono e2.rep, r2⟩

/-- A new row of elements. -/
theorem SimB.newArr {B : Base} {bk : Nat → Option Blk} {w : World} {ι : Nat → Nat} (h : SimB B bk w ι) {id : Nat} (hid : bk id = none) {es : List (List PV)} {C : Array Value} {e : TypeId} {f : Nat × Nat} {sz cap : Nat} (hsz : 0 < sz) (hf : okFz f C.size) (hC : C.size = cap * sz) (hcap : es.length ≤ cap) (hc63 : cap ≤ 9223372036854775807)
    (hl : ∀ x, x ∈ es → x.length = sz) (ht : Tells w (nav B bk w ι) sz es C.toList) :
    Ext (ctx B bk w ι) (ctx B (upd bk id (some (.arr 0 e sz false es))) (w.alloc (.cells C e f)) (upd ι id w.heap.size)) ∧ SimB B (upd bk id (some (.arr 0 e sz false es))) (w.alloc (.cells C e f)) (upd ι id w.heap.size) ∧
    AVRep (ctx B (upd bk id (some (.arr 0 e sz false es))) (w.alloc (.cells C e f)) (upd ι id w.heap.size)) (.own id 0) (.slice (some ⟨w.heap.size, 0, none⟩) es.length cap) := by
  have hnew : (w.alloc (.cells C e f)).heap[w.heap.size]? = some (.cells C e f) := by
    show (w.heap.push _)[w.heap.size]? = _
    simp
  obtain ⟨ex, s⟩ := h.alloc hid (x := .arr 0 e sz false es) rfl (.cells C e f) fun ext => ⟨C, f, by simp only [ctx]; rw [upd_same]; exact hnew, hf, ⟨cap, hC, hcap, hc63⟩, hsz, hl, fun i x j q hi hj => by
    obtain ⟨u, h1, h2⟩ := ht i x j q hi hj
    exact ⟨u, by simpa using h1, h2.mono ext.rep⟩⟩
  refine ⟨ex, s, ?_⟩
  simp only [AVRep]
  refine ⟨_, upd_same _ _ _, rfl, fun ep' ty'' sz'' fz'' es'' h => ?_⟩
  simp only [Blk.arr.injEq] at h
  obtain ⟨rfl, rfl, rfl, rfl, rfl⟩ := h
  exact ⟨Nat.le_refl _, fun _ => ⟨cap, by simp only [ctx]; rw [upd_same], hcap, fun _ => ⟨_, _, _, by simp only [ctx]; rw [upd_same]; exact hnew, hC⟩⟩⟩

end Go.Proofs.YtggofahhehkbbaaGreatDoor.Ev
