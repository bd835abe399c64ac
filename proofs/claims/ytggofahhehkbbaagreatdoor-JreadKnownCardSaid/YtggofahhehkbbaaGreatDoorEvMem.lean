/- Memory: loads and stores of cells; steps that keep the states' relation. -/
import Derived.Test.YtggofahhehkbbaaGreatDoorEvExt
namespace Go.Proofs.YtggofahhehkbbaaGreatDoor.Ev
set_option autoImplicit false
set_option linter.unusedVariables false
set_option linter.unusedSimpArgs false

theorem add_mk (b o i : Nat) : (⟨b, o, none⟩ : Addr).add i = ⟨b, o + i, none⟩ := by
  unfold Addr.add; split <;> simp_all

theorem run_loadCellsFrom (P : Program) (w : World) (b o : Nat) : ∀ (vs : List Value) (i : Nat) (acc : Array Value),
    (∀ (j : Nat) v, vs[j]? = some v → w.cell? ⟨b, o + (i + j), none⟩ = some v) → (loadCellsFrom ⟨b, o, none⟩ i vs.length acc).run P w = .ok (acc ++ vs.toArray) w
  | [], i, acc, _ => by simp [loadCellsFrom]
  | v :: r, i, acc, h => by
    have h0 := h 0 v (by simp)
    simp only [Nat.add_zero] at h0
    have ih := run_loadCellsFrom P w b o r (i + 1) (acc.push v) (fun j u hj => by have := h (j + 1) u (by simpa using hj); rw [show i + 1 + j = i + (j + 1) by omega]; exact this)
    simp only [List.length_cons, loadCellsFrom, Sem.run_bind, run_load, add_mk, h0, Result.andThen_ok, ih]
    congr 1
    rw [Array.push_eq_append, Array.append_assoc]
    simp

theorem run_loadCells (P : Program) (w : World) (b o : Nat) (vs : List Value) (h : ∀ (j : Nat) v, vs[j]? = some v → w.cell? ⟨b, o + j, none⟩ = some v) :
    (loadCells ⟨b, o, none⟩ vs.length).run P w = .ok vs.toArray w := by
  unfold loadCells
  rw [run_loadCellsFrom P w b o vs 0 #[] (fun j v hj => by rw [Nat.zero_add]; exact h j v hj)]
  simp

theorem run_underlying' {P : Program} {t : TypeId} {d : TypeDesc} (h : P.underlying t = some d) (w : World) : (underlying t).run P w = .ok d w := by
  simp [underlying, h]

theorem tySize_info {P : Program} {t : TypeId} {n : Nat} (h : tySize P t = some n) : ∃ i, P.info? t = some i ∧ i.size = n := by
  unfold tySize at h
  split at h
  · rename_i i hi; exact ⟨i, hi, by simpa using h⟩
  · simp at h

theorem run_sizeOf {P : Program} {t : TypeId} {n : Nat} (h : tySize P t = some n) (w : World) : (sizeOf t).run P w = .ok n w := by
  obtain ⟨i, hi, rfl⟩ := tySize_info h
  simp [sizeOf, typeInfo, hi]

theorem run_isAgg {P : Program} {t : TypeId} {g : Bool} (h : tyAgg P t = some g) (w : World) : (isAgg t).run P w = .ok g w := by
  unfold tyAgg at h
  unfold isAgg
  cases hu : P.underlying t with
  | none => simp [hu] at h
  | some d =>
    simp only [Sem.run_bind, run_underlying' hu, Result.andThen_ok]
    cases d <;> simp_all

/-- A variable of n cells, read. -/
theorem run_loadVar {P : Program} {t : TypeId} {g : Bool} (hg : tyAgg P t = some g) {w : World} {b o : Nat} {vs : List Value} (hn : tySize P t = some vs.length)
    (h : ∀ (j : Nat) v, vs[j]? = some v → w.cell? ⟨b, o + j, none⟩ = some v) (hone : g = false → vs.length = 1) :
    (loadVar t ⟨b, o, none⟩).run P w = .ok (match g with | true => .agg vs.toArray | false => vs.getD 0 undef) w := by
  unfold loadVar
  simp only [Sem.run_bind, run_isAgg hg, Result.andThen_ok]
  cases g with
  | true => simp [run_sizeOf hn, run_loadCells P w b o vs h]
  | false =>
    have h1 := hone rfl
    match vs, h1 with
    | [v], _ =>
      have := h 0 v (by simp)
      simp only [Nat.add_zero] at this
      simp [this]

/-! ### Stores -/
def World.setB (w : World) (b : Nat) (o : Obj) : World := { w with heap := w.heap.setIfInBounds b o }

theorem setB_setB (w : World) (b : Nat) (o o' : Obj) : World.setB (World.setB w b o) b o' = World.setB w b o' := by
  simp [World.setB]

theorem setB_heap (w : World) (b : Nat) (o : Obj) (h : b < w.heap.size) : (World.setB w b o).heap[b]? = some o := by
  simp [World.setB, h]

theorem setB_heap_ne (w : World) (b k : Nat) (o : Obj) (h : b ≠ k) : (World.setB w b o).heap[k]? = w.heap[k]? := by
  simp [World.setB, h]

theorem setB_size (w : World) (b : Nat) (o : Obj) : (World.setB w b o).heap.size = w.heap.size := by simp [World.setB]

theorem heap_lt {w : World} {b : Nat} {o : Obj} (h : w.heap[b]? = some o) : b < w.heap.size := (Array.getElem?_eq_some_iff.1 h).1

theorem setCell_setB {w : World} {b : Nat} {C : Array Value} {T : TypeId} {f : Nat × Nat} (h : w.heap[b]? = some (.cells C T f)) (o : Nat) (v : Value) :
    w.setCell ⟨b, o, none⟩ v = World.setB w b (.cells (C.setIfInBounds o v) T f) := by
  unfold World.setCell World.setB
  congr 1
  apply Array.ext_getElem?
  intro i
  simp only [Array.getElem?_modify, Array.getElem?_setIfInBounds]
  by_cases hi : b = i
  · subst hi
    rw [if_pos rfl, if_pos rfl, if_pos (heap_lt h), h]
    rfl
  · simp [hi]

theorem cell_of {w : World} {b : Nat} {C : Array Value} {T : TypeId} {f : Nat × Nat} (h : w.heap[b]? = some (.cells C T f)) (o : Nat) : w.cell? ⟨b, o, none⟩ = C[o]? := by
  simp [World.cell?, h]

theorem frozen_of {w : World} {b : Nat} {C : Array Value} {T : TypeId} {f : Nat × Nat} (h : w.heap[b]? = some (.cells C T f)) (hf : okFz f C.size) (o : Nat) (ho : o < C.size) : w.frozen? ⟨b, o, none⟩ = false := by
  have := hf o ho
  obtain ⟨lo, hi⟩ := f
  simp [World.frozen?, h]
  simp at this
  exact this

theorem splice_nil {α : Type} (cs : List α) (o : Nat) : splice cs o [] = cs := by simp [splice]

theorem splice_length {α : Type} (cs xs : List α) (o : Nat) (h : o + xs.length ≤ cs.length) : (splice cs o xs).length = cs.length := by
  simp [splice]; omega

theorem splice_cons {α : Type} (cs : List α) (o : Nat) (x : α) (xs : List α) (h : o < cs.length) : splice (cs.set o x) (o + 1) xs = splice cs o (x :: xs) := by
  have h1 : (cs.set o x).take (o + 1) = cs.take o ++ [x] := by
    apply List.ext_getElem?
    intro i
    simp only [List.getElem?_take, List.getElem?_set, List.getElem?_append, List.length_take, Nat.min_eq_left (Nat.le_of_lt h)]
    rcases Nat.lt_trichotomy i o with hi | hi | hi
    · simp [hi, show i < o + 1 by omega, show ¬ o = i by omega]
    · subst hi; simp [h]
    · obtain ⟨k, rfl⟩ : ∃ k, i = o + 1 + k := ⟨i - o - 1, by omega⟩
      rw [if_neg (by omega), if_neg (by omega), show o + 1 + k - o = k + 1 by omega]
      simp
  have h2 : (cs.set o x).drop (o + 1 + xs.length) = cs.drop (o + 1 + xs.length) := List.drop_set_of_lt (by omega)
  unfold splice
  rw [h1, h2, show o + (x :: xs).length = o + 1 + xs.length by simp; omega]
  simp

theorem run_storeCells (P : Program) (b o : Nat) (T : TypeId) (f : Nat × Nat) : ∀ (vs : List Value) (i : Nat) (w : World) (C : Array Value),
    w.heap[b]? = some (.cells C T f) → okFz f C.size → o + i + vs.length ≤ C.size → (∀ v ∈ vs, v.oneCell' = true) →
    (storeCells ⟨b, o, none⟩ vs i).run P w = .ok () (World.setB w b (.cells (splice C.toList (o + i) vs).toArray T f))
  | [], i, w, C, h, _, _, _ => by
    have hs : World.setB w b (.cells C T f) = w := by
      unfold World.setB
      have : w.heap.setIfInBounds b (.cells C T f) = w.heap := by
        apply Array.ext_getElem?
        intro k
        simp only [Array.getElem?_setIfInBounds]
        split
        · rename_i hk; subst hk; rw [if_pos (heap_lt h), h]
        · rfl
      rw [this]
    simp [storeCells, splice_nil, hs]
  | v :: r, i, w, C, h, hf, hl, ho => by
    simp only [List.length_cons] at hl
    have hlt : o + i < C.size := by omega
    have hc : w.cell? ⟨b, o + i, none⟩ = some (C[o + i]'hlt) := by rw [cell_of h]; simp [hlt]
    simp only [storeCells, Sem.run_bind, add_mk, run_store P w _ v .plain (ho v (by simp)), hc, frozen_of h hf _ hlt, Bool.false_eq_true, if_false, Result.andThen_ok]
    rw [setCell_setB h]
    rw [run_storeCells P b o T f r (i + 1) (World.setB w b (.cells (C.setIfInBounds (o + i) v) T f)) (C.setIfInBounds (o + i) v) (setB_heap _ _ _ (heap_lt h)) (by simpa using hf) (by simp; omega) (fun u hu => ho u (by simp [hu]))]
    rw [setB_setB, Array.toList_setIfInBounds, show o + (i + 1) = o + i + 1 by omega, splice_cons _ _ _ _ (by simpa using hlt)]

/-- A variable of n cells, written. -/
theorem run_storeVar {P : Program} {t : TypeId} {w : World} {b o : Nat} {C : Array Value} {T : TypeId} {f : Nat × Nat} {v : Value} (hn : tySize P t = some v.cells.size)
    (h : w.heap[b]? = some (.cells C T f)) (hf : okFz f C.size) (hl : o + v.cells.size ≤ C.size) (ho : ∀ u ∈ v.cells.toList, u.oneCell' = true) :
    (storeVar t ⟨b, o, none⟩ v).run P w = .ok () (World.setB w b (.cells (splice C.toList o v.cells.toList).toArray T f)) := by
  unfold storeVar
  simp only [Sem.run_bind, run_sizeOf hn, Result.andThen_ok, ne_eq, not_true, if_false, Sem.run_pure]
  have := run_storeCells P b o T f v.cells.toList 0 w C h hf (by simpa using hl) ho
  simpa using this

/-! ### Steps -/
theorem SimB.step {B : Base} {bk bk' : Nat → Option Blk} {w w' : World} {ι ι' : Nat → Nat} (h : SimB B bk w ι) (ext : Ext (ctx B bk w ι) (ctx B bk' w' ι')) (keep : Keep B w')
    (terr : ∀ id x, bk' id = some x → x.owned = true → B.O0 (ι' id) ∨ B.w0.heap.size ≤ ι' id)
    (inj : ∀ i j x y, bk' i = some x → bk' j = some y → x.owned = true → y.owned = true → ι' i = ι' j → i = j)
    (blks : ∀ id x, bk' id = some x → (bk id = some x ∧ ι' id = ι id ∧ (x.owned = true → w'.heap[ι id]? = w.heap[ι id]?)) ∨ BRep (ctx B bk' w' ι') id x) : SimB B bk' w' ι' :=
  ⟨keep, terr, inj, fun id x hx => (blks id x hx).elim (fun ⟨h1, h2, h3⟩ => BRep.ext ext h2 h3 (h.blks id x h1)) fun h => h⟩

theorem Sim.step {B : Base} {st : St} {bk' : Nat → Option Blk} {w w' : World} {ι ι' : Nat → Nat} {T : Array Value} (h : Sim B st w ι T) (ext : Ext (ctx B st.bk w ι) (ctx B bk' w' ι')) (hb : SimB B bk' w' ι') :
    Sim B { st with bk := bk' } w' ι' T := ⟨hb, fun t => (h.tmps t).ext ext⟩

theorem upd_same {α : Type} (f : Nat → α) (k : Nat) (x : α) : upd f k x k = x := by simp [upd]
theorem upd_ne {α : Type} (f : Nat → α) {k j : Nat} (x : α) (h : j ≠ k) : upd f k x j = f j := by
  have : Nat.beq j k = false := by cases hb : Nat.beq j k with | false => rfl | true => exact absurd (Nat.eq_of_beq_eq_true hb) h
  simp [upd, this]

theorem Compat.refl {c c' : RepCtx} {id : Nat} {b : Blk} (hι : c'.ι id = c.ι id) (hw : b.owned = true → c'.w.heap[c.ι id]? = c.w.heap[c.ι id]?) : Compat c c' id b b := by
  cases b with
  | box ty cs => exact ⟨⟨ty, cs, rfl⟩, hι⟩
  | arr ep ty sz fz es =>
    refine ⟨ep, ty, sz, fz, es, rfl, .inr ⟨rfl, rfl, rfl, hι, fun hf => ⟨hf, fun C T f hC => ⟨C, T, f, ?_, rfl⟩⟩⟩⟩
    rw [hw (by simp [Blk.owned, hf])]
    exact hC
  | map es => exact ⟨⟨es, rfl⟩, hι⟩
  | lent => trivial
  | gone => trivial

theorem Ext.refl (c : RepCtx) : Ext c c := ⟨fun _ h => ⟨h, fun _ => rfl⟩, fun _ b h => ⟨b, h, Compat.refl rfl fun _ => rfl⟩⟩

theorem SimB.lt {B : Base} {bk : Nat → Option Blk} {w : World} {ι : Nat → Nat} (h : SimB B bk w ι) {id : Nat} {x : Blk} (hx : bk id = some x) (ho : x.owned = true) : ι id < w.heap.size := by
  have hb := h.blks id x hx
  cases x with
  | box ty cs => obtain ⟨C, f, h1, _⟩ := hb; exact heap_lt h1
  | arr ep ty sz fz es =>
    cases fz with
    | false => obtain ⟨C, f, h1, _⟩ := hb; exact heap_lt h1
    | true => simp [Blk.owned] at ho
  | map es => obtain ⟨ms, ck, h1, _⟩ := hb; exact heap_lt h1
  | lent => exact hb
  | gone => simp [Blk.owned] at ho

theorem Keep.step {B : Base} {w w' : World} (h : Keep B w) (ho : w'.os = w.os) (ht : w'.tape = w.tape) (hp : w'.output = w.output) (hs : w.heap.size ≤ w'.heap.size)
    (hb : ∀ b, b < w.heap.size → w'.heap[b]? = w.heap[b]? ∨ B.O0 b ∨ B.w0.heap.size ≤ b) (hd : B.md = true → w.drawn ≤ w'.drawn) : Keep B w' :=
  ⟨ho.trans h.os, ht.trans h.tape, hp.trans h.output, Nat.le_trans h.size hs, fun b hlt hn => by
    rcases hb b (Nat.lt_of_lt_of_le hlt h.size) with h1 | h1 | h1
    · exact h1.trans (h.block b hlt hn)
    · exact absurd h1 hn
    · omega, fun hm => Nat.le_trans (h.drawn hm) (hd hm)⟩

/-- A slice of one's own is made pure: from now on nobody writes it. -/
theorem SimB.freeze {B : Base} {bk : Nat → Option Blk} {w : World} {ι : Nat → Nat} (h : SimB B bk w ι) {id ep ty sz : Nat} {es : List (List PV)} (hid : bk id = some (.arr ep ty sz false es)) :
    Ext (ctx B bk w ι) (ctx B (upd bk id (some (.arr ep ty sz true es))) w ι) ∧ SimB B (upd bk id (some (.arr ep ty sz true es))) w ι := by
  have hown : ∀ i x, upd bk id (some (Blk.arr ep ty sz true es)) i = some x → x.owned = true → bk i = some x ∧ i ≠ id := by
    intro i x hx ho
    by_cases hi : i = id
    · subst hi; rw [upd_same] at hx; simp at hx; subst hx; simp [Blk.owned] at ho
    · rw [upd_ne _ _ hi] at hx; exact ⟨hx, hi⟩
  have ext : Ext (ctx B bk w ι) (ctx B (upd bk id (some (.arr ep ty sz true es))) w ι) := by
    refine ⟨fun b hb => ⟨⟨hb.1, hb.2.1, fun i x hx ho => hb.2.2 i x (hown i x hx ho).1 ho⟩, fun _ => rfl⟩, fun i b hi => ?_⟩
    by_cases he : i = id
    · subst he
      simp only [ctx] at hi ⊢
      rw [hid] at hi
      simp at hi
      subst hi
      exact ⟨_, upd_same _ _ _, ep, ty, sz, false, es, rfl, .inr ⟨rfl, rfl, rfl, rfl, by simp⟩⟩
    · exact ⟨b, by simp only [ctx] at hi ⊢; rw [upd_ne _ _ he]; exact hi, Compat.refl rfl fun _ => rfl⟩
  refine ⟨ext, h.step ext h.keep (fun i x hx ho => h.terr i x (hown i x hx ho).1 ho) (fun i j x y hx hy ho hp => h.inj i j x y (hown i x hx ho).1 (hown j y hy hp).1 ho hp) fun i x hx => ?_⟩
  by_cases he : i = id
  · subst he
    rw [upd_same] at hx
    simp at hx
    subst hx
    refine .inr ?_
    obtain ⟨C, f, h1, h2, _, h4⟩ := h.blks i _ hid
    refine ⟨h4.mono ext.rep fun a e j q v _ _ h3 => ?_, ?_⟩
    · simp only [ctx] at h1 ⊢
      rw [cell_of h1]; exact h3
    · refine ⟨?_, h.lt hid rfl, fun k x hx ho hk => ?_⟩
      · rcases h.terr i _ hid rfl with h5 | h5
        · exact .inr (.inl h5)
        · exact .inr (.inr h5)
      · obtain ⟨h5, h6⟩ := hown k x hx ho
        exact h6 (h.inj k i x _ h5 hid ho rfl hk)
  · rw [upd_ne _ _ he] at hx
    exact .inl ⟨hx, rfl, fun _ => rfl⟩

/-- A block of one's own holds something else. -/
theorem SimB.put {B : Base} {bk : Nat → Option Blk} {w : World} {ι : Nat → Nat} (h : SimB B bk w ι) {id : Nat} {x x' : Blk} (hid : bk id = some x) (hx : x.owned = true) (hx' : x'.owned = true) (o : Obj)
    (hc : Compat (ctx B bk w ι) (ctx B (upd bk id (some x')) (World.setB w (ι id) o) ι) id x x')
    (hb : Ext (ctx B bk w ι) (ctx B (upd bk id (some x')) (World.setB w (ι id) o) ι) → BRep (ctx B (upd bk id (some x')) (World.setB w (ι id) o) ι) id x') :
    Ext (ctx B bk w ι) (ctx B (upd bk id (some x')) (World.setB w (ι id) o) ι) ∧ SimB B (upd bk id (some x')) (World.setB w (ι id) o) ι := by
  have hown : ∀ i y, upd bk id (some x') i = some y → y.owned = true → ∃ z, bk i = some z ∧ z.owned = true := by
    intro i y hy ho
    by_cases hi : i = id
    · subst hi; exact ⟨x, hid, hx⟩
    · rw [upd_ne _ _ hi] at hy; exact ⟨y, hy, ho⟩
  have hlt := h.lt hid hx
  have hne : ∀ i y, bk i = some y → y.owned = true → i ≠ id → (World.setB w (ι id) o).heap[ι i]? = w.heap[ι i]? := fun i y hy ho hi =>
    setB_heap_ne _ _ _ _ fun he => hi (h.inj i id y x hy hid ho hx he.symm)
  have ext : Ext (ctx B bk w ι) (ctx B (upd bk id (some x')) (World.setB w (ι id) o) ι) := by
    refine ⟨fun b hb => ⟨⟨hb.1, by simp only [ctx, setB_size]; exact hb.2.1, fun i y hy ho => ?_⟩, fun _ => ?_⟩, fun i b hi => ?_⟩
    · obtain ⟨z, h1, h2⟩ := hown i y hy ho
      exact hb.2.2 i z h1 h2
    · exact setB_heap_ne _ _ _ _ (hb.2.2 id x hid hx)
    · by_cases he : i = id
      · subst he
        simp only [ctx] at hi
        rw [hid] at hi
        simp at hi
        subst hi
        exact ⟨x', upd_same _ _ _, hc⟩
      · exact ⟨b, by simp only [ctx] at hi ⊢; rw [upd_ne _ _ he]; exact hi, Compat.refl rfl fun ho => hne i b hi ho he⟩
  refine ⟨ext, h.step ext (h.keep.step rfl rfl rfl (by rw [setB_size]; exact Nat.le_refl _) (fun b _ => ?_) fun _ => Nat.le_refl _) (fun i y hy ho => ?_) (fun i j y z hy hz ho hp he => ?_) fun i y hy => ?_⟩
  · by_cases hb : ι id = b
    · subst hb; exact .inr (h.terr id x hid hx)
    · exact .inl (setB_heap_ne _ _ _ _ hb)
  · obtain ⟨z, h1, h2⟩ := hown i y hy ho
    exact h.terr i z h1 h2
  · obtain ⟨y', h1, h2⟩ := hown i y hy ho
    obtain ⟨z', h3, h4⟩ := hown j z hz hp
    exact h.inj i j y' z' h1 h3 h2 h4 he
  · by_cases he : i = id
    · subst he; rw [upd_same] at hy; simp at hy; subst hy; exact .inr (hb ext)
    · rw [upd_ne _ _ he] at hy; exact .inl ⟨hy, rfl, fun ho => hne i y hy ho he⟩

/-- A new block. -/
theorem SimB.alloc {B : Base} {bk : Nat → Option Blk} {w : World} {ι : Nat → Nat} (h : SimB B bk w ι) {id : Nat} {x : Blk} (hid : bk id = none) (hx : x.owned = true) (o : Obj)
    (hb : Ext (ctx B bk w ι) (ctx B (upd bk id (some x)) (w.alloc o) (upd ι id w.heap.size)) → BRep (ctx B (upd bk id (some x)) (w.alloc o) (upd ι id w.heap.size)) id x) :
    Ext (ctx B bk w ι) (ctx B (upd bk id (some x)) (w.alloc o) (upd ι id w.heap.size)) ∧ SimB B (upd bk id (some x)) (w.alloc o) (upd ι id w.heap.size) := by
  have hne : ∀ i y, bk i = some y → i ≠ id := fun i y hy he => by subst he; rw [hid] at hy; simp at hy
  have hold : ∀ b, b < w.heap.size → (w.alloc o).heap[b]? = w.heap[b]? := fun b hb => by
    show (w.heap.push o)[b]? = _
    rw [Array.getElem?_push, if_neg (by omega)]
  have ext : Ext (ctx B bk w ι) (ctx B (upd bk id (some x)) (w.alloc o) (upd ι id w.heap.size)) := by
    refine ⟨fun b hb => ⟨⟨hb.1, by have := hb.2.1; simp only [ctx, World.size_alloc] at this ⊢; omega, fun i y hy ho => ?_⟩, fun hlt => hold b hlt⟩, fun i b hi => ?_⟩
    · have hlt : b < w.heap.size := hb.2.1
      by_cases he : i = id
      · subst he; rw [upd_same]; omega
      · rw [upd_ne _ _ he] at hy ⊢; exact hb.2.2 i y hy ho
    · have he := hne i b hi
      refine ⟨b, by simp only [ctx] at hi ⊢; rw [upd_ne _ _ he]; exact hi, Compat.refl (by simp only [ctx]; rw [upd_ne _ _ he]) fun ho => hold _ (h.lt hi ho)⟩
  refine ⟨ext, h.step ext (h.keep.step rfl rfl rfl (by simp) (fun b hb => .inl (hold b hb)) fun _ => Nat.le_refl _) (fun i y hy ho => ?_) (fun i j y z hy hz ho hp he => ?_) fun i y hy => ?_⟩
  · by_cases he : i = id
    · subst he; rw [upd_same]; exact .inr h.keep.size
    · rw [upd_ne _ _ he] at hy ⊢; exact h.terr i y hy ho
  · by_cases hi : i = id
    · by_cases hj : j = id
      · rw [hi, hj]
      · subst hi
        rw [upd_ne _ _ hj] at hz he
        rw [upd_same] at he
        have := h.lt hz hp
        omega
    · by_cases hj : j = id
      · subst hj
        rw [upd_ne _ _ hi] at hy he
        rw [upd_same] at he
        have := h.lt hy ho
        omega
      · rw [upd_ne _ _ hi] at hy he
        rw [upd_ne _ _ hj] at hz he
        exact h.inj i j y z hy hz ho hp he
  · by_cases he : i = id
    · subst he; rw [upd_same] at hy; simp at hy; subst hy; exact .inr (hb ext)
    · rw [upd_ne _ _ he] at hy; exact .inl ⟨hy, upd_ne _ _ he, fun ho => hold _ (h.lt hy ho)⟩

/-- The world has been asked something. -/
theorem SimB.drew {B : Base} {bk : Nat → Option Blk} {w : World} {ι : Nat → Nat} (h : SimB B bk w ι) : Ext (ctx B bk w ι) (ctx B bk w.drew ι) ∧ SimB B bk w.drew ι := by
  have ext : Ext (ctx B bk w ι) (ctx B bk w.drew ι) := ⟨fun b hb => ⟨hb, fun _ => rfl⟩, fun i b hi => ⟨b, hi, Compat.refl rfl fun _ => rfl⟩⟩
  exact ⟨ext, h.step ext ⟨h.keep.os, h.keep.tape, h.keep.output, h.keep.size, h.keep.block, fun hm => Nat.le_trans (h.keep.drawn hm) (Nat.le_succ _)⟩ h.terr h.inj fun id x hx => .inl ⟨hx, rfl, fun _ => rfl⟩⟩

theorem Ext.trans {c c' c'' : RepCtx} (h : Ext c c') (k : Ext c' c'') (hs : c.w.heap.size ≤ c'.w.heap.size) : Ext c c'' := by
  refine ⟨fun b hb => ?_, fun i b hi => ?_⟩
  · obtain ⟨h1, h2⟩ := h.rep b hb
    obtain ⟨h3, h4⟩ := k.rep b h1
    exact ⟨h3, fun hlt => (h4 (Nat.lt_of_lt_of_le hlt hs)).trans (h2 hlt)⟩
  · obtain ⟨b', hb', h1⟩ := h.bk i b hi
    obtain ⟨b'', hb'', h2⟩ := k.bk i b' hb'
    refine ⟨b'', hb'', ?_⟩
    cases b'' with
    | box ty cs => obtain ⟨⟨ty1, cs1, rfl⟩, h3⟩ := h2; obtain ⟨h4, h5⟩ := h1; exact ⟨h4, h3.trans h5⟩
    | map es => obtain ⟨⟨es', rfl⟩, h3⟩ := h2; obtain ⟨h4, h5⟩ := h1; exact ⟨h4, h3.trans h5⟩
    | lent => trivial
    | gone => trivial
    | arr ep'' ty'' sz'' fz'' es'' =>
      obtain ⟨ep', ty', sz', fz', es', rfl, h2⟩ := h2
      obtain ⟨ep, ty, sz, fz, es, rfl, h1⟩ := h1
      refine ⟨ep, ty, sz, fz, es, rfl, ?_⟩
      rcases h1 with h1 | ⟨rfl, rfl, h3, h4, h5⟩ <;> rcases h2 with h2 | ⟨rfl, rfl, h6, h7, h8⟩
      · exact .inl (by omega)
      · exact .inl h1
      · exact .inl h2
      · refine .inr ⟨rfl, rfl, by omega, h7.trans h4, fun hf => ?_⟩
        obtain ⟨h9, h10⟩ := h8 hf
        obtain ⟨h11, h12⟩ := h5 h9
        refine ⟨h11, fun C T f hC => ?_⟩
        obtain ⟨C', T', f', hC', hs'⟩ := h12 C T f hC
        rw [h4] at h10
        obtain ⟨C'', T'', f'', hC'', hs''⟩ := h10 C' T' f' hC'
        exact ⟨C'', T'', f'', hC'', by omega⟩

end Go.Proofs.YtggofahhehkbbaaGreatDoor.Ev
