/- append on what the function owns, and on what has no spare room: sound. -/
import Derived.Test.YtggofahhehkbbaaGreatDoorEvOpE
namespace Go.Proofs.YtggofahhehkbbaaGreatDoor.Ev
set_option autoImplicit false
set_option linter.unusedVariables false
set_option linter.unusedSimpArgs false

/-- A block of one's own goes on in a new place. -/
theorem SimB.move {B : Base} {bk : Nat → Option Blk} {w : World} {ι : Nat → Nat} (h : SimB B bk w ι) {id : Nat} {x x' : Blk} (hid : bk id = some x) (hx' : x'.owned = true) (o : Obj)
    (hc : Compat (ctx B bk w ι) (ctx B (upd bk id (some x')) (w.alloc o) (upd ι id w.heap.size)) id x x')
    (hb : Ext (ctx B bk w ι) (ctx B (upd bk id (some x')) (w.alloc o) (upd ι id w.heap.size)) → BRep (ctx B (upd bk id (some x')) (w.alloc o) (upd ι id w.heap.size)) id x') :
    Ext (ctx B bk w ι) (ctx B (upd bk id (some x')) (w.alloc o) (upd ι id w.heap.size)) ∧ SimB B (upd bk id (some x')) (w.alloc o) (upd ι id w.heap.size) := by
  have hold : ∀ b, b < w.heap.size → (w.alloc o).heap[b]? = w.heap[b]? := fun b hb => by
    show (w.heap.push o)[b]? = _
    rw [Array.getElem?_push, if_neg (by omega)]
  have ext : Ext (ctx B bk w ι) (ctx B (upd bk id (some x')) (w.alloc o) (upd ι id w.heap.size)) := by
    refine ⟨fun b hb => ⟨⟨hb.1, by have := hb.2.1; simp only [ctx, World.size_alloc] at this ⊢; omega, fun i y hy ho => ?_⟩, fun hlt => hold b hlt⟩, fun i b hi => ?_⟩
    · have hlt : b < w.heap.size := hb.2.1
      by_cases he : i = id
      · subst he; rw [upd_same]; omega
      · rw [upd_ne _ _ he] at hy ⊢; exact hb.2.2 i y hy ho
    · by_cases he : i = id
      · subst he
        simp only [ctx] at hi
        rw [hid] at hi
        simp at hi
        subst hi
        exact ⟨x', upd_same _ _ _, hc⟩
      · exact ⟨b, by simp only [ctx] at hi ⊢; rw [upd_ne _ _ he]; exact hi, Compat.refl (by simp only [ctx]; rw [upd_ne _ _ he]) fun ho => hold _ (h.lt hi ho)⟩
  refine ⟨ext, h.step ext (h.keep.step rfl rfl rfl (by simp) (fun b hb => .inl (hold b hb)) fun _ => Nat.le_refl _) (fun i y hy ho => ?_) (fun i j y z hy hz ho hp he => ?_) fun i y hy => ?_⟩
  · by_cases he : i = id
    · subst he; rw [upd_same]; exact .inr h.keep.size
    · rw [upd_ne _ _ he] at hy ⊢; exact h.terr i y hy ho
  · by_cases hi : i = id
    · by_cases hj : j = id
      · rw [hi, hj]
      · subst hi
        rw [upd_ne _ _ hj] at hz he
        rw [upd_same] at he
        have := h.lt hz hp
        omega
    · by_cases hj : j = id
      · subst hj
        rw [upd_ne _ _ hi] at hy he
        rw [upd_same] at he
        have := h.lt hy ho
        omega
      · rw [upd_ne _ _ hi] at hy he
        rw [upd_ne _ _ hj] at hz he
        exact h.inj i j y z hy hz ho hp he
  · by_cases he : i = id
    · subst he; rw [upd_same] at hy; simp at hy; subst hy; exact .inr (hb ext)
    · rw [upd_ne _ _ he] at hy; exact .inl ⟨hy, upd_ne _ _ he, fun ho => hold _ (h.lt hy ho)⟩

/-- What a source's cells tell of a list of elements. -/
def Tells (w : World) (N : Nat → Prop) (sz : Nat) (ys : List (List PV)) (news : List Value) : Prop :=
  ∀ (i : Nat) e (j : Nat) q, ys[i]? = some e → e[j]? = some q → ∃ u, news[i * sz + j]? = some u ∧ Rep w N q u

theorem elems_source {P : Program} {B : Base} {st : St} {w : World} {ι : Nat → Nat} (hs : SimB B st.bk w ι) {a : AV} {ys : List (List PV)} {v : Value} (he : (elemsM [] a).ev st = some ys) (hv : AVRep (ctx B st.bk w ι) a v)
    {sz : Nat} (hsz : 0 < sz) (hl : ∀ y, y ∈ ys → y.length = sz) : ∃ news cap ad, v = .slice ad ys.length cap ∧ ys.length ≤ cap ∧ Source P w sz v ys.length news ∧ Tells w (nav B st.bk w ι) sz ys news := by
  obtain ⟨ad, cap, rfl, hcap, h⟩ := elemsM_sound [] hs he hv
  rcases h with rfl | ⟨b, o, sz', rfl, h1, h2⟩
  · exact ⟨[], cap, ad, rfl, hcap, source_slice (by simp) (by simp) (.inl rfl), fun i e j q hi _ => by simp at hi⟩
  · simp only [setBs_nil] at h2
    have h2' : ∀ (i : Nat) e (j : Nat) q, ys[i]? = some e → e[j]? = some q → ∃ u, (fun k => w.cell? ⟨b, o + k, none⟩) (i * sz + j) = some u ∧ Rep w (nav B st.bk w ι) q u := by
      intro i e j q hi hj
      obtain ⟨u, h3, h4⟩ := h2 i e j q hi hj
      have hm := List.mem_of_getElem? hi
      have : sz' = sz := by rw [← h1 e hm, hl e hm]
      subst this
      exact ⟨u, by show w.cell? _ = _; rw [← Nat.add_assoc]; exact h3, h4⟩
    obtain ⟨news, h3, h4, h5⟩ := lin (R := Rep w (nav B st.bk w ι)) (get := fun k => w.cell? ⟨b, o + k, none⟩) hsz hl h2'
    refine ⟨news, cap, _, rfl, hcap, source_slice h3 (fun u hu => ?_) (.inr ⟨b, o, rfl, h4⟩), h5⟩
    obtain ⟨k, hk⟩ := List.getElem?_of_mem hu
    have hlt : k < ys.length * sz := by rw [← h3]; exact (List.getElem?_eq_some_iff.1 hk).1
    have hi : k / sz < ys.length := (Nat.div_lt_iff_lt_mul hsz).2 hlt
    have hj : k % sz < ys[k / sz].length := by rw [hl _ (List.getElem_mem hi)]; exact Nat.mod_lt _ hsz
    obtain ⟨u', h6, h7⟩ := h5 (k / sz) _ (k % sz) _ (List.getElem?_eq_getElem hi) (List.getElem?_eq_getElem hj)
    rw [Nat.mul_comm, Nat.div_add_mod, hk] at h6
    simp at h6
    rw [h6]
    exact h7.one

theorem string_tells {w : World} {N : Nat → Prop} (s : ByteArray) : Tells w N 1 ((lst s).map u8Cell) ((lst s).map fun b => Value.int .u8 b.toNat) := by
  intro i e j q hi hj
  rw [List.getElem?_map] at hi
  cases hb : (lst s)[i]? with
  | none => simp [hb] at hi
  | some b =>
    simp only [hb, Option.map_some, Option.some.injEq] at hi
    subst hi
    cases j with
    | zero =>
      simp only [u8Cell, List.getElem?_cons_zero, Option.some.injEq] at hj
      subst hj
      exact ⟨_, by rw [Nat.mul_one, Nat.add_zero, List.getElem?_map, hb]; rfl, .lit _ rfl⟩
    | succ j => simp [u8Cell] at hj

theorem tells_append {w : World} {N : Nat → Prop} {sz : Nat} {es ys : List (List PV)} {olds news rest : List Value} (ho : olds.length = es.length * sz) (h1 : Tells w N sz es olds) (h2 : Tells w N sz ys news)
    (hl1 : ∀ e, e ∈ es → e.length = sz) (hl2 : ∀ e, e ∈ ys → e.length = sz) : Tells w N sz (es ++ ys) (olds ++ news ++ rest) := by
  intro i e j q hi hj
  have lt_of : ∀ {l : List (List PV)} {k : Nat}, (∀ e, e ∈ l → e.length = sz) → l[k]? = some e → k * sz + j < l.length * sz := by
    intro l k hl hk
    have hlt := (List.getElem?_eq_some_iff.1 hk).1
    have hjl : j < sz := by
      have := (List.getElem?_eq_some_iff.1 hj).1
      rw [hl e (List.mem_of_getElem? hk)] at this
      exact this
    have : (k + 1) * sz ≤ l.length * sz := Nat.mul_le_mul_right _ hlt
    rw [Nat.succ_mul] at this
    omega
  by_cases hk : i < es.length
  · rw [List.getElem?_append_left hk] at hi
    obtain ⟨u, h3, h4⟩ := h1 i e j q hi hj
    have := lt_of hl1 hi
    exact ⟨u, by rw [List.append_assoc, List.getElem?_append_left (by omega)]; exact h3, h4⟩
  · rw [List.getElem?_append_right (by omega)] at hi
    obtain ⟨u, h3, h4⟩ := h2 _ e j q hi hj
    refine ⟨u, ?_, h4⟩
    have hidx : i * sz + j = olds.length + ((i - es.length) * sz + j) := by
      rw [ho, Nat.sub_mul]
      have : es.length * sz ≤ i * sz := Nat.mul_le_mul_right _ (by omega)
      omega
    have hlt := (List.getElem?_eq_some_iff.1 h3).1
    rw [hidx, List.append_assoc, List.getElem?_append_right (by omega), Nat.add_sub_cancel_left, List.getElem?_append_left hlt]
    exact h3

theorem Tells.mono {w w' : World} {N N' : Nat → Prop} (hm : ∀ b, N b → N' b ∧ (b < w.heap.size → w'.heap[b]? = w.heap[b]?)) {sz : Nat} {es : List (List PV)} {vs : List Value} (h : Tells w N sz es vs) : Tells w' N' sz es vs :=
  fun i e j q h1 h2 => let ⟨u, h3, h4⟩ := h i e j q h1 h2; ⟨u, h3, h4.mono hm⟩

theorem zeroCells_size (z : Array Value) (n : Nat) : (Builtin.zeroCells z n).size = n * z.size := by simp [Builtin.zeroCells]

theorem info_of {P : Program} {e : TypeId} {sz by_ : Nat} (h1 : tySize P e = some sz) (h2 : tyBytes P e = some by_) : ∃ i, P.info? e = some i ∧ i.size = sz ∧ i.bytes = by_ := by
  obtain ⟨i, hi, h3⟩ := tySize_info h1
  refine ⟨i, hi, h3, ?_⟩
  simpa [tyBytes, hi] using h2

theorem zeroOk_spec {P : Program} {e : TypeId} {sz : Nat} (h : zeroOk P e sz = true) : ∃ i z, P.info? e = some i ∧ i.zero = some z ∧ z.cells.size = sz := by
  unfold zeroOk at h
  split at h
  · rename_i i hi
    split at h
    · rename_i z hz
      exact ⟨i, z, hi, hz, beqN h⟩
    · simp at h
  · simp at h

theorem srcM_sound {P : Program} {B : Base} {st : St} {w : World} {ι : Nat → Nat} (hs : SimB B st.bk w ι) {sz : Nat} {x : AVal} {vx : Value} {ys : List (List PV)} (he : (srcM sz x).ev st = some ys) (hvx : VRep (ctx B st.bk w ι) x vx) (hl : ∀ y, y ∈ ys → y.length = sz + 1) :
    ∃ news, Source P w (sz + 1) vx ys.length news ∧ Tells w (nav B st.bk w ι) (sz + 1) ys news := by
  unfold srcM at he
  split at he
  · rename_i b
    simp only [ev_bind] at he
    obtain ⟨_, h1, he2⟩ := bind_some he
    clear he
    replace h1 := beqN (chk_some h1)
    subst h1
    simp only [ev_ret, Option.some.injEq] at he2
    subst he2
    obtain ⟨_, rfl⟩ := vrep_lit.1 hvx
    refine ⟨_, ?_, string_tells b⟩
    rw [List.length_map, lst_size]
    exact source_string b
  · rw [vrep_one] at hvx
    obtain ⟨news, cap, ad, _, _, h1, h2⟩ := elems_source (P := P) hs he hvx (Nat.succ_pos sz) hl
    exact ⟨news, h1, h2⟩
  · simp at he

/-- append into a new row: onto what has no spare room. -/
theorem append_new {P : Program} {B : Base} {bk : Nat → Option Blk} {w : World} {ι : Nat → Nat} (hs : SimB B bk w ι) {t t' ty e : TypeId} {dx : TypeDesc} (ht : P.underlying t = some (.slice e)) (ht' : P.underlying t' = some dx) (hdx : isIntD dx = false)
    {sz by_ : Nat} (hsz : tySize P e = some (sz + 1)) (hby : tyBytes P e = some (by_ + 1)) (hzo : zeroOk P e (sz + 1) = true) {s x : Value} {ad : Option Addr} {cap : Nat} {es ys : List (List PV)} {olds news : List Value}
    (hsl : s = .slice ad es.length cap) (ho : Source P w (sz + 1) s es.length olds) (hx : Source P w (sz + 1) x ys.length news) (to : Tells w (nav B bk w ι) (sz + 1) es olds) (tn : Tells w (nav B bk w ι) (sz + 1) ys news)
    (hl : ∀ e, e ∈ es ++ ys → e.length = sz + 1) (hroom : (es.length + ys.length) * (by_ + 1) ≤ room) (hg : cap < es.length + ys.length)
    {id ep : Nat} (hnew : bk id = none ∨ ∃ ep' ty' sz' fz es', bk id = some (.arr ep' ty' sz' fz es') ∧ ep' < ep) :
    ∃ u w' ι', (Builtin.append_ #[t, t'] ty #[s, x]).run P w = .ok u w' ∧ Ext (ctx B bk w ι) (ctx B (upd bk id (some (.arr ep e (sz + 1) false (es ++ ys)))) w' ι') ∧ SimB B (upd bk id (some (.arr ep e (sz + 1) false (es ++ ys)))) w' ι' ∧
      AVRep (ctx B (upd bk id (some (.arr ep e (sz + 1) false (es ++ ys)))) w' ι') (.own id ep) u := by
  obtain ⟨i, hi, hisz, hiby⟩ := info_of hsz hby
  obtain ⟨i', z, hi', hiz, hzs⟩ := zeroOk_spec hzo
  rw [hi] at hi'
  simp only [Option.some.injEq] at hi'
  subst hi'
  have hle : es.length + ys.length ≤ room := by
    have : (es.length + ys.length) * 1 ≤ (es.length + ys.length) * (by_ + 1) := Nat.mul_le_mul_left _ (Nat.succ_le_succ (Nat.zero_le _))
    rw [Nat.mul_one] at this
    exact Nat.le_trans this hroom
  obtain ⟨c, hc4, hc5, hrun⟩ := run_append_out (ty := ty) ht ht' hdx hi hiz hsl (by rw [hisz]; exact ho) (by rw [hisz]; exact hx) hg (by rw [hiby]; exact hroom) (by unfold room at hle; omega)
  obtain ⟨ext0, hs0⟩ := hs.drew
  have hcs : (olds.toArray ++ news.toArray ++ Builtin.zeroCells z.cells (c - (es.length + ys.length))).size = c * (sz + 1) := by
    rw [Array.size_append, Array.size_append, List.size_toArray, List.size_toArray, ho.size, hx.size, zeroCells_size, hzs, ← Nat.add_mul, ← Nat.add_mul]
    congr 1
    omega
  have brep : ∀ {ι' : Nat → Nat}, ι' id = w.heap.size → Ext (ctx B bk w.drew ι) (ctx B (upd bk id (some (.arr ep e (sz + 1) false (es ++ ys)))) (w.drew.alloc (.cells (olds.toArray ++ news.toArray ++ Builtin.zeroCells z.cells (c - (es.length + ys.length))) e)) ι') →
      BRep (ctx B (upd bk id (some (.arr ep e (sz + 1) false (es ++ ys)))) (w.drew.alloc (.cells (olds.toArray ++ news.toArray ++ Builtin.zeroCells z.cells (c - (es.length + ys.length))) e)) ι') id (.arr ep e (sz + 1) false (es ++ ys)) := by
    intro ι' hι ext
    refine ⟨_, (0, 0), by simp only [ctx]; rw [hι]; exact heap_alloc_new _ _, fun o _ h => by omega, ⟨c, hcs, by rw [List.length_append]; exact hc4, hc5⟩, Nat.succ_pos _, hl, fun i e j q hi hj => ?_⟩
    have := tells_append (rest := (Builtin.zeroCells z.cells (c - (es.length + ys.length))).toList) ho.size to tn (fun e he => hl e (List.mem_append_left _ he)) (fun e he => hl e (List.mem_append_right _ he)) i e j q hi hj
    obtain ⟨u, h6, h7⟩ := this
    refine ⟨u, ?_, (h7.mono ext0.rep).mono ext.rep⟩
    show (olds.toArray ++ news.toArray ++ Builtin.zeroCells z.cells (c - (es.length + ys.length)))[i * (sz + 1) + j]? = some u
    rw [← Array.getElem?_toList]
    simpa using h6
  have avrep : ∀ {ι' : Nat → Nat}, ι' id = w.heap.size → AVRep (ctx B (upd bk id (some (.arr ep e (sz + 1) false (es ++ ys)))) (w.drew.alloc (.cells (olds.toArray ++ news.toArray ++ Builtin.zeroCells z.cells (c - (es.length + ys.length))) e)) ι') (.own id ep) (.slice (some ⟨w.heap.size, 0, none⟩) (es.length + ys.length) c) := by
    intro ι' hι
    simp only [AVRep]
    refine ⟨_, upd_same _ _ _, rfl, fun ep' ty'' sz'' fz'' es'' h => ?_⟩
    simp only [Blk.arr.injEq] at h
    obtain ⟨rfl, rfl, rfl, rfl, rfl⟩ := h
    exact ⟨Nat.le_refl _, fun _ => ⟨c, by simp only [ctx]; rw [List.length_append, hι], by rw [List.length_append]; exact hc4, fun _ => ⟨_, _, _, by simp only [ctx]; rw [hι]; exact heap_alloc_new _ _, hcs⟩⟩⟩
  rcases hnew with hn | ⟨ep', ty', sz', fz, es', hn, hlt⟩
  · obtain ⟨ext1, hs1⟩ := hs0.alloc hn (x := .arr ep e (sz + 1) false (es ++ ys)) rfl (.cells (olds.toArray ++ news.toArray ++ Builtin.zeroCells z.cells (c - (es.length + ys.length))) e) (fun ext => brep (upd_same _ _ _) ext)
    exact ⟨_, _, _, hrun, ext0.trans ext1 (Nat.le_refl _), hs1, avrep (upd_same _ _ _)⟩
  · obtain ⟨ext1, hs1⟩ := hs0.move hn (x' := .arr ep e (sz + 1) false (es ++ ys)) rfl (.cells (olds.toArray ++ news.toArray ++ Builtin.zeroCells z.cells (c - (es.length + ys.length))) e)
      ⟨ep', ty', sz', fz, es', rfl, .inl hlt⟩ (fun ext => brep (upd_same _ _ _) ext)
    exact ⟨_, _, _, hrun, ext0.trans ext1 (Nat.le_refl _), hs1, avrep (upd_same _ _ _)⟩

theorem append_none {P : Program} {w : World} {t t' ty e : TypeId} {dx : TypeDesc} (ht : P.underlying t = some (.slice e)) (ht' : P.underlying t' = some dx) (hdx : isIntD dx = false) {sz : Nat} (hsz : tySize P e = some sz)
    {ad : Option Addr} {n cap : Nat} (hcap : n ≤ cap) {x : Value} (hx : Source P w sz x 0 []) : (Builtin.append_ #[t, t'] ty #[.slice ad n cap, x]).run P w = .ok (.slice ad n cap) w := by
  have hz : ∀ w' : World, ((underlying t').run P w') = .ok dx w' := fun w' => run_under ht' w'
  have hf := hx.first w rfl
  simp only [Builtin.append_, List.getElem?_toArray, List.getElem?_cons_zero, List.getElem?_cons_succ, Sem.run_bind, run_under ht, Result.andThen_ok, run_sizeOf hsz, hz, Sem.run_pure]
  cases dx <;> simp [isIntD] at hdx <;> simp [hx.len, hcap, hf] <;> (cases ad <;> simp [storeCells])

theorem appendM_sound {P : Program} {B : Base} {st : St} {w : World} {ι : Nat → Nat} (hs : SimB B st.bk w ι) {base : Nat} {t t' ty : TypeId} {dx : TypeDesc} (ht' : P.underlying t' = some dx) (hdx : isIntD dx = false) {s x r : AVal} {bw : BW} {vs vx : Value}
    (he : (appendM P base t s x).ev st = some (r, bw)) (hvs : VRep (ctx B st.bk w ι) s vs) (hvx : VRep (ctx B st.bk w ι) x vx) :
    ∃ u w' ι', (Builtin.append_ #[t, t'] ty #[vs, vx]).run P w = .ok u w' ∧ Ext (ctx B st.bk w ι) (ctx B (st.setBs bw).bk w' ι') ∧ SimB B (st.setBs bw).bk w' ι' ∧ VRep (ctx B (st.setBs bw).bk w' ι') r u := by
  unfold appendM at he
  cases hd : P.underlying t with
  | none => rw [hd] at he; simp at he
  | some d =>
  rw [hd] at he
  cases d with
  | slice e =>
    simp only at he
    split at he
    case h_2 => simp at he
    case h_1 sz by_ a hsz hby =>
      rw [vrep_one] at hvs
      simp only [ev_bind] at he
      obtain ⟨_, hzo, he⟩ := bind_some he
      have hzo := chk_some hzo
      obtain ⟨ys, hys, he⟩ := bind_some he
      cases a with
      | own id ep =>
        simp only [ev_bind, ev_getB, Option.bind_some] at he
        have hvs' := hvs
        simp only [AVRep] at hvs
        obtain ⟨bl, hb, h1, h2⟩ := hvs
        simp only [ctx] at hb
        have hbr := hs.blks id bl hb
        rw [hb] at he
        cases bl with
        | arr ep' ty' sz' fz es =>
          simp only [ev_bind] at he
          obtain ⟨_, h3, he⟩ := bind_some he
          obtain ⟨_, h4, he⟩ := bind_some he
          obtain ⟨_, h5, he⟩ := bind_some he
          simp only [ev_ret, Option.some.injEq, Prod.mk.injEq] at he
          obtain ⟨rfl, rfl⟩ := he
          have h3 := chk_some h3
          simp only [Bool.and_eq_true, Bool.not_eq_true'] at h3
          obtain ⟨⟨⟨hep, hfz⟩, hsz'⟩, hty⟩ := h3
          obtain rfl := beqN hty
          obtain rfl := beqN hep
          obtain rfl := beqN hsz'
          subst hfz
          have h4 := of_decide_eq_true (chk_some h4)
          have h5 := chk_some h5
          have hl : ∀ y, y ∈ ys → y.length = sz + 1 := fun y hy => beqN (List.all_eq_true.1 h5 y hy)
          obtain ⟨news, hx, htell⟩ := srcM_sound (P := P) hs hys hvx hl
          obtain ⟨cap, rfl, hcap, hcell⟩ := (h2 _ _ _ _ _ rfl).2 rfl
          obtain ⟨C, T, f, hC, hCs⟩ := hcell rfl
          obtain ⟨C', f', hC', hf', ⟨cap', hc1, hc2, hc3⟩, hz0, hzl, hzc⟩ := hbr
          simp only [ctx] at hC hC'
          rw [hC] at hC'
          simp only [Option.some.injEq, Obj.cells.injEq] at hC'
          obtain ⟨rfl, rfl, rfl⟩ := hC'
          obtain rfl : cap = cap' := Nat.eq_of_mul_eq_mul_right (Nat.succ_pos sz) (hCs.symm.trans hc1)
          have holds : (C.toList.take (es.length * (sz + 1))).length = es.length * (sz + 1) := by
            rw [List.length_take, show C.toList.length = C.size by simp, hCs]
            exact Nat.min_eq_left (Nat.mul_le_mul_right _ hcap)
          have htell0 : Tells w (nav B st.bk w ι) (sz + 1) es (C.toList.take (es.length * (sz + 1))) := by
            intro i e j q hi hj
            obtain ⟨u, h6, h7⟩ := hzc i e j q hi hj
            refine ⟨u, ?_, h7⟩
            have hlt : i * (sz + 1) + j < es.length * (sz + 1) := by
              have h8 := (List.getElem?_eq_some_iff.1 hi).1
              have h9 : j < sz + 1 := by
                have := (List.getElem?_eq_some_iff.1 hj).1
                rw [hzl e (List.mem_of_getElem? hi)] at this
                exact this
              have : (i + 1) * (sz + 1) ≤ es.length * (sz + 1) := Nat.mul_le_mul_right _ h8
              rw [Nat.succ_mul] at this
              omega
            rw [List.getElem?_take, if_pos hlt]
            simpa using h6
          have hlall : ∀ e, e ∈ es ++ ys → e.length = sz + 1 := fun e he => (List.mem_append.1 he).elim (hzl e) (hl e)
          by_cases hr : es.length + ys.length ≤ cap
          · have hrun := run_append_in (ty := ty) hd ht' hdx hsz hC hf' hCs hx hr
            have hCl : (splice C.toList (es.length * (sz + 1)) news).length = C.size := by
              rw [splice_length _ _ _ (by rw [hx.size, show C.toList.length = C.size by simp, hCs, ← Nat.add_mul]; exact Nat.mul_le_mul_right _ hr)]
              simp
            obtain ⟨ext, hs'⟩ := hs.put hb rfl (x' := .arr (ep + 1) _ (sz + 1) false (es ++ ys)) rfl (.cells (splice C.toList (es.length * (sz + 1)) news).toArray _ f)
              ⟨ep, _, sz + 1, false, es, rfl, .inl (Nat.lt_succ_self _)⟩ (fun ext => by
                refine ⟨_, f, setB_heap _ _ _ (heap_lt hC), by rw [List.size_toArray, hCl]; exact hf', ⟨cap, by rw [List.size_toArray, hCl, hCs], by rw [List.length_append]; exact hr, hc3⟩, Nat.succ_pos _, hlall, fun i e j q hi hj => ?_⟩
                have := tells_append (rest := C.toList.drop (es.length * (sz + 1) + news.length)) holds htell0 htell hzl hl i e j q hi hj
                obtain ⟨u, h6, h7⟩ := this
                exact ⟨u, by show (splice C.toList (es.length * (sz + 1)) news).toArray[i * (sz + 1) + j]? = some u; rw [List.getElem?_toArray]; exact h6, h7.mono ext.rep⟩)
            refine ⟨_, _, ι, hrun, ext, hs', ?_⟩
            rw [vrep_one]
            simp only [AVRep]
            refine ⟨_, upd_same _ _ _, rfl, fun ep' ty'' sz'' fz'' es'' h => ?_⟩
            simp only [Blk.arr.injEq] at h
            obtain ⟨rfl, rfl, rfl, rfl, rfl⟩ := h
            refine ⟨Nat.le_refl _, fun _ => ⟨cap, by rw [List.length_append]; rfl, by rw [List.length_append]; exact hr, fun _ => ⟨_, _, _, setB_heap _ _ _ (heap_lt hC), by rw [List.size_toArray, hCl, hCs]⟩⟩⟩
          · have hso : Source P w (sz + 1) (.slice (some ⟨ι id, 0, none⟩) es.length cap) es.length (C.toList.take (es.length * (sz + 1))) := by
              refine source_slice holds (fun u hu => ?_) (.inr ⟨ι id, 0, rfl, fun k v hk => ?_⟩)
              · obtain ⟨k, hk⟩ := List.getElem?_of_mem hu
                have hlt : k < es.length * (sz + 1) := by rw [← holds]; exact (List.getElem?_eq_some_iff.1 hk).1
                have hi' : k / (sz + 1) < es.length := (Nat.div_lt_iff_lt_mul (Nat.succ_pos sz)).2 hlt
                have hj' : k % (sz + 1) < es[k / (sz + 1)].length := by rw [hzl _ (List.getElem_mem hi')]; exact Nat.mod_lt _ (Nat.succ_pos sz)
                obtain ⟨u', h6, h7⟩ := htell0 (k / (sz + 1)) _ (k % (sz + 1)) _ (List.getElem?_eq_getElem hi') (List.getElem?_eq_getElem hj')
                rw [show k / (sz + 1) * (sz + 1) + k % (sz + 1) = k by rw [Nat.mul_comm]; exact Nat.div_add_mod _ _, hk] at h6
                simp at h6
                rw [h6]
                exact h7.one
              · rw [cell_of hC, Nat.zero_add]
                rw [List.getElem?_take] at hk
                split at hk
                · simpa using hk
                · simp at hk
            obtain ⟨u, w', ι', h6, h7, h8, h9⟩ := append_new (ty := ty) hs hd ht' hdx hsz hby hzo rfl hso hx htell0 htell hlall h4 (by omega) (id := id) (ep := ep + 1) (.inr ⟨ep, _, sz + 1, false, es, hb, Nat.lt_succ_self _⟩)
            exact ⟨u, w', ι', h6, h7, h8, by rw [vrep_one]; exact h9⟩
        | _ => simp at he
      | tsl es =>
        simp only [ev_bind, ev_ask, Option.bind_some] at he
        simp only [AVRep] at hvs
        obtain ⟨hrep, ad, rfl⟩ := hvs
        cases hys0 : ys.isEmpty with
        | true =>
          rw [hys0] at he
          simp only [ev_ret, Option.some.injEq, Prod.mk.injEq] at he
          obtain ⟨rfl, rfl⟩ := he
          have hy0 : ys = [] := List.isEmpty_iff.1 hys0
          subst hy0
          obtain ⟨news, hx, _⟩ := srcM_sound (P := P) hs hys hvx (by simp)
          have : news = [] := List.eq_nil_of_length_eq_zero (by simpa using hx.size)
          subst this
          refine ⟨_, w, ι, append_none (ty := ty) hd ht' hdx hsz (Nat.le_refl _) hx, Ext.refl _, hs, ?_⟩
          rw [vrep_one]
          simp only [AVRep]
          exact ⟨hrep, ad, rfl⟩
        | false =>
          rw [hys0] at he
          simp only [ev_bind, freeId, ev_getBO, Option.bind_some, setBs_nil] at he
          obtain ⟨_, hfree, he⟩ := bind_some he
          obtain ⟨_, h4, he⟩ := bind_some he
          obtain ⟨_, h5, he⟩ := bind_some he
          simp only [ev_ret, Option.some.injEq, Prod.mk.injEq] at he
          obtain ⟨rfl, rfl⟩ := he
          have hbn : st.bk base = none := by
            cases hb : st.bk base with
            | none => rfl
            | some b => rw [hb] at hfree; simp at hfree
          have h4 := of_decide_eq_true (chk_some h4)
          have h5 := chk_some h5
          have hl : ∀ y, y ∈ es ++ ys → y.length = sz + 1 := fun y hy => beqN (List.all_eq_true.1 h5 y hy)
          obtain ⟨news, hx, htell⟩ := srcM_sound (P := P) hs hys hvx (fun y hy => hl y (List.mem_append_right _ hy))
          obtain ⟨olds, cap, ad', hsl, _, ho, hto⟩ := elems_source (P := P) (a := .tsl es) (ys := es) hs rfl (by simp only [AVRep]; exact ⟨hrep, ad, rfl⟩) (Nat.succ_pos sz) (fun y hy => hl y (List.mem_append_left _ hy))
          have hne : 0 < ys.length := by
            cases ys with
            | nil => simp at hys0
            | cons y r => simp
          obtain ⟨u, w', ι', h6, h7, h8, h9⟩ := append_new (ty := ty) hs hd ht' hdx hsz hby hzo rfl ho hx hto htell hl h4 (by omega) (id := base) (ep := 0) (.inl hbn)
          exact ⟨u, w', ι', h6, h7, h8, by rw [vrep_one]; exact h9⟩
      | p q =>
        cases q with
        | sl es =>
          simp only [ev_bind] at he
          obtain ⟨_, h3, he⟩ := bind_some he
          have hy0 : ys = [] := List.isEmpty_iff.1 (chk_some h3)
          simp only [ev_ret, Option.some.injEq, Prod.mk.injEq] at he
          obtain ⟨rfl, rfl⟩ := he
          subst hy0
          obtain ⟨news, hx, _⟩ := srcM_sound (P := P) hs hys hvx (by simp)
          have : news = [] := List.eq_nil_of_length_eq_zero (by simpa using hx.size)
          subst this
          simp only [AVRep] at hvs
          obtain ⟨ad, cap, rfl, hcap⟩ : ∃ ad cap, vs = .slice ad es.length cap ∧ es.length ≤ cap := by
            cases hvs with
            | nil a cap => exact ⟨a, cap, rfl, Nat.zero_le _⟩
            | sl es b o cap sz V hb hcap hsz hc hr => exact ⟨_, cap, rfl, hcap⟩
          refine ⟨_, w, ι, append_none (ty := ty) hd ht' hdx hsz hcap hx, Ext.refl _, hs, ?_⟩
          rw [vrep_one]
          simp only [AVRep]
          exact hvs
        | _ => simp at he
      | _ => simp at he
  | _ => simp at he

end Go.Proofs.YtggofahhehkbbaaGreatDoor.Ev
