/- append, make, slice literals, stores: sound. -/
import Derived.Test.YtggofahhehkbbaaGreatDoorEvOpD
import Derived.Laws.Append
namespace Go.Proofs.YtggofahhehkbbaaGreatDoor.Ev
set_option autoImplicit false
set_option linter.unusedVariables false
set_option linter.unusedSimpArgs false

/-- Rows of cells, end to end. -/
theorem lin {R : PV → Value → Prop} {sz : Nat} (hsz : 0 < sz) {es : List (List PV)} {get : Nat → Option Value} (hl : ∀ e, e ∈ es → e.length = sz)
    (h : ∀ (i : Nat) e (j : Nat) q, es[i]? = some e → e[j]? = some q → ∃ u, get (i * sz + j) = some u ∧ R q u) :
    ∃ vs : List Value, vs.length = es.length * sz ∧ (∀ (k : Nat) v, vs[k]? = some v → get k = some v) ∧
      ∀ (i : Nat) e (j : Nat) q, es[i]? = some e → e[j]? = some q → ∃ v, vs[i * sz + j]? = some v ∧ R q v := by
  have at_ : ∀ k, k < es.length * sz → ∃ u, get k = some u := by
    intro k hk
    have hi : k / sz < es.length := (Nat.div_lt_iff_lt_mul hsz).2 hk
    have he := hl es[k / sz] (List.getElem_mem hi)
    have hj : k % sz < es[k / sz].length := by rw [he]; exact Nat.mod_lt _ hsz
    obtain ⟨u, h1, _⟩ := h (k / sz) es[k / sz] (k % sz) (es[k / sz][k % sz]) (List.getElem?_eq_getElem hi) (List.getElem?_eq_getElem hj)
    exact ⟨u, by rw [Nat.mul_comm, Nat.div_add_mod] at h1; exact h1⟩
  refine ⟨(List.range (es.length * sz)).map fun k => (get k).getD undef, by simp, fun k v hv => ?_, fun i e j q hi hj => ?_⟩
  · rw [List.getElem?_map] at hv
    by_cases hk : k < es.length * sz
    · rw [List.getElem?_range hk] at hv
      obtain ⟨u, hu⟩ := at_ k hk
      simp [hu] at hv
      rw [hu, hv]
    · rw [List.getElem?_eq_none (by simpa using hk)] at hv
      simp at hv
  · obtain ⟨u, h1, h2⟩ := h i e j q hi hj
    have hlt : i < es.length := (List.getElem?_eq_some_iff.1 hi).1
    have hjl : j < sz := by
      have := (List.getElem?_eq_some_iff.1 hj).1
      rw [hl e (List.mem_of_getElem? hi)] at this
      exact this
    have hk : i * sz + j < es.length * sz := by
      have : (i + 1) * sz ≤ es.length * sz := Nat.mul_le_mul_right _ hlt
      rw [Nat.succ_mul] at this
      omega
    refine ⟨u, ?_, h2⟩
    rw [List.getElem?_map, List.getElem?_range hk]
    simp [h1]

/-- A source of cells for append: how many elements, which cells. -/
structure Source (P : Program) (w : World) (size : Nat) (x : Value) (m : Nat) (news : List Value) : Prop where
  len : ∀ w' : World, (Builtin.lenOf x).run P w' = .ok m w'
  first : ∀ w' : World, w'.heap = w.heap → (Builtin.firstCells size m x).run P w' = .ok news.toArray w'
  size : news.length = m * size
  ones : ∀ u ∈ news, u.oneCell' = true

theorem cell_heap {w w' : World} (h : w'.heap = w.heap) (a : Addr) : w'.cell? a = w.cell? a := by simp [World.cell?, h]

theorem source_slice {P : Program} {w : World} {size : Nat} {ad : Option Addr} {m c : Nat} {news : List Value} (hl : news.length = m * size) (ho : ∀ u ∈ news, u.oneCell' = true)
    (h : news = [] ∨ ∃ b o, ad = some ⟨b, o, none⟩ ∧ ∀ (k : Nat) v, news[k]? = some v → w.cell? ⟨b, o + k, none⟩ = some v) : Source P w size (.slice ad m c) m news := by
  refine ⟨fun w' => by simp [Builtin.lenOf], fun w' hw => ?_, hl, ho⟩
  rcases h with rfl | ⟨b, o, rfl, h⟩
  · cases ad with
    | none => simp [Builtin.firstCells]
    | some a =>
      have : m * size = 0 := by simpa using hl.symm
      simp [Builtin.firstCells, this, loadCells, loadCellsFrom]
  · simp only [Builtin.firstCells]
    rw [← hl]
    exact run_loadCells P w' b o news fun j v hj => by rw [cell_heap hw]; exact h j v hj

theorem source_string {P : Program} {w : World} (s : ByteArray) : Source P w 1 (.string s) s.size ((lst s).map fun b => Value.int .u8 b.toNat) := by
  refine ⟨fun w' => by simp [Builtin.lenOf], fun w' _ => ?_, by simp [lst_size], fun u hu => ?_⟩
  · have h : (s.extract 0 s.size) = s := by
      rw [mkS_extract, List.drop_zero, ← lst_size, List.take_length, mkS_lst]
    simp only [Builtin.firstCells, Sem.run_pure, h]
    congr 1
    apply Array.toList_inj.1
    simp [lst]
  · simp only [List.mem_map] at hu
    obtain ⟨b, _, rfl⟩ := hu
    rfl

def isIntD : TypeDesc → Bool
  | .int _ => true
  | _ => false

/-- append where there is room. -/
theorem run_append_in {P : Program} {w : World} {t tx ty e : TypeId} {dx : TypeDesc} {sz : Nat} (ht : P.underlying t = some (.slice e)) (htx : P.underlying tx = some dx) (hdx : isIntD dx = false) (hsz : tySize P e = some sz)
    {b n cap m : Nat} {C : Array Value} {T : TypeId} {f : Nat × Nat} (hC : w.heap[b]? = some (.cells C T f)) (hf : okFz f C.size) (hcap : C.size = cap * sz) {x : Value} {news : List Value} (hx : Source P w sz x m news) (hr : n + m ≤ cap) :
    (Builtin.append_ #[t, tx] ty #[.slice (some ⟨b, 0, none⟩) n cap, x]).run P w = .ok (.slice (some ⟨b, 0, none⟩) (n + m) cap) (World.setB w b (.cells (splice C.toList (n * sz) news).toArray T f)) := by
  have hle : 0 + (0 + n * sz) + news.length ≤ C.size := by
    rw [hx.size, hcap, Nat.zero_add, Nat.zero_add, ← Nat.add_mul]
    exact Nat.mul_le_mul_right _ hr
  have hst := run_storeCells P b (n * sz) T f news 0 w C hC hf (by simpa using hle) hx.ones
  simp only [Nat.add_zero] at hst
  have hz : ∀ w' : World, ((underlying tx).run P w') = .ok dx w' := fun w' => run_under htx w'
  simp only [Builtin.append_, List.getElem?_toArray, List.getElem?_cons_zero, List.getElem?_cons_succ, Sem.run_bind, run_under ht, Result.andThen_ok, run_sizeOf hsz, hz, Sem.run_pure]
  cases dx <;> simp [isIntD] at hdx <;> simp [hx.len, hr, hx.first w rfl, add_mk, hst]

/-- append where there is none. -/
theorem run_append_out {P : Program} {w : World} {t tx ty e : TypeId} {dx : TypeDesc} {i : TypeInfo} {z : Value} (ht : P.underlying t = some (.slice e)) (htx : P.underlying tx = some dx) (hdx : isIntD dx = false)
    (hi : P.info? e = some i) (hz : i.zero = some z) {s x : Value} {ad : Option Addr} {n cap m : Nat} (hs : s = .slice ad n cap) {olds news : List Value} (ho : Source P w i.size s n olds) (hx : Source P w i.size x m news) (hg : cap < n + m) (hb : (n + m) * i.bytes ≤ room) (h63 : n + m ≤ 9223372036854775807) :
    ∃ c, n + m ≤ c ∧ c ≤ 9223372036854775807 ∧ (Builtin.append_ #[t, tx] ty #[s, x]).run P w = .ok (.slice (some ⟨w.heap.size, 0, none⟩) (n + m) c)
      (w.drew.alloc (.cells (olds.toArray ++ news.toArray ++ Builtin.zeroCells z.cells (c - (n + m))) e)) := by
  subst hs
  have hn : ¬ (n + m ≤ cap) := by omega
  have h63' : ¬ (9223372036854775807 < ((n : Int) + (m : Int))) := by omega
  have hfit := growslice_fits (old := cap) hg hb
  have h48' : ¬ (281474976710656 < Builtin.nextslicecap (n + m) cap * i.bytes) := by omega
  have hsz : tySize P e = some i.size := by simp [tySize, hi]
  refine ⟨grownCap w (n + m) cap e, ?_, ?_, ?_⟩
  · simp only [grownCap, Question.cut]; omega
  · simp only [grownCap, Question.cut]
    have := Nat.mod_lt (w.tape w.drawn (.appendCap (n + m) cap e)) (show 0 < 2 ^ 63 - (n + m) by omega)
    omega
  have hfo := ho.first w.drew rfl
  have hfn := hx.first w.drew rfl
  have hz' : ∀ w' : World, ((underlying tx).run P w') = .ok dx w' := fun w' => run_under htx w'
  simp only [Builtin.append_, List.getElem?_toArray, List.getElem?_cons_zero, List.getElem?_cons_succ, Sem.run_bind, run_under ht, Result.andThen_ok, run_sizeOf hsz, hz', Sem.run_pure]
  cases dx <;> simp [isIntD] at hdx <;> simp [hx.len, hn, h63', h48', typeInfo, zeroValue, hi, hz, Question.forced, hfo, hfn, newRow, grownCap] <;> (congr 2; apply Array.toList_inj.1; simp)

end Go.Proofs.YtggofahhehkbbaaGreatDoor.Ev
