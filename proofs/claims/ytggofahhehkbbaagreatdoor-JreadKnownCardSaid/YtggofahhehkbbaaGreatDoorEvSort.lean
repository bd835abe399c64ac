/- slices.SortFunc at elements of one cell rewrites its argument's cells: what the evaluator's in-place calls want of it. -/
import Derived.Test.YtggofahhehkbbaaGreatDoorEvTop
import Derived.Shelf.SlSortCmp.NoneTotal
namespace Go.Proofs.YtggofahhehkbbaaGreatDoor.Ev
open Go.Shelf Go.Sort
set_option autoImplicit false
set_option linter.unusedVariables false
set_option linter.unusedSimpArgs false

/-- What is kept by a run that may draw and grow, and nothing else. -/
theorem keep_grow {N : Nat → Prop} {w w' : World} (h : Keep ⟨N, fun _ => False, w, true⟩ w') : ∃ q os', w' = grow (w.drewN q) os' := by
  refine ⟨w'.drawn - w.drawn, w'.heap.extract w.heap.size w'.heap.size, ?_⟩
  have hd : w.drawn ≤ w'.drawn := h.drawn rfl
  have hh : w'.heap = w.heap ++ w'.heap.extract w.heap.size w'.heap.size := by
    apply Array.ext_getElem?
    intro k
    rw [Array.getElem?_append]
    by_cases hk : k < w.heap.size
    · rw [if_pos hk]; exact h.block k hk fun h => h
    · have hs := h.size
      simp only at hs
      rw [if_neg hk, Array.getElem?_extract]
      by_cases hk2 : k < w'.heap.size
      · rw [if_pos (by omega), show w.heap.size + (k - w.heap.size) = k by omega]
      · rw [if_neg (by omega), Array.getElem?_eq_none (by omega)]
  have e1 : w'.tape = w.tape := h.tape
  have e2 : w'.os = w.os := h.os
  have e3 : w'.output = w.output := h.output
  unfold grow World.drewN
  cases w'
  simp only at hd hh e1 e2 e3
  subst e1
  subst e2
  subst e3
  simp only [World.mk.injEq, true_and, and_true]
  exact ⟨hh, by omega⟩

/-- An element: its value, and what it stands for. -/
abbrev Elt (w : World) (N : Nat → Prop) (S : PV → Prop) := { x : Value × PV // Rep w N x.2 x.1 ∧ S x.2 }

theorem elts_of {w : World} {N : Nat → Prop} {S : PV → Prop} {get : Nat → Option Value} : ∀ {qs : List PV} {k : Nat}, (∀ q, q ∈ qs → S q) → (∀ (i : Nat) q, qs[i]? = some q → ∃ v, get (k + i) = some v ∧ Rep w N q v) →
    ∃ xs : List (Elt w N S), xs.map (fun x => x.1.2) = qs ∧ ∀ (i : Nat) x, xs[i]? = some x → get (k + i) = some x.1.1
  | [], k, _, _ => ⟨[], rfl, fun i x h => by simp at h⟩
  | q :: r, k, hS, h => by
    obtain ⟨v, h1, h2⟩ := h 0 q rfl
    obtain ⟨xs, h3, h4⟩ := elts_of (get := get) (k := k + 1) (fun q hq => hS q (List.mem_cons_of_mem _ hq)) fun i q' hq => by
      obtain ⟨v', h5, h6⟩ := h (i + 1) q' (by simpa using hq)
      exact ⟨v', by rw [Nat.add_assoc, Nat.add_comm 1 i]; exact h5, h6⟩
    refine ⟨⟨(v, q), h2, hS q List.mem_cons_self⟩ :: xs, by simp [h3], fun i x hx => ?_⟩
    cases i with
    | zero => simp only [List.getElem?_cons_zero, Option.some.injEq] at hx; subst hx; exact h1
    | succ i => rw [Nat.add_comm i 1, ← Nat.add_assoc]; exact h4 i x (by simpa using hx)

/-- Two sorted permutations of one list are one list. -/
theorem sorted_one {α : Type} {le : α → α → Prop} {a b : List α} (hp : a.Perm b) (ha : a.Pairwise le) (hb : b.Pairwise le) (hanti : ∀ x y, x ∈ a → y ∈ a → le x y → le y x → x = y) : a = b :=
  List.Perm.eq_of_pairwise (fun x y hx hy h1 h2 => hanti x y hx (hp.mem_iff.2 hy) h1 h2) ha hb hp

structure CmpOn (S : PV → Prop) (cf : PV → PV → Int) : Prop where
  irrefl : ∀ x, S x → ¬ cf x x < 0
  trans : ∀ x y z, S x → S y → S z → cf x y < 0 → cf y z < 0 → cf x z < 0
  ntrans : ∀ x y z, S x → S y → S z → ¬ cf x y < 0 → ¬ cf y z < 0 → ¬ cf x z < 0
  total : ∀ x y, S x → S y → ¬ cf x y < 0 → ¬ cf y x < 0 → x = y

theorem heap_mapBlock_ne (w : World) {b k : Nat} (f : Array Value → Array Value) (h : k ≠ b) : (mapBlock w b f).heap[k]? = w.heap[k]? := by
  simp only [mapBlock, Array.getElem?_modify, if_neg (Ne.symm h)]
theorem heap_mapBlock (w : World) {b : Nat} (f : Array Value → Array Value) {C : Array Value} {ty : Nat} {fz : Nat × Nat} (h : w.heap[b]? = some (.cells C ty fz)) : (mapBlock w b f).heap[b]? = some (.cells (f C) ty fz) := by
  simp only [mapBlock, Array.getElem?_modify, if_true, h, Option.map_some, onCells]

theorem callOp_of_calls {P : Program} {f : Nat} {fn : Func} {c : Code} {args : Array Value} {w : World} {R : Ending → World → Prop} (hf : P.funcs[f]? = some fn) (hb : fn.body = some c) (hn : (fn.name == "runtime.NumGoroutine") = false) (h : Calls P f args w R) : CallOp P f args w R := by
  have hne : ¬ fn.name = "runtime.NumGoroutine" := beq_eq_false_iff_ne.1 hn
  have hcall : (callFunc f args).run P w = .ok (.enter f args) w := by
    simp [callFunc, program, Sem.run, hf, hne, hb]
  unfold CallOp
  rw [hcall]
  exact h

theorem sort_inpl {P : Program} {ρ : Ren} (L : SlLaysF.n6 P ρ) {E E' : Env} (hE : E.P = P) (hE' : E'.P = P) (hgl : ∀ g cs, E'.glob g = some cs → E.glob g = some cs) (hmd : E'.md = true) {h' : Handler} (hh' : HSound E' h')
    {fs : Nat} {fns : Func} {cs : Code} (hfs : P.funcs[fs]? = some fns) (hbs : fns.body = some cs) (hns : (fns.name == "runtime.NumGoroutine") = false) (hρ : ρ.f 6 = fs)
    {g : Nat} {fn : Func} {c : Code} (hf : P.funcs[g]? = some fn) (hb : fn.body = some c) (hn : (fn.name == "runtime.NumGoroutine") = false)
    {S : PV → Prop} {cf : PV → PV → Int} (hcf : ∀ a b, S a → S b → h' g [(false, [.p a]), (false, [.p b])] [] = some (.ret [(false, [.p (.lit (.int .i64 (cf a b)))])], [])) (hO : CmpOn S cf)
    {qs r : List PV} (hS : ∀ q, q ∈ qs → S q) (hlen : qs.length < 4611686018427387904) (hp : r.Perm qs) (hr : r.Pairwise fun a b => ¬ cf b a < 0)
    (B : Base) (d : Bd) (us : List Value) (hB : BaseOK B) (hg : GlobOK E B) (hdw : d.w = B.w0) (hdN : d.N = B.N0) (hd0 : d.nb = 0) (hv : IVals d [(false, [.clo (.func g) [] []])] us []) :
    (∀ (b cap ty sz : Nat) (C : Array Value) (f : Nat × Nat), (∀ k, B.O0 k ↔ k = b) → B.w0.heap[b]? = some (.cells C ty f) → okFz f C.size → C.size = cap * sz → (qs.map fun q => [q]).length ≤ cap → cap ≤ 9223372036854775807 →
      ArrCells B.w0 B.N0 sz (qs.map fun q => [q]) (fun i => C[i]?) →
      CallOp P fs (Value.slice (some ⟨b, 0, none⟩) (qs.map fun q => [q]).length cap :: us).toArray B.w0 fun e w' => e = .returned (.tuple #[]) ∧ Keep B w' ∧ (r.map fun q => [q]).length = (qs.map fun q => [q]).length ∧
        ∃ C' f', w'.heap[b]? = some (.cells C' ty f') ∧ okFz f' C'.size ∧ C'.size = C.size ∧ ArrCells w' (fun k => B.A k ∧ k < w'.heap.size ∧ k ≠ b) sz (r.map fun q => [q]) (fun i => C'[i]?)) ∧
    ((qs.map fun q => [q]) = [] → ∀ a cap, (∀ k, ¬ B.O0 k) → CallOp P fs (Value.slice a 0 cap :: us).toArray B.w0 fun e w' => e = .returned (.tuple #[]) ∧ Keep B w') := by
  obtain ⟨v, vs', o1, o2, rfl, ho, hv1, hv2⟩ := hv
  obtain ⟨rfl, _⟩ := hv2
  obtain ⟨v', vs', o3, o4, h1, _, hv3, hv4⟩ := hv1
  simp only [List.cons.injEq] at h1
  obtain ⟨rfl, _⟩ := h1
  simp only [IRep] at hv3
  obtain ⟨F, K, _, _, rfl, _, hF, hK⟩ := hv3
  have eF : F = #[] := by simp only [IRepL] at hF; exact Array.toList_eq_nil_iff.1 hF.1
  have eK : K = #[] := by simp only [IRepL] at hK; exact Array.toList_eq_nil_iff.1 hK.1
  subst eF
  subst eK
  constructor
  · intro b cap ty sz C f hO0 hC hfz hsz hle hcap ha
    have hCsz : qs.length ≤ cap := by simpa using hle
    cases hq : qs with
    | nil =>
      subst hq
      have hr0 : r = [] := List.perm_nil.1 hp
      subst hr0
      refine callOp_of_calls hfs hbs hns ?_
      have := AnyF.slices_SortFunc_none { L with } (some ⟨b, 0, none⟩) cap (.func (.func g) #[] #[]) B.w0
      rw [hρ] at this
      refine this.mono fun e w' ⟨he, hw⟩ => ?_
      subst hw
      refine ⟨he, ⟨rfl, rfl, rfl, Nat.le_refl _, fun _ _ _ => rfl, fun _ => Nat.le_refl _⟩, rfl, C, f, hC, hfz, rfl, ha.1, fun e he => by simp at he, fun i e j q he => by simp at he⟩
    | cons q0 qr =>
      rw [← hq]
      have hsz1 : sz = 1 := by
        have := ha.2.1 [q0] (by rw [hq]; simp)
        simpa using this.symm
      subst hsz1
      obtain ⟨xs, hx1, hx2⟩ := elts_of (w := B.w0) (N := B.N0) (S := S) (get := fun i => C[i]?) (qs := qs) (k := 0) hS fun i q hq' => by
        have := ha.2.2 i [q] 0 q (by rw [List.getElem?_map, hq']; rfl) rfl
        simpa using this
      have hxl : xs.length = qs.length := by rw [← hx1]; simp
      have hx0 : 0 < xs.length := by rw [hxl, hq]; simp
      letI : Inhabited (Elt B.w0 B.N0 S) := ⟨xs[0]⟩
      let enc : Elt B.w0 B.N0 S → Value := fun x => x.1.1
      let cfe : Elt B.w0 B.N0 S → Elt B.w0 B.N0 S → Int := fun x y => cf x.1.2 y.1.2
      have hswo : SWO (ltOf cfe) := by
        refine ⟨fun x => ?_, fun x y z => ?_, fun x y z => ?_⟩
        · simp only [ltOf, decide_eq_false_iff_not]; exact hO.irrefl _ x.2.2
        · simp only [ltOf, decide_eq_true_eq]; exact hO.trans _ _ _ x.2.2 y.2.2 z.2.2
        · simp only [ltOf, decide_eq_false_iff_not]; exact hO.ntrans _ _ _ x.2.2 y.2.2 z.2.2
      have hget : ∀ j (hj : j < xs.length), xs.toArray[j]! = xs[j] := fun j hj => by
        rw [getElem!_pos xs.toArray j (by simpa using hj)]; rfl
      have hcell : ∀ k, B.w0.cell? ⟨b, k, none⟩ = C[k]? := fun k => by
        simp [World.cell?, hC]
      have hH : Holds enc B.w0 b 0 xs.toArray := by
        intro j hj
        have hj' : j < xs.length := by simpa using hj
        refine ⟨?_, ?_⟩
        · rw [hcell, hget j hj']
          have := hx2 j xs[j] (List.getElem?_eq_getElem hj')
          simpa using this
        · have := hfz j (by rw [hsz]; omega)
          simp only [World.frozen?, hC, Nat.zero_add]
          simpa using this
      have hbl : b < B.w0.heap.size := (Array.getElem?_eq_some_iff.1 hC).1
      have hNb : ∀ k, B.N0 k → k ≠ b ∧ k < B.w0.heap.size := fun k hk => ⟨fun he => (hB.n0 k hk).2 ((hO0 k).2 he), (hB.n0 k hk).1⟩
      have hsame : ∀ (m : Nat) (dk : Array (Elt B.w0 B.N0 S)) (os : Array Obj) k, k ≠ b → k < B.w0.heap.size → (sortWorld enc B.w0 b 0 m dk os).heap[k]? = B.w0.heap[k]? := by
        intro m dk os k hk hk2
        unfold sortWorld
        rw [heap_grow_old _ _ (by rw [size_putRow]; exact hk2)]
        exact heap_mapBlock_ne _ _ hk
      have hge : ∀ (m : Nat) (dk : Array (Elt B.w0 B.N0 S)) (os : Array Obj), B.w0.heap.size ≤ (sortWorld enc B.w0 b 0 m dk os).heap.size := by
        intro m dk os
        unfold sortWorld
        rw [size_grow, size_putRow]
        exact Nat.le_add_right _ _
      have hcmp : CmpLays1 P g #[] enc cfe b 0 xs.toArray.size B.w0 := by
        intro m os dk hdk x y
        let B2 : Base := ⟨B.N0, fun _ => False, sortWorld enc B.w0 b 0 m dk os, true⟩
        have hrep : ∀ q v, Rep B.w0 B.N0 q v → Rep B2.w0 B2.N0 q v := fun q v h => h.mono fun k hk => ⟨hk, fun _ => hsame m dk os k (hNb k hk).1 (hNb k hk).2⟩
        have hs := hh'.fn _ _ _ _ _ (hcf x.1.2 y.1.2 x.2.2 y.2.2)
        have hiv : IVals (mkBd B2.w0 B2.N0 [] fun _ => 0) [(false, [.p x.1.2]), (false, [.p y.1.2])] [enc x, enc y] [] :=
          ⟨_, _, [], [], rfl, rfl, ⟨_, _, [], [], rfl, rfl, by simp only [IRep]; exact ⟨trivial, hrep _ _ x.2.1⟩, rfl, rfl⟩, _, _, [], [], rfl, rfl, ⟨_, _, [], [], rfl, rfl, by simp only [IRep]; exact ⟨trivial, hrep _ _ y.2.1⟩, rfl, rfl⟩, rfl, rfl⟩
        have hbd : Border B2.w0 B2.N0 [] [(false, [.p x.1.2]), (false, [.p y.1.2])] [enc x, enc y] (fun _ => 0) [] := ⟨⟨[], [], rfl, hiv, rfl⟩, by simp [bdBlocks], fun b hb => by simp [bdBlocks] at hb, fun b hb => by simp [bdBlocks] at hb⟩
        have hc := hs B2 (fun _ => 0) [] _ hbd (fun b => by simp [B2, bdBlocks]) ⟨fun k hk => ⟨Nat.lt_of_lt_of_le (hNb k hk).2 (hge m dk os), fun h => h⟩⟩ ⟨fun gg cs hgg => hrep _ _ (hg.gl gg cs (hgl gg cs hgg)), fun _ => hmd⟩
        rw [hE'] at hc
        refine (callOp_calls hf hb hn hc).mono fun e w' hl => ?_
        obtain ⟨hk, _, β', o, us', _, hbd', _, hout⟩ := hl
        obtain ⟨o1, o2, rfl, hv, _⟩ := hbd'.vals
        obtain ⟨v, vs', o3, o4, rfl, _, hv1, hv2⟩ := hv
        obtain ⟨rfl, _⟩ := hv2
        obtain ⟨v', vs2, o5, o6, h1, h2, h3, h4⟩ := hv1
        simp only [List.cons.injEq] at h1
        obtain ⟨rfl, _⟩ := h1
        simp only [IRep] at h3
        have hvv : v = .int .i64 (cf x.1.2 y.1.2) := by cases h3.2; rfl
        subst hvv
        obtain ⟨q, os', hw⟩ := keep_grow hk
        exact ⟨hout, q, os', hw⟩
      have eg : ∀ args w, (callFunc g args).run P w = .ok (.enter g args) w := by
        intro args w
        have hne : ¬ fn.name = "runtime.NumGoroutine" := beq_eq_false_iff_ne.1 hn
        simp [callFunc, program, Sem.run, hf, hne, hb]
      have hcall := Any.slices_SortFunc L enc (fun x => x.2.1.one) cfe hswo g #[] b 0 cap xs.toArray B.w0 eg hcmp hH hbl (by simpa [hxl] using hlen)
      rw [hρ] at hcall
      refine callOp_of_calls hfs hbs hns ?_
      have hargs : (Value.slice (some ⟨b, 0, none⟩) (qs.map fun q => [q]).length cap :: [Value.func (.func g) #[] #[]]).toArray = #[.slice (some ⟨b, 0, none⟩) xs.toArray.size cap, .func (.func g) #[] #[]] := by simp [hxl]
      rw [hargs]
      refine hcall.mono fun e w' hw => ?_
      obtain ⟨he, d', n, os, hpi, hso, rfl⟩ := hw
      obtain ⟨hd1, _, hd3⟩ := hpi
      have hd1' : d'.size = xs.length := by simpa using hd1
      have hperm : d'.toList.Perm xs := by
        rw [Array.extract_size, ← hd1, Array.extract_size] at hd3
        exact hd3
      have hmapd : d'.toList.map (fun x => x.1.2) = r := by
        refine sorted_one (le := fun a b => ¬ cf b a < 0) ?_ ?_ hr ?_
        · rw [← hx1] at hp
          exact (hperm.map _).trans hp.symm
        · rw [List.pairwise_map, List.pairwise_iff_getElem]
          intro i j hi hj hij
          have hi' : i < d'.size := by simpa using hi
          have hj' : j < d'.size := by simpa using hj
          have := hso i j (Nat.zero_le _) hij (by simpa [hd1'] using hj')
          rw [getElem!_pos d' i hi', getElem!_pos d' j hj'] at this
          simpa [ltOf, cfe] using this
        · intro x y hx hy h1 h2
          obtain ⟨x', _, rfl⟩ := List.mem_map.1 hx
          obtain ⟨y', _, rfl⟩ := List.mem_map.1 hy
          exact hO.total _ _ x'.2.2 y'.2.2 h2 h1
      refine ⟨he, ⟨rfl, rfl, rfl, hge n d' os, fun k hk hk2 => hsame n d' os k (fun h => hk2 ((hO0 k).2 h)) hk, fun _ => ?_⟩, by simp [hp.length_eq], putCells enc 0 d' C, f, ?_, ?_, ?_, ?_⟩
      · unfold sortWorld grow putRow mapBlock Sort.ahead
        exact Nat.le_add_right _ _
      · unfold sortWorld
        rw [heap_grow_old _ _ (by rw [size_putRow]; exact hbl)]
        exact heap_mapBlock (Sort.ahead B.w0 n) _ hC
      · simpa [putCells] using hfz
      · simp [putCells]
      · refine ⟨by omega, fun e he => ?_, fun i e j q h1 h2 => ?_⟩
        · obtain ⟨q, _, rfl⟩ := List.mem_map.1 he
          rfl
        · rw [List.getElem?_map] at h1
          cases hri : r[i]? with
          | none => rw [hri] at h1; simp at h1
          | some q' =>
            rw [hri] at h1
            simp only [Option.map_some, Option.some.injEq] at h1
            subst h1
            have hj : j = 0 := by
              have := (List.getElem?_eq_some_iff.1 h2).1
              simp at this
              exact this
            subst hj
            simp only [List.getElem?_cons_zero, Option.some.injEq] at h2
            subst h2
            rw [← hmapd, List.getElem?_map] at hri
            have hil : i < d'.size := by
              rcases Nat.lt_or_ge i d'.size with h | h
              · exact h
              · rw [List.getElem?_eq_none (by simpa using h)] at hri; simp at hri
            rw [List.getElem?_eq_getElem (by simpa using hil)] at hri
            simp only [Option.map_some, Option.some.injEq, Array.getElem_toList] at hri
            refine ⟨enc d'[i], ?_, ?_⟩
            · have hiC : i < C.size := by rw [hsz]; omega
              show (putCells enc 0 d' C)[i * 1 + 0]? = _
              simp only [Nat.mul_one, Nat.add_zero, putCells, Array.getElem?_mapIdx, Array.getElem?_eq_getElem hiC, Option.map_some]
              rw [if_pos ⟨Nat.zero_le _, by omega⟩, Nat.sub_zero, getElem!_pos d' i hil]
            · rw [← hri]
              refine d'[i].2.1.mono fun k hk => ?_
              obtain ⟨h1, h2⟩ := hNb k hk
              exact ⟨⟨.inl hk, Nat.lt_of_lt_of_le h2 (hge n d' os), h1⟩, fun _ => hsame n d' os k h1 h2⟩
  · intro hq a cap hO0
    refine callOp_of_calls hfs hbs hns ?_
    have := AnyF.slices_SortFunc_none { L with } a cap (.func (.func g) #[] #[]) B.w0
    rw [hρ] at this
    refine this.mono fun e w' ⟨he, hw⟩ => ?_
    subst hw
    exact ⟨he, ⟨rfl, rfl, rfl, Nat.le_refl _, fun _ _ _ => rfl, fun _ => Nat.le_refl _⟩⟩


/-! ### A sort that the kernel runs -/
def cfOf (h' : Handler) (g : Nat) (a b : PV) : Option Int := match h' g [(false, [.p a]), (false, [.p b])] [] with
  | some (.ret [(false, [.p (.lit (.int .i64 n))])], []) => some n
  | _ => none
def cfI (h' : Handler) (g : Nat) (a b : PV) : Int := (cfOf h' g a b).getD 0
def ltI (h' : Handler) (g : Nat) (a b : PV) : Bool := decide (cfI h' g a b < 0)

def insS (lt : PV → PV → Bool) (x : PV) : List PV → List PV
  | [] => [x]
  | y :: r => bif lt x y then x :: y :: r else y :: insS lt x r
def sortS (lt : PV → PV → Bool) : List PV → List PV
  | [] => []
  | x :: r => insS lt x (sortS lt r)
def pwB (p : PV → PV → Bool) : List PV → Bool
  | [] => true
  | x :: r => r.all (p x) && pwB p r
def onesOf : List (List PV) → Option (List PV)
  | [] => some []
  | [q] :: r => match onesOf r with | some qs => some (q :: qs) | none => none
  | _ => none

def sortPrim (h' : Handler) (gs : List Nat) : List (List PV) → Args → Option (List (List PV)) := fun es rest => match rest with
  | [(false, [.clo (.func g) [] []])] => match onesOf es with
    | some qs =>
      bif memN g gs && Nat.blt qs.length 4611686018427387904 && qs.all (fun x => qs.all fun y => (cfOf h' g x y).isSome) && qs.all (fun x => !ltI h' g x x) &&
        qs.all (fun x => qs.all fun y => qs.all fun z => !(ltI h' g x y && ltI h' g y z) || ltI h' g x z) && pwB (fun x y => ltI h' g x y || ltI h' g y x) qs &&
        pwB (fun x y => !ltI h' g y x) (sortS (ltI h' g) qs)
      then some ((sortS (ltI h' g) qs).map fun q => [q]) else none
    | none => none
  | _ => none

theorem insS_perm (lt : PV → PV → Bool) (x : PV) : ∀ l, (insS lt x l).Perm (x :: l)
  | [] => .refl _
  | y :: r => by
    simp only [insS]
    cases lt x y with
    | true => exact .refl _
    | false => exact ((insS_perm lt x r).cons y).trans (.swap x y r)
theorem sortS_perm (lt : PV → PV → Bool) : ∀ l, (sortS lt l).Perm l
  | [] => .refl _
  | x :: r => (insS_perm lt x _).trans ((sortS_perm lt r).cons x)
theorem pwB_iff {p : PV → PV → Bool} : ∀ {l : List PV}, pwB p l = true → l.Pairwise fun a b => p a b = true
  | [], _ => List.Pairwise.nil
  | x :: r, h => by
    simp only [pwB, Bool.and_eq_true, List.all_eq_true] at h
    exact List.Pairwise.cons h.1 (pwB_iff h.2)
theorem onesOf_eq : ∀ {es : List (List PV)} {qs : List PV}, onesOf es = some qs → es = qs.map fun q => [q]
  | [], qs, h => by simp only [onesOf, Option.some.injEq] at h; subst h; rfl
  | [q] :: r, qs, h => by
    simp only [onesOf] at h
    split at h
    · rename_i qs' h'
      simp only [Option.some.injEq] at h
      subst h
      rw [onesOf_eq h']
      rfl
    · simp at h
  | [] :: r, qs, h => by simp [onesOf] at h
  | (_ :: _ :: _) :: r, qs, h => by simp [onesOf] at h

theorem pw_total {α : Type} {R : α → α → Prop} : ∀ {l : List α}, l.Pairwise (fun a b => R a b ∨ R b a) → ∀ x y, x ∈ l → y ∈ l → ¬ R x y → ¬ R y x → x = y
  | [], _, x, _, hx, _, _, _ => by simp at hx
  | a :: r, h, x, y, hx, hy, h1, h2 => by
    cases h with
    | cons h3 h4 =>
      rcases List.mem_cons.1 hx with ex | kx
      · rcases List.mem_cons.1 hy with ey | ky
        · rw [ex, ey]
        · subst ex
          rcases h3 y ky with h | h
          · exact absurd h h1
          · exact absurd h h2
      · rcases List.mem_cons.1 hy with ey | ky
        · subst ey
          rcases h3 x kx with h | h
          · exact absurd h h2
          · exact absurd h h1
        · exact pw_total h4 x y kx ky h1 h2

theorem sortPrim_sound {P : Program} {ρ : Ren} (L : SlLaysF.n6 P ρ) {E E' : Env} (hE : E.P = P) (hE' : E'.P = P) (hgl : ∀ g cs, E'.glob g = some cs → E.glob g = some cs) (hmd : E'.md = true) {h' : Handler} (hh' : HSound E' h')
    {fs : Nat} {fns : Func} {cs : Code} (hfs : P.funcs[fs]? = some fns) (hbs : fns.body = some cs) (hns : (fns.name == "runtime.NumGoroutine") = false) (hρ : ρ.f 6 = fs)
    {gs : List Nat} (hgs : ∀ g, memN g gs = true → ∃ fn c, P.funcs[g]? = some fn ∧ fn.body = some c ∧ (fn.name == "runtime.NumGoroutine") = false) : InplSound E fs (sortPrim h' gs) := by
  intro es rest es' he B d us hB hg hdw hdN hd0 hv
  unfold sortPrim at he
  split at he
  case h_2 => simp at he
  case h_1 g =>
    split at he
    case h_2 => simp at he
    case h_1 qs hq =>
      have hes := onesOf_eq hq
      subst hes
      rw [cond_eq_ite] at he
      split at he
      case isFalse => simp at he
      case isTrue hc =>
        simp only [Option.some.injEq] at he
        subst he
        simp only [Bool.and_eq_true, List.all_eq_true, Bool.or_eq_true, Bool.not_eq_true', Bool.and_eq_false_iff] at hc
        obtain ⟨⟨⟨⟨⟨⟨hg1, hlen⟩, hdef⟩, hirr⟩, htr⟩, hpw⟩, hso⟩ := hc
        obtain ⟨fn, c, hf, hb, hn⟩ := hgs g hg1
        have hlt : ∀ a b, ltI h' g a b = true ↔ cfI h' g a b < 0 := fun a b => by simp [ltI]
        have hltf : ∀ a b, ltI h' g a b = false ↔ ¬ cfI h' g a b < 0 := fun a b => by rw [← hlt]; simp
        have htrans : ∀ x y z, x ∈ qs → y ∈ qs → z ∈ qs → cfI h' g x y < 0 → cfI h' g y z < 0 → cfI h' g x z < 0 := by
          intro x y z hx hy hz h1 h2
          rcases htr x hx y hy z hz with h | h
          · rcases h with h | h
            · exact absurd h1 ((hltf _ _).1 h)
            · exact absurd h2 ((hltf _ _).1 h)
          · exact (hlt _ _).1 h
        have htot : ∀ x y, x ∈ qs → y ∈ qs → ¬ cfI h' g x y < 0 → ¬ cfI h' g y x < 0 → x = y := by
          refine pw_total ?_
          refine (pwB_iff hpw).imp fun {a b} h => ?_
          simp only [Bool.or_eq_true] at h
          rcases h with h | h
          · exact .inl ((hlt _ _).1 h)
          · exact .inr ((hlt _ _).1 h)
        have := sort_inpl L hE hE' hgl hmd hh' hfs hbs hns hρ hf hb hn (S := fun q => q ∈ qs) (cf := cfI h' g) (fun a b ha hb => by
            have h1 := hdef a ha b hb
            cases h2 : cfOf h' g a b with
            | none => rw [h2] at h1; simp at h1
            | some n =>
              simp only [cfI, h2, Option.getD_some]
              unfold cfOf at h2
              split at h2
              · rename_i n' h3
                simp only [Option.some.injEq] at h2
                subst h2
                exact h3
              · simp at h2) ⟨fun x hx => (hltf _ _).1 (hirr x hx), htrans, fun x y z hx hy hz h1 h2 h3 => by
            by_cases hyx : cfI h' g y x < 0
            · exact h2 (htrans y x z hy hx hz hyx h3)
            · obtain rfl := htot x y hx hy h1 hyx
              exact h2 h3, htot⟩ (qs := qs) (r := sortS (ltI h' g) qs) (fun q h => h) (by
            have := Nat.le_of_ble_eq_true hlen
            omega) (sortS_perm _ _) ((pwB_iff hso).imp fun {a b} h => by
            simp only [Bool.not_eq_true'] at h
            exact (hltf _ _).1 h) B d us hB hg hdw hdN hd0 hv
        rw [hE]
        exact this
end Go.Proofs.YtggofahhehkbbaaGreatDoor.Ev
