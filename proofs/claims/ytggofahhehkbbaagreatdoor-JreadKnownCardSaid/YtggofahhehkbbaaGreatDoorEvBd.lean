/- A call's border: what is handed over. -/
import Derived.Test.YtggofahhehkbbaaGreatDoorEvOpM
namespace Go.Proofs.YtggofahhehkbbaaGreatDoor.Ev
set_option autoImplicit false
set_option linter.unusedVariables false
set_option linter.unusedSimpArgs false

structure Bd where
  w : World
  N : Nat → Prop
  β : Nat → Nat
  kd : Nat → Nat
  nb : Nat

mutual
/-- A cell at a call's border; 'o': the blocks that come along. -/
def IRep (d : Bd) : AV → Value → List Nat → Prop
  | .p q, v, o => o = [] ∧ Rep d.w d.N q v
  | .tsl es, v, o => o = [] ∧ Rep d.w d.N (.sl es) v ∧ ∃ a, v = .slice a es.length es.length
  | .nl, v, o => o = [] ∧ v = .slice none 0 0
  | .fresh ty sz es, v, o => ∃ b cap C f, o = [b] ∧ v = .slice (some ⟨b, 0, none⟩) es.length cap ∧ es.length ≤ cap ∧ cap ≤ 9223372036854775807 ∧ d.w.heap[b]? = some (.cells C ty f) ∧ okFz f C.size ∧ C.size = cap * sz ∧
      ArrCells d.w d.N sz es fun i => C[i]?
  | .ptr k ep i off, v, o => o = [] ∧ ep = 0 ∧ i = 0 ∧ k < d.nb ∧ v.oneCell' = true ∧ (d.kd k = 1 → v = .pointer (some ⟨d.β k, off, none⟩))
  | .mp k, v, o => o = [] ∧ k < d.nb ∧ v.oneCell' = true ∧ (d.kd k = 2 → v = .map (some (d.β k)))
  | .clo fn f c, v, o => ∃ F K o1 o2, v = .func fn F K ∧ o = o1 ++ o2 ∧ IRepL d f F.toList o1 ∧ IRepL d c K.toList o2
  | .ifc t g cs, v, o => ∃ C, IRepL d cs C o ∧ match g with
    | true => v = .iface t (.agg C.toArray)
    | false => ∃ u, C = [u] ∧ v = .iface t u
  | .dead, v, o => o = [] ∧ v.oneCell' = true
  | .own _ _, _, _ => False
def IRepL (d : Bd) : List AV → List Value → List Nat → Prop
  | [], vs, o => vs = [] ∧ o = []
  | a :: r, vs, o => ∃ v vs' o1 o2, vs = v :: vs' ∧ o = o1 ++ o2 ∧ IRep d a v o1 ∧ IRepL d r vs' o2
end

def IVal (d : Bd) (g : Bool) (cs : List AV) (v : Value) (o : List Nat) : Prop := match g with
  | true => ∃ C : Array Value, v = .agg C ∧ IRepL d cs C.toList o
  | false => IRepL d cs [v] o

def IVals (d : Bd) : Args → List Value → List Nat → Prop
  | [], vs, o => vs = [] ∧ o = []
  | (g, cs) :: r, vs, o => ∃ v vs' o1 o2, vs = v :: vs' ∧ o = o1 ++ o2 ∧ IVal d g cs v o1 ∧ IVals d r vs' o2

def IEnts (d : Bd) : List (Value × Bool × List AV) → List MapEntry → List Nat → Prop
  | [], ms, o => ms = [] ∧ o = []
  | (k, g, cs) :: r, ms, o => ∃ m ms' o1 o2, ms = m :: ms' ∧ o = o1 ++ o2 ∧ m.key = k ∧ flatV k = true ∧ IVal d g cs m.val o1 ∧ IEnts d r ms' o2

/-- The boxes from the k-th on. -/
def IBoxes (d : Bd) : Nat → Boxes → List Nat → Prop
  | _, [], o => o = []
  | k, .box ty cs :: r, o => ∃ C f o1 o2, d.w.heap[d.β k]? = some (.cells C ty f) ∧ okFz f C.size ∧ o = o1 ++ o2 ∧ IRepL d cs C.toList o1 ∧ IBoxes d (k + 1) r o2
  | k, .map es :: r, o => ∃ ms ck o1 o2, d.w.heap[d.β k]? = some (.map ms ck) ∧ MapKept.Stamped ms ck ∧ o = o1 ++ o2 ∧ IEnts d es ms.toList o1 ∧ IBoxes d (k + 1) r o2
  | _, _ :: _, _ => False

def kdOf : Option Blk → Nat
  | some (.box _ _) => 1
  | some (.map _) => 2
  | _ => 0

def bdBlocks (bxs : Boxes) (β : Nat → Nat) (o : List Nat) : List Nat := (List.range bxs.length).map β ++ o

def mkBd (w : World) (N : Nat → Prop) (bxs : Boxes) (β : Nat → Nat) : Bd := ⟨w, N, β, fun k => kdOf bxs[k]?, bxs.length⟩

structure Border (w : World) (N : Nat → Prop) (bxs : Boxes) (vs : Args) (us : List Value) (β : Nat → Nat) (o : List Nat) : Prop where
  vals : ∃ o1 o2, o = o1 ++ o2 ∧ IVals (mkBd w N bxs β) vs us o1 ∧ IBoxes (mkBd w N bxs β) 0 bxs o2
  nodup : (bdBlocks bxs β o).Nodup
  lt : ∀ b, b ∈ bdBlocks bxs β o → b < w.heap.size
  notN : ∀ b, b ∈ bdBlocks bxs β o → ¬ N b

def retVal : List Value → Value
  | [v] => v
  | vs => .tuple vs.toArray

def outVals : Out → Args
  | .ret rs => rs
  | .pan a => [(false, [a])]

def Leave (B : Base) (bx0 : Boxes) (β : Nat → Nat) (out : Out) (bxs : Boxes) (e : Ending) (w : World) : Prop :=
  Keep B w ∧ bx0.length ≤ bxs.length ∧ ∃ β' o us, (∀ k, k < bx0.length → β' k = β k ∧ kdOf bxs[k]? = kdOf bx0[k]?) ∧
    Border w (fun b => B.A b ∧ b < w.heap.size ∧ b ∉ bdBlocks bxs β' o) bxs (outVals out) us β' o ∧
    (∀ b, b ∈ bdBlocks bxs β' o → B.O0 b ∨ B.w0.heap.size ≤ b) ∧
    match out with
    | .ret _ => e = .returned (retVal us)
    | .pan _ => ∃ v, us = [v] ∧ e = .panicked [{ v := v, recovered := false }]

/-- A call of a function, with or without a body. -/
def CallOp (P : Program) (g : Nat) (args : Array Value) (w : World) (R : Ending → World → Prop) : Prop :=
  match (callFunc g args).run P w with
  | .ok (.value v) w' => R (.returned v) w'
  | .ok (.enter f as) w' => Calls P f as w' R
  | .ok (.row row as) w' => Rows P row as w' fun v w'' => R (.returned v) w''
  | .halt (.panic v) w' => R (.panicked [{ v := v, recovered := false }]) w'
  | _ => False

/-- What the evaluator says of a call is so. -/
def FnSound (E : Env) (f : Nat) (args : Args) (bxs : Boxes) (out : Out) (bxs' : Boxes) : Prop :=
  ∀ (B : Base) (β : Nat → Nat) (o : List Nat) (us : List Value), Border B.w0 B.N0 bxs args us β o → (∀ b, B.O0 b ↔ b ∈ bdBlocks bxs β o) → BaseOK B → GlobOK E B →
    CallOp E.P f us.toArray B.w0 (Leave B bxs β out bxs')

/-- A callee that rewrites its first argument's cells does so. -/
def InplSound (E : Env) (g : Nat) (p : List (List PV) → Args → Option (List (List PV))) : Prop :=
  ∀ es rest es', p es rest = some es' → ∀ (B : Base) (d : Bd) (us : List Value), BaseOK B → GlobOK E B → d.w = B.w0 → d.N = B.N0 → d.nb = 0 → IVals d rest us [] →
    (∀ (b cap ty sz : Nat) (C : Array Value) (f : Nat × Nat), (∀ k, B.O0 k ↔ k = b) → B.w0.heap[b]? = some (.cells C ty f) → okFz f C.size → C.size = cap * sz → es.length ≤ cap → cap ≤ 9223372036854775807 →
      ArrCells B.w0 B.N0 sz es (fun i => C[i]?) →
      CallOp E.P g (Value.slice (some ⟨b, 0, none⟩) es.length cap :: us).toArray B.w0 fun e w' => e = .returned (.tuple #[]) ∧ Keep B w' ∧ es'.length = es.length ∧
        ∃ C' f', w'.heap[b]? = some (.cells C' ty f') ∧ okFz f' C'.size ∧ C'.size = C.size ∧ ArrCells w' (fun k => B.A k ∧ k < w'.heap.size ∧ k ≠ b) sz es' (fun i => C'[i]?)) ∧
    (es = [] → ∀ a cap, (∀ k, ¬ B.O0 k) → CallOp E.P g (Value.slice a 0 cap :: us).toArray B.w0 fun e w' => e = .returned (.tuple #[]) ∧ Keep B w')

structure HSound (E : Env) (h : Handler) : Prop where
  fn : ∀ f args bxs out bxs', h f args bxs = some (out, bxs') → FnSound E f args bxs out bxs'
  ip : ∀ g p, E.inpl g = some p → InplSound E g p

/-! ### Other contexts -/
theorem ArrCells.monoN {w : World} {N N' : Nat → Prop} (hN : ∀ b, N b → N' b) {sz : Nat} {es : List (List PV)} {get : Nat → Option Value} (h : ArrCells w N sz es get) : ArrCells w N' sz es get :=
  h.mono (fun b hb => ⟨hN b hb, fun _ => rfl⟩) fun _ _ _ _ _ _ _ h => h

mutual
theorem IRep.monoN {d : Bd} {N' : Nat → Prop} (hN : ∀ b, d.N b → N' b) : ∀ (a : AV) (v : Value) (o : List Nat), IRep d a v o → IRep { d with N := N' } a v o
  | .p q, v, o, h => by simp only [IRep] at h ⊢; exact ⟨h.1, h.2.mono fun b hb => ⟨hN b hb, fun _ => rfl⟩⟩
  | .tsl es, v, o, h => by simp only [IRep] at h ⊢; exact ⟨h.1, h.2.1.mono fun b hb => ⟨hN b hb, fun _ => rfl⟩, h.2.2⟩
  | .nl, v, o, h => by simp only [IRep] at h ⊢; exact h
  | .fresh ty sz es, v, o, h => by
    simp only [IRep] at h ⊢
    obtain ⟨b, cap, C, f, h1, h2, h3, h4, h5, h6, h7, h8⟩ := h
    exact ⟨b, cap, C, f, h1, h2, h3, h4, h5, h6, h7, h8.monoN hN⟩
  | .ptr k ep i off, v, o, h => by simp only [IRep] at h ⊢; exact h
  | .mp k, v, o, h => by simp only [IRep] at h ⊢; exact h
  | .clo fn f c, v, o, h => by
    simp only [IRep] at h ⊢
    obtain ⟨F, K, o1, o2, h1, h2, h3, h4⟩ := h
    exact ⟨F, K, o1, o2, h1, h2, IRepL.monoN hN f _ _ h3, IRepL.monoN hN c _ _ h4⟩
  | .ifc t g cs, v, o, h => by
    simp only [IRep] at h ⊢
    obtain ⟨C, h1, h2⟩ := h
    exact ⟨C, IRepL.monoN hN cs _ _ h1, h2⟩
  | .dead, v, o, h => by simp only [IRep] at h ⊢; exact h
  | .own _ _, v, o, h => by simp only [IRep] at h
theorem IRepL.monoN {d : Bd} {N' : Nat → Prop} (hN : ∀ b, d.N b → N' b) : ∀ (as : List AV) (vs : List Value) (o : List Nat), IRepL d as vs o → IRepL { d with N := N' } as vs o
  | [], vs, o, h => by simp only [IRepL] at h ⊢; exact h
  | a :: r, vs, o, h => by
    simp only [IRepL] at h ⊢
    obtain ⟨v, vs', o1, o2, h1, h2, h3, h4⟩ := h
    exact ⟨v, vs', o1, o2, h1, h2, IRep.monoN hN a _ _ h3, IRepL.monoN hN r _ _ h4⟩
end

theorem IVal.monoN {d : Bd} {N' : Nat → Prop} (hN : ∀ b, d.N b → N' b) {g : Bool} {cs : List AV} {v : Value} {o : List Nat} (h : IVal d g cs v o) : IVal { d with N := N' } g cs v o := by
  cases g
  · exact IRepL.monoN hN _ _ _ h
  · obtain ⟨C, h1, h2⟩ := h
    exact ⟨C, h1, IRepL.monoN hN _ _ _ h2⟩

theorem IVals.monoN {d : Bd} {N' : Nat → Prop} (hN : ∀ b, d.N b → N' b) : ∀ {vs : Args} {us : List Value} {o : List Nat}, IVals d vs us o → IVals { d with N := N' } vs us o
  | [], us, o, h => h
  | (g, cs) :: r, us, o, h => by
    obtain ⟨v, vs', o1, o2, h1, h2, h3, h4⟩ := h
    exact ⟨v, vs', o1, o2, h1, h2, h3.monoN hN, IVals.monoN hN h4⟩

theorem IEnts.monoN {d : Bd} {N' : Nat → Prop} (hN : ∀ b, d.N b → N' b) : ∀ {es : List (Value × Bool × List AV)} {ms : List MapEntry} {o : List Nat}, IEnts d es ms o → IEnts { d with N := N' } es ms o
  | [], ms, o, h => h
  | (k, g, cs) :: r, ms, o, h => by
    obtain ⟨m, ms', o1, o2, h1, h2, h3, h4, h5, h6⟩ := h
    exact ⟨m, ms', o1, o2, h1, h2, h3, h4, h5.monoN hN, IEnts.monoN hN h6⟩

theorem IBoxes.monoN {d : Bd} {N' : Nat → Prop} (hN : ∀ b, d.N b → N' b) : ∀ {bs : Boxes} {k : Nat} {o : List Nat}, IBoxes d k bs o → IBoxes { d with N := N' } k bs o
  | [], k, o, h => h
  | .box ty cs :: r, k, o, h => by
    obtain ⟨C, f, o1, o2, h1, h2, h3, h4, h5⟩ := h
    exact ⟨C, f, o1, o2, h1, h2, h3, IRepL.monoN hN _ _ _ h4, IBoxes.monoN hN h5⟩
  | .map es :: r, k, o, h => by
    obtain ⟨ms, ck, o1, o2, h1, hst, h2, h3, h4⟩ := h
    exact ⟨ms, ck, o1, o2, h1, hst, h2, h3.monoN hN, IBoxes.monoN hN h4⟩
  | .arr _ _ _ _ _ :: _, _, _, h => by simp [IBoxes] at h
  | .lent :: _, _, _, h => by simp [IBoxes] at h
  | .gone :: _, _, _, h => by simp [IBoxes] at h

/-! ### A block is lent -/
theorem SimB.lend {B : Base} {bk : Nat → Option Blk} {w : World} {ι : Nat → Nat} (h : SimB B bk w ι) {id : Nat} {x : Blk} (hid : bk id = some x) (hx : x.owned = true) :
    Ext (ctx B bk w ι) (ctx B (upd bk id (some .lent)) w ι) ∧ SimB B (upd bk id (some .lent)) w ι := by
  have hown : ∀ i y, upd bk id (some .lent) i = some y → y.owned = true → ∃ z, bk i = some z ∧ z.owned = true := by
    intro i y hy ho
    by_cases hi : i = id
    · subst hi; exact ⟨x, hid, hx⟩
    · rw [upd_ne _ _ hi] at hy; exact ⟨y, hy, ho⟩
  have ext : Ext (ctx B bk w ι) (ctx B (upd bk id (some .lent)) w ι) := by
    refine ⟨fun b hb => ⟨⟨hb.1, hb.2.1, fun i y hy ho => ?_⟩, fun _ => rfl⟩, fun i y hy => ?_⟩
    · obtain ⟨z, hz, hzo⟩ := hown i y hy ho
      exact hb.2.2 i z hz hzo
    · by_cases hi : i = id
      · subst hi
        exact ⟨.lent, upd_same _ _ _, trivial⟩
      · exact ⟨y, by show upd bk id _ i = _; rw [upd_ne _ _ hi]; exact hy, Compat.refl rfl fun _ => rfl⟩
  refine ⟨ext, h.step ext h.keep (fun i y hy ho => ?_) (fun i j y z hy hz h1 h2 he => ?_) (fun i y hy => ?_)⟩
  · obtain ⟨z, hz, hzo⟩ := hown i y hy ho
    exact h.terr i z hz hzo
  · obtain ⟨y', hy', hyo⟩ := hown i y hy h1
    obtain ⟨z', hz', hzo⟩ := hown j z hz h2
    exact h.inj i j y' z' hy' hz' hyo hzo he
  · by_cases hi : i = id
    · subst hi
      rw [upd_same] at hy
      simp only [Option.some.injEq] at hy
      subst hy
      exact .inr (h.lt hid hx)
    · rw [upd_ne _ _ hi] at hy
      exact .inl ⟨hy, rfl, fun _ => rfl⟩

end Go.Proofs.YtggofahhehkbbaaGreatDoor.Ev
