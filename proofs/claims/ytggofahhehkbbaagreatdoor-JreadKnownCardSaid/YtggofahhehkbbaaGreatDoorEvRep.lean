/- What the evaluator's values stand for in a world. -/
import Derived.Test.YtggofahhehkbbaaGreatDoorEvRun
import Derived.Below
import Derived.MapKept
namespace Go.Proofs.YtggofahhehkbbaaGreatDoor.Ev
set_option autoImplicit false

/-- A cell that nobody writes any more: what it holds, all of it in blocks of 'N'. -/
inductive Rep (w : World) (N : Nat → Prop) : PV → Value → Prop where
  | lit (v : Value) (h : flatV v = true) : Rep w N (.lit v) v
  | nil (a : Option Addr) (cap : Nat) : Rep w N (.sl []) (.slice a 0 cap)
  | sl (es : List (List PV)) (b o cap sz : Nat) (V : Nat → Nat → Value) (hb : N b) (hcap : es.length ≤ cap)
      (hsz : ∀ e, e ∈ es → e.length = sz)
      (hc : ∀ i e j q, es[i]? = some e → e[j]? = some q → w.cell? ⟨b, o + i * sz + j, none⟩ = some (V i j))
      (hr : ∀ i e j q, es[i]? = some e → e[j]? = some q → Rep w N q (V i j)) : Rep w N (.sl es) (.slice (some ⟨b, o, none⟩) es.length cap)
  | ppt (cs : List PV) (off b o : Nat) (V : Nat → Value) (hb : N b)
      (hc : ∀ j q, cs[j]? = some q → w.cell? ⟨b, o + j, none⟩ = some (V j))
      (hr : ∀ j q, cs[j]? = some q → Rep w N q (V j)) : Rep w N (.ppt cs off) (.pointer (some ⟨b, o + off, none⟩))
  | ifcA (t : TypeId) (cs : List PV) (C : Array Value) (hs : C.size = cs.length)
      (hr : ∀ j q (h : j < C.size), cs[j]? = some q → Rep w N q C[j]) : Rep w N (.ifc t true cs) (.iface t (.agg C))
  | ifcO (t : TypeId) (q : PV) (v : Value) (hr : Rep w N q v) : Rep w N (.ifc t false [q]) (.iface t v)

theorem Rep.one {w : World} {N : Nat → Prop} {q : PV} {v : Value} (h : Rep w N q v) : v.oneCell' = true := by
  cases h <;> first | rfl | (rename_i h; cases v <;> first | rfl | (simp [flatV] at h))

theorem Rep.mono {w w' : World} {N N' : Nat → Prop} (hm : ∀ b, N b → N' b ∧ (b < w.heap.size → w'.heap[b]? = w.heap[b]?)) {q : PV} {v : Value} (h : Rep w N q v) : Rep w' N' q v := by
  have hcell : ∀ (b o : Nat) (u : Value), N b → w.cell? ⟨b, o, none⟩ = some u → w'.cell? ⟨b, o, none⟩ = some u := by
    intro b o u hb hc
    have hlt := World.block_lt_of_cell? w _ hc
    have := (hm b hb).2 hlt
    unfold World.cell? at hc ⊢
    simp only at hc ⊢
    rw [this]
    exact hc
  induction h with
  | lit v h => exact .lit v h
  | nil a cap => exact .nil a cap
  | sl es b o cap sz V hb hcap hsz hc hr ih => exact .sl es b o cap sz V (hm b hb).1 hcap hsz (fun i e j q h1 h2 => hcell _ _ _ hb (hc i e j q h1 h2)) ih
  | ppt cs off b o V hb hc hr ih => exact .ppt cs off b o V (hm b hb).1 (fun j q h => hcell _ _ _ hb (hc j q h)) ih
  | ifcA t cs C hs hr ih => exact .ifcA t cs C hs ih
  | ifcO t q v hr ih => exact .ifcO t q v ih

/-! ### Cells side by side -/
def Cells (R : AV → Value → Prop) : List AV → List Value → Prop
  | [], vs => vs = []
  | a :: r, vs => ∃ v vs', vs = v :: vs' ∧ R a v ∧ Cells R r vs'

def CellsP (R : PV → Value → Prop) : List PV → List Value → Prop
  | [], vs => vs = []
  | a :: r, vs => ∃ v vs', vs = v :: vs' ∧ R a v ∧ CellsP R r vs'

/-- A range of cells that are frozen: none of the first n. -/
def okFz (fz : Nat × Nat) (n : Nat) : Prop := ∀ o, o < n → ¬ (fz.1 ≤ o ∧ o < fz.2)

structure RepCtx where
  w : World
  N : Nat → Prop
  ι : Nat → Nat
  bk : Nat → Option Blk

/-- A slice whose cells the function owns. -/
def OwnSl (c : RepCtx) (id ep : Nat) (v : Value) : Prop :=
  ∃ b, c.bk id = some b ∧ v.oneCell' = true ∧ ∀ ep' ty sz fz es, b = .arr ep' ty sz fz es → ep ≤ ep' ∧ (ep = ep' →
    ∃ cap, v = .slice (some ⟨c.ι id, 0, none⟩) es.length cap ∧ es.length ≤ cap ∧
      (fz = false → ∃ C T f, c.w.heap[c.ι id]? = some (.cells C T f) ∧ C.size = cap * sz))

def OwnPtr (c : RepCtx) (id ep i off : Nat) (v : Value) : Prop :=
  ∃ b, c.bk id = some b ∧ v.oneCell' = true ∧
    (∀ ty cs, b = .box ty cs → ep = 0 → i = 0 → v = .pointer (some ⟨c.ι id, off, none⟩)) ∧
    ∀ ep' ty sz fz es, b = .arr ep' ty sz fz es → ep ≤ ep' ∧ (ep = ep' → i < es.length ∧ v = .pointer (some ⟨c.ι id, i * sz + off, none⟩))

def OwnMap (c : RepCtx) (id : Nat) (v : Value) : Prop :=
  ∃ b, c.bk id = some b ∧ v.oneCell' = true ∧ ∀ es, b = .map es → v = .map (some (c.ι id))

mutual
def AVRep (c : RepCtx) : AV → Value → Prop
  | .p q, v => Rep c.w c.N q v
  | .tsl es, v => Rep c.w c.N (.sl es) v ∧ ∃ a, v = .slice a es.length es.length
  | .nl, v => v = .slice none 0 0
  | .own id ep, v => OwnSl c id ep v
  | .ptr id ep i off, v => OwnPtr c id ep i off v
  | .mp id, v => OwnMap c id v
  | .clo fn f k, v => ∃ F K, v = .func fn F K ∧ AVRepL c f F.toList ∧ AVRepL c k K.toList
  | .ifc t g cs, v => ∃ C, AVRepL c cs C ∧ match g with
    | true => v = .iface t (.agg C.toArray)
    | false => ∃ u, C = [u] ∧ v = .iface t u
  | .fresh _ _ _, _ => False
  | .dead, v => v.oneCell' = true
def AVRepL (c : RepCtx) : List AV → List Value → Prop
  | [], vs => vs = []
  | a :: r, vs => ∃ v vs', vs = v :: vs' ∧ AVRep c a v ∧ AVRepL c r vs'
end

def VRepC (c : RepCtx) (g : Bool) (cs : List AV) (v : Value) : Prop := match g with
  | true => ∃ C : Array Value, v = .agg C ∧ AVRepL c cs C.toList
  | false => AVRepL c cs [v]

def VRepT (c : RepCtx) : List (Bool × List AV) → List Value → Prop
  | [], vs => vs = []
  | (g, cs) :: r, vs => ∃ v vs', vs = v :: vs' ∧ VRepC c g cs v ∧ VRepT c r vs'

def VRep (c : RepCtx) : AVal → Value → Prop
  | .v g cs, v => VRepC c g cs v
  | .tup vs, v => ∃ C : Array Value, v = .tuple C ∧ VRepT c vs C.toList
  | .undef, _ => True

/-! ### Blocks -/
def ArrCells (w : World) (N : Nat → Prop) (sz : Nat) (es : List (List PV)) (get : Nat → Option Value) : Prop :=
  0 < sz ∧ (∀ e, e ∈ es → e.length = sz) ∧ ∀ (i : Nat) e (j : Nat) q, es[i]? = some e → e[j]? = some q → ∃ v, get (i * sz + j) = some v ∧ Rep w N q v

def EntRep (c : RepCtx) : List (Value × Bool × List AV) → List MapEntry → Prop
  | [], ms => ms = []
  | (k, g, cs) :: r, ms => ∃ m ms', ms = m :: ms' ∧ m.key = k ∧ flatV k = true ∧ VRepC c g cs m.val ∧ EntRep c r ms'

def BRep (c : RepCtx) (id : Nat) : Blk → Prop
  | .box ty cs => ∃ C f, c.w.heap[c.ι id]? = some (.cells C ty f) ∧ okFz f C.size ∧ AVRepL c cs C.toList
  | .arr _ ty sz false es => ∃ C f, c.w.heap[c.ι id]? = some (.cells C ty f) ∧ okFz f C.size ∧ (∃ cap, C.size = cap * sz ∧ es.length ≤ cap ∧ cap ≤ 9223372036854775807) ∧ ArrCells c.w c.N sz es fun i => C[i]?
  | .arr _ _ sz true es => ArrCells c.w c.N sz es (fun i => c.w.cell? ⟨c.ι id, i, none⟩) ∧ c.N (c.ι id)
  | .map es => ∃ ms clock, c.w.heap[c.ι id]? = some (.map ms clock) ∧ MapKept.Stamped ms clock ∧ EntRep c es ms.toList
  | .lent => c.ι id < c.w.heap.size
  | .gone => True

def Blk.owned : Blk → Bool
  | .box _ _ => true
  | .arr _ _ _ fz _ => !fz
  | .map _ => true
  | .lent => true
  | .gone => false

/-! ### States -/
structure Base where
  N0 : Nat → Prop
  O0 : Nat → Prop
  w0 : World
  md : Bool

def Base.A (B : Base) (b : Nat) : Prop := B.N0 b ∨ B.O0 b ∨ B.w0.heap.size ≤ b

/-- The blocks that are nobody's any more. -/
def nav (B : Base) (bk : Nat → Option Blk) (w : World) (ι : Nat → Nat) (b : Nat) : Prop := B.A b ∧ b < w.heap.size ∧ ∀ id x, bk id = some x → x.owned = true → ι id ≠ b

def ctx (B : Base) (bk : Nat → Option Blk) (w : World) (ι : Nat → Nat) : RepCtx := ⟨w, nav B bk w ι, ι, bk⟩

structure Keep (B : Base) (w : World) : Prop where
  os : w.os = B.w0.os
  tape : w.tape = B.w0.tape
  output : w.output = B.w0.output
  size : B.w0.heap.size ≤ w.heap.size
  block : ∀ b, b < B.w0.heap.size → ¬ B.O0 b → w.heap[b]? = B.w0.heap[b]?
  drawn : B.md = true → B.w0.drawn ≤ w.drawn

structure SimB (B : Base) (bk : Nat → Option Blk) (w : World) (ι : Nat → Nat) : Prop where
  keep : Keep B w
  terr : ∀ id x, bk id = some x → x.owned = true → B.O0 (ι id) ∨ B.w0.heap.size ≤ ι id
  inj : ∀ i j x y, bk i = some x → bk j = some y → x.owned = true → y.owned = true → ι i = ι j → i = j
  blks : ∀ id x, bk id = some x → BRep (ctx B bk w ι) id x

structure Sim (B : Base) (st : St) (w : World) (ι : Nat → Nat) (T : Array Value) : Prop extends SimB B st.bk w ι where
  tmps : ∀ t, VRep (ctx B st.bk w ι) (st.tm t) (T.getD t undef)

end Go.Proofs.YtggofahhehkbbaaGreatDoor.Ev
