/- The evaluator: translated Go code run over pure values. Definitions alone. -/
import Derived.Orders
import Derived.Laws.Sem
namespace Go.Proofs.YtggofahhehkbbaaGreatDoor.Ev
set_option autoImplicit false

/-- A cell of memory that nobody writes any more, by what it holds. -/
inductive PV where
  | lit (v : Value)
  | sl (es : List (List PV))
  | ppt (cs : List PV) (off : Nat)
  | ifc (t : TypeId) (agg : Bool) (cs : List PV)

/-- A cell of the running function. -/
inductive AV where
  | p (q : PV)
  | tsl (es : List (List PV))
  | nl
  | own (id ep : Nat)
  | ptr (id ep i off : Nat)
  | clo (fn : Fn) (first cap : List AV)
  | ifc (t : TypeId) (agg : Bool) (cs : List AV)
  | fresh (ty sz : Nat) (es : List (List PV))
  | mp (id : Nat)
  | dead

inductive AVal where
  | v (agg : Bool) (cs : List AV)
  | tup (vs : List (Bool × List AV))
  | undef

inductive Blk where
  | box (ty : Nat) (cs : List AV)
  | arr (ep ty sz : Nat) (fz : Bool) (es : List (List PV))
  | map (es : List (Value × Bool × List AV))
  | lent
  | gone

structure St where
  tm : Nat → AVal
  bk : Nat → Option Blk
  nx : Nat

inductive Out where
  | ret (rs : List (Bool × List AV))
  | pan (a : AV)

abbrev Args := List (Bool × List AV)
abbrev Boxes := List Blk
abbrev Res := Option (Out × Boxes)
abbrev Handler := Nat → Args → Boxes → Res

def upd {α : Type} (f : Nat → α) (k : Nat) (x : α) : Nat → α := fun t => bif Nat.beq t k then x else f t

def testB (b : Bool) (x y : Res) : Res := match b with | true => x | false => y

/-- A small program that reads the state and answers; it writes nothing. -/
inductive RM (α : Type) where
  | ret (a : α)
  | fail
  | tmp (n : Nat) (k : AVal → RM α)
  | blk (id : Nat) (k : Option Blk → RM α)
  | test (b : Bool) (k : Bool → RM α)

namespace RM
def bind {α β : Type} : RM α → (α → RM β) → RM β
  | .ret a, f => f a
  | .fail, _ => .fail
  | .tmp n k, f => .tmp n fun x => (k x).bind f
  | .blk i k, f => .blk i fun x => (k x).bind f
  | .test b k, f => .test b fun x => (k x).bind f
instance : Monad RM where
  pure := RM.ret
  bind := RM.bind

/-- What it answers, and what it read. -/
def run {α : Type} (st : St) : RM α → List Nat → List Nat → Option (α × List Nat × List Nat)
  | .ret a, tr, br => some (a, tr, br)
  | .fail, _, _ => none
  | .tmp n k, tr, br => (k (st.tm n)).run st (n :: tr) br
  | .blk i k, tr, br => (k (st.bk i)).run st tr (i :: br)
  | .test b k, tr, br => (k b).run st tr br

/-- The same, with what comes behind; a test parts the ways. -/
def runK {α : Type} (st : St) : RM α → (α → Res) → Res
  | .ret a, K => K a
  | .fail, _ => none
  | .tmp n k, K => (k (st.tm n)).runK st K
  | .blk i k, K => (k (st.bk i)).runK st K
  | .test b k, K => testB b ((k true).runK st K) ((k false).runK st K)

def runKL {α : Type} (st : St) : RM α → List Nat → List Nat → (α → List Nat → List Nat → Res) → Res
  | .ret a, tr, br, K => K a tr br
  | .fail, _, _, _ => none
  | .tmp n k, tr, br, K => (k (st.tm n)).runKL st (n :: tr) br K
  | .blk i k, tr, br, K => (k (st.bk i)).runKL st tr (i :: br) K
  | .test b k, tr, br, K => testB b ((k true).runKL st tr br K) ((k false).runKL st tr br K)

def getT (n : Nat) : RM AVal := .tmp n .ret
def getB (i : Nat) : RM (Option Blk) := .blk i .ret
def chk (b : Bool) : RM Unit := .test b fun x => match x with | true => .ret () | false => .fail
def ask (b : Bool) : RM Bool := .test b .ret
def ofOpt {α : Type} : Option α → RM α
  | some a => .ret a
  | none => .fail
end RM

/-! ### Types and constants -/
def tySize (P : Program) (t : TypeId) : Option Nat := match P.info? t with | some i => some i.size | none => none
def tyBytes (P : Program) (t : TypeId) : Option Nat := match P.info? t with | some i => some i.bytes | none => none
def tyAgg (P : Program) (t : TypeId) : Option Bool := match P.underlying t with
  | some (.struct _) | some (.array _ _) => some true
  | some _ => some false
  | none => none

def flatV : Value → Bool
  | .bool _ | .int _ _ | .float _ _ | .complex _ _ _ | .string _ | .pointer none | .map none | .chan none | .nilFunc | .nilIface => true
  | .func (.func _) f c => f.isEmpty && c.isEmpty
  | _ => false

/-- A constant's cell. -/
def constCell (v : Value) : Option AV :=
  match v with
  | .slice none 0 0 => some .nl
  | v => if flatV v then some (.p (.lit v)) else none

def constVal (v : Value) : Option AVal :=
  match v with
  | .agg cs => (cs.toList.mapM constCell).map (.v true)
  | .tuple cs => if cs.isEmpty then some (.tup []) else none
  | v => (constCell v).map fun c => .v false [c]

def zeroCells (P : Program) (t : TypeId) : Option (List AV) := match P.info? t with
  | some i => match i.zero with | some z => z.cells.toList.mapM constCell | none => none
  | none => none

def pureCell : AV → Option PV
  | .p q => some q
  | .tsl es => some (.sl es)
  | .nl => some (.sl [])
  | _ => none

/-- A nil slice is one of no element. -/
def unNl : AV → AV
  | .nl => .tsl []
  | a => a
def nlV : AVal → AVal
  | .v false [a] => .v false [unNl a]
  | x => x

/-! ### Writes -/
abbrev BW := List (Nat × Blk)

def BW.find (bw : BW) (id : Nat) : Option Blk :=
  match bw with
  | [] => none
  | (j, b) :: r => bif Nat.beq j id then some b else BW.find r id

/-- A block as it is behind what the operation itself has written (the last write stands first). -/
def getBO (bw : BW) (id : Nat) : RM (Option Blk) := match BW.find bw id with | some b => .ret (some b) | none => .getB id

inductive OpOut where
  | val (x : AVal) (bw : BW)
  | skip (bw : BW)
  | pan (a : AV) (bw : BW)

def St.setT (st : St) (d : Nat) (x : AVal) : St := { st with tm := upd st.tm d x }
def St.setBs (st : St) : BW → St
  | [] => st
  | (i, b) :: r => { (st.setBs r) with bk := upd (st.setBs r).bk i (some b) }

/-! ### Values made pure -/
mutual
def pureA (bw : BW) : AV → RM (PV × BW)
  | .p q => .ret (q, bw)
  | .tsl es => .ret (.sl es, bw)
  | .nl => .ret (.sl [], bw)
  | .own id ep => (getBO bw id).bind fun b => match b with
    | some (.arr ep' ty sz fz es) => (RM.chk (Nat.beq ep ep')).bind fun _ => match fz with
      | true => .ret (.sl es, bw)
      | false => .ret (.sl es, (id, .arr ep' ty sz true es) :: bw)
    | _ => .fail
  | .ifc t g cs => (pureL bw cs).bind fun (qs, bw) => .ret (.ifc t g qs, bw)
  | .clo fn [] [] => match fn with | .func f => .ret (.lit (.func (.func f) #[] #[]), bw) | _ => .fail
  | _ => .fail
def pureL (bw : BW) : List AV → RM (List PV × BW)
  | [] => .ret ([], bw)
  | a :: r => (pureA bw a).bind fun (q, bw) => (pureL bw r).bind fun (qs, bw) => .ret (q :: qs, bw)
end

/-! ### Crossing a call's border -/
mutual
def ptrIds : AV → List Nat
  | .ptr id _ _ _ => [id]
  | .mp id => [id]
  | .clo _ f c => ptrIdsL f ++ ptrIdsL c
  | .ifc _ _ cs => ptrIdsL cs
  | _ => []
def ptrIdsL : List AV → List Nat
  | [] => []
  | a :: r => ptrIds a ++ ptrIdsL r
end

def memN (n : Nat) : List Nat → Bool
  | [] => false
  | a :: r => Nat.beq a n || memN n r
def idxN (n : Nat) : List Nat → Nat → Option Nat
  | [], _ => none
  | a :: r, k => bif Nat.beq a n then some k else idxN n r (k + 1)

/-- The boxes that are reached from here, each once. -/
def reach (bw : BW) : Nat → List Nat → List Nat → RM (List Nat)
  | _, [], seen => .ret seen.reverse
  | 0, _ :: _, _ => .fail
  | n + 1, id :: r, seen => match memN id seen with
    | true => reach bw n r seen
    | false => (getBO bw id).bind fun b => match b with
      | some (.box _ cs) => reach bw n (r ++ ptrIdsL cs) (id :: seen)
      | some (.map es) => reach bw n (r ++ es.flatMap fun e => ptrIdsL e.2.2) (id :: seen)
      | _ => .fail

/- Out of the function: 'mv': what is owned goes along (a box's cell, a result), else it is made pure. 'tight': a slice without spare room stays so. -/
mutual
def extA (ids : List Nat) (mv tight : Bool) (bw : BW) : AV → RM (AV × BW)
  | .p q => .ret (.p q, bw)
  | .tsl es => match tight with | true => .ret (.tsl es, bw) | false => .ret (.p (.sl es), bw)
  | .nl => match mv with | true => .ret (.nl, bw) | false => .ret (.p (.sl []), bw)
  | .own id ep => (getBO bw id).bind fun b => match b with
    | some (.arr ep' ty sz fz es) => match Nat.beq ep ep' with
      | true => match fz with
        | true => .ret (.p (.sl es), bw)
        | false => match mv with
          | true => .ret (.fresh ty sz es, (id, .lent) :: bw)
          | false => .ret (.p (.sl es), (id, .arr ep' ty sz true es) :: bw)
      | false => match mv with | true => .ret (.dead, bw) | false => .fail
    | _ => match mv with | true => .ret (.dead, bw) | false => .fail
  | .ptr id ep i off => match ep, i, idxN id ids 0 with
    | 0, 0, some k => .ret (.ptr k 0 0 off, bw)
    | _, _, _ => .fail
  | .mp id => match idxN id ids 0 with
    | some k => .ret (.mp k, bw)
    | none => .fail
  | .clo fn f c => (extL ids false false bw f).bind fun (f', bw) => (extL ids false false bw c).bind fun (c', bw) => .ret (.clo fn f' c', bw)
  | .ifc t g cs => (extL ids false false bw cs).bind fun (cs', bw) => .ret (.ifc t g cs', bw)
  | .dead => .ret (.dead, bw)
  | _ => .fail
def extL (ids : List Nat) (mv tight : Bool) (bw : BW) : List AV → RM (List AV × BW)
  | [] => .ret ([], bw)
  | a :: r => (extA ids mv tight bw a).bind fun (x, bw) => (extL ids mv tight bw r).bind fun (xs, bw) => .ret (x :: xs, bw)
end

def extVs (ids : List Nat) (mv tight : Bool) (bw : BW) : List (Bool × List AV) → RM (List (Bool × List AV) × BW)
  | [] => .ret ([], bw)
  | (g, cs) :: r => (extL ids mv (tight && !g) bw cs).bind fun (xs, bw) => (extVs ids mv tight bw r).bind fun (ys, bw) => .ret ((g, xs) :: ys, bw)

def extEs (ids : List Nat) (bw : BW) : List (Value × Bool × List AV) → RM (List (Value × Bool × List AV) × BW)
  | [] => .ret ([], bw)
  | (k, g, cs) :: r => (extL ids true true bw cs).bind fun (xs, bw) => (extEs ids bw r).bind fun (ys, bw) => .ret ((k, g, xs) :: ys, bw)

def extBs (ids : List Nat) (bw : BW) : List Nat → RM (Boxes × BW)
  | [] => .ret ([], bw)
  | id :: r => (getBO bw id).bind fun b => match b with
    | some (.box ty cs) => (extL ids true true bw cs).bind fun (xs, bw) => (extBs ids bw r).bind fun (ys, bw) => .ret (.box ty xs :: ys, bw)
    | some (.map es) => (extEs ids bw es).bind fun (xs, bw) => (extBs ids bw r).bind fun (ys, bw) => .ret (.map xs :: ys, bw)
    | _ => .fail

/- Into the function: what is handed over as owned gets a number, from 'k' on. -/
mutual
def intA (ids : List Nat) (k : Nat) (bw : BW) : AV → Option (AV × Nat × BW)
  | .p q => some (.p q, k, bw)
  | .tsl es => some (.tsl es, k, bw)
  | .nl => some (.nl, k, bw)
  | .fresh ty sz es => some (.own k 0, k + 1, (k, .arr 0 ty sz false es) :: bw)
  | .mp i => match ids[i]? with
    | some id => some (.mp id, k, bw)
    | none => none
  | .ptr i ep j off => match ep, j, ids[i]? with
    | 0, 0, some id => some (.ptr id 0 0 off, k, bw)
    | _, _, _ => none
  | .clo fn f c => match intL ids k bw f with
    | some (f', k, bw) => match intL ids k bw c with
      | some (c', k, bw) => some (.clo fn f' c', k, bw)
      | none => none
    | none => none
  | .ifc t g cs => match intL ids k bw cs with
    | some (cs', k, bw) => some (.ifc t g cs', k, bw)
    | none => none
  | .dead => some (.dead, k, bw)
  | .own _ _ => none
def intL (ids : List Nat) (k : Nat) (bw : BW) : List AV → Option (List AV × Nat × BW)
  | [] => some ([], k, bw)
  | a :: r => match intA ids k bw a with
    | some (x, k, bw) => match intL ids k bw r with
      | some (xs, k, bw) => some (x :: xs, k, bw)
      | none => none
    | none => none
end

def intVs (ids : List Nat) (k : Nat) (bw : BW) : List (Bool × List AV) → Option (List (Bool × List AV) × Nat × BW)
  | [] => some ([], k, bw)
  | (g, cs) :: r => match intL ids k bw cs with
    | some (xs, k, bw) => match intVs ids k bw r with
      | some (ys, k, bw) => some ((g, xs) :: ys, k, bw)
      | none => none
    | none => none

def intEs (ids : List Nat) (k : Nat) (bw : BW) : List (Value × Bool × List AV) → Option (List (Value × Bool × List AV) × Nat × BW)
  | [] => some ([], k, bw)
  | (v, g, cs) :: r => match intL ids k bw cs with
    | some (xs, k, bw) => match intEs ids k bw r with
      | some (ys, k, bw) => some ((v, g, xs) :: ys, k, bw)
      | none => none
    | none => none

/-- Boxes in their places. -/
def intBs (ids : List Nat) (k : Nat) (bw : BW) : List Nat → Boxes → Option (Nat × BW)
  | [], [] => some (k, bw)
  | id :: r, .box ty cs :: bs => match intL ids k bw cs with
    | some (xs, k, bw) => intBs ids k ((id, .box ty xs) :: bw) r bs
    | none => none
  | id :: r, .map es :: bs => match intEs ids k bw es with
    | some (xs, k, bw) => intBs ids k ((id, .map xs) :: bw) r bs
    | none => none
  | _, _ => none

/-- What was lent for a call and did not come back. -/
def unlend : BW → BW
  | [] => []
  | (i, .lent) :: r => (i, .gone) :: unlend r
  | (i, b) :: r => (i, b) :: unlend r

def rangeL (a : Nat) : Nat → List Nat
  | 0 => []
  | n + 1 => a :: rangeL (a + 1) n

end Go.Proofs.YtggofahhehkbbaaGreatDoor.Ev
