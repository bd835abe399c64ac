/- The evaluator: operations, code, functions. Definitions alone. -/
import Derived.Test.YtggofahhehkbbaaGreatDoorEvCore
namespace Go.Proofs.YtggofahhehkbbaaGreatDoor.Ev
set_option autoImplicit false

structure Env where
  P : Program
  prim : Nat → Option (Args → Boxes → Res)
  live : Nat → Nat → Option (List Nat)
  glob : Nat → Option (List PV)
  md : Bool
  mv : Nat → Bool
  inpl : Nat → Option (List (List PV) → Args → Option (List (List PV)))

/-! ### Operands -/
def opd (E : Env) : Operand → RM AVal
  | .tmp t => .getT t
  | .const v => .ofOpt (constVal v)
  | .global g => match E.glob g with | some cs => .ret (.v false [.p (.ppt cs 0)]) | none => .fail
  | .func f => .ret (.v false [.clo (.func f) [] []])

def opds (E : Env) : List Operand → RM (List AVal)
  | [] => .ret []
  | x :: r => (opd E x).bind fun a => (opds E r).bind fun as => .ret (a :: as)

def asOne : AVal → RM AV
  | .v false [a] => .ret a
  | _ => .fail
def asCells : AVal → RM (List AV)
  | .v _ cs => .ret cs
  | _ => .fail
def asVs : List AVal → RM (List (Bool × List AV))
  | [] => .ret []
  | .v g cs :: r => (asVs r).bind fun xs => .ret ((g, cs) :: xs)
  | _ :: _ => .fail
def asLit : AVal → RM Value
  | .v false [.p (.lit x)] => .ret x
  | _ => .fail
def asI : AVal → RM (IntKind × Int)
  | .v false [.p (.lit (.int k n))] => .ret (k, n)
  | _ => .fail
def litV (x : Value) : AVal := .v false [.p (.lit x)]

/-! ### Texts -/
def lst (s : ByteArray) : List UInt8 := s.data.toList
def mkS (l : List UInt8) : ByteArray := ⟨⟨l⟩⟩

def maxI : Int := 9223372036854775807

/-! ### Numbers, texts, bools -/
def evBin (op : BinOp) (x y : Value) : RM Value :=
  match x, y with
  | .int k a, .int k' b => match op with
    | .shl => (RM.chk (decide (0 ≤ b))).bind fun _ => .ret (.int k (k.wrap (a * 2 ^ (min b.toNat k.bits))))
    | .shr => (RM.chk (decide (0 ≤ b))).bind fun _ => .ret (.int k (a.fdiv (2 ^ (min b.toNat k.bits))))
    | op => (RM.chk (decide (k = k'))).bind fun _ => match op with
      | .add => .ret (.int k (k.wrap (a + b)))
      | .sub => .ret (.int k (k.wrap (a - b)))
      | .mul => .ret (.int k (k.wrap (a * b)))
      | .quo => (RM.chk (!(decide (b = 0)))).bind fun _ => .ret (.int k (k.wrap (a.tdiv b)))
      | .rem => (RM.chk (!(decide (b = 0)))).bind fun _ => .ret (.int k (a.tmod b))
      | .and => .ret (.int k (k.wrap (BitVec.ofInt k.bits a &&& BitVec.ofInt k.bits b).toNat))
      | .or => .ret (.int k (k.wrap (BitVec.ofInt k.bits a ||| BitVec.ofInt k.bits b).toNat))
      | .xor => .ret (.int k (k.wrap (BitVec.ofInt k.bits a ^^^ BitVec.ofInt k.bits b).toNat))
      | .andNot => .ret (.int k (k.wrap (BitVec.ofInt k.bits a &&& ~~~(BitVec.ofInt k.bits b)).toNat))
      | .eql => .ret (.bool (decide (a = b)))
      | .neq => .ret (.bool (!decide (a = b)))
      | .lss => .ret (.bool (decide (a < b)))
      | .leq => .ret (.bool (decide (a ≤ b)))
      | .gtr => .ret (.bool (decide (b < a)))
      | .geq => .ret (.bool (decide (b ≤ a)))
      | _ => .fail
  | .string a, .string b => match op with
    | .add => (RM.chk (decide (((lst a).length + (lst b).length : Nat) ≤ 9223372036854775807))).bind fun _ => .ret (.string (mkS (lst a ++ lst b)))
    | .eql => .ret (.bool (lst a == lst b))
    | .neq => .ret (.bool (!(lst a == lst b)))
    | .lss => .ret (.bool (Op.bytesLess (lst a) (lst b)))
    | .leq => .ret (.bool (Op.bytesLess (lst a) (lst b) || lst a == lst b))
    | .gtr => .ret (.bool (!(Op.bytesLess (lst a) (lst b) || lst a == lst b)))
    | .geq => .ret (.bool (!Op.bytesLess (lst a) (lst b)))
    | _ => .fail
  | _, _ => .fail

def evUn (op : UnOp) (x : Value) : RM Value :=
  match op, x with
  | .neg, .int k n => .ret (.int k (k.wrap (0 - n)))
  | .xor, .int k n => .ret (.int k (k.wrap (BitVec.ofInt k.bits (if k.signed then -1 else k.max) ^^^ BitVec.ofInt k.bits n).toNat))
  | .not, .bool b => .ret (.bool !b)
  | _, _ => .fail

/-- A reference that is still one. -/
def livePtr (id ep i : Nat) : RM Unit := (RM.getB id).bind fun b => match b with
  | some (.box _ _) => RM.chk (Nat.beq ep 0 && Nat.beq i 0)
  | some (.arr ep' _ _ _ _) => RM.chk (Nat.beq ep ep')
  | _ => .fail
def liveSl (id ep : Nat) : RM Unit := (RM.getB id).bind fun b => match b with
  | some (.arr ep' _ _ _ _) => RM.chk (Nat.beq ep ep')
  | _ => .fail
def liveMap (id : Nat) : RM Unit := (RM.getB id).bind fun b => match b with
  | some (.map _) => .ret ()
  | _ => .fail

/-- Two cells of one plain type: alike? 'cy': the second is the literal nil. -/
def eqCell (cy : Bool) : TypeDesc → AV → AV → RM Bool
  | .bool, .p (.lit (.bool a)), .p (.lit (.bool b)) => .ret (a == b)
  | .int _, .p (.lit (.int k a)), .p (.lit (.int k' b)) => (RM.chk (decide (k = k'))).bind fun _ => .ret (decide (a = b))
  | .string, .p (.lit (.string a)), .p (.lit (.string b)) => .ret (lst a == lst b)
  | .pointer _, .p (.lit (.pointer none)), .p (.lit (.pointer none)) => .ret true
  | .pointer _, .p (.lit (.pointer none)), .ptr id ep i _ => (livePtr id ep i).bind fun _ => .ret false
  | .pointer _, .ptr id ep i _, .p (.lit (.pointer none)) => (livePtr id ep i).bind fun _ => .ret false
  | .pointer _, .p (.lit (.pointer none)), .p (.ppt _ _) => .ret false
  | .pointer _, .p (.ppt _ _), .p (.lit (.pointer none)) => .ret false
  | .slice _, .nl, .nl => .ret true
  | .slice _, .own id ep, .nl => (RM.chk cy).bind fun _ => (liveSl id ep).bind fun _ => .ret false
  | .slice _, .p (.sl es), .nl => (RM.chk (cy && !es.isEmpty)).bind fun _ => .ret false
  | .slice _, .tsl es, .nl => (RM.chk (cy && !es.isEmpty)).bind fun _ => .ret false
  | .interface _, .p (.lit .nilIface), .p (.lit .nilIface) => .ret true
  | .interface _, .ifc _ _ _, .p (.lit .nilIface) => .ret false
  | .interface _, .p (.ifc _ _ _), .p (.lit .nilIface) => .ret false
  | .interface _, .p (.lit .nilIface), .ifc _ _ _ => .ret false
  | .map _ _, .p (.lit (.map none)), .p (.lit (.map none)) => .ret true
  | .map _ _, .mp id, .p (.lit (.map none)) => (liveMap id).bind fun _ => .ret false
  | _, _, _ => .fail

/-- Fields of plain types. -/
def eqFields (P : Program) : List Field → List AV → List AV → RM Bool
  | [], _, _ => .ret true
  | f :: r, xs, ys => (RM.chk (!(f.name == "_"))).bind fun _ =>
    match P.underlying f.type, xs[f.offset]?, ys[f.offset]? with
    | some d, some x, some y => match d with
      | .struct _ | .array _ _ => .fail
      | .bool | .int _ | .string => (eqCell false d x y).bind fun b => (eqFields P r xs ys).bind fun c => .ret (b && c)
      | _ => .fail
    | _, _, _ => .fail

def evEq (E : Env) (cy : Bool) (t : TypeId) (x y : AVal) : RM Bool :=
  match x, y with
  | .v false [a], .v false [b] => match E.P.underlying t with
    | some d => eqCell cy d a b
    | none => .fail
  | .v true xs, .v true ys => match E.P.underlying t with
    | some (.struct fs) => (RM.chk (!E.P.stoodInHeld t)).bind fun _ => (RM.chk (!E.P.eqGuardType E.P.depth t)).bind fun _ => eqFields E.P fs.toList xs ys
    | _ => .fail
  | _, _ => .fail

def isNilConst : Operand → Bool
  | .const .nilIface => true
  | _ => false
def isNilSl : Operand → Bool
  | .const (.slice none 0 0) => true
  | _ => false

/-- Two nil values of an interface type: one of them is the literal. -/
def nilGuard (ox oy : Operand) (x y : AVal) : RM Unit :=
  match x, y with
  | .v false [.p (.lit .nilIface)], .v false [.p (.lit .nilIface)] => RM.chk (isNilConst ox || isNilConst oy)
  | _, _ => .ret ()

def evBinOp (E : Env) (op : BinOp) (t : TypeId) (ox oy : Operand) (x y : AVal) : RM AVal :=
  match x, y with
  | .v false [.p (.lit (.int k a))], .v false [.p (.lit (.int k' b))] => (evBin op (.int k a) (.int k' b)).bind fun r => .ret (litV r)
  | .v false [.p (.lit (.string a))], .v false [.p (.lit (.string b))] => (evBin op (.string a) (.string b)).bind fun r => .ret (litV r)
  | x, y => match op with
    | .eql => (nilGuard ox oy x y).bind fun _ => (evEq E (isNilSl oy) t x y).bind fun b => .ret (litV (.bool b))
    | .neq => (nilGuard ox oy x y).bind fun _ => (evEq E (isNilSl oy) t x y).bind fun b => .ret (litV (.bool (!b)))
    | _ => .fail

/-! ### Memory -/
/-- The cells of a variable at an address. -/
def loadM (P : Program) (t : TypeId) (a : AV) : RM AVal :=
  match tySize P t, tyAgg P t with
  | some n, some g =>
    let back (cs : List AV) : RM AVal := (RM.chk (Nat.beq cs.length n)).bind fun _ => match g with
      | true => .ret (.v true cs)
      | false => match cs with | [c] => .ret (.v false [c]) | _ => .fail
    match a with
    | .p (.ppt cs off) => back (((cs.drop off).take n).map .p)
    | .ptr id ep i off => (RM.getB id).bind fun b => match b with
      | some (.box _ cs) => match ep, i with
        | 0, 0 => back ((cs.drop off).take n)
        | _, _ => .fail
      | some (.arr ep' _ _ _ es) => (RM.chk (Nat.beq ep ep')).bind fun _ => match es[i]? with
        | some e => back (((e.drop off).take n).map .p)
        | none => .fail
      | _ => .fail
    | _ => .fail
  | _, _ => .fail

/-- A list with another part from a place on. -/
def splice {α : Type} (cs : List α) (off : Nat) (xs : List α) : List α := cs.take off ++ xs ++ cs.drop (off + xs.length)

def storeM (P : Program) (t : TypeId) (a : AV) (xs : List AV) : RM BW :=
  match tySize P t with
  | some n => (RM.chk (Nat.beq xs.length n)).bind fun _ => match a with
    | .ptr id ep i off => (RM.getB id).bind fun b => match b with
      | some (.box ty cs) => match ep, i with
        | 0, 0 => (RM.chk (Nat.ble (off + n) cs.length)).bind fun _ => .ret [(id, .box ty (splice cs off xs))]
        | _, _ => .fail
      | some (.arr ep' ty sz fz es) => (RM.chk (Nat.beq ep ep' && !fz)).bind fun _ => match es[i]? with
        | some e => (RM.chk (Nat.ble (off + n) sz)).bind fun _ => (pureL [] xs).bind fun (qs, bw) =>
          (RM.chk (BW.find bw id).isNone).bind fun _ => .ret ((id, .arr ep' ty sz fz (es.set i (splice e off qs))) :: bw)
        | none => .fail
      | _ => .fail
    | _ => .fail
  | none => .fail

def placeOf (P : Program) (s : TypeId) (f : Nat) : RM Nat := match P.underlying s with
  | some (.struct fs) => match fs[f]? with
    | some fl => match tySize P fl.type with
      | some (_ + 1) => .ret fl.offset
      | _ => .fail
    | none => .fail
  | _ => .fail

def fieldAddrM (P : Program) (s : TypeId) (f : Nat) (a : AV) : RM AV :=
  (placeOf P s f).bind fun k => match a with
    | .ptr id ep i off => (livePtr id ep i).bind fun _ => .ret (.ptr id ep i (off + k))
    | .p (.ppt cs off) => .ret (.p (.ppt cs (off + k)))
    | _ => .fail

/-- A slice's elements. -/
def elemsM (bw : BW) : AV → RM (List (List PV))
  | .p (.sl es) => .ret es
  | .tsl es => .ret es
  | .own id ep => (getBO bw id).bind fun b => match b with
    | some (.arr ep' _ _ _ es) => (RM.chk (Nat.beq ep ep')).bind fun _ => .ret es
    | _ => .fail
  | _ => .fail

def indexAddrM (P : Program) (t : TypeId) (a : AV) (n : Int) : RM AV :=
  match P.underlying t with
  | some (.slice e) => match tySize P e with
    | some sz => (RM.chk (decide (0 ≤ n))).bind fun _ => (elemsM [] a).bind fun es => match es[n.toNat]? with
      | some x => (RM.chk (Nat.beq x.length sz)).bind fun _ => match a with
        | .own id ep => .ret (.ptr id ep n.toNat 0)
        | _ => .ret (.p (.ppt x 0))
      | none => .fail
    | none => .fail
  | some (.array len e) => match tySize P e with
    | some (sz + 1) => (RM.chk (decide (0 ≤ n) && decide (n < len))).bind fun _ => match a with
      | .ptr id ep i off => (livePtr id ep i).bind fun _ => .ret (.ptr id ep i (off + n.toNat * (sz + 1)))
      | .p (.ppt cs off) => .ret (.p (.ppt cs (off + n.toNat * (sz + 1))))
      | _ => .fail
    | _ => .fail
  | _ => .fail

def indexM (P : Program) (t : TypeId) (x : AVal) (n : Int) : RM AVal :=
  match P.underlying t with
  | some .string => match x with
    | .v false [.p (.lit (.string s))] => (RM.chk (decide (0 ≤ n))).bind fun _ => match (lst s)[n.toNat]? with
      | some b => .ret (litV (.int .u8 b.toNat))
      | none => .fail
    | _ => .fail
  | some (.array len e) => match tySize P e, tyAgg P e, x with
    | some sz, some g, .v true cs => (RM.chk (decide (0 ≤ n) && decide (n < len))).bind fun _ =>
      let ds := (cs.drop (n.toNat * sz)).take sz
      (RM.chk (Nat.beq ds.length sz)).bind fun _ => match g with
        | true => .ret (.v true ds)
        | false => match ds with | [c] => .ret (.v false [c]) | _ => .fail
    | _, _, _ => .fail
  | _ => .fail

def fieldM (P : Program) (t : TypeId) (x : AVal) (f : Nat) : RM AVal :=
  match P.underlying t with
  | some (.struct fs) => match fs[f]? with
    | some fl => match tySize P fl.type, tyAgg P fl.type, x with
      | some sz, some g, .v true cs =>
        let ds := (cs.drop fl.offset).take sz
        (RM.chk (Nat.beq ds.length sz)).bind fun _ => match g with
          | true => .ret (.v true ds)
          | false => match ds with | [c] => .ret (.v false [c]) | _ => .fail
      | _, _, _ => .fail
    | none => .fail
  | _ => .fail

/-- Where a struct's or an array's parts lie, filled in. -/
def fillC (P : Program) (t : TypeId) : List AV → List (Nat × List AV) → RM (List AV)
  | cs, [] => .ret cs
  | cs, (i, xs) :: r =>
    let go (off size : Nat) : RM (List AV) := (RM.chk (Nat.beq xs.length size && Nat.ble (off + size) cs.length)).bind fun _ => fillC P t (splice cs off xs) r
    match P.underlying t with
    | some (.struct fs) => match fs[i]? with
      | some fl => match tySize P fl.type with | some size => go fl.offset size | none => .fail
      | none => .fail
    | some (.array _ e) => match tySize P e with | some size => go (i * size) size | none => .fail
    | _ => .fail

def fieldsOk (P : Program) (t : TypeId) : Bool := match P.underlying t with
  | some (.struct fs) => fs.toList.all fun f => (tySize P f.type).isSome
  | some (.array _ e) => (tySize P e).isSome
  | _ => false

def fillE (sz : Nat) : List (List PV) → List (Nat × List PV) → RM (List (List PV))
  | es, [] => .ret es
  | es, (i, xs) :: r => (RM.chk (Nat.beq xs.length sz && Nat.blt i es.length)).bind fun _ => fillE sz (es.set i xs) r

def partsM (E : Env) : List (Nat × Operand) → RM (List (Nat × List AV))
  | [] => .ret []
  | (i, x) :: r => (opd E x).bind fun a => (asCells a).bind fun cs => (partsM E r).bind fun ps => .ret ((i, cs) :: ps)

def pureParts (bw : BW) : List (Nat × List AV) → RM (List (Nat × List PV) × BW)
  | [] => .ret ([], bw)
  | (i, cs) :: r => (pureL bw cs).bind fun (qs, bw) => (pureParts bw r).bind fun (ps, bw) => .ret ((i, qs) :: ps, bw)

/-- A new block's number is free. -/
def freeId (bw : BW) (id : Nat) : RM Unit := (getBO bw id).bind fun b => match b with | none => .ret () | some _ => .fail

def pureCells : List AV → Option (List PV)
  | [] => some []
  | a :: r => match pureCell a, pureCells r with | some q, some qs => some (q :: qs) | _, _ => none

def zeroE (P : Program) (t : TypeId) : Option (List PV) := match zeroCells P t with | some cs => pureCells cs | none => none

def room : Nat := 140737488355328

/-! ### Slicing -/
def optI (E : Env) : Option Operand → RM (Option Int)
  | none => .ret none
  | some x => (opd E x).bind fun a => (asI a).bind fun (_, n) => .ret (some n)

def sliceM (P : Program) (t : TypeId) (x : AVal) (lo hi mx : Option Int) : RM (AVal × BW) :=
  match P.underlying t with
  | some .string => match x, mx with
    | .v false [.p (.lit (.string s))], none =>
      let h : Int := hi.getD ((lst s).length : Int)
      let l : Int := lo.getD 0
      (RM.chk (decide (0 ≤ l) && decide (l ≤ h) && decide (h ≤ (lst s).length))).bind fun _ =>
        .ret (litV (.string (mkS (((lst s).take h.toNat).drop l.toNat))), [])
    | _, _ => .fail
  | some (.slice e) => match x, tySize P e with
    | .v false [a], some sz =>
      (elemsM [] a).bind fun es =>
      let h : Int := hi.getD (es.length : Int)
      let l : Int := lo.getD 0
      (RM.chk (decide (0 ≤ l) && decide (l ≤ h) && decide (h ≤ es.length))).bind fun _ =>
      (pureA [] a).bind fun (_, bw) =>
      let r := (es.take h.toNat).drop l.toNat
      (RM.chk (decide (l = 0) || es.all fun y => Nat.beq y.length sz)).bind fun _ =>
      match mx with
      | some m => match hi with
        | some _ => (RM.chk (decide (h ≤ m) && decide (m ≤ h))).bind fun _ => .ret (.v false [.tsl r], bw)
        | none => .fail
      | none => match a, hi with
        | .tsl _, none => .ret (.v false [.tsl r], bw)
        | _, _ => .ret (.v false [.p (.sl r)], bw)
    | _, _ => .fail
  | _ => .fail

/-! ### Conversions -/
def isU8 : List PV → Bool
  | [.lit (.int .u8 n)] => decide (0 ≤ n) && decide (n ≤ 255)
  | _ => false
def cellU8 : List PV → UInt8
  | [.lit (.int .u8 n)] => UInt8.ofNat n.toNat
  | _ => 0
def u8Cell (b : UInt8) : List PV := [.lit (.int .u8 b.toNat)]

def convertM (P : Program) (base : Nat) (src dst : TypeId) (x : AVal) : RM (AVal × BW) :=
  match P.underlying src, P.underlying dst with
  | some s, some d => match d, x with
    | .int k, .v false [.p (.lit (.int _ n))] => .ret (litV (.int k (k.wrap n)), [])
    | .string, .v false [.p (.lit (.string b))] => .ret (litV (.string b), [])
    | .slice e, .v false [.p (.lit (.string b))] => match s, P.underlying e with
      | .string, some (.int .u8) => (freeId [] base).bind fun _ => (RM.chk (decide ((lst b).length ≤ 9223372036854775807))).bind fun _ => .ret (.v false [.own base 0], [(base, .arr 0 e 1 false ((lst b).map u8Cell))])
      | _, _ => .fail
    | .string, .v false [a] => match s with
      | .slice e => match P.underlying e with
        | some (.int .u8) => (elemsM [] a).bind fun es => (RM.chk (es.all isU8)).bind fun _ => .ret (litV (.string (mkS (es.map cellU8))), [])
        | _ => .fail
      | _ => .fail
    | _, _ => .fail
  | _, _ => .fail

/-! ### Maps -/
def keyEq : Value → Value → RM Bool
  | .int k a, .int k' b => (RM.chk (decide (k = k'))).bind fun _ => .ret (decide (a = b))
  | .string a, .string b => .ret (lst a == lst b)
  | _, _ => .fail

def zeroV (P : Program) (t : TypeId) : Option (Bool × List AV) := match P.info? t with
  | some i => match i.zero with
    | some z => match constVal z with | some (.v g cs) => some (g, cs) | _ => none
    | none => none
  | none => none

def mapFind (k : Value) : List (Value × Bool × List AV) → Nat → RM (Option (Nat × Bool × List AV))
  | [], _ => .ret none
  | (k', g, cs) :: r, i => (keyEq k k').bind fun b => (RM.ask b).bind fun b => match b with
    | true => .ret (some (i, g, cs))
    | false => mapFind k r (i + 1)

def keyOk (P : Program) (t : TypeId) (k : Value) : RM Unit := match P.underlying t, k with
  | some (.int _), .int _ _ => .ret ()
  | some .string, .string _ => .ret ()
  | _, _ => .fail

def mapEs : AV → RM (List (Value × Bool × List AV))
  | .p (.lit (.map none)) => .ret []
  | .mp id => (RM.getB id).bind fun b => match b with
    | some (.map es) => .ret es
    | _ => .fail
  | _ => .fail

def lookupM (P : Program) (t : TypeId) (m : AV) (k : Value) (ok : Bool) : RM AVal :=
  match P.underlying t with
  | some (.map kt et) => (keyOk P kt k).bind fun _ => match zeroV P et with
    | some (g, z) => (mapEs m).bind fun es => (mapFind k es 0).bind fun r => match r with
      | some (_, g', cs) => (RM.chk (g == g')).bind fun _ => .ret (match ok with | true => .tup [(g, cs), (false, [.p (.lit (.bool true))])] | false => .v g cs)
      | none => .ret (match ok with | true => .tup [(g, z), (false, [.p (.lit (.bool false))])] | false => .v g z)
    | none => .fail
  | _ => .fail

def mapUpdM (P : Program) (t : TypeId) (m : AV) (k : Value) (g : Bool) (cs : List AV) : RM BW :=
  match P.underlying t, m with
  | some (.map kt et), .mp id => (keyOk P kt k).bind fun _ => match tyAgg P et with
    | some g' => (RM.chk (g == g')).bind fun _ => (mapEs m).bind fun es => (mapFind k es 0).bind fun r => match r with
      | some (i, _) => .ret [(id, .map (es.set i (k, g, cs)))]
      | none => .ret [(id, .map (es ++ [(k, g, cs)]))]
    | none => .fail
  | _, _ => .fail

/-! ### Builtins -/
def lenM (P : Program) (t : TypeId) (x : AVal) : RM AVal :=
  match P.underlying t with
  | some .string => match x with
    | .v false [.p (.lit (.string s))] => .ret (litV (.int .i64 (lst s).length))
    | _ => .fail
  | some (.array n _) => .ret (litV (.int .i64 n))
  | some (.slice _) => match x with
    | .v false [a] => (elemsM [] a).bind fun es => .ret (litV (.int .i64 es.length))
    | _ => .fail
  | some (.map _ _) => match x with
    | .v false [a] => (mapEs a).bind fun es => .ret (litV (.int .i64 es.length))
    | _ => .fail
  | _ => .fail

def capM (P : Program) (t : TypeId) (x : AVal) : RM AVal :=
  match P.underlying t with
  | some (.array n _) => .ret (litV (.int .i64 n))
  | some (.slice _) => match x with
    | .v false [.tsl es] => .ret (litV (.int .i64 es.length))
    | _ => .fail
  | _ => .fail

/-- What is appended. -/
def srcM (sz : Nat) : AVal → RM (List (List PV))
  | .v false [.p (.lit (.string b))] => (RM.chk (Nat.beq sz 0)).bind fun _ => .ret ((lst b).map u8Cell)
  | .v false [y] => elemsM [] y
  | _ => .fail

def zeroOk (P : Program) (e : TypeId) (sz : Nat) : Bool := match P.info? e with
  | some i => match i.zero with | some z => Nat.beq z.cells.size sz | none => false
  | none => false

def appendM (P : Program) (base : Nat) (t : TypeId) (s x : AVal) : RM (AVal × BW) :=
  match P.underlying t with
  | some (.slice e) => match tySize P e, tyBytes P e, s with
    | some (sz + 1), some (by_ + 1), .v false [a] =>
      (RM.chk (zeroOk P e (sz + 1))).bind fun _ => (srcM sz x).bind fun ys => match a with
      | .own id ep => (RM.getB id).bind fun b => match b with
        | some (.arr ep' ty sz' fz es) => (RM.chk (Nat.beq ep ep' && !fz && Nat.beq sz' (sz + 1) && Nat.beq ty e)).bind fun _ =>
          (RM.chk (decide ((es.length + ys.length) * (by_ + 1) ≤ room))).bind fun _ =>
          (RM.chk (ys.all fun y => Nat.beq y.length (sz + 1))).bind fun _ =>
          .ret (.v false [.own id (ep + 1)], [(id, .arr (ep + 1) ty sz' fz (es ++ ys))])
        | _ => .fail
      | .tsl es => (RM.ask ys.isEmpty).bind fun b => match b with
        | true => .ret (.v false [.tsl es], [])
        | false => (freeId [] base).bind fun _ => (RM.chk (decide ((es.length + ys.length) * (by_ + 1) ≤ room))).bind fun _ =>
          (RM.chk ((es ++ ys).all fun y => Nat.beq y.length (sz + 1))).bind fun _ =>
          .ret (.v false [.own base 0], [(base, .arr 0 e (sz + 1) false (es ++ ys))])
      | .p (.sl es) => (RM.chk ys.isEmpty).bind fun _ => .ret (.v false [.p (.sl es)], [])
      | _ => .fail
    | _, _, _ => .fail
  | _ => .fail

def minM : List AVal → RM AVal
  | [.v false [.p (.lit (.int k x))], .v false [.p (.lit (.int k' y))]] => (RM.chk (decide (k = k'))).bind fun _ => .ret (litV (.int k (if y < x then y else x)))
  | _ => .fail
def maxM : List AVal → RM AVal
  | [.v false [.p (.lit (.int k x))], .v false [.p (.lit (.int k' y))]] => (RM.chk (decide (k = k'))).bind fun _ => .ret (litV (.int k (if x < y then y else x)))
  | _ => .fail

def makeSliceM (P : Program) (base : Nat) (t : TypeId) (l c : Int) : RM (AVal × BW) :=
  match P.underlying t with
  | some (.slice e) => match tySize P e, tyBytes P e, zeroE P e with
    | some (sz + 1), some (by_ + 1), some z =>
      (RM.chk (decide (0 ≤ l) && decide (l ≤ c) && decide (c.toNat * (by_ + 1) ≤ room) && Nat.beq z.length (sz + 1))).bind fun _ =>
      (freeId [] base).bind fun _ => .ret (.v false [.own base 0], [(base, .arr 0 e (sz + 1) false (List.replicate l.toNat z))])
    | _, _, _ => .fail
  | _ => .fail

/-! ### Calls -/
def retV : List (Bool × List AV) → AVal
  | [(g, cs)] => .v g cs
  | rs => .tup rs

def freeRange (bw : BW) (k : Nat) : Nat → RM Unit
  | 0 => .ret ()
  | n + 1 => (freeId bw k).bind fun _ => freeRange bw (k + 1) n

/-- What a call hands back, taken in: the boxes 'ids', new ones behind them, from 'base' on. -/
def takeM (base : Nat) (ids : List Nat) (bw : BW) (out : Out) (bs : Boxes) : RM OpOut :=
  let n := bs.length - ids.length
  let ids' := ids ++ rangeL base n
  match out with
  | .ret rs => match intVs ids' (base + n) bw rs with
    | some (rs', k, bw') => match intBs ids' k bw' ids' bs with
      | some (k', bw') => (freeRange bw base (k' - base)).bind fun _ => .ret (.val (retV rs') bw')
      | none => .fail
    | none => .fail
  | .pan a => match intA ids' (base + n) bw a with
    | some (a', k, bw') => match intBs ids' k bw' ids' bs with
      | some (k', bw') => (freeRange bw base (k' - base)).bind fun _ => .ret (.pan a' bw')
      | none => .fail
    | none => .fail

def callM (h : Handler) (mv : Bool) (base : Nat) (g : Nat) (args : Args) : RM OpOut :=
  (reach [] 64 (args.flatMap fun x => ptrIdsL x.2) []).bind fun ids =>
  (extVs ids mv false [] args).bind fun (as, bw) =>
  (extBs ids bw ids).bind fun (bs, bw) =>
  match h g as bs with
  | some (out, bs') => takeM base ids (unlend bw) out bs'
  | none => .fail

/-- A callee that rewrites its first argument's cells. -/
def inplM (p : List (List PV) → Args → Option (List (List PV))) (args : Args) : RM OpOut :=
  match args with
  | (false, [a]) :: rest => (extVs [] false false [] rest).bind fun (rest', bw) => (RM.chk bw.isEmpty).bind fun _ => match unNl a with
    | .own id ep => (RM.getB id).bind fun b => match b with
      | some (.arr ep' ty sz fz es) => (RM.chk (Nat.beq ep ep' && !fz)).bind fun _ => match p es rest' with
        | some es' => .ret (.val (.tup []) [(id, .arr ep' ty sz false es')])
        | none => .fail
      | _ => .fail
    | .p (.sl []) => match p [] rest' with
      | some _ => .ret (.val (.tup []) [])
      | none => .fail
    | .tsl [] => match p [] rest' with
      | some _ => .ret (.val (.tup []) [])
      | none => .fail
    | _ => .fail
  | _ => .fail

def callG (E : Env) (h : Handler) (base : Nat) (g : Nat) (args : Args) : RM OpOut := match E.inpl g with
  | some p => inplM p args
  | none => callM h (E.mv g) base g args

def calleeM : AV → RM (Nat × List AV × List AV)
  | .clo (.func g) f c => .ret (g, f, c)
  | .p (.lit (.func (.func g) f c)) => (RM.chk (f.isEmpty && c.isEmpty)).bind fun _ => .ret (g, [], [])
  | _ => .fail

def allOnes : List AVal → RM (List AV)
  | [] => .ret []
  | .v false [a] :: r => (allOnes r).bind fun as => .ret (a :: as)
  | _ :: _ => .fail

/-! ### Operations -/
def val (x : RM AVal) : RM OpOut := x.bind fun a => .ret (.val a [])
def valW (x : RM (AVal × BW)) : RM OpOut := x.bind fun (a, bw) => .ret (.val a bw)

/-- An interface's value that is pure, cell by cell. -/
def unIfc : AV → AV
  | .p (.ifc t g cs) => .ifc t g (cs.map .p)
  | a => a

/-- All new numbers of an operation are free: 'n' from 'base' on. -/
def opM (E : Env) (h : Handler) (base : Nat) (o : Oper) : RM OpOut :=
  match o.op with
  | .move x | .assign x => val (opd E x)
  | .alloc t => (RM.ofOpt (zeroCells E.P t)).bind fun cs => (freeId [] base).bind fun _ => .ret (.val (.v false [.ptr base 0 0 0]) [(base, .box t cs)])
  | .box t x => (opd E x).bind fun a => (asCells a).bind fun cs => (freeId [] base).bind fun _ => .ret (.val (.v false [.ptr base 0 0 0]) [(base, .box t cs)])
  | .build t parts => (RM.chk (fieldsOk E.P t)).bind fun _ => (RM.ofOpt (zeroCells E.P t)).bind fun z => (partsM E parts.toList).bind fun ps => (fillC E.P t z ps).bind fun cs => .ret (.val (.v true cs) [])
  | .buildSlice t len parts => match E.P.underlying t with
    | some (.slice e) => match tySize E.P e, zeroE E.P e with
      | some (sz + 1), some z => (RM.chk (Nat.beq z.length (sz + 1) && Nat.ble (len * (sz + 1)) 16777216)).bind fun _ =>
        (partsM E parts.toList).bind fun ps => (pureParts [] ps).bind fun (qs, bw) => (fillE (sz + 1) (List.replicate len z) qs).bind fun es =>
        match len with
        | 0 => .ret (.val (.v false [.tsl es]) bw)
        | _ + 1 => (freeId bw base).bind fun _ => .ret (.val (.v false [.own base 0]) ((base, .arr 0 e (sz + 1) false es) :: bw))
      | _, _ => .fail
    | _ => .fail
  | .load t a => val ((opd E a).bind fun x => (asOne x).bind fun a => loadM E.P t a)
  | .store t a x => (opd E a).bind fun a => (asOne a).bind fun a => (opd E x).bind fun x => (asCells x).bind fun xs => (storeM E.P t a xs).bind fun bw => .ret (.skip bw)
  | .nilCheck x => val ((opd E x).bind fun a => (asOne a).bind fun a => match a with
    | .ptr id ep i off => (livePtr id ep i).bind fun _ => .ret (.v false [.ptr id ep i off])
    | .p (.ppt cs off) => .ret (.v false [.p (.ppt cs off)])
    | .clo (.func g) f c => .ret (.v false [.clo (.func g) f c])
    | _ => .fail)
  | .binOp op t x y _ => val ((opd E x).bind fun a => (opd E y).bind fun b => evBinOp E op t x y a b)
  | .unOp op _ x => val ((opd E x).bind fun a => (asLit a).bind fun v => (evUn op v).bind fun r => .ret (litV r))
  | .convert s d x => valW ((opd E x).bind fun a => convertM E.P base s d (nlV a))
  | .makeInterface t x => val ((opd E x).bind fun a => match E.P.underlying t, a with
    | some (.interface _), _ => .fail
    | some _, .v g cs => .ret (.v false [.ifc t g cs])
    | _, _ => .fail)
  | .makeFunc fn first cap => val ((opds E first.toList).bind fun f => (allOnes f).bind fun f => (opds E cap.toList).bind fun c => (allOnes c).bind fun c => .ret (.v false [.clo fn f c]))
  | .makeSlice t l c => valW ((opd E l).bind fun l => (asI l).bind fun (_, l) => (opd E c).bind fun c => (asI c).bind fun (_, c) => makeSliceM E.P base t l c)
  | .slice t x lo hi mx => valW ((opd E x).bind fun a => (optI E lo).bind fun lo => (optI E hi).bind fun hi => (optI E mx).bind fun mx => sliceM E.P t (nlV a) lo hi mx)
  | .fieldAddr s x f => val ((opd E x).bind fun a => (asOne a).bind fun a => (fieldAddrM E.P s f a).bind fun r => .ret (.v false [r]))
  | .field t x f => val ((opd E x).bind fun a => fieldM E.P t a f)
  | .indexAddr t x i => val ((opd E x).bind fun a => (asOne a).bind fun a => (opd E i).bind fun i => (asI i).bind fun (_, n) => (indexAddrM E.P t (unNl a) n).bind fun r => .ret (.v false [r]))
  | .index t x i => val ((opd E x).bind fun a => (opd E i).bind fun i => (asI i).bind fun (_, n) => indexM E.P t a n)
  | .extract x k => val ((opd E x).bind fun a => match a with
    | .tup vs => match vs[k]? with | some (g, cs) => .ret (.v g cs) | none => .fail
    | _ => .fail)
  | .makeMap _ r => match r with
    | none => (freeId [] base).bind fun _ => .ret (.val (.v false [.mp base]) [(base, .map [])])
    | some _ => .fail
  | .lookup t x i ok => val ((opd E x).bind fun m => (asOne m).bind fun m => (opd E i).bind fun i => (asLit i).bind fun k => lookupM E.P t m k ok)
  | .mapUpdate t m k x => (opd E m).bind fun m => (asOne m).bind fun m => (opd E k).bind fun k => (asLit k).bind fun k => (opd E x).bind fun x => match x with
    | .v g cs => (mapUpdM E.P t m k g cs).bind fun bw => .ret (.skip bw)
    | _ => .fail
  | .typeAssert x _ t ok => val ((opd E x).bind fun a => (asOne a).bind fun a => match E.P.underlying t, unIfc a with
    | some (.interface _), _ => .fail
    | some _, .p (.lit .nilIface) => match ok, zeroV E.P t with
      | true, some (g, z) => .ret (.tup [(g, z), (false, [.p (.lit (.bool false))])])
      | _, _ => .fail
    | some _, .ifc t' g cs => match Nat.beq t' t with
      | true => .ret (match ok with | true => .tup [(g, cs), (false, [.p (.lit (.bool true))])] | false => .v g cs)
      | false => match ok, zeroV E.P t with
        | true, some (g, z) => .ret (.tup [(g, z), (false, [.p (.lit (.bool false))])])
        | _, _ => .fail
    | _, _ => .fail)
  | .panic x => (opd E x).bind fun a => (asOne a).bind fun a => match unIfc a with
    | .ifc t g cs => .ret (.pan (.ifc t g cs) [])
    | _ => .fail
  | .call c => match c.callee with
    | .builtin b => match b, c.args.toList, c.argTypes.toList with
      | .len, [x], [t] => val ((opd E x).bind fun a => lenM E.P t (nlV a))
      | .cap, [x], [t] => val ((opd E x).bind fun a => capM E.P t (nlV a))
      | .append, [s, x], [t, t'] => (RM.chk (match E.P.underlying t' with | some (.int _) => false | some _ => true | none => false)).bind fun _ => valW ((opd E s).bind fun s => (opd E x).bind fun x => appendM E.P base t (nlV s) (nlV x))
      | .min, xs, _ => val ((opds E xs).bind minM)
      | .max, xs, _ => val ((opds E xs).bind maxM)
      | _, _, _ => .fail
    | .value f => (opd E f).bind fun fv => (asOne fv).bind fun fv => (calleeM fv).bind fun (g, first, cap) =>
      (opds E c.args.toList).bind fun as => (asVs as).bind fun args =>
      callG E h base g (first.map (fun a => (false, [a])) ++ args ++ cap.map (fun a => (false, [a])))
    | .invoke _ _ => .fail
  | _ => .fail

end Go.Proofs.YtggofahhehkbbaaGreatDoor.Ev
