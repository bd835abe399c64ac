/- The evaluator: regions, code, loops, functions. Definitions alone. -/
import Derived.Test.YtggofahhehkbbaaGreatDoorEvOps
namespace Go.Proofs.YtggofahhehkbbaaGreatDoor.Ev
set_option autoImplicit false

inductive X where
  | normal
  | exit (id : Nat)
  | ret
  | panic (a : AV)

def St.setD (st : St) (d : Option Nat) (x : AVal) : St := match d with | some d => st.setT d x | none => st
def boolV (b : Bool) : AVal := litV (.bool b)
def dstOf (ops : List Oper) (j : Nat) : Option Nat := match ops[j]? with | some o => o.dst | none => none

/-- One operation, no draw: a way for each outcome of what it asks. -/
def execK (E : Env) (h : Handler) (base : Nat) (o : Oper) (st : St) (K : X → St → Res) : Res :=
  match o.op with
  | .pick (.tmp t) a b => match st.tm t with
    | .v false [.p (.lit (.bool c))] => testB c
      ((opd E a).runK (st.setT t (boolV true)) fun x => K .normal ((st.setT t (boolV true)).setD o.dst x))
      ((opd E b).runK (st.setT t (boolV false)) fun x => K .normal ((st.setT t (boolV false)).setD o.dst x))
    | _ => none
  | _ => (opM E h base o).runK st fun out => match out with
    | .val x bw => K .normal ((st.setBs bw).setD o.dst x)
    | .skip bw => K .normal ((st.setBs bw).setD o.dst (.tup []))
    | .pan a bw => K (.panic a) { st.setBs bw with tm := fun _ => .undef }

/-- With its guard. -/
def guardK (ops : List Oper) (o : Oper) (st : St) (run skip : St → Res) : Res :=
  match o.guard with
  | none => run st
  | some (j, want) => match dstOf ops j with
    | some d => match st.tm d with
      | .v false [.p (.lit (.bool b))] => testB b
        (match want with | true => run (st.setT d (boolV true)) | false => skip (st.setT d (boolV true)))
        (match want with | true => skip (st.setT d (boolV false)) | false => run (st.setT d (boolV false)))
      | .tup [] => skip st
      | _ => none
    | none => none

def evOps (E : Env) (h : Handler) (base : Nat) (ops : List Oper) : List Oper → Nat → St → (X → St → Res) → Res
  | [], _, st, K => K .normal st
  | o :: r, i, st, K => guardK ops o st
    (fun st => execK E h (base + 64 * i) o st fun e st' => match e with
      | .normal => evOps E h base ops r (i + 1) st' K
      | e => K e st')
    (fun st => evOps E h base ops r (i + 1) (st.setD o.dst (.tup [])) K)

/-! ### A region that draws its order -/
structure Eff where
  tr : List Nat
  br : List Nat
  tw : List Nat
  bw : List Nat

def bwIds : BW → List Nat
  | [] => []
  | (i, _) :: r => i :: bwIds r
def optL : Option Nat → List Nat
  | some d => [d]
  | none => []

def execKL (E : Env) (h : Handler) (base : Nat) (o : Oper) (gr : List Nat) (st : St) (K : Eff → St → Option AV → Res) : Res :=
  match o.op with
  | .pick (.tmp t) a b => match st.tm t with
    | .v false [.p (.lit (.bool c))] => testB c
      ((opd E a).runKL (st.setT t (boolV true)) (t :: gr) [] fun x tr br => K ⟨tr, br, optL o.dst, []⟩ ((st.setT t (boolV true)).setD o.dst x) none)
      ((opd E b).runKL (st.setT t (boolV false)) (t :: gr) [] fun x tr br => K ⟨tr, br, optL o.dst, []⟩ ((st.setT t (boolV false)).setD o.dst x) none)
    | _ => none
  | _ => (opM E h base o).runKL st gr [] fun out tr br => match out with
    | .val x bw => K ⟨tr, br, optL o.dst, bwIds bw⟩ ((st.setBs bw).setD o.dst x) none
    | .skip bw => K ⟨tr, br, optL o.dst, bwIds bw⟩ ((st.setBs bw).setD o.dst (.tup [])) none
    | .pan a bw => K ⟨tr, br, [], bwIds bw⟩ (st.setBs bw) (some a)

def apartN (xs ys : List Nat) : Bool := match xs with
  | [] => true
  | x :: r => !memN x ys && apartN r ys

/-- Two operations that may come up in either order. -/
def Eff.apart (a b : Eff) : Bool :=
  apartN a.tw b.tr && apartN a.tw b.tw && apartN b.tw a.tr && apartN a.bw b.br && apartN a.bw b.bw && apartN b.bw a.br

/-- What must have come up before each operation, directly or not: as numbers' bits. -/
def beforeL : List Oper → List Nat → List Nat
  | [], acc => acc.reverse
  | o :: r, acc => beforeL r ((o.after.toList.foldl (fun m e => bif Region.binds .any e then m ||| (1 <<< e.on) ||| ((acc.reverse[e.on]?).getD 0) else m) 0) :: acc)

def edgesBack : List Oper → Nat → Bool
  | [], _ => true
  | o :: r, i => o.after.toList.all (fun e => !Region.binds .any e || Nat.blt e.on i) && edgesBack r (i + 1)

def apartAll (mask i : Nat) (e : Eff) : List Eff → Nat → Bool
  | [], _ => true
  | f :: r, j => (Nat.testBit mask j || Eff.apart f e) && apartAll mask i e r (j + 1)

def okEffs : List Nat → List Eff → List Eff → Nat → Bool
  | m :: ms, e :: es, done, i => apartAll m i e done 0 && okEffs ms es (done ++ [e]) (i + 1)
  | _, [], _, _ => true
  | [], _ :: _, _, _ => false

def grOf (ops : List Oper) (o : Oper) : List Nat := match o.guard with | some (j, _) => optL (dstOf ops j) | none => []
def noEff : Eff := ⟨[], [], [], []⟩

/-- 'ms': what must have come up before each operation that is still to come; 'pn': the operation that panics, if there is one: what must come behind it doesn't come up. -/
def evDraw (E : Env) (h : Handler) (base : Nat) (ops : List Oper) : List Oper → List Nat → Nat → St → List Eff → Option (Nat × AV) → (St → List Eff → Option (Nat × AV) → Res) → Res
  | [], _, _, st, es, pn, K => K st es pn
  | _ :: _, [], _, _, _, _, _ => none
  | o :: r, m :: ms, i, st, es, pn, K =>
    match (match pn with | some (j, _) => Nat.testBit m j | none => false) with
    | true => evDraw E h base ops r ms (i + 1) st (es ++ [noEff]) pn K
    | false =>
      guardK ops o st
        (fun st => execKL E h (base + 64 * i) o (grOf ops o) st fun e st' a => match a with
          | none => evDraw E h base ops r ms (i + 1) st' (es ++ [e]) pn K
          | some a => match pn with
            | none => evDraw E h base ops r ms (i + 1) st' (es ++ [e]) (some (i, a)) K
            | some _ => none)
        (fun st => evDraw E h base ops r ms (i + 1) (st.setD o.dst (.tup [])) (es ++ [⟨grOf ops o, [], optL o.dst, []⟩]) pn K)

/-- Nothing that may or may not have come up ahead of a panic has written a block. -/
def quietBut (m i : Nat) : List Eff → Nat → Bool
  | [], _ => true
  | e :: r, j => (Nat.beq j i || Nat.testBit m j || e.bw.isEmpty) && quietBut m i r (j + 1)

def St.wipe (st : St) : St := { st with tm := fun _ => .undef }

/-! ### At a loop's head: what is dead is forgotten, what lives gets its numbers anew -/
def mkT : List (Nat × AVal) → Nat → AVal
  | [], _ => .undef
  | (k, x) :: r, t => bif Nat.beq k t then x else mkT r t
def mkB : List Blk → Nat → Option Blk
  | [], _ => none
  | b :: _, 0 => some b
  | _ :: r, n + 1 => mkB r n

mutual
def refA (bk : Nat → Option Blk) : AV → List Nat
  | .own id ep => match bk id with
    | some (.arr ep' _ _ false _) => bif Nat.beq ep ep' then [id] else []
    | _ => []
  | .ptr id ep _ _ => match bk id with
    | some (.box _ _) => [id]
    | some (.arr ep' _ _ _ _) => bif Nat.beq ep ep' then [id] else []
    | _ => []
  | .mp id => match bk id with
    | some (.map _) => [id]
    | _ => []
  | .clo _ f c => refL bk f ++ refL bk c
  | .ifc _ _ cs => refL bk cs
  | _ => []
def refL (bk : Nat → Option Blk) : List AV → List Nat
  | [] => []
  | a :: r => refA bk a ++ refL bk r
end

def refV (bk : Nat → Option Blk) : AVal → List Nat
  | .v _ cs => refL bk cs
  | .tup vs => vs.flatMap fun x => refL bk x.2
  | .undef => []

/-- The numbers that live: 'n' steps. -/
def liveIds (bk : Nat → Option Blk) : Nat → List Nat → List Nat → List Nat
  | _, [], seen => seen.reverse
  | 0, _ :: _, seen => seen.reverse
  | n + 1, id :: r, seen => bif memN id seen then liveIds bk n r seen else match bk id with
    | some (.box _ cs) => liveIds bk n (r ++ refL bk cs) (id :: seen)
    | some (.arr _ _ _ _ _) => liveIds bk n r (id :: seen)
    | some (.map es) => liveIds bk n (r ++ es.flatMap fun e => refL bk e.2.2) (id :: seen)
    | _ => liveIds bk n r seen

mutual
def nrmA (bk : Nat → Option Blk) (ids : List Nat) : AV → AV
  | .p q => .p q
  | .tsl es => .tsl es
  | .nl => .nl
  | .own id ep => match bk id with
    | some (.arr ep' _ _ fz es) => bif Nat.beq ep ep' then (match fz with
      | true => .p (.sl es)
      | false => match idxN id ids 0 with | some k => .own k 0 | none => .dead) else .dead
    | _ => .dead
  | .ptr id ep i off => match bk id with
    | some (.box _ _) => match ep, i, idxN id ids 0 with | 0, 0, some k => .ptr k 0 0 off | _, _, _ => .dead
    | some (.arr ep' _ _ _ _) => bif Nat.beq ep ep' then (match idxN id ids 0 with | some k => .ptr k 0 i off | none => .dead) else .dead
    | _ => .dead
  | .mp id => match bk id, idxN id ids 0 with
    | some (.map _), some k => .mp k
    | _, _ => .dead
  | .clo fn f c => .clo fn (nrmL bk ids f) (nrmL bk ids c)
  | .ifc t g cs => .ifc t g (nrmL bk ids cs)
  | _ => .dead
def nrmL (bk : Nat → Option Blk) (ids : List Nat) : List AV → List AV
  | [] => []
  | a :: r => nrmA bk ids a :: nrmL bk ids r
end

def nrmV (bk : Nat → Option Blk) (ids : List Nat) : AVal → AVal
  | .v g cs => .v g (nrmL bk ids cs)
  | .tup vs => .tup (vs.map fun x => (x.1, nrmL bk ids x.2))
  | .undef => .undef

def nrmBlk (bk : Nat → Option Blk) (ids : List Nat) : Blk → Blk
  | .box ty cs => .box ty (nrmL bk ids cs)
  | .arr _ ty sz fz es => .arr 0 ty sz fz es
  | .map es => .map (es.map fun e => (e.1, e.2.1, nrmL bk ids e.2.2))
  | .lent => .gone
  | .gone => .gone

def nrmBs (bk : Nat → Option Blk) (ids : List Nat) : List Nat → List Blk
  | [] => []
  | id :: r => match bk id with
    | some b => nrmBlk bk ids b :: nrmBs bk ids r
    | none => .box 0 [] :: nrmBs bk ids r

/-- The list begins with a, a + 1, .., 'n' of them. -/
def pre (a : Nat) : Nat → List Nat → Bool
  | 0, _ => true
  | _ + 1, [] => false
  | n + 1, x :: r => Nat.beq x a && pre (a + 1) n r

def nrmSt (m : Nat) (live : List Nat) (st : St) : Option St :=
  let ids := liveIds st.bk 1000 (rangeL 0 m ++ live.flatMap fun t => refV st.bk (st.tm t)) []
  match pre 0 m ids with
  | true => some { tm := mkT (live.map fun t => (t, nrmV st.bk ids (st.tm t))), bk := mkB (nrmBs st.bk ids ids), nx := ids.length }
  | false => none

def evLoop (nrm : St → Option St) (body : St → (X → St → Res) → Res) : Nat → St → (X → St → Res) → Res
  | 0, _, _ => none
  | n + 1, st, K => match nrm st with
    | none => none
    | some st => body st fun e st' => match e with
      | .normal => evLoop nrm body n st' K
      | e => K e st'

/-! ### Code -/
def firstReg : Code → Option Nat
  | .region id _ _ => some id
  | .seq a b => match firstReg a with | some i => some i | none => firstReg b
  | .block _ c => firstReg c
  | .loop c => firstReg c
  | .scope c => firstReg c
  | _ => none

def nrmOf (E : Env) (f m : Nat) (c : Code) (st : St) : Option St := match firstReg c with
  | some r => match E.live f r with | some l => nrmSt m l st | none => some st
  | none => some st

def evCode (E : Env) (h : Handler) (fuel f m : Nat) : Code → St → (X → St → Res) → Res
  | .skip, st, K => K .normal st
  | .region _ ops draw, st, K => match draw with
    | false => evOps E h st.nx ops.toList ops.toList 0 st fun e st' => K e { st' with nx := st.nx + 64 * ops.toList.length }
    | true => evDraw E h st.nx ops.toList ops.toList (beforeL ops.toList []) 0 st [] none fun st' es pn =>
      match okEffs (beforeL ops.toList []) es [] 0 && edgesBack ops.toList 0 with
      | true => match pn with
        | none => K .normal { st' with nx := st.nx + 64 * ops.toList.length }
        | some (i, a) => match quietBut (((beforeL ops.toList [])[i]?).getD 0) i es 0 with
          | true => K (.panic a) { st' with tm := fun _ => .undef, nx := st.nx + 64 * ops.toList.length }
          | false => none
      | false => none
  | .seq a b, st, K => evCode E h fuel f m a st fun e st' => match e with
    | .normal => evCode E h fuel f m b st' K
    | e => K e st'
  | .cond c x y, st, K => match c with
    | .tmp n => match st.tm n with
      | .v false [.p (.lit (.bool b))] => testB b (evCode E h fuel f m x (st.setT n (boolV true)) K) (evCode E h fuel f m y (st.setT n (boolV false)) K)
      | _ => none
    | .const (.bool b) => match b with | true => evCode E h fuel f m x st K | false => evCode E h fuel f m y st K
    | _ => none
  | .block id c, st, K => evCode E h fuel f m c st fun e st' => match e with
    | .exit j => bif Nat.beq j id then K .normal st' else K (.exit j) st'
    | e => K e st'
  | .loop c, st, K => evLoop (nrmOf E f m c) (fun st K => evCode E h fuel f m c st K) fuel st K
  | .exit id, st, K => K (.exit id) st
  | .ret, st, K => K .ret st
  | _, _, _ => none

/-! ### Functions -/
def argT : List (Bool × List AV) → Nat → AVal
  | [], _ => .tup []
  | (g, cs) :: _, 0 => .v g cs
  | _ :: r, n + 1 => argT r n

def resultsM (P : Program) : List ResultVar → RM Args
  | [] => .ret []
  | .tmp t :: r => (RM.getT t).bind fun a => match a with
    | .v g cs => (resultsM P r).bind fun xs => .ret ((g, cs) :: xs)
    | _ => .fail
  | .cell a ty :: r => (RM.getT a).bind fun x => (asOne x).bind fun a => (loadM P ty a).bind fun x => match x with
    | .v g cs => (resultsM P r).bind fun xs => .ret ((g, cs) :: xs)
    | _ => .fail

/-- The end of a function: what it hands back, the boxes that were handed to it, and new ones that these lead to. -/
def leaveM (P : Program) (rs : List ResultVar) (m : Nat) : RM (Args × Boxes) :=
  (resultsM P rs).bind fun vs => (reach [] 64 (rangeL 0 m ++ vs.flatMap fun x => ptrIdsL x.2) []).bind fun ids =>
  (extVs ids true true [] vs).bind fun (vs, bw) => (extBs ids bw ids).bind fun (bs, _) => .ret (vs, bs)
def leaveP (m : Nat) (a : AV) : RM (AV × Boxes) :=
  (reach [] 64 (rangeL 0 m ++ ptrIds a) []).bind fun ids =>
  (extA ids true true [] a).bind fun (a, bw) => (extBs ids bw ids).bind fun (bs, _) => .ret (a, bs)

def enterSt (args : Args) (bxs : Boxes) : Option St :=
  match intVs (rangeL 0 bxs.length) bxs.length [] args with
  | some (as, k, bw) => match intBs (rangeL 0 bxs.length) k bw (rangeL 0 bxs.length) bxs with
    | some (k, bw) => some (St.setBs { tm := argT as, bk := fun _ => none, nx := k } bw)
    | none => none
  | none => none

def evBody (E : Env) (h : Handler) (fuel f : Nat) (args : Args) (bxs : Boxes) : Res :=
  match E.P.funcs[f]? with
  | some fn => match fn.body with
    | some c => match enterSt args bxs with
      | some st => (match Nat.ble args.length fn.ntmps with
        | false => none
        | true => evCode E h fuel f bxs.length c st fun e st => match e with
        | .normal => (leaveM E.P fn.results.toList bxs.length).runK st fun (vs, bs) => some (.ret vs, bs)
        | .ret => (leaveM E.P fn.results.toList bxs.length).runK st fun (vs, bs) => some (.ret vs, bs)
        | .panic a => (leaveP bxs.length a).runK st fun (a, bs) => some (.pan a, bs)
        | .exit _ => none)
      | none => none
    | none => none
  | none => none

def evFn (E : Env) : Nat → Handler
  | 0, _, _, _ => none
  | n + 1, f, args, bxs => match E.prim f with
    | some p => p args bxs
    | none => evBody E (evFn E n) n f args bxs

end Go.Proofs.YtggofahhehkbbaaGreatDoor.Ev
