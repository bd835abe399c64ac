/- Prims: what some functions of Go's library answer. Definitions alone. -/
import Derived.Test.YtggofahhehkbbaaGreatDoorEvRun
import Derived.Lib.Replace
import Derived.Lib.Strings
import Derived.Shelf.Small.Strs
namespace Go.Proofs.YtggofahhehkbbaaGreatDoor.Ev
set_option autoImplicit false

/-- slices.Clone: of an empty slice; else as its text runs. -/
def primClone (rest : Args → Boxes → Res) : Args → Boxes → Res := fun a b => match a, b with
  | [(false, [.p (.sl [])])], [] => some (.ret [(false, [.p (.sl [])])], [])
  | a, b => rest a b

/-- (*strings.Builder).copyCheck at a builder that is a block of its own. -/
def primCopyCheck (ty : Nat) : Args → Boxes → Res := fun a b => match a, b with
  | [(false, [.ptr 0 0 0 0])], [.box t [.p (.lit (.pointer none)), x]] => bif Nat.beq t ty then some (.ret [], [.box t [.ptr 0 0 0 0, x]]) else none
  | [(false, [.ptr 0 0 0 0])], [.box t [.ptr 0 0 0 0, x]] => bif Nat.beq t ty then some (.ret [], [.box t [.ptr 0 0 0 0, x]]) else none
  | _, _ => none

/-- (*strings.Builder).String. -/
def primBString (ty5 : Nat) : Args → Boxes → Res := fun a b => match a, b with
  | [(false, [.ptr 0 0 0 0])], [.box t [.ptr 0 0 0 0, .fresh ty _ (e :: es)]] => bif Nat.beq ty ty5 && (e :: es).all isU8 then some (.ret [(false, [.p (.lit (.string (mkS ((e :: es).map cellU8))))])], [.box t [.ptr 0 0 0 0, .p (.sl (e :: es))]]) else none
  | [(false, [.ptr 0 0 0 0])], [.box t [.ptr 0 0 0 0, .nl]] => some (.ret [(false, [.p (.lit (.string (mkS [])))])], [.box t [.ptr 0 0 0 0, .nl]])
  | [(false, [.ptr 0 0 0 0])], [.box t [.p (.lit (.pointer none)), .nl]] => some (.ret [(false, [.p (.lit (.string (mkS [])))])], [.box t [.p (.lit (.pointer none)), .nl]])
  | _, _ => none

/-- strings.ReplaceAll, at what is replaced not empty, at texts of a moderate length. -/
def primReplaceAll : Args → Boxes → Res := fun a b => match a, b with
  | [(false, [.p (.lit (.string x))]), (false, [.p (.lit (.string y))]), (false, [.p (.lit (.string z))])], [] =>
    bif Nat.ble 1 (lst y).length && Nat.ble (lst x).length 1000000 && Nat.ble (lst z).length 1000000 then some (.ret [(false, [.p (.lit (.string (mkS (Lib.replaceAll (lst x) (lst y) (lst z)))))])], []) else none
  | _, _ => none

/-- strings.Compare. -/
def primCompare : Args → Boxes → Res := fun a b => match a, b with
  | [(false, [.p (.lit (.string x))]), (false, [.p (.lit (.string y))])], [] => some (.ret [(false, [.p (.lit (.int .i64 (Lib.compareBytes (lst x) (lst y))))])], [])
  | _, _ => none
end Go.Proofs.YtggofahhehkbbaaGreatDoor.Ev
