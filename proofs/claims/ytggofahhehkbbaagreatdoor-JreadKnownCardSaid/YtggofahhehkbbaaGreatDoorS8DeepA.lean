/- jread.Parse of one bracket too many. -/
import Derived.Test.YtggofahhehkbbaaGreatDoorS8Env
namespace Go.Proofs.YtggofahhehkbbaaGreatDoor.Ev
set_option autoImplicit false
def deepTextA : List UInt8 := List.replicate 33 91
def deepAnsA : Out := .ret [(true, [.p (.lit (.int .i64 0)), .p (.lit (.int .i64 0)), .p (.lit (.string (mkS []))), .nl, .nl]), (true, [.p (.lit (.int .i64 2)), .p (.lit (.int .i64 32)), .p (.lit (.int .i64 1)), .p (.lit (.int .i64 33))])]
set_option maxRecDepth 100000 in
theorem deepA (m : Int) : evFn (EM m) 100 11 [(false, [.p (.lit (.string (mkS deepTextA)))])] [] = some (deepAnsA, []) := by kernel_rfl
end Go.Proofs.YtggofahhehkbbaaGreatDoor.Ev
