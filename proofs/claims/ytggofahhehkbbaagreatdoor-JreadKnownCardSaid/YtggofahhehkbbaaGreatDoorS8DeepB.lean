/- jread.Parse of brackets that do not end. -/
import Derived.Test.YtggofahhehkbbaaGreatDoorS8Env
namespace Go.Proofs.YtggofahhehkbbaaGreatDoor.Ev
set_option autoImplicit false
def deepTextB : List UInt8 := List.replicate 32 91 ++ [93]
def deepAnsB : Out := .ret [(true, [.p (.lit (.int .i64 0)), .p (.lit (.int .i64 0)), .p (.lit (.string (mkS []))), .nl, .nl]), (true, [.p (.lit (.int .i64 4)), .p (.lit (.int .i64 33)), .p (.lit (.int .i64 1)), .p (.lit (.int .i64 34))])]
set_option maxRecDepth 100000 in
theorem deepB (m : Int) : evFn (EM m) 100 11 [(false, [.p (.lit (.string (mkS deepTextB)))])] [] = some (deepAnsB, []) := by kernel_rfl
end Go.Proofs.YtggofahhehkbbaaGreatDoor.Ev
