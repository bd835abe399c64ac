/- The surroundings with two answers of jread.Parse at hand. -/
import Derived.Test.YtggofahhehkbbaaGreatDoorS8DeepA
import Derived.Test.YtggofahhehkbbaaGreatDoorS8DeepB
namespace Go.Proofs.YtggofahhehkbbaaGreatDoor.Ev
set_option autoImplicit false
/-- Is it that text? -/
def eqL : List UInt8 → List UInt8 → Bool
  | [], [] => true
  | a :: r, b :: s => Nat.beq a.toNat b.toNat && eqL r s
  | _, _ => false
theorem eqL_eq : ∀ {a b : List UInt8}, eqL a b = true → a = b
  | [], [], _ => rfl
  | [], _ :: _, h => by simp [eqL] at h
  | _ :: _, [], h => by simp [eqL] at h
  | a :: r, b :: s, h => by
    simp only [eqL, Bool.and_eq_true] at h
    rw [UInt8.toNat_inj.1 (Nat.eq_of_beq_eq_true h.1), eqL_eq h.2]
noncomputable def primParse (m : Int) : Args → Boxes → Res := fun args bxs => match args, bxs with
  | [(false, [.p (.lit (.string s))])], [] => bif eqL (lst s) deepTextA then some (deepAnsA, []) else bif eqL (lst s) deepTextB then some (deepAnsB, []) else evFn (EM m) 100 11 [(false, [.p (.lit (.string s))])] []
  | _, _ => none
noncomputable def EK (m : Int) : Env := { EM m with prim := fun f => bif Nat.beq f 11 then some (primParse m) else (EM m).prim f }
theorem EK_P (m : Int) : (EK m).P = Tryz.prog := by kernel_rfl
set_option maxRecDepth 100000 in
theorem EK_sound (m : Int) (n : Nat) : HSound (EK m) (evFn (EK m) n) := by
  refine evFn_sound (by rw [EK_P]; exact mixed) (by rw [EK_P]; exact shapes) (fun f p args bxs out bxs' hp he => ?_) (fun g p h => by simp [EK, EM, EM0] at h) n
  refine FnSound.env (E' := EM m) (E := EK m) rfl (fun g cs h => h) (fun h => h) ?_
  simp only [EK] at hp
  rw [cond_eq_ite] at hp
  split at hp
  case isTrue hc =>
    obtain rfl := Nat.eq_of_beq_eq_true hc
    simp only [Option.some.injEq] at hp
    subst hp
    unfold primParse at he
    split at he
    case h_2 => simp at he
    case h_1 s =>
      rw [cond_eq_ite] at he
      split at he
      case isTrue hA =>
        simp only [Option.some.injEq, Prod.mk.injEq] at he
        obtain ⟨rfl, rfl⟩ := he
        have := deepA m
        rw [← eqL_eq hA, mkS_lst] at this
        exact (EM_sound m 100).fn _ _ _ _ _ this
      case isFalse hA =>
        rw [cond_eq_ite] at he
        split at he
        case isTrue hB =>
          simp only [Option.some.injEq, Prod.mk.injEq] at he
          obtain ⟨rfl, rfl⟩ := he
          have := deepB m
          rw [← eqL_eq hB, mkS_lst] at this
          exact (EM_sound m 100).fn _ _ _ _ _ this
        case isFalse => exact (EM_sound m 100).fn _ _ _ _ _ he
  case isFalse =>
    have := (EM_sound m 1).fn f args bxs out bxs'
    simp only [evFn] at this
    rw [show (EM m).prim f = some p from hp] at this
    exact this he
set_option maxRecDepth 100000 in
theorem jreadKnown_true (m : Int) : evFn (EK m) 100 3 [] [] = some (.ret [(false, [.p (.lit (.bool true))])], []) := by kernel_rfl
end Go.Proofs.YtggofahhehkbbaaGreatDoor.Ev
