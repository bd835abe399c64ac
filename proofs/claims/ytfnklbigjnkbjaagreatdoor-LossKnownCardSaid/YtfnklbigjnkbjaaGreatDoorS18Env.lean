/- The surroundings of this seat: which of Go's library functions are met by contracts. -/
import Derived.Test.YtfnklbigjnkbjaaGreatDoorEvPrimS
import Derived.Test.YtfnklbigjnkbjaaGreatDoorS18Shelf
import Derived.Test.YtfnklbigjnkbjaaGreatDoorChecked
import Derived.WalkKit
import Derived.ProofKit
namespace Go.Proofs.YtfnklbigjnkbjaaGreatDoor.Ev
open Go.Shelf Go.RowKit
set_option autoImplicit false

/-- The surroundings under which comparisons run: strong contracts alone. -/
noncomputable def EP : Env := { P := Tryz.prog, prim := fun f => bif Nat.beq f 103 then some primCompare else none, live := fun _ _ => none, glob := fun _ => none, md := true, mv := fun _ => false, inpl := fun _ => none }
noncomputable def E0 : Env := { P := Tryz.prog, prim := fun _ => none, live := fun _ _ => none, glob := fun _ => none, md := true, mv := fun _ => false, inpl := fun _ => none }
noncomputable def prims (f : Nat) : Option (Args → Boxes → Res) :=
  bif Nat.beq f 74 then some primReplaceAll else
  bif Nat.beq f 51 then some (primBString 5) else
  bif Nat.beq f 72 then some (primCopyCheck 93) else
  bif Nat.beq f 103 then some primCompare else
  bif Nat.beq f 18 then some (primClone (evBody E0 (fun _ _ _ => none) 10 18)) else
  bif Nat.beq f 19 then some (primClone (evBody E0 (fun _ _ _ => none) 10 19)) else
  bif Nat.beq f 67 then some (primClone (evBody E0 (fun _ _ _ => none) 10 67)) else
  none
noncomputable def globs (m : Int) (g : Nat) : Option (List PV) := bif Nat.beq g 2 then some [.lit (.int .i64 m)] else none
noncomputable def EM (m : Int) : Env := { P := Tryz.prog, prim := prims, live := fun _ _ => none, glob := globs m, md := false, mv := fun _ => false, inpl := fun f => bif Nat.beq f 47 then some (sortPrim (evFn EP 100) [48]) else none }

theorem mixed : Tryz.prog.follows .mixedOrders = true := by kernel_rfl
theorem shapes : progOK Tryz.prog := progOK_of (by kernel_rfl)
theorem n240 : Go.Proofs.Lays.n240 Tryz.prog Tryz.lays155_ren := { Tryz.lays155 with }

theorem eqNil24 (w : World) (a : Option Addr) (n cap : Nat) : (binOp .eql 24 (.slice a n cap) (.slice none 0 0)).run Tryz.prog w = .ok (.bool a.isNone) w := by
  obtain ⟨e, u⟩ : ∃ e, (underlying 24).run Tryz.prog w = .ok (.slice e) w := ⟨_, run_underlying Tryz.underlying24 w⟩
  obtain ⟨m, hm⟩ : ∃ m, Op.maxDepth = m + 1 := ⟨Op.maxDepth - 1, by decide⟩
  cases a <;> simp [binOp, Op.equal, hm, Op.equalIn, u]
set_option maxRecDepth 100000 in
theorem clone18 (w : World) (a : Option Addr) (cap : Nat) : Calls Tryz.prog 18 #[.slice a 0 cap] w fun e w' => (∃ a' c', e = .returned (.slice a' 0 c')) ∧ ∃ n os, w' = Sort.grow (w.drewN n) os := by
  cases a with
  | none =>
    go_enter Tryz.func18, Tryz.ntmps18
    go_wp2
    rw [eqNil24]
    go_wp2
    all_goals go_ret
    all_goals exact ⟨⟨_, _, rfl⟩, 0, #[], by rw [Sort.grow_empty]; rfl⟩
  | some a =>
    go_enter Tryz.func18, Tryz.ntmps18
    go_wp2
    rw [eqNil24]
    go_wp2
    all_goals go_ret
    all_goals exact ⟨⟨_, _, rfl⟩, 0, #[_], by rw [← Sort.alloc_eq_grow]; rfl⟩

theorem eqNil25 (w : World) (a : Option Addr) (n cap : Nat) : (binOp .eql 25 (.slice a n cap) (.slice none 0 0)).run Tryz.prog w = .ok (.bool a.isNone) w := by
  obtain ⟨e, u⟩ : ∃ e, (underlying 25).run Tryz.prog w = .ok (.slice e) w := ⟨_, run_underlying Tryz.underlying25 w⟩
  obtain ⟨m, hm⟩ : ∃ m, Op.maxDepth = m + 1 := ⟨Op.maxDepth - 1, by decide⟩
  cases a <;> simp [binOp, Op.equal, hm, Op.equalIn, u]
set_option maxRecDepth 100000 in
theorem clone19 (w : World) (a : Option Addr) (cap : Nat) : Calls Tryz.prog 19 #[.slice a 0 cap] w fun e w' => (∃ a' c', e = .returned (.slice a' 0 c')) ∧ ∃ n os, w' = Sort.grow (w.drewN n) os := by
  cases a with
  | none =>
    go_enter Tryz.func19, Tryz.ntmps19
    go_wp2
    rw [eqNil25]
    go_wp2
    all_goals go_ret
    all_goals exact ⟨⟨_, _, rfl⟩, 0, #[], by rw [Sort.grow_empty]; rfl⟩
  | some a =>
    go_enter Tryz.func19, Tryz.ntmps19
    go_wp2
    rw [eqNil25]
    go_wp2
    all_goals go_ret
    all_goals exact ⟨⟨_, _, rfl⟩, 0, #[_], by rw [← Sort.alloc_eq_grow]; rfl⟩

theorem eqNil56 (w : World) (a : Option Addr) (n cap : Nat) : (binOp .eql 56 (.slice a n cap) (.slice none 0 0)).run Tryz.prog w = .ok (.bool a.isNone) w := by
  obtain ⟨e, u⟩ : ∃ e, (underlying 56).run Tryz.prog w = .ok (.slice e) w := ⟨_, run_underlying Tryz.underlying56 w⟩
  obtain ⟨m, hm⟩ : ∃ m, Op.maxDepth = m + 1 := ⟨Op.maxDepth - 1, by decide⟩
  cases a <;> simp [binOp, Op.equal, hm, Op.equalIn, u]
set_option maxRecDepth 100000 in
theorem clone67 (w : World) (a : Option Addr) (cap : Nat) : Calls Tryz.prog 67 #[.slice a 0 cap] w fun e w' => (∃ a' c', e = .returned (.slice a' 0 c')) ∧ ∃ n os, w' = Sort.grow (w.drewN n) os := by
  cases a with
  | none =>
    go_enter Tryz.func67, Tryz.ntmps67
    go_wp2
    rw [eqNil56]
    go_wp2
    all_goals go_ret
    all_goals exact ⟨⟨_, _, rfl⟩, 0, #[], by rw [Sort.grow_empty]; rfl⟩
  | some a =>
    go_enter Tryz.func67, Tryz.ntmps67
    go_wp2
    rw [eqNil56]
    go_wp2
    all_goals go_ret
    all_goals exact ⟨⟨_, _, rfl⟩, 0, #[_], by rw [← Sort.alloc_eq_grow]; rfl⟩

theorem EP_P : EP.P = Tryz.prog := by kernel_rfl
theorem EM_P (m : Int) : (EM m).P = Tryz.prog := by kernel_rfl
theorem E0_P : E0.P = Tryz.prog := by kernel_rfl
set_option maxRecDepth 100000 in
theorem EP_sound (n : Nat) : HSound EP (evFn EP n) := by
  refine evFn_sound (by rw [EP_P]; exact mixed) (by rw [EP_P]; exact shapes) (fun f p args bxs out bxs' hp he => ?_) (fun g p h => by simp [EP] at h) n
  simp only [EP] at hp
  rw [cond_eq_ite] at hp
  split at hp
  case isFalse => simp at hp
  case isTrue hc =>
    obtain rfl := Nat.eq_of_beq_eq_true hc
    simp only [Option.some.injEq] at hp
    subst hp
    exact compare_sound Tryz.lays106 EP_P (by kernel_rfl) Tryz.func103 (body_of (by kernel_rfl)) (by kernel_rfl) he

set_option maxRecDepth 100000 in
theorem EM_sound (m : Int) (n : Nat) : HSound (EM m) (evFn (EM m) n) := by
  refine evFn_sound (by rw [EM_P]; exact mixed) (by rw [EM_P]; exact shapes) (fun f p args bxs out bxs' hp he => ?_) (fun g p h => ?_) n
  · simp only [EM, prims] at hp
    rw [cond_eq_ite] at hp
    split at hp
    case isTrue hc =>
      obtain rfl := Nat.eq_of_beq_eq_true hc
      simp only [Option.some.injEq] at hp
      subst hp
      exact replaceAll_sound Tryz.lays155 Tryz.Builder_Extra_155 (EM_P m) rfl (by kernel_rfl) (m := m) (by kernel_rfl) Tryz.func74 (body_of (by kernel_rfl)) (by kernel_rfl) he
    case isFalse =>
    rw [cond_eq_ite] at hp
    split at hp
    case isTrue hc =>
      obtain rfl := Nat.eq_of_beq_eq_true hc
      simp only [Option.some.injEq] at hp
      subst hp
      exact primBString_sound Tryz.lays169 Tryz.Builder_Extra_169 (EM_P m) (by kernel_rfl) (by kernel_rfl) Tryz.func51 (body_of (by kernel_rfl)) (by kernel_rfl) he
    case isFalse =>
    rw [cond_eq_ite] at hp
    split at hp
    case isTrue hc =>
      obtain rfl := Nat.eq_of_beq_eq_true hc
      simp only [Option.some.injEq] at hp
      subst hp
      exact primCopyCheck_sound n240 Tryz.Builder_Extra_155.toX72 (EM_P m) (by kernel_rfl) (by kernel_rfl) Tryz.func72 (body_of (by kernel_rfl)) (by kernel_rfl) he
    case isFalse =>
    rw [cond_eq_ite] at hp
    split at hp
    case isTrue hc =>
      obtain rfl := Nat.eq_of_beq_eq_true hc
      simp only [Option.some.injEq] at hp
      subst hp
      exact compare_sound Tryz.lays106 (EM_P m) (by kernel_rfl) Tryz.func103 (body_of (by kernel_rfl)) (by kernel_rfl) he
    case isFalse =>
    rw [cond_eq_ite] at hp
    split at hp
    case isTrue hc =>
      obtain rfl := Nat.eq_of_beq_eq_true hc
      simp only [Option.some.injEq] at hp
      subst hp
      exact primClone_sound (E0 := E0) (by rw [E0_P]; exact mixed) (by rw [E0_P]; exact shapes) (by rw [E0_P, EM_P]) (fun g cs h => by simp [E0] at h) (fun h => by simp [EM] at h) rfl (by rw [EM_P]; exact Tryz.func18) (body_of (by kernel_rfl)) (by kernel_rfl) (by rw [EM_P]; exact clone18) he
    case isFalse =>
    rw [cond_eq_ite] at hp
    split at hp
    case isTrue hc =>
      obtain rfl := Nat.eq_of_beq_eq_true hc
      simp only [Option.some.injEq] at hp
      subst hp
      exact primClone_sound (E0 := E0) (by rw [E0_P]; exact mixed) (by rw [E0_P]; exact shapes) (by rw [E0_P, EM_P]) (fun g cs h => by simp [E0] at h) (fun h => by simp [EM] at h) rfl (by rw [EM_P]; exact Tryz.func19) (body_of (by kernel_rfl)) (by kernel_rfl) (by rw [EM_P]; exact clone19) he
    case isFalse =>
    rw [cond_eq_ite] at hp
    split at hp
    case isTrue hc =>
      obtain rfl := Nat.eq_of_beq_eq_true hc
      simp only [Option.some.injEq] at hp
      subst hp
      exact primClone_sound (E0 := E0) (by rw [E0_P]; exact mixed) (by rw [E0_P]; exact shapes) (by rw [E0_P, EM_P]) (fun g cs h => by simp [E0] at h) (fun h => by simp [EM] at h) rfl (by rw [EM_P]; exact Tryz.func67) (body_of (by kernel_rfl)) (by kernel_rfl) (by rw [EM_P]; exact clone67) he
    case isFalse =>
    simp at hp
  · simp only [EM] at h
    rw [cond_eq_ite] at h
    split at h
    case isFalse => simp at h
    case isTrue hc =>
      obtain rfl := Nat.eq_of_beq_eq_true hc
      simp only [Option.some.injEq] at h
      subst h
      refine sortPrim_sound Tryz.sortL (E' := EP) (EM_P m) EP_P (fun g cs h => by simp [EP] at h) rfl (EP_sound 100) Tryz.func47 (body_of (by kernel_rfl)) (by kernel_rfl) (by kernel_rfl) fun g hg => ?_
      obtain rfl : g = 48 := by
        simp only [memN, Bool.or_false] at hg
        exact (Nat.eq_of_beq_eq_true hg).symm
      exact ⟨_, _, Tryz.func48, body_of (by kernel_rfl), by kernel_rfl⟩
end Go.Proofs.YtfnklbigjnkbjaaGreatDoor.Ev
