/- The surroundings of this seat: which of Go's library functions are met by contracts. -/
import Derived.Test.YtggofahhehkbbaaGreatDoorEvPrimT
import Derived.Test.YtggofahhehkbbaaGreatDoorEvKeys
import Derived.Test.YtggofahhehkbbaaGreatDoorEvDefer
import Derived.Test.YtggofahhehkbbaaGreatDoorS8Shelf
import Derived.Test.YtggofahhehkbbaaGreatDoorChecked
import Derived.WalkKit
import Derived.ProofKit
namespace Go.Proofs.YtggofahhehkbbaaGreatDoor.Ev
open Go.Shelf Go.RowKit
set_option autoImplicit false

noncomputable def E0 : Env := { P := Tryz.prog, prim := fun _ => none, live := fun _ _ => none, glob := fun _ => none, md := true, mv := fun _ => false, inpl := fun _ => none }
noncomputable def prims0 (f : Nat) : Option (Args → Boxes → Res) :=
  bif Nat.beq f 60 then some primIndexByte else
  bif Nat.beq f 91 then some primCount else
  bif Nat.beq f 59 then some primTrimLeft else
  bif Nat.beq f 137 then some primTrimRight else
  bif Nat.beq f 93 then some primContainsAny else
  bif Nat.beq f 118 then some primIndexAny else
  bif Nat.beq f 126 then some (primSorted 147) else
  none
noncomputable def globs (m : Int) (g : Nat) : Option (List PV) := none
noncomputable def EM0 (m : Int) : Env := { P := Tryz.prog, prim := prims0, live := fun _ _ => none, glob := globs m, md := false, mv := fun _ => false, inpl := fun _ => none }
theorem mixed : Tryz.prog.follows .mixedOrders = true := by kernel_rfl
theorem shapes : progOK Tryz.prog := progOK_of (by kernel_rfl)
theorem EM0_P (m : Int) : (EM0 m).P = Tryz.prog := by kernel_rfl
theorem E0_P : E0.P = Tryz.prog := by kernel_rfl

set_option maxRecDepth 100000 in
theorem EM0_sound (m : Int) (n : Nat) : HSound (EM0 m) (evFn (EM0 m) n) := by
  refine evFn_sound (by rw [EM0_P]; exact mixed) (by rw [EM0_P]; exact shapes) (fun f p args bxs out bxs' hp he => ?_) (fun g p h => by simp [EM0] at h) n
  simp only [EM0, prims0] at hp
  rw [cond_eq_ite] at hp
  split at hp
  case isTrue hc =>
    obtain rfl := Nat.eq_of_beq_eq_true hc
    simp only [Option.some.injEq] at hp
    subst hp
    exact indexByte_sound Tryz.lays137 (EM0_P m) (by kernel_rfl) Tryz.func60 (body_of (by kernel_rfl)) (by kernel_rfl) he
  case isFalse =>
  rw [cond_eq_ite] at hp
  split at hp
  case isTrue hc =>
    obtain rfl := Nat.eq_of_beq_eq_true hc
    simp only [Option.some.injEq] at hp
    subst hp
    exact count_sound Tryz.lays138 (EM0_P m) (by kernel_rfl) Tryz.func91 (body_of (by kernel_rfl)) (by kernel_rfl) he
  case isFalse =>
  rw [cond_eq_ite] at hp
  split at hp
  case isTrue hc =>
    obtain rfl := Nat.eq_of_beq_eq_true hc
    simp only [Option.some.injEq] at hp
    subst hp
    exact trimLeft_sound Tryz.lays161 (by kernel_rfl) (EM0_P m) (by kernel_rfl) Tryz.func59 (body_of (by kernel_rfl)) (by kernel_rfl) he
  case isFalse =>
  rw [cond_eq_ite] at hp
  split at hp
  case isTrue hc =>
    obtain rfl := Nat.eq_of_beq_eq_true hc
    simp only [Option.some.injEq] at hp
    subst hp
    exact trimRight_sound Tryz.lays162 (by kernel_rfl) (EM0_P m) (by kernel_rfl) Tryz.func137 (body_of (by kernel_rfl)) (by kernel_rfl) he
  case isFalse =>
  rw [cond_eq_ite] at hp
  split at hp
  case isTrue hc =>
    obtain rfl := Nat.eq_of_beq_eq_true hc
    simp only [Option.some.injEq] at hp
    subst hp
    exact containsAny_sound Tryz.lays150 (by kernel_rfl) (EM0_P m) rfl (by kernel_rfl) Tryz.func93 (body_of (by kernel_rfl)) (by kernel_rfl) he
  case isFalse =>
  rw [cond_eq_ite] at hp
  split at hp
  case isTrue hc =>
    obtain rfl := Nat.eq_of_beq_eq_true hc
    simp only [Option.some.injEq] at hp
    subst hp
    exact indexAny_sound Tryz.lays153 (by kernel_rfl) (EM0_P m) rfl (by kernel_rfl) Tryz.func118 (body_of (by kernel_rfl)) (by kernel_rfl) he
  case isFalse =>
  rw [cond_eq_ite] at hp
  split at hp
  case isTrue hc =>
    obtain rfl := Nat.eq_of_beq_eq_true hc
    simp only [Option.some.injEq] at hp
    subst hp
    exact sorted_sound Tryz.keysL Tryz.sortedL Tryz.sortM (EM0_P m) rfl (by kernel_rfl) (by kernel_rfl) (by kernel_rfl) (enters_of Tryz.func146 (by kernel_rfl) rfl) (enters_of Tryz.func147 (by kernel_rfl) rfl) (by kernel_rfl) Tryz.func126 (body_of (by kernel_rfl)) (by kernel_rfl) he
  case isFalse =>
  simp at hp

/-! ### jread.whole -/
noncomputable def rW0 : Code := seqL (codeOf Tryz.prog 25)
noncomputable def rW1 : Code := seqR (seqR (codeOf Tryz.prog 25))
noncomputable def rW2 : Code := seqR (codeOf Tryz.prog 40)
noncomputable def opsOf : Code → Array Oper
  | .region _ ops _ => ops
  | _ => #[]
set_option maxRecDepth 100000 in
theorem wholeOK : DeferOK Tryz.prog 25 40 21 23 Tryz.f25 Tryz.f40 rW0 rW1 rW2 1 0 (opsOf (seqL (seqR (codeOf Tryz.prog 25)))) (opsOf (seqL (codeOf Tryz.prog 40))) where
  hf := Tryz.func25
  hb := by kernel_rfl
  hn := by kernel_rfl
  hg := Tryz.func40
  hgb := by kernel_rfl
  hgn := by kernel_rfl
  hgr := by kernel_rfl
  hnm := by kernel_rfl
  hnf := by kernel_rfl
  h3 := by decide
  h0 := by kernel_rfl
  hr := by kernel_rfl
  hgd := by kernel_rfl
  h7 := by decide
  hop1 := fun Q a w p2 p4 p5 e2 e4 e5 e7 hq => by
    have e : opsOf (seqL (seqR (codeOf Tryz.prog 25))) = #[(opsOf (seqL (seqR (codeOf Tryz.prog 25))))[0]!, (opsOf (seqL (seqR (codeOf Tryz.prog 25))))[1]!] := by kernel_rfl
    rw [e]
    exact hop1_of (by kernel_rfl) (by kernel_rfl) (by kernel_rfl) (by kernel_rfl) (by kernel_rfl) (by kernel_rfl) Q a w p2 p4 p5 e2 e4 e5 e7 hq
  hop2 := fun Q a cs cs' w v hr hs hq => by
    have e : opsOf (seqL (codeOf Tryz.prog 40)) = #[(opsOf (seqL (codeOf Tryz.prog 40)))[0]!, (opsOf (seqL (codeOf Tryz.prog 40)))[1]!] := by kernel_rfl
    rw [e]
    exact hop2_of (by kernel_rfl) (by kernel_rfl) (by kernel_rfl) (by kernel_rfl) (by kernel_rfl) (by kernel_rfl) (by decide) Q a cs cs' w v hr hs hq

noncomputable def primWhole (m : Int) : Args → Boxes → Res := deferEv (EM0 m) (evFn (EM0 m) 100) 100 25 40 rW0 rW1 rW2 Tryz.f25.results.toList 21
noncomputable def EM (m : Int) : Env := { EM0 m with prim := fun f => bif Nat.beq f 25 then some (primWhole m) else prims0 f }
theorem EM_P (m : Int) : (EM m).P = Tryz.prog := by kernel_rfl
set_option maxRecDepth 100000 in
theorem EM_sound (m : Int) (n : Nat) : HSound (EM m) (evFn (EM m) n) := by
  refine evFn_sound (by rw [EM_P]; exact mixed) (by rw [EM_P]; exact shapes) (fun f p args bxs out bxs' hp he => ?_) (fun g p h => by simp [EM, EM0] at h) n
  refine FnSound.env (E' := EM0 m) (E := EM m) rfl (fun g cs h => h) (fun h => h) ?_
  simp only [EM] at hp
  rw [cond_eq_ite] at hp
  split at hp
  case isTrue hc =>
    obtain rfl := Nat.eq_of_beq_eq_true hc
    simp only [Option.some.injEq] at hp
    subst hp
    exact deferEv_sound (by rw [EM0_P]; exact mixed) (EM0_sound m 100) (by rw [EM0_P]; exact wholeOK) he
  case isFalse =>
    have := (EM0_sound m 1).fn f args bxs out bxs'
    simp only [evFn] at this
    rw [show (EM0 m).prim f = some p from hp] at this
    exact this he
end Go.Proofs.YtggofahhehkbbaaGreatDoor.Ev
