/- More of Go's library met by contracts: what takes texts and numbers and answers such. -/
import Derived.Test.YtggofahhehkbbaaGreatDoorEvPrimS
import Derived.Shelf.Small.Strs
import Derived.Shelf.Strings.Count
import Derived.Shelf.Strings.IndexAnyAll
import Derived.Shelf.Strings.Trim
import Derived.Shelf.Strings.SlTrimAscii
namespace Go.Proofs.YtggofahhehkbbaaGreatDoor.Ev
open Go.Shelf Go.RowKit
set_option autoImplicit false
set_option linter.unusedVariables false
set_option linter.unusedSimpArgs false

def litA (v : Value) : Bool × List AV := (false, [.p (.lit v)])

theorem ivals_lits {d : Bd} : ∀ (vs : List Value) {us : List Value} {o : List Nat}, IVals d (vs.map litA) us o → us = vs ∧ o = []
  | [], us, o, h => h
  | v :: vs, us, o, h => by
    obtain ⟨u, us', o1, o2, rfl, rfl, h1, h2⟩ := ivals_cons h
    obtain ⟨rfl, k⟩ := ival_p h1
    obtain rfl := rep_lit k
    obtain ⟨rfl, rfl⟩ := ivals_lits vs h2
    exact ⟨rfl, rfl⟩
theorem ivals_lits_mk {d : Bd} : ∀ (vs : List Value), vs.all flatV = true → IVals d (vs.map litA) vs []
  | [], _ => ⟨rfl, rfl⟩
  | v :: vs, h => by
    simp only [List.all_cons, Bool.and_eq_true] at h
    exact ⟨v, vs, [], [], rfl, rfl, ival_p_mk (.lit _ h.1), ivals_lits_mk vs h.2⟩

/-- A callee that takes constants and answers constants. -/
theorem fnSound_lits {E : Env} {f : Nat} {fn : Func} {c : Code} (hf : E.P.funcs[f]? = some fn) (hb : fn.body = some c) (hn : (fn.name == "runtime.NumGoroutine") = false) {vs rs : List Value} (hr : rs.all flatV = true)
    (h : ∀ w : World, (∀ g v cs, E.glob g = some (.lit v :: cs) → w.cell? ⟨g, 0, none⟩ = some v) → Calls E.P f vs.toArray w fun e w' => e = .returned (retVal rs) ∧ Below w.heap.size w w' ∧ (E.md = true → w.drawn ≤ w'.drawn)) :
    FnSound E f (vs.map litA) [] (.ret (rs.map litA)) [] := by
  refine fnSound_pure hf hb hn fun B us o d hdw hdN hd0 hv hB hg => ?_
  obtain ⟨rfl, rfl⟩ := ivals_lits vs hv
  refine (h B.w0 fun g v cs hgg => glob_cell hg hgg).mono fun e w' ⟨h1, h2, h3⟩ => ?_
  exact ⟨rs, h1, h2, fun hm => h3 (hg.md hm), fun d' _ _ => ivals_lits_mk rs hr⟩

/-- Texts and numbers of a call. -/
def strOf? : Bool × List AV → Option ByteArray
  | (false, [.p (.lit (.string x))]) => some x
  | _ => none
def u8Of? : Bool × List AV → Option Int
  | (false, [.p (.lit (.int .u8 x))]) => some x
  | _ => none

def isAscii (l : List UInt8) : Bool := l.all fun b => Nat.blt b.toNat 128
theorem ascii_of {l : List UInt8} (h : isAscii l = true) : ∀ (j : Nat) b, l[j]? = some b → b.toNat < 128 := fun j b hb => by
  have := List.all_eq_true.1 h b (List.mem_of_getElem? hb)
  simpa using this

/-- strings.IndexByte. -/
def primIndexByte : Args → Boxes → Res := fun a b => match a, b with
  | [(false, [.p (.lit (.string x))]), (false, [.p (.lit (.int .u8 c))])], [] => some (.ret [litA (.int .i64 (Lib.indexByte (lst x) c.toNat.toUInt8))], [])
  | _, _ => none
/-- strings.Count of one byte. -/
def primCount : Args → Boxes → Res := fun a b => match a, b with
  | [(false, [.p (.lit (.string x))]), (false, [.p (.lit (.string y))])], [] => match lst y with
    | [c] => some (.ret [litA (.int .i64 (Lib.countByte (lst x) c : Nat))], [])
    | _ => none
  | _, _ => none
/-- strings.TrimLeft, TrimRight at letters of one byte. -/
def primTrimLeft : Args → Boxes → Res := fun a b => match a, b with
  | [(false, [.p (.lit (.string x))]), (false, [.p (.lit (.string y))])], [] =>
    bif isAscii (lst y) && Nat.ble (lst y).length 1000000 then some (.ret [litA (.string (mkS (Lib.trimLeftS (lst x) (lst y))))], []) else none
  | _, _ => none
def primTrimRight : Args → Boxes → Res := fun a b => match a, b with
  | [(false, [.p (.lit (.string x))]), (false, [.p (.lit (.string y))])], [] =>
    bif isAscii (lst y) && Nat.ble (lst y).length 1000000 && Nat.ble (lst x).length 1000000000000 then some (.ret [litA (.string (mkS (Lib.trimRightS (lst x) (lst y))))], []) else none
  | _, _ => none
/-- strings.ContainsAny at letters of one byte. -/
def primContainsAny : Args → Boxes → Res := fun a b => match a, b with
  | [(false, [.p (.lit (.string x))]), (false, [.p (.lit (.string y))])], [] =>
    bif isAscii (lst y) && Nat.ble (lst y).length 1000000 && isAscii (lst x) && Nat.ble (lst x).length 1000000 then some (.ret [litA (.bool (Lib.containsAny (lst x) (lst y)))], []) else none
  | _, _ => none
def primIndexAny : Args → Boxes → Res := fun a b => match a, b with
  | [(false, [.p (.lit (.string x))]), (false, [.p (.lit (.string y))])], [] =>
    bif isAscii (lst y) && Nat.ble (lst y).length 1000000 && isAscii (lst x) && Nat.ble (lst x).length 1000000 then some (.ret [litA (.int .i64 (Lib.indexAny (lst x) (lst y)))], []) else none
  | _, _ => none

section
variable {P : Program} {ρ : Ren} {E : Env}

theorem indexByte_sound (L : Lays.n137 P ρ) (hE : E.P = P) {fc : Nat} (hρ : ρ.f 137 = fc) {fn : Func} {c : Code} (hf : P.funcs[fc]? = some fn) (hb : fn.body = some c) (hn : (fn.name == "runtime.NumGoroutine") = false)
    {args : Args} {bxs : Boxes} {out : Out} {bxs' : Boxes} (he : primIndexByte args bxs = some (out, bxs')) : FnSound E fc args bxs out bxs' := by
  unfold primIndexByte at he
  split at he
  case h_2 => simp at he
  case h_1 x y =>
    simp only [Option.some.injEq, Prod.mk.injEq] at he
    obtain ⟨rfl, rfl⟩ := he
    refine fnSound_lits (vs := [.string x, .int .u8 y]) (rs := [.int .i64 (Lib.indexByte (lst x) y.toNat.toUInt8)]) (by rw [hE]; exact hf) hb hn rfl fun w hg => ?_
    have := Any.strings_IndexByte L x y w
    rw [hρ, ← hE] at this
    exact this.mono fun e w' ⟨h1, h2⟩ => by subst h2; exact ⟨h1, Below.refl _ _, fun _ => Nat.le_refl _⟩

theorem count_sound (L : Lays.n138 P ρ) (hE : E.P = P) {fc : Nat} (hρ : ρ.f 138 = fc) {fn : Func} {c : Code} (hf : P.funcs[fc]? = some fn) (hb : fn.body = some c) (hn : (fn.name == "runtime.NumGoroutine") = false)
    {args : Args} {bxs : Boxes} {out : Out} {bxs' : Boxes} (he : primCount args bxs = some (out, bxs')) : FnSound E fc args bxs out bxs' := by
  unfold primCount at he
  split at he
  case h_2 => simp at he
  case h_1 x y =>
    split at he
    case h_2 => simp at he
    case h_1 c0 hy =>
      simp only [Option.some.injEq, Prod.mk.injEq] at he
      obtain ⟨rfl, rfl⟩ := he
      have hy' : y = ⟨#[c0]⟩ := by rw [← mkS_lst y, hy]; rfl
      refine fnSound_lits (vs := [.string x, .string y]) (rs := [.int .i64 (Lib.countByte (lst x) c0 : Nat)]) (by rw [hE]; exact hf) hb hn rfl fun w hg => ?_
      have := Any.strings_Count_one L x c0 w
      rw [hρ, ← hE] at this
      rw [hy']
      exact this.mono fun e w' ⟨h1, h2⟩ => by subst h2; exact ⟨h1, Below.refl _ _, fun _ => Nat.le_refl _⟩

theorem dropWhile_one (l : List UInt8) (c : UInt8) : l.dropWhile (([c] : List UInt8).contains ·) = l.dropWhile (· == c) := by
  congr 1
  funext b
  simp only [List.contains_cons, List.contains_nil, Bool.or_false]

theorem below_alloc2 {w : World} {a b : Obj} : Below w.heap.size w ((w.alloc a).alloc b) :=
  ((Below.refl _ w).alloc (Nat.le_refl _) _).alloc (by simp) _

theorem trimLeft_sound (L : Lays.n161 P ρ) (hi : (P.info? (ρ.t 116)).map (fun i => (i.zero, i.size)) = some (some (.agg (Array.replicate 256 (.bool false))), 256)) (hE : E.P = P) {fc : Nat} (hρ : ρ.f 161 = fc) {fn : Func} {c : Code} (hf : P.funcs[fc]? = some fn) (hb : fn.body = some c) (hn : (fn.name == "runtime.NumGoroutine") = false)
    {args : Args} {bxs : Boxes} {out : Out} {bxs' : Boxes} (he : primTrimLeft args bxs = some (out, bxs')) : FnSound E fc args bxs out bxs' := by
  unfold primTrimLeft at he
  split at he
  case h_2 => simp at he
  case h_1 x y =>
    rw [cond_eq_ite] at he
    split at he
    case isFalse => simp at he
    case isTrue hc =>
      simp only [Option.some.injEq, Prod.mk.injEq] at he
      obtain ⟨rfl, rfl⟩ := he
      simp only [Bool.and_eq_true, Nat.ble_eq] at hc
      have hsx : x.size = (lst x).length := rfl
      have hsy : y.size = (lst y).length := rfl
      refine fnSound_lits (vs := [.string x, .string y]) (rs := [.string (mkS (Lib.trimLeftS (lst x) (lst y)))]) (by rw [hE]; exact hf) hb hn rfl fun w hg => ?_
      by_cases h0 : x.size = 0 ∨ y.size = 0
      · have := Any.strings_TrimLeft_empty L x y w h0
        rw [hρ, ← hE] at this
        have hx : mkS (Lib.trimLeftS (lst x) (lst y)) = x := by
          rw [← mkS_lst x, lst_mkS]
          congr 1
          rcases h0 with h | h
          · rw [show lst x = [] from List.eq_nil_of_length_eq_zero (by omega)]; rfl
          · rw [show lst y = [] from List.eq_nil_of_length_eq_zero (by omega)]
            cases lst x <;> rfl
        rw [hx]
        exact this.mono fun e w' ⟨h1, h2⟩ => by subst h2; exact ⟨h1, Below.refl _ _, fun _ => Nat.le_refl _⟩
      · by_cases h1 : y.size = 1
        · obtain ⟨c0, hy⟩ : ∃ c0, lst y = [c0] := List.length_eq_one_iff.1 (hsy ▸ h1)
          have hy' : y = ⟨#[c0]⟩ := by rw [← mkS_lst y, hy]; rfl
          have hlt := ascii_of hc.1 0 c0 (by rw [hy]; rfl)
          have := Any.strings_TrimLeft_one L x c0 hlt w
          rw [hρ, ← hE, ← hy'] at this
          refine this.mono fun e w' ⟨h1, h2⟩ => by
            subst h2
            refine ⟨?_, Below.refl _ _, fun _ => Nat.le_refl _⟩
            rw [h1, hy]
            show _ = Ending.returned (.string (mkS ((lst x).dropWhile (([c0] : List UInt8).contains ·))))
            rw [dropWhile_one]
            rfl
        · have := Any.strings_TrimLeft_set L (zero_of_info hi).1 (zero_of_info hi).2 x y w (by omega) (by omega) (by omega) (ascii_of hc.1)
          rw [hρ, ← hE] at this
          exact this.mono fun e w' ⟨h1, h2⟩ => by subst h2; exact ⟨h1, below_alloc2, fun _ => Nat.le_refl _⟩

theorem trimRight_sound (L : Lays.n162 P ρ) (hi : (P.info? (ρ.t 116)).map (fun i => (i.zero, i.size)) = some (some (.agg (Array.replicate 256 (.bool false))), 256)) (hE : E.P = P) {fc : Nat} (hρ : ρ.f 162 = fc) {fn : Func} {c : Code} (hf : P.funcs[fc]? = some fn) (hb : fn.body = some c) (hn : (fn.name == "runtime.NumGoroutine") = false)
    {args : Args} {bxs : Boxes} {out : Out} {bxs' : Boxes} (he : primTrimRight args bxs = some (out, bxs')) : FnSound E fc args bxs out bxs' := by
  unfold primTrimRight at he
  split at he
  case h_2 => simp at he
  case h_1 x y =>
    rw [cond_eq_ite] at he
    split at he
    case isFalse => simp at he
    case isTrue hc =>
      simp only [Option.some.injEq, Prod.mk.injEq] at he
      obtain ⟨rfl, rfl⟩ := he
      simp only [Bool.and_eq_true, Nat.ble_eq] at hc
      have hsx : x.size = (lst x).length := rfl
      have hsy : y.size = (lst y).length := rfl
      have hle : x.size ≤ 9223372036854775807 := by omega
      refine fnSound_lits (vs := [.string x, .string y]) (rs := [.string (mkS (Lib.trimRightS (lst x) (lst y)))]) (by rw [hE]; exact hf) hb hn rfl fun w hg => ?_
      by_cases h0 : x.size = 0 ∨ y.size = 0
      · have := Any.strings_TrimRight_empty L x y w h0
        rw [hρ, ← hE] at this
        have hx : mkS (Lib.trimRightS (lst x) (lst y)) = x := by
          rw [← mkS_lst x, lst_mkS]
          congr 1
          rcases h0 with h | h
          · rw [show lst x = [] from List.eq_nil_of_length_eq_zero (by omega)]; rfl
          · rw [show lst y = [] from List.eq_nil_of_length_eq_zero (by omega)]
            show ((lst x).reverse.dropWhile fun _ => false).reverse = _
            have : ∀ l : List UInt8, l.dropWhile (fun _ => false) = l := fun l => by cases l <;> rfl
            rw [this, List.reverse_reverse]
        rw [hx]
        exact this.mono fun e w' ⟨h1, h2⟩ => by subst h2; exact ⟨h1, Below.refl _ _, fun _ => Nat.le_refl _⟩
      · by_cases h1 : y.size = 1
        · obtain ⟨c0, hy⟩ : ∃ c0, lst y = [c0] := List.length_eq_one_iff.1 (hsy ▸ h1)
          have hy' : y = ⟨#[c0]⟩ := by rw [← mkS_lst y, hy]; rfl
          have hlt := ascii_of hc.1.1 0 c0 (by rw [hy]; rfl)
          have := Any.strings_TrimRight_one L x c0 hlt w hle
          rw [hρ, ← hE, ← hy'] at this
          refine this.mono fun e w' ⟨h1, h2⟩ => by
            subst h2
            refine ⟨?_, Below.refl _ _, fun _ => Nat.le_refl _⟩
            rw [h1, hy]
            show _ = Ending.returned (.string (mkS ((lst x).reverse.dropWhile (([c0] : List UInt8).contains ·)).reverse))
            rw [dropWhile_one]
            rfl
        · have := Any.strings_TrimRight_set L (zero_of_info hi).1 (zero_of_info hi).2 x y w (by omega) (by omega) hle (by omega) (ascii_of hc.1.1)
          rw [hρ, ← hE] at this
          exact this.mono fun e w' ⟨h1, h2⟩ => by subst h2; exact ⟨h1, below_alloc2, fun _ => Nat.le_refl _⟩

theorem containsAny_sound (L : Lays.n150 P ρ) (hi : (P.info? (ρ.t 116)).map (fun i => (i.zero, i.size)) = some (some (.agg (Array.replicate 256 (.bool false))), 256)) (hE : E.P = P) (hmd : E.md = false) {fc : Nat} (hρ : ρ.f 150 = fc) {fn : Func} {c : Code} (hf : P.funcs[fc]? = some fn) (hb : fn.body = some c) (hn : (fn.name == "runtime.NumGoroutine") = false)
    {args : Args} {bxs : Boxes} {out : Out} {bxs' : Boxes} (he : primContainsAny args bxs = some (out, bxs')) : FnSound E fc args bxs out bxs' := by
  unfold primContainsAny at he
  split at he
  case h_2 => simp at he
  case h_1 x y =>
    rw [cond_eq_ite] at he
    split at he
    case isFalse => simp at he
    case isTrue hc =>
      simp only [Option.some.injEq, Prod.mk.injEq] at he
      obtain ⟨rfl, rfl⟩ := he
      simp only [Bool.and_eq_true, Nat.ble_eq] at hc
      have hsx : x.size = (lst x).length := rfl
      have hsy : y.size = (lst y).length := rfl
      refine fnSound_lits (vs := [.string x, .string y]) (rs := [.bool (Lib.containsAny (lst x) (lst y))]) (by rw [hE]; exact hf) hb hn rfl fun w hg => ?_
      have := Any.strings_ContainsAny L (zero_of_info hi).1 (zero_of_info hi).2 x y w (by omega) (by omega) (ascii_of hc.1.2) (ascii_of hc.1.1.1)
      rw [hρ, ← hE] at this
      exact this.mono fun e w' ⟨h1, h2⟩ => ⟨h1, h2, fun hm => by rw [hmd] at hm; simp at hm⟩

theorem indexAny_sound (L : Lays.n153 P ρ) (hi : (P.info? (ρ.t 116)).map (fun i => (i.zero, i.size)) = some (some (.agg (Array.replicate 256 (.bool false))), 256)) (hE : E.P = P) (hmd : E.md = false) {fc : Nat} (hρ : ρ.f 153 = fc) {fn : Func} {c : Code} (hf : P.funcs[fc]? = some fn) (hb : fn.body = some c) (hn : (fn.name == "runtime.NumGoroutine") = false)
    {args : Args} {bxs : Boxes} {out : Out} {bxs' : Boxes} (he : primIndexAny args bxs = some (out, bxs')) : FnSound E fc args bxs out bxs' := by
  unfold primIndexAny at he
  split at he
  case h_2 => simp at he
  case h_1 x y =>
    rw [cond_eq_ite] at he
    split at he
    case isFalse => simp at he
    case isTrue hc =>
      simp only [Option.some.injEq, Prod.mk.injEq] at he
      obtain ⟨rfl, rfl⟩ := he
      simp only [Bool.and_eq_true, Nat.ble_eq] at hc
      have hsx : x.size = (lst x).length := rfl
      have hsy : y.size = (lst y).length := rfl
      refine fnSound_lits (vs := [.string x, .string y]) (rs := [.int .i64 (Lib.indexAny (lst x) (lst y))]) (by rw [hE]; exact hf) hb hn rfl fun w hg => ?_
      have := Any.strings_IndexAny L (zero_of_info hi).1 (zero_of_info hi).2 x y w (by omega) (by omega) (ascii_of hc.1.2) (ascii_of hc.1.1.1)
      rw [hρ, ← hE] at this
      exact this.mono fun e w' ⟨h1, h2⟩ => ⟨h1, h2, fun hm => by rw [hmd] at hm; simp at hm⟩
end
end Go.Proofs.YtggofahhehkbbaaGreatDoor.Ev
