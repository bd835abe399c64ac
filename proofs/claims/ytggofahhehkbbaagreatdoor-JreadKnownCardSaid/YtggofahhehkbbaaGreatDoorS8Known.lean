/- JreadKnown returns true. Conditions: none; the listed variables start as the program's text lays them. -/
import Derived.Test.YtggofahhehkbbaaGreatDoorS8Tab
import Derived.Test.YtggofahhehkbbaaGreatDoorCards
import Derived.Test.YtggofahhehkbbaaGreatDoorTie
import Derived.OpenShut
import Derived.Deep.DeepHandedRow
import Derived.Deep.DeepWitnessRowRef
import Derived.Deep.DeepLaidRun
import Derived.Lib.LaidTab
import Derived.ChangeSame
import Derived.Below
namespace Go.Proofs.YtggofahhehkbbaaGreatDoor.jreadKnown
open Go.ChangeShapes Go.WideShapes Go.ChangeAt Go.RowKit
set_option linter.unusedVariables false

/-- A row's end where new blocks lie behind, old ones as they were: the arguments read as they read, no variable is among them. -/
theorem post_new {H : Type} {enc : TypeId × Value → H} {P : Program} {f : Func} {s : ChangeSpec} {fresh handsOn again : Bool} {W W' : World} {args : Array Value} {v : Value} {ds gs : List (DataW H)} {before : List MemPlace}
    (hW : DataW.Whole enc P f.params.toList s.vars false W args.toList ds gs before) (hb : Below W.heap.size W W')
    (hres : ∀ (b : Nat) (sp : Nat → Bool) (hd : Bool), DataW.TrodAll enc P W' b sp hd f.resultTypes.toList (v.resultList f.resultTypes.size) (s.fn H (ds ++ gs)).results [])
    (hargs : ∀ sp : Nat → Bool, (∀ p ∈ before, sp p.block = true) → DataW.TrodAll enc P W' 0 sp true f.params.toList args.toList (s.fn H (ds ++ gs)).args before)
    (hvars : ∀ sp : Nat → Bool, DataW.TrodVars enc P W' sp s.vars (s.fn H (ds ++ gs)).vars [])
    (hok : ∀ (j : Nat) (t : TypeId) (r : Value), f.resultTypes[j]? = some t → (v.resultList f.resultTypes.size)[j]? = some r → Value.okWide P W' .any 0 t r) :
    s.post enc P f false fresh handsOn again W args v W' := by
  have hlt : ∀ p, p ∈ before → p.block < W.heap.size := fun p hp => hW.lt p hp
  refine ⟨ds, gs, before, [], before, [], hW, hres _ _ _, hargs _ fun p hp => by simpa using hlt p hp, hvars _, World.keptBut_mono (fun p hp => ⟨hp, .inr (.inl hp)⟩) (hb.frame fun p => p ∈ before), fun _ => ?_⟩
  obtain ⟨_, _, _, _, _, hz, _⟩ := hW
  have h := trodAll_append (hargs (fun _ => true) fun _ _ => rfl) (hres 0 (fun _ => true) true)
  refine ⟨hok, _, _, ([] ++ before) ++ [], ⟨[] ++ before, [], h, hvars _, rfl, fun b off hp => ?_, fun h => by simp at h⟩, fun p hp _ => ?_⟩
  · have hp : MemPlace.cell b off ∈ before := by simpa using hp
    rw [hb.frozen (hlt _ hp)]
    exact hz b off hp
  · simpa using hp

theorem own : ownKnob Tryz.prog.godebug = none := by kernel_rfl

/-- internal/bytealg.MaxLen holds some number. -/
theorem maxLen (W : World) (h : W.ShapedOpen Tryz.prog) : ∃ m, W.cell? ⟨0, 0, none⟩ = some (.int .i64 m) :=
  Go.Proofs.cell_of_shapedOpen_int (zero := #[.int .i64 0]) (t := 3) h (of_decide_eq_true (by kernel_rfl)) (by kernel_rfl) rfl (by kernel_rfl) (by kernel_rfl) Tryz.underlying3

theorem lt_of_cell {W : World} {b : Nat} {v : Value} (h : W.cell? ⟨b, 0, none⟩ = some v) : b < W.heap.size := World.block_lt_of_cell? W _ h

theorem globs_met {W : World} {m : Int} (hm : W.cell? ⟨0, 0, none⟩ = some (.int .i64 m)) : ∀ g cs, Ev.globs m g = some cs → Ev.Rep W (fun b => b < W.heap.size) (.ppt cs 0) (.pointer (some ⟨g, 0, none⟩)) := by
  intro g cs h
  simp [Ev.globs] at h

theorem walk (W : World) (hs : W.ShapedOpen Tryz.prog) : Calls Tryz.prog 3 #[] W fun e w' => e = .returned (.bool true) ∧ Below W.heap.size W w' := by
  obtain ⟨m, hm⟩ := maxLen W hs
  have := Ev.says_true (E := Ev.EK m) (Ev.EK_sound m 100) (f := 3) (fn := Tryz.f3) (by rw [Ev.EK_P]; exact Tryz.func3) (Ev.body_of (by kernel_rfl)) (by kernel_rfl) (Ev.jreadKnown_true m) (W := W) (N := fun b => b < W.heap.size) (fun b h => h) (us := []) ⟨rfl, rfl⟩ (globs_met hm)
  rw [Ev.EK_P] at this
  exact this

set_option maxRecDepth 100000 in
theorem contract (H : Type) (enc : TypeId × Value → H) (W : World) (base : Nat) (args : Array Value) (ds gs : List (DataW H)) (before : List MemPlace)
    (hW : DataW.Whole enc Tryz.prog Tryz.f3.params.toList Rows.jreadKnownSpec.vars false W args.toList ds gs before) (hs : W.ShapedOpen Tryz.prog) :
    Calls Tryz.prog 3 args W fun e W' => ∃ v, e = .returned v ∧ Rows.jreadKnownSpec.post enc Tryz.prog Tryz.f3 false true false false W args v W' := by
  have hW' := hW
  obtain ⟨p, q, hA0, hV, rfl, hfz, hnd⟩ := hW
  have hA : DataW.TrodAll enc Tryz.prog W 0 (fun _ => true) true Tryz.f3.params.toList args.toList ds p := hA0
  rw [Tryz.params3] at hA
  obtain ⟨h1, rfl, rfl⟩ := trodAll_nil hA
  obtain rfl : args = #[] := by cases args; simp_all
  obtain ⟨rfl, rfl⟩ := trodVars_none hV
  clear hA0
  simp only [List.append_nil] at hW'
  refine (walk W hs).mono fun e W' ⟨he, hg⟩ => ?_
  subst he
  exact ⟨_, rfl, post_new hW' hg (fun _ _ _ => trodAll_cons_mk (shut_bool Tryz.underlying4 _) trodAll_mk0) (fun _ _ => trodAll_mk0) (fun _ => rfl) (ok_one (by kernel_rfl) rfl (okWide_bool_mk Tryz.underlying4 _))⟩

/-! ### One start that fits: every listed variable as its initialiser lays it -/
mutual
def cellsOfD : DataW Unit → List Value
  | .lit (.int k n) => [.int k n]
  | .agg ds => cellsOfDs ds
  | _ => []
def cellsOfDs : List (DataW Unit) → List Value
  | [] => []
  | d :: r => cellsOfD d ++ cellsOfDs r
end
def textOfD : DataW Unit → ByteArray
  | .iface _ (.ptr (.agg [.lit (.string l)])) => ⟨⟨l⟩⟩
  | _ => ⟨#[]⟩
noncomputable def low : Nat := (World.holding Tryz.prog default ⟨#[], #[], []⟩).heap.size
noncomputable def place (n : String) : Nat := (Tryz.prog.globalNamed n).getD 0
noncomputable def put (h : Array Obj) (n : String) (cs : List Value) : Array Obj := h.modify (place n) fun
  | .cells _ t frozen => .cells cs.toArray t frozen
  | o => o
noncomputable def laidWorld (os : Os) : World :=
  let w0 := World.holding Tryz.prog os ⟨#[.cells #[.string (textOfD Rows.laid_strconv_ErrRange)] 189, .cells #[.string (textOfD Rows.laid_strconv_ErrSyntax)] 189], #[], []⟩
  let h0 := put w0.heap "math/bits.deBruijn32tab" (cellsOfD Rows.laid_math_bits_deBruijn32tab)
  let h1 := put h0 "math/bits.deBruijn64tab" (cellsOfD Rows.laid_math_bits_deBruijn64tab)
  let h2 := put h1 "internal/strconv.uint64pow10" (cellsOfD Rows.laid_internal_strconv_uint64pow10)
  let h3 := put h2 "unicode/utf8.acceptRanges" (cellsOfD Rows.laid_unicode_utf8_acceptRanges)
  let h4 := put h3 "strconv.ErrRange" [.iface 187 (.pointer (some ⟨low + 0, 0, none⟩))]
  let h5 := put h4 "strconv.ErrSyntax" [.iface 187 (.pointer (some ⟨low + 1, 0, none⟩))]
  let h6 := put h5 "unicode/utf8.first" (cellsOfD Rows.laid_unicode_utf8_first)
  { w0 with heap := h6 }
set_option maxRecDepth 100000 in
theorem laid_met (os : Os) (args : Array Value) : laidMet Tryz.prog Rows.jreadKnownRow.laid ((laidWorld os).forCall (fun _ _ => 0) ⟨#[], args, []⟩).memory :=
  laidMet_of_run3 8 (by kernel_rfl) (by kernel_rfl) (by kernel_rfl)
theorem reads (os : Os) {H : Type} (enc : TypeId × Value → H) : ∃ places, DataW.whole enc Tryz.prog ((laidWorld os).forCall (fun _ _ => 0) ⟨#[], #[], []⟩).memory Tryz.f3.params.toList Rows.jreadKnownSpec.vars false (#[] : Array Value).toList 8 = some ([], [], places) :=
  ⟨[], by kernel_rfl⟩

set_option maxRecDepth 100000 in
theorem lifted (os : Os) (started : os.Started) (H : Type) (enc : TypeId × Value → H) (F : Stop.Interp) :
    ReturnsInHanded {} Tryz.checked os 3 .any ((OpenSpec.ofChange Rows.jreadKnownSpec).preRow enc Tryz.prog Tryz.f3 Rows.jreadKnownRow.domain false Rows.jreadKnownRow.laid) (((OpenSpec.ofChange Rows.jreadKnownSpec).at F).post enc Tryz.prog Tryz.f3 false true false false) := by
  obtain ⟨places, hx⟩ := reads os enc
  refine returnsInHanded_of_row (C := Tryz.checked) (s := OpenSpec.ofChange Rows.jreadKnownSpec) own started (by kernel_rfl) Tryz.func3
    (witness_row_atRef (enc := enc) (C := Tryz.checked) false (laidWorld os) #[] rfl (by kernel_rfl) (by kernel_rfl) (by kernel_rfl)
      (OpenSpec.preRow_of_cond 8 hx (by kernel_rfl) (fun k hk => by cases hk) (by kernel_rfl) (laid_met os _))) ?_
  intro W base args ds gs before hval hW _ _ _ hL hs _
  exact contract H enc W base args ds gs before hW hs

theorem said : Rows.JreadKnownSaid :=
  OpenClaim.holds_of_cond 3 Tryz.f3 rfl rfl rfl rfl rfl rfl rfl ⟨rfl, rfl, rfl, rfl, rfl⟩ rfl rfl rfl rfl rfl (by kernel_rfl) Tryz.func3 (by kernel_rfl)
    (of_decide_eq_true (by kernel_rfl)) (by unfold Func.isWrapper; first | (rw [if_pos (by decide +kernel)]; kernel_rfl) | (rw [if_neg (by decide +kernel)]; exact ⟨rfl, rfl⟩))
    (fun os started H enc _ F => by rw [OpenClaim.pre_eq_preRow]; exact lifted os started H enc F)

/-- No parameter wants a stand-in; the program's own looks are on: what the card asks. -/
theorem plain (f : FuncId) (fn : Func) (hf : Tryz.pinned.checked.prog.funcNamed "dragoman/dragomanlaw8.JreadKnown" = some f) (hfn : Tryz.pinned.checked.prog.funcs[f]? = some fn) :
    true = Tryz.pinned.checked.prog.looks [] ∧ ∀ (j : Nat) t, fn.params[j]? = some t → Tryz.pinned.checked.prog.wantsStandIn t = false := by
  obtain rfl : f = 3 := Option.some.inj ((show Tryz.prog.funcNamed "dragoman/dragomanlaw8.JreadKnown" = some 3 by kernel_rfl).symm.trans hf) |>.symm
  obtain rfl : fn = Tryz.f3 := (Option.some.inj (Tryz.func3.symm.trans hfn)).symm
  refine ⟨by kernel_rfl, fun j t ht => ?_⟩
  rw [Tryz.params3] at ht
  simp at ht

theorem card : Rows.JreadKnownCardSaid :=
  Claim7.holds_tied_plain_at .later [] _ _ _ _ said (fun _ h => by cases h) (by kernel_rfl) (fun _ h => by cases h) jreadKnown_row_tie rfl ⟨rfl, rfl⟩ (by kernel_rfl) rfl plain (by kernel_rfl)
end Go.Proofs.YtggofahhehkbbaaGreatDoor.jreadKnown
#print axioms Go.Proofs.YtggofahhehkbbaaGreatDoor.jreadKnown.card
