/-
  DERIVED. GIVEN WITH THE SEED: THE CARDS: each row of YtfnklbigjnkbjaaGreatDoorRows.lean that lists a variable, with what it lists TIED to the program's text (the seventh form; the later family's looks); each row that meets fmt, with fmt's text TOLD by the authors' own Lean function (tested against real Go, not proved from fmt's source: count such statements apart). THE CARD IS WHAT COUNTS. Prove the row's statement (the work); the ties are given (YtfnklbigjnkbjaaGreatDoorTie.lean); close each card by the builder's one call (the guide's Derived/Test/ToyasCard.lean, 'card_holds'). Laid BY PROGRAM, IN A SANDBOX (cutbox-door.mjs). By AI agents, Wed Nov 11 2026. No macro, syntax, notation, axiom, sorry.
-/
import Derived.Test.YtfnklbigjnkbjaaGreatDoorRows
import GoSem.ClaimSeven
namespace Go.Proofs.YtfnklbigjnkbjaaGreatDoor
namespace Rows

/-- THE TIED CARD OF 'dragomanlaw18.LossKnown'. -/
def lossKnownCard : Claim7 := { stood := { row := lossKnownRow, standIns := [], harness := (true, "d050723a2742c3f5853946ac505b97bec4579b31de33df6c712b4f8cc8e388a6"), looks := true }, kinds := [], alts := [], laidByText := true, laidKinds := [.data, .data, .data, .data, .sentinel, .sentinel, .pinned], laidTests := true, laidLooks := .later }
def LossKnownCardSaid : Prop := Claim7.holds Tryz.pinned (.plain (OpenSpec.ofChange lossKnownSpec)) lossKnownCard

/-- THE SECOND FORM's CARD OF 'dragomanlaw18.LossKnown'. -/
def lossKnownUptoCard : Claim7 := { stood := { row := lossKnownUptoRow, standIns := [], harness := (true, "d050723a2742c3f5853946ac505b97bec4579b31de33df6c712b4f8cc8e388a6"), looks := true }, kinds := [], alts := [], laidByText := true, laidKinds := [.data, .data, .data, .data, .sentinel, .sentinel, .pinned], laidTests := true, laidLooks := .later }
def LossKnownUptoCardSaid : Prop := Claim7.holds Tryz.pinned (.plain (OpenSpec.upto lossKnownSpec)) lossKnownUptoCard
end Rows
end Go.Proofs.YtfnklbigjnkbjaaGreatDoor
