/-
  DERIVED. GIVEN WITH THE SEED: THE CARDS: each row of YtgmliddgfnkjcaaGreatDoorRows.lean that lists a variable, with what it lists TIED to the program's text (the seventh form; the later family's looks); each row that meets fmt, with fmt's text TOLD by the authors' own Lean function (tested against real Go, not proved from fmt's source: count such statements apart). THE CARD IS WHAT COUNTS. Prove the row's statement (the work); the ties are given (YtgmliddgfnkjcaaGreatDoorTie.lean); close each card by the builder's one call (the guide's Derived/Test/ToyasCard.lean, 'card_holds'). Laid BY PROGRAM, IN A SANDBOX (cutbox-door.mjs). By AI agents, Wed Nov 11 2026. No macro, syntax, notation, axiom, sorry.
-/
import Derived.Test.YtgmliddgfnkjcaaGreatDoorRows
import GoSem.ClaimSeven
namespace Go.Proofs.YtgmliddgfnkjcaaGreatDoor
namespace Rows

/-- THE TIED CARD OF 'dragomanlaw16.FlatKnown'. -/
def flatKnownCard : Claim7 := { stood := { row := flatKnownRow, standIns := [], harness := (true, "1d3ef578516598992227c59bfec5de0e26fa50325ce18ae724af13ca86aba776"), looks := true }, kinds := [], alts := [], laidByText := true, laidKinds := [.data, .data, .data, .data, .sentinel, .sentinel, .pinned], laidTests := true, laidLooks := .later }
def FlatKnownCardSaid : Prop := Claim7.holds Tryz.pinned (.plain (OpenSpec.ofChange flatKnownSpec)) flatKnownCard

/-- THE TIED CARD OF 'dragomanlaw16.FlatSays'. -/
def flatSaysCard : Claim7 := { stood := { row := flatSaysRow, standIns := [], harness := (true, "1d3ef578516598992227c59bfec5de0e26fa50325ce18ae724af13ca86aba776"), looks := true }, kinds := [], alts := [], laidByText := true, laidKinds := [.data, .data, .data, .data, .sentinel, .sentinel, .pinned], laidTests := true, laidLooks := .later }
def FlatSaysCardSaid : Prop := Claim7.holds Tryz.pinned (.plain (OpenSpec.ofChange flatSaysSpec)) flatSaysCard

/-- THE TIED CARD OF 'dragomanlaw16.FlatOrder'. -/
def flatOrderCard : Claim7 := { stood := { row := flatOrderRow, standIns := [], harness := (true, "1d3ef578516598992227c59bfec5de0e26fa50325ce18ae724af13ca86aba776"), looks := true }, kinds := [], alts := [], laidByText := true, laidKinds := [.data, .data, .data, .data, .sentinel, .sentinel, .pinned], laidTests := true, laidLooks := .later }
def FlatOrderCardSaid : Prop := Claim7.holds Tryz.pinned (.plain (OpenSpec.ofChange flatOrderSpec)) flatOrderCard

/-- THE TIED CARD OF 'dragomanlaw16.FlatHeads'. -/
def flatHeadsCard : Claim7 := { stood := { row := flatHeadsRow, standIns := [], harness := (true, "1d3ef578516598992227c59bfec5de0e26fa50325ce18ae724af13ca86aba776"), looks := true }, kinds := [], alts := [], laidByText := true, laidKinds := [.data, .data, .data, .data, .sentinel, .sentinel, .pinned], laidTests := true, laidLooks := .later }
def FlatHeadsCardSaid : Prop := Claim7.holds Tryz.pinned (.plain (OpenSpec.ofChange flatHeadsSpec)) flatHeadsCard

/-- THE SECOND FORM's CARD OF 'dragomanlaw16.FlatKnown'. -/
def flatKnownUptoCard : Claim7 := { stood := { row := flatKnownUptoRow, standIns := [], harness := (true, "1d3ef578516598992227c59bfec5de0e26fa50325ce18ae724af13ca86aba776"), looks := true }, kinds := [], alts := [], laidByText := true, laidKinds := [.data, .data, .data, .data, .sentinel, .sentinel, .pinned], laidTests := true, laidLooks := .later }
def FlatKnownUptoCardSaid : Prop := Claim7.holds Tryz.pinned (.plain (OpenSpec.upto flatKnownSpec)) flatKnownUptoCard

/-- THE SECOND FORM's CARD OF 'dragomanlaw16.FlatSays'. -/
def flatSaysUptoCard : Claim7 := { stood := { row := flatSaysUptoRow, standIns := [], harness := (true, "1d3ef578516598992227c59bfec5de0e26fa50325ce18ae724af13ca86aba776"), looks := true }, kinds := [], alts := [], laidByText := true, laidKinds := [.data, .data, .data, .data, .sentinel, .sentinel, .pinned], laidTests := true, laidLooks := .later }
def FlatSaysUptoCardSaid : Prop := Claim7.holds Tryz.pinned (.plain (OpenSpec.upto flatSaysSpec)) flatSaysUptoCard

/-- THE SECOND FORM's CARD OF 'dragomanlaw16.FlatOrder'. -/
def flatOrderUptoCard : Claim7 := { stood := { row := flatOrderUptoRow, standIns := [], harness := (true, "1d3ef578516598992227c59bfec5de0e26fa50325ce18ae724af13ca86aba776"), looks := true }, kinds := [], alts := [], laidByText := true, laidKinds := [.data, .data, .data, .data, .sentinel, .sentinel, .pinned], laidTests := true, laidLooks := .later }
def FlatOrderUptoCardSaid : Prop := Claim7.holds Tryz.pinned (.plain (OpenSpec.upto flatOrderSpec)) flatOrderUptoCard

/-- THE SECOND FORM's CARD OF 'dragomanlaw16.FlatHeads'. -/
def flatHeadsUptoCard : Claim7 := { stood := { row := flatHeadsUptoRow, standIns := [], harness := (true, "1d3ef578516598992227c59bfec5de0e26fa50325ce18ae724af13ca86aba776"), looks := true }, kinds := [], alts := [], laidByText := true, laidKinds := [.data, .data, .data, .data, .sentinel, .sentinel, .pinned], laidTests := true, laidLooks := .later }
def FlatHeadsUptoCardSaid : Prop := Claim7.holds Tryz.pinned (.plain (OpenSpec.upto flatHeadsSpec)) flatHeadsUptoCard
end Rows
end Go.Proofs.YtgmliddgfnkjcaaGreatDoor
