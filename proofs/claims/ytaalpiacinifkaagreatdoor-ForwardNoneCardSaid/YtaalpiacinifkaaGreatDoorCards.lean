/-
  DERIVED. GIVEN WITH THE SEED: THE CARDS: each row of YtaalpiacinifkaaGreatDoorRows.lean that lists a variable, with what it lists TIED to the program's text (the seventh form; the later family's looks); each row that meets fmt, with fmt's text TOLD by the authors' own Lean function (tested against real Go, not proved from fmt's source: count such statements apart). THE CARD IS WHAT COUNTS. Prove the row's statement (the work); the ties are given (YtaalpiacinifkaaGreatDoorTie.lean); close each card by the builder's one call (the guide's Derived/Test/ToyasCard.lean, 'card_holds'). Laid BY PROGRAM, IN A SANDBOX (cutbox-door.mjs). By AI agents, Wed Nov 11 2026. No macro, syntax, notation, axiom, sorry.
-/
import Derived.Test.YtaalpiacinifkaaGreatDoorRows
import GoSem.ClaimSeven
namespace Go.Proofs.YtaalpiacinifkaaGreatDoor
namespace Rows

/-- THE TIED CARD OF 'quadrigalaw30.ScanNone'. -/
def scanNoneCard : Claim7 := { stood := { row := scanNoneRow, standIns := [], harness := (true, "d47daca8ffa9abcbf4ae34a4d9e4b6dd4b899c0c2d35bea3ab79ccc6dd374efc"), looks := false }, kinds := [], alts := [], laidByText := true, laidKinds := [.data, .data, .pinned], laidTests := true, laidLooks := .later }
def ScanNoneCardSaid : Prop := Claim7.holds Tryz.pinned (.plain (OpenSpec.ofChange scanNoneSpec)) scanNoneCard

/-- THE TIED CARD OF 'quadrigalaw21.ForwardNone'. -/
def forwardNoneCard : Claim7 := { stood := { row := forwardNoneRow, standIns := [], harness := (true, "d47daca8ffa9abcbf4ae34a4d9e4b6dd4b899c0c2d35bea3ab79ccc6dd374efc"), looks := false }, kinds := [], alts := [], laidByText := true, laidKinds := [.data, .data, .pinned], laidTests := true, laidLooks := .later }
def ForwardNoneCardSaid : Prop := Claim7.holds Tryz.pinned (.plain (OpenSpec.ofChange forwardNoneSpec)) forwardNoneCard

/-- THE SECOND FORM's CARD OF 'quadrigalaw30.ScanNone'. -/
def scanNoneUptoCard : Claim7 := { stood := { row := scanNoneUptoRow, standIns := [], harness := (true, "d47daca8ffa9abcbf4ae34a4d9e4b6dd4b899c0c2d35bea3ab79ccc6dd374efc"), looks := false }, kinds := [], alts := [], laidByText := true, laidKinds := [.data, .data, .pinned], laidTests := true, laidLooks := .later }
def ScanNoneUptoCardSaid : Prop := Claim7.holds Tryz.pinned (.plain (OpenSpec.upto scanNoneSpec)) scanNoneUptoCard

/-- THE SECOND FORM's CARD OF 'quadrigalaw21.ForwardNone'. -/
def forwardNoneUptoCard : Claim7 := { stood := { row := forwardNoneUptoRow, standIns := [], harness := (true, "d47daca8ffa9abcbf4ae34a4d9e4b6dd4b899c0c2d35bea3ab79ccc6dd374efc"), looks := false }, kinds := [], alts := [], laidByText := true, laidKinds := [.data, .data, .pinned], laidTests := true, laidLooks := .later }
def ForwardNoneUptoCardSaid : Prop := Claim7.holds Tryz.pinned (.plain (OpenSpec.upto forwardNoneSpec)) forwardNoneUptoCard
end Rows
end Go.Proofs.YtaalpiacinifkaaGreatDoor
