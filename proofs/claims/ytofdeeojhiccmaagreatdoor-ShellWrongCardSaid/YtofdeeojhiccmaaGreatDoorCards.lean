/-
  DERIVED. GIVEN WITH THE SEED: THE CARDS: each row of YtofdeeojhiccmaaGreatDoorRows.lean that lists a variable, with what it lists TIED to the program's text (the seventh form; the later family's looks); each row that meets fmt, with fmt's text TOLD by the authors' own Lean function (tested against real Go, not proved from fmt's source: count such statements apart). THE CARD IS WHAT COUNTS. Prove the row's statement (the work); the ties are given (YtofdeeojhiccmaaGreatDoorTie.lean); close each card by the builder's one call (the guide's Derived/Test/ToyasCard.lean, 'card_holds'). Laid BY PROGRAM, IN A SANDBOX (cutbox-door.mjs). By AI agents, Wed Nov 11 2026. No macro, syntax, notation, axiom, sorry.
-/
import Derived.Test.YtofdeeojhiccmaaGreatDoorRows
import GoSem.ClaimSeven
namespace Go.Proofs.YtofdeeojhiccmaaGreatDoor
namespace Rows

/-- THE TIED CARD OF 'podestalaw27.ShellWrong'. -/
def shellWrongCard : Claim7 := { stood := { row := shellWrongRow, standIns := [], harness := (true, "7052a820ef2e80996de8269867a24c929895857893bd90ce1b50a5b2d297e10b"), looks := true }, kinds := [], alts := [], laidByText := true, laidKinds := [.data, .data, .data, .data, .sentinel, .sentinel, .pinned], laidTests := true, laidLooks := .later }
def ShellWrongCardSaid : Prop := Claim7.holds Tryz.pinned (.plain (OpenSpec.ofChange shellWrongSpec)) shellWrongCard

/-- THE SECOND FORM's CARD OF 'podestalaw27.ShellWrong'. -/
def shellWrongUptoCard : Claim7 := { stood := { row := shellWrongUptoRow, standIns := [], harness := (true, "7052a820ef2e80996de8269867a24c929895857893bd90ce1b50a5b2d297e10b"), looks := true }, kinds := [], alts := [], laidByText := true, laidKinds := [.data, .data, .data, .data, .sentinel, .sentinel, .pinned], laidTests := true, laidLooks := .later }
def ShellWrongUptoCardSaid : Prop := Claim7.holds Tryz.pinned (.plain (OpenSpec.upto shellWrongSpec)) shellWrongUptoCard
end Rows
end Go.Proofs.YtofdeeojhiccmaaGreatDoor
