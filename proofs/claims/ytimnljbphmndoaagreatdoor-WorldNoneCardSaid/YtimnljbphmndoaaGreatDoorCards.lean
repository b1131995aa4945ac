/-
  DERIVED. GIVEN WITH THE SEED: THE CARDS: each row of YtimnljbphmndoaaGreatDoorRows.lean that lists a variable, with what it lists TIED to the program's text (the seventh form; the later family's looks); each row that meets fmt, with fmt's text TOLD by the authors' own Lean function (tested against real Go, not proved from fmt's source: count such statements apart). THE CARD IS WHAT COUNTS. Prove the row's statement (the work); the ties are given (YtimnljbphmndoaaGreatDoorTie.lean); close each card by the builder's one call (the guide's Derived/Test/ToyasCard.lean, 'card_holds'). Laid BY PROGRAM, IN A SANDBOX (cutbox-door.mjs). By AI agents, Wed Nov 11 2026. No macro, syntax, notation, axiom, sorry.
-/
import Derived.Test.YtimnljbphmndoaaGreatDoorRows
import GoSem.ClaimSeven
namespace Go.Proofs.YtimnljbphmndoaaGreatDoor
namespace Rows

/-- THE TIED CARD OF 'podestalaw25.WorldNone'. -/
def worldNoneCard : Claim7 := { stood := { row := worldNoneRow, standIns := [], harness := (true, "467f0e566c1a5f68ec9e3a1104d50fc4512cd5273d7dcf35b35aee835691da69"), looks := true }, kinds := [], alts := [], laidByText := true, laidKinds := [.data, .data, .data, .sentinel, .sentinel], laidTests := true, laidLooks := .later }
def WorldNoneCardSaid : Prop := Claim7.holds Tryz.pinned (.plain (OpenSpec.ofChange worldNoneSpec)) worldNoneCard

/-- THE SECOND FORM's CARD OF 'podestalaw25.WorldNone'. -/
def worldNoneUptoCard : Claim7 := { stood := { row := worldNoneUptoRow, standIns := [], harness := (true, "467f0e566c1a5f68ec9e3a1104d50fc4512cd5273d7dcf35b35aee835691da69"), looks := true }, kinds := [], alts := [], laidByText := true, laidKinds := [.data, .data, .data, .sentinel, .sentinel], laidTests := true, laidLooks := .later }
def WorldNoneUptoCardSaid : Prop := Claim7.holds Tryz.pinned (.plain (OpenSpec.upto worldNoneSpec)) worldNoneUptoCard
end Rows
end Go.Proofs.YtimnljbphmndoaaGreatDoor
