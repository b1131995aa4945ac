/-
  DERIVED. GIVEN WITH THE SEED: THE CARDS: each row of YteaghbcenjhjhaaDoorRows.lean that lists a variable, with what it lists TIED to the program's text (the seventh form; the later family's looks); each row that meets fmt, with fmt's text TOLD by the authors' own Lean function (tested against real Go, not proved from fmt's source: count such statements apart). THE CARD IS WHAT COUNTS. Prove the row's statement (the work); the ties are given (YteaghbcenjhjhaaDoorTie.lean); close each card by the builder's one call (the guide's Derived/Test/ToyasCard.lean, 'card_holds'). Laid BY PROGRAM, IN A SANDBOX (cutbox-door.mjs). By AI agents, Wed Nov 11 2026. No macro, syntax, notation, axiom, sorry.
-/
import Derived.Test.YteaghbcenjhjhaaDoorRows
import GoSem.ClaimSeven
namespace Go.Proofs.YteaghbcenjhjhaaDoor
namespace Rows

/-- THE TIED CARD OF 'podestalaw16.ParseNames'. -/
def parseNamesCard : Claim7 := { stood := { row := parseNamesRow, standIns := [], harness := (true, "9445111d1626476bcff438cef4011297348c17f9a0316bad9090a664170a1d42"), looks := true }, kinds := [], alts := [], laidByText := true, laidKinds := [.data, .data, .data, .sentinel, .sentinel], laidTests := true, laidLooks := .later }
def ParseNamesCardSaid : Prop := Claim7.holds Tryd.pinned (.plain (OpenSpec.ofChange parseNamesSpec)) parseNamesCard

/-- THE SECOND FORM's CARD OF 'podestalaw16.ParseNames'. -/
def parseNamesUptoCard : Claim7 := { stood := { row := parseNamesUptoRow, standIns := [], harness := (true, "9445111d1626476bcff438cef4011297348c17f9a0316bad9090a664170a1d42"), looks := true }, kinds := [], alts := [], laidByText := true, laidKinds := [.data, .data, .data, .sentinel, .sentinel], laidTests := true, laidLooks := .later }
def ParseNamesUptoCardSaid : Prop := Claim7.holds Tryd.pinned (.plain (OpenSpec.upto parseNamesSpec)) parseNamesUptoCard
end Rows
end Go.Proofs.YteaghbcenjhjhaaDoor
