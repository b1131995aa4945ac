/-
  DERIVED. GIVEN WITH THE SEED: THE CARDS: each row of YtpdjbblldljocaaDoorRows.lean that lists a variable, with what it lists TIED to the program's text (the seventh form; the later family's looks); each row that meets fmt, with fmt's text TOLD by the authors' own Lean function (tested against real Go, not proved from fmt's source: count such statements apart). THE CARD IS WHAT COUNTS. Prove the row's statement (the work); the ties are given (YtpdjbblldljocaaDoorTie.lean); close each card by the builder's one call (the guide's Derived/Test/ToyasCard.lean, 'card_holds'). Laid BY PROGRAM, IN A SANDBOX (cutbox-door.mjs). By AI agents, Wed Nov 11 2026. No macro, syntax, notation, axiom, sorry.
-/
import Derived.Test.YtpdjbblldljocaaDoorRows
import GoSem.ClaimSeven
namespace Go.Proofs.YtpdjbblldljocaaDoor
namespace Rows

/-- THE TIED CARD OF 'podestalaw16.ParseLevels'. -/
def parseLevelsCard : Claim7 := { stood := { row := parseLevelsRow, standIns := [], harness := (true, "a673be946bc6ae0425556a6097d715631ac465fd13fb8df92c907885ba37f6bf"), looks := true }, kinds := [], alts := [], laidByText := true, laidKinds := [.data, .data, .data, .sentinel, .sentinel], laidTests := true, laidLooks := .later }
def ParseLevelsCardSaid : Prop := Claim7.holds Tryd.pinned (.plain (OpenSpec.ofChange parseLevelsSpec)) parseLevelsCard

/-- THE TIED CARD OF 'podestalaw16.ParseNames'. -/
def parseNamesCard : Claim7 := { stood := { row := parseNamesRow, standIns := [], harness := (true, "a673be946bc6ae0425556a6097d715631ac465fd13fb8df92c907885ba37f6bf"), looks := true }, kinds := [], alts := [], laidByText := true, laidKinds := [.data, .data, .data, .sentinel, .sentinel], laidTests := true, laidLooks := .later }
def ParseNamesCardSaid : Prop := Claim7.holds Tryd.pinned (.plain (OpenSpec.ofChange parseNamesSpec)) parseNamesCard

/-- THE TIED CARD OF 'podestalaw16.ParseJoins'. -/
def parseJoinsCard : Claim7 := { stood := { row := parseJoinsRow, standIns := [], harness := (true, "a673be946bc6ae0425556a6097d715631ac465fd13fb8df92c907885ba37f6bf"), looks := true }, kinds := [], alts := [], laidByText := true, laidKinds := [.data, .data, .data, .sentinel, .sentinel], laidTests := true, laidLooks := .later }
def ParseJoinsCardSaid : Prop := Claim7.holds Tryd.pinned (.plain (OpenSpec.ofChange parseJoinsSpec)) parseJoinsCard

/-- THE SECOND FORM's CARD OF 'podestalaw16.ParseLevels'. -/
def parseLevelsUptoCard : Claim7 := { stood := { row := parseLevelsUptoRow, standIns := [], harness := (true, "a673be946bc6ae0425556a6097d715631ac465fd13fb8df92c907885ba37f6bf"), looks := true }, kinds := [], alts := [], laidByText := true, laidKinds := [.data, .data, .data, .sentinel, .sentinel], laidTests := true, laidLooks := .later }
def ParseLevelsUptoCardSaid : Prop := Claim7.holds Tryd.pinned (.plain (OpenSpec.upto parseLevelsSpec)) parseLevelsUptoCard

/-- THE SECOND FORM's CARD OF 'podestalaw16.ParseNames'. -/
def parseNamesUptoCard : Claim7 := { stood := { row := parseNamesUptoRow, standIns := [], harness := (true, "a673be946bc6ae0425556a6097d715631ac465fd13fb8df92c907885ba37f6bf"), looks := true }, kinds := [], alts := [], laidByText := true, laidKinds := [.data, .data, .data, .sentinel, .sentinel], laidTests := true, laidLooks := .later }
def ParseNamesUptoCardSaid : Prop := Claim7.holds Tryd.pinned (.plain (OpenSpec.upto parseNamesSpec)) parseNamesUptoCard

/-- THE SECOND FORM's CARD OF 'podestalaw16.ParseJoins'. -/
def parseJoinsUptoCard : Claim7 := { stood := { row := parseJoinsUptoRow, standIns := [], harness := (true, "a673be946bc6ae0425556a6097d715631ac465fd13fb8df92c907885ba37f6bf"), looks := true }, kinds := [], alts := [], laidByText := true, laidKinds := [.data, .data, .data, .sentinel, .sentinel], laidTests := true, laidLooks := .later }
def ParseJoinsUptoCardSaid : Prop := Claim7.holds Tryd.pinned (.plain (OpenSpec.upto parseJoinsSpec)) parseJoinsUptoCard
end Rows
end Go.Proofs.YtpdjbblldljocaaDoor
