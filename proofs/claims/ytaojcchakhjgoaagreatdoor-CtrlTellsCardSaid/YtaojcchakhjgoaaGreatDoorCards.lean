/-
  DERIVED. GIVEN WITH THE SEED: THE CARDS: each row of YtaojcchakhjgoaaGreatDoorRows.lean that lists a variable, with what it lists TIED to the program's text (the seventh form; the later family's looks); each row that meets fmt, with fmt's text TOLD by the authors' own Lean function (tested against real Go, not proved from fmt's source: count such statements apart). THE CARD IS WHAT COUNTS. Prove the row's statement (the work); the ties are given (YtaojcchakhjgoaaGreatDoorTie.lean); close each card by the builder's one call (the guide's Derived/Test/ToyasCard.lean, 'card_holds'). Laid BY PROGRAM, IN A SANDBOX (cutbox-door.mjs). By AI agents, Wed Nov 11 2026. No macro, syntax, notation, axiom, sorry.
-/
import Derived.Test.YtaojcchakhjgoaaGreatDoorRows
import GoSem.ClaimSeven
namespace Go.Proofs.YtaojcchakhjgoaaGreatDoor
namespace Rows

/-- THE TIED CARD OF 'podestalaw16.ParseDeep'. -/
def parseDeepCard : Claim7 := { stood := { row := parseDeepRow, standIns := [], harness := (true, "91ebc9a560adc9c3e9b30175e8338e4984cee6ec902e4483b0bfc2c0899f8f03"), looks := true }, kinds := [], alts := [], laidByText := true, laidKinds := [.data, .data, .data, .sentinel, .sentinel], laidTests := true, laidLooks := .later }
def ParseDeepCardSaid : Prop := Claim7.holds Tryz.pinned (.plain (OpenSpec.ofChange parseDeepSpec)) parseDeepCard

/-- THE TIED CARD OF 'podestalaw24.CtrlQueue'. -/
def ctrlQueueCard : Claim7 := { stood := { row := ctrlQueueRow, standIns := [], harness := (true, "91ebc9a560adc9c3e9b30175e8338e4984cee6ec902e4483b0bfc2c0899f8f03"), looks := true }, kinds := [], alts := [], laidByText := true, laidKinds := [.data, .data, .data, .sentinel, .sentinel], laidTests := true, laidLooks := .later }
def CtrlQueueCardSaid : Prop := Claim7.holds Tryz.pinned (.plain (OpenSpec.ofChange ctrlQueueSpec)) ctrlQueueCard

/-- THE TIED CARD OF 'podestalaw24.CtrlTells'. -/
def ctrlTellsCard : Claim7 := { stood := { row := ctrlTellsRow, standIns := [], harness := (true, "91ebc9a560adc9c3e9b30175e8338e4984cee6ec902e4483b0bfc2c0899f8f03"), looks := true }, kinds := [], alts := [], laidByText := true, laidKinds := [.data, .data, .data, .sentinel, .sentinel], laidTests := true, laidLooks := .later }
def CtrlTellsCardSaid : Prop := Claim7.holds Tryz.pinned (.plain (OpenSpec.ofChange ctrlTellsSpec)) ctrlTellsCard

/-- THE TIED CARD OF 'podestalaw24.CtrlBusy'. -/
def ctrlBusyCard : Claim7 := { stood := { row := ctrlBusyRow, standIns := [], harness := (true, "91ebc9a560adc9c3e9b30175e8338e4984cee6ec902e4483b0bfc2c0899f8f03"), looks := true }, kinds := [], alts := [], laidByText := true, laidKinds := [.data, .data, .data, .sentinel, .sentinel], laidTests := true, laidLooks := .later }
def CtrlBusyCardSaid : Prop := Claim7.holds Tryz.pinned (.plain (OpenSpec.ofChange ctrlBusySpec)) ctrlBusyCard

/-- THE TIED CARD OF 'podestalaw24.CtrlNone'. -/
def ctrlNoneCard : Claim7 := { stood := { row := ctrlNoneRow, standIns := [], harness := (true, "91ebc9a560adc9c3e9b30175e8338e4984cee6ec902e4483b0bfc2c0899f8f03"), looks := true }, kinds := [], alts := [], laidByText := true, laidKinds := [.data, .data, .data, .sentinel, .sentinel], laidTests := true, laidLooks := .later }
def CtrlNoneCardSaid : Prop := Claim7.holds Tryz.pinned (.plain (OpenSpec.ofChange ctrlNoneSpec)) ctrlNoneCard

/-- THE SECOND FORM's CARD OF 'podestalaw16.ParseDeep'. -/
def parseDeepUptoCard : Claim7 := { stood := { row := parseDeepUptoRow, standIns := [], harness := (true, "91ebc9a560adc9c3e9b30175e8338e4984cee6ec902e4483b0bfc2c0899f8f03"), looks := true }, kinds := [], alts := [], laidByText := true, laidKinds := [.data, .data, .data, .sentinel, .sentinel], laidTests := true, laidLooks := .later }
def ParseDeepUptoCardSaid : Prop := Claim7.holds Tryz.pinned (.plain (OpenSpec.upto parseDeepSpec)) parseDeepUptoCard

/-- THE SECOND FORM's CARD OF 'podestalaw24.CtrlQueue'. -/
def ctrlQueueUptoCard : Claim7 := { stood := { row := ctrlQueueUptoRow, standIns := [], harness := (true, "91ebc9a560adc9c3e9b30175e8338e4984cee6ec902e4483b0bfc2c0899f8f03"), looks := true }, kinds := [], alts := [], laidByText := true, laidKinds := [.data, .data, .data, .sentinel, .sentinel], laidTests := true, laidLooks := .later }
def CtrlQueueUptoCardSaid : Prop := Claim7.holds Tryz.pinned (.plain (OpenSpec.upto ctrlQueueSpec)) ctrlQueueUptoCard

/-- THE SECOND FORM's CARD OF 'podestalaw24.CtrlTells'. -/
def ctrlTellsUptoCard : Claim7 := { stood := { row := ctrlTellsUptoRow, standIns := [], harness := (true, "91ebc9a560adc9c3e9b30175e8338e4984cee6ec902e4483b0bfc2c0899f8f03"), looks := true }, kinds := [], alts := [], laidByText := true, laidKinds := [.data, .data, .data, .sentinel, .sentinel], laidTests := true, laidLooks := .later }
def CtrlTellsUptoCardSaid : Prop := Claim7.holds Tryz.pinned (.plain (OpenSpec.upto ctrlTellsSpec)) ctrlTellsUptoCard

/-- THE SECOND FORM's CARD OF 'podestalaw24.CtrlBusy'. -/
def ctrlBusyUptoCard : Claim7 := { stood := { row := ctrlBusyUptoRow, standIns := [], harness := (true, "91ebc9a560adc9c3e9b30175e8338e4984cee6ec902e4483b0bfc2c0899f8f03"), looks := true }, kinds := [], alts := [], laidByText := true, laidKinds := [.data, .data, .data, .sentinel, .sentinel], laidTests := true, laidLooks := .later }
def CtrlBusyUptoCardSaid : Prop := Claim7.holds Tryz.pinned (.plain (OpenSpec.upto ctrlBusySpec)) ctrlBusyUptoCard

/-- THE SECOND FORM's CARD OF 'podestalaw24.CtrlNone'. -/
def ctrlNoneUptoCard : Claim7 := { stood := { row := ctrlNoneUptoRow, standIns := [], harness := (true, "91ebc9a560adc9c3e9b30175e8338e4984cee6ec902e4483b0bfc2c0899f8f03"), looks := true }, kinds := [], alts := [], laidByText := true, laidKinds := [.data, .data, .data, .sentinel, .sentinel], laidTests := true, laidLooks := .later }
def CtrlNoneUptoCardSaid : Prop := Claim7.holds Tryz.pinned (.plain (OpenSpec.upto ctrlNoneSpec)) ctrlNoneUptoCard
end Rows
end Go.Proofs.YtaojcchakhjgoaaGreatDoor
