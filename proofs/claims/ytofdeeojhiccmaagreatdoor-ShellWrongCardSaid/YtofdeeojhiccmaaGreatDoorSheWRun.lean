/- 'ShellWrong': the word 'run'. -/
import Derived.Test.YtofdeeojhiccmaaGreatDoorSheA
namespace Go.Exe.She
open Go Go.Exe Go.Proofs
theorem word_run (es : Nat → Nat) : isT (law FW K2 (.str 3 7239026) es) = true := by kernel_rfl
end Go.Exe.She
