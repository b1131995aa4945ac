/- 'ShellWrong': the word 'load'. -/
import Derived.Test.YtofdeeojhiccmaaGreatDoorSheA
namespace Go.Exe.She
open Go Go.Exe Go.Proofs
theorem word_load (es : Nat → Nat) : isT (law FW K2 (.str 4 1684107116) es) = true := by kernel_rfl
end Go.Exe.She
