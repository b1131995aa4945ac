/- 'ShellWrong': the word 'eval'. -/
import Derived.Test.YtofdeeojhiccmaaGreatDoorSheA
namespace Go.Exe.She
open Go Go.Exe Go.Proofs
theorem word_eval (es : Nat → Nat) : isT (law FW K2 (.str 4 1818326629) es) = true := by kernel_rfl
end Go.Exe.She
