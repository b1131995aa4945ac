/- 'ShellWrong': what is too long; nothing but a newline. -/
import Derived.Test.YtofdeeojhiccmaaGreatDoorSheA
namespace Go.Exe.She
open Go Go.Exe Go.Proofs
theorem noline_z (es : Nat → Nat) : isT (law (FN 0 true) (K1 0) (.sym 0) es) = true := by kernel_rfl
theorem long_false (es : Nat → Nat) : isT (law (FL false) K2 (.sym 0) es) = true := by kernel_rfl
theorem long_true (es : Nat → Nat) : isT (law (FL true) K2 (.sym 0) es) = true := by kernel_rfl
end Go.Exe.She
