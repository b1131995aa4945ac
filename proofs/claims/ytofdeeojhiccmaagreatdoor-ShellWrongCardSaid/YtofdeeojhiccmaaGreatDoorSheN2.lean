/- 'ShellWrong': no newline, from 26 bytes on. -/
import Derived.Test.YtofdeeojhiccmaaGreatDoorSheA
namespace Go.Exe.She
open Go Go.Exe Go.Proofs
theorem noline26 (es : Nat → Nat) : isT (law (FN 26 false) (K1 26) (.sym 0) es) = true := by kernel_rfl
theorem noline27 (es : Nat → Nat) : isT (law (FN 27 false) (K1 27) (.sym 0) es) = true := by kernel_rfl
theorem noline28 (es : Nat → Nat) : isT (law (FN 28 false) (K1 28) (.sym 0) es) = true := by kernel_rfl
theorem noline29 (es : Nat → Nat) : isT (law (FN 29 false) (K1 29) (.sym 0) es) = true := by kernel_rfl
theorem noline30 (es : Nat → Nat) : isT (law (FN 30 false) (K1 30) (.sym 0) es) = true := by kernel_rfl
theorem noline31 (es : Nat → Nat) : isT (law (FN 31 false) (K1 31) (.sym 0) es) = true := by kernel_rfl
theorem noline32 (es : Nat → Nat) : isT (law (FN 32 false) (K1 32) (.sym 0) es) = true := by kernel_rfl
theorem noline33 (es : Nat → Nat) : isT (law (FN 33 false) (K1 33) (.sym 0) es) = true := by kernel_rfl
theorem noline34 (es : Nat → Nat) : isT (law (FN 34 false) (K1 34) (.sym 0) es) = true := by kernel_rfl
theorem noline35 (es : Nat → Nat) : isT (law (FN 35 false) (K1 35) (.sym 0) es) = true := by kernel_rfl
theorem noline36 (es : Nat → Nat) : isT (law (FN 36 false) (K1 36) (.sym 0) es) = true := by kernel_rfl
theorem noline37 (es : Nat → Nat) : isT (law (FN 37 false) (K1 37) (.sym 0) es) = true := by kernel_rfl
theorem noline38 (es : Nat → Nat) : isT (law (FN 38 false) (K1 38) (.sym 0) es) = true := by kernel_rfl
end Go.Exe.She
