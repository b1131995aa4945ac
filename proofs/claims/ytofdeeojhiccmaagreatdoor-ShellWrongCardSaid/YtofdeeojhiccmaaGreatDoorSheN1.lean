/- 'ShellWrong': no newline, from 13 bytes on. -/
import Derived.Test.YtofdeeojhiccmaaGreatDoorSheA
namespace Go.Exe.She
open Go Go.Exe Go.Proofs
theorem noline13 (es : Nat → Nat) : isT (law (FN 13 false) (K1 13) (.sym 0) es) = true := by kernel_rfl
theorem noline14 (es : Nat → Nat) : isT (law (FN 14 false) (K1 14) (.sym 0) es) = true := by kernel_rfl
theorem noline15 (es : Nat → Nat) : isT (law (FN 15 false) (K1 15) (.sym 0) es) = true := by kernel_rfl
theorem noline16 (es : Nat → Nat) : isT (law (FN 16 false) (K1 16) (.sym 0) es) = true := by kernel_rfl
theorem noline17 (es : Nat → Nat) : isT (law (FN 17 false) (K1 17) (.sym 0) es) = true := by kernel_rfl
theorem noline18 (es : Nat → Nat) : isT (law (FN 18 false) (K1 18) (.sym 0) es) = true := by kernel_rfl
theorem noline19 (es : Nat → Nat) : isT (law (FN 19 false) (K1 19) (.sym 0) es) = true := by kernel_rfl
theorem noline20 (es : Nat → Nat) : isT (law (FN 20 false) (K1 20) (.sym 0) es) = true := by kernel_rfl
theorem noline21 (es : Nat → Nat) : isT (law (FN 21 false) (K1 21) (.sym 0) es) = true := by kernel_rfl
theorem noline22 (es : Nat → Nat) : isT (law (FN 22 false) (K1 22) (.sym 0) es) = true := by kernel_rfl
theorem noline23 (es : Nat → Nat) : isT (law (FN 23 false) (K1 23) (.sym 0) es) = true := by kernel_rfl
theorem noline24 (es : Nat → Nat) : isT (law (FN 24 false) (K1 24) (.sym 0) es) = true := by kernel_rfl
theorem noline25 (es : Nat → Nat) : isT (law (FN 25 false) (K1 25) (.sym 0) es) = true := by kernel_rfl
end Go.Exe.She
