/- 'ShellWrong': no newline, from 0 bytes on. -/
import Derived.Test.YtofdeeojhiccmaaGreatDoorSheA
namespace Go.Exe.She
open Go Go.Exe Go.Proofs
theorem noline0 (es : Nat → Nat) : isT (law (FN 0 false) (K1 0) (.sym 0) es) = true := by kernel_rfl
theorem noline1 (es : Nat → Nat) : isT (law (FN 1 false) (K1 1) (.sym 0) es) = true := by kernel_rfl
theorem noline2 (es : Nat → Nat) : isT (law (FN 2 false) (K1 2) (.sym 0) es) = true := by kernel_rfl
theorem noline3 (es : Nat → Nat) : isT (law (FN 3 false) (K1 3) (.sym 0) es) = true := by kernel_rfl
theorem noline4 (es : Nat → Nat) : isT (law (FN 4 false) (K1 4) (.sym 0) es) = true := by kernel_rfl
theorem noline5 (es : Nat → Nat) : isT (law (FN 5 false) (K1 5) (.sym 0) es) = true := by kernel_rfl
theorem noline6 (es : Nat → Nat) : isT (law (FN 6 false) (K1 6) (.sym 0) es) = true := by kernel_rfl
theorem noline7 (es : Nat → Nat) : isT (law (FN 7 false) (K1 7) (.sym 0) es) = true := by kernel_rfl
theorem noline8 (es : Nat → Nat) : isT (law (FN 8 false) (K1 8) (.sym 0) es) = true := by kernel_rfl
theorem noline9 (es : Nat → Nat) : isT (law (FN 9 false) (K1 9) (.sym 0) es) = true := by kernel_rfl
theorem noline10 (es : Nat → Nat) : isT (law (FN 10 false) (K1 10) (.sym 0) es) = true := by kernel_rfl
theorem noline11 (es : Nat → Nat) : isT (law (FN 11 false) (K1 11) (.sym 0) es) = true := by kernel_rfl
theorem noline12 (es : Nat → Nat) : isT (law (FN 12 false) (K1 12) (.sym 0) es) = true := by kernel_rfl
end Go.Exe.She
