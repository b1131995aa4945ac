/- 'ShellWrong': no newline, from 39 bytes on. -/
import Derived.Test.YtofdeeojhiccmaaGreatDoorSheA
namespace Go.Exe.She
open Go Go.Exe Go.Proofs
theorem noline39 (es : Nat → Nat) : isT (law (FN 39 false) (K1 39) (.sym 0) es) = true := by kernel_rfl
theorem noline40 (es : Nat → Nat) : isT (law (FN 40 false) (K1 40) (.sym 0) es) = true := by kernel_rfl
theorem noline41 (es : Nat → Nat) : isT (law (FN 41 false) (K1 41) (.sym 0) es) = true := by kernel_rfl
theorem noline42 (es : Nat → Nat) : isT (law (FN 42 false) (K1 42) (.sym 0) es) = true := by kernel_rfl
theorem noline43 (es : Nat → Nat) : isT (law (FN 43 false) (K1 43) (.sym 0) es) = true := by kernel_rfl
theorem noline44 (es : Nat → Nat) : isT (law (FN 44 false) (K1 44) (.sym 0) es) = true := by kernel_rfl
theorem noline45 (es : Nat → Nat) : isT (law (FN 45 false) (K1 45) (.sym 0) es) = true := by kernel_rfl
theorem noline46 (es : Nat → Nat) : isT (law (FN 46 false) (K1 46) (.sym 0) es) = true := by kernel_rfl
theorem noline47 (es : Nat → Nat) : isT (law (FN 47 false) (K1 47) (.sym 0) es) = true := by kernel_rfl
theorem noline48 (es : Nat → Nat) : isT (law (FN 48 false) (K1 48) (.sym 0) es) = true := by kernel_rfl
theorem noline49 (es : Nat → Nat) : isT (law (FN 49 false) (K1 49) (.sym 0) es) = true := by kernel_rfl
theorem noline50 (es : Nat → Nat) : isT (law (FN 50 false) (K1 50) (.sym 0) es) = true := by kernel_rfl
end Go.Exe.She
