/- 'ShellWrong': the first newline, from 0 on. -/
import Derived.Test.YtofdeeojhiccmaaGreatDoorSheA
namespace Go.Exe.She
open Go Go.Exe Go.Proofs
theorem line0 (es : Nat → Nat) : isT (law (FJ 0) K2 (.sym 0) es) = true := by kernel_rfl
theorem line1 (es : Nat → Nat) : isT (law (FJ 1) K2 (.sym 0) es) = true := by kernel_rfl
theorem line2 (es : Nat → Nat) : isT (law (FJ 2) K2 (.sym 0) es) = true := by kernel_rfl
theorem line3 (es : Nat → Nat) : isT (law (FJ 3) K2 (.sym 0) es) = true := by kernel_rfl
theorem line4 (es : Nat → Nat) : isT (law (FJ 4) K2 (.sym 0) es) = true := by kernel_rfl
theorem line5 (es : Nat → Nat) : isT (law (FJ 5) K2 (.sym 0) es) = true := by kernel_rfl
theorem line6 (es : Nat → Nat) : isT (law (FJ 6) K2 (.sym 0) es) = true := by kernel_rfl
theorem line7 (es : Nat → Nat) : isT (law (FJ 7) K2 (.sym 0) es) = true := by kernel_rfl
theorem line8 (es : Nat → Nat) : isT (law (FJ 8) K2 (.sym 0) es) = true := by kernel_rfl
theorem line9 (es : Nat → Nat) : isT (law (FJ 9) K2 (.sym 0) es) = true := by kernel_rfl
theorem line10 (es : Nat → Nat) : isT (law (FJ 10) K2 (.sym 0) es) = true := by kernel_rfl
theorem line11 (es : Nat → Nat) : isT (law (FJ 11) K2 (.sym 0) es) = true := by kernel_rfl
theorem line12 (es : Nat → Nat) : isT (law (FJ 12) K2 (.sym 0) es) = true := by kernel_rfl
end Go.Exe.She
