/- 'ShellWrong': the first newline, from 26 on. -/
import Derived.Test.YtofdeeojhiccmaaGreatDoorSheA
namespace Go.Exe.She
open Go Go.Exe Go.Proofs
theorem line26 (es : Nat → Nat) : isT (law (FJ 26) K2 (.sym 0) es) = true := by kernel_rfl
theorem line27 (es : Nat → Nat) : isT (law (FJ 27) K2 (.sym 0) es) = true := by kernel_rfl
theorem line28 (es : Nat → Nat) : isT (law (FJ 28) K2 (.sym 0) es) = true := by kernel_rfl
theorem line29 (es : Nat → Nat) : isT (law (FJ 29) K2 (.sym 0) es) = true := by kernel_rfl
theorem line30 (es : Nat → Nat) : isT (law (FJ 30) K2 (.sym 0) es) = true := by kernel_rfl
theorem line31 (es : Nat → Nat) : isT (law (FJ 31) K2 (.sym 0) es) = true := by kernel_rfl
theorem line32 (es : Nat → Nat) : isT (law (FJ 32) K2 (.sym 0) es) = true := by kernel_rfl
theorem line33 (es : Nat → Nat) : isT (law (FJ 33) K2 (.sym 0) es) = true := by kernel_rfl
theorem line34 (es : Nat → Nat) : isT (law (FJ 34) K2 (.sym 0) es) = true := by kernel_rfl
theorem line35 (es : Nat → Nat) : isT (law (FJ 35) K2 (.sym 0) es) = true := by kernel_rfl
theorem line36 (es : Nat → Nat) : isT (law (FJ 36) K2 (.sym 0) es) = true := by kernel_rfl
theorem line37 (es : Nat → Nat) : isT (law (FJ 37) K2 (.sym 0) es) = true := by kernel_rfl
theorem line38 (es : Nat → Nat) : isT (law (FJ 38) K2 (.sym 0) es) = true := by kernel_rfl
end Go.Exe.She
