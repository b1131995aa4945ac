/- 'ShellWrong': the first newline, from 13 on. -/
import Derived.Test.YtofdeeojhiccmaaGreatDoorSheA
namespace Go.Exe.She
open Go Go.Exe Go.Proofs
theorem line13 (es : Nat → Nat) : isT (law (FJ 13) K2 (.sym 0) es) = true := by kernel_rfl
theorem line14 (es : Nat → Nat) : isT (law (FJ 14) K2 (.sym 0) es) = true := by kernel_rfl
theorem line15 (es : Nat → Nat) : isT (law (FJ 15) K2 (.sym 0) es) = true := by kernel_rfl
theorem line16 (es : Nat → Nat) : isT (law (FJ 16) K2 (.sym 0) es) = true := by kernel_rfl
theorem line17 (es : Nat → Nat) : isT (law (FJ 17) K2 (.sym 0) es) = true := by kernel_rfl
theorem line18 (es : Nat → Nat) : isT (law (FJ 18) K2 (.sym 0) es) = true := by kernel_rfl
theorem line19 (es : Nat → Nat) : isT (law (FJ 19) K2 (.sym 0) es) = true := by kernel_rfl
theorem line20 (es : Nat → Nat) : isT (law (FJ 20) K2 (.sym 0) es) = true := by kernel_rfl
theorem line21 (es : Nat → Nat) : isT (law (FJ 21) K2 (.sym 0) es) = true := by kernel_rfl
theorem line22 (es : Nat → Nat) : isT (law (FJ 22) K2 (.sym 0) es) = true := by kernel_rfl
theorem line23 (es : Nat → Nat) : isT (law (FJ 23) K2 (.sym 0) es) = true := by kernel_rfl
theorem line24 (es : Nat → Nat) : isT (law (FJ 24) K2 (.sym 0) es) = true := by kernel_rfl
theorem line25 (es : Nat → Nat) : isT (law (FJ 25) K2 (.sym 0) es) = true := by kernel_rfl
end Go.Exe.She
