/- 'ShellWrong': the first newline, from 39 on. -/
import Derived.Test.YtofdeeojhiccmaaGreatDoorSheA
namespace Go.Exe.She
open Go Go.Exe Go.Proofs
theorem line39 (es : Nat → Nat) : isT (law (FJ 39) K2 (.sym 0) es) = true := by kernel_rfl
theorem line40 (es : Nat → Nat) : isT (law (FJ 40) K2 (.sym 0) es) = true := by kernel_rfl
theorem line41 (es : Nat → Nat) : isT (law (FJ 41) K2 (.sym 0) es) = true := by kernel_rfl
theorem line42 (es : Nat → Nat) : isT (law (FJ 42) K2 (.sym 0) es) = true := by kernel_rfl
theorem line43 (es : Nat → Nat) : isT (law (FJ 43) K2 (.sym 0) es) = true := by kernel_rfl
theorem line44 (es : Nat → Nat) : isT (law (FJ 44) K2 (.sym 0) es) = true := by kernel_rfl
theorem line45 (es : Nat → Nat) : isT (law (FJ 45) K2 (.sym 0) es) = true := by kernel_rfl
theorem line46 (es : Nat → Nat) : isT (law (FJ 46) K2 (.sym 0) es) = true := by kernel_rfl
theorem line47 (es : Nat → Nat) : isT (law (FJ 47) K2 (.sym 0) es) = true := by kernel_rfl
theorem line48 (es : Nat → Nat) : isT (law (FJ 48) K2 (.sym 0) es) = true := by kernel_rfl
theorem line49 (es : Nat → Nat) : isT (law (FJ 49) K2 (.sym 0) es) = true := by kernel_rfl
end Go.Exe.She
