/- 'ScriptLines': the kernel runs the law at every pair of texts, first one 1. -/
import Derived.Test.YtafnooelkiobmaaDoorLinD
namespace Go.Exe.Lin
open Go Go.Exe Go.Proofs
theorem lin_1_0 (e0 e1 : Nat) : isT (lines 1 0 e0 e1) = true := by kernel_rfl
theorem lin_1_1 (e0 e1 : Nat) : isT (lines 1 1 e0 e1) = true := by kernel_rfl
theorem lin_1_2 (e0 e1 : Nat) : isT (lines 1 2 e0 e1) = true := by kernel_rfl
theorem lin_1_3 (e0 e1 : Nat) : isT (lines 1 3 e0 e1) = true := by kernel_rfl
theorem lin_1_4 (e0 e1 : Nat) : isT (lines 1 4 e0 e1) = true := by kernel_rfl
theorem lin_1_5 (e0 e1 : Nat) : isT (lines 1 5 e0 e1) = true := by kernel_rfl
theorem lin_1_6 (e0 e1 : Nat) : isT (lines 1 6 e0 e1) = true := by kernel_rfl
theorem lin_1_7 (e0 e1 : Nat) : isT (lines 1 7 e0 e1) = true := by kernel_rfl
theorem lin_1 (j : Nat) (hj : j < 8) (e0 e1 : Nat) : isT (lines 1 j e0 e1) = true := by
  obtain rfl | rfl | rfl | rfl | rfl | rfl | rfl | rfl : j = 0 ∨ j = 1 ∨ j = 2 ∨ j = 3 ∨ j = 4 ∨ j = 5 ∨ j = 6 ∨ j = 7 := by omega
  · exact lin_1_0 e0 e1
  · exact lin_1_1 e0 e1
  · exact lin_1_2 e0 e1
  · exact lin_1_3 e0 e1
  · exact lin_1_4 e0 e1
  · exact lin_1_5 e0 e1
  · exact lin_1_6 e0 e1
  · exact lin_1_7 e0 e1
end Go.Exe.Lin
