/- 'ScriptLines': the kernel runs the law at every pair of texts, first one 0. -/
import Derived.Test.YtafnooelkiobmaaDoorLinD
namespace Go.Exe.Lin
open Go Go.Exe Go.Proofs
theorem lin_0_0 (e0 e1 : Nat) : isT (lines 0 0 e0 e1) = true := by kernel_rfl
theorem lin_0_1 (e0 e1 : Nat) : isT (lines 0 1 e0 e1) = true := by kernel_rfl
theorem lin_0_2 (e0 e1 : Nat) : isT (lines 0 2 e0 e1) = true := by kernel_rfl
theorem lin_0_3 (e0 e1 : Nat) : isT (lines 0 3 e0 e1) = true := by kernel_rfl
theorem lin_0_4 (e0 e1 : Nat) : isT (lines 0 4 e0 e1) = true := by kernel_rfl
theorem lin_0_5 (e0 e1 : Nat) : isT (lines 0 5 e0 e1) = true := by kernel_rfl
theorem lin_0_6 (e0 e1 : Nat) : isT (lines 0 6 e0 e1) = true := by kernel_rfl
theorem lin_0_7 (e0 e1 : Nat) : isT (lines 0 7 e0 e1) = true := by kernel_rfl
theorem lin_0 (j : Nat) (hj : j < 8) (e0 e1 : Nat) : isT (lines 0 j e0 e1) = true := by
  obtain rfl | rfl | rfl | rfl | rfl | rfl | rfl | rfl : j = 0 ∨ j = 1 ∨ j = 2 ∨ j = 3 ∨ j = 4 ∨ j = 5 ∨ j = 6 ∨ j = 7 := by omega
  · exact lin_0_0 e0 e1
  · exact lin_0_1 e0 e1
  · exact lin_0_2 e0 e1
  · exact lin_0_3 e0 e1
  · exact lin_0_4 e0 e1
  · exact lin_0_5 e0 e1
  · exact lin_0_6 e0 e1
  · exact lin_0_7 e0 e1
end Go.Exe.Lin
