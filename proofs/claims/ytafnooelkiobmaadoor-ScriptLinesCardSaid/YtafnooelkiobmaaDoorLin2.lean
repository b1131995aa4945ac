/- 'ScriptLines': the kernel runs the law at every pair of texts, first one 2. -/
import Derived.Test.YtafnooelkiobmaaDoorLinD
namespace Go.Exe.Lin
open Go Go.Exe Go.Proofs
theorem lin_2_0 (e0 e1 : Nat) : isT (lines 2 0 e0 e1) = true := by kernel_rfl
theorem lin_2_1 (e0 e1 : Nat) : isT (lines 2 1 e0 e1) = true := by kernel_rfl
theorem lin_2_2 (e0 e1 : Nat) : isT (lines 2 2 e0 e1) = true := by kernel_rfl
theorem lin_2_3 (e0 e1 : Nat) : isT (lines 2 3 e0 e1) = true := by kernel_rfl
theorem lin_2_4 (e0 e1 : Nat) : isT (lines 2 4 e0 e1) = true := by kernel_rfl
theorem lin_2_5 (e0 e1 : Nat) : isT (lines 2 5 e0 e1) = true := by kernel_rfl
theorem lin_2_6 (e0 e1 : Nat) : isT (lines 2 6 e0 e1) = true := by kernel_rfl
theorem lin_2_7 (e0 e1 : Nat) : isT (lines 2 7 e0 e1) = true := by kernel_rfl
theorem lin_2 (j : Nat) (hj : j < 8) (e0 e1 : Nat) : isT (lines 2 j e0 e1) = true := by
  obtain rfl | rfl | rfl | rfl | rfl | rfl | rfl | rfl : j = 0 ∨ j = 1 ∨ j = 2 ∨ j = 3 ∨ j = 4 ∨ j = 5 ∨ j = 6 ∨ j = 7 := by omega
  · exact lin_2_0 e0 e1
  · exact lin_2_1 e0 e1
  · exact lin_2_2 e0 e1
  · exact lin_2_3 e0 e1
  · exact lin_2_4 e0 e1
  · exact lin_2_5 e0 e1
  · exact lin_2_6 e0 e1
  · exact lin_2_7 e0 e1
end Go.Exe.Lin
