/- 'ScriptLines': the kernel runs the law at every pair of texts, first one 9. -/
import Derived.Test.YtafnooelkiobmaaDoorLinD
namespace Go.Exe.Lin
open Go Go.Exe Go.Proofs
theorem lin_9_0 (e0 e1 : Nat) : isT (lines 9 0 e0 e1) = true := by kernel_rfl
theorem lin_9_1 (e0 e1 : Nat) : isT (lines 9 1 e0 e1) = true := by kernel_rfl
theorem lin_9_2 (e0 e1 : Nat) : isT (lines 9 2 e0 e1) = true := by kernel_rfl
theorem lin_9_3 (e0 e1 : Nat) : isT (lines 9 3 e0 e1) = true := by kernel_rfl
theorem lin_9_4 (e0 e1 : Nat) : isT (lines 9 4 e0 e1) = true := by kernel_rfl
theorem lin_9_5 (e0 e1 : Nat) : isT (lines 9 5 e0 e1) = true := by kernel_rfl
theorem lin_9_6 (e0 e1 : Nat) : isT (lines 9 6 e0 e1) = true := by kernel_rfl
theorem lin_9_7 (e0 e1 : Nat) : isT (lines 9 7 e0 e1) = true := by kernel_rfl
theorem lin_9 (j : Nat) (hj : j < 8) (e0 e1 : Nat) : isT (lines 9 j e0 e1) = true := by
  obtain rfl | rfl | rfl | rfl | rfl | rfl | rfl | rfl : j = 0 ∨ j = 1 ∨ j = 2 ∨ j = 3 ∨ j = 4 ∨ j = 5 ∨ j = 6 ∨ j = 7 := by omega
  · exact lin_9_0 e0 e1
  · exact lin_9_1 e0 e1
  · exact lin_9_2 e0 e1
  · exact lin_9_3 e0 e1
  · exact lin_9_4 e0 e1
  · exact lin_9_5 e0 e1
  · exact lin_9_6 e0 e1
  · exact lin_9_7 e0 e1
end Go.Exe.Lin
