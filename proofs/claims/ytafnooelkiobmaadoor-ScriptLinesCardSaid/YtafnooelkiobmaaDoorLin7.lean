/- 'ScriptLines': the kernel runs the law at every pair of texts, first one 7. -/
import Derived.Test.YtafnooelkiobmaaDoorLinD
namespace Go.Exe.Lin
open Go Go.Exe Go.Proofs
theorem lin_7_0 (e0 e1 : Nat) : isT (lines 7 0 e0 e1) = true := by kernel_rfl
theorem lin_7_1 (e0 e1 : Nat) : isT (lines 7 1 e0 e1) = true := by kernel_rfl
theorem lin_7_2 (e0 e1 : Nat) : isT (lines 7 2 e0 e1) = true := by kernel_rfl
theorem lin_7_3 (e0 e1 : Nat) : isT (lines 7 3 e0 e1) = true := by kernel_rfl
theorem lin_7_4 (e0 e1 : Nat) : isT (lines 7 4 e0 e1) = true := by kernel_rfl
theorem lin_7_5 (e0 e1 : Nat) : isT (lines 7 5 e0 e1) = true := by kernel_rfl
theorem lin_7_6 (e0 e1 : Nat) : isT (lines 7 6 e0 e1) = true := by kernel_rfl
theorem lin_7_7 (e0 e1 : Nat) : isT (lines 7 7 e0 e1) = true := by kernel_rfl
theorem lin_7 (j : Nat) (hj : j < 8) (e0 e1 : Nat) : isT (lines 7 j e0 e1) = true := by
  obtain rfl | rfl | rfl | rfl | rfl | rfl | rfl | rfl : j = 0 ∨ j = 1 ∨ j = 2 ∨ j = 3 ∨ j = 4 ∨ j = 5 ∨ j = 6 ∨ j = 7 := by omega
  · exact lin_7_0 e0 e1
  · exact lin_7_1 e0 e1
  · exact lin_7_2 e0 e1
  · exact lin_7_3 e0 e1
  · exact lin_7_4 e0 e1
  · exact lin_7_5 e0 e1
  · exact lin_7_6 e0 e1
  · exact lin_7_7 e0 e1
end Go.Exe.Lin
