/- 'ScriptLines': the kernel runs the law at every pair of texts, first one 8. -/
import Derived.Test.YtafnooelkiobmaaDoorLinD
namespace Go.Exe.Lin
open Go Go.Exe Go.Proofs
theorem lin_8_0 (e0 e1 : Nat) : isT (lines 8 0 e0 e1) = true := by kernel_rfl
theorem lin_8_1 (e0 e1 : Nat) : isT (lines 8 1 e0 e1) = true := by kernel_rfl
theorem lin_8_2 (e0 e1 : Nat) : isT (lines 8 2 e0 e1) = true := by kernel_rfl
theorem lin_8_3 (e0 e1 : Nat) : isT (lines 8 3 e0 e1) = true := by kernel_rfl
theorem lin_8_4 (e0 e1 : Nat) : isT (lines 8 4 e0 e1) = true := by kernel_rfl
theorem lin_8_5 (e0 e1 : Nat) : isT (lines 8 5 e0 e1) = true := by kernel_rfl
theorem lin_8_6 (e0 e1 : Nat) : isT (lines 8 6 e0 e1) = true := by kernel_rfl
theorem lin_8_7 (e0 e1 : Nat) : isT (lines 8 7 e0 e1) = true := by kernel_rfl
theorem lin_8 (j : Nat) (hj : j < 8) (e0 e1 : Nat) : isT (lines 8 j e0 e1) = true := by
  obtain rfl | rfl | rfl | rfl | rfl | rfl | rfl | rfl : j = 0 ∨ j = 1 ∨ j = 2 ∨ j = 3 ∨ j = 4 ∨ j = 5 ∨ j = 6 ∨ j = 7 := by omega
  · exact lin_8_0 e0 e1
  · exact lin_8_1 e0 e1
  · exact lin_8_2 e0 e1
  · exact lin_8_3 e0 e1
  · exact lin_8_4 e0 e1
  · exact lin_8_5 e0 e1
  · exact lin_8_6 e0 e1
  · exact lin_8_7 e0 e1
end Go.Exe.Lin
