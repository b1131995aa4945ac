/- 'ScriptLines': the kernel runs the law at every pair of texts, first one 5. -/
import Derived.Test.YtafnooelkiobmaaDoorLinD
namespace Go.Exe.Lin
open Go Go.Exe Go.Proofs
theorem lin_5_0 (e0 e1 : Nat) : isT (lines 5 0 e0 e1) = true := by kernel_rfl
theorem lin_5_1 (e0 e1 : Nat) : isT (lines 5 1 e0 e1) = true := by kernel_rfl
theorem lin_5_2 (e0 e1 : Nat) : isT (lines 5 2 e0 e1) = true := by kernel_rfl
theorem lin_5_3 (e0 e1 : Nat) : isT (lines 5 3 e0 e1) = true := by kernel_rfl
theorem lin_5_4 (e0 e1 : Nat) : isT (lines 5 4 e0 e1) = true := by kernel_rfl
theorem lin_5_5 (e0 e1 : Nat) : isT (lines 5 5 e0 e1) = true := by kernel_rfl
theorem lin_5_6 (e0 e1 : Nat) : isT (lines 5 6 e0 e1) = true := by kernel_rfl
theorem lin_5_7 (e0 e1 : Nat) : isT (lines 5 7 e0 e1) = true := by kernel_rfl
theorem lin_5 (j : Nat) (hj : j < 8) (e0 e1 : Nat) : isT (lines 5 j e0 e1) = true := by
  obtain rfl | rfl | rfl | rfl | rfl | rfl | rfl | rfl : j = 0 ∨ j = 1 ∨ j = 2 ∨ j = 3 ∨ j = 4 ∨ j = 5 ∨ j = 6 ∨ j = 7 := by omega
  · exact lin_5_0 e0 e1
  · exact lin_5_1 e0 e1
  · exact lin_5_2 e0 e1
  · exact lin_5_3 e0 e1
  · exact lin_5_4 e0 e1
  · exact lin_5_5 e0 e1
  · exact lin_5_6 e0 e1
  · exact lin_5_7 e0 e1
end Go.Exe.Lin
