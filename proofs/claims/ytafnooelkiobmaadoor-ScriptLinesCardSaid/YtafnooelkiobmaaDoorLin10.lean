/- 'ScriptLines': the kernel runs the law at every pair of texts, first one 10. -/
import Derived.Test.YtafnooelkiobmaaDoorLinD
namespace Go.Exe.Lin
open Go Go.Exe Go.Proofs
theorem lin_10_0 (e0 e1 : Nat) : isT (lines 10 0 e0 e1) = true := by kernel_rfl
theorem lin_10_1 (e0 e1 : Nat) : isT (lines 10 1 e0 e1) = true := by kernel_rfl
theorem lin_10_2 (e0 e1 : Nat) : isT (lines 10 2 e0 e1) = true := by kernel_rfl
theorem lin_10_3 (e0 e1 : Nat) : isT (lines 10 3 e0 e1) = true := by kernel_rfl
theorem lin_10_4 (e0 e1 : Nat) : isT (lines 10 4 e0 e1) = true := by kernel_rfl
theorem lin_10_5 (e0 e1 : Nat) : isT (lines 10 5 e0 e1) = true := by kernel_rfl
theorem lin_10_6 (e0 e1 : Nat) : isT (lines 10 6 e0 e1) = true := by kernel_rfl
theorem lin_10_7 (e0 e1 : Nat) : isT (lines 10 7 e0 e1) = true := by kernel_rfl
theorem lin_10 (j : Nat) (hj : j < 8) (e0 e1 : Nat) : isT (lines 10 j e0 e1) = true := by
  obtain rfl | rfl | rfl | rfl | rfl | rfl | rfl | rfl : j = 0 ∨ j = 1 ∨ j = 2 ∨ j = 3 ∨ j = 4 ∨ j = 5 ∨ j = 6 ∨ j = 7 := by omega
  · exact lin_10_0 e0 e1
  · exact lin_10_1 e0 e1
  · exact lin_10_2 e0 e1
  · exact lin_10_3 e0 e1
  · exact lin_10_4 e0 e1
  · exact lin_10_5 e0 e1
  · exact lin_10_6 e0 e1
  · exact lin_10_7 e0 e1
end Go.Exe.Lin
