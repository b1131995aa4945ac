/- 'ScriptLines': the kernel runs the law at every pair of texts, first one 6. -/
import Derived.Test.YtafnooelkiobmaaDoorLinD
namespace Go.Exe.Lin
open Go Go.Exe Go.Proofs
theorem lin_6_0 (e0 e1 : Nat) : isT (lines 6 0 e0 e1) = true := by kernel_rfl
theorem lin_6_1 (e0 e1 : Nat) : isT (lines 6 1 e0 e1) = true := by kernel_rfl
theorem lin_6_2 (e0 e1 : Nat) : isT (lines 6 2 e0 e1) = true := by kernel_rfl
theorem lin_6_3 (e0 e1 : Nat) : isT (lines 6 3 e0 e1) = true := by kernel_rfl
theorem lin_6_4 (e0 e1 : Nat) : isT (lines 6 4 e0 e1) = true := by kernel_rfl
theorem lin_6_5 (e0 e1 : Nat) : isT (lines 6 5 e0 e1) = true := by kernel_rfl
theorem lin_6_6 (e0 e1 : Nat) : isT (lines 6 6 e0 e1) = true := by kernel_rfl
theorem lin_6_7 (e0 e1 : Nat) : isT (lines 6 7 e0 e1) = true := by kernel_rfl
theorem lin_6 (j : Nat) (hj : j < 8) (e0 e1 : Nat) : isT (lines 6 j e0 e1) = true := by
  obtain rfl | rfl | rfl | rfl | rfl | rfl | rfl | rfl : j = 0 ∨ j = 1 ∨ j = 2 ∨ j = 3 ∨ j = 4 ∨ j = 5 ∨ j = 6 ∨ j = 7 := by omega
  · exact lin_6_0 e0 e1
  · exact lin_6_1 e0 e1
  · exact lin_6_2 e0 e1
  · exact lin_6_3 e0 e1
  · exact lin_6_4 e0 e1
  · exact lin_6_5 e0 e1
  · exact lin_6_6 e0 e1
  · exact lin_6_7 e0 e1
end Go.Exe.Lin
