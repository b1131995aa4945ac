/- 'ScriptLines': the kernel runs the law at every pair of texts, first one 3. -/
import Derived.Test.YtafnooelkiobmaaDoorLinD
namespace Go.Exe.Lin
open Go Go.Exe Go.Proofs
theorem lin_3_0 (e0 e1 : Nat) : isT (lines 3 0 e0 e1) = true := by kernel_rfl
theorem lin_3_1 (e0 e1 : Nat) : isT (lines 3 1 e0 e1) = true := by kernel_rfl
theorem lin_3_2 (e0 e1 : Nat) : isT (lines 3 2 e0 e1) = true := by kernel_rfl
theorem lin_3_3 (e0 e1 : Nat) : isT (lines 3 3 e0 e1) = true := by kernel_rfl
theorem lin_3_4 (e0 e1 : Nat) : isT (lines 3 4 e0 e1) = true := by kernel_rfl
theorem lin_3_5 (e0 e1 : Nat) : isT (lines 3 5 e0 e1) = true := by kernel_rfl
theorem lin_3_6 (e0 e1 : Nat) : isT (lines 3 6 e0 e1) = true := by kernel_rfl
theorem lin_3_7 (e0 e1 : Nat) : isT (lines 3 7 e0 e1) = true := by kernel_rfl
theorem lin_3 (j : Nat) (hj : j < 8) (e0 e1 : Nat) : isT (lines 3 j e0 e1) = true := by
  obtain rfl | rfl | rfl | rfl | rfl | rfl | rfl | rfl : j = 0 ∨ j = 1 ∨ j = 2 ∨ j = 3 ∨ j = 4 ∨ j = 5 ∨ j = 6 ∨ j = 7 := by omega
  · exact lin_3_0 e0 e1
  · exact lin_3_1 e0 e1
  · exact lin_3_2 e0 e1
  · exact lin_3_3 e0 e1
  · exact lin_3_4 e0 e1
  · exact lin_3_5 e0 e1
  · exact lin_3_6 e0 e1
  · exact lin_3_7 e0 e1
end Go.Exe.Lin
