/- 'ScriptLines': the kernel runs the law at every pair of texts, first one 4. -/
import Derived.Test.YtafnooelkiobmaaDoorLinD
namespace Go.Exe.Lin
open Go Go.Exe Go.Proofs
theorem lin_4_0 (e0 e1 : Nat) : isT (lines 4 0 e0 e1) = true := by kernel_rfl
theorem lin_4_1 (e0 e1 : Nat) : isT (lines 4 1 e0 e1) = true := by kernel_rfl
theorem lin_4_2 (e0 e1 : Nat) : isT (lines 4 2 e0 e1) = true := by kernel_rfl
theorem lin_4_3 (e0 e1 : Nat) : isT (lines 4 3 e0 e1) = true := by kernel_rfl
theorem lin_4_4 (e0 e1 : Nat) : isT (lines 4 4 e0 e1) = true := by kernel_rfl
theorem lin_4_5 (e0 e1 : Nat) : isT (lines 4 5 e0 e1) = true := by kernel_rfl
theorem lin_4_6 (e0 e1 : Nat) : isT (lines 4 6 e0 e1) = true := by kernel_rfl
theorem lin_4_7 (e0 e1 : Nat) : isT (lines 4 7 e0 e1) = true := by kernel_rfl
theorem lin_4 (j : Nat) (hj : j < 8) (e0 e1 : Nat) : isT (lines 4 j e0 e1) = true := by
  obtain rfl | rfl | rfl | rfl | rfl | rfl | rfl | rfl : j = 0 ∨ j = 1 ∨ j = 2 ∨ j = 3 ∨ j = 4 ∨ j = 5 ∨ j = 6 ∨ j = 7 := by omega
  · exact lin_4_0 e0 e1
  · exact lin_4_1 e0 e1
  · exact lin_4_2 e0 e1
  · exact lin_4_3 e0 e1
  · exact lin_4_4 e0 e1
  · exact lin_4_5 e0 e1
  · exact lin_4_6 e0 e1
  · exact lin_4_7 e0 e1
end Go.Exe.Lin
