/- 'ParseLevels': the kernel runs the law at every pair of operators, first one 1. -/
import Derived.Test.YtpdjbblldljocaaDoorProg
import Derived.Test.YtpdjbblldljocaaDoorPrs0
namespace Go.Exe.Prs
open Go Go.Exe Go.Proofs
theorem lev_1_0 (e0 e1 tp : Nat) : isT (levels 1 0 e0 e1 tp) = true := by kernel_rfl
theorem lev_1_1 (e0 e1 tp : Nat) : isT (levels 1 1 e0 e1 tp) = true := by kernel_rfl
theorem lev_1_2 (e0 e1 tp : Nat) : isT (levels 1 2 e0 e1 tp) = true := by kernel_rfl
theorem lev_1_3 (e0 e1 tp : Nat) : isT (levels 1 3 e0 e1 tp) = true := by kernel_rfl
theorem lev_1_4 (e0 e1 tp : Nat) : isT (levels 1 4 e0 e1 tp) = true := by kernel_rfl
theorem lev_1_5 (e0 e1 tp : Nat) : isT (levels 1 5 e0 e1 tp) = true := by kernel_rfl
theorem lev_1_6 (e0 e1 tp : Nat) : isT (levels 1 6 e0 e1 tp) = true := by kernel_rfl
theorem lev_1_7 (e0 e1 tp : Nat) : isT (levels 1 7 e0 e1 tp) = true := by kernel_rfl
theorem lev_1_8 (e0 e1 tp : Nat) : isT (levels 1 8 e0 e1 tp) = true := by kernel_rfl
theorem lev_1 (j : Nat) (hj : j < 9) (e0 e1 tp : Nat) : isT (levels 1 j e0 e1 tp) = true := by
  obtain rfl | rfl | rfl | rfl | rfl | rfl | rfl | rfl | rfl : j = 0 ∨ j = 1 ∨ j = 2 ∨ j = 3 ∨ j = 4 ∨ j = 5 ∨ j = 6 ∨ j = 7 ∨ j = 8 := by omega
  · exact lev_1_0 e0 e1 tp
  · exact lev_1_1 e0 e1 tp
  · exact lev_1_2 e0 e1 tp
  · exact lev_1_3 e0 e1 tp
  · exact lev_1_4 e0 e1 tp
  · exact lev_1_5 e0 e1 tp
  · exact lev_1_6 e0 e1 tp
  · exact lev_1_7 e0 e1 tp
  · exact lev_1_8 e0 e1 tp
end Go.Exe.Prs
