/- 'ParseLevels': the kernel runs the law at every pair of operators, first one 2. -/
import Derived.Test.YtpdjbblldljocaaDoorProg
import Derived.Test.YtpdjbblldljocaaDoorPrs0
namespace Go.Exe.Prs
open Go Go.Exe Go.Proofs
theorem lev_2_0 (e0 e1 tp : Nat) : isT (levels 2 0 e0 e1 tp) = true := by kernel_rfl
theorem lev_2_1 (e0 e1 tp : Nat) : isT (levels 2 1 e0 e1 tp) = true := by kernel_rfl
theorem lev_2_2 (e0 e1 tp : Nat) : isT (levels 2 2 e0 e1 tp) = true := by kernel_rfl
theorem lev_2_3 (e0 e1 tp : Nat) : isT (levels 2 3 e0 e1 tp) = true := by kernel_rfl
theorem lev_2_4 (e0 e1 tp : Nat) : isT (levels 2 4 e0 e1 tp) = true := by kernel_rfl
theorem lev_2_5 (e0 e1 tp : Nat) : isT (levels 2 5 e0 e1 tp) = true := by kernel_rfl
theorem lev_2_6 (e0 e1 tp : Nat) : isT (levels 2 6 e0 e1 tp) = true := by kernel_rfl
theorem lev_2_7 (e0 e1 tp : Nat) : isT (levels 2 7 e0 e1 tp) = true := by kernel_rfl
theorem lev_2_8 (e0 e1 tp : Nat) : isT (levels 2 8 e0 e1 tp) = true := by kernel_rfl
theorem lev_2 (j : Nat) (hj : j < 9) (e0 e1 tp : Nat) : isT (levels 2 j e0 e1 tp) = true := by
  obtain rfl | rfl | rfl | rfl | rfl | rfl | rfl | rfl | rfl : j = 0 ∨ j = 1 ∨ j = 2 ∨ j = 3 ∨ j = 4 ∨ j = 5 ∨ j = 6 ∨ j = 7 ∨ j = 8 := by omega
  · exact lev_2_0 e0 e1 tp
  · exact lev_2_1 e0 e1 tp
  · exact lev_2_2 e0 e1 tp
  · exact lev_2_3 e0 e1 tp
  · exact lev_2_4 e0 e1 tp
  · exact lev_2_5 e0 e1 tp
  · exact lev_2_6 e0 e1 tp
  · exact lev_2_7 e0 e1 tp
  · exact lev_2_8 e0 e1 tp
end Go.Exe.Prs
