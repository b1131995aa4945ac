/- 'ParseLevels': the kernel runs the law at every pair of operators, first one 5. -/
import Derived.Test.YtpdjbblldljocaaDoorProg
import Derived.Test.YtpdjbblldljocaaDoorPrs0
namespace Go.Exe.Prs
open Go Go.Exe Go.Proofs
theorem lev_5_0 (e0 e1 tp : Nat) : isT (levels 5 0 e0 e1 tp) = true := by kernel_rfl
theorem lev_5_1 (e0 e1 tp : Nat) : isT (levels 5 1 e0 e1 tp) = true := by kernel_rfl
theorem lev_5_2 (e0 e1 tp : Nat) : isT (levels 5 2 e0 e1 tp) = true := by kernel_rfl
theorem lev_5_3 (e0 e1 tp : Nat) : isT (levels 5 3 e0 e1 tp) = true := by kernel_rfl
theorem lev_5_4 (e0 e1 tp : Nat) : isT (levels 5 4 e0 e1 tp) = true := by kernel_rfl
theorem lev_5_5 (e0 e1 tp : Nat) : isT (levels 5 5 e0 e1 tp) = true := by kernel_rfl
theorem lev_5_6 (e0 e1 tp : Nat) : isT (levels 5 6 e0 e1 tp) = true := by kernel_rfl
theorem lev_5_7 (e0 e1 tp : Nat) : isT (levels 5 7 e0 e1 tp) = true := by kernel_rfl
theorem lev_5_8 (e0 e1 tp : Nat) : isT (levels 5 8 e0 e1 tp) = true := by kernel_rfl
theorem lev_5 (j : Nat) (hj : j < 9) (e0 e1 tp : Nat) : isT (levels 5 j e0 e1 tp) = true := by
  obtain rfl | rfl | rfl | rfl | rfl | rfl | rfl | rfl | rfl : j = 0 ∨ j = 1 ∨ j = 2 ∨ j = 3 ∨ j = 4 ∨ j = 5 ∨ j = 6 ∨ j = 7 ∨ j = 8 := by omega
  · exact lev_5_0 e0 e1 tp
  · exact lev_5_1 e0 e1 tp
  · exact lev_5_2 e0 e1 tp
  · exact lev_5_3 e0 e1 tp
  · exact lev_5_4 e0 e1 tp
  · exact lev_5_5 e0 e1 tp
  · exact lev_5_6 e0 e1 tp
  · exact lev_5_7 e0 e1 tp
  · exact lev_5_8 e0 e1 tp
end Go.Exe.Prs
