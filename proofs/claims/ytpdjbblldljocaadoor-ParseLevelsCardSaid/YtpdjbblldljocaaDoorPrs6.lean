/- 'ParseLevels': the kernel runs the law at every pair of operators, first one 6. -/
import Derived.Test.YtpdjbblldljocaaDoorProg
import Derived.Test.YtpdjbblldljocaaDoorPrs0
namespace Go.Exe.Prs
open Go Go.Exe Go.Proofs
theorem lev_6_0 (e0 e1 tp : Nat) : isT (levels 6 0 e0 e1 tp) = true := by kernel_rfl
theorem lev_6_1 (e0 e1 tp : Nat) : isT (levels 6 1 e0 e1 tp) = true := by kernel_rfl
theorem lev_6_2 (e0 e1 tp : Nat) : isT (levels 6 2 e0 e1 tp) = true := by kernel_rfl
theorem lev_6_3 (e0 e1 tp : Nat) : isT (levels 6 3 e0 e1 tp) = true := by kernel_rfl
theorem lev_6_4 (e0 e1 tp : Nat) : isT (levels 6 4 e0 e1 tp) = true := by kernel_rfl
theorem lev_6_5 (e0 e1 tp : Nat) : isT (levels 6 5 e0 e1 tp) = true := by kernel_rfl
theorem lev_6_6 (e0 e1 tp : Nat) : isT (levels 6 6 e0 e1 tp) = true := by kernel_rfl
theorem lev_6_7 (e0 e1 tp : Nat) : isT (levels 6 7 e0 e1 tp) = true := by kernel_rfl
theorem lev_6_8 (e0 e1 tp : Nat) : isT (levels 6 8 e0 e1 tp) = true := by kernel_rfl
theorem lev_6 (j : Nat) (hj : j < 9) (e0 e1 tp : Nat) : isT (levels 6 j e0 e1 tp) = true := by
  obtain rfl | rfl | rfl | rfl | rfl | rfl | rfl | rfl | rfl : j = 0 ∨ j = 1 ∨ j = 2 ∨ j = 3 ∨ j = 4 ∨ j = 5 ∨ j = 6 ∨ j = 7 ∨ j = 8 := by omega
  · exact lev_6_0 e0 e1 tp
  · exact lev_6_1 e0 e1 tp
  · exact lev_6_2 e0 e1 tp
  · exact lev_6_3 e0 e1 tp
  · exact lev_6_4 e0 e1 tp
  · exact lev_6_5 e0 e1 tp
  · exact lev_6_6 e0 e1 tp
  · exact lev_6_7 e0 e1 tp
  · exact lev_6_8 e0 e1 tp
end Go.Exe.Prs
