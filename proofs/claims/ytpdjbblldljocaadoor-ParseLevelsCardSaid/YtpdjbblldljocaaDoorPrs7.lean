/- 'ParseLevels': the kernel runs the law at every pair of operators, first one 7. -/
import Derived.Test.YtpdjbblldljocaaDoorProg
import Derived.Test.YtpdjbblldljocaaDoorPrs0
namespace Go.Exe.Prs
open Go Go.Exe Go.Proofs
theorem lev_7_0 (e0 e1 tp : Nat) : isT (levels 7 0 e0 e1 tp) = true := by kernel_rfl
theorem lev_7_1 (e0 e1 tp : Nat) : isT (levels 7 1 e0 e1 tp) = true := by kernel_rfl
theorem lev_7_2 (e0 e1 tp : Nat) : isT (levels 7 2 e0 e1 tp) = true := by kernel_rfl
theorem lev_7_3 (e0 e1 tp : Nat) : isT (levels 7 3 e0 e1 tp) = true := by kernel_rfl
theorem lev_7_4 (e0 e1 tp : Nat) : isT (levels 7 4 e0 e1 tp) = true := by kernel_rfl
theorem lev_7_5 (e0 e1 tp : Nat) : isT (levels 7 5 e0 e1 tp) = true := by kernel_rfl
theorem lev_7_6 (e0 e1 tp : Nat) : isT (levels 7 6 e0 e1 tp) = true := by kernel_rfl
theorem lev_7_7 (e0 e1 tp : Nat) : isT (levels 7 7 e0 e1 tp) = true := by kernel_rfl
theorem lev_7_8 (e0 e1 tp : Nat) : isT (levels 7 8 e0 e1 tp) = true := by kernel_rfl
theorem lev_7 (j : Nat) (hj : j < 9) (e0 e1 tp : Nat) : isT (levels 7 j e0 e1 tp) = true := by
  obtain rfl | rfl | rfl | rfl | rfl | rfl | rfl | rfl | rfl : j = 0 ∨ j = 1 ∨ j = 2 ∨ j = 3 ∨ j = 4 ∨ j = 5 ∨ j = 6 ∨ j = 7 ∨ j = 8 := by omega
  · exact lev_7_0 e0 e1 tp
  · exact lev_7_1 e0 e1 tp
  · exact lev_7_2 e0 e1 tp
  · exact lev_7_3 e0 e1 tp
  · exact lev_7_4 e0 e1 tp
  · exact lev_7_5 e0 e1 tp
  · exact lev_7_6 e0 e1 tp
  · exact lev_7_7 e0 e1 tp
  · exact lev_7_8 e0 e1 tp
end Go.Exe.Prs
