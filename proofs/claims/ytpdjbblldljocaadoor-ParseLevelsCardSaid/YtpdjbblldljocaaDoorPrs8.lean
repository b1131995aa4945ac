/- 'ParseLevels': the kernel runs the law at every pair of operators, first one 8. -/
import Derived.Test.YtpdjbblldljocaaDoorProg
import Derived.Test.YtpdjbblldljocaaDoorPrs0
namespace Go.Exe.Prs
open Go Go.Exe Go.Proofs
theorem lev_8_0 (e0 e1 tp : Nat) : isT (levels 8 0 e0 e1 tp) = true := by kernel_rfl
theorem lev_8_1 (e0 e1 tp : Nat) : isT (levels 8 1 e0 e1 tp) = true := by kernel_rfl
theorem lev_8_2 (e0 e1 tp : Nat) : isT (levels 8 2 e0 e1 tp) = true := by kernel_rfl
theorem lev_8_3 (e0 e1 tp : Nat) : isT (levels 8 3 e0 e1 tp) = true := by kernel_rfl
theorem lev_8_4 (e0 e1 tp : Nat) : isT (levels 8 4 e0 e1 tp) = true := by kernel_rfl
theorem lev_8_5 (e0 e1 tp : Nat) : isT (levels 8 5 e0 e1 tp) = true := by kernel_rfl
theorem lev_8_6 (e0 e1 tp : Nat) : isT (levels 8 6 e0 e1 tp) = true := by kernel_rfl
theorem lev_8_7 (e0 e1 tp : Nat) : isT (levels 8 7 e0 e1 tp) = true := by kernel_rfl
theorem lev_8_8 (e0 e1 tp : Nat) : isT (levels 8 8 e0 e1 tp) = true := by kernel_rfl
theorem lev_8 (j : Nat) (hj : j < 9) (e0 e1 tp : Nat) : isT (levels 8 j e0 e1 tp) = true := by
  obtain rfl | rfl | rfl | rfl | rfl | rfl | rfl | rfl | rfl : j = 0 ∨ j = 1 ∨ j = 2 ∨ j = 3 ∨ j = 4 ∨ j = 5 ∨ j = 6 ∨ j = 7 ∨ j = 8 := by omega
  · exact lev_8_0 e0 e1 tp
  · exact lev_8_1 e0 e1 tp
  · exact lev_8_2 e0 e1 tp
  · exact lev_8_3 e0 e1 tp
  · exact lev_8_4 e0 e1 tp
  · exact lev_8_5 e0 e1 tp
  · exact lev_8_6 e0 e1 tp
  · exact lev_8_7 e0 e1 tp
  · exact lev_8_8 e0 e1 tp
end Go.Exe.Prs
