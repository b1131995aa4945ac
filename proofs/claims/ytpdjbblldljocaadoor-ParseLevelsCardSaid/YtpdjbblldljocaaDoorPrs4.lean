/- 'ParseLevels': the kernel runs the law at every pair of operators, first one 4. -/
import Derived.Test.YtpdjbblldljocaaDoorProg
import Derived.Test.YtpdjbblldljocaaDoorPrs0
namespace Go.Exe.Prs
open Go Go.Exe Go.Proofs
theorem lev_4_0 (e0 e1 tp : Nat) : isT (levels 4 0 e0 e1 tp) = true := by kernel_rfl
theorem lev_4_1 (e0 e1 tp : Nat) : isT (levels 4 1 e0 e1 tp) = true := by kernel_rfl
theorem lev_4_2 (e0 e1 tp : Nat) : isT (levels 4 2 e0 e1 tp) = true := by kernel_rfl
theorem lev_4_3 (e0 e1 tp : Nat) : isT (levels 4 3 e0 e1 tp) = true := by kernel_rfl
theorem lev_4_4 (e0 e1 tp : Nat) : isT (levels 4 4 e0 e1 tp) = true := by kernel_rfl
theorem lev_4_5 (e0 e1 tp : Nat) : isT (levels 4 5 e0 e1 tp) = true := by kernel_rfl
theorem lev_4_6 (e0 e1 tp : Nat) : isT (levels 4 6 e0 e1 tp) = true := by kernel_rfl
theorem lev_4_7 (e0 e1 tp : Nat) : isT (levels 4 7 e0 e1 tp) = true := by kernel_rfl
theorem lev_4_8 (e0 e1 tp : Nat) : isT (levels 4 8 e0 e1 tp) = true := by kernel_rfl
theorem lev_4 (j : Nat) (hj : j < 9) (e0 e1 tp : Nat) : isT (levels 4 j e0 e1 tp) = true := by
  obtain rfl | rfl | rfl | rfl | rfl | rfl | rfl | rfl | rfl : j = 0 ∨ j = 1 ∨ j = 2 ∨ j = 3 ∨ j = 4 ∨ j = 5 ∨ j = 6 ∨ j = 7 ∨ j = 8 := by omega
  · exact lev_4_0 e0 e1 tp
  · exact lev_4_1 e0 e1 tp
  · exact lev_4_2 e0 e1 tp
  · exact lev_4_3 e0 e1 tp
  · exact lev_4_4 e0 e1 tp
  · exact lev_4_5 e0 e1 tp
  · exact lev_4_6 e0 e1 tp
  · exact lev_4_7 e0 e1 tp
  · exact lev_4_8 e0 e1 tp
end Go.Exe.Prs
