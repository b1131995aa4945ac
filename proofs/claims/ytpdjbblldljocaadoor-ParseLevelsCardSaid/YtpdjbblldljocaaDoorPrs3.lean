/- 'ParseLevels': the kernel runs the law at every pair of operators, first one 3. -/
import Derived.Test.YtpdjbblldljocaaDoorProg
import Derived.Test.YtpdjbblldljocaaDoorPrs0
namespace Go.Exe.Prs
open Go Go.Exe Go.Proofs
theorem lev_3_0 (e0 e1 tp : Nat) : isT (levels 3 0 e0 e1 tp) = true := by kernel_rfl
theorem lev_3_1 (e0 e1 tp : Nat) : isT (levels 3 1 e0 e1 tp) = true := by kernel_rfl
theorem lev_3_2 (e0 e1 tp : Nat) : isT (levels 3 2 e0 e1 tp) = true := by kernel_rfl
theorem lev_3_3 (e0 e1 tp : Nat) : isT (levels 3 3 e0 e1 tp) = true := by kernel_rfl
theorem lev_3_4 (e0 e1 tp : Nat) : isT (levels 3 4 e0 e1 tp) = true := by kernel_rfl
theorem lev_3_5 (e0 e1 tp : Nat) : isT (levels 3 5 e0 e1 tp) = true := by kernel_rfl
theorem lev_3_6 (e0 e1 tp : Nat) : isT (levels 3 6 e0 e1 tp) = true := by kernel_rfl
theorem lev_3_7 (e0 e1 tp : Nat) : isT (levels 3 7 e0 e1 tp) = true := by kernel_rfl
theorem lev_3_8 (e0 e1 tp : Nat) : isT (levels 3 8 e0 e1 tp) = true := by kernel_rfl
theorem lev_3 (j : Nat) (hj : j < 9) (e0 e1 tp : Nat) : isT (levels 3 j e0 e1 tp) = true := by
  obtain rfl | rfl | rfl | rfl | rfl | rfl | rfl | rfl | rfl : j = 0 ∨ j = 1 ∨ j = 2 ∨ j = 3 ∨ j = 4 ∨ j = 5 ∨ j = 6 ∨ j = 7 ∨ j = 8 := by omega
  · exact lev_3_0 e0 e1 tp
  · exact lev_3_1 e0 e1 tp
  · exact lev_3_2 e0 e1 tp
  · exact lev_3_3 e0 e1 tp
  · exact lev_3_4 e0 e1 tp
  · exact lev_3_5 e0 e1 tp
  · exact lev_3_6 e0 e1 tp
  · exact lev_3_7 e0 e1 tp
  · exact lev_3_8 e0 e1 tp
end Go.Exe.Prs
