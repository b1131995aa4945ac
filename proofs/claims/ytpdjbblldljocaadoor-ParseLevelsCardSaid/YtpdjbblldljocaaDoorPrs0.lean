/- 'ParseLevels': the kernel runs the law at every pair of operators, first one 0. -/
import Derived.Test.YtpdjbblldljocaaDoorProg
import Derived.Test.YtpdjbblldljocaaDoorExA
namespace Go.Exe.Prs
open Go Go.Exe Go.Proofs
/-- What is known of the law's two numbers: what is left of them by nine. -/
noncomputable def FF (i j : Nat) : Facts := fun op x y => match op, x, y with
  | .rem, .sym s, .int .u8 (.ofNat m) => ite' (Nat.beq m 9) (Bool.rec (ite' (Nat.beq s 3) (some (.int .u8 (.ofNat j)))) (some (.int .u8 (.ofNat i))) (Nat.beq s 2))
  | _, _, _ => none
noncomputable def KK : Known := fun f => Bool.rec none (some idxByteO) (Nat.beq f 62)
/-- The law's call. -/
noncomputable def levels (i j e0 e1 tp : Nat) : Out := call Tryd.prog (FF i j) KK 100000 3 [.sym 2, .sym 3] (glob2 e0 e1 (.ifc tp (.sym 0)) (.ifc tp (.sym 1)) 100)
theorem lev_0_0 (e0 e1 tp : Nat) : isT (levels 0 0 e0 e1 tp) = true := by kernel_rfl
theorem lev_0_1 (e0 e1 tp : Nat) : isT (levels 0 1 e0 e1 tp) = true := by kernel_rfl
theorem lev_0_2 (e0 e1 tp : Nat) : isT (levels 0 2 e0 e1 tp) = true := by kernel_rfl
theorem lev_0_3 (e0 e1 tp : Nat) : isT (levels 0 3 e0 e1 tp) = true := by kernel_rfl
theorem lev_0_4 (e0 e1 tp : Nat) : isT (levels 0 4 e0 e1 tp) = true := by kernel_rfl
theorem lev_0_5 (e0 e1 tp : Nat) : isT (levels 0 5 e0 e1 tp) = true := by kernel_rfl
theorem lev_0_6 (e0 e1 tp : Nat) : isT (levels 0 6 e0 e1 tp) = true := by kernel_rfl
theorem lev_0_7 (e0 e1 tp : Nat) : isT (levels 0 7 e0 e1 tp) = true := by kernel_rfl
theorem lev_0_8 (e0 e1 tp : Nat) : isT (levels 0 8 e0 e1 tp) = true := by kernel_rfl
theorem lev_0 (j : Nat) (hj : j < 9) (e0 e1 tp : Nat) : isT (levels 0 j e0 e1 tp) = true := by
  obtain rfl | rfl | rfl | rfl | rfl | rfl | rfl | rfl | rfl : j = 0 ∨ j = 1 ∨ j = 2 ∨ j = 3 ∨ j = 4 ∨ j = 5 ∨ j = 6 ∨ j = 7 ∨ j = 8 := by omega
  · exact lev_0_0 e0 e1 tp
  · exact lev_0_1 e0 e1 tp
  · exact lev_0_2 e0 e1 tp
  · exact lev_0_3 e0 e1 tp
  · exact lev_0_4 e0 e1 tp
  · exact lev_0_5 e0 e1 tp
  · exact lev_0_6 e0 e1 tp
  · exact lev_0_7 e0 e1 tp
  · exact lev_0_8 e0 e1 tp
end Go.Exe.Prs
