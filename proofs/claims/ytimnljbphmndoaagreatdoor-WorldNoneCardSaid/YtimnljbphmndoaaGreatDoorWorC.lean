/- 'WorldNone': the kernel's runs: the step's kind by 3. -/
import Derived.Test.YtimnljbphmndoaaGreatDoorWorA
namespace Go.Exe.Wor
open Go Go.Exe Go.Proofs
/-- The last two bits of what is open at 0. -/
noncomputable def FW (j : Nat) : Facts where
  bin := fun op x y => match op, x, y with
    | .and, .sym s, .int .i64 m => ite' (Nat.beq s 0) (ite' (ieq m 3) (some (.int .i64 (.ofNat j))))
    | _, _, _ => none
  conv := fun _ _ _ => none
noncomputable def law (j : Nat) (es : Nat → Nat) : Out := call Tryz.prog (FW j) K1 100000 3 [.agg (symL 16 0), .sym 16] (gmem 100 es G)
theorem ev0 (es : Nat → Nat) : isT (law 0 es) = true := by kernel_rfl
theorem ev1 (es : Nat → Nat) : isT (law 1 es) = true := by kernel_rfl
theorem ev2 (es : Nat → Nat) : isT (law 2 es) = true := by kernel_rfl
theorem ev3 (es : Nat → Nat) : isT (law 3 es) = true := by kernel_rfl
end Go.Exe.Wor
