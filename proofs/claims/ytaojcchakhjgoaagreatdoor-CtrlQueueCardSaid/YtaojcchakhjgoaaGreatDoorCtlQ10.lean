/- 'CtrlQueue': the kernel's runs, from 50 on. -/
import Derived.Test.YtaojcchakhjgoaaGreatDoorCtlQ
namespace Go.Exe.Ctl
open Go Go.Exe Go.Proofs
theorem que50 (es : Nat → Nat) : isT (queue 50 es) = true := by kernel_rfl
theorem que51 (es : Nat → Nat) : isT (queue 51 es) = true := by kernel_rfl
theorem que52 (es : Nat → Nat) : isT (queue 52 es) = true := by kernel_rfl
theorem que53 (es : Nat → Nat) : isT (queue 53 es) = true := by kernel_rfl
theorem que54 (es : Nat → Nat) : isT (queue 54 es) = true := by kernel_rfl
end Go.Exe.Ctl
