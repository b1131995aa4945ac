/- 'CtrlQueue': the kernel's runs, from 55 on. -/
import Derived.Test.YtaojcchakhjgoaaGreatDoorCtlQ
namespace Go.Exe.Ctl
open Go Go.Exe Go.Proofs
theorem que55 (es : Nat → Nat) : isT (queue 55 es) = true := by kernel_rfl
theorem que56 (es : Nat → Nat) : isT (queue 56 es) = true := by kernel_rfl
theorem que57 (es : Nat → Nat) : isT (queue 57 es) = true := by kernel_rfl
theorem que58 (es : Nat → Nat) : isT (queue 58 es) = true := by kernel_rfl
theorem que59 (es : Nat → Nat) : isT (queue 59 es) = true := by kernel_rfl
end Go.Exe.Ctl
