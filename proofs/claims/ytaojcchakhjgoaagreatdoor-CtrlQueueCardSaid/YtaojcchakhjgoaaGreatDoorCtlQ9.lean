/- 'CtrlQueue': the kernel's runs, from 45 on. -/
import Derived.Test.YtaojcchakhjgoaaGreatDoorCtlQ
namespace Go.Exe.Ctl
open Go Go.Exe Go.Proofs
theorem que45 (es : Nat → Nat) : isT (queue 45 es) = true := by kernel_rfl
theorem que46 (es : Nat → Nat) : isT (queue 46 es) = true := by kernel_rfl
theorem que47 (es : Nat → Nat) : isT (queue 47 es) = true := by kernel_rfl
theorem que48 (es : Nat → Nat) : isT (queue 48 es) = true := by kernel_rfl
theorem que49 (es : Nat → Nat) : isT (queue 49 es) = true := by kernel_rfl
end Go.Exe.Ctl
