/- 'CtrlQueue': the kernel's runs, from 65 on. -/
import Derived.Test.YtaojcchakhjgoaaGreatDoorCtlQ
namespace Go.Exe.Ctl
open Go Go.Exe Go.Proofs
theorem que65 (es : Nat → Nat) : isT (queue 65 es) = true := by kernel_rfl
theorem que66 (es : Nat → Nat) : isT (queue 66 es) = true := by kernel_rfl
theorem que67 (es : Nat → Nat) : isT (queue 67 es) = true := by kernel_rfl
theorem que68 (es : Nat → Nat) : isT (queue 68 es) = true := by kernel_rfl
theorem que69 (es : Nat → Nat) : isT (queue 69 es) = true := by kernel_rfl
end Go.Exe.Ctl
