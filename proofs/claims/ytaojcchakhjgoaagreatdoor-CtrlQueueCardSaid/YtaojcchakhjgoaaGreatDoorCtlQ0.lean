/- 'CtrlQueue': the kernel's runs, from 0 on. -/
import Derived.Test.YtaojcchakhjgoaaGreatDoorCtlQ
namespace Go.Exe.Ctl
open Go Go.Exe Go.Proofs
theorem que0 (es : Nat → Nat) : isT (queue 0 es) = true := by kernel_rfl
theorem que1 (es : Nat → Nat) : isT (queue 1 es) = true := by kernel_rfl
theorem que2 (es : Nat → Nat) : isT (queue 2 es) = true := by kernel_rfl
theorem que3 (es : Nat → Nat) : isT (queue 3 es) = true := by kernel_rfl
theorem que4 (es : Nat → Nat) : isT (queue 4 es) = true := by kernel_rfl
end Go.Exe.Ctl
