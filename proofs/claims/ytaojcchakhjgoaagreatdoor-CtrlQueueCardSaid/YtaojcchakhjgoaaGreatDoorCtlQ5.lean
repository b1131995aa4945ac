/- 'CtrlQueue': the kernel's runs, from 25 on. -/
import Derived.Test.YtaojcchakhjgoaaGreatDoorCtlQ
namespace Go.Exe.Ctl
open Go Go.Exe Go.Proofs
theorem que25 (es : Nat → Nat) : isT (queue 25 es) = true := by kernel_rfl
theorem que26 (es : Nat → Nat) : isT (queue 26 es) = true := by kernel_rfl
theorem que27 (es : Nat → Nat) : isT (queue 27 es) = true := by kernel_rfl
theorem que28 (es : Nat → Nat) : isT (queue 28 es) = true := by kernel_rfl
theorem que29 (es : Nat → Nat) : isT (queue 29 es) = true := by kernel_rfl
end Go.Exe.Ctl
