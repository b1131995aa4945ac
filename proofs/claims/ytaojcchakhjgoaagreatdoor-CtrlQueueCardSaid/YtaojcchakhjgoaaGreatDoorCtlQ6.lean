/- 'CtrlQueue': the kernel's runs, from 30 on. -/
import Derived.Test.YtaojcchakhjgoaaGreatDoorCtlQ
namespace Go.Exe.Ctl
open Go Go.Exe Go.Proofs
theorem que30 (es : Nat → Nat) : isT (queue 30 es) = true := by kernel_rfl
theorem que31 (es : Nat → Nat) : isT (queue 31 es) = true := by kernel_rfl
theorem que32 (es : Nat → Nat) : isT (queue 32 es) = true := by kernel_rfl
theorem que33 (es : Nat → Nat) : isT (queue 33 es) = true := by kernel_rfl
theorem que34 (es : Nat → Nat) : isT (queue 34 es) = true := by kernel_rfl
end Go.Exe.Ctl
