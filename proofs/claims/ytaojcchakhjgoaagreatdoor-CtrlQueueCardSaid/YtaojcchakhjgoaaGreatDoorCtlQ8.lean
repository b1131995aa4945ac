/- 'CtrlQueue': the kernel's runs, from 40 on. -/
import Derived.Test.YtaojcchakhjgoaaGreatDoorCtlQ
namespace Go.Exe.Ctl
open Go Go.Exe Go.Proofs
theorem que40 (es : Nat → Nat) : isT (queue 40 es) = true := by kernel_rfl
theorem que41 (es : Nat → Nat) : isT (queue 41 es) = true := by kernel_rfl
theorem que42 (es : Nat → Nat) : isT (queue 42 es) = true := by kernel_rfl
theorem que43 (es : Nat → Nat) : isT (queue 43 es) = true := by kernel_rfl
theorem que44 (es : Nat → Nat) : isT (queue 44 es) = true := by kernel_rfl
end Go.Exe.Ctl
