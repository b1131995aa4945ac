/- 'CtrlQueue': the kernel's runs, from 60 on. -/
import Derived.Test.YtaojcchakhjgoaaGreatDoorCtlQ
namespace Go.Exe.Ctl
open Go Go.Exe Go.Proofs
theorem que60 (es : Nat → Nat) : isT (queue 60 es) = true := by kernel_rfl
theorem que61 (es : Nat → Nat) : isT (queue 61 es) = true := by kernel_rfl
theorem que62 (es : Nat → Nat) : isT (queue 62 es) = true := by kernel_rfl
theorem que63 (es : Nat → Nat) : isT (queue 63 es) = true := by kernel_rfl
theorem que64 (es : Nat → Nat) : isT (queue 64 es) = true := by kernel_rfl
end Go.Exe.Ctl
