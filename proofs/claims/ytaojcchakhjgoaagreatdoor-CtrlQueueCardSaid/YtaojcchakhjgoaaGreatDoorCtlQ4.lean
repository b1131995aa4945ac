/- 'CtrlQueue': the kernel's runs, from 20 on. -/
import Derived.Test.YtaojcchakhjgoaaGreatDoorCtlQ
namespace Go.Exe.Ctl
open Go Go.Exe Go.Proofs
theorem que20 (es : Nat → Nat) : isT (queue 20 es) = true := by kernel_rfl
theorem que21 (es : Nat → Nat) : isT (queue 21 es) = true := by kernel_rfl
theorem que22 (es : Nat → Nat) : isT (queue 22 es) = true := by kernel_rfl
theorem que23 (es : Nat → Nat) : isT (queue 23 es) = true := by kernel_rfl
theorem que24 (es : Nat → Nat) : isT (queue 24 es) = true := by kernel_rfl
end Go.Exe.Ctl
