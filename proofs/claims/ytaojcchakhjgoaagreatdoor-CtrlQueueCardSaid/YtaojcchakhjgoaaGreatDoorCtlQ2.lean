/- 'CtrlQueue': the kernel's runs, from 10 on. -/
import Derived.Test.YtaojcchakhjgoaaGreatDoorCtlQ
namespace Go.Exe.Ctl
open Go Go.Exe Go.Proofs
theorem que10 (es : Nat → Nat) : isT (queue 10 es) = true := by kernel_rfl
theorem que11 (es : Nat → Nat) : isT (queue 11 es) = true := by kernel_rfl
theorem que12 (es : Nat → Nat) : isT (queue 12 es) = true := by kernel_rfl
theorem que13 (es : Nat → Nat) : isT (queue 13 es) = true := by kernel_rfl
theorem que14 (es : Nat → Nat) : isT (queue 14 es) = true := by kernel_rfl
end Go.Exe.Ctl
