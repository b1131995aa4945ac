/- 'CtrlQueue': the kernel's runs, from 15 on. -/
import Derived.Test.YtaojcchakhjgoaaGreatDoorCtlQ
namespace Go.Exe.Ctl
open Go Go.Exe Go.Proofs
theorem que15 (es : Nat → Nat) : isT (queue 15 es) = true := by kernel_rfl
theorem que16 (es : Nat → Nat) : isT (queue 16 es) = true := by kernel_rfl
theorem que17 (es : Nat → Nat) : isT (queue 17 es) = true := by kernel_rfl
theorem que18 (es : Nat → Nat) : isT (queue 18 es) = true := by kernel_rfl
theorem que19 (es : Nat → Nat) : isT (queue 19 es) = true := by kernel_rfl
end Go.Exe.Ctl
