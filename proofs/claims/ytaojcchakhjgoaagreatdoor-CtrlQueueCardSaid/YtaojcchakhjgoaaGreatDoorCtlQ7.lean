/- 'CtrlQueue': the kernel's runs, from 35 on. -/
import Derived.Test.YtaojcchakhjgoaaGreatDoorCtlQ
namespace Go.Exe.Ctl
open Go Go.Exe Go.Proofs
theorem que35 (es : Nat → Nat) : isT (queue 35 es) = true := by kernel_rfl
theorem que36 (es : Nat → Nat) : isT (queue 36 es) = true := by kernel_rfl
theorem que37 (es : Nat → Nat) : isT (queue 37 es) = true := by kernel_rfl
theorem que38 (es : Nat → Nat) : isT (queue 38 es) = true := by kernel_rfl
theorem que39 (es : Nat → Nat) : isT (queue 39 es) = true := by kernel_rfl
end Go.Exe.Ctl
