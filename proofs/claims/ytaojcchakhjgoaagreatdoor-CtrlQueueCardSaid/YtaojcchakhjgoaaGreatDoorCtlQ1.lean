/- 'CtrlQueue': the kernel's runs, from 5 on. -/
import Derived.Test.YtaojcchakhjgoaaGreatDoorCtlQ
namespace Go.Exe.Ctl
open Go Go.Exe Go.Proofs
theorem que5 (es : Nat → Nat) : isT (queue 5 es) = true := by kernel_rfl
theorem que6 (es : Nat → Nat) : isT (queue 6 es) = true := by kernel_rfl
theorem que7 (es : Nat → Nat) : isT (queue 7 es) = true := by kernel_rfl
theorem que8 (es : Nat → Nat) : isT (queue 8 es) = true := by kernel_rfl
theorem que9 (es : Nat → Nat) : isT (queue 9 es) = true := by kernel_rfl
end Go.Exe.Ctl
