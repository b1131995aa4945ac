/- 'CtrlBusy': the kernel's runs at 1. -/
import Derived.Test.YtaojcchakhjgoaaGreatDoorCtlB
namespace Go.Exe.Ctl
open Go Go.Exe Go.Proofs
theorem busy_false_1 (es : Nat → Nat) : isT (busy false 1 es) = true := by kernel_rfl
theorem busy_true_1 (es : Nat → Nat) : isT (busy true 1 es) = true := by kernel_rfl
end Go.Exe.Ctl
