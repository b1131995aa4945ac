/- 'CtrlBusy': the kernel's runs at 0. -/
import Derived.Test.YtaojcchakhjgoaaGreatDoorCtlB
namespace Go.Exe.Ctl
open Go Go.Exe Go.Proofs
theorem busy_false_0 (es : Nat → Nat) : isT (busy false 0 es) = true := by kernel_rfl
theorem busy_true_0 (es : Nat → Nat) : isT (busy true 0 es) = true := by kernel_rfl
end Go.Exe.Ctl
