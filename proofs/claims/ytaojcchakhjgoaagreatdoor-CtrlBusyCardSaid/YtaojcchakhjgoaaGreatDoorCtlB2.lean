/- 'CtrlBusy': the kernel's runs at 2. -/
import Derived.Test.YtaojcchakhjgoaaGreatDoorCtlB
namespace Go.Exe.Ctl
open Go Go.Exe Go.Proofs
theorem busy_false_2 (es : Nat → Nat) : isT (busy false 2 es) = true := by kernel_rfl
theorem busy_true_2 (es : Nat → Nat) : isT (busy true 2 es) = true := by kernel_rfl
end Go.Exe.Ctl
