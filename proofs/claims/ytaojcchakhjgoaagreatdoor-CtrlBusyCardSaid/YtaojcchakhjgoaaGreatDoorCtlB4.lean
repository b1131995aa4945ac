/- 'CtrlBusy': the kernel's runs at 4. -/
import Derived.Test.YtaojcchakhjgoaaGreatDoorCtlB
namespace Go.Exe.Ctl
open Go Go.Exe Go.Proofs
theorem busy_false_4 (es : Nat → Nat) : isT (busy false 4 es) = true := by kernel_rfl
theorem busy_true_4 (es : Nat → Nat) : isT (busy true 4 es) = true := by kernel_rfl
end Go.Exe.Ctl
