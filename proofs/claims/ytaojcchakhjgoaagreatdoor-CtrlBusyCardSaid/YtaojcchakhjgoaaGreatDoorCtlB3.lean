/- 'CtrlBusy': the kernel's runs at 3. -/
import Derived.Test.YtaojcchakhjgoaaGreatDoorCtlB
namespace Go.Exe.Ctl
open Go Go.Exe Go.Proofs
theorem busy_false_3 (es : Nat → Nat) : isT (busy false 3 es) = true := by kernel_rfl
theorem busy_true_3 (es : Nat → Nat) : isT (busy true 3 es) = true := by kernel_rfl
end Go.Exe.Ctl
