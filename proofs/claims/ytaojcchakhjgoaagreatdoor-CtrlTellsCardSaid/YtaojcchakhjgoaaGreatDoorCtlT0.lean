/- 'CtrlTells': the kernel's runs at bits false false false. -/
import Derived.Test.YtaojcchakhjgoaaGreatDoorCtlT
namespace Go.Exe.Ctl
open Go Go.Exe Go.Proofs
theorem tells0_0 (es : Nat → Nat) : isT (tells false false false 0 es) = true := by kernel_rfl
theorem tells0_1 (es : Nat → Nat) : isT (tells false false false 1 es) = true := by kernel_rfl
theorem tells0_2 (es : Nat → Nat) : isT (tells false false false 2 es) = true := by kernel_rfl
theorem tells0_3 (es : Nat → Nat) : isT (tells false false false 3 es) = true := by kernel_rfl
end Go.Exe.Ctl
