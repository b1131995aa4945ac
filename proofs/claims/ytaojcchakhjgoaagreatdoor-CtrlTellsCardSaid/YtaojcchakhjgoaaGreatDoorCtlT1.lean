/- 'CtrlTells': the kernel's runs at bits false false true. -/
import Derived.Test.YtaojcchakhjgoaaGreatDoorCtlT
namespace Go.Exe.Ctl
open Go Go.Exe Go.Proofs
theorem tells1_0 (es : Nat → Nat) : isT (tells false false true 0 es) = true := by kernel_rfl
theorem tells1_1 (es : Nat → Nat) : isT (tells false false true 1 es) = true := by kernel_rfl
theorem tells1_2 (es : Nat → Nat) : isT (tells false false true 2 es) = true := by kernel_rfl
theorem tells1_3 (es : Nat → Nat) : isT (tells false false true 3 es) = true := by kernel_rfl
end Go.Exe.Ctl
