/- 'CtrlTells': the kernel's runs at bits false true true. -/
import Derived.Test.YtaojcchakhjgoaaGreatDoorCtlT
namespace Go.Exe.Ctl
open Go Go.Exe Go.Proofs
theorem tells3_0 (es : Nat → Nat) : isT (tells false true true 0 es) = true := by kernel_rfl
theorem tells3_1 (es : Nat → Nat) : isT (tells false true true 1 es) = true := by kernel_rfl
theorem tells3_2 (es : Nat → Nat) : isT (tells false true true 2 es) = true := by kernel_rfl
theorem tells3_3 (es : Nat → Nat) : isT (tells false true true 3 es) = true := by kernel_rfl
end Go.Exe.Ctl
