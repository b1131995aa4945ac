/- 'CtrlTells': the kernel's runs at bits false true false. -/
import Derived.Test.YtaojcchakhjgoaaGreatDoorCtlT
namespace Go.Exe.Ctl
open Go Go.Exe Go.Proofs
theorem tells2_0 (es : Nat → Nat) : isT (tells false true false 0 es) = true := by kernel_rfl
theorem tells2_1 (es : Nat → Nat) : isT (tells false true false 1 es) = true := by kernel_rfl
theorem tells2_2 (es : Nat → Nat) : isT (tells false true false 2 es) = true := by kernel_rfl
theorem tells2_3 (es : Nat → Nat) : isT (tells false true false 3 es) = true := by kernel_rfl
end Go.Exe.Ctl
