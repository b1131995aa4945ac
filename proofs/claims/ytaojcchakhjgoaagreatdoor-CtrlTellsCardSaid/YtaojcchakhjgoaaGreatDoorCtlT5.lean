/- 'CtrlTells': the kernel's runs at bits true false true. -/
import Derived.Test.YtaojcchakhjgoaaGreatDoorCtlT
namespace Go.Exe.Ctl
open Go Go.Exe Go.Proofs
theorem tells5_0 (es : Nat → Nat) : isT (tells true false true 0 es) = true := by kernel_rfl
theorem tells5_1 (es : Nat → Nat) : isT (tells true false true 1 es) = true := by kernel_rfl
theorem tells5_2 (es : Nat → Nat) : isT (tells true false true 2 es) = true := by kernel_rfl
theorem tells5_3 (es : Nat → Nat) : isT (tells true false true 3 es) = true := by kernel_rfl
end Go.Exe.Ctl
