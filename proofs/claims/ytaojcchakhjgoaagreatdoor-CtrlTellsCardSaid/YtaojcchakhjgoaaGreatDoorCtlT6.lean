/- 'CtrlTells': the kernel's runs at bits true true false. -/
import Derived.Test.YtaojcchakhjgoaaGreatDoorCtlT
namespace Go.Exe.Ctl
open Go Go.Exe Go.Proofs
theorem tells6_0 (es : Nat → Nat) : isT (tells true true false 0 es) = true := by kernel_rfl
theorem tells6_1 (es : Nat → Nat) : isT (tells true true false 1 es) = true := by kernel_rfl
theorem tells6_2 (es : Nat → Nat) : isT (tells true true false 2 es) = true := by kernel_rfl
theorem tells6_3 (es : Nat → Nat) : isT (tells true true false 3 es) = true := by kernel_rfl
end Go.Exe.Ctl
