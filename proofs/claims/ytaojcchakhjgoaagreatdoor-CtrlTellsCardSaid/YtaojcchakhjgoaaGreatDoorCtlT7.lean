/- 'CtrlTells': the kernel's runs at bits true true true. -/
import Derived.Test.YtaojcchakhjgoaaGreatDoorCtlT
namespace Go.Exe.Ctl
open Go Go.Exe Go.Proofs
theorem tells7_0 (es : Nat → Nat) : isT (tells true true true 0 es) = true := by kernel_rfl
theorem tells7_1 (es : Nat → Nat) : isT (tells true true true 1 es) = true := by kernel_rfl
theorem tells7_2 (es : Nat → Nat) : isT (tells true true true 2 es) = true := by kernel_rfl
theorem tells7_3 (es : Nat → Nat) : isT (tells true true true 3 es) = true := by kernel_rfl
end Go.Exe.Ctl
