/- 'CtrlTells': the kernel's runs at bits true false false. -/
import Derived.Test.YtaojcchakhjgoaaGreatDoorCtlT
namespace Go.Exe.Ctl
open Go Go.Exe Go.Proofs
theorem tells4_0 (es : Nat → Nat) : isT (tells true false false 0 es) = true := by kernel_rfl
theorem tells4_1 (es : Nat → Nat) : isT (tells true false false 1 es) = true := by kernel_rfl
theorem tells4_2 (es : Nat → Nat) : isT (tells true false false 2 es) = true := by kernel_rfl
theorem tells4_3 (es : Nat → Nat) : isT (tells true false false 3 es) = true := by kernel_rfl
end Go.Exe.Ctl
