/- 'CtrlNone': the kernel's run. -/
import Derived.Test.YtaojcchakhjgoaaGreatDoorCtlA
namespace Go.Exe.Ctl
open Go Go.Exe Go.Proofs
theorem evNone (es : Nat → Nat) : isT (call Tryz.prog F0 K1 100000 7 [.sym 0, .sym 1, .agg (symL 48 2)] (gmem 100 es G)) = true := by kernel_rfl
end Go.Exe.Ctl
