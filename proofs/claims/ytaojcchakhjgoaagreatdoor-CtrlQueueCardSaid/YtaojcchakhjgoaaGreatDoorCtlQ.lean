/- 'CtrlQueue': what is known of the law's number. -/
import Derived.Test.YtaojcchakhjgoaaGreatDoorCtlA
namespace Go.Exe.Ctl
open Go Go.Exe Go.Proofs
/-- The rest by 70 is i. -/
noncomputable def FQ (i : Nat) : Facts := ⟨fun op x y => match op, x, y with
  | .rem, .sym s, .int .u8 (.ofNat m) => ite' (Nat.beq s 0) (ite' (Nat.beq m 70) (some (.int .u8 (.ofNat i))))
  | _, _, _ => none, fun _ _ _ => none⟩
noncomputable def queue (i : Nat) (es : Nat → Nat) : Out := call Tryz.prog (FQ i) K1 100000 4 [.sym 0] (gmem 100 es G)
end Go.Exe.Ctl
