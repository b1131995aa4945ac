/- 'CtrlBusy': what is known of the law's number. -/
import Derived.Test.YtaojcchakhjgoaaGreatDoorCtlS
namespace Go.Exe.Ctl
open Go Go.Exe Go.Proofs
/-- The rest by 5 is i. -/
noncomputable def FB (i : Nat) : Facts := ⟨fun op x y => match op, x, y with
  | .rem, .sym s, .int .u8 (.ofNat m) => ite' (Nat.beq s 0) (ite' (Nat.beq m 5) (some (.int .u8 (.ofNat i))))
  | _, _, _ => none, fun _ _ _ => none⟩
noncomputable def busy (b : Bool) (i : Nat) (es : Nat → Nat) : Out := call Tryz.prog (FB i) K2 100000 6 [.bool b, .sym 0] (gmem 100 es G)
end Go.Exe.Ctl
