/- 'ScriptLines': what is known of the law's number; the law's call. -/
import Derived.Test.YtafnooelkiobmaaDoorProg
import Derived.Test.YtafnooelkiobmaaDoorExA
namespace Go.Exe.Lin
open Go Go.Exe Go.Proofs
noncomputable def FF (i j : Nat) : Facts := ⟨fun op x y => match op, x, y with
  | .rem, .sym s, .int .i64 (.ofNat m) => ite' (Nat.beq s 3) (Bool.rec (ite' (Nat.beq m 8) (some (.int .i64 (.ofNat j)))) (some (.int .i64 (.ofNat i))) (Nat.beq m 11))
  | _, _, _ => none, fun s d i => ite' (Nat.beq s 5) (ite' (Nat.beq d 3) (ite' (Nat.beq i 2) (some (.sym 3))))⟩
noncomputable def KK : Known := kn [(39, idxByteO), (43, countO), (54, sameO)]
noncomputable def lines (i j e0 e1 : Nat) : Out := call Tryd.prog (FF i j) KK 100000 3 [.sym 2] (globs 100 [(4, e0, .ifc 131 (.sym 0)), (5, e1, .ifc 131 (.sym 1))])
end Go.Exe.Lin
