/- 'ShellWrong': what the kernel's runs share; 'answers' is run once; what is known of the two texts. -/
import Derived.Test.YtofdeeojhiccmaaGreatDoorProg
import Derived.Test.YtofdeeojhiccmaaGreatDoorExR
namespace Go.Exe.She
open Go Go.Exe Go.Proofs
noncomputable def F0 : Facts := { bin := fun _ _ _ => none, conv := fun _ _ _ => none }
noncomputable def G : List (Nat × AV) := [(2, .ifc 487 (.sym 100)), (3, .ifc 487 (.sym 101))]
noncomputable def K0 : Known := kn [(90, idxByteO), (243, countO), (67, sameO), (173, makeNoZeroO 5)]
/-- 'load', 'eval', 'run'. -/
noncomputable def isWord (l x : Nat) : Bool := Bool.rec (Bool.rec (strEq l x 3 7239026) true (strEq l x 4 1818326629)) true (strEq l x 4 1684107116)
theorem ans (es : Nat → Nat) : gives (call Tryz.prog F0 K0 100000 4 [] (gmem 100 es G)) (.bool true) = true := by kernel_rfl
noncomputable def K1 (n : Nat) : Known := kn [(90, idxSymO 55 10 (.ofNat n)), (243, countO), (67, sameO), (173, makeNoZeroO 5), (4, pureO 8 G [([], .bool true)])]
/-- A word of n bytes without a newline, that is none of the three: 0 the word, 1 the rest, 53 the rest's length, 54 the word and a newline, 55 all of it; byte i of the word: i and 2; z: is all of it one newline? -/
noncomputable def FN (n : Nat) (z : Bool) : Facts where
  bin := fun op x y => match op, x, y with
    | .gtr, .sym s, .int .i64 m => ite' (Nat.beq s 53) (ite' (ieq m 200) (some (.bool false)))
    | .eql, .sym s, .int .u8 m => ite' (Nat.ble 2 s) (ite' (Nat.ble (Nat.succ s) (Nat.add 2 n)) (ite' (ieq m 10) (some (.bool false))))
    | .eql, .sym s, .str l x => ite' (Nat.beq s 0) (ite' (isWord l x) (some (.bool false)))
    | .eql, .str l x, .sym s => ite' (strEq l x 1 10) (ite' (Nat.beq s 55) (some (.bool z)))
    | .add, .sym s, .str l x => ite' (Nat.beq s 0) (ite' (strEq l x 1 10) (some (.sym 54)))
    | .add, .sym s, .sym t => ite' (Nat.beq s 54) (ite' (Nat.beq t 1) (some (.sym 55)))
    | _, _, _ => none
  conv := fun _ _ _ => none
  len := fun s => Bool.rec (ite' (Nat.beq s 1) (some (.sym 53))) (some (.int .i64 (.ofNat n))) (Nat.beq s 0)
  idx := fun s i => ite' (Nat.beq s 0) (ite' (Nat.ble (Nat.succ i) n) (force (Nat.add 2 i) fun j => some (.sym j)))
  sub := fun s l h => ite' (Nat.beq s 55) (Option.rec (ite' (Nat.beq l (Nat.succ n)) (some (.sym 1))) (fun h => ite' (Nat.beq l 0) (ite' (Nat.beq h n) (some (.sym 0)))) h)
/-- A word with its first newline at j; 52 its length. -/
noncomputable def FJ (j : Nat) : Facts where
  bin := fun op x y => match op, x, y with
    | .gtr, .sym s, .int .i64 m => Bool.rec (ite' (Nat.beq s 53) (ite' (ieq m 200) (some (.bool false)))) (ite' (ieq m 50) (some (.bool false))) (Nat.beq s 52)
    | .lss, .int .i64 i, .sym s => ite' (Nat.beq s 52) (ite' (ile 0 i) (ite' (ile i (.ofNat j)) (some (.bool true))))
    | .eql, .sym s, .int .u8 m => ite' (Nat.ble 2 s) (ite' (Nat.ble s (Nat.add 2 j)) (ite' (ieq m 10) (some (.bool (Nat.beq s (Nat.add 2 j))))))
    | _, _, _ => none
  conv := fun _ _ _ => none
  len := fun s => Bool.rec (ite' (Nat.beq s 1) (some (.sym 53))) (some (.sym 52)) (Nat.beq s 0)
  idx := fun s i => ite' (Nat.beq s 0) (ite' (Nat.ble i j) (force (Nat.add 2 i) fun k => some (.sym k)))
/-- What is too long: the word (b false), the rest (b true). -/
noncomputable def FL (b : Bool) : Facts where
  bin := fun op x y => match op, x, y with
    | .gtr, .sym s, .int .i64 m => Bool.rec (ite' b (ite' (Nat.beq s 53) (ite' (ieq m 200) (some (.bool true))))) (ite' (ieq m 50) (some (.bool (not b)))) (Nat.beq s 52)
    | _, _, _ => none
  conv := fun _ _ _ => none
  len := fun s => Bool.rec (ite' (Nat.beq s 1) (some (.sym 53))) (some (.sym 52)) (Nat.beq s 0)
/-- The rest is not too long. -/
noncomputable def FW : Facts where
  bin := fun op x y => match op, x, y with
    | .gtr, .sym s, .int .i64 m => ite' (Nat.beq s 53) (ite' (ieq m 200) (some (.bool false)))
    | _, _, _ => none
  conv := fun _ _ _ => none
  len := fun s => ite' (Nat.beq s 1) (some (.sym 53))
noncomputable def K2 : Known := kn [(90, idxByteO), (243, countO), (67, sameO), (173, makeNoZeroO 5), (4, pureO 8 G [([], .bool true)])]
noncomputable def law (F : Facts) (K : Known) (word : AV) (es : Nat → Nat) : Out := call Tryz.prog F K 100000 3 [word, .sym 1] (gmem 100 es G)
end Go.Exe.She
