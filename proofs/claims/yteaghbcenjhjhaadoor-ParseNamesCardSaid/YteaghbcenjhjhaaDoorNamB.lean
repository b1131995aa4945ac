/- 'ParseNames': what the kernel's runs share: open strings by their parts; what is known. -/
import Derived.Test.YteaghbcenjhjhaaDoorProg
import Derived.Test.YteaghbcenjhjhaaDoorExH
namespace Go.Exe.Nam
open Go Go.Exe Go.Proofs
noncomputable def F0 : Facts := { bin := fun _ _ _ => none, conv := fun _ _ _ => none }
noncomputable def G : List (Nat × AV) := [(0, .ifc 84 (.sym 100)), (1, .ifc 84 (.sym 101))]
noncomputable def K0 : Known := kn [(59, idxByteO)]
theorem ans (es : Nat → Nat) : gives (call Tryd.prog F0 K0 100000 5 [] (gmem 400 es G)) (.bool true) = true := by kernel_rfl
/-- A string's parts: bytes that are told; the open word. -/
inductive Pc where
  | lit (l : List Nat)
  | nm

def eqL : List Nat → List Nat → Bool
  | [], [] => true
  | a :: l, b :: m => Nat.beq a b && eqL l m
  | _, _ => false
def eqPc : List Pc → List Pc → Bool
  | [], [] => true
  | .lit a :: l, .lit b :: m => eqL a b && eqPc l m
  | .nm :: l, .nm :: m => eqPc l m
  | _, _ => false

/-- The strings that are open: 'var ', the word, ' = 1;'; 'on ', the word, ' { ', the word, ' = ', the word, '; }', and what stands behind some place. -/
def tabP : List (List Pc) := [[.nm], [.lit [118, 97, 114, 32], .nm], [.lit [118, 97, 114, 32], .nm, .lit [32, 61, 32, 49, 59]],
  [.lit [111, 110, 32], .nm], [.lit [111, 110, 32], .nm, .lit [32, 123, 32]], [.lit [111, 110, 32], .nm, .lit [32, 123, 32], .nm], [.lit [111, 110, 32], .nm, .lit [32, 123, 32], .nm, .lit [32, 61, 32]],
  [.lit [111, 110, 32], .nm, .lit [32, 123, 32], .nm, .lit [32, 61, 32], .nm], [.lit [111, 110, 32], .nm, .lit [32, 123, 32], .nm, .lit [32, 61, 32], .nm, .lit [59, 32, 125]],
  [.lit [123, 32], .nm, .lit [32, 61, 32], .nm, .lit [59, 32, 125]], [.lit [61, 32], .nm, .lit [59, 32, 125]]]
def findP (p : List Pc) : List (List Pc) → Nat → Option Nat
  | [], _ => none
  | q :: l, i => if eqPc q p then some i else findP p l (i + 1)

def totP (n : Nat) : List Pc → Nat
  | [] => 0
  | .lit l :: p => l.length + totP n p
  | .nm :: p => n + totP n p
def idxP (n : Nat) : List Pc → Nat → Option AV
  | [], _ => none
  | .lit l :: p, i => if Nat.blt i l.length then (l[i]?).map fun b => .int .u8 (.ofNat b) else idxP n p (i - l.length)
  | .nm :: p, i => if Nat.blt i n then some (.sym (200 + i)) else idxP n p (i - n)
def dropP (n : Nat) : List Pc → Nat → Option (List Pc)
  | p, 0 => some p
  | [], _ + 1 => none
  | .lit l :: p, k => if Nat.blt k l.length then some (.lit (l.drop k) :: p) else dropP n p (k - l.length)
  | .nm :: p, k => if Nat.blt k n then none else dropP n p (k - n)
def takeP (n : Nat) : List Pc → Nat → Option (List Pc)
  | _, 0 => some []
  | [], _ + 1 => none
  | .lit l :: p, k => if Nat.blt k l.length then some [.lit (l.take k)] else (takeP n p (k - l.length)).map (.lit l :: ·)
  | .nm :: p, k => if Nat.blt k n then none else (takeP n p (k - n)).map (.nm :: ·)
def bytesL' : List Nat → Nat
  | [] => 0
  | b :: l => b + 256 * bytesL' l
/-- A value, by its parts. -/
def clsP (p : List Pc) : Option AV := match p with
  | [] => some (.str 0 0)
  | [.lit l] => some (.str l.length (bytesL' l))
  | p => (findP p tabP 0).map .sym
def unb : Nat → Nat → List Nat
  | 0, _ => []
  | n + 1, x => x % 256 :: unb n (x / 256)

def letN (c : Nat) : Bool := (Nat.ble 97 c && Nat.ble c 122) || (Nat.ble 65 c && Nat.ble c 90) || Nat.beq c 95
def digN (c : Nat) : Bool := Nat.ble 48 c && Nat.ble c 57
/-- Words that stand for something. -/
def keptW : List (Nat × Nat) := [(3, 7496054), (2, 28271), (2, 26217), (4, 1702063205), (5, 435610544247), (5, 500136108641), (3, 6579297), (3, 7103844), (3, 6582125), (4, 1869181552), (4, 1701602409), (4, 1685217640), (5, 461229090915), (2, 28516), (4, 1886351972), (3, 7632239), (3, 7628147), (4, 1819043188)]
/-- A text that the word is not. -/
def notW (n l x : Nat) : Bool := !Nat.beq l n || !letN (x % 256) || keptW.any fun q => Nat.beq q.1 l && Nat.beq q.2 x
noncomputable def catP (p q : List Pc) : Option AV := (findP (p ++ q) tabP 0).map .sym

/-- What is known of a word of n bytes, none of those that stand for something. -/
noncomputable def FNm (n : Nat) : Facts where
  bin := fun op x y => match op, x, y with
    | .add, .sym i, .str l z => bnd (nth tabP i) fun p => catP p [.lit (unb l z)]
    | .add, .str l z, .sym i => bnd (nth tabP i) fun p => catP [.lit (unb l z)] p
    | .add, .sym i, .sym j => bnd (nth tabP i) fun p => bnd (nth tabP j) fun q => catP p q
    | .eql, .sym s, .str l z => ite' (Nat.beq s 0) (ite' (notW n l z) (some (.bool false)))
    | .neq, .sym s, .str l z => ite' (Nat.beq s 0) (ite' (notW n l z) (some (.bool true)))
    | .eql, .str l z, .sym s => ite' (Nat.beq s 0) (ite' (notW n l z) (some (.bool false)))
    | .neq, .str l z, .sym s => ite' (Nat.beq s 0) (ite' (notW n l z) (some (.bool true)))
    | .eql, .sym s, .int .u8 (.ofNat m) => ite' (Nat.ble 200 s) (ite' (Nat.blt s (200 + n)) (ite' (!(letN m || digN m)) (some (.bool false))))
    | _, _, _ => none
  conv := fun _ _ _ => none
  len := fun s => bnd (nth tabP s) fun p => some (.int .i64 (.ofNat (totP n p)))
  idx := fun s i => bnd (nth tabP s) fun p => idxP n p i
  sub := fun s l h => bnd (nth tabP s) fun p => ite' (Nat.ble l (h.getD (totP n p))) (bnd (dropP n p l) fun q => bnd (takeP n q (h.getD (totP n p) - l)) fun r => clsP r)

noncomputable def letO (args : List AV) (h : H) : Out := one args fun a => ite' (hasG 6 h G) (match a with
  | .int .u8 (.ofNat c) => ite' (Nat.ble c 255) (some (.bool (letN c), h))
  | .sym j => ite' (Nat.beq j 200) (some (.bool true, h))
  | _ => none)
noncomputable def wcO (n : Nat) (args : List AV) (h : H) : Out := one args fun a => ite' (hasG 6 h G) (match a with
  | .int .u8 (.ofNat c) => ite' (Nat.ble c 255) (some (.bool (letN c || digN c), h))
  | .sym j => ite' (Nat.ble 200 j) (ite' (Nat.blt j (200 + n)) (some (.bool true, h)))
  | _ => none)
/-- What a function says of the word; it says yes of some texts. -/
noncomputable def atO (v : Bool) (l : List (Nat × Nat)) (args : List AV) (h : H) : Out := one args fun a => ite' (hasG 6 h G) (match a with
  | .sym j => ite' (Nat.beq j 0) (some (.bool v, h))
  | .str n x => ite' (l.any fun q => Nat.beq q.1 n && Nat.beq q.2 x) (some (.bool true, h))
  | _ => none)
noncomputable def K1 (n : Nat) : Known := kn [(59, idxByteO), (4, atO true []), (5, pureO 6 G [([], .bool true)]), (23, letO), (24, wcO n), (26, atO true [(3, 7496054), (2, 28271)]), (27, atO false [(1, 49)])]
noncomputable def K2 : Known := kn [(59, idxByteO), (5, pureO 6 G [([], .bool true)])]
noncomputable def K3 : Known := kn [(59, idxByteO), (4, atO false []), (5, pureO 6 G [([], .bool true)])]
noncomputable def name (n : Nat) (es : Nat → Nat) : Out := call Tryd.prog (FNm n) (K1 n) 100000 3 [.sym 0] (gmem 400 es G)
noncomputable def keep (l x : Nat) (es : Nat → Nat) : Out := call Tryd.prog F0 K2 100000 3 [.str l x] (gmem 400 es G)
theorem nons (es : Nat → Nat) : isT (call Tryd.prog F0 K3 100000 3 [.sym 0] (gmem 400 es G)) = true := by kernel_rfl
end Go.Exe.Nam
