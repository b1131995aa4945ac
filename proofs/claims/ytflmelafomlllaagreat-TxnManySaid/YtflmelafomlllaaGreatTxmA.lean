/- 'TxnMany': what the kernel's runs share; 'answers' is run once. -/
import Derived.Test.YtflmelafomlllaaGreatTxmN
import Derived.Test.YtflmelafomlllaaGreatProg
namespace Go.Exe.Txm
open Go Go.Exe Go.Proofs
noncomputable def F0 : Facts := { bin := fun _ _ _ => none, conv := fun _ _ _ => none }
/-- The rest by 12 is i. -/
noncomputable def FQ (i : Nat) : Facts := { bin := fun op x y => match op, x, y with | .rem, .sym s, .int .u8 (.ofNat m) => ite' (Nat.beq s 0) (ite' (Nat.beq m 12) (some (.int .u8 (.ofNat i)))) | _, _, _ => none, conv := fun _ _ _ => none }
noncomputable def L0 : List (Nat × (List AV → H → Out)) := [(22, sortedO 54 3), (23, keysO 54)]
noncomputable def did (f : Nat) (e : Ent) : Bool := entT (call Tryz.prog F0 (kn L0) 100000 f e.args e.h) e.v e.h'
/-- laid's calls, out of the tables of Apply's and Diff's; Shadow's call, out of that of laid's. -/
noncomputable def L55 (t a : List Ent) : List (Nat × (List AV → H → Out)) := [(116, memoO t), (117, memoO a), (22, sortedO 54 3), (23, keysO 54)]
noncomputable def did55 (t a : List Ent) (e : Ent) : Bool := entT (call Tryz.prog F0 (kn (L55 t a)) 100000 55 e.args e.h) e.v e.h'
noncomputable def L9 (t : List Ent) : List (Nat × (List AV → H → Out)) := [(55, memoO t), (22, sortedO 54 3), (23, keysO 54)]
noncomputable def did9 (t : List Ent) (e : Ent) : Bool := entT (call Tryz.prog F0 (kn (L9 t)) 100000 24 e.args e.h) e.v e.h'
noncomputable def L1 : List (Nat × (List AV → H → Out)) := [(5, memoO tab5), (24, memoO tab9), (6, pureO Tryz.prog.globals.size [] [([], .bool true)]), (22, sortedO 54 3), (23, keysO 54)]
noncomputable def many (i : Nat) : Out := call Tryz.prog (FQ i) (kn L1) 100000 3 [.sym 0] ⟨.leaf, 100⟩
end Go.Exe.Txm
