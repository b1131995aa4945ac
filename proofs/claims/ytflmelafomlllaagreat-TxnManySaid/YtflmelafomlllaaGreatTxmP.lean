/- 'TxnMany': 'answers', run. -/
import Derived.Test.YtflmelafomlllaaGreatTxmA
namespace Go.Exe.Txm
open Go Go.Exe Go.Proofs
theorem ans (es : Nat → Nat) : gives (call Tryz.prog F0 (kn L0) 100000 6 [] (gmem 100 es [])) (.bool true) = true := by kernel_rfl
end Go.Exe.Txm
