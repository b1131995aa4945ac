/- 'TxnMany': the calls within Shadow's, run: 0 open. -/
import Derived.Test.YtflmelafomlllaaGreatTxmA
namespace Go.Exe.Txm
open Go Go.Exe Go.Proofs
theorem r9_0 : did9 tab55_0 e9_0 = true := by kernel_rfl
end Go.Exe.Txm
