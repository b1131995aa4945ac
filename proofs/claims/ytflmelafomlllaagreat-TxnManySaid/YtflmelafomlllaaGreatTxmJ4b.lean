/- 'TxnMany': the calls within Shadow's, run: 4 open. -/
import Derived.Test.YtflmelafomlllaaGreatTxmA
namespace Go.Exe.Txm
open Go Go.Exe Go.Proofs
theorem r9_4 : did9 tab55_4 e9_4 = true := by kernel_rfl
end Go.Exe.Txm
