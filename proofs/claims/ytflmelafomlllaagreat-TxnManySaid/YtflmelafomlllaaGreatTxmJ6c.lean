/- 'TxnMany': the calls within Shadow's, run: 6 open. -/
import Derived.Test.YtflmelafomlllaaGreatTxmA
namespace Go.Exe.Txm
open Go Go.Exe Go.Proofs
theorem r9_6 : did9 tab55_6 e9_6 = true := by kernel_rfl
end Go.Exe.Txm
