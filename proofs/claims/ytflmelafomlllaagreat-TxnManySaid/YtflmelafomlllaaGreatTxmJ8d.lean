/- 'TxnMany': the calls within Shadow's, run: 8 open. -/
import Derived.Test.YtflmelafomlllaaGreatTxmA
namespace Go.Exe.Txm
open Go Go.Exe Go.Proofs
theorem r55_8_7 : did55 tab116_8 tab117_8 e55_8_7 = true := by kernel_rfl
theorem r9_8 : did9 tab55_8 e9_8 = true := by kernel_rfl
end Go.Exe.Txm
