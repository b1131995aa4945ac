/- 'TxnMany': the calls within Shadow's, run: 5 open. -/
import Derived.Test.YtflmelafomlllaaGreatTxmA
namespace Go.Exe.Txm
open Go Go.Exe Go.Proofs
theorem r116_5_4 : did 116 e116_5_4 = true := by kernel_rfl
theorem r117_5_4 : did 117 e117_5_4 = true := by kernel_rfl
theorem r55_5_4 : did55 tab116_5 tab117_5 e55_5_4 = true := by kernel_rfl
theorem r9_5 : did9 tab55_5 e9_5 = true := by kernel_rfl
end Go.Exe.Txm
