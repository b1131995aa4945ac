/- 'TxnMany': the calls within Shadow's, run: 1 open. -/
import Derived.Test.YtflmelafomlllaaGreatTxmA
namespace Go.Exe.Txm
open Go Go.Exe Go.Proofs
theorem r116_1_0 : did 116 e116_1_0 = true := by kernel_rfl
theorem r117_1_0 : did 117 e117_1_0 = true := by kernel_rfl
theorem r55_1_0 : did55 tab116_1 tab117_1 e55_1_0 = true := by kernel_rfl
theorem r9_1 : did9 tab55_1 e9_1 = true := by kernel_rfl
end Go.Exe.Txm
