/- 'TxnMany': the calls within Shadow's, run: 7 open. -/
import Derived.Test.YtflmelafomlllaaGreatTxmA
namespace Go.Exe.Txm
open Go Go.Exe Go.Proofs
theorem r116_7_4 : did 116 e116_7_4 = true := by kernel_rfl
theorem r117_7_4 : did 117 e117_7_4 = true := by kernel_rfl
theorem r55_7_4 : did55 tab116_7 tab117_7 e55_7_4 = true := by kernel_rfl
theorem r116_7_5 : did 116 e116_7_5 = true := by kernel_rfl
theorem r117_7_5 : did 117 e117_7_5 = true := by kernel_rfl
theorem r55_7_5 : did55 tab116_7 tab117_7 e55_7_5 = true := by kernel_rfl
end Go.Exe.Txm
