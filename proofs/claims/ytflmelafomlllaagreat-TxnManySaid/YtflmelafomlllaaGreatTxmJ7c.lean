/- 'TxnMany': the calls within Shadow's, run: 7 open. -/
import Derived.Test.YtflmelafomlllaaGreatTxmA
namespace Go.Exe.Txm
open Go Go.Exe Go.Proofs
theorem r116_7_6 : did 116 e116_7_6 = true := by kernel_rfl
theorem r117_7_6 : did 117 e117_7_6 = true := by kernel_rfl
theorem r55_7_6 : did55 tab116_7 tab117_7 e55_7_6 = true := by kernel_rfl
theorem r9_7 : did9 tab55_7 e9_7 = true := by kernel_rfl
end Go.Exe.Txm
