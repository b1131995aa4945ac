/- 'TxnMany': the calls within Shadow's, run: 7 open. -/
import Derived.Test.YtflmelafomlllaaGreatTxmA
namespace Go.Exe.Txm
open Go Go.Exe Go.Proofs
theorem r116_7_0 : did 116 e116_7_0 = true := by kernel_rfl
theorem r117_7_0 : did 117 e117_7_0 = true := by kernel_rfl
theorem r55_7_0 : did55 tab116_7 tab117_7 e55_7_0 = true := by kernel_rfl
theorem r116_7_1 : did 116 e116_7_1 = true := by kernel_rfl
theorem r117_7_1 : did 117 e117_7_1 = true := by kernel_rfl
theorem r55_7_1 : did55 tab116_7 tab117_7 e55_7_1 = true := by kernel_rfl
theorem r116_7_2 : did 116 e116_7_2 = true := by kernel_rfl
theorem r117_7_2 : did 117 e117_7_2 = true := by kernel_rfl
theorem r55_7_2 : did55 tab116_7 tab117_7 e55_7_2 = true := by kernel_rfl
theorem r116_7_3 : did 116 e116_7_3 = true := by kernel_rfl
theorem r117_7_3 : did 117 e117_7_3 = true := by kernel_rfl
theorem r55_7_3 : did55 tab116_7 tab117_7 e55_7_3 = true := by kernel_rfl
end Go.Exe.Txm
