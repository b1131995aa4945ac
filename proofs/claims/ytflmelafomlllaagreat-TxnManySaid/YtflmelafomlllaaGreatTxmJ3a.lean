/- 'TxnMany': the calls within Shadow's, run: 3 open. -/
import Derived.Test.YtflmelafomlllaaGreatTxmA
namespace Go.Exe.Txm
open Go Go.Exe Go.Proofs
theorem r116_3_0 : did 116 e116_3_0 = true := by kernel_rfl
theorem r117_3_0 : did 117 e117_3_0 = true := by kernel_rfl
theorem r55_3_0 : did55 tab116_3 tab117_3 e55_3_0 = true := by kernel_rfl
theorem r116_3_1 : did 116 e116_3_1 = true := by kernel_rfl
theorem r117_3_1 : did 117 e117_3_1 = true := by kernel_rfl
theorem r55_3_1 : did55 tab116_3 tab117_3 e55_3_1 = true := by kernel_rfl
theorem r116_3_2 : did 116 e116_3_2 = true := by kernel_rfl
theorem r117_3_2 : did 117 e117_3_2 = true := by kernel_rfl
theorem r55_3_2 : did55 tab116_3 tab117_3 e55_3_2 = true := by kernel_rfl
theorem r9_3 : did9 tab55_3 e9_3 = true := by kernel_rfl
end Go.Exe.Txm
