/- 'TxnMany': the calls within Shadow's, run: 5 open. -/
import Derived.Test.YtflmelafomlllaaGreatTxmA
namespace Go.Exe.Txm
open Go Go.Exe Go.Proofs
theorem r116_5_0 : did 116 e116_5_0 = true := by kernel_rfl
theorem r117_5_0 : did 117 e117_5_0 = true := by kernel_rfl
theorem r55_5_0 : did55 tab116_5 tab117_5 e55_5_0 = true := by kernel_rfl
theorem r116_5_1 : did 116 e116_5_1 = true := by kernel_rfl
theorem r117_5_1 : did 117 e117_5_1 = true := by kernel_rfl
theorem r55_5_1 : did55 tab116_5 tab117_5 e55_5_1 = true := by kernel_rfl
theorem r116_5_2 : did 116 e116_5_2 = true := by kernel_rfl
theorem r117_5_2 : did 117 e117_5_2 = true := by kernel_rfl
theorem r55_5_2 : did55 tab116_5 tab117_5 e55_5_2 = true := by kernel_rfl
theorem r116_5_3 : did 116 e116_5_3 = true := by kernel_rfl
theorem r117_5_3 : did 117 e117_5_3 = true := by kernel_rfl
theorem r55_5_3 : did55 tab116_5 tab117_5 e55_5_3 = true := by kernel_rfl
end Go.Exe.Txm
