/- 'TxnMany': the calls within Shadow's, run: 8 open. -/
import Derived.Test.YtflmelafomlllaaGreatTxmA
namespace Go.Exe.Txm
open Go Go.Exe Go.Proofs
theorem r116_8_0 : did 116 e116_8_0 = true := by kernel_rfl
theorem r117_8_0 : did 117 e117_8_0 = true := by kernel_rfl
theorem r55_8_0 : did55 tab116_8 tab117_8 e55_8_0 = true := by kernel_rfl
theorem r116_8_1 : did 116 e116_8_1 = true := by kernel_rfl
theorem r117_8_1 : did 117 e117_8_1 = true := by kernel_rfl
theorem r55_8_1 : did55 tab116_8 tab117_8 e55_8_1 = true := by kernel_rfl
theorem r116_8_2 : did 116 e116_8_2 = true := by kernel_rfl
theorem r117_8_2 : did 117 e117_8_2 = true := by kernel_rfl
theorem r55_8_2 : did55 tab116_8 tab117_8 e55_8_2 = true := by kernel_rfl
theorem r116_8_3 : did 116 e116_8_3 = true := by kernel_rfl
theorem r117_8_3 : did 117 e117_8_3 = true := by kernel_rfl
theorem r55_8_3 : did55 tab116_8 tab117_8 e55_8_3 = true := by kernel_rfl
end Go.Exe.Txm
