/- 'TxnMany': the calls within Shadow's, run: 4 open. -/
import Derived.Test.YtflmelafomlllaaGreatTxmA
namespace Go.Exe.Txm
open Go Go.Exe Go.Proofs
theorem r116_4_0 : did 116 e116_4_0 = true := by kernel_rfl
theorem r117_4_0 : did 117 e117_4_0 = true := by kernel_rfl
theorem r55_4_0 : did55 tab116_4 tab117_4 e55_4_0 = true := by kernel_rfl
theorem r116_4_1 : did 116 e116_4_1 = true := by kernel_rfl
theorem r117_4_1 : did 117 e117_4_1 = true := by kernel_rfl
theorem r55_4_1 : did55 tab116_4 tab117_4 e55_4_1 = true := by kernel_rfl
theorem r116_4_2 : did 116 e116_4_2 = true := by kernel_rfl
theorem r117_4_2 : did 117 e117_4_2 = true := by kernel_rfl
theorem r55_4_2 : did55 tab116_4 tab117_4 e55_4_2 = true := by kernel_rfl
theorem r116_4_3 : did 116 e116_4_3 = true := by kernel_rfl
theorem r117_4_3 : did 117 e117_4_3 = true := by kernel_rfl
theorem r55_4_3 : did55 tab116_4 tab117_4 e55_4_3 = true := by kernel_rfl
end Go.Exe.Txm
