/- 'TxnMany': the calls within Shadow's, run: 2 open. -/
import Derived.Test.YtflmelafomlllaaGreatTxmA
namespace Go.Exe.Txm
open Go Go.Exe Go.Proofs
theorem r116_2_0 : did 116 e116_2_0 = true := by kernel_rfl
theorem r117_2_0 : did 117 e117_2_0 = true := by kernel_rfl
theorem r55_2_0 : did55 tab116_2 tab117_2 e55_2_0 = true := by kernel_rfl
theorem r116_2_1 : did 116 e116_2_1 = true := by kernel_rfl
theorem r117_2_1 : did 117 e117_2_1 = true := by kernel_rfl
theorem r55_2_1 : did55 tab116_2 tab117_2 e55_2_1 = true := by kernel_rfl
theorem r9_2 : did9 tab55_2 e9_2 = true := by kernel_rfl
end Go.Exe.Txm
