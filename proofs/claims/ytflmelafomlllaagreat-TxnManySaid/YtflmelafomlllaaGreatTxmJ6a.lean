/- 'TxnMany': the calls within Shadow's, run: 6 open. -/
import Derived.Test.YtflmelafomlllaaGreatTxmA
namespace Go.Exe.Txm
open Go Go.Exe Go.Proofs
theorem r116_6_0 : did 116 e116_6_0 = true := by kernel_rfl
theorem r117_6_0 : did 117 e117_6_0 = true := by kernel_rfl
theorem r55_6_0 : did55 tab116_6 tab117_6 e55_6_0 = true := by kernel_rfl
theorem r116_6_1 : did 116 e116_6_1 = true := by kernel_rfl
theorem r117_6_1 : did 117 e117_6_1 = true := by kernel_rfl
theorem r55_6_1 : did55 tab116_6 tab117_6 e55_6_1 = true := by kernel_rfl
theorem r116_6_2 : did 116 e116_6_2 = true := by kernel_rfl
theorem r117_6_2 : did 117 e117_6_2 = true := by kernel_rfl
theorem r55_6_2 : did55 tab116_6 tab117_6 e55_6_2 = true := by kernel_rfl
theorem r116_6_3 : did 116 e116_6_3 = true := by kernel_rfl
theorem r117_6_3 : did 117 e117_6_3 = true := by kernel_rfl
theorem r55_6_3 : did55 tab116_6 tab117_6 e55_6_3 = true := by kernel_rfl
end Go.Exe.Txm
