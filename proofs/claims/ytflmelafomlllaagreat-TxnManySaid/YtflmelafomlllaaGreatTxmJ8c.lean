/- 'TxnMany': the calls within Shadow's, run: 8 open. -/
import Derived.Test.YtflmelafomlllaaGreatTxmA
namespace Go.Exe.Txm
open Go Go.Exe Go.Proofs
theorem r116_8_6 : did 116 e116_8_6 = true := by kernel_rfl
theorem r117_8_6 : did 117 e117_8_6 = true := by kernel_rfl
theorem r55_8_6 : did55 tab116_8 tab117_8 e55_8_6 = true := by kernel_rfl
theorem r116_8_7 : did 116 e116_8_7 = true := by kernel_rfl
theorem r117_8_7 : did 117 e117_8_7 = true := by kernel_rfl
end Go.Exe.Txm
