/- 'TxnMany': the calls within Shadow's, run: 8 open. -/
import Derived.Test.YtflmelafomlllaaGreatTxmA
namespace Go.Exe.Txm
open Go Go.Exe Go.Proofs
theorem r116_8_4 : did 116 e116_8_4 = true := by kernel_rfl
theorem r117_8_4 : did 117 e117_8_4 = true := by kernel_rfl
theorem r55_8_4 : did55 tab116_8 tab117_8 e55_8_4 = true := by kernel_rfl
theorem r116_8_5 : did 116 e116_8_5 = true := by kernel_rfl
theorem r117_8_5 : did 117 e117_8_5 = true := by kernel_rfl
theorem r55_8_5 : did55 tab116_8 tab117_8 e55_8_5 = true := by kernel_rfl
end Go.Exe.Txm
