/- 'TxnMany': the calls within Shadow's, run: 6 open. -/
import Derived.Test.YtflmelafomlllaaGreatTxmA
namespace Go.Exe.Txm
open Go Go.Exe Go.Proofs
theorem r116_6_4 : did 116 e116_6_4 = true := by kernel_rfl
theorem r117_6_4 : did 117 e117_6_4 = true := by kernel_rfl
theorem r55_6_4 : did55 tab116_6 tab117_6 e55_6_4 = true := by kernel_rfl
theorem r116_6_5 : did 116 e116_6_5 = true := by kernel_rfl
theorem r117_6_5 : did 117 e117_6_5 = true := by kernel_rfl
theorem r55_6_5 : did55 tab116_6 tab117_6 e55_6_5 = true := by kernel_rfl
end Go.Exe.Txm
