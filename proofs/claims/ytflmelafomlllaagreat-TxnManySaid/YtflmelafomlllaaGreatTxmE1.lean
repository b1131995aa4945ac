/- 'TxnMany': Start's calls, run. -/
import Derived.Test.YtflmelafomlllaaGreatTxmA
namespace Go.Exe.Txm
open Go Go.Exe Go.Proofs
theorem r5_6 : did 5 e5_6 = true := by kernel_rfl
theorem r5_7 : did 5 e5_7 = true := by kernel_rfl
theorem r5_8 : did 5 e5_8 = true := by kernel_rfl
theorem r5_9 : did 5 e5_9 = true := by kernel_rfl
theorem r5_10 : did 5 e5_10 = true := by kernel_rfl
end Go.Exe.Txm
