/- 'TxnMany': Start's calls, run. -/
import Derived.Test.YtflmelafomlllaaGreatTxmA
namespace Go.Exe.Txm
open Go Go.Exe Go.Proofs
theorem r5_0 : did 5 e5_0 = true := by kernel_rfl
theorem r5_1 : did 5 e5_1 = true := by kernel_rfl
theorem r5_2 : did 5 e5_2 = true := by kernel_rfl
theorem r5_3 : did 5 e5_3 = true := by kernel_rfl
theorem r5_4 : did 5 e5_4 = true := by kernel_rfl
theorem r5_5 : did 5 e5_5 = true := by kernel_rfl
end Go.Exe.Txm
