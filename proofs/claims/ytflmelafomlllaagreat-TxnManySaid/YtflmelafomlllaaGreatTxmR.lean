/- 'TxnMany': the law, run. -/
import Derived.Test.YtflmelafomlllaaGreatTxmA
namespace Go.Exe.Txm
open Go Go.Exe Go.Proofs
theorem many0 : isT (many 0) = true := by kernel_rfl
theorem many1 : isT (many 1) = true := by kernel_rfl
theorem many2 : isT (many 2) = true := by kernel_rfl
theorem many3 : isT (many 3) = true := by kernel_rfl
theorem many4 : isT (many 4) = true := by kernel_rfl
theorem many5 : isT (many 5) = true := by kernel_rfl
theorem many6 : isT (many 6) = true := by kernel_rfl
theorem many7 : isT (many 7) = true := by kernel_rfl
theorem many8 : isT (many 8) = true := by kernel_rfl
theorem many9 : isT (many 9) = true := by kernel_rfl
theorem many10 : isT (many 10) = true := by kernel_rfl
theorem many11 : isT (many 11) = true := by kernel_rfl
end Go.Exe.Txm
