/- The kernel runs the laws over nil receivers. -/
import Derived.Test.YtaojcchakhjgoaaGreatProg
import Derived.Test.YtaojcchakhjgoaaGreatExO
namespace Go.Exe.Non
open Go Go.Exe Go.Proofs
theorem evUnitNone : isT (call Tryz.prog ⟨fun _ _ _ => none, fun _ _ _ => none⟩ (fun _ => none) 100000 3 [.agg (symL 48 0), .sym 48, .agg (symL 12 49)] ⟨.leaf, 100⟩) = true := by kernel_rfl
theorem evTxnNone : isT (call Tryz.prog ⟨fun _ _ _ => none, fun _ _ _ => none⟩ (fun _ => none) 100000 5 [.sym 0, .sym 1, .agg (symL 48 2)] ⟨.leaf, 100⟩) = true := by kernel_rfl
end Go.Exe.Non
