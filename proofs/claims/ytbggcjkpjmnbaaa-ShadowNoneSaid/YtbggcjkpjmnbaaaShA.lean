/- ShadowNone's plain law: 'answers' by computation, the rest by what is printed. -/
import Derived.Test.YtbggcjkpjmnbaaaFnC
namespace Go.Proofs.Ytbggcjkpjmnbaaa
open Go Go.Pod

set_option maxRecDepth 100000 in
theorem answers_ok : F_law22_answers 30 = some true := by kernel_rfl

theorem pl_ShadowNone (x0 : Int) (_ : (Lit.int .i64 x0).wf = true) (x1 : Nat × (Nat → S_api_Change)) (_ : x1.1 ≤ maxLen ∧ x1.1 * 272 ≤ reachBytes ∧ ∀ i, i < x1.1 → S_api_Change.wf (x1.2 i)) (x2 : S_api_Rule) (_ : S_api_Rule.wf x2) : ∃ fu, F_law22_ShadowNone fu x0 x1 x2 = some true :=
  ⟨30, by unfold F_law22_ShadowNone; rw [answers_ok]; rfl⟩
end Go.Proofs.Ytbggcjkpjmnbaaa
