/- Cubes as plain functions: the reference's Less; 'CubeSets'. -/
import Derived.Test.YtffkolbogcpjjaaVubeH
namespace Go.Proofs.Ytffkolbogcpjjaa
open Go Go.Pod Go.Proofs

/-! ### The reference's Less -/

/-! ### How many parts have a header -/

def cn (f : Nat → Bool) : Nat → Nat
  | 0 => 0
  | n + 1 => cn f n + (if f n then 1 else 0)
section count
variable {a b : S_api_Cube} (ha : UC a) (hcb : UC b) (M : MOK a b) {h : Nat → Int} (hh : UH h)
include ha hcb M hh

end count

/-! ### The law -/

end Go.Proofs.Ytffkolbogcpjjaa
