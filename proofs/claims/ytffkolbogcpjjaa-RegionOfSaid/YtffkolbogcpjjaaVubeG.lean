/- Cubes as plain functions: 'CubeParts'. -/
import Derived.Test.YtffkolbogcpjjaaVubeF
namespace Go.Proofs.Ytffkolbogcpjjaa
open Go Go.Pod Go.Proofs

theorem snd_bit {c : S_api_Cube} (hc : UC c) (h : snd c = true) {i : Nat} (hi : i < 12) (k : Nat) : tb (c.f0 i) k = true → tb (c.f1 i) k = true := ((snd_iff hc).1 h).2 i hi k
theorem snd_high {c : S_api_Cube} (hc : UC c) (h : snd c = true) {i : Nat} (hi : i < 12) {k : Nat} (hk : tb (c.f1 i) k = true) : k < sz i := by
  rcases Nat.lt_or_ge k (sz i) with hlt | hge
  · exact hlt
  · rw [(lt_pow (hc.c i hi) _).1 (((snd_iff hc).1 h).1 i hi) k hge] at hk; cases hk

section parts
variable {a b : S_api_Cube} (ha : UC a) (hb : UC b) (M : MOK a b)
include ha hb M

end parts

end Go.Proofs.Ytffkolbogcpjjaa
