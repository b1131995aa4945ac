/- Cubes as plain functions, fifth part: the cubes of a difference, bit by bit. -/
import Derived.Test.YtffkolbogcpjjaaVubeE
namespace Go.Proofs.Ytffkolbogcpjjaa
open Go Go.Pod Go.Proofs

/-! ### Single bits -/

/-! ### Places -/

def fld (p : Nat) : Nat := (plc p).1
def bt (p : Nat) : Nat := sz (fld p) - 1 - (plc p).2
/-- The place of a bit. -/
def psn (i k : Nat) : Nat := off i + (sz i - 1 - k)
/-- Is this bit at an earlier place? -/
def isLt (p i k : Nat) : Bool := decide (k < sz i) && decide (psn i k < p)

theorem fld_lt {p : Nat} (hp : p < 248) : fld p < 12 := (plc_in hp).1
theorem fld_off {i n : Nat} (hi : i < 12) (hn : n < sz i) : fld (off i + n) = i := by unfold fld; rw [plc_off hi hn]
theorem bt_off {i n : Nat} (hi : i < 12) (hn : n < sz i) : bt (off i + n) = sz i - 1 - n := by unfold bt; rw [fld_off hi hn, plc_off hi hn]
theorem psn_lt {i k : Nat} (hi : i < 12) (hk : k < sz i) : psn i k < 248 ∧ fld (psn i k) = i ∧ bt (psn i k) = k := by
  have ho := off_le (show i + 1 < 13 by omega)
  rw [off_succ hi] at ho
  unfold psn
  refine ⟨by omega, fld_off hi (by omega), ?_⟩
  rw [bt_off hi (by omega)]; omega

/-! ### The difference -/

end Go.Proofs.Ytffkolbogcpjjaa
