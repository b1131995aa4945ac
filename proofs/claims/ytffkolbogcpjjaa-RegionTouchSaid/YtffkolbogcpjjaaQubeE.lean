/- Cubes as plain functions: 'CubeMakes'. -/
import Derived.Test.YtffkolbogcpjjaaQubeD
namespace Go.Proofs.Ytffkolbogcpjjaa
open Go Go.Pod Go.Proofs

/-- The cube of one header, in the first so many fields. -/
def exn (h : Nat → Int) (n : Nat) : S_api_Cube := ⟨h, fun j => if j < n then msk j (sz j) else 0⟩

theorem exn_succ (h : Nat → Int) (i : Nat) : exn h (i + 1) = ⟨(exn h i).f0, fun j => if j = i then msk i (sz i) else (exn h i).f1 j⟩ := by
  unfold exn
  congr 1
  funext j
  dsimp only
  by_cases e : j = i
  · subst e; rw [if_pos (by omega), if_pos rfl]
  · rw [if_neg e]
    by_cases h2 : j < i
    · rw [if_pos h2, if_pos (by omega)]
    · rw [if_neg h2, if_neg (by omega)]

theorem uc_exn {h : Nat → Int} (hh : UH h) : UC (exn h 12) := by
  refine ⟨hh, fun i hi => ?_⟩
  show U (if i < 12 then _ else _)
  rw [if_pos hi]; exact u_msk (Nat.le_refl _)

theorem exn_c {h : Nat → Int} {i : Nat} (hi : i < 12) (k : Nat) : tb ((exn h 12).f1 i) k = decide (k < sz i) := by
  show tb (if i < 12 then msk i (sz i) else 0) k = _
  rw [if_pos hi, tb_msk' (Nat.le_refl _), Nat.sub_self]; simp

theorem head_bits {h : Nat → Int} (hh : UH h) (hs : sndH h = true) {i : Nat} (hi : i < 12) {k : Nat} (hk : tb (h i) k = true) : k < sz i := by
  rcases Nat.lt_or_ge k (sz i) with hlt | hge
  · exact hlt
  · rw [(lt_pow (hh i hi) _).1 (sndH_iff.1 hs i hi) k hge] at hk; cases hk

theorem snd_exn {h : Nat → Int} (hh : UH h) (hs : sndH h = true) : snd (exn h 12) = true := by
  rw [snd_iff (uc_exn hh)]
  refine ⟨fun i hi => ?_, fun i hi k hk => ?_⟩
  · rw [lt_pow ((uc_exn hh).c i hi)]
    intro k hk
    rw [exn_c hi, decide_eq_false (by omega)]
  · rw [exn_c hi, decide_eq_true (head_bits hh hs hi hk)]

theorem hb_exn {h : Nat → Int} (hh : UH h) (hs : sndH h = true) : hb (exn h 12) h = true := by
  rw [hb_iff (uc_exn hh) hh]
  refine ⟨fun i hi k => ?_, snd_exn hh hs, hs⟩
  rw [exn_c hi]
  show _ = tb (h i) k
  cases hk : tb (h i) k with
  | false => rfl
  | true => rw [decide_eq_true (head_bits hh hs hi hk)]; rfl

theorem txt_exn (h : Nat → Int) : txt (exn h 12) = wtxt h := by
  unfold txt wtxt bytesOf
  congr 2
  refine List.map_congr_left fun p hp => ?_
  have hp' := List.mem_range.1 hp
  show UInt8.ofNat ((if p < 248 then sgn (exn h 12) p else 0)).toNat = UInt8.ofNat ((if p < 248 then hsg h p else 0)).toNat
  rw [if_pos hp', if_pos hp']
  obtain ⟨h1, h2, _⟩ := plc_in hp'
  have : sgn (exn h 12) p = hsg h p := by
    unfold sgn hsg bitAt
    rw [exn_c h1, decide_eq_true (by omega)]; rfl
  rw [this]

/-! ### The reference's masks and setting -/

def mv (j n : Nat) : Nat := (2 ^ min n j - 1) * 2 ^ (n - min n j)

theorem mv_lt (j n : Nat) : mv j n < 2 ^ n := by
  unfold mv
  have h1 : 2 ^ min n j * 2 ^ (n - min n j) = 2 ^ n := by rw [← Nat.pow_add]; congr 1; omega
  have h2 : 0 < 2 ^ (n - min n j) := Nat.two_pow_pos _
  have : 0 < 2 ^ n := Nat.two_pow_pos _
  rw [Nat.sub_mul, h1, Nat.one_mul]
  omega
theorem mv_lo {j n : Nat} (h : n < j) : mv j (n + 1) = mv j n * 2 + 1 := by
  unfold mv
  rw [Nat.min_eq_left (by omega : n + 1 ≤ j), Nat.min_eq_left (by omega : n ≤ j), Nat.sub_self, Nat.sub_self, Nat.pow_zero, Nat.mul_one, Nat.mul_one, Nat.pow_succ]
  have : 0 < 2 ^ n := Nat.two_pow_pos _
  omega
theorem mv_hi {j n : Nat} (h : ¬ n < j) : mv j (n + 1) = mv j n * 2 := by
  unfold mv
  rw [Nat.min_eq_right (by omega : j ≤ n + 1), Nat.min_eq_right (by omega : j ≤ n), show n + 1 - j = (n - j) + 1 by omega, Nat.pow_succ, Nat.mul_assoc]
theorem mv_zero (j : Nat) : mv j 0 = 0 := by unfold mv; simp
theorem mv_msk {i j : Nat} (h : j ≤ sz i) : (mv j (sz i) : Int) = msk i j := by
  unfold mv msk; rw [Nat.min_eq_right h]

/-! ### The law -/

end Go.Proofs.Ytffkolbogcpjjaa
