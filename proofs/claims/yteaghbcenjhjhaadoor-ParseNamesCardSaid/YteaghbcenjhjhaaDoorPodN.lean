/- Plain lemmas on loops and on numbers: no program in sight. -/
import Derived.Test.YteaghbcenjhjhaaDoorPodK
import Derived.Laws.BitsLemmas
import Derived.Laws.Bits64
import GoSem.Claim
namespace Go.Pod
open Go

theorem iter_next {S E R : Type} {f : S → Option (Lo S E R)} {s s' : S} {k : Nat} (h : f s = some (.next s')) : iter f (k + 1) s = iter f k s' := by
  rw [iter, h]
theorem iter_exit {S E R : Type} {f : S → Option (Lo S E R)} {s : S} {e : E} {k : Nat} (h : f s = some (.exit e)) : iter f (k + 1) s = some (.inl e) := by
  rw [iter, h]
theorem iter_ret {S E R : Type} {f : S → Option (Lo S E R)} {s : S} {r : R} {k : Nat} (h : f s = some (.ret r)) : iter f (k + 1) s = some (.inr r) := by
  rw [iter, h]

/-- The first place from 'j' on, of 'n', at which the test fails. -/
def stopAt (p : Nat → Bool) : Nat → Nat → Option Nat
  | 0, _ => none
  | n + 1, j => if p j then stopAt p n (j + 1) else some j

theorem stopAt_none {p : Nat → Bool} : ∀ {n j : Nat}, stopAt p n j = none → ∀ i, i < n → p (j + i) = true
  | 0, _, _, i, hi => by omega
  | n + 1, j, h, i, hi => by
    unfold stopAt at h
    split at h
    · cases i with
      | zero => assumption
      | succ i => rw [show j + (i + 1) = j + 1 + i by omega]; exact stopAt_none h i (by omega)
    · cases h

theorem stopAt_some {p : Nat → Bool} : ∀ {n j m : Nat}, stopAt p n j = some m → j ≤ m ∧ m < j + n ∧ p m = false ∧ ∀ i, j ≤ i → i < m → p i = true
  | 0, _, _, h => by cases h
  | n + 1, j, m, h => by
    unfold stopAt at h
    split at h
    · rename_i hp
      obtain ⟨h1, h2, h3, h4⟩ := stopAt_some h
      refine ⟨by omega, by omega, h3, fun i h5 h6 => ?_⟩
      by_cases e : i = j
      · subst e; exact hp
      · exact h4 i (by omega) h6
    · rename_i hp
      cases h
      exact ⟨Nat.le_refl _, by omega, by simpa using hp, fun i h5 h6 => by omega⟩

/-- A loop that goes on while a test holds, 'n' rounds at most. -/
theorem iter_scan {S E R : Type} {f : S → Option (Lo S E R)} (st : Nat → S) (p : Nat → Bool) (r : Nat → R) {e : E} : ∀ (n j k : Nat), n < k →
    (∀ i, j ≤ i → i < j + n → f (st i) = if p i then some (.next (st (i + 1))) else some (.ret (r i))) → f (st (j + n)) = some (.exit e) →
    iter f k (st j) = match stopAt p n j with
      | none => some (.inl e)
      | some m => some (.inr (r m))
  | 0, j, k, hk, _, he => by
    cases k with
    | zero => omega
    | succ k => simp only [stopAt]; exact iter_exit he
  | n + 1, j, k, hk, hs, he => by
    cases k with
    | zero => omega
    | succ k =>
      have h0 := hs j (Nat.le_refl _) (by omega)
      by_cases hp : p j = true
      · simp only [hp, if_true] at h0
        rw [iter_next h0, iter_scan st p r n (j + 1) k (by omega) (fun i h1 h2 => hs i (by omega) (by omega)) (by rw [show j + 1 + n = j + (n + 1) by omega]; exact he)]
        simp only [stopAt, hp, if_true]
      · simp only [hp] at h0
        rw [iter_ret h0]
        simp only [stopAt, hp]
        rfl

theorem wrap_i64 {n : Int} (h : -9223372036854775808 ≤ n) (h' : n < 9223372036854775808) : IntKind.wrap .i64 n = n := by
  rw [IntKind.wrap_i64]; omega

theorem wrap_u64 {n : Int} (h : 0 ≤ n) (h' : n < 18446744073709551616) : IntKind.wrap .u64 n = n := by
  rw [IntKind.wrap_u64]; omega

theorem wf_i64 {n : Int} (h : (Lit.int .i64 n).wf = true) : -9223372036854775808 ≤ n ∧ n < 9223372036854775808 := by
  simp only [Lit.wf, Bool.and_eq_true, decide_eq_true_eq, show IntKind.min .i64 = -9223372036854775808 from rfl, show IntKind.max .i64 = 9223372036854775807 from rfl] at h
  omega

theorem wf_u64 {n : Int} (h : (Lit.int .u64 n).wf = true) : 0 ≤ n ∧ n < 18446744073709551616 := by
  simp only [Lit.wf, Bool.and_eq_true, decide_eq_true_eq, show IntKind.min .u64 = 0 from rfl, show IntKind.max .u64 = 18446744073709551615 from rfl] at h
  omega

/-- No bit lies above: the number is small. -/
theorem ishr_zero {v s : Int} (hv : 0 ≤ v) (hs : 0 ≤ s) (hs' : s ≤ 64) : ishr .u64 v s = 0 ↔ v < 2 ^ s.toNat := by
  obtain ⟨n, rfl⟩ := Int.eq_ofNat_of_zero_le hv
  obtain ⟨m, rfl⟩ := Int.eq_ofNat_of_zero_le hs
  have hm : m ≤ 64 := by omega
  simp only [ishr, IntKind.bits, Int.toNat_natCast, Nat.min_eq_left hm]
  have e : ((n : Int).fdiv (2 ^ m)) = ((n / 2 ^ m : Nat) : Int) := by
    rw [Int.fdiv_eq_ediv_of_nonneg _ (by exact_mod_cast Nat.zero_le (2 ^ m))]
    simp
  rw [e]
  have : ((2 : Int) ^ m) = ((2 ^ m : Nat) : Int) := by simp
  rw [this]
  have hp : 0 < 2 ^ m := Nat.two_pow_pos m
  constructor
  · intro h
    have h0 : n / 2 ^ m = 0 := by exact_mod_cast h
    have := (Nat.div_eq_zero_iff).1 h0
    omega
  · intro h
    have h1 : n < 2 ^ m := by exact_mod_cast h
    simp [Nat.div_eq_of_lt h1]

end Go.Pod
