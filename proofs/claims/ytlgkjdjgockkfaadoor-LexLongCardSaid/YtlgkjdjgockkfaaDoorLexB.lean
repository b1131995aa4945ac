/- Scanning as plain functions, first part: runs, blanks. -/
import Derived.Test.YtlgkjdjgockkfaaDoorLexA
import Derived.Test.YtlgkjdjgockkfaaDoorFnC
namespace Go.Proofs.YtlgkjdjgockkfaaDoor
open Go Go.Pod Go.Proofs

/-- The first place from here on at which a test fails, or the end (so many places on at most). -/
def fin (p : Nat → Bool) (n : Nat) : Nat → Nat → Nat
  | 0, i => i
  | k + 1, i => if i < n ∧ p i = true then fin p n k (i + 1) else i

theorem fin_ge (p : Nat → Bool) (n : Nat) : ∀ k i, i ≤ fin p n k i
  | 0, _ => Nat.le_refl _
  | k + 1, i => by
    unfold fin
    split
    · exact Nat.le_trans (Nat.le_succ i) (fin_ge p n k (i + 1))
    · exact Nat.le_refl _
theorem fin_le (p : Nat → Bool) (n : Nat) : ∀ k i, i ≤ n → fin p n k i ≤ n
  | 0, _, h => h
  | k + 1, i, h => by
    unfold fin
    split
    · rename_i hc; exact fin_le p n k (i + 1) hc.1
    · exact h
theorem fin_gt (p : Nat → Bool) (n k i : Nat) (h : i < n) (hp : p i = true) : i < fin p n (k + 1) i := by
  unfold fin
  rw [if_pos ⟨h, hp⟩]
  exact fin_ge p n k (i + 1)
theorem fin_all (p : Nat → Bool) (n : Nat) : ∀ k i j, i ≤ j → j < fin p n k i → p j = true
  | 0, i, j, h1, h2 => by unfold fin at h2; omega
  | k + 1, i, j, h1, h2 => by
    unfold fin at h2
    split at h2
    · rename_i hc
      by_cases e : j = i
      · subst e; exact hc.2
      · exact fin_all p n k (i + 1) j (by omega) h2
    · omega

/-- A loop that goes on while a test holds, and then leaves. -/
theorem iter_fin {S E R : Type} {f : S → Option (Lo S E R)} (st : Nat → S) (ex : Nat → E) (p : Nat → Bool) (n : Nat) : ∀ k K i, k < K → n ≤ i + k →
    (∀ j, i ≤ j → j ≤ n → f (st j) = if j < n ∧ p j = true then some (.next (st (j + 1))) else some (.exit (ex j))) → i ≤ n → iter f K (st i) = some (.inl (ex (fin p n k i)))
  | 0, K, i, hk, hn, hf, hi => by
    obtain ⟨K, rfl⟩ : ∃ K', K = K' + 1 := ⟨K - 1, by omega⟩
    have h0 := hf i (Nat.le_refl _) hi
    rw [if_neg (by omega)] at h0
    exact iter_exit h0
  | k + 1, K, i, hk, hn, hf, hi => by
    obtain ⟨K, rfl⟩ : ∃ K', K = K' + 1 := ⟨K - 1, by omega⟩
    have h0 := hf i (Nat.le_refl _) hi
    unfold fin
    by_cases hc : i < n ∧ p i = true
    · rw [if_pos hc] at h0
      rw [if_pos hc, iter_next h0]
      exact iter_fin st ex p n k K (i + 1) (by omega) (by omega) (fun j h1 h2 => hf j (by omega) h2) (by omega)
    · rw [if_neg hc] at h0
      rw [if_neg hc]
      exact iter_exit h0

def pW (s : ByteArray) (j : Nat) : Bool := isL (byt s j) || isD (byt s j)
def pD (s : ByteArray) (j : Nat) : Bool := isD (byt s j)
def pC (s : ByteArray) (j : Nat) : Bool := byt s j != 10
/-- So far a test holds. -/
def to (p : Nat → Bool) (s : ByteArray) (at_ : Nat) : Nat := fin p s.size s.size at_

theorem lex_next1 (c : Int) : F_lex_next_1 c = some (isL c || isD c) := by
  unfold F_lex_next_1
  rw [lex_letter, Option.bind_some, lex_digit]
  cases isL c <;> cases isD c <;> rfl

theorem wrap_nat {n : Nat} (h : n < 1000000) : IntKind.wrap .i64 (n : Int) = (n : Int) := wrap_i64 (by omega) (by omega)


theorem run_C {fu : Nat} {s : ByteArray} (hf : s.size < fu) (hs : s.size ≤ 100000) {i : Nat} (hi : i ≤ s.size) : F_lex_run_lex_blanks_1 fu s (i : Int) = some ((to (pC s) s i - i : Nat) : Int) := by
  unfold F_lex_run_lex_blanks_1
  rw [show (0 : Int) = (fun j : Nat => ((j - i : Nat) : Int)) i by simp]
  rw [iter_fin (fun j : Nat => ((j - i : Nat) : Int)) (fun j : Nat => ((j - i : Nat) : Int)) (pC s) s.size s.size fu i hf (by omega) ?_ hi]
  · rfl
  · intro j h1 h2
    unfold F_lex_run_lex_blanks_1_L1
    rw [show (i : Int) + ((j - i : Nat) : Int) = (j : Int) by omega, wrap_nat (by omega), chk_t (fun h => by have := of_decide_eq_true h; omega), Int.toNat_natCast, show F_lex_blanks_1 (((s[j]?).getD 0).toNat : Int) = some (pC s j) from rfl, wrap_succ (by omega)]
    rw [show (j - i + 1 : Nat) = j + 1 - i by omega]
    by_cases hj : j < s.size
    · rw [decide_eq_true (show (j : Int) < (s.size : Int) by omega)]
      cases hp : pC s j with
      | true => rw [if_pos ⟨hj, rfl⟩]; rfl
      | false => rw [if_neg (fun h => by cases h.2)]; rfl
    · rw [decide_eq_false (show ¬ (j : Int) < (s.size : Int) by omega), if_neg (fun h => hj h.1)]; rfl

theorem run_W {fu : Nat} {s : ByteArray} (hf : s.size < fu) (hs : s.size ≤ 100000) {i : Nat} (hi : i ≤ s.size) : F_lex_run_lex_next_1 fu s (i : Int) = some ((to (pW s) s i - i : Nat) : Int) := by
  unfold F_lex_run_lex_next_1
  rw [show (0 : Int) = (fun j : Nat => ((j - i : Nat) : Int)) i by simp]
  rw [iter_fin (fun j : Nat => ((j - i : Nat) : Int)) (fun j : Nat => ((j - i : Nat) : Int)) (pW s) s.size s.size fu i hf (by omega) ?_ hi]
  · rfl
  · intro j h1 h2
    unfold F_lex_run_lex_next_1_L1
    rw [show (i : Int) + ((j - i : Nat) : Int) = (j : Int) by omega, wrap_nat (by omega), chk_t (fun h => by have := of_decide_eq_true h; omega), Int.toNat_natCast, show F_lex_next_1 (((s[j]?).getD 0).toNat : Int) = some (pW s j) from lex_next1 _, wrap_succ (by omega)]
    rw [show (j - i + 1 : Nat) = j + 1 - i by omega]
    by_cases hj : j < s.size
    · rw [decide_eq_true (show (j : Int) < (s.size : Int) by omega)]
      cases hp : pW s j with
      | true => rw [if_pos ⟨hj, rfl⟩]; rfl
      | false => rw [if_neg (fun h => by cases h.2)]; rfl
    · rw [decide_eq_false (show ¬ (j : Int) < (s.size : Int) by omega), if_neg (fun h => hj h.1)]; rfl

theorem run_D {fu : Nat} {s : ByteArray} (hf : s.size < fu) (hs : s.size ≤ 100000) {i : Nat} (hi : i ≤ s.size) : F_lex_run_lex_digit fu s (i : Int) = some ((to (pD s) s i - i : Nat) : Int) := by
  unfold F_lex_run_lex_digit
  rw [show (0 : Int) = (fun j : Nat => ((j - i : Nat) : Int)) i by simp]
  rw [iter_fin (fun j : Nat => ((j - i : Nat) : Int)) (fun j : Nat => ((j - i : Nat) : Int)) (pD s) s.size s.size fu i hf (by omega) ?_ hi]
  · rfl
  · intro j h1 h2
    unfold F_lex_run_lex_digit_L1
    rw [show (i : Int) + ((j - i : Nat) : Int) = (j : Int) by omega, wrap_nat (by omega), chk_t (fun h => by have := of_decide_eq_true h; omega), Int.toNat_natCast, show F_lex_digit (((s[j]?).getD 0).toNat : Int) = some (pD s j) from rfl, wrap_succ (by omega)]
    rw [show (j - i + 1 : Nat) = j + 1 - i by omega]
    by_cases hj : j < s.size
    · rw [decide_eq_true (show (j : Int) < (s.size : Int) by omega)]
      cases hp : pD s j with
      | true => rw [if_pos ⟨hj, rfl⟩]; rfl
      | false => rw [if_neg (fun h => by cases h.2)]; rfl
    · rw [decide_eq_false (show ¬ (j : Int) < (s.size : Int) by omega), if_neg (fun h => hj h.1)]; rfl

def isB (c : Int) : Bool := bif (bif (bif (c == (32 : Int)) then true else (c == (9 : Int))) then true else (c == (10 : Int))) then true else (c == (13 : Int))

/-- Behind blanks and remarks. -/
def skb (s : ByteArray) : Nat → Nat → Nat
  | 0, p => p
  | k + 1, p => if p < s.size then (if isB (byt s p) = true then skb s k (p + 1) else if byt s p = 35 then skb s k (to (pC s) s p) else p) else p

theorem to_hash {s : ByteArray} {p : Nat} (h : p < s.size) (hc : byt s p = 35) : p < to (pC s) s p := by
  unfold to
  obtain ⟨k, hk⟩ : ∃ k, s.size = k + 1 := ⟨s.size - 1, by omega⟩
  have := fin_gt (pC s) s.size k p h (by unfold pC; rw [hc]; rfl)
  rwa [← hk] at this

theorem skb_le (s : ByteArray) : ∀ k p, p ≤ s.size → p ≤ skb s k p ∧ skb s k p ≤ s.size
  | 0, _, h => ⟨Nat.le_refl _, h⟩
  | k + 1, p, h => by
    unfold skb
    split
    · rename_i hlt
      split
      · have := skb_le s k (p + 1) hlt; omega
      · split
        · rename_i hc
          have h1 := to_hash hlt hc
          have h2 := fin_le (pC s) s.size s.size p h
          have := skb_le s k (to (pC s) s p) h2
          omega
        · omega
    · omega

theorem blanks_J1 {fu : Nat} {s : ByteArray} (hf : s.size < fu) (hs : s.size ≤ 100000) {i j : Nat} (hi : i ≤ j) (hj : j < s.size) (b : Bool) (hb : b = true → isB (byt s j) = true) (hn : b = false → isB (byt s j) = false) :
    F_lex_blanks_J1 fu s (i : Int) ((j - i : Nat) : Int) (byt s j) b = if isB (byt s j) = true then some (.next ((j + 1 - i : Nat) : Int)) else if byt s j = 35 then some (.next ((to (pC s) s j - i : Nat) : Int)) else some (.ret ((j - i : Nat) : Int)) := by
  unfold F_lex_blanks_J1
  rw [wrap_succ (by omega), show (j - i + 1 : Nat) = j + 1 - i by omega]
  cases b with
  | true => rw [hb rfl, if_pos rfl]; rfl
  | false =>
    rw [hn rfl, if_neg (by decide), ifs, show (i : Int) + ((j - i : Nat) : Int) = (j : Int) by omega, wrap_nat (by omega), run_C hf hs (Nat.le_of_lt hj), Option.bind_some]
    by_cases hc : byt s j = 35
    · have h1 := to_hash hj hc
      have h2 := fin_le (pC s) s.size s.size j (Nat.le_of_lt hj)
      have h2' : to (pC s) s j ≤ s.size := h2
      rw [if_pos hc, hc, show ((35 : Int) == 35) = true from rfl, ifs, show ((j - i : Nat) : Int) + ((to (pC s) s j - j : Nat) : Int) = ((to (pC s) s j - i : Nat) : Int) by omega, wrap_nat (by omega)]
    · rw [if_neg hc, beq_eq_false_iff_ne.2 hc]; rfl

theorem blanks_L1 {fu : Nat} {s : ByteArray} (hf : s.size < fu) (hs : s.size ≤ 100000) {i j : Nat} (hi : i ≤ j) (hj : j ≤ s.size) :
    F_lex_blanks_L1 fu s (i : Int) ((j - i : Nat) : Int) = if j < s.size then (if isB (byt s j) = true then some (.next ((j + 1 - i : Nat) : Int)) else if byt s j = 35 then some (.next ((to (pC s) s j - i : Nat) : Int)) else some (.ret ((j - i : Nat) : Int))) else some (.exit ((j - i : Nat) : Int)) := by
  unfold F_lex_blanks_L1
  rw [show (i : Int) + ((j - i : Nat) : Int) = (j : Int) by omega, wrap_nat (by omega)]
  by_cases h : j < s.size
  · rw [decide_eq_true (show (j : Int) < (s.size : Int) by omega), ifs, chk_t (by omega), Int.toNat_natCast, if_pos h]
    show ifs (byt s j == 32) (F_lex_blanks_J1 fu s i _ (byt s j) (byt s j == 32)) (ifs (byt s j == 9) (F_lex_blanks_J1 fu s i _ (byt s j) (byt s j == 9)) (ifs (byt s j == 10) (F_lex_blanks_J1 fu s i _ (byt s j) (byt s j == 10)) (F_lex_blanks_J1 fu s i _ (byt s j) (byt s j == 13)))) = _
    have J := fun b hb hn => blanks_J1 hf hs hi h b hb hn
    cases h1 : byt s j == 32 with
    | true => exact J true (fun _ => by unfold isB; rw [h1]; rfl) (fun h => by cases h)
    | false =>
      cases h2 : byt s j == 9 with
      | true => exact J true (fun _ => by unfold isB; rw [h1, h2]; rfl) (fun h => by cases h)
      | false =>
        cases h3 : byt s j == 10 with
        | true => exact J true (fun _ => by unfold isB; rw [h1, h2, h3]; rfl) (fun h => by cases h)
        | false => exact J (byt s j == 13) (fun h4 => by unfold isB; rw [h1, h2, h3, h4]; rfl) (fun h4 => by unfold isB; rw [h1, h2, h3, h4]; rfl)
  · rw [decide_eq_false (show ¬ (j : Int) < (s.size : Int) by omega), if_neg h]; rfl

theorem blanks_at {fu : Nat} {s : ByteArray} (hf : s.size < fu) (hs : s.size ≤ 100000) {i : Nat} : ∀ k K j, k < K → s.size ≤ j + k → i ≤ j → j ≤ s.size →
    after (iter (fun t => F_lex_blanks_L1 fu s (i : Int) t) K ((j - i : Nat) : Int)) (fun e => some e) = some ((skb s k j - i : Nat) : Int)
  | 0, K, j, hk, hn, hi, hj => by
    obtain ⟨K, rfl⟩ : ∃ K', K = K' + 1 := ⟨K - 1, by omega⟩
    have h0 := blanks_L1 hf hs hi hj
    rw [if_neg (by omega)] at h0
    rw [iter_exit h0]; rfl
  | k + 1, K, j, hk, hn, hi, hj => by
    obtain ⟨K, rfl⟩ : ∃ K', K = K' + 1 := ⟨K - 1, by omega⟩
    have h0 := blanks_L1 hf hs hi hj
    unfold skb
    by_cases h : j < s.size
    · rw [if_pos h] at h0 ⊢
      by_cases hb : isB (byt s j) = true
      · rw [if_pos hb] at h0 ⊢
        rw [iter_next h0]
        exact blanks_at hf hs k K (j + 1) (by omega) (by omega) (by omega) (by omega)
      · rw [if_neg hb] at h0 ⊢
        by_cases hc : byt s j = 35
        · rw [if_pos hc] at h0 ⊢
          have h1 := to_hash h hc
          have h2 : to (pC s) s j ≤ s.size := fin_le (pC s) s.size s.size j (Nat.le_of_lt h)
          rw [iter_next h0]
          exact blanks_at hf hs k K _ (by omega) (by omega) (by omega) h2
        · rw [if_neg hc] at h0 ⊢
          rw [iter_ret h0]; rfl
    · rw [if_neg h] at h0 ⊢
      rw [iter_exit h0]; rfl

theorem lex_blanks {fu : Nat} {s : ByteArray} (hf : s.size < fu) (hs : s.size ≤ 100000) {i : Nat} (hi : i ≤ s.size) : F_lex_blanks fu s (i : Int) = some ((skb s s.size i - i : Nat) : Int) := by
  unfold F_lex_blanks
  have := blanks_at hf hs (i := i) s.size fu i hf (by omega) (Nat.le_refl _) hi
  rwa [Nat.sub_self] at this

end Go.Proofs.YtlgkjdjgockkfaaDoor
