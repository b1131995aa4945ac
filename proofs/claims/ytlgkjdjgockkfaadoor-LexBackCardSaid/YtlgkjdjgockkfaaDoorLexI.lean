/- Scanning a text that is followed by a blank: towards 'LexBack'. -/
import Derived.Test.YtlgkjdjgockkfaaDoorLexH
namespace Go.Proofs.YtlgkjdjgockkfaaDoor
open Go Go.Pod Go.Proofs

theorem fin_agree2 (q q' : Nat → Bool) (n n' : Nat) (hn : n' ≤ n) (hz : n' = n ∨ q n' = false) : ∀ k k' i, n ≤ i + k → n' ≤ i + k' → i ≤ n' → (∀ j, i ≤ j → j < n' → q j = q' j) → fin q n k i = fin q' n' k' i
  | 0, k', i, h1, _, h3, _ => by
    obtain rfl : i = n' := by omega
    cases k' with
    | zero => rfl
    | succ k' => unfold fin; rw [if_neg (by omega)]
  | k + 1, 0, i, _, h2, h3, _ => by
    obtain rfl : i = n' := by omega
    unfold fin
    rcases hz with e | e
    · rw [if_neg (by omega)]
    · rw [if_neg (fun h => by rw [e] at h; cases h.2)]
  | k + 1, k' + 1, i, h1, h2, h3, h4 => by
    unfold fin
    by_cases hi : i < n'
    · rw [← h4 i (Nat.le_refl _) hi]
      by_cases hq : q i = true
      · rw [if_pos ⟨by omega, hq⟩, if_pos ⟨hi, hq⟩]
        exact fin_agree2 q q' n n' hn hz k k' (i + 1) (by omega) (by omega) hi fun j a b => h4 j (by omega) b
      · rw [if_neg (fun h => hq h.2), if_neg (fun h => hq h.2)]
    · obtain rfl : i = n' := by omega
      rw [if_neg (fun h : i < i ∧ q' i = true => Nat.lt_irrefl _ h.1)]
      rcases hz with e | e
      · rw [if_neg (by omega)]
      · rw [if_neg (fun h => by rw [e] at h; cases h.2)]

theorem fin_stop (q : Nat → Bool) (n : Nat) : ∀ k i, n ≤ i + k → i ≤ n → fin q n k i < n → q (fin q n k i) = false
  | 0, i, h1, h2, h3 => by unfold fin at h3; omega
  | k + 1, i, h1, h2, h3 => by
    unfold fin at h3 ⊢
    by_cases hc : i < n ∧ q i = true
    · rw [if_pos hc] at h3 ⊢
      exact fin_stop q n k (i + 1) (by omega) hc.1 h3
    · rw [if_neg hc] at h3 ⊢
      cases hq : q i with
      | false => rfl
      | true => exact absurd ⟨h3, hq⟩ hc

theorem fin_before (q : Nat → Bool) (n z : Nat) (hz : q z = false) : ∀ k i, i ≤ z → fin q n k i ≤ z
  | 0, i, h => h
  | k + 1, i, h => by
    unfold fin
    split
    · rename_i hc
      have : i ≠ z := fun e => by subst e; rw [hz] at hc; cases hc.2
      exact fin_before q n z hz k (i + 1) (by omega)
    · exact h

theorem fin_whole (q : Nat → Bool) (n : Nat) (h : ∀ j, j < n → q j = true) : ∀ k i, n ≤ i + k → i ≤ n → fin q n k i = n
  | 0, i, h1, h2 => show i = n by omega
  | k + 1, i, h1, h2 => by
    unfold fin
    by_cases hi : i < n
    · rw [if_pos ⟨hi, h i hi⟩]
      exact fin_whole q n h k (i + 1) (by omega) hi
    · rw [if_neg (fun h => hi h.1)]; omega

theorem isB_cases {c : Int} (h : isB c = true) : c = 32 ∨ c = 9 ∨ c = 10 ∨ c = 13 := by
  unfold isB at h
  cases h1 : c == 32 with
  | true => exact .inl (beq_iff_eq.1 h1)
  | false =>
    cases h2 : c == 9 with
    | true => exact .inr (.inl (beq_iff_eq.1 h2))
    | false =>
      cases h3 : c == 10 with
      | true => exact .inr (.inr (.inl (beq_iff_eq.1 h3)))
      | false => rw [h1, h2, h3] at h; exact .inr (.inr (.inr (beq_iff_eq.1 h)))

section
variable {A b : ByteArray} (hb : b.size = 0 ∨ isB (byt b 0) = true)
include hb

theorem to_left2 (q : ByteArray → Nat → Bool) (hq : ∃ f : Int → Bool, (∀ (s : ByteArray) (j : Nat), q s j = f (byt s j)) ∧ f 32 = false ∧ f 9 = false ∧ f 10 = false ∧ f 13 = false) {p : Nat} (hp : p ≤ A.size) : to (q (A ++ b)) (A ++ b) p = to (q A) A p := by
  obtain ⟨f, hf, f1, f2, f3, f4⟩ := hq
  unfold to
  have hs := cat_size A b
  refine fin_agree2 _ _ _ _ (by omega) ?_ _ _ p (by omega) (by omega) hp fun j _ hj => by rw [hf, hf, cat_left A b hj]
  rcases hb with h | h
  · left; omega
  · right
    have := cat_right A b 0
    rw [Nat.add_zero] at this
    rw [hf, this]
    rcases isB_cases h with e | e | e | e <;> rw [e] <;> assumption

theorem mt_left2 {p i : Nat} (hp : p < A.size) (hi : i < 23) : mt (A ++ b) p (sg i) = mt A p (sg i) := by
  have hsz := sg_size i hi
  by_cases hle : p + (sg i).size ≤ A.size
  · unfold mt
    rw [ext_left A b (by omega) hle, decide_eq_true hle, decide_eq_true (show p + (sg i).size ≤ (A ++ b).size by rw [cat_size]; omega)]
  · have h6 : i < 6 := by
      rcases Nat.lt_or_ge i 6 with h | h
      · exact h
      · rw [if_neg (by omega)] at hsz; omega
    rw [if_pos h6] at hsz
    have e2 : mt A p (sg i) = false := by unfold mt; rw [decide_eq_false hle]; rfl
    rw [e2]
    cases hm : mt (A ++ b) p (sg i) with
    | false => rfl
    | true =>
      unfold mt at hm
      rw [Bool.and_eq_true, decide_eq_true_iff, Go.ByteArray.toList_eq, Go.ByteArray.toList_eq, beq_iff_eq, cat_size] at hm
      have e3 := WideShapes.bytes_inj hm.2
      have hB := hb.resolve_left (by omega)
      have e4 : byt (sg i) 1 = byt b 0 := by
        rw [← e3, ext_byt (by omega), show p + 1 = A.size + 0 by omega, cat_right A b 0]
      have : ∀ i : Fin 6, byt (sg i.1) 1 = 124 ∨ byt (sg i.1) 1 = 38 ∨ byt (sg i.1) 1 = 61 := by decide
      have h7 := this ⟨i, h6⟩
      have h8 := isB_cases hB
      rw [← e4] at h8
      dsimp only at h7
      omega
theorem sgf_left2 {p : Nat} (hp : p < A.size) : ∀ k i, i + k = 23 → sgf (A ++ b) p k i = sgf A p k i
  | 0, _, _ => rfl
  | k + 1, i, hi => by unfold sgf; rw [mt_left2 hb hp (by omega), sgf_left2 hp k (i + 1) (by omega)]
theorem tk_left2 {p : Nat} (hp : p < A.size) : tk (A ++ b) p = tk A p := by
  have w := to_le (q := pW A) (Nat.le_of_lt hp)
  have d := to_le (q := pD A) (Nat.le_of_lt hp)
  unfold tk sgn
  rw [cat_left A b hp, to_left2 hb pW ⟨fun c => isL c || isD c, fun _ _ => rfl, rfl, rfl, rfl, rfl⟩ (Nat.le_of_lt hp), to_left2 hb pD ⟨isD, fun _ _ => rfl, rfl, rfl, rfl, rfl⟩ (Nat.le_of_lt hp), ext_left A b w.1 w.2, ext_left A b d.1 d.2, sgf_left2 hb hp 23 0 rfl]

theorem sc_left2 (hC : ∀ p, p < A.size → byt A p = 35 → to (pC A) A p < A.size) : ∀ k k' p m, A.size ≤ p + k → (A ++ b).size ≤ p + k' → p ≤ A.size →
    sc (A ++ b) k' p m = match sc A k p m with
      | .inl m' => sc (A ++ b) (A ++ b).size A.size m'
      | .inr q => .inr q
  | 0, k', p, m, h2, h3, hp => by
    obtain rfl : p = A.size := by omega
    exact sc_fuel (A ++ b) k' (A ++ b).size A.size m h3 (by omega)
  | k + 1, k', p, m, h2, h3, hp => by
    have hs := cat_size A b
    by_cases hlt : p < A.size
    · obtain ⟨k', rfl⟩ : ∃ k0, k' = k0 + 1 := ⟨k' - 1, by omega⟩
      rw [sc_succ, sc_succ, if_pos hlt, if_pos (show p < (A ++ b).size by omega), cat_left A b hlt]
      by_cases hbl : isB (byt A p) = true
      · rw [if_pos hbl, if_pos hbl]
        exact sc_left2 hC k k' (p + 1) m (by omega) (by omega) hlt
      · rw [if_neg hbl, if_neg hbl]
        by_cases hc : byt A p = 35
        · have h4 := to_hash hlt hc
          have h5 := hC p hlt hc
          have e : to (pC (A ++ b)) (A ++ b) p = to (pC A) A p := by
            have hst := fin_stop (pC A) A.size A.size p (by omega) hp h5
            refine fin_agree _ _ _ _ (to (pC A) A p) _ _ p (by omega) (by omega) (Nat.le_of_lt h4) (by omega) h5 ?_ hst fun j _ hj => ?_
            · exact (congrArg (fun c : Int => c != 10) (cat_left A b h5)).trans hst
            · exact congrArg (fun c : Int => c != 10) (cat_left A b (by omega))
          rw [if_pos hc, if_pos hc, e]
          exact sc_left2 hC k k' _ m (by omega) (by omega) (by omega)
        · rw [if_neg hc, if_neg hc, tk_left2 hb hlt]
          have hle := tk_le hlt
          by_cases h0 : tk A p = 0
          · rw [if_pos h0, if_pos h0]
          · rw [if_neg h0, if_neg h0, ext_left A b (by omega) hle]
            exact sc_left2 hC k k' _ _ (by omega) (by omega) hle
    · obtain rfl : p = A.size := by omega
      have : sc A (k + 1) A.size m = .inl m := by rw [sc_succ, if_neg (by omega)]
      rw [this]
      exact sc_fuel (A ++ b) k' (A ++ b).size A.size m h3 (by omega)
end

/-- What may be a token. -/
def okw (w : ByteArray) : Bool := (wd w || dg w) || (List.range 23).any fun k => (sg k).toList == w.toList

theorem okw_tk {w : ByteArray} (h : okw w = true) : tk w 0 = w.size ∧ 1 ≤ w.size ∧ w.size ≤ 32 ∧ isB (byt w 0) = false ∧ byt w 0 ≠ 35 := by
  have full : w.extract 0 w.size = w := by simp
  unfold okw at h
  cases hw : wd w with
  | true =>
    have hw' := hw
    unfold wd at hw'
    simp only [Bool.and_eq_true, decide_eq_true_iff] at hw'
    obtain ⟨⟨z1, z2⟩, hl, hall⟩ := hw'
    have e : to (pW w) w 0 = w.size := fin_whole _ _ (fun j hj => List.all_eq_true.1 hall j (List.mem_range.2 hj)) _ _ (by omega) (Nat.zero_le _)
    refine ⟨?_, z1, z2, ?_, ?_⟩
    · unfold tk; rw [if_pos hl, e, full, hw, if_pos rfl, Nat.sub_zero]
    · cases hB : isB (byt w 0) with
      | false => rfl
      | true => rcases isB_cases hB with e | e | e | e <;> rw [e] at hl <;> cases hl
    · intro e; rw [e] at hl; cases hl
  | false =>
    cases hd : dg w with
    | true =>
      have hf := dg_first hd
      have hd' := hd
      unfold dg at hd'
      rw [← all_digs] at hd'
      simp only [Bool.and_eq_true, decide_eq_true_iff] at hd'
      obtain ⟨⟨⟨z2, z1⟩, hall⟩, _⟩ := hd'
      have hl : isL (byt w 0) = false := by
        cases h : isL (byt w 0) with
        | false => rfl
        | true => rw [isL_notD h] at hf; cases hf
      have e : to (pD w) w 0 = w.size := fin_whole _ _ (fun j hj => List.all_eq_true.1 hall j (List.mem_range.2 hj)) _ _ (by omega) (Nat.zero_le _)
      refine ⟨?_, z1, by omega, ?_, ?_⟩
      · unfold tk; rw [hl, if_neg (by decide), if_pos hf, e, full, hd, if_pos rfl, Nat.sub_zero]
      · cases hB : isB (byt w 0) with
        | false => rfl
        | true => rcases isB_cases hB with e | e | e | e <;> rw [e] at hf <;> cases hf
      · intro e; rw [e] at hf; cases hf
    | false =>
      rw [hw, hd, Bool.false_or, Bool.false_or, List.any_eq_true] at h
      obtain ⟨k, hk, he⟩ := h
      have hk' := List.mem_range.1 hk
      rw [Go.ByteArray.toList_eq, Go.ByteArray.toList_eq, beq_iff_eq] at he
      have := WideShapes.bytes_inj he
      subst this
      have tab : ∀ k : Fin 23, tk (sg k.1) 0 = (sg k.1).size ∧ 1 ≤ (sg k.1).size ∧ (sg k.1).size ≤ 32 ∧ isB (byt (sg k.1) 0) = false ∧ byt (sg k.1) 0 ≠ 35 := by decide +kernel
      exact tab ⟨k, hk'⟩

end Go.Proofs.YtlgkjdjgockkfaaDoor
