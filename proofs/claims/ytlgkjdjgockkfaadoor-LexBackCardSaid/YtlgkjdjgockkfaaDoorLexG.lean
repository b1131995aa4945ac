/- Scanning two texts with a blank between: 'LexJoins'. -/
import Derived.Test.YtlgkjdjgockkfaaDoorLexF
import Derived.WideShapes
namespace Go.Proofs.YtlgkjdjgockkfaaDoor
open Go Go.Pod Go.Proofs

theorem sc_succ (s : ByteArray) (k p : Nat) (m : M) : sc s (k + 1) p m = if p < s.size then
      (if isB (byt s p) = true then sc s k (p + 1) m
       else if byt s p = 35 then sc s k (to (pC s) s p) m
       else if tk s p = 0 then .inr p
       else sc s k (p + tk s p) (pshT m ⟨s.extract p (p + tk s p), (p : Int)⟩))
    else .inl m := rfl

theorem fin_agree (q q' : Nat → Bool) (n n' z : Nat) : ∀ k k' i, n ≤ i + k → n' ≤ i + k' → i ≤ z → z < n → z < n' → q z = false → q' z = false → (∀ j, i ≤ j → j ≤ z → q j = q' j) → fin q n k i = fin q' n' k' i
  | 0, _, i, h1, _, h3, h4, _, _, _, _ => by omega
  | _ + 1, 0, i, _, h2, h3, _, h5, _, _, _ => by omega
  | k + 1, k' + 1, i, h1, h2, h3, h4, h5, h6, h7, h8 => by
    unfold fin
    rw [← h8 i (Nat.le_refl _) h3]
    by_cases hq : q i = true
    · have hne : i ≠ z := fun e => by subst e; rw [h6] at hq; cases hq
      rw [if_pos ⟨by omega, hq⟩, if_pos ⟨by omega, hq⟩]
      exact fin_agree q q' n n' z k k' (i + 1) (by omega) (by omega) (by omega) h4 h5 h6 h7 fun j a b => h8 j (by omega) b
    · rw [if_neg (fun h => hq h.2), if_neg (fun h => hq h.2)]

theorem fin_shift (q q' : Nat → Bool) (c n' : Nat) (hq : ∀ j, j < n' → q (c + j) = q' j) : ∀ k k' i, n' ≤ i + k → n' ≤ i + k' → fin q (c + n') k (c + i) = c + fin q' n' k' i
  | 0, 0, _, _, _ => rfl
  | 0, k' + 1, i, h1, _ => by unfold fin; rw [if_neg (by omega)]
  | k + 1, 0, i, _, h2 => by unfold fin; rw [if_neg (by omega)]
  | k + 1, k' + 1, i, h1, h2 => by
    unfold fin
    by_cases hi : i < n'
    · rw [hq i hi]
      by_cases hp : q' i = true
      · rw [if_pos ⟨by omega, hp⟩, if_pos ⟨hi, hp⟩]
        exact fin_shift q q' c n' hq k k' (i + 1) (by omega) (by omega)
      · rw [if_neg (fun h => hp h.2), if_neg (fun h => hp h.2)]
    · rw [if_neg (fun h => hi (by omega)), if_neg (fun h => hi h.1)]

theorem ext_list (s : ByteArray) (a b : Nat) : (s.extract a b).data.toList = (s.data.toList.drop a).take (b - a) := by simp
theorem cat_list (x y : ByteArray) : (x ++ y).data.toList = x.data.toList ++ y.data.toList := by simp
theorem cat_size (x y : ByteArray) : (x ++ y).size = x.size + y.size := by simp

section
variable (A b : ByteArray)

theorem cat_left {p : Nat} (hp : p < A.size) : byt (A ++ b) p = byt A p := by
  unfold byt
  rw [ba_get, ba_get, cat_list, List.getElem?_append_left (by rw [← ba_size]; exact hp)]
theorem cat_right (p : Nat) : byt (A ++ b) (A.size + p) = byt b p := by
  unfold byt
  rw [ba_get, ba_get, cat_list, List.getElem?_append_right (by rw [← ba_size]; omega), ← ba_size, Nat.add_sub_cancel_left]
theorem ext_left {p e : Nat} (hp : p ≤ e) (he : e ≤ A.size) : (A ++ b).extract p e = A.extract p e := by
  apply WideShapes.bytes_inj
  rw [ext_list, ext_list, cat_list, List.drop_append_of_le_length (by rw [← ba_size]; omega), List.take_append_of_le_length (by rw [List.length_drop, ← ba_size]; omega)]
theorem ext_right (p e : Nat) : (A ++ b).extract (A.size + p) (A.size + e) = b.extract p e := by
  apply WideShapes.bytes_inj
  rw [ext_list, ext_list, cat_list, show A.size = A.data.toList.length from ba_size A, List.drop_append, Nat.add_sub_cancel_left, List.drop_eq_nil_of_le (by omega), List.nil_append, show A.data.toList.length + e - (A.data.toList.length + p) = e - p by omega]

theorem mt_right (p : Nat) (g : ByteArray) : mt (A ++ b) (A.size + p) g = mt b p g := by
  unfold mt
  rw [cat_size, Nat.add_assoc, ext_right, show decide (A.size + (p + g.size) ≤ A.size + b.size) = decide (p + g.size ≤ b.size) from decide_eq_decide.2 (by omega)]
theorem sgf_right (p : Nat) : ∀ k i, sgf (A ++ b) (A.size + p) k i = sgf b p k i
  | 0, _ => rfl
  | k + 1, i => by unfold sgf; rw [mt_right, sgf_right p k (i + 1)]
theorem to_right (q : ByteArray → Nat → Bool) (hq : ∃ f : Int → Bool, ∀ (s : ByteArray) (j : Nat), q s j = f (byt s j)) {p : Nat} (hp : p ≤ b.size) : to (q (A ++ b)) (A ++ b) (A.size + p) = A.size + to (q b) b p := by
  unfold to
  obtain ⟨f, hf⟩ := hq
  rw [cat_size]
  exact fin_shift _ _ A.size b.size (fun j _ => by rw [hf, hf, cat_right]) _ _ p (by omega) (by omega)
theorem tk_right {p : Nat} (hp : p < b.size) : tk (A ++ b) (A.size + p) = tk b p := by
  unfold tk sgn
  rw [cat_right, to_right A b pW ⟨fun c => isL c || isD c, fun _ _ => rfl⟩ (Nat.le_of_lt hp), to_right A b pD ⟨isD, fun _ _ => rfl⟩ (Nat.le_of_lt hp), ext_right, ext_right, sgf_right, Nat.add_sub_add_left, Nat.add_sub_add_left]

/-- One text's tokens behind another's. -/
structure Rel (m1 m mb : M) : Prop where
  len : m.1 = m1.1 + mb.1
  old : ∀ i, i < m1.1 → m.2 i = m1.2 i
  new : ∀ i, i < mb.1 → m.2 (m1.1 + i) = ⟨(mb.2 i).f0, (mb.2 i).f1 + (A.size : Int)⟩ ∧ 0 ≤ (mb.2 i).f1 ∧ (mb.2 i).f1 ≤ (b.size : Int)

theorem psh_lt {m : M} {t : S_api_Token} {i : Nat} (h : i < m.1) : (pshT m t).2 i = m.2 i := by
  show (if i < m.1 then _ else _) = _; rw [if_pos h]
theorem psh_at {m : M} {t : S_api_Token} : (pshT m t).2 m.1 = t := by
  show (if m.1 < m.1 then _ else _) = _; rw [if_neg (Nat.lt_irrefl _), Nat.sub_self]; rfl

variable {A b}
theorem Rel.psh {m1 m mb : M} (h : Rel A b m1 m mb) {x : ByteArray} {p : Nat} (hp : p ≤ b.size) : Rel A b m1 (pshT m ⟨x, ((A.size + p : Nat) : Int)⟩) (pshT mb ⟨x, (p : Int)⟩) := by
  refine ⟨?_, fun i hi => ?_, fun i hi => ?_⟩
  · show m.1 + 1 = m1.1 + (mb.1 + 1); rw [h.len]; omega
  · rw [psh_lt (by rw [h.len]; omega)]; exact h.old i hi
  · have hi' : i < mb.1 + 1 := hi
    by_cases e : i < mb.1
    · rw [psh_lt (by rw [h.len]; omega), psh_lt e]; exact h.new i e
    · obtain rfl : i = mb.1 := by omega
      rw [← h.len, psh_at, psh_at]
      refine ⟨?_, by show (0 : Int) ≤ (p : Int); omega, by show (p : Int) ≤ (b.size : Int); omega⟩
      show (⟨x, ((A.size + p : Nat) : Int)⟩ : S_api_Token) = ⟨x, (p : Int) + (A.size : Int)⟩
      congr 1; omega

theorem sc_right (m1 : M) : ∀ k k' p m mb, b.size ≤ p + k → b.size ≤ p + k' → p ≤ b.size → Rel A b m1 m mb →
    match sc b k p mb with
    | .inl mb' => ∃ m', sc (A ++ b) k' (A.size + p) m = .inl m' ∧ Rel A b m1 m' mb'
    | .inr q => sc (A ++ b) k' (A.size + p) m = .inr (A.size + q)
  | 0, k', p, m, mb, h1, h2, hp, hr => by
    refine ⟨m, ?_, hr⟩
    cases k' with
    | zero => rfl
    | succ k' => unfold sc; rw [if_neg (by rw [cat_size]; omega)]
  | k + 1, 0, p, m, mb, h1, h2, hp, hr => by
    unfold sc
    rw [if_neg (by omega)]
    exact ⟨m, rfl, hr⟩
  | k + 1, k' + 1, p, m, mb, h1, h2, hp, hr => by
    unfold sc
    by_cases hlt : p < b.size
    · rw [if_pos hlt, if_pos (show A.size + p < (A ++ b).size by rw [cat_size]; omega), cat_right]
      by_cases hb : isB (byt b p) = true
      · rw [if_pos hb, if_pos hb, Nat.add_assoc]
        exact sc_right m1 k k' (p + 1) m mb (by omega) (by omega) hlt hr
      · rw [if_neg hb, if_neg hb]
        by_cases hc : byt b p = 35
        · have h3 := to_hash hlt hc
          rw [if_pos hc, if_pos hc, to_right A b pC ⟨fun c => c != 10, fun _ _ => rfl⟩ hp]
          exact sc_right m1 k k' _ m mb (by omega) (by omega) (to_le (q := pC b) hp).2 hr
        · rw [if_neg hc, if_neg hc, tk_right A b hlt]
          by_cases h0 : tk b p = 0
          · rw [if_pos h0, if_pos h0]
          · rw [if_neg h0, if_neg h0, Nat.add_assoc, ext_right]
            exact sc_right m1 k k' _ _ _ (by omega) (by omega) (tk_le hlt) (hr.psh hp)
    · rw [if_neg hlt, if_neg (show ¬ A.size + p < (A ++ b).size by rw [cat_size]; omega)]
      exact ⟨m, rfl, hr⟩

/-! ### The first text -/

variable (h1 : 1 ≤ A.size) (hz : byt A (A.size - 1) = 10)
include h1 hz

theorem to_left (q : ByteArray → Nat → Bool) (hq : ∃ f : Int → Bool, (∀ (s : ByteArray) (j : Nat), q s j = f (byt s j)) ∧ f 10 = false) {p : Nat} (hp : p < A.size) : to (q (A ++ b)) (A ++ b) p = to (q A) A p := by
  obtain ⟨f, hf, hf10⟩ := hq
  unfold to
  have hs := cat_size A b
  refine fin_agree _ _ _ _ (A.size - 1) _ _ p (by omega) (by omega) (by omega) (by omega) (by omega) ?_ ?_ fun j _ hj => ?_
  · rw [hf, cat_left A b (by omega), hz, hf10]
  · rw [hf, hz, hf10]
  · rw [hf, hf, cat_left A b (by omega)]

theorem mt_left {p i : Nat} (hp : p < A.size) (hi : i < 23) : mt (A ++ b) p (sg i) = mt A p (sg i) := by
  have hsz := sg_size i hi
  by_cases hle : p + (sg i).size ≤ A.size
  · unfold mt
    rw [ext_left A b (by omega) hle, decide_eq_true hle, decide_eq_true (show p + (sg i).size ≤ (A ++ b).size by rw [cat_size]; omega)]
  · have h6 : i < 6 := by
      rcases Nat.lt_or_ge i 6 with h | h
      · exact h
      · rw [if_neg (by omega)] at hsz; omega
    rw [if_pos h6] at hsz
    have hpe : p = A.size - 1 := by omega
    have e2 : mt A p (sg i) = false := by unfold mt; rw [decide_eq_false hle]; rfl
    rw [e2]
    cases hm : mt (A ++ b) p (sg i) with
    | false => rfl
    | true =>
      unfold mt at hm
      rw [Bool.and_eq_true, Go.ByteArray.toList_eq, Go.ByteArray.toList_eq, beq_iff_eq] at hm
      have e3 := WideShapes.bytes_inj hm.2
      have e4 : byt (sg i) 0 = 10 := by
        rw [← e3, ext_byt (by omega), Nat.add_zero, cat_left A b hp, hpe, hz]
      have : ∀ i : Fin 6, byt (sg i.1) 0 ≠ 10 := by decide
      exact absurd e4 (this ⟨i, h6⟩)
theorem sgf_left {p : Nat} (hp : p < A.size) : ∀ k i, i + k = 23 → sgf (A ++ b) p k i = sgf A p k i
  | 0, _, _ => rfl
  | k + 1, i, hi => by unfold sgf; rw [mt_left h1 hz hp (by omega), sgf_left hp k (i + 1) (by omega)]
theorem tk_left {p : Nat} (hp : p < A.size) : tk (A ++ b) p = tk A p := by
  have w := to_le (q := pW A) (Nat.le_of_lt hp)
  have d := to_le (q := pD A) (Nat.le_of_lt hp)
  unfold tk sgn
  rw [cat_left A b hp, to_left h1 hz pW ⟨fun c => isL c || isD c, fun _ _ => rfl, rfl⟩ hp, to_left h1 hz pD ⟨isD, fun _ _ => rfl, rfl⟩ hp, ext_left A b w.1 w.2, ext_left A b d.1 d.2, sgf_left h1 hz hp 23 0 rfl]

theorem sc_left : ∀ k k' p m, A.size ≤ p + k → (A ++ b).size ≤ p + k' → p ≤ A.size →
    sc (A ++ b) k' p m = match sc A k p m with
      | .inl m' => sc (A ++ b) (A ++ b).size A.size m'
      | .inr q => .inr q
  | 0, k', p, m, h2, h3, hp => by
    obtain rfl : p = A.size := by omega
    exact sc_fuel (A ++ b) k' (A ++ b).size A.size m h3 (by omega)
  | k + 1, k', p, m, h2, h3, hp => by
    have hs := cat_size A b
    by_cases hlt : p < A.size
    · obtain ⟨k', rfl⟩ : ∃ k0, k' = k0 + 1 := ⟨k' - 1, by omega⟩
      rw [sc_succ, sc_succ, if_pos hlt, if_pos (show p < (A ++ b).size by omega), cat_left A b hlt]
      by_cases hb : isB (byt A p) = true
      · rw [if_pos hb, if_pos hb]
        exact sc_left k k' (p + 1) m (by omega) (by omega) hlt
      · rw [if_neg hb, if_neg hb]
        by_cases hc : byt A p = 35
        · have h4 := to_hash hlt hc
          rw [if_pos hc, if_pos hc, to_left h1 hz pC ⟨fun c => c != 10, fun _ _ => rfl, rfl⟩ hlt]
          exact sc_left k k' _ m (by omega) (by omega) (to_le (q := pC A) hp).2
        · rw [if_neg hc, if_neg hc, tk_left h1 hz hlt]
          have hle := tk_le hlt
          by_cases h0 : tk A p = 0
          · rw [if_pos h0, if_pos h0]
          · rw [if_neg h0, if_neg h0, ext_left A b (by omega) hle]
            exact sc_left k k' _ _ (by omega) (by omega) hle
    · obtain rfl : p = A.size := by omega
      have : sc A (k + 1) A.size m = .inl m := by unfold sc; rw [if_neg (by omega)]
      rw [this]
      exact sc_fuel (A ++ b) k' (A ++ b).size A.size m h3 (by omega)
end

end Go.Proofs.YtlgkjdjgockkfaaDoor
