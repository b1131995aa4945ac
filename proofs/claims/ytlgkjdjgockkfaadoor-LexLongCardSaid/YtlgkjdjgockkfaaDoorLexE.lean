/- Scanning as plain functions, third part: both scanners are one function; 'LexScans'. -/
import Derived.Test.YtlgkjdjgockkfaaDoorLexD
namespace Go.Proofs.YtlgkjdjgockkfaaDoor
open Go Go.Pod Go.Proofs

/-! ### Tokens -/

/-- How long the word, the digits or the sign is that stands here; nought: none may. -/
def tk (s : ByteArray) (p : Nat) : Nat :=
  if isL (byt s p) = true then (if wd (s.extract p (to (pW s) s p)) = true then to (pW s) s p - p else 0)
  else if isD (byt s p) = true then (if dg (s.extract p (to (pD s) s p)) = true then to (pD s) s p - p else 0)
  else sgn s p

theorem to_le {q : Nat → Bool} {s : ByteArray} {p : Nat} (hp : p ≤ s.size) : p ≤ to q s p ∧ to q s p ≤ s.size := ⟨fin_ge _ _ _ _, fin_le _ _ _ _ hp⟩
theorem to_gt {q : Nat → Bool} {s : ByteArray} {p : Nat} (hp : p < s.size) (hq : q p = true) : p < to q s p := by
  unfold to
  obtain ⟨k, hk⟩ : ∃ k, s.size = k + 1 := ⟨s.size - 1, by omega⟩
  have := fin_gt q s.size k p hp hq
  rwa [← hk] at this

theorem sgf_le (s : ByteArray) (p : Nat) : ∀ k i, i + k = 23 → sgf s p k i = 0 ∨ (0 < sgf s p k i ∧ p + sgf s p k i ≤ s.size)
  | 0, _, _ => .inl rfl
  | k + 1, i, hi => by
    unfold sgf
    split
    · rename_i h
      unfold mt at h
      rw [Bool.and_eq_true, decide_eq_true_iff] at h
      have := sg_size i (by omega)
      refine .inr ⟨?_, h.1⟩
      rw [this]; split <;> omega
    · exact sgf_le s p k (i + 1) (by omega)

theorem tk_le {s : ByteArray} {p : Nat} (hp : p < s.size) : p + tk s p ≤ s.size := by
  unfold tk
  have h1 := to_le (q := pW s) (Nat.le_of_lt hp)
  have h2 := to_le (q := pD s) (Nat.le_of_lt hp)
  split
  · split <;> omega
  · split
    · split <;> omega
    · rcases sgf_le s p 23 0 rfl with h | h
      · unfold sgn; omega
      · unfold sgn; omega

theorem ext_size {s : ByteArray} {a b : Nat} (hb : b ≤ s.size) : (s.extract a b).size = b - a := by rw [ByteArray.size_extract, Nat.min_eq_left hb]
theorem ext_byt {s : ByteArray} {a b i : Nat} (hi : a + i < b) : byt (s.extract a b) i = byt s (a + i) := by
  unfold byt
  rw [ba_get, ba_get]
  have : (s.extract a b).data.toList = (s.data.toList.drop a).take (b - a) := by simp
  rw [this, List.getElem?_take_of_lt (by omega), List.getElem?_drop]

theorem lex_next {fu : Nat} {s : ByteArray} (hf : s.size < fu) (hf2 : 10 ≤ fu) (hs : s.size ≤ 100000) {p : Nat} (hp : p < s.size) : F_lex_next fu s (p : Int) = some ((tk s p : Nat) : Int) := by
  unfold F_lex_next tk
  have h1 := to_le (q := pW s) (Nat.le_of_lt hp)
  have h2 := to_le (q := pD s) (Nat.le_of_lt hp)
  rw [chk_t (by omega), Int.toNat_natCast, show F_lex_letter (((s[p]?).getD 0).toNat : Int) = some (isL (byt s p)) from rfl, Option.bind_some]
  cases hl : isL (byt s p) with
  | true =>
    rw [if_pos rfl, ifs, run_W hf hs (Nat.le_of_lt hp), Option.bind_some, show (p : Int) + ((to (pW s) s p - p : Nat) : Int) = ((to (pW s) s p : Nat) : Int) by omega, wrap_nat (by omega), chk_t (by omega), Int.toNat_natCast, lex_word (by rw [ext_size h1.2]; omega) (by rw [ext_size h1.2]; omega), Option.bind_some]
    cases wd (s.extract p (to (pW s) s p)) <;> rfl
  | false =>
    rw [if_neg (by decide), ifs, show F_lex_digit (((s[p]?).getD 0).toNat : Int) = some (isD (byt s p)) from rfl, Option.bind_some]
    cases hd : isD (byt s p) with
    | true =>
      rw [if_pos rfl, ifs, run_D hf hs (Nat.le_of_lt hp), Option.bind_some, show (p : Int) + ((to (pD s) s p - p : Nat) : Int) = ((to (pD s) s p : Nat) : Int) by omega, wrap_nat (by omega), chk_t (by omega), Int.toNat_natCast, lex_digits (by rw [ext_size h2.2]; omega) (by rw [ext_size h2.2]; omega), Option.bind_some]
      cases dg (s.extract p (to (pD s) s p)) <;> rfl
    | false =>
      rw [if_neg (by decide), ifs, chk_t (by omega), Int.toNat_natCast, lex_sign hf2 hp]
      rfl

/-! ### One function -/

abbrev M := Nat × (Nat → S_api_Token)
def pshT (m : M) (t : S_api_Token) : M := (m.1 + 1, fun i => if i < m.1 then m.2 i else (fun i => ([t] : List S_api_Token).getD i (S_api_Token.mk (⟨#[]⟩ : ByteArray) (0 : Int))) (i - m.1))
def emp : M := (0, fun _ => S_api_Token.mk (⟨#[]⟩ : ByteArray) (0 : Int))

def sc (s : ByteArray) : Nat → Nat → M → M ⊕ Nat
  | 0, _, m => .inl m
  | k + 1, p, m => if p < s.size then
      (if isB (byt s p) = true then sc s k (p + 1) m
       else if byt s p = 35 then sc s k (to (pC s) s p) m
       else if tk s p = 0 then .inr p
       else sc s k (p + tk s p) (pshT m ⟨s.extract p (p + tk s p), (p : Int)⟩))
    else .inl m

theorem sc_fuel (s : ByteArray) : ∀ k k' p m, s.size ≤ p + k → s.size ≤ p + k' → sc s k p m = sc s k' p m
  | 0, 0, _, _, _, _ => rfl
  | 0, k' + 1, p, m, h, _ => by unfold sc; rw [if_neg (by omega)]
  | k + 1, 0, p, m, _, h => by unfold sc; rw [if_neg (by omega)]
  | k + 1, k' + 1, p, m, h, h' => by
    unfold sc
    split
    · rename_i hp
      split
      · exact sc_fuel s k k' _ _ (by omega) (by omega)
      · split
        · rename_i hc
          have := to_hash hp hc
          exact sc_fuel s k k' _ _ (by omega) (by omega)
        · split
          · rfl
          · exact sc_fuel s k k' _ _ (by omega) (by omega)
    · rfl

theorem sc_skb (s : ByteArray) : ∀ j p m k k', p ≤ s.size → s.size ≤ p + k → s.size ≤ skb s j p + k' → sc s k p m = sc s k' (skb s j p) m
  | 0, p, m, k, k', _, h1, h2 => sc_fuel s k k' p m h1 h2
  | j + 1, p, m, k, k', hp, h1, h2 => by
    unfold skb at h2 ⊢
    by_cases hlt : p < s.size
    · obtain ⟨k, rfl⟩ : ∃ k0, k = k0 + 1 := ⟨k - 1, by omega⟩
      rw [if_pos hlt] at h2 ⊢
      by_cases hb : isB (byt s p) = true
      · rw [if_pos hb] at h2 ⊢
        rw [← sc_skb s j (p + 1) m k k' hlt (by omega) h2]
        show sc s (k + 1) p m = _
        unfold sc
        rw [if_pos hlt, if_pos hb]
        cases k with
        | zero => unfold sc; rfl
        | succ k => rfl
      · rw [if_neg hb] at h2 ⊢
        by_cases hc : byt s p = 35
        · rw [if_pos hc] at h2 ⊢
          have h3 := to_hash hlt hc
          have h4 := (to_le (q := pC s) (Nat.le_of_lt hlt)).2
          rw [← sc_skb s j _ m k k' h4 (by omega) h2]
          show sc s (k + 1) p m = _
          rw [show sc s (k + 1) p m = sc s k (to (pC s) s p) m by
            show (if p < s.size then _ else _) = _
            rw [if_pos hlt, if_neg hb, if_pos hc]]
        · rw [if_neg hc] at h2 ⊢
          exact sc_fuel s (k + 1) k' p m h1 h2
    · rw [if_neg hlt] at h2 ⊢
      exact sc_fuel s k k' p m h1 h2

theorem skb_stops (s : ByteArray) : ∀ j p, s.size ≤ p + j → p ≤ s.size → skb s j p = s.size ∨ (isB (byt s (skb s j p)) = false ∧ byt s (skb s j p) ≠ 35)
  | 0, p, h, hp => .inl (show p = s.size by omega)
  | j + 1, p, h, hp => by
    unfold skb
    split
    · rename_i hlt
      split
      · exact skb_stops s j (p + 1) (by omega) hlt
      · split
        · rename_i hc
          have h3 := to_hash hlt hc
          exact skb_stops s j _ (by omega) (to_le (q := pC s) (Nat.le_of_lt hlt)).2
        · rename_i hb hc
          exact .inr ⟨by simpa using hb, hc⟩
    · exact .inl (by omega)

def flt (p : Nat) : M × S_api_Fault := (emp, S_api_Fault.mk (15 : Int) (p : Int))
def res : M ⊕ Nat → M ⊕ (M × S_api_Fault)
  | .inl m => .inl m
  | .inr p => .inr (flt p)

/-! ### The program's scanner -/

theorem lex_L1 {fu : Nat} {s : ByteArray} (hf : s.size < fu) (hf2 : 10 ≤ fu) (hs : s.size ≤ 100000) (m0 : S_api_Fault) : ∀ k K p (m : M), k < K → s.size ≤ p + k → p ≤ s.size → m.1 ≤ p → (p = s.size ∨ (isB (byt s p) = false ∧ byt s p ≠ 35)) →
    iter (fun t => F_lex_Scan_L1 fu s m0 t.1 t.2) K ((p : Int), m) = some (res (sc s k p m))
  | 0, K, p, m, hk, hn, hp, hm, hb => by
    obtain ⟨K, rfl⟩ : ∃ K', K = K' + 1 := ⟨K - 1, by omega⟩
    refine iter_exit ?_
    unfold F_lex_Scan_L1
    dsimp only
    rw [decide_eq_false (by omega)]; rfl
  | k + 1, K, p, m, hk, hn, hp, hm, hb => by
    obtain ⟨K, rfl⟩ : ∃ K', K = K' + 1 := ⟨K - 1, by omega⟩
    by_cases hlt : p < s.size
    · obtain ⟨b1, b2⟩ := hb.resolve_left (by omega)
      have hle := tk_le hlt
      have step : F_lex_Scan_L1 fu s m0 (p : Int) m = if tk s p = 0 then some (.ret (flt p)) else some (.next (((skb s s.size (p + tk s p) : Nat) : Int), pshT m ⟨s.extract p (p + tk s p), (p : Int)⟩)) := by
        unfold F_lex_Scan_L1
        rw [decide_eq_true (show (p : Int) < (s.size : Int) by omega), ifs, lex_next hf hf2 hs hlt, Option.bind_some]
        by_cases h0 : tk s p = 0
        · rw [if_pos h0, h0]; rfl
        · have hsk := skb_le s s.size (p + tk s p) hle
          rw [if_neg h0, beq_eq_false_iff_ne.2 (show ((tk s p : Nat) : Int) ≠ 0 by omega), ifs, show (p : Int) + ((tk s p : Nat) : Int) = ((p + tk s p : Nat) : Int) by simp, wrap_nat (by omega), chk_t (by omega), chk_t (show RoomOk (m.1 + 1) 24 from ⟨by omega, by omega⟩), lex_blanks hf hs hle, Option.bind_some]
          rw [show ((p + tk s p : Nat) : Int) + ((skb s s.size (p + tk s p) - (p + tk s p) : Nat) : Int) = ((skb s s.size (p + tk s p) : Nat) : Int) by omega, wrap_nat (by omega), Int.toNat_natCast, Int.toNat_natCast]
          rfl
      unfold sc
      rw [if_pos hlt, if_neg (by rw [b1]; decide), if_neg b2]
      by_cases h0 : tk s p = 0
      · rw [if_pos h0] at step
        rw [if_pos h0, iter_ret step]; rfl
      · rw [if_neg h0] at step
        have hsk := skb_le s s.size (p + tk s p) hle
        rw [if_neg h0, iter_next step]
        rw [sc_skb s s.size (p + tk s p) _ k k hle (by omega) (by omega)]
        exact lex_L1 hf hf2 hs m0 k K _ _ (by omega) (by omega) hsk.2 (show m.1 + 1 ≤ _ by omega) (skb_stops s s.size _ (by omega) hle)
    · have step : F_lex_Scan_L1 fu s m0 (p : Int) m = some (.exit m) := by
        unfold F_lex_Scan_L1
        rw [decide_eq_false (by omega)]; rfl
      unfold sc
      rw [if_neg hlt, iter_exit step]; rfl

/-- What both scanners tell. -/
def scan (s : ByteArray) : M × S_api_Fault :=
  if s.size > 16384 then (emp, S_api_Fault.mk (13 : Int) (16384 : Int)) else match sc s s.size 0 emp with
    | .inl m => (m, S_api_Fault.mk (0 : Int) (0 : Int))
    | .inr p => flt p

theorem lex_scan {fu : Nat} {s : ByteArray} (hf : 16400 < fu) : F_lex_Scan fu s = some (scan s) := by
  unfold F_lex_Scan scan
  by_cases h : s.size > 16384
  · rw [decide_eq_true (show (s.size : Int) > 16384 by omega), if_pos h]; rfl
  · have h0 := lex_blanks (fu := fu) (s := s) (by omega) (by omega) (Nat.zero_le _)
    have hsk := skb_le s s.size 0 (Nat.zero_le _)
    rw [decide_eq_false (show ¬ (s.size : Int) > 16384 by omega), if_neg h, ifs, show (0 : Int) = ((0 : Nat) : Int) from rfl, h0, Option.bind_some, Nat.sub_zero]
    rw [sc_skb s s.size 0 emp s.size s.size (Nat.zero_le _) (by omega) (by omega)]
    have := lex_L1 (fu := fu) (s := s) (by omega) (by omega) (by omega) (S_api_Fault.mk (0 : Int) (0 : Int)) s.size fu _ emp (by omega) (by omega) hsk.2 (Nat.zero_le _) (skb_stops s s.size 0 (by omega) (Nat.zero_le _))
    show after (iter (fun t => F_lex_Scan_L1 fu s (S_api_Fault.mk (0 : Int) (0 : Int)) t.1 t.2) fu (((skb s s.size 0 : Nat) : Int), emp)) _ = _
    rw [this]
    cases sc s s.size (skb s s.size 0) emp <;> rfl

end Go.Proofs.YtlgkjdjgockkfaaDoor
