/- Words and digits as plain functions: 'LexWords'. -/
import Derived.Test.YteaghbcenjhjhaaDoorFnC
import Derived.Test.YteaghbcenjhjhaaDoorPodN
namespace Go.Proofs.YteaghbcenjhjhaaDoor
open Go Go.Pod Go.Proofs

theorem ba_get (s : ByteArray) (i : Nat) : (s[i]?).getD 0 = (s.data.toList[i]?).getD 0 := by
  by_cases h : i < s.size
  · have hl : i < s.data.toList.length := by simpa using h
    rw [getElem?_pos s i h, getElem?_pos s.data.toList i hl]
    rfl
  · have hl : ¬ i < s.data.toList.length := by simpa using h
    rw [getElem?_neg s i h, getElem?_neg s.data.toList i hl]

theorem ba_size (s : ByteArray) : s.size = s.data.toList.length := (Array.length_toList (xs := s.data)).symm

theorem chk_t {α : Type} {p : Prop} [Decidable p] (h : p) (o : Option α) : chk p o = o := by
  unfold chk; rw [if_pos h]

theorem wrap_succ {i : Nat} (h : i < 9223372036854775807) : IntKind.wrap .i64 ((i : Int) + 1) = ((i + 1 : Nat) : Int) := by
  rw [wrap_i64 (by omega) (by omega)]; simp

theorem stopAt_all {p : Nat → Bool} : ∀ (n j : Nat), stopAt p n j = none ↔ ∀ i, i < n → p (j + i) = true
  | 0, j => by simp [stopAt]
  | n + 1, j => by
    unfold stopAt
    by_cases h : p j = true
    · rw [if_pos h, stopAt_all n (j + 1)]
      constructor
      · intro k i hi
        cases i with
        | zero => exact h
        | succ i => rw [show j + (i + 1) = j + 1 + i by omega]; exact k i (by omega)
      · intro k i hi
        rw [show j + 1 + i = j + (i + 1) by omega]; exact k (i + 1) (by omega)
    · rw [if_neg h]
      constructor
      · intro e; cases e
      · intro k; exact absurd (k 0 (by omega)) (by simpa using h)

/-- A loop that goes on while a test holds, and leaves with one answer where it does not. -/
theorem iter_all {S E R : Type} {f : S → Option (Lo S E R)} (st : Nat → S) (p : Nat → Bool) (r : R) {e : E} (n k : Nat) (hk : n < k)
    (hs : ∀ i, i < n → (∀ j, j < i → p j = true) → f (st i) = if p i then some (.next (st (i + 1))) else some (.ret r)) (he : (∀ j, j < n → p j = true) → f (st n) = some (.exit e)) :
    iter f k (st 0) = some (if (List.range n).all p then .inl e else .inr r) := by
  suffices h : ∀ m j k, j + m = n → m < k → (∀ i, i < j → p i = true) → iter f k (st j) = some (if (List.range n).all p then .inl e else .inr r) from h n 0 k (by omega) hk fun i hi => absurd hi (Nat.not_lt_zero _)
  intro m
  induction m with
  | zero =>
    intro j k hj hk hp
    obtain rfl : j = n := by omega
    obtain ⟨k, rfl⟩ : ∃ k', k = k' + 1 := ⟨k - 1, by omega⟩
    rw [iter_exit (he hp), if_pos]
    exact List.all_eq_true.2 fun i hi => hp i (List.mem_range.1 hi)
  | succ m ih =>
    intro j k hj hk hp
    obtain ⟨k, rfl⟩ : ∃ k', k = k' + 1 := ⟨k - 1, by omega⟩
    have h0 := hs j (by omega) hp
    cases hpj : p j with
    | true =>
      rw [hpj] at h0
      rw [iter_next h0]
      refine ih (j + 1) k (by omega) (by omega) fun i hi => ?_
      by_cases e : i = j
      · subst e; exact hpj
      · exact hp i (by omega)
    | false =>
      rw [hpj] at h0
      rw [iter_ret h0, if_neg]
      intro ha
      have := List.all_eq_true.1 ha j (List.mem_range.2 (by omega))
      rw [hpj] at this; cases this

/-! ### Letters, digits, words -/

def isL (c : Int) : Bool := bif (bif (bif (decide (c ≥ (97 : Int))) then (decide (c ≤ (122 : Int))) else false) then true else (bif (decide (c ≥ (65 : Int))) then (decide (c ≤ (90 : Int))) else false)) then true else (c == (95 : Int))
def isD (c : Int) : Bool := bif (decide (c ≥ (48 : Int))) then (decide (c ≤ (57 : Int))) else false
theorem isD_iff {c : Int} : isD c = true ↔ 48 ≤ c ∧ c ≤ 57 := by
  unfold isD
  by_cases h : c ≥ 48
  · simp [h]
  · simp [h]
theorem isL_notD {c : Int} (h : isL c = true) : isD c = false := by
  cases hd : isD c with
  | false => rfl
  | true =>
    obtain ⟨h1, h2⟩ := isD_iff.1 hd
    unfold isL at h
    rw [decide_eq_false (show ¬ c ≥ 97 by omega), decide_eq_false (show ¬ c ≥ 65 by omega), beq_eq_false_iff_ne.2 (show c ≠ 95 by omega)] at h
    cases h

/-- A string's byte. -/
def byt (s : ByteArray) (i : Nat) : Int := (((s[i]?).getD 0).toNat : Int)

theorem lex_letter (c : Int) : F_lex_letter c = some (isL c) := rfl
theorem lex_digit (c : Int) : F_lex_digit c = some (isD c) := rfl
theorem lex_word1 (c : Int) : F_lex_Word_1 c = some (isL c || isD c) := by
  unfold F_lex_Word_1
  rw [lex_letter, Option.bind_some, lex_digit]
  cases isL c <;> cases isD c <;> rfl

theorem lex_all_word {fu : Nat} {s : ByteArray} (hf : s.size < fu) (hs : s.size ≤ 100000) : F_lex_all_lex_Word_1 fu s = some ((List.range s.size).all fun i => isL (byt s i) || isD (byt s i)) := by
  unfold F_lex_all_lex_Word_1
  rw [show (0 : Int) = ((0 : Nat) : Int) from rfl, iter_all (fun i => ((i : Nat) : Int)) (fun i => isL (byt s i) || isD (byt s i)) false (e := ()) s.size fu hf]
  · cases (List.range s.size).all fun i => isL (byt s i) || isD (byt s i) <;> rfl
  · intro i hi _
    unfold F_lex_all_lex_Word_1_L1
    rw [decide_eq_true (show (i : Int) < (s.size : Int) by omega), ifs, chk_t (by omega), Int.toNat_natCast, lex_word1, Option.bind_some, wrap_succ (by omega)]
    show ifs (!(isL (byt s i) || isD (byt s i))) _ _ = _
    cases isL (byt s i) || isD (byt s i) <;> rfl
  · intro _
    unfold F_lex_all_lex_Word_1_L1
    rw [decide_eq_false (by omega)]; rfl

theorem lex_all_digit {fu : Nat} {s : ByteArray} (hf : s.size < fu) (hs : s.size ≤ 100000) : F_lex_all_lex_digit fu s = some ((List.range s.size).all fun i => isD (byt s i)) := by
  unfold F_lex_all_lex_digit
  rw [show (0 : Int) = ((0 : Nat) : Int) from rfl, iter_all (fun i => ((i : Nat) : Int)) (fun i => isD (byt s i)) false (e := ()) s.size fu hf]
  · cases (List.range s.size).all fun i => isD (byt s i) <;> rfl
  · intro i hi _
    unfold F_lex_all_lex_digit_L1
    rw [decide_eq_true (show (i : Int) < (s.size : Int) by omega), ifs, chk_t (by omega), Int.toNat_natCast, lex_digit, Option.bind_some, wrap_succ (by omega)]
    show ifs (!(isD (byt s i))) _ _ = _
    cases isD (byt s i) <;> rfl
  · intro _
    unfold F_lex_all_lex_digit_L1
    rw [decide_eq_false (by omega)]; rfl

theorem empty_eq (s : ByteArray) : (s.toList == (⟨#[]⟩ : ByteArray).toList) = decide (s.size = 0) := by
  rw [Go.ByteArray.toList_eq, Go.ByteArray.toList_eq, Bool.eq_iff_iff, beq_iff_eq, decide_eq_true_iff, ba_size]
  constructor
  · intro h; rw [h]; rfl
  · intro h; rw [List.length_eq_zero_iff.1 h]

/-- A word. -/
def wd (s : ByteArray) : Bool := (decide (1 ≤ s.size) && decide (s.size ≤ 32)) && (isL (byt s 0) && (List.range s.size).all fun i => isL (byt s i) || isD (byt s i))

theorem lex_word {fu : Nat} {s : ByteArray} (hf : s.size < fu) (hs : s.size ≤ 100000) : F_lex_Word fu s = some (wd s) := by
  unfold F_lex_Word wd
  rw [lex_all_word hf hs, lex_letter, empty_eq]
  show chk _ ((callIf _ (some (isL (byt s 0))) false).bind _) = _
  have e1 : (!decide (s.size = 0)) = decide (1 ≤ s.size) := by
    by_cases h : s.size = 0
    · rw [decide_eq_true h, decide_eq_false (by omega)]; rfl
    · rw [decide_eq_false h, decide_eq_true (by omega)]; rfl
  have e2 : decide ((s.size : Int) ≤ 32) = decide (s.size ≤ 32) := decide_eq_decide.2 (by omega)
  rw [e1, e2]
  by_cases h : 1 ≤ s.size
  · rw [decide_eq_true h, chk_t (fun _ => by omega)]
    cases decide (s.size ≤ 32) <;> cases isL (byt s 0) <;> cases (List.range s.size).all (fun i => isL (byt s i) || isD (byt s i)) <;> rfl
  · rw [decide_eq_false h, chk_t (fun h => by cases h)]; rfl

theorem ref_word {fu : Nat} {s : ByteArray} (hf : s.size < fu) (hs : s.size ≤ 9223372036854775807) : F_ref15_Word fu s = some (wd s) := by
  unfold F_ref15_Word
  rw [show (0 : Int) = ((0 : Nat) : Int) from rfl, iter_all (fun i => ((i : Nat) : Int)) (fun i => isL (byt s i) || (!decide (i = 0) && isD (byt s i))) false (e := ()) s.size fu hf]
  · have e : ((List.range s.size).all fun i => isL (byt s i) || (!decide (i = 0) && isD (byt s i))) = ((!decide (1 ≤ s.size) || isL (byt s 0)) && (List.range s.size).all fun i => isL (byt s i) || isD (byt s i)) := by
      rw [Bool.eq_iff_iff, Bool.and_eq_true, List.all_eq_true, List.all_eq_true]
      constructor
      · intro h
        refine ⟨?_, fun i hi => ?_⟩
        · by_cases h1 : 1 ≤ s.size
          · have := h 0 (List.mem_range.2 h1)
            simpa using Or.inr this
          · simp [h1]
        · have := h i hi
          revert this
          cases isL (byt s i) <;> cases isD (byt s i) <;> simp
      · rintro ⟨h0, h⟩ i hi
        have hi' := List.mem_range.1 hi
        by_cases e : i = 0
        · subst e
          rw [decide_eq_true (show 1 ≤ s.size by omega)] at h0
          have h0' : isL (byt s 0) = true := by simpa using h0
          rw [h0']; rfl
        · rw [decide_eq_false e]; exact h i hi
    rw [e]
    unfold wd
    rw [show decide ((s.size : Int) ≥ 1) = decide (1 ≤ s.size) from decide_eq_decide.2 (by omega), show decide ((s.size : Int) ≤ 32) = decide (s.size ≤ 32) from decide_eq_decide.2 (by omega)]
    cases decide (1 ≤ s.size) <;> cases decide (s.size ≤ 32) <;> cases isL (byt s 0) <;> cases (List.range s.size).all (fun i => isL (byt s i) || isD (byt s i)) <;> rfl
  · intro i hi _
    unfold F_ref15_Word_L1
    rw [decide_eq_true (show (i : Int) < (s.size : Int) by omega), ifs, chk_t (by omega), Int.toNat_natCast, show F_ref15_letter (((s[i]?).getD 0).toNat : Int) = some (isL (byt s i)) from rfl, Option.bind_some, chk_t (fun _ => by omega), show F_ref15_digit (((s[i]?).getD 0).toNat : Int) = some (isD (byt s i)) from rfl, wrap_succ (by omega)]
    have e0 : ((i : Int) == 0) = decide (i = 0) := by
      rw [Bool.eq_iff_iff, beq_iff_eq, decide_eq_true_iff]; omega
    rw [e0]
    cases isL (byt s i) <;> cases decide (i = 0) <;> cases isD (byt s i) <;> rfl
  · intro _
    unfold F_ref15_Word_L1
    rw [decide_eq_false (by omega)]; rfl

/-! ### Digits -/

def dval (acc : Nat) : List UInt8 → Nat
  | [] => acc
  | c :: r => dval (acc * 10 + (c.toNat - 48)) r
theorem dval_snoc (l : List UInt8) (c : UInt8) : ∀ acc, dval acc (l ++ [c]) = dval acc l * 10 + (c.toNat - 48) := by
  induction l with
  | nil => intro acc; rfl
  | cons a l ih => intro acc; exact ih _

def digs (l : List UInt8) : Bool := l.all fun c => decide (48 ≤ c.toNat) && decide (c.toNat ≤ 57)

theorem dval_lt : ∀ (l : List UInt8) (acc : Nat), digs l = true → dval acc l < (acc + 1) * 10 ^ l.length
  | [], acc, _ => show acc < (acc + 1) * 1 by omega
  | c :: r, acc, h => by
    unfold digs at h
    rw [List.all_cons, Bool.and_eq_true, Bool.and_eq_true, decide_eq_true_iff, decide_eq_true_iff] at h
    have ih := dval_lt r (acc * 10 + (c.toNat - 48)) h.2
    have h3 : acc * 10 + (c.toNat - 48) + 1 ≤ (acc + 1) * 10 := by omega
    have h4 := Nat.mul_le_mul_right (10 ^ r.length) h3
    show dval _ r < _
    rw [List.length_cons, Nat.pow_succ, Nat.mul_comm (10 ^ r.length) 10, ← Nat.mul_assoc]
    omega

theorem parse_digits : ∀ (l : List UInt8) (acc : Nat), digs l = true → (acc + 1) * 10 ^ l.length ≤ 10 ^ 19 → Lib.parseUintM (2 ^ 64 - 1) acc l = .ok (dval acc l)
  | [], acc, _, _ => rfl
  | c :: r, acc, h, hb => by
    unfold digs at h
    rw [List.all_cons, Bool.and_eq_true, Bool.and_eq_true, decide_eq_true_iff, decide_eq_true_iff] at h
    have hp : 0 < 10 ^ r.length := Nat.pow_pos (by decide)
    rw [List.length_cons, Nat.pow_succ, Nat.mul_comm (10 ^ r.length) 10, ← Nat.mul_assoc] at hb
    have hb1 : (acc + 1) * 10 ≤ 10 ^ 19 := Nat.le_trans (Nat.le_mul_of_pos_right _ hp) hb
    have h3 : acc * 10 + (c.toNat - 48) + 1 ≤ (acc + 1) * 10 := by omega
    have h4 := Nat.mul_le_mul_right (10 ^ r.length) h3
    unfold Lib.parseUintM
    rw [if_pos h.1, if_neg (by omega), if_neg (by omega), parse_digits r _ h.2 (by omega)]
    rfl

theorem pint_digits {s : ByteArray} (hd : digs s.data.toList = true) (h0 : s.size ≠ 0) (h19 : s.size ≤ 19) : (pint s).2 = decide (dval 0 s.data.toList < 9223372036854775808) := by
  rw [ba_size] at h0 h19
  unfold pint
  generalize s.data.toList = l at *
  have hp : (0 + 1) * 10 ^ l.length ≤ 10 ^ 19 := by rw [Nat.zero_add, Nat.one_mul]; exact Nat.pow_le_pow_right (by decide) h19
  have hu := parse_digits l 0 hd hp
  cases l with
  | nil => exact absurd rfl h0
  | cons c r =>
    have hc : 48 ≤ c.toNat := by
      unfold digs at hd
      rw [List.all_cons, Bool.and_eq_true, Bool.and_eq_true, decide_eq_true_iff] at hd
      exact hd.1.1
    generalize hv : dval 0 (c :: r) = v at *
    have e : Lib.parseIntB 64 (c :: r) = if 9223372036854775808 ≤ v then .range else .ok (v : Int) := by
      unfold Lib.parseIntB Lib.parseUintB
      dsimp only
      rw [if_neg (show ¬ (c.toNat = 43 ∨ c.toNat = 45) by omega), if_neg (List.cons_ne_nil c r), hu]
      have hn : ¬ c.toNat = 45 := by omega
      by_cases hlt : 9223372036854775808 ≤ v
      · simp [hn, hlt]
      · simp [hn, hlt]
    rw [e]
    by_cases hlt : 9223372036854775808 ≤ v
    · rw [if_pos hlt, decide_eq_false (by omega)]
    · rw [if_neg hlt, decide_eq_true (by omega)]

theorem all_digs (s : ByteArray) : ((List.range s.size).all fun i => isD (byt s i)) = digs s.data.toList := by
  unfold digs byt
  rw [Bool.eq_iff_iff, List.all_eq_true, List.all_eq_true, ba_size]
  constructor
  · intro h c hc
    obtain ⟨i, hi, rfl⟩ := List.getElem_of_mem hc
    have := isD_iff.1 (h i (List.mem_range.2 hi))
    rw [ba_get, List.getElem?_eq_getElem hi, Option.getD_some] at this
    rw [Bool.and_eq_true, decide_eq_true_iff, decide_eq_true_iff]
    omega
  · intro h i hi
    have hi' := List.mem_range.1 hi
    have := h _ (List.getElem_mem hi')
    rw [Bool.and_eq_true, decide_eq_true_iff, decide_eq_true_iff] at this
    rw [isD_iff, ba_get, List.getElem?_eq_getElem hi', Option.getD_some]
    omega

/-- Digits. -/
def dg (s : ByteArray) : Bool := ((decide (s.size ≤ 19) && decide (1 ≤ s.size)) && digs s.data.toList) && decide (dval 0 s.data.toList < 9223372036854775808)

theorem lex_digits {fu : Nat} {s : ByteArray} (hf : s.size < fu) (hs : s.size ≤ 100000) : F_lex_Digits fu s = some (dg s) := by
  unfold F_lex_Digits F_strconv_ParseInt dg
  rw [if_pos ⟨rfl, rfl, by omega⟩, Option.bind_some, lex_all_digit hf hs, all_digs, empty_eq]
  have e1 : (!decide (s.size = 0)) = decide (1 ≤ s.size) := by
    by_cases h : s.size = 0
    · rw [decide_eq_true h, decide_eq_false (by omega)]; rfl
    · rw [decide_eq_false h, decide_eq_true (by omega)]; rfl
  rw [e1, show decide ((s.size : Int) ≤ 19) = decide (s.size ≤ 19) from decide_eq_decide.2 (by omega)]
  by_cases h19 : s.size ≤ 19
  · by_cases h1 : 1 ≤ s.size
    · cases hd : digs s.data.toList with
      | false => simp [h19, h1, callIf]
      | true => rw [pint_digits hd (by omega) h19]; simp [h19, h1, callIf]
    · simp [h19, h1, callIf]
  · simp [h19, callIf]

theorem not_both (s : ByteArray) : (wd s && dg s) = false := by
  cases hw : wd s with
  | false => rfl
  | true =>
    cases hd : dg s with
    | false => rfl
    | true =>
      unfold wd at hw
      unfold dg at hd
      rw [← all_digs] at hd
      simp only [Bool.and_eq_true, decide_eq_true_iff] at hw hd
      obtain ⟨⟨h1, _⟩, h2, _⟩ := hw
      have h3 := List.all_eq_true.1 hd.1.2 0 (List.mem_range.2 h1)
      rw [isL_notD h2] at h3; cases h3

theorem lex_next1 (c : Int) : F_lex_next_1 c = some (isL c || isD c) := by
  unfold F_lex_next_1
  rw [lex_letter, Option.bind_some, lex_digit]
  cases isL c <;> cases isD c <;> rfl
end Go.Proofs.YteaghbcenjhjhaaDoor
