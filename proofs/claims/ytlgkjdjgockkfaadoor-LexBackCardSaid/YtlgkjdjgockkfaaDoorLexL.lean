/- The reference's tests of a word and of digits, at any length. -/
import Derived.Test.YtlgkjdjgockkfaaDoorLexA
namespace Go.Proofs.YtlgkjdjgockkfaaDoor
open Go Go.Pod Go.Proofs

theorem wrap_succ' {i : Nat} (h : i < 9223372036854775807) : IntKind.wrap .i64 ((i : Int) + 1) = ((i + 1 : Nat) : Int) := by
  rw [wrap_i64 (by omega) (by omega)]; simp

theorem ref_word' {fu : Nat} {s : ByteArray} (hf : s.size < fu) (hs : s.size ≤ 9223372036854775807) : F_ref15_Word fu s = some (wd s) := by
  unfold F_ref15_Word
  rw [show (0 : Int) = ((0 : Nat) : Int) from rfl, iter_all (fun i => ((i : Nat) : Int)) (fun i => isL (byt s i) || (!decide (i = 0) && isD (byt s i))) false (e := ()) s.size fu hf]
  · have e : ((List.range s.size).all fun i => isL (byt s i) || (!decide (i = 0) && isD (byt s i))) = ((!decide (1 ≤ s.size) || isL (byt s 0)) && (List.range s.size).all fun i => isL (byt s i) || isD (byt s i)) := by
      rw [Bool.eq_iff_iff, Bool.and_eq_true, List.all_eq_true, List.all_eq_true]
      constructor
      · intro h
        refine ⟨?_, fun i hi => ?_⟩
        · by_cases h1 : 1 ≤ s.size
          · have := h 0 (List.mem_range.2 h1)
            simpa using Or.inr this
          · simp [h1]
        · have := h i hi
          revert this
          cases isL (byt s i) <;> cases isD (byt s i) <;> simp
      · rintro ⟨h0, h⟩ i hi
        have hi' := List.mem_range.1 hi
        by_cases e : i = 0
        · subst e
          rw [decide_eq_true (show 1 ≤ s.size by omega)] at h0
          have h0' : isL (byt s 0) = true := by simpa using h0
          rw [h0']; rfl
        · rw [decide_eq_false e]; exact h i hi
    rw [e]
    unfold wd
    rw [show decide ((s.size : Int) ≥ 1) = decide (1 ≤ s.size) from decide_eq_decide.2 (by omega), show decide ((s.size : Int) ≤ 32) = decide (s.size ≤ 32) from decide_eq_decide.2 (by omega)]
    cases decide (1 ≤ s.size) <;> cases decide (s.size ≤ 32) <;> cases isL (byt s 0) <;> cases (List.range s.size).all (fun i => isL (byt s i) || isD (byt s i)) <;> rfl
  · intro i hi _
    unfold F_ref15_Word_L1
    rw [decide_eq_true (show (i : Int) < (s.size : Int) by omega), ifs, chk_t (by omega), Int.toNat_natCast, show F_ref15_letter (((s[i]?).getD 0).toNat : Int) = some (isL (byt s i)) from rfl, Option.bind_some, chk_t (fun _ => by omega), show F_ref15_digit (((s[i]?).getD 0).toNat : Int) = some (isD (byt s i)) from rfl, wrap_succ' (by omega)]
    have e0 : ((i : Int) == 0) = decide (i = 0) := by
      rw [Bool.eq_iff_iff, beq_iff_eq, decide_eq_true_iff]; omega
    rw [e0]
    cases isL (byt s i) <;> cases decide (i = 0) <;> cases isD (byt s i) <;> rfl
  · intro _
    unfold F_ref15_Word_L1
    rw [decide_eq_false (by omega)]; rfl

theorem ref_digits' {fu : Nat} {s : ByteArray} (hf : s.size < fu) (hs : s.size ≤ 9223372036854775807) : F_ref15_Digits fu s = some (dg s) := by
  unfold F_ref15_Digits
  rw [show ((0 : Int), (0 : Int)) = (fun i : Nat => (((dval 0 (s.data.toList.take i) : Nat) : Int), (i : Int))) 0 from rfl]
  rw [iter_all (fun i : Nat => (((dval 0 (s.data.toList.take i) : Nat) : Int), (i : Int))) (fun i => isD (byt s i) && decide (i < 19)) false (e := ((dval 0 s.data.toList : Nat) : Int)) s.size fu hf]
  · have e : ((List.range s.size).all fun i => isD (byt s i) && decide (i < 19)) = (digs s.data.toList && decide (s.size ≤ 19)) := by
      rw [← all_digs, Bool.eq_iff_iff, Bool.and_eq_true, List.all_eq_true, List.all_eq_true, decide_eq_true_iff]
      constructor
      · intro h
        refine ⟨fun i hi => (Bool.and_eq_true _ _ ▸ h i hi).1, ?_⟩
        rcases Nat.lt_or_ge 19 s.size with h2 | h2
        · have := (Bool.and_eq_true _ _ ▸ h 19 (List.mem_range.2 h2)).2
          simp at this
        · exact h2
      · rintro ⟨h1, h2⟩ i hi
        rw [h1 i hi, Bool.true_and, decide_eq_true_iff]
        have := List.mem_range.1 hi
        omega
    rw [e]
    unfold dg
    rw [show decide ((s.size : Int) ≥ 1) = decide (1 ≤ s.size) from decide_eq_decide.2 (by omega)]
    cases hd : digs s.data.toList with
    | false => simp [after]
    | true =>
      by_cases h19 : s.size ≤ 19
      · rw [decide_eq_true h19]
        show some (bif decide (1 ≤ s.size) then (decide (((dval 0 s.data.toList : Nat) : Int) < 9223372036854775808)) else false) = _
        rw [show decide (((dval 0 s.data.toList : Nat) : Int) < 9223372036854775808) = decide (dval 0 s.data.toList < 9223372036854775808) from decide_eq_decide.2 (by omega)]
        cases decide (1 ≤ s.size) <;> rfl
      · rw [decide_eq_false h19]; rfl
  · intro i hi hp
    unfold F_ref15_Digits_L1
    dsimp only
    rw [decide_eq_true (show (i : Int) < (s.size : Int) by omega), ifs, chk_t (by omega), Int.toNat_natCast, show F_ref15_digit (((s[i]?).getD 0).toNat : Int) = some (isD (byt s i)) from rfl, Option.bind_some, chk_t (by omega), wrap_succ' (by omega)]
    rw [show decide ((i : Int) ≥ 19) = !decide (i < 19) by by_cases h : i < 19 <;> simp [h] <;> omega]
    cases hd : isD (byt s i) with
    | false => rfl
    | true =>
      by_cases h19 : i < 19
      · rw [decide_eq_true h19]
        have hb := isD_iff.1 hd
        have hl : i < s.data.toList.length := by rw [← ba_size]; exact hi
        have hdig : digs (s.data.toList.take i) = true := by
          unfold digs
          rw [List.all_eq_true]
          intro c hc
          obtain ⟨j, hj, rfl⟩ := List.getElem_of_mem hc
          have hj' : j < i := by rw [List.length_take] at hj; omega
          have := (Bool.and_eq_true _ _ ▸ hp j hj').1
          have := isD_iff.1 this
          unfold byt at this
          rw [ba_get, List.getElem?_eq_getElem (by omega), Option.getD_some] at this
          rw [List.getElem_take, Bool.and_eq_true, decide_eq_true_iff, decide_eq_true_iff]
          omega
        have hlt := dval_lt (s.data.toList.take i) 0 hdig
        have hlen : (s.data.toList.take i).length = i := by rw [List.length_take]; omega
        rw [hlen, Nat.zero_add, Nat.one_mul] at hlt
        have hpow : 10 ^ i ≤ 10 ^ 18 := Nat.pow_le_pow_right (by decide) (by omega)
        rw [take_snoc hl, dval_snoc]
        have hby : byt s i = (((s.data.toList[i]?).getD 0).toNat : Int) := by unfold byt; rw [ba_get]
        rw [show (((s[i]?).getD 0).toNat : Int) = byt s i from rfl, hby]
        rw [hby] at hb
        generalize ((s.data.toList[i]?).getD 0).toNat = c at *
        generalize dval 0 (s.data.toList.take i) = v at *
        have e1 : IntKind.wrap .u8 ((c : Int) - 48) = ((c - 48 : Nat) : Int) := by
          rw [show (c : Int) - 48 = ((c - 48 : Nat) : Int) by omega, IntKind.wrap_u8]; omega
        have e2 : IntKind.wrap .u64 ((v : Int) * 10) = ((v * 10 : Nat) : Int) := by rw [wrap_u64 (by omega) (by omega)]; simp
        have e3 : IntKind.wrap .u64 (((v * 10 : Nat) : Int) + ((c - 48 : Nat) : Int)) = ((v * 10 + (c - 48) : Nat) : Int) := by rw [wrap_u64 (by omega) (by omega)]; simp
        rw [e1, e2, wrap_u64' (show c - 48 < 18446744073709551616 by omega), e3]
        rfl
      · rw [decide_eq_false h19]; rfl
  · intro _
    unfold F_ref15_Digits_L1
    dsimp only
    rw [decide_eq_false (by omega), ba_size, List.take_length]; rfl

end Go.Proofs.YtlgkjdjgockkfaaDoor
