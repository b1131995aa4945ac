/- 'LexJoins': the plain law. -/
import Derived.Test.YtlgkjdjgockkfaaDoorLexG
namespace Go.Proofs.YtlgkjdjgockkfaaDoor
open Go Go.Pod Go.Proofs

theorem sc_err (s : ByteArray) : ∀ k p (m : M) q, sc s k p m = .inr q → q < s.size
  | 0, p, m, q, h => by cases h
  | k + 1, p, m, q, h => by
    rw [sc_succ] at h
    split at h
    · rename_i hlt
      split at h
      · exact sc_err s k _ _ _ h
      · split at h
        · exact sc_err s k _ _ _ h
        · split at h
          · cases h; exact hlt
          · exact sc_err s k _ _ _ h
    · cases h

theorem scan_small {s : ByteArray} (h : s.size ≤ 16384) : scan s = match sc s s.size 0 emp with
    | .inl m => (m, S_api_Fault.mk (0 : Int) (0 : Int))
    | .inr p => flt p := by
  unfold scan; rw [if_neg (by omega)]
  cases sc s s.size 0 emp <;> rfl

theorem joins_L1 {fu : Nat} (hf : 16400 < fu) {a A b : ByteArray} (hA : A.size = a.size + 1) (ha : a.size ≤ 2000) (hb : b.size ≤ 2000) {m1 m mb : M} (h : Rel A b m1 m mb) (hm : m.1 ≤ 16384) :
    iter (fun t => F_law15_LexJoins_L1 fu a m1 mb m t) fu (0 : Int) = some (.inl ()) := by
  rw [show (0 : Int) = ((0 : Nat) : Int) from rfl, iter_all (fun i => ((i : Nat) : Int)) (fun _ => true) false (e := ()) m.1 fu (by omega)]
  · rw [if_pos (List.all_eq_true.2 fun _ _ => rfl)]
  · intro i hi _
    have hl := h.len
    unfold F_law15_LexJoins_L1
    rw [decide_eq_true (show (i : Int) < ((m.1 : Nat) : Int) by omega), ifs, wrap_succ (by omega), Int.toNat_natCast, if_pos rfl]
    by_cases h1 : i < m1.1
    · have d1 : decide ((i : Int) < ((m1.1 : Nat) : Int)) = true := decide_eq_true (by omega)
      have d2 : decide ((i : Int) ≥ ((m1.1 : Nat) : Int)) = false := decide_eq_false (by omega)
      simp only [d1, d2, h.old i h1, beq_self_eq_true, Bool.true_and, Bool.not_true, cond_true, cond_false, Bool.not_false, Bool.and_false, Bool.false_and]
      rw [chk_t (fun _ => by omega), chk_t (fun _ => by omega), chk_t (fun h => by cases h), chk_t (fun h => by cases h), chk_t (fun h => by cases h), chk_t (fun h => by cases h)]
      rfl
    · obtain ⟨j, rfl⟩ : ∃ j, i = m1.1 + j := ⟨i - m1.1, by omega⟩
      have hj : j < mb.1 := by omega
      obtain ⟨e1, e2, e3⟩ := h.new j hj
      have d1 : decide (((m1.1 + j : Nat) : Int) < ((m1.1 : Nat) : Int)) = false := decide_eq_false (by omega)
      have d2 : decide (((m1.1 + j : Nat) : Int) ≥ ((m1.1 : Nat) : Int)) = true := decide_eq_true (by omega)
      have w1 : IntKind.wrap .i64 (((m1.1 + j : Nat) : Int) - ((m1.1 : Nat) : Int)) = (j : Int) := by rw [wrap_i64 (by omega) (by omega)]; omega
      have w2 : IntKind.wrap .i64 ((mb.2 j).f1 + (a.size : Int)) = (mb.2 j).f1 + (a.size : Int) := wrap_i64 (by omega) (by omega)
      have w3 : IntKind.wrap .i64 ((mb.2 j).f1 + (a.size : Int) + 1) = (mb.2 j).f1 + (A.size : Int) := by rw [wrap_i64 (by omega) (by omega)]; omega
      simp only [d1, d2, w1, Int.toNat_natCast, e1, w2, w3, beq_self_eq_true, bne_self_eq_false, Bool.not_true, cond_true, cond_false, Bool.not_false, Bool.and_true]
      rw [chk_t (fun h => by cases h), chk_t (fun h => by cases h), chk_t (fun _ => by omega), chk_t (fun _ => by omega), chk_t (fun _ => by omega), chk_t (fun _ => by omega)]
      rfl
  · intro _
    unfold F_law15_LexJoins_L1
    rw [decide_eq_false (by omega)]; rfl

theorem joins (a b : ByteArray) : F_law15_LexJoins 20000 a b = some true := by
  unfold F_law15_LexJoins
  by_cases h : a.size ≤ 2000 ∧ b.size ≤ 2000
  · obtain ⟨ha, hb⟩ := h
    rw [decide_eq_false (show ¬ (a.size : Int) > 2000 by omega), decide_eq_false (show ¬ (b.size : Int) > 2000 by omega)]
    have hA : (a ++ (⟨#[10]⟩ : ByteArray)).size = a.size + 1 := cat_size a ⟨#[10]⟩
    have hz : byt (a ++ (⟨#[10]⟩ : ByteArray)) ((a ++ (⟨#[10]⟩ : ByteArray)).size - 1) = 10 := by
      rw [hA, Nat.add_sub_cancel]
      exact cat_right a ⟨#[10]⟩ 0
    have hs1 : (⟨#[10]⟩ : ByteArray).size = 1 := rfl
    rw [hs1]
    generalize hAA : a ++ (⟨#[10]⟩ : ByteArray) = A at *
    have hS := cat_size A b
    rw [show (bif false then true else false) = false from rfl, ifs, chk_t (by omega), lex_scan (by omega), Option.bind_some, lex_scan (by omega), Option.bind_some, chk_t (by omega), chk_t (by omega), lex_scan (by omega), Option.bind_some, answers2, Option.bind_some]
    rw [scan_small (show A.size ≤ 16384 by omega), scan_small (show b.size ≤ 16384 by omega), scan_small (show (A ++ b).size ≤ 16384 by omega)]
    rw [sc_left (A := A) (b := b) (by omega) hz A.size (A ++ b).size 0 emp (by omega) (by omega) (Nat.zero_le _)]
    cases hsA : sc A A.size 0 emp with
    | inr p =>
      show some ((15 == 15) && (((p : Int) == (p : Int)) && true)) = some true
      simp
    | inl m1 =>
      have hlen1 := sc_len A A.size 0 emp m1 (Nat.zero_le _) (Nat.zero_le _) hsA
      have hR := sc_right (A := A) (b := b) m1 b.size (A ++ b).size 0 m1 emp (by omega) (by omega) (Nat.zero_le _) ⟨rfl, fun _ _ => rfl, fun i hi => absurd hi (Nat.not_lt_zero i)⟩
      rw [Nat.add_zero] at hR
      cases hsb : sc b b.size 0 emp with
      | inr q =>
        rw [hsb] at hR
        have hq := sc_err b b.size 0 emp q hsb
        dsimp only at hR ⊢
        rw [hR]
        show some ((15 == 15) && ((((A.size + q : Nat) : Int) == IntKind.wrap .i64 (IntKind.wrap .i64 ((q : Int) + (a.size : Int)) + 1)) && true)) = some true
        rw [wrap_i64 (n := (q : Int) + (a.size : Int)) (by omega) (by omega), wrap_i64 (by omega) (by omega), show ((A.size + q : Nat) : Int) = (q : Int) + (a.size : Int) + 1 by omega, beq_self_eq_true]
        simp
      | inl mb =>
        rw [hsb] at hR
        obtain ⟨m', e, hr⟩ := hR
        have hlenb := sc_len b b.size 0 emp mb (Nat.zero_le _) (Nat.zero_le _) hsb
        have hl := hr.len
        dsimp only
        rw [e]
        show ifs (bif false then true else (((m'.1 : Nat) : Int) != (IntKind.wrap .i64 (((m1.1 : Nat) : Int) + ((mb.1 : Nat) : Int))))) (some false) (after (iter (fun t => F_law15_LexJoins_L1 20000 a m1 mb m' t) 20000 (0 : Int)) fun _ => some true) = some true
        rw [wrap_i64 (by omega) (by omega), show ((m'.1 : Nat) : Int) = ((m1.1 : Nat) : Int) + ((mb.1 : Nat) : Int) by omega, bne_self_eq_false, joins_L1 (by omega) hA ha hb hr (by omega)]
        rfl
  · have : (bif (decide ((a.size : Int) > (2000 : Int))) then true else (decide ((b.size : Int) > (2000 : Int)))) = true := by
      by_cases h1 : a.size ≤ 2000
      · rw [decide_eq_false (show ¬ (a.size : Int) > 2000 by omega), decide_eq_true (show (b.size : Int) > 2000 by omega)]; rfl
      · rw [decide_eq_true (show (a.size : Int) > 2000 by omega)]; rfl
    rw [this, ifs, answers2]; rfl

theorem pl_LexJoins (a : ByteArray) (_ : a.size ≤ maxLen) (b : ByteArray) (_ : b.size ≤ maxLen) : ∃ fu, F_law15_LexJoins fu a b = some true := ⟨20000, joins a b⟩

end Go.Proofs.YtlgkjdjgockkfaaDoor
