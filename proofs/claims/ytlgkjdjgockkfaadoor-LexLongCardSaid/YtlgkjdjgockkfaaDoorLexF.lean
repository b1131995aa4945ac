/- Scanning as plain functions, last part: the reference's scanner; 'LexScans'. -/
import Derived.Test.YtlgkjdjgockkfaaDoorLexE
namespace Go.Proofs.YtlgkjdjgockkfaaDoor
open Go Go.Pod Go.Proofs

theorem ref_L2 {fu : Nat} {s : ByteArray} (hf : s.size < fu) (hs : s.size ≤ 100000) (m0 : S_api_Fault) (m1 : M) {p : Nat} (hp : p ≤ s.size) :
    iter (fun t => F_ref15_Scan_L2 fu s m0 m1 t) fu (p : Int) = some (.inl ((to (pC s) s p : Nat) : Int)) := by
  refine iter_fin (fun j : Nat => (j : Int)) (fun j : Nat => (j : Int)) (pC s) s.size s.size fu p hf (by omega) (fun j h1 h2 => ?_) hp
  unfold F_ref15_Scan_L2
  rw [chk_t (fun h => by have := of_decide_eq_true h; omega), Int.toNat_natCast, wrap_succ (by omega), show ((((s[j]?).getD 0).toNat : Int) != 10) = pC s j from rfl]
  by_cases hj : j < s.size
  · rw [decide_eq_true (show (j : Int) < (s.size : Int) by omega)]
    cases hq : pC s j with
    | true => rw [if_pos ⟨hj, rfl⟩]; rfl
    | false => rw [if_neg (fun h => by cases h.2)]; rfl
  · rw [decide_eq_false (show ¬ (j : Int) < (s.size : Int) by omega), if_neg (fun h => hj h.1)]; rfl

theorem ref_L3 {fu : Nat} {s : ByteArray} (hf : s.size < fu) (hs : s.size ≤ 100000) (m0 : S_api_Fault) (m1 : M) (c : Int) (q : Nat → Bool) (hq : ∀ j, q j = (isD (byt s j) || (isL c && isL (byt s j)))) {p : Nat} (hp : p ≤ s.size) :
    iter (fun t => F_ref15_Scan_L3 fu s m0 (p : Int) c m1 t) fu (0 : Int) = some (.inl ((to q s p - p : Nat) : Int)) := by
  rw [show (0 : Int) = (fun j : Nat => ((j - p : Nat) : Int)) p by simp]
  refine iter_fin (fun j : Nat => ((j - p : Nat) : Int)) (fun j : Nat => ((j - p : Nat) : Int)) q s.size s.size fu p hf (by omega) (fun j h1 h2 => ?_) hp
  unfold F_ref15_Scan_L3
  rw [show (p : Int) + ((j - p : Nat) : Int) = (j : Int) by omega, wrap_nat (by omega), chk_t (fun h => by have := of_decide_eq_true h; omega), Int.toNat_natCast, show F_ref15_digit (((s[j]?).getD 0).toNat : Int) = some (isD (byt s j)) from rfl, show F_ref15_letter c = some (isL c) from rfl, show F_ref15_letter (((s[j]?).getD 0).toNat : Int) = some (isL (byt s j)) from rfl, wrap_succ (by omega), show (j - p + 1 : Nat) = j + 1 - p by omega, hq]
  by_cases hj : j < s.size
  · rw [decide_eq_true (show (j : Int) < (s.size : Int) by omega)]
    simp only [hj, true_and]
    cases isD (byt s j) <;> cases isL c <;> cases isL (byt s j) <;> simp [callIf, ifs, chk, hj]
  · rw [decide_eq_false (show ¬ (j : Int) < (s.size : Int) by omega), if_neg (fun h => hj h.1)]
    simp [callIf, ifs, chk]

theorem ref_J1 {fu : Nat} {s : ByteArray} (hf : 30 ≤ fu) (hs : s.size ≤ 100000) (m0 : S_api_Fault) (m : M) {p e : Nat} (hp : p < s.size) (hm : m.1 ≤ p) (he : p + e ≤ s.size) :
    F_ref15_Scan_J1 fu s m0 (p : Int) (e : Int) m = if (if e = 0 then sgn s p else e) = 0 then some (.ret (flt p)) else some (.next (((p + (if e = 0 then sgn s p else e) : Nat) : Int), pshT m ⟨s.extract p (p + (if e = 0 then sgn s p else e)), (p : Int)⟩)) := by
  have key : ∀ n : Nat, p + n ≤ s.size → iter (fun t => F_ref15_Scan_L4 fu s m0 (p : Int) (23, fun i => sgl.getD i (⟨#[]⟩ : ByteArray)) m t.1 t.2) fu ((e : Int), (0 : Int)) = some (.inl (n : Int)) → F_ref15_Scan_J1 fu s m0 (p : Int) (e : Int) m = if n = 0 then some (.ret (flt p)) else some (.next (((p + n : Nat) : Int), pshT m ⟨s.extract p (p + n), (p : Int)⟩)) := by
    intro n hn hit
    unfold F_ref15_Scan_J1
    show after (iter (fun t => F_ref15_Scan_L4 fu s m0 (p : Int) (23, fun i => sgl.getD i (⟨#[]⟩ : ByteArray)) m t.1 t.2) fu ((e : Int), (0 : Int))) _ = _
    rw [hit]
    show ifs ((n : Int) == 0) _ _ = _
    by_cases h0 : n = 0
    · rw [if_pos h0, h0]; rfl
    · rw [if_neg h0, beq_eq_false_iff_ne.2 (show (n : Int) ≠ 0 by omega), ifs, show (p : Int) + (n : Int) = ((p + n : Nat) : Int) by simp, wrap_nat (by omega), chk_t (by omega), chk_t (show RoomOk (m.1 + 1) 24 from ⟨by omega, by omega⟩), Int.toNat_natCast, Int.toNat_natCast]
      rfl
  by_cases h0 : e = 0
  · subst h0
    rw [if_pos rfl]
    have hz : p + sgn s p ≤ s.size := by
      rcases sgf_le s p 23 0 rfl with h | h
      · unfold sgn; omega
      · unfold sgn; omega
    exact key (sgn s p) hz (ref_L4 hs (Nat.le_of_lt hp) m0 m 23 0 fu rfl (by omega))
  · rw [if_neg h0]
    refine key e he ?_
    obtain ⟨K, rfl⟩ : ∃ K', fu = K' + 1 := ⟨fu - 1, by omega⟩
    refine iter_exit ?_
    unfold F_ref15_Scan_L4
    dsimp only
    rw [beq_eq_false_iff_ne.2 (show (e : Int) ≠ 0 by omega)]; rfl

theorem dg_first {w : ByteArray} (h : dg w = true) : isD (byt w 0) = true := by
  unfold dg at h
  rw [← all_digs] at h
  simp only [Bool.and_eq_true, decide_eq_true_iff] at h
  exact List.all_eq_true.1 h.1.2 0 (List.mem_range.2 h.1.1.2)
theorem wd_first {w : ByteArray} (h : wd w = true) : isL (byt w 0) = true := by
  unfold wd at h
  simp only [Bool.and_eq_true] at h
  exact h.2.1

theorem ref_step {fu : Nat} {s : ByteArray} (hf : s.size < fu) (hf2 : 30 ≤ fu) (hs : s.size ≤ 100000) (m0 : S_api_Fault) (m : M) {p : Nat} (hp : p < s.size) (hm : m.1 ≤ p) :
    F_ref15_Scan_L1 fu s m0 (p : Int) m = if isB (byt s p) = true then some (.next (((p + 1 : Nat) : Int), m)) else if byt s p = 35 then some (.next (((to (pC s) s p : Nat) : Int), m)) else if tk s p = 0 then some (.ret (flt p)) else some (.next (((p + tk s p : Nat) : Int), pshT m ⟨s.extract p (p + tk s p), (p : Int)⟩)) := by
  unfold F_ref15_Scan_L1
  rw [decide_eq_true (show (p : Int) < (s.size : Int) by omega), ifs, chk_t (by omega), Int.toNat_natCast]
  show ifs (isB (byt s p)) _ (ifs (byt s p == 35) _ _) = _
  rw [wrap_succ (by omega)]
  cases hb : isB (byt s p) with
  | true => rw [if_pos rfl]; rfl
  | false =>
    rw [if_neg (by decide), ifs, ref_L2 hf hs m0 m (Nat.le_of_lt hp)]
    by_cases hc : byt s p = 35
    · rw [if_pos hc, hc]; rfl
    · rw [if_neg hc, beq_eq_false_iff_ne.2 hc, ifs]
      rw [show F_ref15_letter (((s[p]?).getD 0).toNat : Int) = some (isL (byt s p)) from rfl, Option.bind_some, show F_ref15_digit (((s[p]?).getD 0).toNat : Int) = some (isD (byt s p)) from rfl]
      have main : ∀ (q : Nat → Bool), (∀ j, q j = (isD (byt s j) || (isL (byt s p) && isL (byt s j)))) → q p = true → ∀ ok : Bool, ((wd (s.extract p (to q s p)) || dg (s.extract p (to q s p))) = ok) → tk s p = (if ok = true then to q s p - p else 0) →
          after (iter (fun t => F_ref15_Scan_L3 fu s m0 (p : Int) (((s[p]?).getD 0).toNat : Int) m t) fu (0 : Int)) (fun e6 =>
            chk (0 ≤ (p : Int) ∧ (p : Int) ≤ (IntKind.wrap .i64 ((p : Int) + e6)) ∧ (IntKind.wrap .i64 ((p : Int) + e6)) ≤ (s.size : Int)) <|
            (F_ref15_Word fu (s.extract p ((IntKind.wrap .i64 ((p : Int) + e6))).toNat)).bind fun r5 =>
            (callIf (!r5) (F_ref15_Digits fu (s.extract p ((IntKind.wrap .i64 ((p : Int) + e6))).toNat)) false).bind fun r6 =>
            ifs (bif (!r5) then (!r6) else false) (
              some (.ret ((0, (fun _ => (S_api_Token.mk (⟨#[]⟩ : ByteArray) (0 : Int)))), (S_api_Fault.mk (15 : Int) (p : Int))))) (
              F_ref15_Scan_J1 fu s m0 (p : Int) e6 m)) = if tk s p = 0 then some (.ret (flt p)) else some (.next (((p + tk s p : Nat) : Int), pshT m ⟨s.extract p (p + tk s p), (p : Int)⟩)) := by
        intro q hq hqp ok hok htk
        have h1 := to_le (q := q) (Nat.le_of_lt hp)
        have h2 := to_gt hp hqp
        show after (iter (fun t => F_ref15_Scan_L3 fu s m0 (p : Int) (byt s p) m t) fu (0 : Int)) _ = _
        rw [ref_L3 hf hs m0 m _ q hq (Nat.le_of_lt hp)]
        show chk _ _ = _
        rw [show (p : Int) + ((to q s p - p : Nat) : Int) = ((to q s p : Nat) : Int) by omega, wrap_nat (by omega), chk_t (by omega), Int.toNat_natCast, ref_word (by rw [ext_size h1.2]; omega) (by rw [ext_size h1.2]; omega), Option.bind_some, ref_digits (by rw [ext_size h1.2]; omega) (by rw [ext_size h1.2]; omega), ref_J1 hf2 hs m0 m hp hm (by omega), htk]
        have hne : to q s p - p ≠ 0 := by omega
        rw [if_neg hne]
        subst hok
        cases wd (s.extract p (to q s p)) with
        | true => rfl
        | false =>
          cases dg (s.extract p (to q s p)) with
          | true => rfl
          | false => rfl
      cases hl : isL (byt s p) with
      | true =>
        have h1 := to_le (q := pW s) (Nat.le_of_lt hp)
        have h2 := to_gt (q := pW s) hp (by unfold pW; rw [hl]; rfl)
        have hd : dg (s.extract p (to (pW s) s p)) = false := by
          cases h : dg (s.extract p (to (pW s) s p)) with
          | false => rfl
          | true =>
            have := dg_first h
            rw [ext_byt (by omega), Nat.add_zero, isL_notD hl] at this; cases this
        refine main (pW s) (fun j => by unfold pW; rw [hl, Bool.true_and, Bool.or_comm]) (by unfold pW; rw [hl]; rfl) (wd (s.extract p (to (pW s) s p))) (by rw [hd, Bool.or_false]) ?_
        unfold tk
        rw [if_pos hl]
      | false =>
        cases hd : isD (byt s p) with
        | true =>
          have h1 := to_le (q := pD s) (Nat.le_of_lt hp)
          have h2 := to_gt (q := pD s) hp hd
          have hw : wd (s.extract p (to (pD s) s p)) = false := by
            cases h : wd (s.extract p (to (pD s) s p)) with
            | false => rfl
            | true =>
              have := wd_first h
              rw [ext_byt (by omega), Nat.add_zero, hl] at this; cases this
          refine main (pD s) (fun j => by unfold pD; rw [hl, Bool.false_and, Bool.or_false]) hd (dg (s.extract p (to (pD s) s p))) (by rw [hw, Bool.false_or]) ?_
          unfold tk
          rw [if_neg (by rw [hl]; decide), if_pos hd]
        | false =>
          have htk : tk s p = sgn s p := by
            unfold tk
            rw [if_neg (by rw [hl]; decide), if_neg (by rw [hd]; decide)]
          have := ref_J1 (fu := fu) hf2 hs m0 m (e := 0) hp hm (by omega)
          rw [if_pos rfl] at this
          rw [htk]
          exact this

theorem ref_iter {fu : Nat} {s : ByteArray} (hf : s.size < fu) (hf2 : 30 ≤ fu) (hs : s.size ≤ 100000) (m0 : S_api_Fault) : ∀ k K p (m : M), k < K → s.size ≤ p + k → p ≤ s.size → m.1 ≤ p →
    iter (fun t => F_ref15_Scan_L1 fu s m0 t.1 t.2) K ((p : Int), m) = some (res (sc s k p m))
  | 0, K, p, m, hk, hn, hp, hm => by
    obtain ⟨K, rfl⟩ : ∃ K', K = K' + 1 := ⟨K - 1, by omega⟩
    refine iter_exit ?_
    unfold F_ref15_Scan_L1
    dsimp only
    rw [decide_eq_false (by omega)]; rfl
  | k + 1, K, p, m, hk, hn, hp, hm => by
    obtain ⟨K, rfl⟩ : ∃ K', K = K' + 1 := ⟨K - 1, by omega⟩
    by_cases hlt : p < s.size
    · have step := ref_step hf hf2 hs m0 m hlt hm
      have hle := tk_le hlt
      unfold sc
      rw [if_pos hlt]
      by_cases hb : isB (byt s p) = true
      · rw [if_pos hb] at step ⊢
        rw [iter_next step]
        exact ref_iter hf hf2 hs m0 k K _ _ (by omega) (by omega) (by omega) (by omega)
      · rw [if_neg hb] at step ⊢
        by_cases hc : byt s p = 35
        · rw [if_pos hc] at step ⊢
          have h1 := to_hash hlt hc
          have h2 := (to_le (q := pC s) (Nat.le_of_lt hlt)).2
          rw [iter_next step]
          exact ref_iter hf hf2 hs m0 k K _ _ (by omega) (by omega) h2 (by omega)
        · rw [if_neg hc] at step ⊢
          by_cases h0 : tk s p = 0
          · rw [if_pos h0] at step ⊢
            rw [iter_ret step]; rfl
          · rw [if_neg h0] at step ⊢
            rw [iter_next step]
            exact ref_iter hf hf2 hs m0 k K _ _ (by omega) (by omega) hle (show m.1 + 1 ≤ _ by omega)
    · have step : F_ref15_Scan_L1 fu s m0 (p : Int) m = some (.exit m) := by
        unfold F_ref15_Scan_L1
        rw [decide_eq_false (by omega)]; rfl
      unfold sc
      rw [if_neg hlt, iter_exit step]; rfl

theorem ref_scan {fu : Nat} {s : ByteArray} (hf : 16400 < fu) : F_ref15_Scan fu s = some (scan s) := by
  unfold F_ref15_Scan scan
  by_cases h : s.size > 16384
  · rw [decide_eq_true (show (s.size : Int) > 16384 by omega), if_pos h]; rfl
  · rw [decide_eq_false (show ¬ (s.size : Int) > 16384 by omega), if_neg h, ifs]
    have := ref_iter (fu := fu) (s := s) (by omega) (by omega) (by omega) (S_api_Fault.mk (0 : Int) (0 : Int)) s.size fu 0 emp (by omega) (by omega) (Nat.zero_le _) (Nat.zero_le _)
    show after (iter (fun t => F_ref15_Scan_L1 fu s (S_api_Fault.mk (0 : Int) (0 : Int)) t.1 t.2) fu (((0 : Nat) : Int), emp)) _ = _
    rw [this]
    cases sc s s.size 0 emp <;> rfl

/-! ### The law -/

theorem sc_len (s : ByteArray) : ∀ k p (m m' : M), p ≤ s.size → m.1 ≤ p → sc s k p m = .inl m' → m'.1 ≤ s.size
  | 0, p, m, m', hp, hm, h => by cases h; omega
  | k + 1, p, m, m', hp, hm, h => by
    unfold sc at h
    split at h
    · rename_i hlt
      have hle := tk_le hlt
      split at h
      · exact sc_len s k _ _ _ hlt (by omega) h
      · split at h
        · rename_i hc
          have := to_hash hlt hc
          exact sc_len s k _ _ _ (to_le (q := pC s) (Nat.le_of_lt hlt)).2 (by omega) h
        · split at h
          · cases h
          · exact sc_len s k _ _ _ hle (show m.1 + 1 ≤ _ by omega) h
    · cases h; omega

theorem scan_len (s : ByteArray) : (scan s).1.1 ≤ 16384 := by
  unfold scan
  split
  · exact show 0 ≤ 16384 by decide
  · cases h : sc s s.size 0 emp with
    | inl m => have := sc_len s s.size 0 emp m (Nat.zero_le _) (Nat.zero_le _) h; show m.1 ≤ 16384; omega
    | inr p => exact show 0 ≤ 16384 by decide

theorem answers2 : F_law15_answers 20000 = some true := by kernel_rfl

theorem scans_L1 {fu : Nat} (hf : 16400 < fu) (m : M) (hm : m.1 ≤ 16384) : iter (fun t => F_law15_LexScans_L1 fu m m t) fu (0 : Int) = some (.inl ()) := by
  rw [show (0 : Int) = ((0 : Nat) : Int) from rfl, iter_all (fun i => ((i : Nat) : Int)) (fun _ => true) false (e := ()) m.1 fu (by omega)]
  · rw [if_pos (List.all_eq_true.2 fun _ _ => rfl)]
  · intro i hi _
    unfold F_law15_LexScans_L1
    rw [decide_eq_true (show (i : Int) < ((m.1 : Nat) : Int) by omega), ifs, chk_t (by omega), chk_t (by omega), wrap_succ (by omega), beq_self_eq_true, beq_self_eq_true]
    rfl
  · intro _
    unfold F_law15_LexScans_L1
    rw [decide_eq_false (by omega)]; rfl

theorem scans (s : ByteArray) : F_law15_LexScans 20000 s = some true := by
  unfold F_law15_LexScans
  rw [lex_scan (by omega), ref_scan (by omega), answers2]
  cases decide ((s.size : Int) > 17000) with
  | true => rfl
  | false =>
    rw [ifs, Option.bind_some, Option.bind_some, Option.bind_some, beq_self_eq_true, beq_self_eq_true, show (((((scan s).1.1 : Nat) : Int)) != (((scan s).1.1 : Nat) : Int)) = false by simp]
    show after (iter (fun t => F_law15_LexScans_L1 20000 (scan s).1 (scan s).1 t) 20000 (0 : Int)) _ = _
    rw [scans_L1 (by omega) _ (scan_len s)]; rfl

theorem pl_LexScans (s : ByteArray) (_ : s.size ≤ maxLen) : ∃ fu, F_law15_LexScans fu s = some true := ⟨20000, scans s⟩

end Go.Proofs.YtlgkjdjgockkfaaDoor
