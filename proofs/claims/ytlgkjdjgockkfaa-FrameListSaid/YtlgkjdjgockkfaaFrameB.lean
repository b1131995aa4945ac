/- 'FrameWraps' and 'FrameList' as plain functions. -/
import Derived.Test.YtlgkjdjgockkfaaFrameA
namespace Go.Proofs.Ytlgkjdjgockkfaa
open Go Go.Pod Go.Proofs

theorem fr_congr {x y : Bs} (h : Eqv x y) : Eqv (fr x) (fr y) := by
  refine ⟨by show 4 + x.1 = 4 + y.1; rw [h.1], fun i hi => ?_⟩
  have hi' : i < 4 + x.1 := hi
  by_cases hc : i < 4
  · show (if i < 4 then _ else x.2 (i - 4)) = (if i < 4 then _ else y.2 (i - 4))
    rw [if_pos hc, if_pos hc, h.1]
  · have e : i = 4 + (i - 4) := by omega
    rw [e, fr_in, fr_in]
    exact h.2 _ (by omega)

/-- The empty slice with 'x' behind it. -/
theorem pre_eqv (x : Bs) : Eqv ((0 + x.1), (fun i => if i < 0 then (fun i => ([] : List Int).getD i (0 : Int)) i else x.2 (i - 0))) x := by
  refine ⟨Nat.zero_add _, fun i _ => ?_⟩
  show (if i < 0 then ([] : List Int).getD i (0 : Int) else x.2 (i - 0)) = _
  rw [if_neg (by omega), Nat.sub_zero]

theorem wraps (x : Bs) (hz : x.1 ≤ 140737488351232) : F_law10_FrameWraps 100000 x = some true := by
  have hp := pre_eqv x
  generalize hy : (((0 + x.1), (fun i => if i < 0 then (fun i => ([] : List Int).getD i (0 : Int)) i else x.2 (i - 0))) : Bs) = y at hp
  have ans : F_law10_answers 100000 = some true := answers_ok (by decide)
  have unf : F_law10_FrameWraps 100000 x = (F_frame_Wrap y).bind fun r0 => ifs (decide (((x.1 : Nat) : Int) > (65536 : Int))) (
    (F_law10_answers 100000).bind fun r1 =>
    some (bif (bif r1 then (r0.2 == (13 : Int)) else false) then (((r0.1.1 : Nat) : Int) == (0 : Int)) else false)) (
    chk (0 ≤ (16 : Int)) <|
    chk (0 ≤ (8 : Int)) <|
    chk (RoomOk (4 + x.1) 1) <|
    (F_frame_New).bind fun r2 =>
    (F_frame_Reader_Feed r2 r0.1).bind fun r3 =>
    (F_frame_Reader_Next 100000 r3).bind fun r4 =>
    (F_frame_Reader_Next 100000 r4.2.2).bind fun r5 =>
    (F_law10_answers 100000).bind fun r6 =>
    (callIf (bif r6 then (r0.2 == (0 : Int)) else false) (F_ref01_Same 100000 r0.1 ((4 + x.1), (fun i => if i < 4 then (fun i => ([(0 : Int), (IntKind.wrap .u8 (ishr .i64 ((x.1 : Nat) : Int) (16 : Int))), (IntKind.wrap .u8 (ishr .i64 ((x.1 : Nat) : Int) (8 : Int))), (IntKind.wrap .u8 ((x.1 : Nat) : Int))] : List Int).getD i (0 : Int)) i else x.2 (i - 4)))) false).bind fun r7 =>
    (callIf (bif (bif (bif r6 then (r0.2 == (0 : Int)) else false) then r7 else false) then (r4.2.1 == (0 : Int)) else false) (F_ref01_Same 100000 r4.1 x) false).bind fun r8 =>
    (callIf (bif (bif (bif (bif (bif r6 then (r0.2 == (0 : Int)) else false) then r7 else false) then (r4.2.1 == (0 : Int)) else false) then r8 else false) then (r5.2.1 == (8 : Int)) else false) (F_frame_Reader_Left r5.2.2) (0 : Int)).bind fun r9 =>
    some (bif (bif (bif (bif (bif (bif r6 then (r0.2 == (0 : Int)) else false) then r7 else false) then (r4.2.1 == (0 : Int)) else false) then r8 else false) then (r5.2.1 == (8 : Int)) else false) then (r9 == (0 : Int)) else false)) := by
    unfold F_law10_FrameWraps
    rw [chk_t (show RoomOk (0 + x.1) 1 from ⟨by omega, by omega⟩), hy]
  rw [unf]
  have hl : y.1 = x.1 := hp.1
  by_cases hb : x.1 > 65536
  · have hw : F_frame_Wrap y = some ((0, (fun _ => (0 : Int))), (13 : Int)) := by
      unfold F_frame_Wrap
      rw [decide_eq_true (show ((y.1 : Nat) : Int) > 65536 by omega)]; rfl
    rw [hw, Option.bind_some, decide_eq_true (show ((x.1 : Nat) : Int) > 65536 by omega), ifs, ans]
    rfl
  · rw [wrap_ok (x := y) (by omega), Option.bind_some, decide_eq_false (show ¬ ((x.1 : Nat) : Int) > 65536 by omega), ifs, chk_t (by decide), chk_t (by decide), chk_t (show RoomOk (4 + x.1) 1 from ⟨by omega, by omega⟩)]
    have hf : F_frame_New = some (S_frame_Reader.mk nob false) := rfl
    have hlen : (fr y).1 = 4 + x.1 := by show 4 + y.1 = _; rw [hl]
    rw [hf, Option.bind_some, feed_ok (r := S_frame_Reader.mk nob false) (w := fr y) (by show 0 + (fr y).1 ≤ _; omega), Option.bind_some]
    have h0 : Eqv (cat nob (fr y)) (cat (fr y) nob) := (nob_cat _).trans (cat_nob _).symm
    obtain ⟨o, r, n1, n2, n3⟩ := next_ok (fu := 100000) (by decide) (w := cat nob (fr y)) (x := y) (rest := nob) (by omega) (by decide) h0
    rw [n1, Option.bind_some]
    dsimp only
    rw [next_none (fu := 100000) (w := r) n3.1, Option.bind_some, ans, Option.bind_some]
    dsimp only
    have s1 : F_ref01_Same 100000 (fr y) ((4 + x.1), (fun i => if i < 4 then (fun i => ([(0 : Int), (IntKind.wrap .u8 (ishr .i64 ((x.1 : Nat) : Int) (16 : Int))), (IntKind.wrap .u8 (ishr .i64 ((x.1 : Nat) : Int) (8 : Int))), (IntKind.wrap .u8 ((x.1 : Nat) : Int))] : List Int).getD i (0 : Int)) i else x.2 (i - 4))) = some true := by
      refine same_ok ?_ (by omega) (by omega)
      refine (fr_congr hp).trans ⟨rfl, fun i hi => ?_⟩
      show (if i < 4 then _ else x.2 (i - 4)) = (if i < 4 then _ else x.2 (i - 4))
      by_cases hc : i < 4
      · rw [if_pos hc, if_pos hc]
        rcases (by omega : i = 0 ∨ i = 1 ∨ i = 2 ∨ i = 3) with rfl | rfl | rfl | rfl
        · have := fr_0 x
          have e : (fr x).2 0 = IntKind.wrap .u8 (ishr .i64 ((x.1 : Nat) : Int) (24 : Int)) := rfl
          show IntKind.wrap .u8 (ishr .i64 ((x.1 : Nat) : Int) (24 : Int)) = 0
          rw [← e, this]; omega
        · rfl
        · rfl
        · rfl
      · rw [if_neg hc, if_neg hc]
    have s2 : F_ref01_Same 100000 o x = some true := same_ok (n2.trans hp) (by have := n2.1; omega) (by have := n2.1; omega)
    rw [s1]
    simp only [cond_true, beq_self_eq_true, callIf, Option.bind_some]
    rw [s2]
    simp only [cond_true, Option.bind_some]
    show some (((r.1 : Nat) : Int) == 0) = some true
    rw [show r.1 = 0 from n3.1]; rfl

theorem pl_FrameWraps (x0 : Bs) (_ : x0.1 ≤ maxLen ∧ ∀ i, i < x0.1 → (Lit.int .u8 (x0.2 i)).wf = true) (z0 : x0.1 * 1 ≤ reachBytes) : ∃ fu, F_law10_FrameWraps fu x0 = some true :=
  ⟨100000, wraps x0 (by unfold reachBytes at z0; omega)⟩

/-! ### A list of them -/

/-- The frames of the first k. -/
def fed (x : Nat → Bs) : Nat → Bs
  | 0 => nob
  | k + 1 => cat (fed x k) (fr (x k))

/-- The frames of k from i on. -/
def tl (x : Nat → Bs) : Nat → Nat → Bs
  | 0, _ => nob
  | k + 1, i => cat (fr (x i)) (tl x k (i + 1))

theorem fed_len {x : Nat → Bs} {n : Nat} (hx : ∀ i, i < n → (x i).1 ≤ 1000) : ∀ k, k ≤ n → (fed x k).1 ≤ 1004 * k
  | 0, _ => Nat.le_refl _
  | k + 1, h => by
    have := fed_len hx k (by omega)
    have h2 := hx k (by omega)
    show (fed x k).1 + (4 + (x k).1) ≤ _
    omega
theorem tl_len {x : Nat → Bs} {n : Nat} (hx : ∀ i, i < n → (x i).1 ≤ 1000) : ∀ k i, i + k ≤ n → (tl x k i).1 ≤ 1004 * k
  | 0, _, _ => Nat.le_refl _
  | k + 1, i, h => by
    have := tl_len hx k (i + 1) (by omega)
    have h2 := hx i (by omega)
    show (4 + (x i).1) + (tl x k (i + 1)).1 ≤ _
    omega

theorem fed_tl (x : Nat → Bs) : ∀ k i, Eqv (cat (fed x i) (tl x k i)) (fed x (i + k))
  | 0, i => cat_nob _
  | k + 1, i => by
    have h1 := fed_tl x k (i + 1)
    have h2 : Eqv (cat (fed x (i + 1)) (tl x k (i + 1))) (cat (fed x i) (tl x (k + 1) i)) := cat_assoc _ _ _
    rw [show i + (k + 1) = i + 1 + k by omega]
    exact h2.symm.trans h1

theorem tl_fed (x : Nat → Bs) (n : Nat) : Eqv (fed x n) (tl x n 0) := by
  have h1 := fed_tl x n 0
  rw [Nat.zero_add] at h1
  exact h1.symm.trans (nob_cat _)

theorem list_L1 {fu : Nat} {t : Nat × (Nat → Bs)} (hn : t.1 ≤ 50) (ans : F_law10_answers fu = some true) : ∀ k K i, k < K → i + k = t.1 → (∀ j, j < i → (t.2 j).1 ≤ 1000) →
    (iter (fun s => F_law10_FrameList_L1 fu t s.1 s.2) K ((i : Int), S_frame_Reader.mk (fed t.2 i) false) = some (.inl (S_frame_Reader.mk (fed t.2 t.1) false)) ∧ ∀ j, j < t.1 → (t.2 j).1 ≤ 1000) ∨
      iter (fun s => F_law10_FrameList_L1 fu t s.1 s.2) K ((i : Int), S_frame_Reader.mk (fed t.2 i) false) = some (.inr true)
  | 0, K, i, hk, hi, hs => by
    obtain ⟨K, rfl⟩ : ∃ K', K = K' + 1 := ⟨K - 1, by omega⟩
    have e : i = t.1 := by omega
    subst e
    refine .inl ⟨iter_exit ?_, hs⟩
    show F_law10_FrameList_L1 fu t ((t.1 : Nat) : Int) _ = _
    unfold F_law10_FrameList_L1
    rw [decide_eq_false (show ¬ ((t.1 : Nat) : Int) < (t.1 : Int) by omega)]; rfl
  | k + 1, K, i, hk, hi, hs => by
    obtain ⟨K, rfl⟩ : ∃ K', K = K' + 1 := ⟨K - 1, by omega⟩
    by_cases hc : (t.2 i).1 ≤ 1000
    · have hstep : F_law10_FrameList_L1 fu t (i : Int) (S_frame_Reader.mk (fed t.2 i) false) = some (.next (((i + 1 : Nat) : Int), S_frame_Reader.mk (fed t.2 (i + 1)) false)) := by
        have hl := fed_len (x := t.2) (n := i) hs i (Nat.le_refl _)
        unfold F_law10_FrameList_L1
        rw [decide_eq_true (show (i : Int) < (t.1 : Int) by omega), ifs, chk_t (by omega), Int.toNat_natCast, decide_eq_false (show ¬ (((t.2 i).1 : Nat) : Int) > 1000 by omega), ifs, chk_t (by omega), wrap_ok (by omega), Option.bind_some,
          feed_ok (r := S_frame_Reader.mk (fed t.2 i) false) (w := fr (t.2 i)) (by show (fed t.2 i).1 + (4 + (t.2 i).1) ≤ _; omega), Option.bind_some, wrap_succ (by omega)]
        rfl
      rw [iter_next (f := fun s : Int × S_frame_Reader => F_law10_FrameList_L1 fu t s.1 s.2) hstep]
      exact list_L1 hn ans k K (i + 1) (by omega) (by omega) fun j hj => by
        by_cases e : j = i
        · rw [e]; exact hc
        · exact hs j (by omega)
    · refine .inr (iter_ret (f := fun s : Int × S_frame_Reader => F_law10_FrameList_L1 fu t s.1 s.2) ?_)
      show F_law10_FrameList_L1 fu t (i : Int) _ = _
      unfold F_law10_FrameList_L1
      rw [decide_eq_true (show (i : Int) < (t.1 : Int) by omega), ifs, chk_t (by omega), Int.toNat_natCast, decide_eq_true (show (((t.2 i).1 : Nat) : Int) > 1000 by omega), ifs, ans]
      rfl

theorem list_L2 {fu : Nat} (hf : 2000 ≤ fu) {t : Nat × (Nat → Bs)} (hn : t.1 ≤ 50) (hx : ∀ j, j < t.1 → (t.2 j).1 ≤ 1000) : ∀ k K i w, k < K → i + k = t.1 → Eqv w (tl t.2 k i) →
    ∃ r : Bs, r.1 = 0 ∧ iter (fun s => F_law10_FrameList_L2 fu t s.1 s.2) K ((i : Int), S_frame_Reader.mk w false) = some (.inl (S_frame_Reader.mk r false))
  | 0, K, i, w, hk, hi, hw => by
    obtain ⟨K, rfl⟩ : ∃ K', K = K' + 1 := ⟨K - 1, by omega⟩
    refine ⟨w, hw.1, iter_exit ?_⟩
    show F_law10_FrameList_L2 fu t ((i : Nat) : Int) _ = _
    unfold F_law10_FrameList_L2
    rw [decide_eq_false (show ¬ ((i : Nat) : Int) < (t.1 : Int) by omega)]; rfl
  | k + 1, K, i, w, hk, hi, hw => by
    obtain ⟨K, rfl⟩ : ∃ K', K = K' + 1 := ⟨K - 1, by omega⟩
    have h1 := hx i (by omega)
    have h2 := tl_len hx k (i + 1) (by omega)
    obtain ⟨o, r, n1, n2, n3⟩ := next_ok (fu := fu) (by omega) (w := w) (x := t.2 i) (rest := tl t.2 k (i + 1)) (by omega) (by omega) hw
    have hstep : F_law10_FrameList_L2 fu t (i : Int) (S_frame_Reader.mk w false) = some (.next (((i + 1 : Nat) : Int), S_frame_Reader.mk r false)) := by
      have hs : F_ref01_Same fu o (t.2 i) = some true := same_ok n2 (by have := n2.1; omega) (by have := n2.1; omega)
      unfold F_law10_FrameList_L2
      rw [decide_eq_true (show (i : Int) < (t.1 : Int) by omega), ifs, n1, Option.bind_some]
      dsimp only
      rw [chk_t (fun _ => by omega), Int.toNat_natCast, hs, wrap_succ (by omega)]
      rfl
    rw [iter_next (f := fun s : Int × S_frame_Reader => F_law10_FrameList_L2 fu t s.1 s.2) hstep]
    exact list_L2 hf hn hx k K (i + 1) r (by omega) (by omega) n3

theorem list_ok (t : Nat × (Nat → Bs)) : F_law10_FrameList 2000 t = some true := by
  have ans : F_law10_answers 2000 = some true := answers_ok (by decide)
  unfold F_law10_FrameList
  by_cases hn : t.1 > 50
  · rw [decide_eq_true (show ((t.1 : Nat) : Int) > 50 by omega), ifs, ans]; rfl
  · rw [decide_eq_false (show ¬ ((t.1 : Nat) : Int) > 50 by omega), ifs, show F_frame_New = some (S_frame_Reader.mk (fed t.2 0) false) from rfl, Option.bind_some, show (0 : Int) = ((0 : Nat) : Int) from rfl]
    rcases list_L1 (fu := 2000) (t := t) (by omega) ans t.1 2000 0 (by omega) (by omega) (fun j hj => absurd hj (Nat.not_lt_zero j)) with ⟨h1, hx⟩ | h1
    · rw [h1]
      obtain ⟨r, hr, h2⟩ := list_L2 (fu := 2000) (by decide) (t := t) (by omega) hx t.1 2000 0 (fed t.2 t.1) (by omega) (by omega) (tl_fed t.2 t.1)
      show after (iter (fun s => F_law10_FrameList_L2 2000 t s.1 s.2) 2000 (((0 : Nat) : Int), S_frame_Reader.mk (fed t.2 t.1) false)) _ = _
      rw [h2]
      show ((F_law10_answers 2000).bind fun r7 => (callIf r7 (F_frame_Reader_Left (S_frame_Reader.mk r false)) (0 : Int)).bind fun r8 => some (bif r7 then (r8 == (0 : Int)) else false)) = some true
      rw [ans]
      show some (((r.1 : Nat) : Int) == 0) = some true
      rw [hr]; rfl
    · rw [h1]; rfl

theorem pl_FrameList (x0 : Nat × (Nat → Bs)) (_ : x0.1 ≤ maxLen ∧ ∀ i, i < x0.1 → ((x0.2 i).1 ≤ maxLen ∧ ∀ i_1, i_1 < (x0.2 i).1 → (Lit.int .u8 ((x0.2 i).2 i_1)).wf = true)) : ∃ fu, F_law10_FrameList fu x0 = some true := ⟨2000, list_ok x0⟩

end Go.Proofs.Ytlgkjdjgockkfaa
