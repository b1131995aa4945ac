/- 'HeadOrder': what the functions compute answers as the law says. -/
import Derived.Test.YtfhimlhpjbjfgaaHeadLib
namespace Go.Proofs.Ytfhimlhpjbjfgaa
open Go Go.Pod Go.Proofs

/-- The order of two headers: by the first field in which they differ. -/
def lexc (s t : Nat → Int) : Int := match stopAt (fun i => s i == t i) 12 0 with
  | none => 0
  | some m => if s m < t m then -1 else 1

theorem cmp_eq (a b : Int) : F57 a b = some (if a < b then -1 else if a > b then 1 else 0) := by
  by_cases h1 : a < b
  · simp [F57, F62, ifs, h1]
  · by_cases h2 : a > b
    · simp [F57, F62, ifs, h1, h2]
    · simp [F57, F62, ifs, h1, h2]

theorem compare_eq (s t : Nat → Int) : F28 64 s t = some (lexc s t) := by
  have a := iter_scan (f := fun s' => F56_57_L1 64 (12, s) (12, t) (12, s) ((12 : Nat) : Int) s') (fun i => (i : Int)) (fun i => s i == t i) (fun i => if s i < t i then -1 else 1) (e := ()) 12 0 64 (by omega) (fun i _ h2 => by
      have hi : (i : Int) < 12 := by omega
      have hn : ¬ ((i : Int) ≥ 12) := by omega
      have hw : IntKind.wrap .i64 ((i : Int) + 1) = ((i + 1 : Nat) : Int) := wrap_i64 (by omega) (by omega)
      by_cases he : s i = t i
      · simp [F56_57_L1, hi, hn, chk, ifs, cmp_eq, he, hw]
      · by_cases hl : s i < t i
        · simp [F56_57_L1, hi, hn, chk, ifs, cmp_eq, he, hl]
        · have hg : s i > t i := by omega
          simp [F56_57_L1, hi, hn, chk, ifs, cmp_eq, he, hl, hg]) (by simp [F56_57_L1, ifs])
  simp only [F28, F56_57]
  rw [show ((0 : Int)) = (((0 : Nat)) : Int) from rfl, a]
  unfold lexc
  cases stopAt (fun i => s i == t i) 12 0 <;> simp [after, ifs]

theorem order_eq (s t : Nat → Int) : F30 64 s t = some (lexc s t) := by
  have a := iter_scan (f := fun s' => F30_L1 64 s t s') (fun i => (i : Int)) (fun i => s i == t i) (fun i => if s i < t i then -1 else 1) (e := ()) 12 0 64 (by omega) (fun i _ h2 => by
      have hi : (i : Int) < 12 := by omega
      have hn : i < 12 := by omega
      have hw : IntKind.wrap .i64 ((i : Int) + 1) = ((i + 1 : Nat) : Int) := wrap_i64 (by omega) (by omega)
      by_cases he : s i = t i
      · simp [F30_L1, hi, hn, chk, ifs, he, hw]
      · by_cases hl : s i < t i
        · simp [F30_L1, hi, hn, chk, ifs, he, hl]
        · have hg : s i > t i := by omega
          simp [F30_L1, hi, hn, chk, ifs, he, hl, hg]) (by simp [F30_L1, ifs])
  simp only [F30]
  rw [show ((0 : Int)) = (((0 : Nat)) : Int) from rfl, a]
  unfold lexc
  cases stopAt (fun i => s i == t i) 12 0 <;> simp [after]

theorem sign_eq (a : Int) : F29 a = some (if a < 0 then -1 else if a > 0 then 1 else 0) := by
  by_cases h1 : a < 0
  · simp [F29, ifs, h1]
  · by_cases h2 : a > 0
    · simp [F29, ifs, h1, h2]
    · simp [F29, ifs, h1, h2]

theorem lexc_cases (s t : Nat → Int) : (lexc s t = 0 ∧ ∀ i, i < 12 → s i = t i) ∨ (∃ m, m < 12 ∧ (∀ i, i < m → s i = t i) ∧ ((lexc s t = -1 ∧ s m < t m) ∨ (lexc s t = 1 ∧ t m < s m))) := by
  unfold lexc
  cases h : stopAt (fun i => s i == t i) 12 0 with
  | none =>
    refine .inl ⟨rfl, fun i hi => ?_⟩
    have := stopAt_none h i hi
    simpa using this
  | some m =>
    obtain ⟨_, h2, h3, h4⟩ := stopAt_some h
    refine .inr ⟨m, by omega, fun i hi => by simpa using h4 i (by omega) hi, ?_⟩
    have hne : s m ≠ t m := by simpa using h3
    by_cases hl : s m < t m
    · exact .inl ⟨by simp [hl], hl⟩
    · exact .inr ⟨by simp [hl], by omega⟩

theorem lexc_swap (s t : Nat → Int) : lexc t s = -lexc s t := by
  have hsym : (fun i => t i == s i) = (fun i => s i == t i) := funext fun i => by
    by_cases h : s i = t i
    · rw [h]
    · have h' : ¬ t i = s i := fun e => h e.symm
      rw [beq_eq_false_iff_ne.2 h, beq_eq_false_iff_ne.2 h']
  unfold lexc
  rw [hsym]
  cases h : stopAt (fun i => s i == t i) 12 0 with
  | none => rfl
  | some m =>
    obtain ⟨_, _, h3, _⟩ := stopAt_some h
    have hne : s m ≠ t m := by simpa using h3
    by_cases hl : s m < t m
    · have : ¬ t m < s m := by omega
      simp [hl, this]
    · have : t m < s m := by omega
      simp [hl, this]

theorem lexc_trans {a b c : Nat → Int} (h1 : lexc a b ≤ 0) (h2 : lexc b c ≤ 0) : lexc a c ≤ 0 := by
  rcases lexc_cases a c with ⟨h, _⟩ | ⟨m, hm, he, ⟨h, _⟩ | ⟨_, hg⟩⟩
  · omega
  · omega
  · exfalso
    rcases lexc_cases a b with ⟨_, e1⟩ | ⟨m1, k1, e1, ⟨_, l1⟩ | ⟨g1, _⟩⟩
    · rcases lexc_cases b c with ⟨_, e2⟩ | ⟨m2, k2, e2, ⟨_, l2⟩ | ⟨g2, _⟩⟩
      · have := e1 m hm; have := e2 m hm; omega
      · rcases Nat.lt_trichotomy m m2 with q | q | q
        · have := e1 m hm; have := e2 m q; omega
        · subst q; have := e1 m hm; omega
        · have := he m2 q; have := e1 m2 k2; omega
      · omega
    · rcases lexc_cases b c with ⟨_, e2⟩ | ⟨m2, k2, e2, ⟨_, l2⟩ | ⟨g2, _⟩⟩
      · rcases Nat.lt_trichotomy m m1 with q | q | q
        · have := e1 m q; have := e2 m hm; omega
        · subst q; have := e2 m hm; omega
        · have := he m1 q; have := e2 m1 k1; omega
      · -- both strict
        rcases Nat.lt_trichotomy m1 m2 with q | q | q
        · have h3 := e2 m1 q
          rcases Nat.lt_trichotomy m m1 with r | r | r
          · have := e1 m r; have := e2 m (by omega); omega
          · subst r; omega
          · have := he m1 r; omega
        · subst q
          rcases Nat.lt_trichotomy m m1 with r | r | r
          · have := e1 m r; have := e2 m r; omega
          · subst r; omega
          · have := he m1 r; omega
        · have h3 := e1 m2 q
          rcases Nat.lt_trichotomy m m2 with r | r | r
          · have := e1 m (by omega); have := e2 m r; omega
          · subst r; omega
          · have := he m2 r; omega
      · omega
    · omega

theorem order (t0 t1 t2 : Nat → Int) : F8 64 t0 t1 t2 = some true := by
  have heq : (lexc t0 t1 == 0) = ((List.range 12).all fun i => t0 i == t1 i) := by
    rw [Bool.eq_iff_iff]
    simp only [beq_iff_eq, List.all_eq_true, List.mem_range]
    constructor
    · intro h
      rcases lexc_cases t0 t1 with ⟨_, he⟩ | ⟨m, _, _, ⟨h', _⟩ | ⟨h', _⟩⟩
      · exact he
      · omega
      · omega
    · intro h
      rcases lexc_cases t0 t1 with ⟨h', _⟩ | ⟨m, hm, _, ⟨_, h'⟩ | ⟨_, h'⟩⟩
      · exact h'
      · have := h m hm; omega
      · have := h m hm; omega
  have hv : lexc t0 t1 = -1 ∨ lexc t0 t1 = 0 ∨ lexc t0 t1 = 1 := by
    rcases lexc_cases t0 t1 with ⟨h, _⟩ | ⟨m, _, _, ⟨h, _⟩ | ⟨h, _⟩⟩ <;> simp [h]
  have hlast : (bif (bif (decide (lexc t0 t1 > 0)) then true else (decide (lexc t1 t2 > 0))) then true else (decide (lexc t0 t2 ≤ 0))) = true := by
    by_cases h1 : lexc t0 t1 > 0
    · simp [h1]
    · by_cases h2 : lexc t1 t2 > 0
      · simp [h2]
      · have := lexc_trans (a := t0) (b := t1) (c := t2) (by omega) (by omega)
        simp [h1, h2, this]
  have w0 : IntKind.wrap .i64 0 = 0 := wrap_i64 (by omega) (by omega)
  have w1 : IntKind.wrap .i64 1 = 1 := wrap_i64 (by omega) (by omega)
  have wm : IntKind.wrap .i64 (-1) = -1 := wrap_i64 (by omega) (by omega)
  simp only [F8, compare_eq, answers, Option.bind_some, callIf, sign_eq, order_eq, lexc_swap t0 t1, hlast, ← heq]
  rcases hv with h | h | h <;> simp [h, w0, w1, wm]

end Go.Proofs.Ytfhimlhpjbjfgaa
