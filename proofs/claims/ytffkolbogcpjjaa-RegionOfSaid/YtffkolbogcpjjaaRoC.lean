/- 'RegionOf' as a plain law: the units, the changes of one. -/
import Derived.Test.YtffkolbogcpjjaaRoB
namespace Go.Proofs.Ytffkolbogcpjjaa
open Go Go.Pod Go.Proofs Go.Sort Go.Shelf

/-! ### Numbers in order -/

abbrev Is := Nat × (Nat → Int)
def ic (a b : Int) : Int := if a < b then -1 else if a > b then 1 else 0
def eqi (a b : Int) : Bool := a == b

theorem ic_key (a b : Int) : (ic a b < 0 ↔ a < b) ∧ (ic a b ≤ 0 ↔ a ≤ b) ∧ (ic a b = 0 ↔ a = b) ∧ ic b a = -ic a b := by
  unfold ic
  rcases Int.lt_trichotomy a b with h | h | h
  · rw [if_pos h, if_neg (show ¬ b < a by omega), if_pos (show b > a by omega)]; omega
  · subst h; simp
  · rw [if_neg (show ¬ a < b by omega), if_pos (show a > b by omega), if_pos (show b < a by omega)]; omega

theorem totI : Tot ic eqi where
  zero := fun a b => by rw [(ic_key a b).2.2.1]; unfold eqi; rw [beq_iff_eq]
  swap := fun a b => (ic_key a b).2.2.2
  le := fun a b c h1 h2 => by
    have k1 := ic_key a b
    have k2 := ic_key b c
    have k3 := ic_key a c
    omega

/-! ### Compact of numbers -/

def newi (a : Nat → Int) (i : Nat) : Bool := i == 0 || !eqi (a i) (a (i - 1))

theorem newi_iff (a : Nat → Int) (i : Nat) : newi a i = true ↔ i = 0 ∨ eqi (a i) (a (i - 1)) = false := by
  unfold newi; simp

theorem compactI_L2 {fu : Nat} {a : Is} {lo j k : Nat} {f : Nat → Int} (hm : a.1 ≤ 100000) (h1 : 1 ≤ j) (hj : lo + j < a.1) (hk : k < lo + j) :
    F_slices_Compact_int_L2 fu a lo (a.1 - lo) (k : Int) (j : Int) (a.1, f) = ifs (!eqi (f (lo + j)) (f (lo + (j - 1)))) (some (.next (((k + 1 : Nat) : Int), ((j + 1 : Nat) : Int), (a.1, fun i => if i = k then f (lo + j) else f i)))) (some (.next ((k : Int), ((j + 1 : Nat) : Int), (a.1, f)))) := by
  unfold F_slices_Compact_int_L2
  rw [decide_eq_true (show (j : Int) < ((a.1 - lo : Nat) : Int) by omega), ifs, wrap_pred h1 (by omega), wrap_succ (i := j) (by omega), wrap_succ (i := k) (by omega)]
  simp only [Int.toNat_natCast]
  rw [chk_t (by omega), chk_t (by omega), chk_t (by omega), chk_t (by omega), chk_t (by omega), chk_t (by omega), chk_t (by omega), chk_t (by omega)]
  rfl

theorem compactI_L1 {fu : Nat} {a : Is} {j : Nat} (hm : a.1 ≤ 100000) (h1 : 1 ≤ j) (hj : j < a.1) :
    F_slices_Compact_int_L1 fu a (j : Int) = ifs (eqi (a.2 j) (a.2 (j - 1))) (after (iter (fun s => F_slices_Compact_int_L2 fu a j (a.1 - j) s.1 s.2.1 s.2.2) fu ((j : Int), (1 : Int), a)) fun e14 =>
      chk (0 ≤ e14.1 ∧ e14.1 ≤ ((e14.2.1 : Nat) : Int) ∧ ((e14.2.1 : Nat) : Int) ≤ ((e14.2.1 : Nat) : Int)) <|
      chk ((e14.1).toNat + ((((e14.2.1 : Nat) : Int)).toNat - (e14.1).toNat) ≤ e14.2.1) <|
      chk (0 ≤ (0 : Int) ∧ (0 : Int) ≤ e14.1 ∧ e14.1 ≤ ((e14.2.1 : Nat) : Int)) <|
      chk (((e14.1).toNat - ((0 : Int)).toNat) ≤ e14.2.1) <|
      some (.ret (((e14.1).toNat - ((0 : Int)).toNat), (fun i => if (e14.1).toNat ≤ i ∧ i < (e14.1).toNat + ((((e14.2.1 : Nat) : Int)).toNat - (e14.1).toNat) then 0 else e14.2.2 i)))) (some (.next ((j + 1 : Nat) : Int))) := by
  unfold F_slices_Compact_int_L1
  rw [decide_eq_true (show (j : Int) < (a.1 : Int) by omega), ifs, wrap_pred h1 (by omega), wrap_succ (i := j) (by omega)]
  simp only [Int.toNat_natCast]
  rw [chk_t (by omega), chk_t (by omega), chk_t (by omega), chk_t (by omega), chk_t (by omega)]
  rfl

theorem compactI_ok {fu : Nat} {a : Is} (hn : a.1 < fu) (hm : a.1 ≤ 100000) : ∃ r, F_slices_Compact_int fu a = some r ∧ ls r = chs (newi a.2) a.2 a.1 := by
  unfold F_slices_Compact_int
  by_cases h2 : a.1 < 2
  · rw [decide_eq_true (show (a.1 : Int) < 2 by omega), ifs]
    refine ⟨a, rfl, (chs_all fun i hi => ?_).symm⟩
    rw [show i = 0 by omega]; rfl
  · rw [decide_eq_false (show ¬ (a.1 : Int) < 2 by omega), ifs]
    obtain ⟨e, h5, h6⟩ := iter_inv (f := fun s : Int => F_slices_Compact_int_L1 fu a s)
      (fun j s => s = (j : Int) ∧ 1 ≤ j ∧ ∀ i, 1 ≤ i → i < j → eqi (a.2 i) (a.2 (i - 1)) = false)
      (fun e => match e with | .inl _ => ∀ i, 1 ≤ i → i < a.1 → eqi (a.2 i) (a.2 (i - 1)) = false | .inr r => ls r = chs (newi a.2) a.2 a.1) a.1
      (fun j s hj ⟨e1, e2, e3⟩ => by
        subst e1
        simp only
        rw [compactI_L1 hm e2 hj]
        cases hc : eqi (a.2 j) (a.2 (j - 1)) with
        | false =>
          refine .inl ⟨_, rfl, rfl, by omega, fun i h1 hi => ?_⟩
          by_cases he : i = j
          · rw [he]; exact hc
          · exact e3 i h1 (by omega)
        | true =>
          right
          obtain ⟨e', h7, h8⟩ := iter_inv (f := fun s : Int × Int × Is => F_slices_Compact_int_L2 fu a j (a.1 - j) s.1 s.2.1 s.2.2)
            (fun i s => 1 ≤ i ∧ ∃ (k : Nat) (f : Nat → Int), s = ((k : Int), (i : Int), (a.1, f)) ∧ k < j + i ∧ (∀ x, j + i - 1 ≤ x → f x = a.2 x) ∧ ls (k, f) = chs (newi a.2) a.2 (j + i))
            (fun e => ∃ (k : Nat) (f : Nat → Int), e = .inl ((k : Int), (a.1, f)) ∧ k ≤ a.1 ∧ ls (k, f) = chs (newi a.2) a.2 a.1) (a.1 - j)
            (fun i s hi ⟨i1, k, f, es, hk, hf, hl⟩ => .inl (by
              subst es
              simp only
              rw [compactI_L2 hm i1 (by omega) hk]
              have q1 : f (j + i) = a.2 (j + i) := hf _ (by omega)
              have q2 : f (j + (i - 1)) = a.2 (j + i - 1) := by
                rw [show j + (i - 1) = j + i - 1 by omega]; exact hf _ (Nat.le_refl _)
              rw [q1, q2]
              have qs : newi a.2 (j + i) = !eqi (a.2 (j + i)) (a.2 (j + i - 1)) := by
                unfold newi
                rw [show (j + i == 0) = false by rw [beq_eq_false_iff_ne]; omega]; rfl
              cases hq : eqi (a.2 (j + i)) (a.2 (j + i - 1)) with
              | true =>
                refine ⟨_, rfl, by omega, k, f, rfl, by omega, fun x hx => hf x (by omega), ?_⟩
                rw [show j + (i + 1) = j + i + 1 by omega, chs_succ, qs, hq, hl]; simp
              | false =>
                refine ⟨_, rfl, by omega, k + 1, _, rfl, by omega, fun x hx => ?_, ?_⟩
                · rw [if_neg (by omega)]; exact hf x (by omega)
                · rw [ls_set, show j + (i + 1) = j + i + 1 by omega, chs_succ, qs, hq, hl]; rfl))
            (fun s ⟨i1, k, f, es, hk, hf, hl⟩ => by
              subst es
              refine ⟨((k : Int), (a.1, f)), ?_, k, f, rfl, by omega, by rw [hl]; congr 1; omega⟩
              simp only [F_slices_Compact_int_L2]
              rw [decide_eq_false (by omega)]; rfl)
            (a.1 - j - 1) 1 fu ((j : Int), (1 : Int), a) (by omega) (by omega) ⟨by omega, j, a.2, rfl, by omega, fun _ _ => rfl, by
              rw [chs_succ]
              have : newi a.2 j = false := by
                unfold newi
                rw [show (j == 0) = false by rw [beq_eq_false_iff_ne]; omega, hc]; rfl
              rw [this, chs_all fun i hi => ?_]
              · simp
              · rw [newi_iff]
                by_cases h0 : i = 0
                · exact .inl h0
                · exact .inr (e3 i (by omega) hi)⟩
          obtain ⟨k, f, rfl, hk, hl⟩ := h8
          rw [h7]
          simp only [after, ifs]
          rw [chk_t (by omega), chk_t (by omega), chk_t (by omega), chk_t (by omega)]
          refine ⟨_, rfl, ?_⟩
          rw [← hl]
          show ls ((k : Int).toNat - (0 : Int).toNat, _) = _
          rw [show (k : Int).toNat - (0 : Int).toNat = k by simp]
          exact ls_eq fun x hx => by rw [if_neg (by omega)])
      (fun s ⟨e1, e2, e3⟩ => by
        subst e1
        refine ⟨(), ?_, e3⟩
        simp only [F_slices_Compact_int_L1]
        rw [decide_eq_false (by omega)]; rfl)
      (a.1 - 1) 1 fu (1 : Int) (by omega) (by omega) ⟨rfl, by omega, fun i h1 hi => by omega⟩
    rw [h5]
    cases e with
    | inl e =>
      refine ⟨a, rfl, (chs_all fun i hi => ?_).symm⟩
      rw [newi_iff]
      by_cases h0 : i = 0
      · exact .inl h0
      · exact .inr (h6 i (by omega) hi)
    | inr r => exact ⟨r, rfl, h6⟩



/-! ### Units -/

theorem ls_succ {α : Type} (n : Nat) (f : Nat → α) : ls (n + 1, f) = ls (n, f) ++ [f n] := by
  unfold ls
  rw [List.range_succ, List.map_append]; rfl

theorem units_L1 {fu : Nat} {l : Chs} (hn : l.1 < fu) (hm : l.1 ≤ 100000) :
    ∃ r : Is, iter (fun s => F_region_Units_L1 fu l ((l.1 : Nat) : Int) s.1 s.2) fu ((0 : Int), (0, (fun _ => 0))) = some (.inl r) ∧ ls r = ls (l.1, fun i => (l.2 i).f0) := by
  obtain ⟨e, h5, r, rfl, h6⟩ := iter_inv (f := fun s : Int × Is => F_region_Units_L1 fu l ((l.1 : Nat) : Int) s.1 s.2)
    (fun j s => s.1 = (j : Int) ∧ s.2.1 ≤ j ∧ ls s.2 = ls (j, fun i => (l.2 i).f0))
    (fun e => ∃ r, e = .inl r ∧ ls r = ls (l.1, fun i => (l.2 i).f0)) l.1
    (fun j s hj ⟨e1, e2, e3⟩ => .inl (by
      obtain ⟨s1, m⟩ := s
      simp only at e1 e2 e3
      subst e1
      simp only [F_region_Units_L1]
      rw [decide_eq_true (show (j : Int) < (l.1 : Int) by omega), ifs, chk_t (by omega), Int.toNat_natCast, chk_t (room_big (by omega) (by omega)), wrap_succ (i := j) (by omega)]
      refine ⟨_, rfl, rfl, show m.1 + 1 ≤ j + 1 by omega, ?_⟩
      rw [show ls (j + 1, fun i => (l.2 i).f0) = ls (j, fun i => (l.2 i).f0) ++ [(l.2 j).f0] from ls_succ _ _]
      exact ls_push e3))
    (fun s ⟨e1, e2, e3⟩ => by
      obtain ⟨s1, m⟩ := s
      simp only at e1 e2 e3
      subst e1
      refine ⟨m, ?_, m, rfl, e3⟩
      simp only [F_region_Units_L1]
      rw [decide_eq_false (by omega)]; rfl)
    l.1 0 fu ((0 : Int), (0, (fun _ => 0))) (by omega) hn ⟨rfl, Nat.le_refl _, rfl⟩
  exact ⟨r, h5, h6⟩

theorem srtI_ok (n : Nat) (f : Nat → Int) : (srtI n f).Perm (ls (n, f)) ∧ (srtI n f).Pairwise fun x y => x ≤ y := by
  unfold srtI
  refine ⟨List.mergeSort_perm _ _, ?_⟩
  have := List.pairwise_mergeSort (le := fun x y : Int => decide (x ≤ y)) (fun a b c h1 h2 => by simp only [decide_eq_true_eq] at *; omega) (fun a b => by simp only [Bool.or_eq_true, decide_eq_true_eq]; omega) ((List.range n).map f)
  exact this.imp fun h => by simpa using h

/-- The units, each once, ascending. -/
structure Uns (l : Chs) (E : List Int) : Prop where
  srt : E.Pairwise fun x y => x < y
  mem : ∀ x, x ∈ E ↔ x ∈ ls (l.1, fun i => (l.2 i).f0)

theorem units_ok {fu : Nat} {l : Chs} (hn : l.1 < fu) (hm : l.1 ≤ 100000) : ∃ r : Is, F_region_Units fu l = some r ∧ Uns l (ls r) ∧ r.1 ≤ l.1 := by
  unfold F_region_Units
  obtain ⟨r1, k1, k2⟩ := units_L1 hn hm
  have hl1 : r1.1 = l.1 := by rw [← ls_len r1, k2, ls_len]
  rw [k1]
  simp only [after]
  unfold F_slices_Sort_i64
  rw [chk_t (by omega), Option.bind_some]
  obtain ⟨s1, s2⟩ := srtI_ok r1.1 r1.2
  have hls : ls (r1.1, fun i => (srtI r1.1 r1.2).getD i 0) = srtI r1.1 r1.2 := by
    apply List.ext_getElem
    · rw [ls_len, srtI_len]
    · intro i h1 h2
      simp [ls, h2]
  obtain ⟨r2, k3, k4⟩ := compactI_ok (fu := fu) (a := (r1.1, fun i => (srtI r1.1 r1.2).getD i 0)) (show r1.1 < fu by omega) (show r1.1 ≤ 100000 by omega)
  rw [k3, Option.bind_some]
  unfold F_slices_Clip_int
  rw [chk_t (by omega), Option.bind_some, Int.toNat_natCast]
  have hl2 : r2.1 ≤ r1.1 := by
    have := chs_len (newi fun i => (srtI r1.1 r1.2).getD i 0) (fun i => (srtI r1.1 r1.2).getD i 0) r1.1
    rw [← k4, ls_len] at this; exact this
  refine ⟨(r2.1, r2.2), rfl, ?_, show r2.1 ≤ l.1 by omega⟩
  obtain ⟨d1, d2⟩ := totI.dedup (n := r1.1) (a := fun i => (srtI r1.1 r1.2).getD i 0) (q := newi fun i => (srtI r1.1 r1.2).getD i 0) (fun i j hij hj => by
    rw [(ic_key _ _).2.1]
    have hi' : i < (srtI r1.1 r1.2).length := by rw [srtI_len]; omega
    have hj' : j < (srtI r1.1 r1.2).length := by rw [srtI_len]; omega
    have := List.pairwise_iff_getElem.1 s2 i j hi' hj' hij
    simpa [hi', hj'] using this) (fun i _ => newi_iff _ i)
  rw [← k4] at d1 d2
  constructor
  · exact d1.imp fun h => (ic_key _ _).1.1 h
  · intro x
    rw [← k2, ← s1.mem_iff, ← hls]
    constructor
    · intro hx
      have hx' : x ∈ ls r2 := hx
      rw [k4] at hx'
      obtain ⟨i, hi, _, rfl⟩ := chs_mem.1 hx'
      exact ls_mem.2 ⟨i, hi, rfl⟩
    · intro hx
      obtain ⟨y, hy, e⟩ := d2 x hx
      rw [← beq_iff_eq.1 (show (y == x) = true from e)]; exact hy

theorem ru_L2 {fu : Nat} (l : Chs) (a : Is) {j : Nat} (hj : j < l.1) (hn : a.1 < fu) (hm : a.1 ≤ 100000) :
    ∃ k : Nat, iter (fun s => F_ref19_Units_L2 fu l a (j : Int) s) fu (0 : Int) = some (.inl (k : Int)) ∧ k ≤ a.1 ∧ (∀ i, i < k → a.2 i < (l.2 j).f0) ∧ (k < a.1 → ¬ a.2 k < (l.2 j).f0) := by
  obtain ⟨e, h1, k, rfl, h2⟩ := iter_gen (f := fun s : Int => F_ref19_Units_L2 fu l a (j : Int) s)
    (fun i s => s = (i : Int) ∧ ∀ x, x < i → a.2 x < (l.2 j).f0) (fun e => ∃ k : Nat, e = .inl (k : Int) ∧ k ≤ a.1 ∧ (∀ i, i < k → a.2 i < (l.2 j).f0) ∧ (k < a.1 → ¬ a.2 k < (l.2 j).f0)) a.1
    (fun i s hi ⟨es, hx⟩ => by
      subst es
      simp only [F_ref19_Units_L2]
      rw [decide_eq_true (show (i : Int) < (a.1 : Int) by omega), chk_t (fun _ => by omega), chk_t (fun _ => by omega), Int.toNat_natCast, Int.toNat_natCast, wrap_succ (i := i) (by omega)]
      by_cases hc : a.2 i < (l.2 j).f0
      · rw [decide_eq_true hc]
        refine ⟨_, rfl, rfl, fun x h => ?_⟩
        by_cases e : x = i
        · rw [e]; exact hc
        · exact hx x (by omega)
      · rw [decide_eq_false hc]
        exact ⟨_, rfl, i, rfl, by omega, hx, fun _ => hc⟩)
    (fun s ⟨es, hx⟩ => by
      subst es
      simp only [F_ref19_Units_L2]
      rw [decide_eq_false (show ¬ ((a.1 : Nat) : Int) < ((a.1 : Nat) : Int) by omega), chk_t (fun h => by cases h), chk_t (fun h => by cases h)]
      exact ⟨_, rfl, a.1, rfl, Nat.le_refl _, hx, fun h => by omega⟩)
    a.1 0 fu (0 : Int) (by omega) hn ⟨rfl, fun x h => by omega⟩
  exact ⟨k, h1, h2⟩

theorem ls_split {α : Type} {n k : Nat} (f : Nat → α) (h : k ≤ n) : ls (n, f) = ls (k, f) ++ ls (n - k, fun i => f (k + i)) := by
  obtain ⟨m, rfl⟩ : ∃ m, n = k + m := ⟨n - k, by omega⟩
  unfold ls
  rw [List.range_add, List.map_append, List.map_map, Nat.add_sub_cancel_left]
  rfl

theorem ru_put {A B : List Int} {u : Int} (h : (A ++ B).Pairwise fun x y => x < y) (hA : ∀ x ∈ A, x < u) (hB : ∀ x ∈ B, u < x) : (A ++ [u] ++ B).Pairwise fun x y => x < y := by
  rw [List.pairwise_append] at h
  obtain ⟨h1, h2, h3⟩ := h
  rw [List.pairwise_append, List.pairwise_append]
  refine ⟨⟨h1, List.pairwise_singleton _ _, fun x hx y hy => ?_⟩, h2, fun x hx y hy => ?_⟩
  · rw [List.mem_singleton.1 hy]; exact hA x hx
  · rcases List.mem_append.1 hx with hx | hx
    · exact h3 x hx y hy
    · rw [List.mem_singleton.1 hx]; exact hB y hy

theorem ru_L1 {fu : Nat} {l : Chs} {a : Is} {j : Nat} (hj : j < l.1) (hn : a.1 < fu) (hm : a.1 ≤ j) (hl : l.1 ≤ 1000) (hs : (ls a).Pairwise fun x y => x < y) :
    ∃ r : Is, F_ref19_Units_L1 fu l a (j : Int) = some (.next (r, ((j + 1 : Nat) : Int))) ∧ r.1 ≤ j + 1 ∧ (ls r).Pairwise (fun x y => x < y) ∧ ∀ x, x ∈ ls r ↔ x ∈ ls a ∨ x = (l.2 j).f0 := by
  unfold F_ref19_Units_L1
  obtain ⟨k, h1, h2, h3, h4⟩ := ru_L2 (fu := fu) l a hj hn (by omega)
  rw [decide_eq_true (show (j : Int) < (l.1 : Int) by omega), ifs, h1]
  simp only [after]
  simp only [Int.toNat_natCast, show ((0 : Int)).toNat = 0 from rfl, Nat.zero_add, Nat.sub_zero]
  rw [chk_t (show decide ((k : Int) < ((a.1 : Nat) : Int)) = true → 0 ≤ (k : Int) ∧ (k : Int) < ((a.1 : Nat) : Int) from fun h => ⟨by omega, of_decide_eq_true h⟩), chk_t (show decide ((k : Int) < ((a.1 : Nat) : Int)) = true → 0 ≤ (j : Int) ∧ (j : Int) < ((l.1 : Nat) : Int) from fun _ => by omega), wrap_succ (i := j) (by omega)]
  have step : (¬ (k < a.1 ∧ a.2 k = (l.2 j).f0)) → ∃ r : Is, (chk (0 ≤ (0 : Int) ∧ (0 : Int) ≤ (k : Int) ∧ (k : Int) ≤ ((a.1 : Nat) : Int)) <| chk (RoomOk k 8) <| chk (0 ≤ (j : Int) ∧ (j : Int) < ((l.1 : Nat) : Int)) <| chk (RoomOk (k + 1) 8) <|
      chk (0 ≤ (k : Int) ∧ (k : Int) ≤ ((a.1 : Nat) : Int) ∧ ((a.1 : Nat) : Int) ≤ ((a.1 : Nat) : Int)) <| chk (RoomOk (k + 1 + (a.1 - k)) 8) <|
      some (Lo.next (((k + 1 + (a.1 - k), fun i => if i < k + 1 then (fun i => if i < k then (fun i => if i < 0 then (fun i => ([] : List Int).getD i 0) i else a.2 i) i else (fun i => ([(l.2 j).f0] : List Int).getD i 0) (i - k)) i else a.2 (k + (i - (k + 1)))) : Is), ((j + 1 : Nat) : Int))) : Option (Lo (Is × Int) E_ref19_Units_L1 Is)) =
      some (.next (r, ((j + 1 : Nat) : Int))) ∧ r.1 ≤ j + 1 ∧ (ls r).Pairwise (fun x y => x < y) ∧ ∀ x, x ∈ ls r ↔ x ∈ ls a ∨ x = (l.2 j).f0 := fun hne => by
    rw [chk_t (by omega), chk_t (room_big (by omega) (by omega)), chk_t (by omega), chk_t (room_big (by omega) (by omega)), chk_t (by omega), chk_t (room_big (by omega) (by omega))]
    have hsp := ls_split a.2 h2
    have hpr : (ls (k, a.2) ++ ls (a.1 - k, fun i => a.2 (k + i))).Pairwise fun x y => x < y := by rw [← hsp]; exact hs
    have hB : ∀ x ∈ ls (a.1 - k, fun i => a.2 (k + i)), (l.2 j).f0 < x := fun x hx => by
      obtain ⟨i, hi, rfl⟩ := ls_mem.1 hx
      simp only at hi ⊢
      have h5 := h4 (by omega)
      have h6 : a.2 k ≠ (l.2 j).f0 := fun e => hne ⟨by omega, e⟩
      by_cases h0 : i = 0
      · subst h0; rw [Nat.add_zero]; omega
      · have := (List.pairwise_append.1 hpr).2.1
        rw [List.pairwise_iff_getElem] at this
        have := this 0 i (by rw [ls_len]; show 0 < a.1 - k; omega) (by rw [ls_len]; exact hi) (by omega)
        simp [ls] at this
        omega
    have hA : ∀ x ∈ ls (k, a.2), x < (l.2 j).f0 := fun x hx => by
      obtain ⟨i, hi, rfl⟩ := ls_mem.1 hx
      exact h3 i hi
    have e1 : ls (k + 1, fun i => if i < k then (fun i => if i < 0 then (fun i => ([] : List Int).getD i 0) i else a.2 i) i else (fun i => ([(l.2 j).f0] : List Int).getD i 0) (i - k)) = ls (k, a.2) ++ [(l.2 j).f0] :=
      ls_push (m := (k, fun i => if i < 0 then (fun i => ([] : List Int).getD i 0) i else a.2 i)) (ls_eq fun i _ => by simp)
    have e2 : ls (k + 1 + (a.1 - k), fun i => if i < k + 1 then (fun i => if i < k then (fun i => if i < 0 then (fun i => ([] : List Int).getD i 0) i else a.2 i) i else (fun i => ([(l.2 j).f0] : List Int).getD i 0) (i - k)) i else a.2 (k + (i - (k + 1)))) = ls (k, a.2) ++ [(l.2 j).f0] ++ ls (a.1 - k, fun i => a.2 (k + i)) := by
      rw [← e1]
      exact ls_cat (k + 1, fun i => if i < k then (fun i => if i < 0 then (fun i => ([] : List Int).getD i 0) i else a.2 i) i else (fun i => ([(l.2 j).f0] : List Int).getD i 0) (i - k)) (a.1 - k, fun i => a.2 (k + i))
    refine ⟨_, rfl, show k + 1 + (a.1 - k) ≤ j + 1 by omega, ?_, fun x => ?_⟩
    · rw [e2]; exact ru_put hpr hA hB
    · rw [e2, show ls a = ls (k, a.2) ++ ls (a.1 - k, fun i => a.2 (k + i)) from hsp]
      simp only [List.mem_append, List.mem_singleton]
      constructor
      · rintro ((h | h) | h)
        · exact .inl (.inl h)
        · exact .inr h
        · exact .inl (.inr h)
      · rintro ((h | h) | h)
        · exact .inl (.inl h)
        · exact .inr h
        · exact .inl (.inr h)
  cases hd : decide ((k : Int) < ((a.1 : Nat) : Int)) with
  | true =>
    have hk : k < a.1 := by have := decide_eq_true_iff.1 hd; omega
    simp only [cond_true]
    cases hq : (a.2 k == (l.2 j).f0) with
    | true =>
      have hq' : a.2 k = (l.2 j).f0 := beq_iff_eq.1 hq
      refine ⟨a, rfl, by omega, hs, fun x => ⟨.inl, fun h => h.elim id fun e => ?_⟩⟩
      rw [e, ← hq']; exact ls_mem.2 ⟨k, hk, rfl⟩
    | false => exact step fun h => by rw [h.2, beq_self_eq_true] at hq; cases hq
  | false =>
    exact step fun h => by have := decide_eq_false_iff_not.1 hd; omega

theorem ref_units {fu : Nat} {l : Chs} (hn : l.1 < fu) (hm : l.1 ≤ 1000) : ∃ r : Is, F_ref19_Units fu l = some r ∧ Uns l (ls r) ∧ r.1 ≤ l.1 := by
  unfold F_ref19_Units
  obtain ⟨e, h1, r, rfl, h2, h3, h4⟩ := iter_inv (f := fun s : Is × Int => F_ref19_Units_L1 fu l s.1 s.2)
    (fun j s => s.2 = (j : Int) ∧ s.1.1 ≤ j ∧ (ls s.1).Pairwise (fun x y => x < y) ∧ ∀ x, x ∈ ls s.1 ↔ x ∈ ls (j, fun i => (l.2 i).f0))
    (fun e => ∃ r : Is, e = .inl r ∧ r.1 ≤ l.1 ∧ (ls r).Pairwise (fun x y => x < y) ∧ ∀ x, x ∈ ls r ↔ x ∈ ls (l.1, fun i => (l.2 i).f0)) l.1
    (fun j s hj ⟨e1, e2, e3, e4⟩ => .inl (by
      obtain ⟨m, s2⟩ := s
      simp only at e1 e2 e3 e4
      subst e1
      simp only
      obtain ⟨r, q1, q2, q3, q4⟩ := ru_L1 (fu := fu) hj (by omega) e2 hm e3
      refine ⟨(r, ((j + 1 : Nat) : Int)), q1, rfl, q2, q3, fun x => ?_⟩
      simp only
      rw [q4, e4, ls_succ, List.mem_append, List.mem_singleton]))
    (fun s ⟨e1, e2, e3, e4⟩ => by
      obtain ⟨m, s2⟩ := s
      simp only at e1 e2 e3 e4
      subst e1
      refine ⟨m, ?_, m, rfl, e2, e3, e4⟩
      simp only [F_ref19_Units_L1]
      rw [decide_eq_false (by omega)]; rfl)
    l.1 0 fu ((0, (fun _ => (0 : Int))), (0 : Int)) (by omega) hn ⟨rfl, Nat.le_refl _, List.Pairwise.nil, fun x => Iff.rfl⟩
  rw [h1]
  exact ⟨r, rfl, ⟨h3, h4⟩, h2⟩

theorem ints_ok {fu : Nat} {a b : Is} (hn : a.1 < fu) (hm : a.1 ≤ 1000) (h1 : a.1 = b.1) (h2 : ∀ i, i < a.1 → a.2 i = b.2 i) : F_ref01_Ints fu a b = some true := by
  unfold F_ref01_Ints
  rw [h1, bne_self_eq_false, ifs, show (0 : Int) = (fun i : Nat => (i : Int)) 0 from rfl, iter_run0 (fun i : Nat => (i : Int)) (e := ()) a.1 fu hn]
  · rfl
  · intro i hi
    unfold F_ref01_Ints_L1
    rw [decide_eq_true (show (i : Int) < (a.1 : Int) by omega), ifs, chk_t (by omega), chk_t (by omega), Int.toNat_natCast, h2 i hi, bne_self_eq_false, ifs, wrap_succ (i := i) (by omega)]
  · unfold F_ref01_Ints_L1
    rw [decide_eq_false (by omega)]; rfl

theorem uns_same {l : Chs} {a b : Is} (h : Uns l (ls a)) (k : Uns l (ls b)) : a.1 = b.1 ∧ ∀ i, i < a.1 → a.2 i = b.2 i := by
  obtain ⟨h1, h2⟩ := totI.same (ls a) (ls b) (h.srt.imp fun h => (ic_key _ _).1.2 h) (k.srt.imp fun h => (ic_key _ _).1.2 h) (fun c hc => ⟨c, (k.mem c).2 ((h.mem c).1 hc), totI.refl c⟩) (fun c hc => ⟨c, (h.mem c).2 ((k.mem c).1 hc), totI.refl c⟩)
  rw [ls_len, ls_len] at h1
  exact ⟨h1, fun i hi => beq_iff_eq.1 (h2 i _ _ (ls_get a i hi) (ls_get b i (by omega)))⟩

/-! ### For -/

theorem for_eq {fu : Nat} {l : Chs} (u : Int) (hr : ∀ i, i < l.1 → RoomOk (0 + (l.2 i).f1.f3.1) 32) : F_region_For fu l u = F_ref19_For fu l u := by
  unfold F_region_For F_ref19_For
  have : (fun s : Int × (Nat × (Nat → S_api_Mod)) => F_region_For_L1 fu u l ((l.1 : Nat) : Int) s.1 s.2) = fun s => F_ref19_For_L1 fu l u s.1 s.2 := by
    funext s
    unfold F_region_For_L1 F_ref19_For_L1
    cases decide (s.1 < ((l.1 : Nat) : Int)) with
    | false => rfl
    | true =>
      simp only [ifs]
      by_cases hp : 0 ≤ s.1 ∧ s.1 < ((l.1 : Nat) : Int)
      · rw [chk_t hp, chk_t hp, chk_t hp]
        cases ((l.2 s.1.toNat).f0 == u) with
        | false => rfl
        | true =>
          simp only [ifs]
          unfold F_slices_Clone_api_Act F_slices_Clip_api_Act
          rw [chk_t (hr s.1.toNat (by omega)), Option.bind_some, chk_t (by omega), Option.bind_some, Int.toNat_natCast]
      · unfold chk
        rw [if_neg hp, if_neg hp]
  rw [this]

abbrev Mods := Nat × (Nat → S_api_Mod)

theorem ref_for {fu : Nat} {l : Chs} (u : Int) (hn : l.1 < fu) (hm : l.1 ≤ 1000) : ∃ r : Mods, F_ref19_For fu l u = some r ∧ ls r = chs (fun i => (l.2 i).f0 == u) (fun i => (l.2 i).f1) l.1 ∧ r.1 ≤ l.1 := by
  unfold F_ref19_For
  obtain ⟨e, h5, r, rfl, h6, h7⟩ := iter_inv (f := fun s : Int × Mods => F_ref19_For_L1 fu l u s.1 s.2)
    (fun j s => s.1 = (j : Int) ∧ s.2.1 ≤ j ∧ ls s.2 = chs (fun i => (l.2 i).f0 == u) (fun i => (l.2 i).f1) j)
    (fun e => ∃ r, e = .inl r ∧ ls r = chs (fun i => (l.2 i).f0 == u) (fun i => (l.2 i).f1) l.1 ∧ r.1 ≤ l.1) l.1
    (fun j s hj ⟨e1, e2, e3⟩ => .inl (by
      obtain ⟨s1, m⟩ := s
      simp only at e1 e2 e3
      subst e1
      simp only [F_ref19_For_L1]
      rw [decide_eq_true (show (j : Int) < (l.1 : Int) by omega), ifs, chk_t (by omega), Int.toNat_natCast, wrap_succ (i := j) (by omega)]
      cases hs : ((l.2 j).f0 == u) with
      | false =>
        refine ⟨((j + 1 : Nat), m), rfl, rfl, show m.1 ≤ j + 1 by omega, ?_⟩
        rw [chs_succ, hs, e3]; simp
      | true =>
        rw [ifs, chk_t (by omega), chk_t (room_big (by omega) (by omega))]
        refine ⟨_, rfl, rfl, show m.1 + 1 ≤ j + 1 by omega, ?_⟩
        rw [chs_succ, hs]
        exact ls_push e3))
    (fun s ⟨e1, e2, e3⟩ => by
      obtain ⟨s1, m⟩ := s
      simp only at e1 e2 e3
      subst e1
      refine ⟨m, ?_, m, rfl, e3, e2⟩
      simp only [F_ref19_For_L1]
      rw [decide_eq_false (by omega)]; rfl)
    l.1 0 fu ((0 : Int), (0, (fun _ => S_api_Mod.z))) (by omega) hn ⟨rfl, Nat.le_refl _, rfl⟩
  rw [h5]
  exact ⟨r, rfl, h6, h7⟩

theorem acts_refl {fu : Nat} (a : Nat × (Nat → S_api_Act)) (hn : a.1 < fu) (hm : a.1 ≤ 4611686018427387904) : F_ref04_SameActs fu a a = some true := by
  unfold F_ref04_SameActs
  rw [bne_self_eq_false, ifs, show (0 : Int) = (fun i : Nat => (i : Int)) 0 from rfl, iter_run0 (fun i : Nat => (i : Int)) (e := ()) a.1 fu hn]
  · rfl
  · intro i hi
    unfold F_ref04_SameActs_L1
    rw [decide_eq_true (show (i : Int) < (a.1 : Int) by omega), ifs, chk_t (by omega), chk_t (by omega), Int.toNat_natCast, wrap_i64 (by omega) (by omega)]
    simp [ifs]
  · unfold F_ref04_SameActs_L1
    rw [decide_eq_false (by omega)]; rfl

theorem mods_refl {fu : Nat} (m : S_api_Mod) (hn : m.f3.1 < fu) (hm : m.f3.1 ≤ 4611686018427387904) : F_ref04_SameMods fu m m = some true := by
  unfold F_ref04_SameMods
  rw [acts_refl _ hn hm, callIf_b, Option.bind_some, show ((List.range 12).all fun i => m.f1.f0 i == m.f1.f0 i) = true by simp, show ((List.range 12).all fun i => m.f1.f1 i == m.f1.f1 i) = true by simp]
  simp

/-! ### The law -/

theorem of_loop1 {fu : Nat} {a b : Rs} (t7 t8 : Mods) (hn : a.1 < fu) (hm : a.1 ≤ 1000) (h1 : a.1 = b.1) (h2 : ∀ i, i < a.1 → eqr (a.2 i) (b.2 i) = true) : iter (fun s => F_law19_RegionOf_L1 fu a b t7 t8 s) fu (0 : Int) = some (.inl ()) := by
  rw [show (0 : Int) = (fun i : Nat => (i : Int)) 0 from rfl, iter_run0 (fun i : Nat => (i : Int)) (e := ()) a.1 fu hn]
  · intro i hi
    unfold F_law19_RegionOf_L1
    rw [decide_eq_true (show (i : Int) < (a.1 : Int) by omega), ifs, chk_t (by omega), chk_t (by omega), Int.toNat_natCast, wrap_succ (i := i) (by omega)]
    have := h2 i hi
    show ifs (!eqr (a.2 i) (b.2 i)) _ _ = _
    rw [this]; rfl
  · unfold F_law19_RegionOf_L1
    rw [decide_eq_false (by omega)]; rfl

theorem of_loop2 {fu : Nat} {a : Mods} (hn : a.1 < fu) (hm : a.1 ≤ 1000) (h : ∀ i, i < a.1 → (a.2 i).f3.1 < fu ∧ (a.2 i).f3.1 ≤ 4611686018427387904) : iter (fun s => F_law19_RegionOf_L2 fu a a s) fu (0 : Int) = some (.inl ()) := by
  rw [show (0 : Int) = (fun i : Nat => (i : Int)) 0 from rfl, iter_run0 (fun i : Nat => (i : Int)) (e := ()) a.1 fu hn]
  · intro i hi
    unfold F_law19_RegionOf_L2
    rw [decide_eq_true (show (i : Int) < (a.1 : Int) by omega), ifs, chk_t (by omega), chk_t (by omega), Int.toNat_natCast, wrap_succ (i := i) (by omega), mods_refl _ (h i hi).1 (h i hi).2]
    rfl
  · unfold F_law19_RegionOf_L2
    rw [decide_eq_false (by omega)]; rfl

theorem cat0 {α : Type} (a : Nat × (Nat → α)) (z : α) : ((0 + a.1, fun i => if i < 0 then (fun i => ([] : List α).getD i z) i else a.2 (i - 0)) : Nat × (Nat → α)) = a := by
  obtain ⟨n, f⟩ := a
  simp

theorem region_of {fu : Nat} (hf : 300 ≤ fu) {l : Chs} (u : Int) (hl : ∀ i, i < l.1 → UC (l.2 i).f1.f1) (hr : ∀ i, i < l.1 → RoomOk (0 + (l.2 i).f1.f3.1) 32 ∧ (l.2 i).f1.f3.1 < fu ∧ (l.2 i).f1.f3.1 ≤ 4611686018427387904) : F_law19_RegionOf fu l u = some true := by
  unfold F_law19_RegionOf
  by_cases hg : ((l.1 : Nat) : Int) > 30
  · rw [decide_eq_true hg, ifs, answers_ok hf]; rfl
  · rw [decide_eq_false hg, ifs, chk_t (room_big (by omega) (by omega)), cat0]
    obtain ⟨r1, k1, L1, n1⟩ := of_ok (fu := fu) (by omega) hl (by omega) (by omega)
    obtain ⟨r2, k2, L2⟩ := ref_region hf hl (by omega) (by omega)
    obtain ⟨r4, k4, m4, n4⟩ := ref_for (fu := fu) u (l := l) (by omega) (by omega)
    obtain ⟨r6, k6, U6, n6⟩ := units_ok (fu := fu) (l := l) (by omega) (by omega)
    obtain ⟨r7, k7, U7, n7⟩ := ref_units (fu := fu) (l := l) (by omega) (by omega)
    obtain ⟨g1, g2⟩ := L1.same totR L2
    rw [ls_len, ls_len] at g1
    obtain ⟨e1, e2⟩ := uns_same U6 U7
    have hacts : ∀ i, i < r4.1 → (r4.2 i).f3.1 < fu ∧ (r4.2 i).f3.1 ≤ 4611686018427387904 := fun i hi => by
      have hm : r4.2 i ∈ ls r4 := ls_mem.2 ⟨i, hi, rfl⟩
      rw [m4] at hm
      obtain ⟨j, hj, _, e⟩ := chs_mem.1 hm
      rw [← e]; exact (hr j hj).2
    rw [k1, Option.bind_some, k2, Option.bind_some, for_eq u fun i hi => (hr i hi).1, k4, Option.bind_some, Option.bind_some, answers_ok hf, Option.bind_some, g1, bne_self_eq_false, bne_self_eq_false]
    simp only [Bool.not_true, cond_false, Bool.not_false, callIf]
    rw [k6, Option.bind_some, k7, Option.bind_some, ints_ok (by omega) (by omega) e1 e2, Option.bind_some, Bool.not_true, ifs,
      of_loop1 (fu := fu) r4 r4 (by omega) (by omega) g1 fun i hi => g2 i _ _ (ls_get r1 i hi) (ls_get r2 i (by omega))]
    simp only [after]
    rw [of_loop2 (by omega) (by omega) hacts]

theorem bound_ex (f : Nat → Nat) : ∀ n, ∃ b, ∀ i, i < n → f i < b
  | 0 => ⟨0, fun i hi => absurd hi (Nat.not_lt_zero i)⟩
  | n + 1 => by
    obtain ⟨b, h⟩ := bound_ex f n
    refine ⟨b + f n + 1, fun i hi => ?_⟩
    by_cases e : i = n
    · subst e; omega
    · have := h i (by omega); omega

theorem room_reach {n : Nat} (h : n * 32 ≤ reachBytes) : RoomOk (0 + n) 32 ∧ n ≤ 4611686018427387904 := by
  unfold reachBytes at h
  exact ⟨⟨by omega, by omega⟩, by omega⟩

theorem pl_RegionOf (x0 : Chs) (w0 : x0.1 ≤ maxLen ∧ x0.1 * 272 ≤ reachBytes ∧ ∀ i, i < x0.1 → S_api_Change.wf (x0.2 i)) (x1 : Int) (_ : (Lit.int .i64 x1).wf = true) : ∃ fu, F_law19_RegionOf fu x0 x1 = some true := by
  obtain ⟨b, hb⟩ := bound_ex (fun i => (x0.2 i).f1.f3.1) x0.1
  refine ⟨300 + b, region_of (by omega) x1 (fun i hi => uc_wf (w0.2.2 i hi).2.1.2.1) fun i hi => ?_⟩
  have h1 := room_reach (w0.2.2 i hi).2.1.2.2.2.1.2.1
  exact ⟨h1.1, by have : (x0.2 i).f1.f3.1 < b := hb i hi; omega, h1.2⟩

end Go.Proofs.Ytffkolbogcpjjaa
