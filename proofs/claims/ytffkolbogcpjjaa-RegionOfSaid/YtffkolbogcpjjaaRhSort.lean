/- slices.SortFunc over regions: what it leaves. -/
import Derived.Test.YtffkolbogcpjjaaVubeB
import Derived.Test.YtffkolbogcpjjaaPodV
import Derived.Test.YtffkolbogcpjjaaRegShelf
namespace Go.Proofs.Ytffkolbogcpjjaa
open Go Go.Pod Go.Proofs Go.Sort Go.Shelf

instance : Inhabited S_api_Region := ⟨⟨0, ⟨fun _ => 0, fun _ => 0⟩⟩⟩

def toR (x : S_api_Region) : D := (D.cons (D.int .i64 x.f0) (D.cons (D.cons (D.ints .u64 12 x.f1.f0) (D.cons (D.ints .u64 12 x.f1.f1) D.nil)) D.nil))
def encR (x : S_api_Region) : List Value := [Value.int .i64 x.f0] ++ ((List.range 12).map (fun i => Value.int .u64 (x.f1.f0 i)) ++ (List.range 12).map fun i => Value.int .u64 (x.f1.f1 i))

theorem encR_get (x : S_api_Region) (j : Nat) (hj : j < 25) : (encR x)[j]? = some (if j = 0 then Value.int .i64 x.f0 else if j < 13 then Value.int .u64 (x.f1.f0 (j - 1)) else Value.int .u64 (x.f1.f1 (j - 13))) := by
  unfold encR
  by_cases h0 : j = 0
  · subst h0; rfl
  · rw [if_neg h0, List.getElem?_append_right (by simp; omega)]
    by_cases h1 : j < 13
    · rw [if_pos h1, List.getElem?_append_left (by simp; omega)]
      simp [show j - 1 < 12 by omega]
    · rw [if_neg h1, List.getElem?_append_right (by simp; omega)]
      rw [show j - [Value.int .i64 x.f0].length - ((List.range 12).map fun i => Value.int .u64 (x.f1.f0 i)).length = j - 13 by simp; omega]
      simp [show j - 13 < 12 by omega]

theorem elR : ElOk toR encR 25 where
  size := fun _ => rfl
  len := fun x => by simp [encR]
  one := fun x v hv => by
    simp only [encR, List.mem_append, List.mem_map, List.mem_singleton] at hv
    rcases hv with rfl | ⟨i, _, rfl⟩ | ⟨i, _, rfl⟩ <;> rfl
  mem := fun x y L o => by
    constructor
    · rintro ⟨⟨u, h1, rfl, _⟩, ⟨h2, h3, _⟩, _⟩ j hj
      rw [encR_get x j hj]
      by_cases h0 : j = 0
      · subst h0; rw [if_pos rfl]; exact h1
      · rw [if_neg h0]
        by_cases hl : j < 13
        · rw [if_pos hl]
          have := h2 (j - 1) (by omega)
          simp only [D.size] at this
          rwa [show o + 1 + (j - 1) = o + j by omega] at this
        · rw [if_neg hl]
          have := h3 (j - 13) (by omega)
          simp only [D.size] at this
          rwa [show o + 1 + 12 + (j - 13) = o + j by omega] at this
    · intro h
      refine ⟨⟨_, by simpa using (h 0 (by omega)).trans (encR_get x 0 (by omega)), rfl, rfl⟩, ⟨fun i hi => ?_, fun i hi => ?_, trivial⟩, trivial⟩
      · have := (h (i + 1) (by omega)).trans (encR_get x (i + 1) (by omega))
        rw [if_neg (by omega), if_pos (by omega), Nat.add_sub_cancel] at this
        simp only [D.size]
        rwa [show o + 1 + i = o + (i + 1) by omega]
      · have := (h (i + 13) (by omega)).trans (encR_get x (i + 13) (by omega))
        rw [if_neg (by omega), if_neg (by omega), Nat.add_sub_cancel] at this
        simp only [D.size]
        rwa [show o + 1 + 12 + i = o + (i + 13) by omega]
  val := fun x y => by
    refine ⟨(encR x).toArray, rfl, by simp [encR, D.size], ?_⟩
    have hm : (VR y (toR x)).m (fun i => (encR x).toArray[i]?) 0 := by
      refine ⟨⟨_, by simpa using encR_get x 0 (by omega), rfl, rfl⟩, ⟨fun i hi => ?_, fun i hi => ?_, trivial⟩, trivial⟩
      · have := encR_get x (i + 1) (by omega)
        rw [if_neg (by omega), if_pos (by omega), Nat.add_sub_cancel] at this
        simp only [D.size, List.getElem?_toArray]
        rwa [show 0 + 1 + i = i + 1 by omega]
      · have := encR_get x (i + 13) (by omega)
        rw [if_neg (by omega), if_neg (by omega), Nat.add_sub_cancel] at this
        simp only [D.size, List.getElem?_toArray]
        rwa [show 0 + 1 + 12 + i = i + 13 by omega]
    exact hm

/-! ### The order -/

def rc (a b : S_api_Region) : Int := if (if a.f0 < b.f0 then (-1 : Int) else if a.f0 > b.f0 then 1 else 0) = 0 then oc a.f1 b.f1 else (if a.f0 < b.f0 then (-1 : Int) else if a.f0 > b.f0 then 1 else 0)

theorem cmp_int (a b : Int) : F_cmp_Compare_int a b = some (if a < b then -1 else if a > b then 1 else 0) := by
  have n1 : ∀ x : Int, F_cmp_isNaN_int x = some false := fun x => by unfold F_cmp_isNaN_int; simp
  unfold F_cmp_Compare_int
  rw [n1, n1, Option.bind_some, Option.bind_some, ifs, ifs]
  by_cases h : a < b
  · rw [decide_eq_true h, if_pos h]; rfl
  · rw [decide_eq_false h, if_neg h]
    by_cases h2 : a > b
    · rw [decide_eq_true h2, if_pos h2]; rfl
    · rw [decide_eq_false h2, if_neg h2]; rfl

theorem region_compare (a b : S_api_Region) : F_region_compare 64 a b = some (rc a b) := by
  unfold F_region_compare rc
  rw [cmp_int, Option.bind_some, cube_compare, Option.bind_some, or_eq, Option.bind_some]

def key (a : S_api_Region) (i : Nat) : Int := if i = 0 then a.f0 else if i < 13 then a.f1.f1 (i - 1) else a.f1.f0 (i - 13)

theorem key_0 (a : S_api_Region) : key a 0 = a.f0 := rfl
theorem key_c (a : S_api_Region) (i : Nat) (h : i < 12) : key a (i + 1) = a.f1.f1 i := by unfold key; rw [if_neg (by omega), if_pos (by omega), Nat.add_sub_cancel]
theorem key_v (a : S_api_Region) (i : Nat) : key a (i + 13) = a.f1.f0 i := by unfold key; rw [if_neg (by omega), if_neg (by omega), Nat.add_sub_cancel]

theorem rc_first (a b : S_api_Region) : ∃ m, m ≤ 25 ∧ (∀ i, i < m → key a i = key b i) ∧ ((m = 25 ∧ rc a b = 0) ∨ (m < 25 ∧ key a m < key b m ∧ rc a b = -1) ∨ (m < 25 ∧ key b m < key a m ∧ rc a b = 1)) := by
  unfold rc
  rcases Int.lt_trichotomy a.f0 b.f0 with h | h | h
  · exact ⟨0, by omega, fun i hi => absurd hi (Nat.not_lt_zero i), .inr (.inl ⟨by omega, h, by rw [if_pos h]; rfl⟩)⟩
  · have e0 : (if a.f0 < b.f0 then (-1 : Int) else if a.f0 > b.f0 then 1 else 0) = 0 := by rw [if_neg (by omega), if_neg (by omega)]
    rw [if_pos e0]
    have p0 : ∀ i, i < 1 → key a i = key b i := fun i hi => by
      have : i = 0 := by omega
      subst this; exact h
    unfold oc
    rcases lexc_cases a.f1.f1 b.f1.f1 with ⟨c1, c2⟩ | ⟨m, c1, c2, c3⟩
    · rw [if_pos c1]
      have p1 : ∀ i, i < 13 → key a i = key b i := fun i hi => by
        cases i with
        | zero => exact p0 0 (by omega)
        | succ i => rw [key_c _ _ (by omega), key_c _ _ (by omega)]; exact c2 i (by omega)
      rcases lexc_cases a.f1.f0 b.f1.f0 with ⟨d1, d2⟩ | ⟨m, d1, d2, d3⟩
      · refine ⟨25, Nat.le_refl _, fun i hi => ?_, .inl ⟨rfl, d1⟩⟩
        by_cases hl : i < 13
        · exact p1 i hl
        · have := d2 (i - 13) (by omega)
          rw [← key_v, ← key_v, show i - 13 + 13 = i by omega] at this
          exact this
      · refine ⟨m + 13, by omega, fun i hi => ?_, ?_⟩
        · by_cases hl : i < 13
          · exact p1 i hl
          · have := d2 (i - 13) (by omega)
            rw [← key_v, ← key_v, show i - 13 + 13 = i by omega] at this
            exact this
        · rw [key_v, key_v]
          rcases d3 with ⟨e1, e2⟩ | ⟨e1, e2⟩
          · exact .inr (.inl ⟨by omega, e2, e1⟩)
          · exact .inr (.inr ⟨by omega, e2, e1⟩)
    · have hne : lexc a.f1.f1 b.f1.f1 ≠ 0 := by rcases c3 with ⟨e, _⟩ | ⟨e, _⟩ <;> omega
      rw [if_neg hne]
      refine ⟨m + 1, by omega, fun i hi => ?_, ?_⟩
      · cases i with
        | zero => exact p0 0 (by omega)
        | succ i => rw [key_c _ _ (by omega), key_c _ _ (by omega)]; exact c2 i (by omega)
      · rw [key_c _ _ c1, key_c _ _ c1]
        rcases c3 with ⟨e1, e2⟩ | ⟨e1, e2⟩
        · exact .inr (.inl ⟨by omega, e2, e1⟩)
        · exact .inr (.inr ⟨by omega, e2, e1⟩)
  · exact ⟨0, by omega, fun i hi => absurd hi (Nat.not_lt_zero i), .inr (.inr ⟨by omega, h, by
      have e : (if a.f0 < b.f0 then (-1 : Int) else if a.f0 > b.f0 then 1 else 0) = 1 := by rw [if_neg (by omega), if_pos (by omega)]
      rw [e]; rfl⟩)⟩

/-- a ≤ b ≤ c are a ≤ c, and strictly if one is. -/
theorem rc_le {a b c : S_api_Region} (h1 : rc a b ≤ 0) (h2 : rc b c ≤ 0) : rc a c ≤ 0 ∧ (rc a b < 0 ∨ rc b c < 0 → rc a c < 0) := by
  obtain ⟨m1, a1, b1, c1⟩ := rc_first a b
  obtain ⟨m2, a2, b2, c2⟩ := rc_first b c
  obtain ⟨m3, a3, b3, c3⟩ := rc_first a c
  have f1 : m3 < m1 → key a m3 = key b m3 := b1 m3
  have f2 : m3 < m2 → key b m3 = key c m3 := b2 m3
  have g1 : m2 < m1 → key a m2 = key b m2 := b1 m2
  have g2 : m1 < m2 → key b m1 = key c m1 := b2 m1
  have g3 : m1 < m3 → key a m1 = key c m1 := b3 m1
  have g4 : m2 < m3 → key a m2 = key c m2 := b3 m2
  rcases Nat.lt_trichotomy m1 m2 with q1 | q1 | q1 <;> rcases Nat.lt_trichotomy m1 m3 with q2 | q2 | q2 <;> rcases Nat.lt_trichotomy m2 m3 with q3 | q3 | q3 <;> (try subst q1) <;> (try subst q2) <;> (try subst q3) <;>
    (rcases c1 with c1 | c1 | c1 <;> rcases c2 with c2 | c2 | c2 <;> rcases c3 with c3 | c3 | c3 <;> omega)

theorem rc_swap (a b : S_api_Region) : rc b a = -rc a b := by
  unfold rc
  rw [oc_swap a.f1 b.f1]
  rcases Int.lt_trichotomy a.f0 b.f0 with h | h | h
  · rw [if_pos h, if_neg (show ¬ b.f0 < a.f0 by omega), if_pos (show b.f0 > a.f0 by omega)]; rfl
  · rw [if_neg (show ¬ a.f0 < b.f0 by omega), if_neg (show ¬ a.f0 > b.f0 by omega), if_neg (show ¬ b.f0 < a.f0 by omega), if_neg (show ¬ b.f0 > a.f0 by omega)]; rfl
  · have e : (if a.f0 < b.f0 then (-1 : Int) else if a.f0 > b.f0 then 1 else 0) = 1 := by rw [if_neg (by omega), if_pos (by omega)]
    rw [e, if_pos (show b.f0 < a.f0 by omega)]; rfl

theorem rc_swo : SWO (ltOf rc) where
  irrefl := fun x => by
    have := rc_swap x x
    unfold ltOf
    rw [decide_eq_false_iff_not]; omega
  trans := fun x y z h1 h2 => by
    unfold ltOf at *
    rw [decide_eq_true_eq] at *
    exact (rc_le (Int.le_of_lt h1) (Int.le_of_lt h2)).2 (.inl h1)
  ntrans := fun x y z h1 h2 => by
    unfold ltOf at *
    rw [decide_eq_false_iff_not] at *
    have e1 := rc_swap x y
    have e2 := rc_swap y z
    have e3 := rc_swap x z
    have := (rc_le (a := z) (b := y) (c := x) (by omega) (by omega)).1
    omega

def F_slices_SortFunc_region_compare (t0 : Nat × (Nat → S_api_Region)) : Option (Nat × (Nat → S_api_Region)) :=
  chk (t0.1 < 4611686018427387904) <| some (t0.1, fun i => (srt rc t0.1 t0.2)[i]!)

theorem fc_slices_SortFunc_region_compare (t0 : Nat × (Nat → S_api_Region)) {r : Nat × (Nat → S_api_Region)} (h : F_slices_SortFunc_region_compare t0 = some r) :
    FC Try.prog 31 [(D.own 0), (D.fn 32 D.nil)] [some (.seq 30 t0.1 25 (D.arr t0.1 25 fun i => toR (t0.2 i)))] (D.tup D.nil) [some (.seq 30 r.1 25 (D.arr r.1 25 fun i => toR (r.2 i)))] := by
  obtain ⟨p, h⟩ := chk_some h
  cases h
  exact fc_sort Try.laysSort (by decide) elR Try.isAgg30 Try.sizeOf30 rc_swo (by kernel_rfl) rfl trivial (fun x y => fc_region_compare 64 x y (region_compare x y)) 30 t0.1 t0.2 p

end Go.Proofs.Ytffkolbogcpjjaa
