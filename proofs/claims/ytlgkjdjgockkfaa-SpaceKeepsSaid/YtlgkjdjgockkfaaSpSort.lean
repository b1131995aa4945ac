/- slices.SortFunc over cubes: what it leaves; slices.Clone of cubes. -/
import Derived.Test.YtlgkjdjgockkfaaUubeB
import Derived.Test.YtlgkjdjgockkfaaPodV
import Derived.Test.YtlgkjdjgockkfaaSpShelf
namespace Go.Proofs.Ytlgkjdjgockkfaa
open Go Go.Pod Go.Proofs Go.Sort Go.Shelf

instance : Inhabited S_api_Cube := ⟨⟨fun _ => 0, fun _ => 0⟩⟩

def encC (x : S_api_Cube) : List Value := (List.range 12).map (fun i => Value.int .u64 (x.f0 i)) ++ (List.range 12).map fun i => Value.int .u64 (x.f1 i)

theorem encC_get (x : S_api_Cube) (j : Nat) (hj : j < 24) : (encC x)[j]? = some (if j < 12 then Value.int .u64 (x.f0 j) else Value.int .u64 (x.f1 (j - 12))) := by
  unfold encC
  by_cases h1 : j < 12
  · rw [if_pos h1, List.getElem?_append_left (by simp; omega)]
    simp [h1]
  · rw [if_neg h1, List.getElem?_append_right (by simp; omega)]
    rw [show j - ((List.range 12).map fun i => Value.int .u64 (x.f0 i)).length = j - 12 by simp]
    simp [show j - 12 < 12 by omega]

theorem elC : ElOk S_api_Cube.d encC 24 where
  size := fun _ => rfl
  len := fun x => by simp [encC]
  one := fun x v hv => by
    simp only [encC, List.mem_append, List.mem_map] at hv
    rcases hv with ⟨i, _, rfl⟩ | ⟨i, _, rfl⟩ <;> rfl
  mem := fun x y L o => by
    constructor
    · rintro ⟨h2, h3, _⟩ j hj
      rw [encC_get x j hj]
      by_cases hl : j < 12
      · rw [if_pos hl]
        exact h2 j hl
      · rw [if_neg hl]
        have := h3 (j - 12) (by omega)
        simp only [D.size] at this
        rwa [show o + 12 + (j - 12) = o + j by omega] at this
    · intro h
      refine ⟨fun i hi => ?_, fun i hi => ?_, trivial⟩
      · have := (h i (by omega)).trans (encC_get x i (by omega))
        rw [if_pos hi] at this
        exact this
      · have := (h (i + 12) (by omega)).trans (encC_get x (i + 12) (by omega))
        rw [if_neg (by omega), Nat.add_sub_cancel] at this
        simp only [D.size]
        rwa [show o + 12 + i = o + (i + 12) by omega]
  val := fun x y => by
    refine ⟨(encC x).toArray, rfl, by simp [encC, D.size], ?_⟩
    have hm : (VR y (S_api_Cube.d x)).m (fun i => (encC x).toArray[i]?) 0 := by
      refine ⟨fun i hi => ?_, fun i hi => ?_, trivial⟩
      · have := encC_get x i (by omega)
        rw [if_pos hi] at this
        simp only [List.getElem?_toArray]
        rwa [show 0 + i = i by omega]
      · have := encC_get x (i + 12) (by omega)
        rw [if_neg (by omega), Nat.add_sub_cancel] at this
        simp only [D.size, List.getElem?_toArray]
        rwa [show 0 + 12 + i = i + 12 by omega]
    exact hm

/-! ### The order -/

def ckey (a : S_api_Cube) (i : Nat) : Int := if i < 12 then a.f1 i else a.f0 (i - 12)

theorem ckey_c (a : S_api_Cube) (i : Nat) (h : i < 12) : ckey a i = a.f1 i := by unfold ckey; rw [if_pos h]
theorem ckey_v (a : S_api_Cube) (i : Nat) : ckey a (i + 12) = a.f0 i := by unfold ckey; rw [if_neg (by omega), Nat.add_sub_cancel]

theorem oc_first (a b : S_api_Cube) : ∃ m, m ≤ 24 ∧ (∀ i, i < m → ckey a i = ckey b i) ∧ ((m = 24 ∧ oc a b = 0) ∨ (m < 24 ∧ ckey a m < ckey b m ∧ oc a b = -1) ∨ (m < 24 ∧ ckey b m < ckey a m ∧ oc a b = 1)) := by
  unfold oc
  rcases lexc_cases a.f1 b.f1 with ⟨c1, c2⟩ | ⟨m, c1, c2, c3⟩
  · rw [if_pos c1]
    have p1 : ∀ i, i < 12 → ckey a i = ckey b i := fun i hi => by rw [ckey_c _ _ hi, ckey_c _ _ hi]; exact c2 i hi
    rcases lexc_cases a.f0 b.f0 with ⟨d1, d2⟩ | ⟨m, d1, d2, d3⟩
    · refine ⟨24, Nat.le_refl _, fun i hi => ?_, .inl ⟨rfl, d1⟩⟩
      by_cases hl : i < 12
      · exact p1 i hl
      · have := d2 (i - 12) (by omega)
        rw [← ckey_v, ← ckey_v, show i - 12 + 12 = i by omega] at this
        exact this
    · refine ⟨m + 12, by omega, fun i hi => ?_, ?_⟩
      · by_cases hl : i < 12
        · exact p1 i hl
        · have := d2 (i - 12) (by omega)
          rw [← ckey_v, ← ckey_v, show i - 12 + 12 = i by omega] at this
          exact this
      · rw [ckey_v, ckey_v]
        rcases d3 with ⟨e1, e2⟩ | ⟨e1, e2⟩
        · exact .inr (.inl ⟨by omega, e2, e1⟩)
        · exact .inr (.inr ⟨by omega, e2, e1⟩)
  · have hne : lexc a.f1 b.f1 ≠ 0 := by rcases c3 with ⟨e, _⟩ | ⟨e, _⟩ <;> omega
    rw [if_neg hne]
    refine ⟨m, by omega, fun i hi => ?_, ?_⟩
    · rw [ckey_c _ _ (by omega), ckey_c _ _ (by omega)]; exact c2 i (by omega)
    · rw [ckey_c _ _ c1, ckey_c _ _ c1]
      rcases c3 with ⟨e1, e2⟩ | ⟨e1, e2⟩
      · exact .inr (.inl ⟨by omega, e2, e1⟩)
      · exact .inr (.inr ⟨by omega, e2, e1⟩)

theorem oc_le {a b c : S_api_Cube} (h1 : oc a b ≤ 0) (h2 : oc b c ≤ 0) : oc a c ≤ 0 ∧ (oc a b < 0 ∨ oc b c < 0 → oc a c < 0) := by
  obtain ⟨m1, a1, b1, c1⟩ := oc_first a b
  obtain ⟨m2, a2, b2, c2⟩ := oc_first b c
  obtain ⟨m3, a3, b3, c3⟩ := oc_first a c
  have f1 : m3 < m1 → ckey a m3 = ckey b m3 := b1 m3
  have f2 : m3 < m2 → ckey b m3 = ckey c m3 := b2 m3
  have g1 : m2 < m1 → ckey a m2 = ckey b m2 := b1 m2
  have g2 : m1 < m2 → ckey b m1 = ckey c m1 := b2 m1
  have g3 : m1 < m3 → ckey a m1 = ckey c m1 := b3 m1
  have g4 : m2 < m3 → ckey a m2 = ckey c m2 := b3 m2
  rcases Nat.lt_trichotomy m1 m2 with q1 | q1 | q1 <;> rcases Nat.lt_trichotomy m1 m3 with q2 | q2 | q2 <;> rcases Nat.lt_trichotomy m2 m3 with q3 | q3 | q3 <;> (try subst q1) <;> (try subst q2) <;> (try subst q3) <;>
    (rcases c1 with c1 | c1 | c1 <;> rcases c2 with c2 | c2 | c2 <;> rcases c3 with c3 | c3 | c3 <;> omega)

theorem oc_swo : SWO (ltOf oc) where
  irrefl := fun x => by
    have := oc_swap x x
    unfold ltOf
    rw [decide_eq_false_iff_not]; omega
  trans := fun x y z h1 h2 => by
    unfold ltOf at *
    rw [decide_eq_true_eq] at *
    exact (oc_le (Int.le_of_lt h1) (Int.le_of_lt h2)).2 (.inl h1)
  ntrans := fun x y z h1 h2 => by
    unfold ltOf at *
    rw [decide_eq_false_iff_not] at *
    have e1 := oc_swap x y
    have e2 := oc_swap y z
    have e3 := oc_swap x z
    have := (oc_le (a := z) (b := y) (c := x) (by omega) (by omega)).1
    omega

def F_slices_SortFunc_cube_Compare (t0 : Nat × (Nat → S_api_Cube)) : Option (Nat × (Nat → S_api_Cube)) :=
  chk (t0.1 < 4611686018427387904) <| some (t0.1, fun i => (srt oc t0.1 t0.2)[i]!)

theorem fc_slices_SortFunc_cube_Compare (t0 : Nat × (Nat → S_api_Cube)) {r : Nat × (Nat → S_api_Cube)} (h : F_slices_SortFunc_cube_Compare t0 = some r) :
    FC Try.prog 36 [(D.own 0), (D.fn 37 D.nil)] [some (.seq 44 t0.1 24 (D.arr t0.1 24 fun i => S_api_Cube.d (t0.2 i)))] (D.tup D.nil) [some (.seq 44 r.1 24 (D.arr r.1 24 fun i => S_api_Cube.d (r.2 i)))] := by
  obtain ⟨p, h⟩ := chk_some h
  cases h
  exact fc_sort Try.laysSort (by decide) elC Try.isAgg44 Try.sizeOf44 oc_swo (by kernel_rfl) rfl trivial (fun x y => fc_cube_Compare 64 x y (cube_compare x y)) 44 t0.1 t0.2 p

/-! ### slices.Clone -/

noncomputable def T_slices_Clone_api_Cube : List Item := norm 200 [.code (Try.f33.body.getD .skip)]
def zC : S_api_Cube := S_api_Cube.mk (fun _ => 0) (fun _ => 0)

def F_slices_Clone_api_Cube (t0 : (Nat × (Nat → S_api_Cube))) : Option (Nat × (Nat → S_api_Cube)) := chk (RoomOk (0 + t0.1) 192) <| some t0

theorem row_eqC (n : Nat) (f g : Nat → S_api_Cube) : ([some (.seq 44 (0 + n) 24 (D.arr (0 + n) 24 (fun i => S_api_Cube.d ((fun i => if i < 0 then g i else f (i - 0)) i))))] : Heap) = [some (.seq 44 n 24 (D.arr n 24 fun i => S_api_Cube.d (f i)))] := by
  simp

theorem run_slices_Clone (n : Nat) (f : Nat → S_api_Cube) (p : RoomOk (0 + n) 192) : Runs Try.prog Try.f33 0 T_slices_Clone_api_Cube [(0, (D.lit n 24 fun i => (S_api_Cube.d (f i))))] [] (D.own 0) [some (.seq 44 n 24 (D.arr n 24 fun i => S_api_Cube.d (f i)))] := by
  refine runs_nilsplit 0 rfl (fun hm => ?_) ?_
  · subst hm
    refine runs_regions 2 [([], [0]), ([], [4])] (z := ([], [(4, (D.bool true))], [])) rfl (by kernel_rfl) trivial ?_
    refine runs_if (b := true) (by kernel_rfl) (fun hb => ?_) (fun hb => by cases hb)
    refine runs_regions 1 [([(.nil 44 24 (D.arr 0 24 fun i => S_api_Cube.d (f i)))], [2])] (z := ([EmptyOk (D.arr 0 24 fun i => S_api_Cube.d (f i))], [(2, (D.own 0))], [some (.seq 44 0 24 (D.arr 0 24 fun i => S_api_Cube.d (f i)))])) rfl (by kernel_rfl) (And.intro emptyOk_arr trivial) ?_
    exact runs_ret (h2 := [some (.seq 44 0 24 (D.arr 0 24 fun i => S_api_Cube.d (f i)))]) (by kernel_rfl) (And.intro (.inr rfl) trivial) (Nat.zero_le _) (And.intro (fun _ _ => S_api_Cube.inn _) trivial) (bel_of rfl)
  · refine runs_regions 2 [([], [0]), ([], [0, 4])] (z := ([], [(0, (D.nn (D.lit n 24 fun i => (S_api_Cube.d (f i))))), (4, (D.bool false))], [])) rfl (by kernel_rfl) trivial ?_
    refine runs_if (b := false) (by kernel_rfl) (fun hb => by cases hb) (fun hb => ?_)
    refine runs_nn 0 rfl ?_
    rw [← row_eqC n f (fun i => ([] : List S_api_Cube).getD i zC)]
    refine runs_regions 1 [([(.own (D.arr 0 24 fun i => S_api_Cube.d ((fun i => ([] : List S_api_Cube).getD i zC) i))), (.d (D.arr (0 + n) 24 fun i => S_api_Cube.d ((fun i => if i < 0 then (fun i => ([] : List S_api_Cube).getD i zC) i else f (i - 0)) i)))], [2])] (z := ([TabOk [] 24 (D.arr 0 24 fun i => S_api_Cube.d ((fun i => ([] : List S_api_Cube).getD i zC) i)), RoomOk (0 + n) 192, CatOk (D.arr 0 24 fun i => S_api_Cube.d ((fun i => ([] : List S_api_Cube).getD i zC) i)) (D.arr n 24 fun i => (S_api_Cube.d (f i))) (D.arr (0 + n) 24 fun i => S_api_Cube.d ((fun i => if i < 0 then (fun i => ([] : List S_api_Cube).getD i zC) i else f (i - 0)) i))], [(2, (D.own 1))], [none, some (.seq 44 (0 + n) 24 (D.arr (0 + n) 24 fun i => S_api_Cube.d ((fun i => if i < 0 then (fun i => ([] : List S_api_Cube).getD i zC) i else f (i - 0)) i)))])) rfl (by kernel_rfl) (And.intro (tabOk_arr rfl trivial) (And.intro p (And.intro (catOk_arr' rfl fun i => (d_ite (f := fun x : S_api_Cube => (S_api_Cube.d x)) rfl rfl).symm) trivial))) ?_
    refine runs_rename 0 1 (by decide) (Nat.zero_le _) rfl rfl (And.intro (fun _ _ => S_api_Cube.rnk _) trivial) (And.intro (rn_own rfl) trivial) ?_
    exact runs_ret (h2 := [some (.seq 44 (0 + n) 24 (D.arr (0 + n) 24 fun i => S_api_Cube.d ((fun i => if i < 0 then (fun i => ([] : List S_api_Cube).getD i zC) i else f (i - 0)) i)))]) (by kernel_rfl) (And.intro (.inr rfl) trivial) (Nat.zero_le _) (And.intro (fun _ _ => S_api_Cube.inn _) trivial) (bel_of rfl)

theorem fc_slices_Clone_api_Cube (t0 : (Nat × (Nat → S_api_Cube))) {r : (Nat × (Nat → S_api_Cube))} (h : F_slices_Clone_api_Cube t0 = some r) : FC Try.prog 33 [(D.lit t0.1 24 fun i => (S_api_Cube.d (t0.2 i)))] [] (D.own 0) [some (.seq 44 r.1 24 (D.arr r.1 24 fun i => S_api_Cube.d (r.2 i)))] := by
  obtain ⟨p, h⟩ := chk_some h
  cases h
  refine fc_of_runs (fn := Try.f33) (c := Try.f33.body.getD .skip) (by kernel_rfl) (by kernel_rfl) ?_
  refine runs_to (ts := [0]) (T' := T_slices_Clone_api_Cube) (env' := [(0, (D.lit t0.1 24 fun i => (S_api_Cube.d (t0.2 i))))]) (h2 := []) (by kernel_rfl) (by kernel_rfl) trivial (Nat.le_refl 0) trivial (And.intro (fun _ _ => S_api_Cube.inn _) trivial) ?_
  exact run_slices_Clone t0.1 t0.2 p

end Go.Proofs.Ytlgkjdjgockkfaa
