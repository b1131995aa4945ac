/- What the functions compute, each proved to do so (printed by pgen.py). -/
import Derived.Test.YtffkolbogcpjjaaProg
import Derived.Test.YtffkolbogcpjjaaPodK
namespace Go.Proofs.Ytffkolbogcpjjaa
open Go Go.Pod Go.Proofs

structure S_api_Cube where
  f0 : (Nat → Int)
  f1 : (Nat → Int)

def S_api_Cube.d (x : S_api_Cube) : D := (D.cons (D.ints .u64 12 x.f0) (D.cons (D.ints .u64 12 x.f1) D.nil))
theorem S_api_Cube.inn {S : Nat → Prop} (x : S_api_Cube) : (S_api_Cube.d x).In S := by
  unfold S_api_Cube.d
  exact (And.intro trivial (And.intro trivial trivial))
theorem S_api_Cube.rnk {r0 r1 : Nat} (x : S_api_Cube) : rnOk r0 r1 (S_api_Cube.d x) := by
  unfold S_api_Cube.d
  exact (And.intro trivial (And.intro trivial trivial))
theorem S_api_Cube.tgt (x : S_api_Cube) : (S_api_Cube.d x).Tight := by
  unfold S_api_Cube.d
  exact (And.intro trivial (And.intro trivial trivial))
abbrev S_api_Cube.z : S_api_Cube := (S_api_Cube.mk (fun _ => 0) (fun _ => 0))

def S_api_Cube.wf (x : S_api_Cube) : Prop := (∀ i, i < 12 → (Lit.int .u64 (x.f0 i)).wf = true) ∧ (∀ i, i < 12 → (Lit.int .u64 (x.f1 i)).wf = true) ∧ True

structure S_api_Region where
  f0 : Int
  f1 : S_api_Cube

def S_api_Region.d (x : S_api_Region) : D := (D.cons (D.int .i64 x.f0) (D.cons (S_api_Cube.d x.f1) D.nil))
theorem S_api_Region.inn {S : Nat → Prop} (x : S_api_Region) : (S_api_Region.d x).In S := by
  unfold S_api_Region.d
  exact (And.intro trivial (And.intro (S_api_Cube.inn _) trivial))
theorem S_api_Region.rnk {r0 r1 : Nat} (x : S_api_Region) : rnOk r0 r1 (S_api_Region.d x) := by
  unfold S_api_Region.d
  exact (And.intro trivial (And.intro (S_api_Cube.rnk _) trivial))
theorem S_api_Region.tgt (x : S_api_Region) : (S_api_Region.d x).Tight := by
  unfold S_api_Region.d
  exact (And.intro trivial (And.intro (S_api_Cube.tgt _) trivial))
abbrev S_api_Region.z : S_api_Region := (S_api_Region.mk (0 : Int) S_api_Cube.z)

def S_api_Region.wf (x : S_api_Region) : Prop := (Lit.int .i64 x.f0).wf = true ∧ S_api_Cube.wf x.f1 ∧ True

def K_cmp_isNaN_int (d : D) (r : Bool) : Prop := d = (D.bool r)

noncomputable def T_cmp_isNaN_int : List Item := norm 200 [.code (Try.f79.body.getD .skip)]

/-- cmp.isNaN[int] -/
def F_cmp_isNaN_int (t0 : Int) : Option Bool :=
  some (t0 != t0)

theorem run_cmp_isNaN_int (t0 : Int) {d : D} {r : Bool} (h : F_cmp_isNaN_int t0 = some r) (hk : (K_cmp_isNaN_int d) r) : Runs Try.prog Try.f79 0 T_cmp_isNaN_int [(0, (D.int .i64 t0))] [] d [] := by
  unfold F_cmp_isNaN_int at h
  refine runs_regions 2 [([], [0]), ([], [2])] (z := ([], [(2, (D.bool (t0 != t0)))], [])) rfl (by kernel_rfl) trivial ?_
  rw [← Option.some.inj h] at hk
  obtain rfl : d = (D.bool (t0 != t0)) := hk
  exact runs_ret (by kernel_rfl) trivial (Nat.le_refl 0) trivial trivial

theorem fc_cmp_isNaN_int (t0 : Int) {r : Bool} (h : F_cmp_isNaN_int t0 = some r) : FC Try.prog 79 [(D.int .i64 t0)] [] (D.bool r) [] := by
  refine fc_of_runs (fn := Try.f79) (c := Try.f79.body.getD .skip) (by kernel_rfl) (by kernel_rfl) ?_
  refine runs_to (ts := [0]) (T' := T_cmp_isNaN_int) (env' := [(0, (D.int .i64 t0))]) (h2 := []) (by kernel_rfl) (by kernel_rfl) trivial (Nat.le_refl _) trivial (And.intro trivial trivial) ?_
  exact run_cmp_isNaN_int t0 h rfl

def K_cmp_Compare_int (d : D) (r : Int) : Prop := d = (D.int .i64 r)

noncomputable def T_cmp_Compare_int : List Item := norm 200 [.code (Try.f62.body.getD .skip)]

/-- cmp.Compare[int] -/
def F_cmp_Compare_int (t0 : Int) (t1 : Int) : Option Int :=
  (F_cmp_isNaN_int t0).bind fun r0 =>
  (F_cmp_isNaN_int t1).bind fun r1 =>
  ifs r0 (
    ifs r1 (
      some (0 : Int)) (
      some (-1 : Int))) (
    ifs r1 (
      some (1 : Int)) (
      ifs (decide (t0 < t1)) (
        some (-1 : Int)) (
        ifs (decide (t0 > t1)) (
          some (1 : Int)) (
          some (0 : Int)))))

theorem run_cmp_Compare_int (t0 : Int) (t1 : Int) {d : D} {r : Int} (h : F_cmp_Compare_int t0 t1 = some r) (hk : (K_cmp_Compare_int d) r) : Runs Try.prog Try.f62 0 T_cmp_Compare_int [(0, (D.int .i64 t0)), (1, (D.int .i64 t1))] [] d [] := by
  unfold F_cmp_Compare_int at h
  obtain ⟨r0, cr0, h⟩ := Option.bind_eq_some_iff.1 h
  obtain ⟨r1, cr1, h⟩ := Option.bind_eq_some_iff.1 h
  refine runs_regions 4 [([], [0, 1]), ([(.d (D.bool r0))], [0, 1, 5]), ([(.d (D.bool r1))], [0, 1, 5, 6]), ([], [0, 1, 6, 11])] (z := ([FC Try.prog 79 [(D.int .i64 t0)] [] (D.bool r0) [], All (List.map NoRow [(D.int .i64 t0)]), FC Try.prog 79 [(D.int .i64 t1)] [] (D.bool r1) [], All (List.map NoRow [(D.int .i64 t1)])], [(0, (D.int .i64 t0)), (1, (D.int .i64 t1)), (6, (D.bool r1)), (11, (D.bool r0))], [])) rfl (by kernel_rfl) (And.intro (fc_cmp_isNaN_int t0 cr0) (And.intro (And.intro trivial trivial) (And.intro (fc_cmp_isNaN_int t1 cr1) (And.intro (And.intro trivial trivial) trivial)))) ?_
  refine runs_if (b := r0) (by kernel_rfl) (fun hb => ?_) (fun hb => ?_)
  · replace h := ifs_true h hb
    refine runs_regions 1 [([], [12])] (z := ([], [(12, (D.bool r1))], [])) rfl (by kernel_rfl) trivial ?_
    refine runs_if (b := r1) (by kernel_rfl) (fun hb => ?_) (fun hb => ?_)
    · replace h := ifs_true h hb
      refine runs_regions 1 [([], [4])] (z := ([], [(4, (D.int .i64 (0 : Int)))], [])) rfl (by kernel_rfl) trivial ?_
      rw [← Option.some.inj h] at hk
      obtain rfl : d = (D.int .i64 (0 : Int)) := hk
      exact runs_ret (by kernel_rfl) trivial (Nat.le_refl 0) trivial trivial
    · replace h := ifs_false h hb
      refine runs_regions 1 [([], [4])] (z := ([], [(4, (D.int .i64 (-1 : Int)))], [])) rfl (by kernel_rfl) trivial ?_
      rw [← Option.some.inj h] at hk
      obtain rfl : d = (D.int .i64 (-1 : Int)) := hk
      exact runs_ret (by kernel_rfl) trivial (Nat.le_refl 0) trivial trivial
  · replace h := ifs_false h hb
    refine runs_regions 1 [([], [0, 1, 13])] (z := ([], [(0, (D.int .i64 t0)), (1, (D.int .i64 t1)), (13, (D.bool r1))], [])) rfl (by kernel_rfl) trivial ?_
    refine runs_if (b := r1) (by kernel_rfl) (fun hb => ?_) (fun hb => ?_)
    · replace h := ifs_true h hb
      refine runs_regions 1 [([], [4])] (z := ([], [(4, (D.int .i64 (1 : Int)))], [])) rfl (by kernel_rfl) trivial ?_
      rw [← Option.some.inj h] at hk
      obtain rfl : d = (D.int .i64 (1 : Int)) := hk
      exact runs_ret (by kernel_rfl) trivial (Nat.le_refl 0) trivial trivial
    · replace h := ifs_false h hb
      refine runs_regions 1 [([], [0, 1, 16])] (z := ([], [(0, (D.int .i64 t0)), (1, (D.int .i64 t1)), (16, (D.bool (decide (t0 < t1))))], [])) rfl (by kernel_rfl) trivial ?_
      refine runs_if (b := (decide (t0 < t1))) (by kernel_rfl) (fun hb => ?_) (fun hb => ?_)
      · replace h := ifs_true h hb
        refine runs_regions 1 [([], [4])] (z := ([], [(4, (D.int .i64 (-1 : Int)))], [])) rfl (by kernel_rfl) trivial ?_
        rw [← Option.some.inj h] at hk
        obtain rfl : d = (D.int .i64 (-1 : Int)) := hk
        exact runs_ret (by kernel_rfl) trivial (Nat.le_refl 0) trivial trivial
      · replace h := ifs_false h hb
        refine runs_regions 1 [([], [19])] (z := ([], [(19, (D.bool (decide (t0 > t1))))], [])) rfl (by kernel_rfl) trivial ?_
        refine runs_if (b := (decide (t0 > t1))) (by kernel_rfl) (fun hb => ?_) (fun hb => ?_)
        · replace h := ifs_true h hb
          refine runs_regions 1 [([], [4])] (z := ([], [(4, (D.int .i64 (1 : Int)))], [])) rfl (by kernel_rfl) trivial ?_
          rw [← Option.some.inj h] at hk
          obtain rfl : d = (D.int .i64 (1 : Int)) := hk
          exact runs_ret (by kernel_rfl) trivial (Nat.le_refl 0) trivial trivial
        · replace h := ifs_false h hb
          refine runs_regions 1 [([], [4])] (z := ([], [(4, (D.int .i64 (0 : Int)))], [])) rfl (by kernel_rfl) trivial ?_
          rw [← Option.some.inj h] at hk
          obtain rfl : d = (D.int .i64 (0 : Int)) := hk
          exact runs_ret (by kernel_rfl) trivial (Nat.le_refl 0) trivial trivial

theorem fc_cmp_Compare_int (t0 : Int) (t1 : Int) {r : Int} (h : F_cmp_Compare_int t0 t1 = some r) : FC Try.prog 62 [(D.int .i64 t0), (D.int .i64 t1)] [] (D.int .i64 r) [] := by
  refine fc_of_runs (fn := Try.f62) (c := Try.f62.body.getD .skip) (by kernel_rfl) (by kernel_rfl) ?_
  refine runs_to (ts := [0, 1]) (T' := T_cmp_Compare_int) (env' := [(0, (D.int .i64 t0)), (1, (D.int .i64 t1))]) (h2 := []) (by kernel_rfl) (by kernel_rfl) trivial (Nat.le_refl _) trivial (And.intro trivial (And.intro trivial trivial)) ?_
  exact run_cmp_Compare_int t0 t1 h rfl

def K_cmp_isNaN_uint64 (d : D) (r : Bool) : Prop := d = (D.bool r)

noncomputable def T_cmp_isNaN_uint64 : List Item := norm 200 [.code (Try.f104.body.getD .skip)]

/-- cmp.isNaN[uint64] -/
def F_cmp_isNaN_uint64 (t0 : Int) : Option Bool :=
  some (t0 != t0)

theorem run_cmp_isNaN_uint64 (t0 : Int) {d : D} {r : Bool} (h : F_cmp_isNaN_uint64 t0 = some r) (hk : (K_cmp_isNaN_uint64 d) r) : Runs Try.prog Try.f104 0 T_cmp_isNaN_uint64 [(0, (D.int .u64 t0))] [] d [] := by
  unfold F_cmp_isNaN_uint64 at h
  refine runs_regions 2 [([], [0]), ([], [2])] (z := ([], [(2, (D.bool (t0 != t0)))], [])) rfl (by kernel_rfl) trivial ?_
  rw [← Option.some.inj h] at hk
  obtain rfl : d = (D.bool (t0 != t0)) := hk
  exact runs_ret (by kernel_rfl) trivial (Nat.le_refl 0) trivial trivial

theorem fc_cmp_isNaN_uint64 (t0 : Int) {r : Bool} (h : F_cmp_isNaN_uint64 t0 = some r) : FC Try.prog 104 [(D.int .u64 t0)] [] (D.bool r) [] := by
  refine fc_of_runs (fn := Try.f104) (c := Try.f104.body.getD .skip) (by kernel_rfl) (by kernel_rfl) ?_
  refine runs_to (ts := [0]) (T' := T_cmp_isNaN_uint64) (env' := [(0, (D.int .u64 t0))]) (h2 := []) (by kernel_rfl) (by kernel_rfl) trivial (Nat.le_refl _) trivial (And.intro trivial trivial) ?_
  exact run_cmp_isNaN_uint64 t0 h rfl

def K_cmp_Compare_uint64 (d : D) (r : Int) : Prop := d = (D.int .i64 r)

noncomputable def T_cmp_Compare_uint64 : List Item := norm 200 [.code (Try.f97.body.getD .skip)]

/-- cmp.Compare[uint64] -/
def F_cmp_Compare_uint64 (t0 : Int) (t1 : Int) : Option Int :=
  (F_cmp_isNaN_uint64 t0).bind fun r0 =>
  (F_cmp_isNaN_uint64 t1).bind fun r1 =>
  ifs r0 (
    ifs r1 (
      some (0 : Int)) (
      some (-1 : Int))) (
    ifs r1 (
      some (1 : Int)) (
      ifs (decide (t0 < t1)) (
        some (-1 : Int)) (
        ifs (decide (t0 > t1)) (
          some (1 : Int)) (
          some (0 : Int)))))

theorem run_cmp_Compare_uint64 (t0 : Int) (t1 : Int) {d : D} {r : Int} (h : F_cmp_Compare_uint64 t0 t1 = some r) (hk : (K_cmp_Compare_uint64 d) r) : Runs Try.prog Try.f97 0 T_cmp_Compare_uint64 [(0, (D.int .u64 t0)), (1, (D.int .u64 t1))] [] d [] := by
  unfold F_cmp_Compare_uint64 at h
  obtain ⟨r0, cr0, h⟩ := Option.bind_eq_some_iff.1 h
  obtain ⟨r1, cr1, h⟩ := Option.bind_eq_some_iff.1 h
  refine runs_regions 4 [([], [0, 1]), ([(.d (D.bool r0))], [0, 1, 5]), ([(.d (D.bool r1))], [0, 1, 5, 6]), ([], [0, 1, 6, 11])] (z := ([FC Try.prog 104 [(D.int .u64 t0)] [] (D.bool r0) [], All (List.map NoRow [(D.int .u64 t0)]), FC Try.prog 104 [(D.int .u64 t1)] [] (D.bool r1) [], All (List.map NoRow [(D.int .u64 t1)])], [(0, (D.int .u64 t0)), (1, (D.int .u64 t1)), (6, (D.bool r1)), (11, (D.bool r0))], [])) rfl (by kernel_rfl) (And.intro (fc_cmp_isNaN_uint64 t0 cr0) (And.intro (And.intro trivial trivial) (And.intro (fc_cmp_isNaN_uint64 t1 cr1) (And.intro (And.intro trivial trivial) trivial)))) ?_
  refine runs_if (b := r0) (by kernel_rfl) (fun hb => ?_) (fun hb => ?_)
  · replace h := ifs_true h hb
    refine runs_regions 1 [([], [12])] (z := ([], [(12, (D.bool r1))], [])) rfl (by kernel_rfl) trivial ?_
    refine runs_if (b := r1) (by kernel_rfl) (fun hb => ?_) (fun hb => ?_)
    · replace h := ifs_true h hb
      refine runs_regions 1 [([], [4])] (z := ([], [(4, (D.int .i64 (0 : Int)))], [])) rfl (by kernel_rfl) trivial ?_
      rw [← Option.some.inj h] at hk
      obtain rfl : d = (D.int .i64 (0 : Int)) := hk
      exact runs_ret (by kernel_rfl) trivial (Nat.le_refl 0) trivial trivial
    · replace h := ifs_false h hb
      refine runs_regions 1 [([], [4])] (z := ([], [(4, (D.int .i64 (-1 : Int)))], [])) rfl (by kernel_rfl) trivial ?_
      rw [← Option.some.inj h] at hk
      obtain rfl : d = (D.int .i64 (-1 : Int)) := hk
      exact runs_ret (by kernel_rfl) trivial (Nat.le_refl 0) trivial trivial
  · replace h := ifs_false h hb
    refine runs_regions 1 [([], [0, 1, 13])] (z := ([], [(0, (D.int .u64 t0)), (1, (D.int .u64 t1)), (13, (D.bool r1))], [])) rfl (by kernel_rfl) trivial ?_
    refine runs_if (b := r1) (by kernel_rfl) (fun hb => ?_) (fun hb => ?_)
    · replace h := ifs_true h hb
      refine runs_regions 1 [([], [4])] (z := ([], [(4, (D.int .i64 (1 : Int)))], [])) rfl (by kernel_rfl) trivial ?_
      rw [← Option.some.inj h] at hk
      obtain rfl : d = (D.int .i64 (1 : Int)) := hk
      exact runs_ret (by kernel_rfl) trivial (Nat.le_refl 0) trivial trivial
    · replace h := ifs_false h hb
      refine runs_regions 1 [([], [0, 1, 16])] (z := ([], [(0, (D.int .u64 t0)), (1, (D.int .u64 t1)), (16, (D.bool (decide (t0 < t1))))], [])) rfl (by kernel_rfl) trivial ?_
      refine runs_if (b := (decide (t0 < t1))) (by kernel_rfl) (fun hb => ?_) (fun hb => ?_)
      · replace h := ifs_true h hb
        refine runs_regions 1 [([], [4])] (z := ([], [(4, (D.int .i64 (-1 : Int)))], [])) rfl (by kernel_rfl) trivial ?_
        rw [← Option.some.inj h] at hk
        obtain rfl : d = (D.int .i64 (-1 : Int)) := hk
        exact runs_ret (by kernel_rfl) trivial (Nat.le_refl 0) trivial trivial
      · replace h := ifs_false h hb
        refine runs_regions 1 [([], [19])] (z := ([], [(19, (D.bool (decide (t0 > t1))))], [])) rfl (by kernel_rfl) trivial ?_
        refine runs_if (b := (decide (t0 > t1))) (by kernel_rfl) (fun hb => ?_) (fun hb => ?_)
        · replace h := ifs_true h hb
          refine runs_regions 1 [([], [4])] (z := ([], [(4, (D.int .i64 (1 : Int)))], [])) rfl (by kernel_rfl) trivial ?_
          rw [← Option.some.inj h] at hk
          obtain rfl : d = (D.int .i64 (1 : Int)) := hk
          exact runs_ret (by kernel_rfl) trivial (Nat.le_refl 0) trivial trivial
        · replace h := ifs_false h hb
          refine runs_regions 1 [([], [4])] (z := ([], [(4, (D.int .i64 (0 : Int)))], [])) rfl (by kernel_rfl) trivial ?_
          rw [← Option.some.inj h] at hk
          obtain rfl : d = (D.int .i64 (0 : Int)) := hk
          exact runs_ret (by kernel_rfl) trivial (Nat.le_refl 0) trivial trivial

theorem fc_cmp_Compare_uint64 (t0 : Int) (t1 : Int) {r : Int} (h : F_cmp_Compare_uint64 t0 t1 = some r) : FC Try.prog 97 [(D.int .u64 t0), (D.int .u64 t1)] [] (D.int .i64 r) [] := by
  refine fc_of_runs (fn := Try.f97) (c := Try.f97.body.getD .skip) (by kernel_rfl) (by kernel_rfl) ?_
  refine runs_to (ts := [0, 1]) (T' := T_cmp_Compare_uint64) (env' := [(0, (D.int .u64 t0)), (1, (D.int .u64 t1))]) (h2 := []) (by kernel_rfl) (by kernel_rfl) trivial (Nat.le_refl _) trivial (And.intro trivial (And.intro trivial trivial)) ?_
  exact run_cmp_Compare_uint64 t0 t1 h rfl

def K_slices_CompareFunc_uint64_cmp_Compare_uint64 (d : D) (r : Int) : Prop := d = (D.int .i64 r)

noncomputable def T_slices_CompareFunc_uint64_cmp_Compare_uint64 : List Item := norm 200 [.code (Try.f96.body.getD .skip)]

noncomputable def T_slices_CompareFunc_uint64_cmp_Compare_uint64_L1 : List Item := norm 200 (nxt (nxt T_slices_CompareFunc_uint64_cmp_Compare_uint64))

noncomputable def X_slices_CompareFunc_uint64_cmp_Compare_uint64_L1T : List Item := norm 200 (cndF (nxt (nxt (nxt T_slices_CompareFunc_uint64_cmp_Compare_uint64))))

abbrev E_slices_CompareFunc_uint64_cmp_Compare_uint64_L1 := Unit

def N_slices_CompareFunc_uint64_cmp_Compare_uint64_L1 (_fu : Nat) (t0 : (Nat × (Nat → Int))) (t1 : (Nat × (Nat → Int))) (t11 : (Nat × (Nat → Int))) (t12 : Int) (d : D) (s : Int) : Prop := Runs Try.prog Try.f96 0 T_slices_CompareFunc_uint64_cmp_Compare_uint64_L1 [(0, (D.lit t0.1 1 fun i => (D.int .u64 (t0.2 i)))), (1, (D.lit t1.1 1 fun i => (D.int .u64 (t1.2 i)))), (2, (D.fn 97 D.nil)), (11, (D.lit t11.1 1 fun i => (D.int .u64 (t11.2 i)))), (12, (D.int .i64 t12)), (13, (D.int .i64 s))] [] d []

def X_slices_CompareFunc_uint64_cmp_Compare_uint64_L1 (_fu : Nat) (t0 : (Nat × (Nat → Int))) (t1 : (Nat × (Nat → Int))) (_t11 : (Nat × (Nat → Int))) (_t12 : Int) (d : D) : E_slices_CompareFunc_uint64_cmp_Compare_uint64_L1 ⊕ Int → Prop
  | .inl _ => Runs Try.prog Try.f96 0 X_slices_CompareFunc_uint64_cmp_Compare_uint64_L1T [(0, (D.lit t0.1 1 fun i => (D.int .u64 (t0.2 i)))), (1, (D.lit t1.1 1 fun i => (D.int .u64 (t1.2 i))))] [] d []
  | .inr o => (K_slices_CompareFunc_uint64_cmp_Compare_uint64 d) o

def F_slices_CompareFunc_uint64_cmp_Compare_uint64_L1 (_fu : Nat) (_t0 : (Nat × (Nat → Int))) (t1 : (Nat × (Nat → Int))) (t11 : (Nat × (Nat → Int))) (t12 : Int) (t13 : Int) : Option (Lo Int E_slices_CompareFunc_uint64_cmp_Compare_uint64_L1 Int) :=
  ifs (decide (t13 < t12)) (
    chk (0 ≤ t13 ∧ t13 < ((t11.1 : Nat) : Int)) <|
    ifs (decide (t13 ≥ ((t1.1 : Nat) : Int))) (
      some (.ret (1 : Int))) (
      chk (0 ≤ t13 ∧ t13 < ((t1.1 : Nat) : Int)) <|
      (F_cmp_Compare_uint64 (t11.2 t13.toNat) (t1.2 t13.toNat)).bind fun r0 =>
      ifs (r0 != (0 : Int)) (
        some (.ret r0)) (
        some (.next (IntKind.wrap .i64 (t13 + (1 : Int))))))) (
    some (.exit ()))

theorem run_slices_CompareFunc_uint64_cmp_Compare_uint64_L1 (fu : Nat) (t0 : (Nat × (Nat → Int))) (t1 : (Nat × (Nat → Int))) (t11 : (Nat × (Nat → Int))) (t12 : Int) (t13 : Int) {d : D} {o : (Lo Int E_slices_CompareFunc_uint64_cmp_Compare_uint64_L1 Int)} (h : F_slices_CompareFunc_uint64_cmp_Compare_uint64_L1 fu t0 t1 t11 t12 t13 = some o) (hk : (Lo.post (N_slices_CompareFunc_uint64_cmp_Compare_uint64_L1 fu t0 t1 t11 t12 d) (X_slices_CompareFunc_uint64_cmp_Compare_uint64_L1 fu t0 t1 t11 t12 d)) o) : Runs Try.prog Try.f96 0 T_slices_CompareFunc_uint64_cmp_Compare_uint64_L1 [(0, (D.lit t0.1 1 fun i => (D.int .u64 (t0.2 i)))), (1, (D.lit t1.1 1 fun i => (D.int .u64 (t1.2 i)))), (2, (D.fn 97 D.nil)), (11, (D.lit t11.1 1 fun i => (D.int .u64 (t11.2 i)))), (12, (D.int .i64 t12)), (13, (D.int .i64 t13))] [] d [] := by
  unfold F_slices_CompareFunc_uint64_cmp_Compare_uint64_L1 at h
  refine runs_regions 1 [([], [0, 1, 2, 11, 12, 13, 14])] (z := ([], [(0, (D.lit t0.1 1 fun i => (D.int .u64 (t0.2 i)))), (1, (D.lit t1.1 1 fun i => (D.int .u64 (t1.2 i)))), (2, (D.fn 97 D.nil)), (11, (D.lit t11.1 1 fun i => (D.int .u64 (t11.2 i)))), (12, (D.int .i64 t12)), (13, (D.int .i64 t13)), (14, (D.bool (decide (t13 < t12))))], [])) rfl (by kernel_rfl) trivial ?_
  refine runs_if (b := (decide (t13 < t12))) (by kernel_rfl) (fun hb => ?_) (fun hb => ?_)
  · replace h := ifs_true h hb
    obtain ⟨p0, h⟩ := chk_some h
    refine runs_regions 2 [([], [0, 1, 2, 7, 8, 11, 12, 13]), ([], [0, 1, 2, 7, 8, 11, 12, 13, 21])] (z := ([(0 ≤ t13 ∧ t13 < ((t11.1 : Nat) : Int))], [(0, (D.lit t0.1 1 fun i => (D.int .u64 (t0.2 i)))), (1, (D.lit t1.1 1 fun i => (D.int .u64 (t1.2 i)))), (2, (D.fn 97 D.nil)), (7, (D.int .i64 t13)), (8, (D.int .u64 (t11.2 t13.toNat))), (11, (D.lit t11.1 1 fun i => (D.int .u64 (t11.2 i)))), (12, (D.int .i64 t12)), (13, (D.int .i64 t13)), (21, (D.bool (decide (t13 ≥ ((t1.1 : Nat) : Int)))))], [])) rfl (by kernel_rfl) (And.intro p0 trivial) ?_
    refine runs_if (b := (decide (t13 ≥ ((t1.1 : Nat) : Int)))) (by kernel_rfl) (fun hb => ?_) (fun hb => ?_)
    · replace h := ifs_true h hb
      refine runs_regions 1 [([], [6])] (z := ([], [(6, (D.int .i64 (1 : Int)))], [])) rfl (by kernel_rfl) trivial ?_
      rw [← Option.some.inj h] at hk
      obtain rfl : d = (D.int .i64 (1 : Int)) := hk
      exact runs_ret (by kernel_rfl) trivial (Nat.le_refl 0) trivial trivial
    · replace h := ifs_false h hb
      obtain ⟨p1, h⟩ := chk_some h
      obtain ⟨r0, cr0, h⟩ := Option.bind_eq_some_iff.1 h
      refine runs_regions 3 [([], [0, 1, 2, 8, 9, 11, 12, 13]), ([(.d (D.int .i64 r0))], [0, 1, 2, 10, 11, 12, 13]), ([], [0, 1, 2, 10, 11, 12, 13, 31])] (z := ([(0 ≤ t13 ∧ t13 < ((t1.1 : Nat) : Int)), FC Try.prog 97 [(D.int .u64 (t11.2 t13.toNat)), (D.int .u64 (t1.2 t13.toNat))] [] (D.int .i64 r0) [], All (List.map NoRow [(D.int .u64 (t11.2 t13.toNat)), (D.int .u64 (t1.2 t13.toNat))])], [(0, (D.lit t0.1 1 fun i => (D.int .u64 (t0.2 i)))), (1, (D.lit t1.1 1 fun i => (D.int .u64 (t1.2 i)))), (2, (D.fn 97 D.nil)), (10, (D.int .i64 r0)), (11, (D.lit t11.1 1 fun i => (D.int .u64 (t11.2 i)))), (12, (D.int .i64 t12)), (13, (D.int .i64 t13)), (31, (D.bool (r0 != (0 : Int))))], [])) rfl (by kernel_rfl) (And.intro p1 (And.intro (fc_cmp_Compare_uint64 (t11.2 t13.toNat) (t1.2 t13.toNat) cr0) (And.intro (And.intro trivial (And.intro trivial trivial)) trivial))) ?_
      refine runs_if (b := (r0 != (0 : Int))) (by kernel_rfl) (fun hb => ?_) (fun hb => ?_)
      · replace h := ifs_true h hb
        refine runs_regions 1 [([], [6])] (z := ([], [(6, (D.int .i64 r0))], [])) rfl (by kernel_rfl) trivial ?_
        rw [← Option.some.inj h] at hk
        obtain rfl : d = (D.int .i64 r0) := hk
        exact runs_ret (by kernel_rfl) trivial (Nat.le_refl 0) trivial trivial
      · replace h := ifs_false h hb
        refine runs_regions 1 [([], [0, 1, 2, 11, 12, 13])] (z := ([], [(0, (D.lit t0.1 1 fun i => (D.int .u64 (t0.2 i)))), (1, (D.lit t1.1 1 fun i => (D.int .u64 (t1.2 i)))), (2, (D.fn 97 D.nil)), (11, (D.lit t11.1 1 fun i => (D.int .u64 (t11.2 i)))), (12, (D.int .i64 t12)), (13, (D.int .i64 (IntKind.wrap .i64 (t13 + (1 : Int)))))], [])) rfl (by kernel_rfl) trivial ?_
        rw [← Option.some.inj h] at hk
        refine runs_to (ts := [0, 1, 2, 11, 12, 13]) (T' := T_slices_CompareFunc_uint64_cmp_Compare_uint64_L1) (env' := [(0, (D.lit t0.1 1 fun i => (D.int .u64 (t0.2 i)))), (1, (D.lit t1.1 1 fun i => (D.int .u64 (t1.2 i)))), (2, (D.fn 97 D.nil)), (11, (D.lit t11.1 1 fun i => (D.int .u64 (t11.2 i)))), (12, (D.int .i64 t12)), (13, (D.int .i64 (IntKind.wrap .i64 (t13 + (1 : Int)))))]) (h2 := []) (by kernel_rfl) (by kernel_rfl) trivial (Nat.zero_le _) trivial (And.intro (fun _ _ => trivial) (And.intro (fun _ _ => trivial) (And.intro trivial (And.intro (fun _ _ => trivial) (And.intro trivial (And.intro trivial trivial)))))) ?_
        exact hk
  · replace h := ifs_false h hb
    rw [← Option.some.inj h] at hk
    refine runs_to (ts := [0, 1]) (T' := X_slices_CompareFunc_uint64_cmp_Compare_uint64_L1T) (env' := [(0, (D.lit t0.1 1 fun i => (D.int .u64 (t0.2 i)))), (1, (D.lit t1.1 1 fun i => (D.int .u64 (t1.2 i))))]) (h2 := []) (by kernel_rfl) (by kernel_rfl) trivial (Nat.zero_le _) trivial (And.intro (fun _ _ => trivial) (And.intro (fun _ _ => trivial) trivial)) ?_
    exact hk

theorem iter_slices_CompareFunc_uint64_cmp_Compare_uint64_L1 (fu : Nat) (t0 : (Nat × (Nat → Int))) (t1 : (Nat × (Nat → Int))) (t11 : (Nat × (Nat → Int))) (t12 : Int) {d : D} (k : Nat) (s : Int) {o : E_slices_CompareFunc_uint64_cmp_Compare_uint64_L1 ⊕ Int} (h : iter (fun s => F_slices_CompareFunc_uint64_cmp_Compare_uint64_L1 fu t0 t1 t11 t12 s) k s = some o) (hx : X_slices_CompareFunc_uint64_cmp_Compare_uint64_L1 fu t0 t1 t11 t12 d o) : N_slices_CompareFunc_uint64_cmp_Compare_uint64_L1 fu t0 t1 t11 t12 d s :=
  iter_post (K := N_slices_CompareFunc_uint64_cmp_Compare_uint64_L1 fu t0 t1 t11 t12 d) (X := X_slices_CompareFunc_uint64_cmp_Compare_uint64_L1 fu t0 t1 t11 t12 d) (fun s _ h hk => run_slices_CompareFunc_uint64_cmp_Compare_uint64_L1 fu t0 t1 t11 t12 s h hk) k s o h hx

/-- slices.CompareFunc[[]uint64,[]uint64,uint64,uint64] -/
def F_slices_CompareFunc_uint64_cmp_Compare_uint64 (fu : Nat) (t0 : (Nat × (Nat → Int))) (t1 : (Nat × (Nat → Int))) : Option Int :=
  after (iter (fun s => F_slices_CompareFunc_uint64_cmp_Compare_uint64_L1 fu t0 t1 t0 ((t0.1 : Nat) : Int) s) fu (0 : Int)) fun _ =>
  ifs (decide (((t0.1 : Nat) : Int) < ((t1.1 : Nat) : Int))) (
    some (-1 : Int)) (
    some (0 : Int))

theorem run_slices_CompareFunc_uint64_cmp_Compare_uint64 (fu : Nat) (t0 : (Nat × (Nat → Int))) (t1 : (Nat × (Nat → Int))) {d : D} {r : Int} (h : F_slices_CompareFunc_uint64_cmp_Compare_uint64 fu t0 t1 = some r) (hk : (K_slices_CompareFunc_uint64_cmp_Compare_uint64 d) r) : Runs Try.prog Try.f96 0 T_slices_CompareFunc_uint64_cmp_Compare_uint64 [(0, (D.lit t0.1 1 fun i => (D.int .u64 (t0.2 i)))), (1, (D.lit t1.1 1 fun i => (D.int .u64 (t1.2 i)))), (2, (D.fn 97 D.nil))] [] d [] := by
  unfold F_slices_CompareFunc_uint64_cmp_Compare_uint64 at h
  refine runs_regions 2 [([], [0, 1, 2]), ([], [0, 1, 2, 11, 12, 13])] (z := ([], [(0, (D.lit t0.1 1 fun i => (D.int .u64 (t0.2 i)))), (1, (D.lit t1.1 1 fun i => (D.int .u64 (t1.2 i)))), (2, (D.fn 97 D.nil)), (11, (D.lit t0.1 1 fun i => (D.int .u64 (t0.2 i)))), (12, (D.int .i64 ((t0.1 : Nat) : Int))), (13, (D.int .i64 (0 : Int)))], [])) rfl (by kernel_rfl) trivial ?_
  refine runs_to (ts := [0, 1, 2, 11, 12, 13]) (T' := T_slices_CompareFunc_uint64_cmp_Compare_uint64_L1) (env' := [(0, (D.lit t0.1 1 fun i => (D.int .u64 (t0.2 i)))), (1, (D.lit t1.1 1 fun i => (D.int .u64 (t1.2 i)))), (2, (D.fn 97 D.nil)), (11, (D.lit t0.1 1 fun i => (D.int .u64 (t0.2 i)))), (12, (D.int .i64 ((t0.1 : Nat) : Int))), (13, (D.int .i64 (0 : Int)))]) (h2 := []) (by kernel_rfl) (by kernel_rfl) trivial (Nat.zero_le _) trivial (And.intro (fun _ _ => trivial) (And.intro (fun _ _ => trivial) (And.intro trivial (And.intro (fun _ _ => trivial) (And.intro trivial (And.intro trivial trivial)))))) ?_
  rcases after_some h with ⟨e3, hi, h⟩ | hi
  · refine iter_slices_CompareFunc_uint64_cmp_Compare_uint64_L1 fu t0 t1 t0 ((t0.1 : Nat) : Int) fu (0 : Int) hi ?_
    show Runs Try.prog Try.f96 0 X_slices_CompareFunc_uint64_cmp_Compare_uint64_L1T [(0, (D.lit t0.1 1 fun i => (D.int .u64 (t0.2 i)))), (1, (D.lit t1.1 1 fun i => (D.int .u64 (t1.2 i))))] [] d []
    refine runs_regions 1 [([], [38])] (z := ([], [(38, (D.bool (decide (((t0.1 : Nat) : Int) < ((t1.1 : Nat) : Int)))))], [])) rfl (by kernel_rfl) trivial ?_
    refine runs_if (b := (decide (((t0.1 : Nat) : Int) < ((t1.1 : Nat) : Int)))) (by kernel_rfl) (fun hb => ?_) (fun hb => ?_)
    · replace h := ifs_true h hb
      refine runs_regions 1 [([], [6])] (z := ([], [(6, (D.int .i64 (-1 : Int)))], [])) rfl (by kernel_rfl) trivial ?_
      rw [← Option.some.inj h] at hk
      obtain rfl : d = (D.int .i64 (-1 : Int)) := hk
      exact runs_ret (by kernel_rfl) trivial (Nat.le_refl 0) trivial trivial
    · replace h := ifs_false h hb
      refine runs_regions 1 [([], [6])] (z := ([], [(6, (D.int .i64 (0 : Int)))], [])) rfl (by kernel_rfl) trivial ?_
      rw [← Option.some.inj h] at hk
      obtain rfl : d = (D.int .i64 (0 : Int)) := hk
      exact runs_ret (by kernel_rfl) trivial (Nat.le_refl 0) trivial trivial
  · exact iter_slices_CompareFunc_uint64_cmp_Compare_uint64_L1 fu t0 t1 t0 ((t0.1 : Nat) : Int) fu (0 : Int) hi hk

theorem fc_slices_CompareFunc_uint64_cmp_Compare_uint64 (fu : Nat) (t0 : (Nat × (Nat → Int))) (t1 : (Nat × (Nat → Int))) {r : Int} (h : F_slices_CompareFunc_uint64_cmp_Compare_uint64 fu t0 t1 = some r) : FC Try.prog 96 [(D.lit t0.1 1 fun i => (D.int .u64 (t0.2 i))), (D.lit t1.1 1 fun i => (D.int .u64 (t1.2 i))), (D.fn 97 D.nil)] [] (D.int .i64 r) [] := by
  refine fc_of_runs (fn := Try.f96) (c := Try.f96.body.getD .skip) (by kernel_rfl) (by kernel_rfl) ?_
  refine runs_to (ts := [0, 1, 2]) (T' := T_slices_CompareFunc_uint64_cmp_Compare_uint64) (env' := [(0, (D.lit t0.1 1 fun i => (D.int .u64 (t0.2 i)))), (1, (D.lit t1.1 1 fun i => (D.int .u64 (t1.2 i)))), (2, (D.fn 97 D.nil))]) (h2 := []) (by kernel_rfl) (by kernel_rfl) trivial (Nat.le_refl _) trivial (And.intro (fun _ _ => trivial) (And.intro (fun _ _ => trivial) (And.intro trivial trivial))) ?_
  exact run_slices_CompareFunc_uint64_cmp_Compare_uint64 fu t0 t1 h rfl

def K_head_Compare (d : D) (r : Int) : Prop := d = (D.int .i64 r)

noncomputable def T_head_Compare : List Item := norm 200 [.code (Try.f80.body.getD .skip)]

/-- podesta/head.Compare -/
def F_head_Compare (fu : Nat) (t0 : (Nat → Int)) (t1 : (Nat → Int)) : Option Int :=
  (F_slices_CompareFunc_uint64_cmp_Compare_uint64 fu (12, t0) (12, t1)).bind fun r0 =>
  some r0

theorem run_head_Compare (fu : Nat) (t0 : (Nat → Int)) (t1 : (Nat → Int)) {d : D} {r : Int} (h : F_head_Compare fu t0 t1 = some r) (hk : (K_head_Compare d) r) : Runs Try.prog Try.f80 0 T_head_Compare [(0, (D.ints .u64 12 t0)), (1, (D.ints .u64 12 t1))] [] d [] := by
  unfold F_head_Compare at h
  refine runs_regions 1 [([], [2, 3])] (z := ([], [(2, (D.ptr 0 [])), (3, (D.ptr 1 []))], [some (.box (D.ints .u64 12 t0)), some (.box (D.ints .u64 12 t1))])) rfl (by kernel_rfl) trivial ?_
  refine runs_freeze 0 (row := (.box (D.ints .u64 12 t0))) rfl ?_
  refine runs_freeze 1 (row := (.box (D.ints .u64 12 t1))) rfl ?_
  obtain ⟨r0, cr0, h⟩ := Option.bind_eq_some_iff.1 h
  refine runs_regions 1 [([(.d (D.int .i64 r0))], [4])] (z := ([FC Try.prog 96 [(D.lit 12 1 fun i => (D.int .u64 (t0 i))), (D.lit 12 1 fun i => (D.int .u64 (t1 i))), (D.fn 97 D.nil)] [] (D.int .i64 r0) [], All (List.map NoRow [(D.lit 12 1 fun i => (D.int .u64 (t0 i))), (D.lit 12 1 fun i => (D.int .u64 (t1 i))), (D.fn 97 D.nil)])], [(4, (D.int .i64 r0))], [none, none])) rfl (by kernel_rfl) (And.intro (fc_slices_CompareFunc_uint64_cmp_Compare_uint64 fu (12, t0) (12, t1) cr0) (And.intro (And.intro (fun _ _ => trivial) (And.intro (fun _ _ => trivial) (And.intro trivial trivial))) trivial)) ?_
  rw [← Option.some.inj h] at hk
  obtain rfl : d = (D.int .i64 r0) := hk
  exact runs_ret (by kernel_rfl) trivial (Nat.le_refl 0) trivial trivial

theorem fc_head_Compare (fu : Nat) (t0 : (Nat → Int)) (t1 : (Nat → Int)) {r : Int} (h : F_head_Compare fu t0 t1 = some r) : FC Try.prog 80 [(D.ints .u64 12 t0), (D.ints .u64 12 t1)] [] (D.int .i64 r) [] := by
  refine fc_of_runs (fn := Try.f80) (c := Try.f80.body.getD .skip) (by kernel_rfl) (by kernel_rfl) ?_
  refine runs_to (ts := [0, 1]) (T' := T_head_Compare) (env' := [(0, (D.ints .u64 12 t0)), (1, (D.ints .u64 12 t1))]) (h2 := []) (by kernel_rfl) (by kernel_rfl) trivial (Nat.le_refl _) trivial (And.intro trivial (And.intro trivial trivial)) ?_
  exact run_head_Compare fu t0 t1 h rfl

def K_cmp_Or_int (d : D) (r : Int) : Prop := d = (D.int .i64 r)

noncomputable def T_cmp_Or_int : List Item := norm 200 [.code (Try.f61.body.getD .skip)]

noncomputable def T_cmp_Or_int_L1 : List Item := norm 200 (nxt (nxt (nxt T_cmp_Or_int)))

noncomputable def X_cmp_Or_int_L1T : List Item := norm 200 (cndF (nxt (nxt (nxt (nxt T_cmp_Or_int)))))

abbrev E_cmp_Or_int_L1 := Unit

def N_cmp_Or_int_L1 (_fu : Nat) (t3 : Int) (t6 : (Nat × (Nat → Int))) (t7 : Int) (d : D) (s : Int) : Prop := Runs Try.prog Try.f61 0 T_cmp_Or_int_L1 [(3, (D.int .i64 t3)), (6, (D.lit t6.1 1 fun i => (D.int .i64 (t6.2 i)))), (7, (D.int .i64 t7)), (8, (D.int .i64 s))] [] d []

def X_cmp_Or_int_L1 (_fu : Nat) (t3 : Int) (_t6 : (Nat × (Nat → Int))) (_t7 : Int) (d : D) : E_cmp_Or_int_L1 ⊕ Int → Prop
  | .inl _ => Runs Try.prog Try.f61 0 X_cmp_Or_int_L1T [(3, (D.int .i64 t3))] [] d []
  | .inr o => (K_cmp_Or_int d) o

def F_cmp_Or_int_L1 (_fu : Nat) (t3 : Int) (t6 : (Nat × (Nat → Int))) (t7 : Int) (t8 : Int) : Option (Lo Int E_cmp_Or_int_L1 Int) :=
  ifs (decide (t8 < t7)) (
    chk (0 ≤ t8 ∧ t8 < ((t6.1 : Nat) : Int)) <|
    ifs ((t6.2 t8.toNat) != t3) (
      some (.ret (t6.2 t8.toNat))) (
      some (.next (IntKind.wrap .i64 (t8 + (1 : Int)))))) (
    some (.exit ()))

theorem run_cmp_Or_int_L1 (fu : Nat) (t3 : Int) (t6 : (Nat × (Nat → Int))) (t7 : Int) (t8 : Int) {d : D} {o : (Lo Int E_cmp_Or_int_L1 Int)} (h : F_cmp_Or_int_L1 fu t3 t6 t7 t8 = some o) (hk : (Lo.post (N_cmp_Or_int_L1 fu t3 t6 t7 d) (X_cmp_Or_int_L1 fu t3 t6 t7 d)) o) : Runs Try.prog Try.f61 0 T_cmp_Or_int_L1 [(3, (D.int .i64 t3)), (6, (D.lit t6.1 1 fun i => (D.int .i64 (t6.2 i)))), (7, (D.int .i64 t7)), (8, (D.int .i64 t8))] [] d [] := by
  unfold F_cmp_Or_int_L1 at h
  refine runs_regions 1 [([], [3, 6, 7, 8, 9])] (z := ([], [(3, (D.int .i64 t3)), (6, (D.lit t6.1 1 fun i => (D.int .i64 (t6.2 i)))), (7, (D.int .i64 t7)), (8, (D.int .i64 t8)), (9, (D.bool (decide (t8 < t7))))], [])) rfl (by kernel_rfl) trivial ?_
  refine runs_if (b := (decide (t8 < t7))) (by kernel_rfl) (fun hb => ?_) (fun hb => ?_)
  · replace h := ifs_true h hb
    obtain ⟨p0, h⟩ := chk_some h
    refine runs_regions 2 [([], [3, 5, 6, 7, 8]), ([], [3, 5, 6, 7, 8, 14])] (z := ([(0 ≤ t8 ∧ t8 < ((t6.1 : Nat) : Int))], [(3, (D.int .i64 t3)), (5, (D.int .i64 (t6.2 t8.toNat))), (6, (D.lit t6.1 1 fun i => (D.int .i64 (t6.2 i)))), (7, (D.int .i64 t7)), (8, (D.int .i64 t8)), (14, (D.bool ((t6.2 t8.toNat) != t3)))], [])) rfl (by kernel_rfl) (And.intro p0 trivial) ?_
    refine runs_if (b := ((t6.2 t8.toNat) != t3)) (by kernel_rfl) (fun hb => ?_) (fun hb => ?_)
    · replace h := ifs_true h hb
      refine runs_regions 1 [([], [2])] (z := ([], [(2, (D.int .i64 (t6.2 t8.toNat)))], [])) rfl (by kernel_rfl) trivial ?_
      rw [← Option.some.inj h] at hk
      obtain rfl : d = (D.int .i64 (t6.2 t8.toNat)) := hk
      exact runs_ret (by kernel_rfl) trivial (Nat.le_refl 0) trivial trivial
    · replace h := ifs_false h hb
      refine runs_regions 1 [([], [3, 6, 7, 8])] (z := ([], [(3, (D.int .i64 t3)), (6, (D.lit t6.1 1 fun i => (D.int .i64 (t6.2 i)))), (7, (D.int .i64 t7)), (8, (D.int .i64 (IntKind.wrap .i64 (t8 + (1 : Int)))))], [])) rfl (by kernel_rfl) trivial ?_
      rw [← Option.some.inj h] at hk
      refine runs_to (ts := [3, 6, 7, 8]) (T' := T_cmp_Or_int_L1) (env' := [(3, (D.int .i64 t3)), (6, (D.lit t6.1 1 fun i => (D.int .i64 (t6.2 i)))), (7, (D.int .i64 t7)), (8, (D.int .i64 (IntKind.wrap .i64 (t8 + (1 : Int)))))]) (h2 := []) (by kernel_rfl) (by kernel_rfl) trivial (Nat.zero_le _) trivial (And.intro trivial (And.intro (fun _ _ => trivial) (And.intro trivial (And.intro trivial trivial)))) ?_
      exact hk
  · replace h := ifs_false h hb
    rw [← Option.some.inj h] at hk
    refine runs_to (ts := [3]) (T' := X_cmp_Or_int_L1T) (env' := [(3, (D.int .i64 t3))]) (h2 := []) (by kernel_rfl) (by kernel_rfl) trivial (Nat.zero_le _) trivial (And.intro trivial trivial) ?_
    exact hk

theorem iter_cmp_Or_int_L1 (fu : Nat) (t3 : Int) (t6 : (Nat × (Nat → Int))) (t7 : Int) {d : D} (k : Nat) (s : Int) {o : E_cmp_Or_int_L1 ⊕ Int} (h : iter (fun s => F_cmp_Or_int_L1 fu t3 t6 t7 s) k s = some o) (hx : X_cmp_Or_int_L1 fu t3 t6 t7 d o) : N_cmp_Or_int_L1 fu t3 t6 t7 d s :=
  iter_post (K := N_cmp_Or_int_L1 fu t3 t6 t7 d) (X := X_cmp_Or_int_L1 fu t3 t6 t7 d) (fun s _ h hk => run_cmp_Or_int_L1 fu t3 t6 t7 s h hk) k s o h hx

/-- cmp.Or[int] -/
def F_cmp_Or_int (fu : Nat) (t0 : (Nat × (Nat → Int))) : Option Int :=
  after (iter (fun s => F_cmp_Or_int_L1 fu (0 : Int) t0 ((t0.1 : Nat) : Int) s) fu (0 : Int)) fun _ =>
  some (0 : Int)

theorem run_cmp_Or_int (fu : Nat) (t0 : (Nat × (Nat → Int))) {d : D} {r : Int} (h : F_cmp_Or_int fu t0 = some r) (hk : (K_cmp_Or_int d) r) : Runs Try.prog Try.f61 0 T_cmp_Or_int [(0, (D.lit t0.1 1 fun i => (D.int .i64 (t0.2 i))))] [] d [] := by
  unfold F_cmp_Or_int at h
  refine runs_regions 3 [([], [0]), ([], [0, 3]), ([], [3, 6, 7, 8])] (z := ([], [(3, (D.int .i64 (0 : Int))), (6, (D.lit t0.1 1 fun i => (D.int .i64 (t0.2 i)))), (7, (D.int .i64 ((t0.1 : Nat) : Int))), (8, (D.int .i64 (0 : Int)))], [])) rfl (by kernel_rfl) trivial ?_
  refine runs_to (ts := [3, 6, 7, 8]) (T' := T_cmp_Or_int_L1) (env' := [(3, (D.int .i64 (0 : Int))), (6, (D.lit t0.1 1 fun i => (D.int .i64 (t0.2 i)))), (7, (D.int .i64 ((t0.1 : Nat) : Int))), (8, (D.int .i64 (0 : Int)))]) (h2 := []) (by kernel_rfl) (by kernel_rfl) trivial (Nat.zero_le _) trivial (And.intro trivial (And.intro (fun _ _ => trivial) (And.intro trivial (And.intro trivial trivial)))) ?_
  rcases after_some h with ⟨e2, hi, h⟩ | hi
  · refine iter_cmp_Or_int_L1 fu (0 : Int) t0 ((t0.1 : Nat) : Int) fu (0 : Int) hi ?_
    show Runs Try.prog Try.f61 0 X_cmp_Or_int_L1T [(3, (D.int .i64 (0 : Int)))] [] d []
    refine runs_regions 1 [([], [2])] (z := ([], [(2, (D.int .i64 (0 : Int)))], [])) rfl (by kernel_rfl) trivial ?_
    rw [← Option.some.inj h] at hk
    obtain rfl : d = (D.int .i64 (0 : Int)) := hk
    exact runs_ret (by kernel_rfl) trivial (Nat.le_refl 0) trivial trivial
  · exact iter_cmp_Or_int_L1 fu (0 : Int) t0 ((t0.1 : Nat) : Int) fu (0 : Int) hi hk

theorem fc_cmp_Or_int (fu : Nat) (t0 : (Nat × (Nat → Int))) {r : Int} (h : F_cmp_Or_int fu t0 = some r) : FC Try.prog 61 [(D.lit t0.1 1 fun i => (D.int .i64 (t0.2 i)))] [] (D.int .i64 r) [] := by
  refine fc_of_runs (fn := Try.f61) (c := Try.f61.body.getD .skip) (by kernel_rfl) (by kernel_rfl) ?_
  refine runs_to (ts := [0]) (T' := T_cmp_Or_int) (env' := [(0, (D.lit t0.1 1 fun i => (D.int .i64 (t0.2 i))))]) (h2 := []) (by kernel_rfl) (by kernel_rfl) trivial (Nat.le_refl _) trivial (And.intro (fun _ _ => trivial) trivial) ?_
  exact run_cmp_Or_int fu t0 h rfl

def K_cube_Compare (d : D) (r : Int) : Prop := d = (D.int .i64 r)

noncomputable def T_cube_Compare : List Item := norm 200 [.code (Try.f63.body.getD .skip)]

/-- podesta/cube.Compare -/
def F_cube_Compare (fu : Nat) (t0 : S_api_Cube) (t1 : S_api_Cube) : Option Int :=
  (F_head_Compare fu t0.f1 t1.f1).bind fun r0 =>
  (F_head_Compare fu t0.f0 t1.f0).bind fun r1 =>
  (F_cmp_Or_int fu (2, (fun i => ([r0, r1] : List Int).getD i (0 : Int)))).bind fun r2 =>
  some r2

theorem run_cube_Compare (fu : Nat) (t0 : S_api_Cube) (t1 : S_api_Cube) {d : D} {r : Int} (h : F_cube_Compare fu t0 t1 = some r) (hk : (K_cube_Compare d) r) : Runs Try.prog Try.f63 0 T_cube_Compare [(0, (S_api_Cube.d t0)), (1, (S_api_Cube.d t1))] [] d [] := by
  unfold F_cube_Compare at h
  obtain ⟨r0, cr0, h⟩ := Option.bind_eq_some_iff.1 h
  obtain ⟨r1, cr1, h⟩ := Option.bind_eq_some_iff.1 h
  obtain ⟨r2, cr2, h⟩ := Option.bind_eq_some_iff.1 h
  refine runs_regions 2 [([], [2, 3]), ([(.d (D.int .i64 r0)), (.d (D.int .i64 r1)), (.lit fun i => (D.int .i64 ((fun i => ([r0, r1] : List Int).getD i (0 : Int)) i))), (.d (D.int .i64 r2))], [4])] (z := ([FC Try.prog 80 [(D.ints .u64 12 t0.f1), (D.ints .u64 12 t1.f1)] [] (D.int .i64 r0) [], All (List.map NoRow [(D.ints .u64 12 t0.f1), (D.ints .u64 12 t1.f1)]), FC Try.prog 80 [(D.ints .u64 12 t0.f0), (D.ints .u64 12 t1.f0)] [] (D.int .i64 r1) [], All (List.map NoRow [(D.ints .u64 12 t0.f0), (D.ints .u64 12 t1.f0)]), TabOk [(D.int .i64 r0), (D.int .i64 r1)] 1 (D.arr 2 1 fun i => (D.int .i64 ((fun i => ([r0, r1] : List Int).getD i (0 : Int)) i))), FC Try.prog 61 [(D.lit 2 1 fun i => (D.int .i64 ((fun i => ([r0, r1] : List Int).getD i (0 : Int)) i)))] [] (D.int .i64 r2) [], All (List.map NoRow [(D.lit 2 1 fun i => (D.int .i64 ((fun i => ([r0, r1] : List Int).getD i (0 : Int)) i)))])], [(4, (D.int .i64 r2))], [some (.box (S_api_Cube.d t0)), some (.box (S_api_Cube.d t1))])) rfl (by kernel_rfl) (And.intro (fc_head_Compare fu t0.f1 t1.f1 cr0) (And.intro (And.intro trivial (And.intro trivial trivial)) (And.intro (fc_head_Compare fu t0.f0 t1.f0 cr1) (And.intro (And.intro trivial (And.intro trivial trivial)) (And.intro (tabOk_arr rfl (And.intro rfl (And.intro rfl trivial))) (And.intro (fc_cmp_Or_int fu (2, (fun i => ([r0, r1] : List Int).getD i (0 : Int))) cr2) (And.intro (And.intro (fun _ _ => trivial) trivial) trivial))))))) ?_
  rw [← Option.some.inj h] at hk
  obtain rfl : d = (D.int .i64 r2) := hk
  exact runs_ret (by kernel_rfl) trivial (Nat.le_refl 0) trivial trivial

theorem fc_cube_Compare (fu : Nat) (t0 : S_api_Cube) (t1 : S_api_Cube) {r : Int} (h : F_cube_Compare fu t0 t1 = some r) : FC Try.prog 63 [(S_api_Cube.d t0), (S_api_Cube.d t1)] [] (D.int .i64 r) [] := by
  refine fc_of_runs (fn := Try.f63) (c := Try.f63.body.getD .skip) (by kernel_rfl) (by kernel_rfl) ?_
  refine runs_to (ts := [0, 1]) (T' := T_cube_Compare) (env' := [(0, (S_api_Cube.d t0)), (1, (S_api_Cube.d t1))]) (h2 := []) (by kernel_rfl) (by kernel_rfl) trivial (Nat.le_refl _) trivial (And.intro (S_api_Cube.inn _) (And.intro (S_api_Cube.inn _) trivial)) ?_
  exact run_cube_Compare fu t0 t1 h rfl

def K_region_compare (d : D) (r : Int) : Prop := d = (D.int .i64 r)

noncomputable def T_region_compare : List Item := norm 200 [.code (Try.f32.body.getD .skip)]

/-- podesta/region.compare -/
def F_region_compare (fu : Nat) (t0 : S_api_Region) (t1 : S_api_Region) : Option Int :=
  (F_cmp_Compare_int t0.f0 t1.f0).bind fun r0 =>
  (F_cube_Compare fu t0.f1 t1.f1).bind fun r1 =>
  (F_cmp_Or_int fu (2, (fun i => ([r0, r1] : List Int).getD i (0 : Int)))).bind fun r2 =>
  some r2

theorem run_region_compare (fu : Nat) (t0 : S_api_Region) (t1 : S_api_Region) {d : D} {r : Int} (h : F_region_compare fu t0 t1 = some r) (hk : (K_region_compare d) r) : Runs Try.prog Try.f32 0 T_region_compare [(0, (S_api_Region.d t0)), (1, (S_api_Region.d t1))] [] d [] := by
  unfold F_region_compare at h
  obtain ⟨r0, cr0, h⟩ := Option.bind_eq_some_iff.1 h
  obtain ⟨r1, cr1, h⟩ := Option.bind_eq_some_iff.1 h
  obtain ⟨r2, cr2, h⟩ := Option.bind_eq_some_iff.1 h
  refine runs_regions 2 [([], [2, 3]), ([(.d (D.int .i64 r0)), (.d (D.int .i64 r1)), (.lit fun i => (D.int .i64 ((fun i => ([r0, r1] : List Int).getD i (0 : Int)) i))), (.d (D.int .i64 r2))], [4])] (z := ([FC Try.prog 62 [(D.int .i64 t0.f0), (D.int .i64 t1.f0)] [] (D.int .i64 r0) [], All (List.map NoRow [(D.int .i64 t0.f0), (D.int .i64 t1.f0)]), FC Try.prog 63 [(S_api_Cube.d t0.f1), (S_api_Cube.d t1.f1)] [] (D.int .i64 r1) [], All (List.map NoRow [(S_api_Cube.d t0.f1), (S_api_Cube.d t1.f1)]), TabOk [(D.int .i64 r0), (D.int .i64 r1)] 1 (D.arr 2 1 fun i => (D.int .i64 ((fun i => ([r0, r1] : List Int).getD i (0 : Int)) i))), FC Try.prog 61 [(D.lit 2 1 fun i => (D.int .i64 ((fun i => ([r0, r1] : List Int).getD i (0 : Int)) i)))] [] (D.int .i64 r2) [], All (List.map NoRow [(D.lit 2 1 fun i => (D.int .i64 ((fun i => ([r0, r1] : List Int).getD i (0 : Int)) i)))])], [(4, (D.int .i64 r2))], [some (.box (S_api_Region.d t0)), some (.box (S_api_Region.d t1))])) rfl (by kernel_rfl) (And.intro (fc_cmp_Compare_int t0.f0 t1.f0 cr0) (And.intro (And.intro trivial (And.intro trivial trivial)) (And.intro (fc_cube_Compare fu t0.f1 t1.f1 cr1) (And.intro (And.intro (S_api_Cube.inn _) (And.intro (S_api_Cube.inn _) trivial)) (And.intro (tabOk_arr rfl (And.intro rfl (And.intro rfl trivial))) (And.intro (fc_cmp_Or_int fu (2, (fun i => ([r0, r1] : List Int).getD i (0 : Int))) cr2) (And.intro (And.intro (fun _ _ => trivial) trivial) trivial))))))) ?_
  rw [← Option.some.inj h] at hk
  obtain rfl : d = (D.int .i64 r2) := hk
  exact runs_ret (by kernel_rfl) trivial (Nat.le_refl 0) trivial trivial

theorem fc_region_compare (fu : Nat) (t0 : S_api_Region) (t1 : S_api_Region) {r : Int} (h : F_region_compare fu t0 t1 = some r) : FC Try.prog 32 [(S_api_Region.d t0), (S_api_Region.d t1)] [] (D.int .i64 r) [] := by
  refine fc_of_runs (fn := Try.f32) (c := Try.f32.body.getD .skip) (by kernel_rfl) (by kernel_rfl) ?_
  refine runs_to (ts := [0, 1]) (T' := T_region_compare) (env' := [(0, (S_api_Region.d t0)), (1, (S_api_Region.d t1))]) (h2 := []) (by kernel_rfl) (by kernel_rfl) trivial (Nat.le_refl _) trivial (And.intro (S_api_Region.inn _) (And.intro (S_api_Region.inn _) trivial)) ?_
  exact run_region_compare fu t0 t1 h rfl

def K_head_there (d : D) (r : Bool) : Prop := d = (D.bool r)

noncomputable def T_head_there : List Item := norm 200 [.code (Try.f101.body.getD .skip)]

/-- podesta/head.there -/
def F_head_there (t0 : Int) : Option Bool :=
  some (bif (decide (t0 ≥ (0 : Int))) then (decide (t0 < (12 : Int))) else false)

theorem run_head_there (t0 : Int) {d : D} {r : Bool} (h : F_head_there t0 = some r) (hk : (K_head_there d) r) : Runs Try.prog Try.f101 0 T_head_there [(0, (D.int .i64 t0))] [] d [] := by
  unfold F_head_there at h
  refine runs_regions 2 [([], [0]), ([], [2])] (z := ([((decide (t0 ≥ (0 : Int))) = true → All [((decide (t0 ≥ (0 : Int))) = true → (decide (t0 ≥ (0 : Int))) = true)]), ((true && (decide (t0 ≥ (0 : Int)))) = true → (decide (t0 ≥ (0 : Int))) = true)], [(2, (D.bool (bif (decide (t0 ≥ (0 : Int))) then (decide (t0 < (12 : Int))) else false)))], [])) rfl (by kernel_rfl) (And.intro (fun _ => (And.intro (by first | exact fun h => h | exact fun h => (Bool.and_eq_true_iff.1 h).1 | simp_all) trivial)) (And.intro (by first | exact fun h => h | exact fun h => (Bool.and_eq_true_iff.1 h).1 | simp_all) trivial)) ?_
  rw [← Option.some.inj h] at hk
  obtain rfl : d = (D.bool (bif (decide (t0 ≥ (0 : Int))) then (decide (t0 < (12 : Int))) else false)) := hk
  exact runs_ret (by kernel_rfl) trivial (Nat.le_refl 0) trivial trivial

theorem fc_head_there (t0 : Int) {r : Bool} (h : F_head_there t0 = some r) : FC Try.prog 101 [(D.int .i64 t0)] [] (D.bool r) [] := by
  refine fc_of_runs (fn := Try.f101) (c := Try.f101.body.getD .skip) (by kernel_rfl) (by kernel_rfl) ?_
  refine runs_to (ts := [0]) (T' := T_head_there) (env' := [(0, (D.int .i64 t0))]) (h2 := []) (by kernel_rfl) (by kernel_rfl) trivial (Nat.le_refl _) trivial (And.intro trivial trivial) ?_
  exact run_head_there t0 h rfl

structure S_head_field where
  f0 : ByteArray
  f1 : Int

def S_head_field.d (x : S_head_field) : D := (D.cons (D.str x.f0) (D.cons (D.int .i64 x.f1) D.nil))
theorem S_head_field.inn {S : Nat → Prop} (x : S_head_field) : (S_head_field.d x).In S := by
  unfold S_head_field.d
  exact (And.intro trivial (And.intro trivial trivial))
theorem S_head_field.rnk {r0 r1 : Nat} (x : S_head_field) : rnOk r0 r1 (S_head_field.d x) := by
  unfold S_head_field.d
  exact (And.intro trivial (And.intro trivial trivial))
theorem S_head_field.tgt (x : S_head_field) : (S_head_field.d x).Tight := by
  unfold S_head_field.d
  exact (And.intro trivial (And.intro trivial trivial))
abbrev S_head_field.z : S_head_field := (S_head_field.mk (⟨#[]⟩ : ByteArray) (0 : Int))

def S_head_field.wf (x : S_head_field) : Prop := x.f0.size ≤ reachBytes ∧ (Lit.int .i64 x.f1).wf = true ∧ True

def K_head_fields (d : D) (r : (Nat → S_head_field)) : Prop := d = (D.arr 12 2 fun i => (S_head_field.d (r i)))

noncomputable def T_head_fields : List Item := norm 200 [.code (Try.f102.body.getD .skip)]

/-- podesta/head.fields -/
def F_head_fields : Option (Nat → S_head_field) :=
  some (fun j => if j = 11 then (S_head_field.mk (⟨#[100, 112, 111, 114, 116]⟩ : ByteArray) (12 : Int)) else (fun j => if j = 10 then (S_head_field.mk (⟨#[115, 112, 111, 114, 116]⟩ : ByteArray) (12 : Int)) else (fun j => if j = 9 then (S_head_field.mk (⟨#[116, 111, 115]⟩ : ByteArray) (8 : Int)) else (fun j => if j = 8 then (S_head_field.mk (⟨#[112, 114, 111, 116, 111]⟩ : ByteArray) (8 : Int)) else (fun j => if j = 7 then (S_head_field.mk (⟨#[100, 115, 116]⟩ : ByteArray) (32 : Int)) else (fun j => if j = 6 then (S_head_field.mk (⟨#[115, 114, 99]⟩ : ByteArray) (32 : Int)) else (fun j => if j = 5 then (S_head_field.mk (⟨#[112, 99, 112]⟩ : ByteArray) (4 : Int)) else (fun j => if j = 4 then (S_head_field.mk (⟨#[118, 108, 97, 110]⟩ : ByteArray) (12 : Int)) else (fun j => if j = 3 then (S_head_field.mk (⟨#[101, 116, 121, 112, 101]⟩ : ByteArray) (16 : Int)) else (fun j => if j = 2 then (S_head_field.mk (⟨#[101, 100, 115, 116]⟩ : ByteArray) (48 : Int)) else (fun j => if j = 1 then (S_head_field.mk (⟨#[101, 115, 114, 99]⟩ : ByteArray) (48 : Int)) else (fun j => if j = 0 then (S_head_field.mk (⟨#[105, 110]⟩ : ByteArray) (16 : Int)) else (fun _ => (S_head_field.mk (⟨#[]⟩ : ByteArray) (0 : Int))) j) j) j) j) j) j) j) j) j) j) j) j)

theorem run_head_fields {d : D} {r : (Nat → S_head_field)} (h : F_head_fields = some r) (hk : (K_head_fields d) r) : Runs Try.prog Try.f102 0 T_head_fields [] [] d [] := by
  unfold F_head_fields at h
  refine runs_regions 2 [([], [0]), ([], [0])] (z := ([(0 < 12), (1 < 12), (2 < 12), (3 < 12), (4 < 12), (5 < 12), (6 < 12), (7 < 12), (8 < 12), (9 < 12), (10 < 12), (11 < 12)], [(0, (D.ptr 0 []))], [some (.box (D.arr 12 2 fun j => (if j = 11 then (D.cons (D.str (⟨#[100, 112, 111, 114, 116]⟩ : ByteArray)) (D.cons (D.int .i64 (12 : Int)) D.nil)) else (if j = 10 then (D.cons (D.str (⟨#[115, 112, 111, 114, 116]⟩ : ByteArray)) (D.cons (D.int .i64 (12 : Int)) D.nil)) else (if j = 9 then (D.cons (D.str (⟨#[116, 111, 115]⟩ : ByteArray)) (D.cons (D.int .i64 (8 : Int)) D.nil)) else (if j = 8 then (D.cons (D.str (⟨#[112, 114, 111, 116, 111]⟩ : ByteArray)) (D.cons (D.int .i64 (8 : Int)) D.nil)) else (if j = 7 then (D.cons (D.str (⟨#[100, 115, 116]⟩ : ByteArray)) (D.cons (D.int .i64 (32 : Int)) D.nil)) else (if j = 6 then (D.cons (D.str (⟨#[115, 114, 99]⟩ : ByteArray)) (D.cons (D.int .i64 (32 : Int)) D.nil)) else (if j = 5 then (D.cons (D.str (⟨#[112, 99, 112]⟩ : ByteArray)) (D.cons (D.int .i64 (4 : Int)) D.nil)) else (if j = 4 then (D.cons (D.str (⟨#[118, 108, 97, 110]⟩ : ByteArray)) (D.cons (D.int .i64 (12 : Int)) D.nil)) else (if j = 3 then (D.cons (D.str (⟨#[101, 116, 121, 112, 101]⟩ : ByteArray)) (D.cons (D.int .i64 (16 : Int)) D.nil)) else (if j = 2 then (D.cons (D.str (⟨#[101, 100, 115, 116]⟩ : ByteArray)) (D.cons (D.int .i64 (48 : Int)) D.nil)) else (if j = 1 then (D.cons (D.str (⟨#[101, 115, 114, 99]⟩ : ByteArray)) (D.cons (D.int .i64 (48 : Int)) D.nil)) else (if j = 0 then (D.cons (D.str (⟨#[105, 110]⟩ : ByteArray)) (D.cons (D.int .i64 (16 : Int)) D.nil)) else (S_head_field.d ((fun _ => (S_head_field.mk (⟨#[]⟩ : ByteArray) (0 : Int))) j))))))))))))))))])) rfl (by kernel_rfl) (And.intro (by decide) (And.intro (by decide) (And.intro (by decide) (And.intro (by decide) (And.intro (by decide) (And.intro (by decide) (And.intro (by decide) (And.intro (by decide) (And.intro (by decide) (And.intro (by decide) (And.intro (by decide) (And.intro (by decide) trivial)))))))))))) ?_
  refine cast_fun (F := fun q => Runs Try.prog Try.f102 0 _ [(0, (D.ptr 0 []))] [some (.box (D.arr 12 2 q))] d []) (funext fun j => (show (if j = 11 then (D.cons (D.str (⟨#[100, 112, 111, 114, 116]⟩ : ByteArray)) (D.cons (D.int .i64 (12 : Int)) D.nil)) else (if j = 10 then (D.cons (D.str (⟨#[115, 112, 111, 114, 116]⟩ : ByteArray)) (D.cons (D.int .i64 (12 : Int)) D.nil)) else (if j = 9 then (D.cons (D.str (⟨#[116, 111, 115]⟩ : ByteArray)) (D.cons (D.int .i64 (8 : Int)) D.nil)) else (if j = 8 then (D.cons (D.str (⟨#[112, 114, 111, 116, 111]⟩ : ByteArray)) (D.cons (D.int .i64 (8 : Int)) D.nil)) else (if j = 7 then (D.cons (D.str (⟨#[100, 115, 116]⟩ : ByteArray)) (D.cons (D.int .i64 (32 : Int)) D.nil)) else (if j = 6 then (D.cons (D.str (⟨#[115, 114, 99]⟩ : ByteArray)) (D.cons (D.int .i64 (32 : Int)) D.nil)) else (if j = 5 then (D.cons (D.str (⟨#[112, 99, 112]⟩ : ByteArray)) (D.cons (D.int .i64 (4 : Int)) D.nil)) else (if j = 4 then (D.cons (D.str (⟨#[118, 108, 97, 110]⟩ : ByteArray)) (D.cons (D.int .i64 (12 : Int)) D.nil)) else (if j = 3 then (D.cons (D.str (⟨#[101, 116, 121, 112, 101]⟩ : ByteArray)) (D.cons (D.int .i64 (16 : Int)) D.nil)) else (if j = 2 then (D.cons (D.str (⟨#[101, 100, 115, 116]⟩ : ByteArray)) (D.cons (D.int .i64 (48 : Int)) D.nil)) else (if j = 1 then (D.cons (D.str (⟨#[101, 115, 114, 99]⟩ : ByteArray)) (D.cons (D.int .i64 (48 : Int)) D.nil)) else (if j = 0 then (D.cons (D.str (⟨#[105, 110]⟩ : ByteArray)) (D.cons (D.int .i64 (16 : Int)) D.nil)) else (S_head_field.d ((fun _ => (S_head_field.mk (⟨#[]⟩ : ByteArray) (0 : Int))) j)))))))))))))) = (fun x : S_head_field => (S_head_field.d x)) ((fun j => if j = 11 then (S_head_field.mk (⟨#[100, 112, 111, 114, 116]⟩ : ByteArray) (12 : Int)) else (fun j => if j = 10 then (S_head_field.mk (⟨#[115, 112, 111, 114, 116]⟩ : ByteArray) (12 : Int)) else (fun j => if j = 9 then (S_head_field.mk (⟨#[116, 111, 115]⟩ : ByteArray) (8 : Int)) else (fun j => if j = 8 then (S_head_field.mk (⟨#[112, 114, 111, 116, 111]⟩ : ByteArray) (8 : Int)) else (fun j => if j = 7 then (S_head_field.mk (⟨#[100, 115, 116]⟩ : ByteArray) (32 : Int)) else (fun j => if j = 6 then (S_head_field.mk (⟨#[115, 114, 99]⟩ : ByteArray) (32 : Int)) else (fun j => if j = 5 then (S_head_field.mk (⟨#[112, 99, 112]⟩ : ByteArray) (4 : Int)) else (fun j => if j = 4 then (S_head_field.mk (⟨#[118, 108, 97, 110]⟩ : ByteArray) (12 : Int)) else (fun j => if j = 3 then (S_head_field.mk (⟨#[101, 116, 121, 112, 101]⟩ : ByteArray) (16 : Int)) else (fun j => if j = 2 then (S_head_field.mk (⟨#[101, 100, 115, 116]⟩ : ByteArray) (48 : Int)) else (fun j => if j = 1 then (S_head_field.mk (⟨#[101, 115, 114, 99]⟩ : ByteArray) (48 : Int)) else (fun j => if j = 0 then (S_head_field.mk (⟨#[105, 110]⟩ : ByteArray) (16 : Int)) else (fun _ => (S_head_field.mk (⟨#[]⟩ : ByteArray) (0 : Int))) j) j) j) j) j) j) j) j) j) j) j) j) j) from (d_ite (f := fun x : S_head_field => (S_head_field.d x)) rfl (d_ite (f := fun x : S_head_field => (S_head_field.d x)) rfl (d_ite (f := fun x : S_head_field => (S_head_field.d x)) rfl (d_ite (f := fun x : S_head_field => (S_head_field.d x)) rfl (d_ite (f := fun x : S_head_field => (S_head_field.d x)) rfl (d_ite (f := fun x : S_head_field => (S_head_field.d x)) rfl (d_ite (f := fun x : S_head_field => (S_head_field.d x)) rfl (d_ite (f := fun x : S_head_field => (S_head_field.d x)) rfl (d_ite (f := fun x : S_head_field => (S_head_field.d x)) rfl (d_ite (f := fun x : S_head_field => (S_head_field.d x)) rfl (d_ite (f := fun x : S_head_field => (S_head_field.d x)) rfl (d_ite (f := fun x : S_head_field => (S_head_field.d x)) rfl rfl)))))))))))))) ?_
  rw [← Option.some.inj h] at hk
  obtain rfl : d = (D.arr 12 2 fun i => (S_head_field.d ((fun j => if j = 11 then (S_head_field.mk (⟨#[100, 112, 111, 114, 116]⟩ : ByteArray) (12 : Int)) else (fun j => if j = 10 then (S_head_field.mk (⟨#[115, 112, 111, 114, 116]⟩ : ByteArray) (12 : Int)) else (fun j => if j = 9 then (S_head_field.mk (⟨#[116, 111, 115]⟩ : ByteArray) (8 : Int)) else (fun j => if j = 8 then (S_head_field.mk (⟨#[112, 114, 111, 116, 111]⟩ : ByteArray) (8 : Int)) else (fun j => if j = 7 then (S_head_field.mk (⟨#[100, 115, 116]⟩ : ByteArray) (32 : Int)) else (fun j => if j = 6 then (S_head_field.mk (⟨#[115, 114, 99]⟩ : ByteArray) (32 : Int)) else (fun j => if j = 5 then (S_head_field.mk (⟨#[112, 99, 112]⟩ : ByteArray) (4 : Int)) else (fun j => if j = 4 then (S_head_field.mk (⟨#[118, 108, 97, 110]⟩ : ByteArray) (12 : Int)) else (fun j => if j = 3 then (S_head_field.mk (⟨#[101, 116, 121, 112, 101]⟩ : ByteArray) (16 : Int)) else (fun j => if j = 2 then (S_head_field.mk (⟨#[101, 100, 115, 116]⟩ : ByteArray) (48 : Int)) else (fun j => if j = 1 then (S_head_field.mk (⟨#[101, 115, 114, 99]⟩ : ByteArray) (48 : Int)) else (fun j => if j = 0 then (S_head_field.mk (⟨#[105, 110]⟩ : ByteArray) (16 : Int)) else (fun _ => (S_head_field.mk (⟨#[]⟩ : ByteArray) (0 : Int))) j) j) j) j) j) j) j) j) j) j) j) j) i))) := hk
  exact runs_ret (by kernel_rfl) trivial (Nat.le_refl 0) trivial (fun _ _ => (S_head_field.inn _))

theorem fc_head_fields {r : (Nat → S_head_field)} (h : F_head_fields = some r) : FC Try.prog 102 [] [] (D.arr 12 2 fun i => (S_head_field.d (r i))) [] := by
  refine fc_of_runs (fn := Try.f102) (c := Try.f102.body.getD .skip) (by kernel_rfl) (by kernel_rfl) ?_
  refine runs_to (ts := []) (T' := T_head_fields) (env' := []) (h2 := []) (by kernel_rfl) (by kernel_rfl) trivial (Nat.le_refl _) trivial trivial ?_
  exact run_head_fields h rfl

def K_head_Size (d : D) (r : Int) : Prop := d = (D.int .i64 r)

noncomputable def T_head_Size : List Item := norm 200 [.code (Try.f90.body.getD .skip)]

/-- podesta/head.Size -/
def F_head_Size (t0 : Int) : Option Int :=
  (F_head_there t0).bind fun r0 =>
  ifs (!r0) (
    some (0 : Int)) (
    (F_head_fields).bind fun r1 =>
    chk (0 ≤ t0 ∧ t0 < ((12 : Nat) : Int)) <|
    chk (t0.toNat < 12) <|
    some (r1 t0.toNat).f1)

theorem run_head_Size (t0 : Int) {d : D} {r : Int} (h : F_head_Size t0 = some r) (hk : (K_head_Size d) r) : Runs Try.prog Try.f90 0 T_head_Size [(0, (D.int .i64 t0))] [] d [] := by
  unfold F_head_Size at h
  obtain ⟨r0, cr0, h⟩ := Option.bind_eq_some_iff.1 h
  refine runs_regions 2 [([], [0]), ([(.d (D.bool r0))], [0, 5])] (z := ([FC Try.prog 101 [(D.int .i64 t0)] [] (D.bool r0) [], All (List.map NoRow [(D.int .i64 t0)])], [(0, (D.int .i64 t0)), (5, (D.bool (!r0)))], [])) rfl (by kernel_rfl) (And.intro (fc_head_there t0 cr0) (And.intro (And.intro trivial trivial) trivial)) ?_
  refine runs_if (b := (!r0)) (by kernel_rfl) (fun hb => ?_) (fun hb => ?_)
  · replace h := ifs_true h hb
    refine runs_regions 1 [([], [2])] (z := ([], [(2, (D.int .i64 (0 : Int)))], [])) rfl (by kernel_rfl) trivial ?_
    rw [← Option.some.inj h] at hk
    obtain rfl : d = (D.int .i64 (0 : Int)) := hk
    exact runs_ret (by kernel_rfl) trivial (Nat.le_refl 0) trivial trivial
  · replace h := ifs_false h hb
    obtain ⟨r1, cr1, h⟩ := Option.bind_eq_some_iff.1 h
    obtain ⟨p0, h⟩ := chk_some h
    obtain ⟨p1, h⟩ := chk_some h
    refine runs_regions 1 [([(.d (D.arr 12 2 fun i => (S_head_field.d (r1 i))))], [2])] (z := ([FC Try.prog 102 [] [] (D.arr 12 2 fun i => (S_head_field.d (r1 i))) [], All (List.map NoRow []), (0 ≤ t0 ∧ t0 < ((12 : Nat) : Int)), (t0.toNat < 12)], [(2, (D.int .i64 (r1 t0.toNat).f1))], [])) rfl (by kernel_rfl) (And.intro (fc_head_fields cr1) (And.intro trivial (And.intro p0 (And.intro p1 trivial)))) ?_
    rw [← Option.some.inj h] at hk
    obtain rfl : d = (D.int .i64 (r1 t0.toNat).f1) := hk
    exact runs_ret (by kernel_rfl) trivial (Nat.le_refl 0) trivial trivial

theorem fc_head_Size (t0 : Int) {r : Int} (h : F_head_Size t0 = some r) : FC Try.prog 90 [(D.int .i64 t0)] [] (D.int .i64 r) [] := by
  refine fc_of_runs (fn := Try.f90) (c := Try.f90.body.getD .skip) (by kernel_rfl) (by kernel_rfl) ?_
  refine runs_to (ts := [0]) (T' := T_head_Size) (env' := [(0, (D.int .i64 t0))]) (h2 := []) (by kernel_rfl) (by kernel_rfl) trivial (Nat.le_refl _) trivial (And.intro trivial trivial) ?_
  exact run_head_Size t0 h rfl

def K_head_fits (d : D) (r : Bool) : Prop := d = (D.bool r)

noncomputable def T_head_fits : List Item := norm 200 [.code (Try.f68.body.getD .skip)]

/-- podesta/head.fits -/
def F_head_fits (t0 : Int) (t1 : Int) : Option Bool :=
  (F_head_Size t0).bind fun r0 =>
  chk (0 ≤ r0) <|
  some ((ishr .u64 t1 r0) == (0 : Int))

theorem run_head_fits (t0 : Int) (t1 : Int) {d : D} {r : Bool} (h : F_head_fits t0 t1 = some r) (hk : (K_head_fits d) r) : Runs Try.prog Try.f68 0 T_head_fits [(0, (D.int .i64 t0)), (1, (D.int .u64 t1))] [] d [] := by
  unfold F_head_fits at h
  obtain ⟨r0, cr0, h⟩ := Option.bind_eq_some_iff.1 h
  obtain ⟨p0, h⟩ := chk_some h
  refine runs_regions 2 [([], [0, 1]), ([(.d (D.int .i64 r0))], [4])] (z := ([FC Try.prog 90 [(D.int .i64 t0)] [] (D.int .i64 r0) [], All (List.map NoRow [(D.int .i64 t0)]), (0 ≤ r0)], [(4, (D.bool ((ishr .u64 t1 r0) == (0 : Int))))], [])) rfl (by kernel_rfl) (And.intro (fc_head_Size t0 cr0) (And.intro (And.intro trivial trivial) (And.intro p0 trivial))) ?_
  rw [← Option.some.inj h] at hk
  obtain rfl : d = (D.bool ((ishr .u64 t1 r0) == (0 : Int))) := hk
  exact runs_ret (by kernel_rfl) trivial (Nat.le_refl 0) trivial trivial

theorem fc_head_fits (t0 : Int) (t1 : Int) {r : Bool} (h : F_head_fits t0 t1 = some r) : FC Try.prog 68 [(D.int .i64 t0), (D.int .u64 t1)] [] (D.bool r) [] := by
  refine fc_of_runs (fn := Try.f68) (c := Try.f68.body.getD .skip) (by kernel_rfl) (by kernel_rfl) ?_
  refine runs_to (ts := [0, 1]) (T' := T_head_fits) (env' := [(0, (D.int .i64 t0)), (1, (D.int .u64 t1))]) (h2 := []) (by kernel_rfl) (by kernel_rfl) trivial (Nat.le_refl _) trivial (And.intro trivial (And.intro trivial trivial)) ?_
  exact run_head_fits t0 t1 h rfl

def K_head_Sound (d : D) (r : Bool) : Prop := d = (D.bool r)

noncomputable def T_head_Sound : List Item := norm 200 [.code (Try.f58.body.getD .skip)]

noncomputable def T_head_Sound_L1 : List Item := norm 200 (nxt (nxt T_head_Sound))

noncomputable def X_head_Sound_L1T : List Item := norm 200 (cndF (nxt (nxt (nxt T_head_Sound))))

abbrev E_head_Sound_L1 := Unit

def N_head_Sound_L1 (_fu : Nat) (t5 : (Nat → Int)) (d : D) (s : Int) : Prop := Runs Try.prog Try.f58 0 T_head_Sound_L1 [(5, (D.ints .u64 12 t5)), (6, (D.int .i64 s))] [] d []

def X_head_Sound_L1 (_fu : Nat) (_t5 : (Nat → Int)) (d : D) : E_head_Sound_L1 ⊕ Bool → Prop
  | .inl _ => Runs Try.prog Try.f58 0 X_head_Sound_L1T [] [] d []
  | .inr o => (K_head_Sound d) o

def F_head_Sound_L1 (_fu : Nat) (t5 : (Nat → Int)) (t6 : Int) : Option (Lo Int E_head_Sound_L1 Bool) :=
  ifs (decide (t6 < (12 : Int))) (
    chk (0 ≤ t6 ∧ t6 < ((12 : Nat) : Int)) <|
    chk (t6.toNat < 12) <|
    (F_head_fits t6 (t5 t6.toNat)).bind fun r0 =>
    ifs (!r0) (
      some (.ret false)) (
      some (.next (IntKind.wrap .i64 (t6 + (1 : Int)))))) (
    some (.exit ()))

theorem run_head_Sound_L1 (fu : Nat) (t5 : (Nat → Int)) (t6 : Int) {d : D} {o : (Lo Int E_head_Sound_L1 Bool)} (h : F_head_Sound_L1 fu t5 t6 = some o) (hk : (Lo.post (N_head_Sound_L1 fu t5 d) (X_head_Sound_L1 fu t5 d)) o) : Runs Try.prog Try.f58 0 T_head_Sound_L1 [(5, (D.ints .u64 12 t5)), (6, (D.int .i64 t6))] [] d [] := by
  unfold F_head_Sound_L1 at h
  refine runs_regions 1 [([], [5, 6, 7])] (z := ([], [(5, (D.ints .u64 12 t5)), (6, (D.int .i64 t6)), (7, (D.bool (decide (t6 < (12 : Int)))))], [])) rfl (by kernel_rfl) trivial ?_
  refine runs_if (b := (decide (t6 < (12 : Int)))) (by kernel_rfl) (fun hb => ?_) (fun hb => ?_)
  · replace h := ifs_true h hb
    obtain ⟨p0, h⟩ := chk_some h
    obtain ⟨p1, h⟩ := chk_some h
    obtain ⟨r0, cr0, h⟩ := Option.bind_eq_some_iff.1 h
    refine runs_regions 2 [([], [3, 4, 5, 6]), ([(.d (D.bool r0))], [5, 6, 13])] (z := ([(0 ≤ t6 ∧ t6 < ((12 : Nat) : Int)), (t6.toNat < 12), FC Try.prog 68 [(D.int .i64 t6), (D.int .u64 (t5 t6.toNat))] [] (D.bool r0) [], All (List.map NoRow [(D.int .i64 t6), (D.int .u64 (t5 t6.toNat))])], [(5, (D.ints .u64 12 t5)), (6, (D.int .i64 t6)), (13, (D.bool (!r0)))], [])) rfl (by kernel_rfl) (And.intro p0 (And.intro p1 (And.intro (fc_head_fits t6 (t5 t6.toNat) cr0) (And.intro (And.intro trivial (And.intro trivial trivial)) trivial)))) ?_
    refine runs_if (b := (!r0)) (by kernel_rfl) (fun hb => ?_) (fun hb => ?_)
    · replace h := ifs_true h hb
      refine runs_regions 1 [([], [2])] (z := ([], [(2, (D.bool false))], [])) rfl (by kernel_rfl) trivial ?_
      rw [← Option.some.inj h] at hk
      obtain rfl : d = (D.bool false) := hk
      exact runs_ret (by kernel_rfl) trivial (Nat.le_refl 0) trivial trivial
    · replace h := ifs_false h hb
      refine runs_regions 1 [([], [5, 6])] (z := ([], [(5, (D.ints .u64 12 t5)), (6, (D.int .i64 (IntKind.wrap .i64 (t6 + (1 : Int)))))], [])) rfl (by kernel_rfl) trivial ?_
      rw [← Option.some.inj h] at hk
      refine runs_to (ts := [5, 6]) (T' := T_head_Sound_L1) (env' := [(5, (D.ints .u64 12 t5)), (6, (D.int .i64 (IntKind.wrap .i64 (t6 + (1 : Int)))))]) (h2 := []) (by kernel_rfl) (by kernel_rfl) trivial (Nat.zero_le _) trivial (And.intro trivial (And.intro trivial trivial)) ?_
      exact hk
  · replace h := ifs_false h hb
    rw [← Option.some.inj h] at hk
    refine runs_to (ts := []) (T' := X_head_Sound_L1T) (env' := []) (h2 := []) (by kernel_rfl) (by kernel_rfl) trivial (Nat.zero_le _) trivial trivial ?_
    exact hk

theorem iter_head_Sound_L1 (fu : Nat) (t5 : (Nat → Int)) {d : D} (k : Nat) (s : Int) {o : E_head_Sound_L1 ⊕ Bool} (h : iter (fun s => F_head_Sound_L1 fu t5 s) k s = some o) (hx : X_head_Sound_L1 fu t5 d o) : N_head_Sound_L1 fu t5 d s :=
  iter_post (K := N_head_Sound_L1 fu t5 d) (X := X_head_Sound_L1 fu t5 d) (fun s _ h hk => run_head_Sound_L1 fu t5 s h hk) k s o h hx

/-- podesta/head.Sound -/
def F_head_Sound (fu : Nat) (t0 : (Nat → Int)) : Option Bool :=
  after (iter (fun s => F_head_Sound_L1 fu t0 s) fu (0 : Int)) fun _ =>
  some true

theorem run_head_Sound (fu : Nat) (t0 : (Nat → Int)) {d : D} {r : Bool} (h : F_head_Sound fu t0 = some r) (hk : (K_head_Sound d) r) : Runs Try.prog Try.f58 0 T_head_Sound [(0, (D.ints .u64 12 t0))] [] d [] := by
  unfold F_head_Sound at h
  refine runs_regions 2 [([], [1]), ([], [5, 6])] (z := ([], [(5, (D.ints .u64 12 t0)), (6, (D.int .i64 (0 : Int)))], [some (.box (D.ints .u64 12 t0))])) rfl (by kernel_rfl) trivial ?_
  refine runs_to (ts := [5, 6]) (T' := T_head_Sound_L1) (env' := [(5, (D.ints .u64 12 t0)), (6, (D.int .i64 (0 : Int)))]) (h2 := []) (by kernel_rfl) (by kernel_rfl) trivial (Nat.zero_le _) trivial (And.intro trivial (And.intro trivial trivial)) ?_
  rcases after_some h with ⟨e3, hi, h⟩ | hi
  · refine iter_head_Sound_L1 fu t0 fu (0 : Int) hi ?_
    show Runs Try.prog Try.f58 0 X_head_Sound_L1T [] [] d []
    refine runs_regions 1 [([], [2])] (z := ([], [(2, (D.bool true))], [])) rfl (by kernel_rfl) trivial ?_
    rw [← Option.some.inj h] at hk
    obtain rfl : d = (D.bool true) := hk
    exact runs_ret (by kernel_rfl) trivial (Nat.le_refl 0) trivial trivial
  · exact iter_head_Sound_L1 fu t0 fu (0 : Int) hi hk

theorem fc_head_Sound (fu : Nat) (t0 : (Nat → Int)) {r : Bool} (h : F_head_Sound fu t0 = some r) : FC Try.prog 58 [(D.ints .u64 12 t0)] [] (D.bool r) [] := by
  refine fc_of_runs (fn := Try.f58) (c := Try.f58.body.getD .skip) (by kernel_rfl) (by kernel_rfl) ?_
  refine runs_to (ts := [0]) (T' := T_head_Sound) (env' := [(0, (D.ints .u64 12 t0))]) (h2 := []) (by kernel_rfl) (by kernel_rfl) trivial (Nat.le_refl _) trivial (And.intro trivial trivial) ?_
  exact run_head_Sound fu t0 h rfl

def K_cube_Sound (d : D) (r : Bool) : Prop := d = (D.bool r)

noncomputable def T_cube_Sound : List Item := norm 200 [.code (Try.f30.body.getD .skip)]

noncomputable def T_cube_Sound_L1 : List Item := norm 200 (nxt (cndF (nxt (nxt T_cube_Sound))))

noncomputable def X_cube_Sound_L1T : List Item := norm 200 (cndF (nxt (nxt (cndF (nxt (nxt T_cube_Sound))))))

abbrev E_cube_Sound_L1 := Unit

def N_cube_Sound_L1 (_fu : Nat) (t10 : (Nat → Int)) (m0 : S_api_Cube) (d : D) (s : Int) : Prop := Runs Try.prog Try.f30 0 T_cube_Sound_L1 [(1, (D.ptr 0 [])), (10, (D.ints .u64 12 t10)), (11, (D.int .i64 s))] [some (.box (S_api_Cube.d m0))] d []

def X_cube_Sound_L1 (_fu : Nat) (_t10 : (Nat → Int)) (_m0 : S_api_Cube) (d : D) : E_cube_Sound_L1 ⊕ Bool → Prop
  | .inl _ => Runs Try.prog Try.f30 0 X_cube_Sound_L1T [] [] d []
  | .inr o => (K_cube_Sound d) o

def F_cube_Sound_L1 (_fu : Nat) (t10 : (Nat → Int)) (m0 : S_api_Cube) (t11 : Int) : Option (Lo Int E_cube_Sound_L1 Bool) :=
  ifs (decide (t11 < (12 : Int))) (
    chk (0 ≤ t11 ∧ t11 < ((12 : Nat) : Int)) <|
    chk (t11.toNat < 12) <|
    chk (0 ≤ t11 ∧ t11 < ((12 : Nat) : Int)) <|
    chk (t11.toNat < 12) <|
    ifs ((iandn .u64 (t10 t11.toNat) (m0.f1 t11.toNat)) != (0 : Int)) (
      some (.ret false)) (
      some (.next (IntKind.wrap .i64 (t11 + (1 : Int)))))) (
    some (.exit ()))

theorem run_cube_Sound_L1 (fu : Nat) (t10 : (Nat → Int)) (m0 : S_api_Cube) (t11 : Int) {d : D} {o : (Lo Int E_cube_Sound_L1 Bool)} (h : F_cube_Sound_L1 fu t10 m0 t11 = some o) (hk : (Lo.post (N_cube_Sound_L1 fu t10 m0 d) (X_cube_Sound_L1 fu t10 m0 d)) o) : Runs Try.prog Try.f30 0 T_cube_Sound_L1 [(1, (D.ptr 0 [])), (10, (D.ints .u64 12 t10)), (11, (D.int .i64 t11))] [some (.box (S_api_Cube.d m0))] d [] := by
  unfold F_cube_Sound_L1 at h
  refine runs_regions 1 [([], [1, 10, 11, 12])] (z := ([], [(1, (D.ptr 0 [])), (10, (D.ints .u64 12 t10)), (11, (D.int .i64 t11)), (12, (D.bool (decide (t11 < (12 : Int)))))], [some (.box (S_api_Cube.d m0))])) rfl (by kernel_rfl) trivial ?_
  refine runs_if (b := (decide (t11 < (12 : Int)))) (by kernel_rfl) (fun hb => ?_) (fun hb => ?_)
  · replace h := ifs_true h hb
    obtain ⟨p0, h⟩ := chk_some h
    obtain ⟨p1, h⟩ := chk_some h
    obtain ⟨p2, h⟩ := chk_some h
    obtain ⟨p3, h⟩ := chk_some h
    refine runs_regions 2 [([], [1, 3, 4, 10, 11]), ([], [1, 10, 11, 21])] (z := ([(0 ≤ t11 ∧ t11 < ((12 : Nat) : Int)), (t11.toNat < 12), (0 ≤ t11 ∧ t11 < ((12 : Nat) : Int)), (t11.toNat < 12)], [(1, (D.ptr 0 [])), (10, (D.ints .u64 12 t10)), (11, (D.int .i64 t11)), (21, (D.bool ((iandn .u64 (t10 t11.toNat) (m0.f1 t11.toNat)) != (0 : Int))))], [some (.box (S_api_Cube.d m0))])) rfl (by kernel_rfl) (And.intro p0 (And.intro p1 (And.intro p2 (And.intro p3 trivial)))) ?_
    refine runs_if (b := ((iandn .u64 (t10 t11.toNat) (m0.f1 t11.toNat)) != (0 : Int))) (by kernel_rfl) (fun hb => ?_) (fun hb => ?_)
    · replace h := ifs_true h hb
      refine runs_regions 1 [([], [2])] (z := ([], [(2, (D.bool false))], [some (.box (S_api_Cube.d m0))])) rfl (by kernel_rfl) trivial ?_
      rw [← Option.some.inj h] at hk
      obtain rfl : d = (D.bool false) := hk
      exact runs_ret (by kernel_rfl) trivial (Nat.le_refl 0) trivial trivial
    · replace h := ifs_false h hb
      refine runs_regions 1 [([], [1, 10, 11])] (z := ([], [(1, (D.ptr 0 [])), (10, (D.ints .u64 12 t10)), (11, (D.int .i64 (IntKind.wrap .i64 (t11 + (1 : Int)))))], [some (.box (S_api_Cube.d m0))])) rfl (by kernel_rfl) trivial ?_
      rw [← Option.some.inj h] at hk
      refine runs_to (ts := [1, 10, 11]) (T' := T_cube_Sound_L1) (env' := [(1, (D.ptr 0 [])), (10, (D.ints .u64 12 t10)), (11, (D.int .i64 (IntKind.wrap .i64 (t11 + (1 : Int)))))]) (h2 := [some (.box (S_api_Cube.d m0))]) (by kernel_rfl) (by kernel_rfl) (And.intro (.inr rfl) trivial) (Nat.zero_le _) (And.intro (S_api_Cube.inn _) trivial) (And.intro (bel_of rfl) (And.intro trivial (And.intro trivial trivial))) ?_
      exact hk
  · replace h := ifs_false h hb
    rw [← Option.some.inj h] at hk
    refine runs_to (ts := []) (T' := X_cube_Sound_L1T) (env' := []) (h2 := []) (by kernel_rfl) (by kernel_rfl) trivial (Nat.zero_le _) trivial trivial ?_
    exact hk

theorem iter_cube_Sound_L1 (fu : Nat) (t10 : (Nat → Int)) (m0 : S_api_Cube) {d : D} (k : Nat) (s : Int) {o : E_cube_Sound_L1 ⊕ Bool} (h : iter (fun s => F_cube_Sound_L1 fu t10 m0 s) k s = some o) (hx : X_cube_Sound_L1 fu t10 m0 d o) : N_cube_Sound_L1 fu t10 m0 d s :=
  iter_post (K := N_cube_Sound_L1 fu t10 m0 d) (X := X_cube_Sound_L1 fu t10 m0 d) (fun s _ h hk => run_cube_Sound_L1 fu t10 m0 s h hk) k s o h hx

/-- podesta/cube.Sound -/
def F_cube_Sound (fu : Nat) (t0 : S_api_Cube) : Option Bool :=
  (F_head_Sound fu t0.f1).bind fun r0 =>
  ifs (!r0) (
    some false) (
    after (iter (fun s => F_cube_Sound_L1 fu t0.f0 t0 s) fu (0 : Int)) fun _ =>
    some true)

theorem run_cube_Sound (fu : Nat) (t0 : S_api_Cube) {d : D} {r : Bool} (h : F_cube_Sound fu t0 = some r) (hk : (K_cube_Sound d) r) : Runs Try.prog Try.f30 0 T_cube_Sound [(0, (S_api_Cube.d t0))] [] d [] := by
  unfold F_cube_Sound at h
  obtain ⟨r0, cr0, h⟩ := Option.bind_eq_some_iff.1 h
  refine runs_regions 2 [([], [1]), ([(.d (D.bool r0))], [1, 8])] (z := ([FC Try.prog 58 [(D.ints .u64 12 t0.f1)] [] (D.bool r0) [], All (List.map NoRow [(D.ints .u64 12 t0.f1)])], [(1, (D.ptr 0 [])), (8, (D.bool (!r0)))], [some (.box (S_api_Cube.d t0))])) rfl (by kernel_rfl) (And.intro (fc_head_Sound fu t0.f1 cr0) (And.intro (And.intro trivial trivial) trivial)) ?_
  refine runs_if (b := (!r0)) (by kernel_rfl) (fun hb => ?_) (fun hb => ?_)
  · replace h := ifs_true h hb
    refine runs_regions 1 [([], [2])] (z := ([], [(2, (D.bool false))], [some (.box (S_api_Cube.d t0))])) rfl (by kernel_rfl) trivial ?_
    rw [← Option.some.inj h] at hk
    obtain rfl : d = (D.bool false) := hk
    exact runs_ret (by kernel_rfl) trivial (Nat.le_refl 0) trivial trivial
  · replace h := ifs_false h hb
    refine runs_regions 1 [([], [1, 10, 11])] (z := ([], [(1, (D.ptr 0 [])), (10, (D.ints .u64 12 t0.f0)), (11, (D.int .i64 (0 : Int)))], [some (.box (S_api_Cube.d t0))])) rfl (by kernel_rfl) trivial ?_
    refine runs_to (ts := [1, 10, 11]) (T' := T_cube_Sound_L1) (env' := [(1, (D.ptr 0 [])), (10, (D.ints .u64 12 t0.f0)), (11, (D.int .i64 (0 : Int)))]) (h2 := [some (.box (S_api_Cube.d t0))]) (by kernel_rfl) (by kernel_rfl) (And.intro (.inr rfl) trivial) (Nat.zero_le _) (And.intro (S_api_Cube.inn _) trivial) (And.intro (bel_of rfl) (And.intro trivial (And.intro trivial trivial))) ?_
    rcases after_some h with ⟨e5, hi, h⟩ | hi
    · refine iter_cube_Sound_L1 fu t0.f0 t0 fu (0 : Int) hi ?_
      show Runs Try.prog Try.f30 0 X_cube_Sound_L1T [] [] d []
      refine runs_regions 1 [([], [2])] (z := ([], [(2, (D.bool true))], [])) rfl (by kernel_rfl) trivial ?_
      rw [← Option.some.inj h] at hk
      obtain rfl : d = (D.bool true) := hk
      exact runs_ret (by kernel_rfl) trivial (Nat.le_refl 0) trivial trivial
    · exact iter_cube_Sound_L1 fu t0.f0 t0 fu (0 : Int) hi hk

theorem fc_cube_Sound (fu : Nat) (t0 : S_api_Cube) {r : Bool} (h : F_cube_Sound fu t0 = some r) : FC Try.prog 30 [(S_api_Cube.d t0)] [] (D.bool r) [] := by
  refine fc_of_runs (fn := Try.f30) (c := Try.f30.body.getD .skip) (by kernel_rfl) (by kernel_rfl) ?_
  refine runs_to (ts := [0]) (T' := T_cube_Sound) (env' := [(0, (S_api_Cube.d t0))]) (h2 := []) (by kernel_rfl) (by kernel_rfl) trivial (Nat.le_refl _) trivial (And.intro (S_api_Cube.inn _) trivial) ?_
  exact run_cube_Sound fu t0 h rfl

def K_cube_both (d : D) (r : Bool) : Prop := d = (D.bool r)

noncomputable def T_cube_both : List Item := norm 200 [.code (Try.f56.body.getD .skip)]

/-- podesta/cube.both -/
def F_cube_both (fu : Nat) (t0 : S_api_Cube) (t1 : S_api_Cube) : Option Bool :=
  (F_cube_Sound fu t0).bind fun r0 =>
  (callIf r0 (F_cube_Sound fu t1) false).bind fun r1 =>
  some (bif r0 then r1 else false)

theorem run_cube_both (fu : Nat) (t0 : S_api_Cube) (t1 : S_api_Cube) {d : D} {r : Bool} (h : F_cube_both fu t0 t1 = some r) (hk : (K_cube_both d) r) : Runs Try.prog Try.f56 0 T_cube_both [(0, (S_api_Cube.d t0)), (1, (S_api_Cube.d t1))] [] d [] := by
  unfold F_cube_both at h
  obtain ⟨r0, cr0, h⟩ := Option.bind_eq_some_iff.1 h
  obtain ⟨r1, cr1, h⟩ := Option.bind_eq_some_iff.1 h
  refine runs_regions 2 [([], [2, 3]), ([(.d (D.bool r0)), (.d (D.bool r1))], [4])] (z := ([FC Try.prog 30 [(S_api_Cube.d t0)] [] (D.bool r0) [], All (List.map NoRow [(S_api_Cube.d t0)]), (r0 = true → All [(r0 = true → r0 = true), FC Try.prog 30 [(S_api_Cube.d t1)] [] (D.bool r1) [], All (List.map NoRow [(S_api_Cube.d t1)])]), ((true && r0) = true → r0 = true)], [(4, (D.bool (bif r0 then r1 else false)))], [some (.box (S_api_Cube.d t0)), some (.box (S_api_Cube.d t1))])) rfl (by kernel_rfl) (And.intro (fc_cube_Sound fu t0 cr0) (And.intro (And.intro (S_api_Cube.inn _) trivial) (And.intro (fun hg => (And.intro (by first | exact fun h => h | exact fun h => (Bool.and_eq_true_iff.1 h).1 | simp_all) (And.intro (fc_cube_Sound fu t1 (callIf_some cr1 hg)) (And.intro (And.intro (S_api_Cube.inn _) trivial) trivial)))) (And.intro (by first | exact fun h => h | exact fun h => (Bool.and_eq_true_iff.1 h).1 | simp_all) trivial)))) ?_
  rw [← Option.some.inj h] at hk
  obtain rfl : d = (D.bool (bif r0 then r1 else false)) := hk
  exact runs_ret (by kernel_rfl) trivial (Nat.le_refl 0) trivial trivial

theorem fc_cube_both (fu : Nat) (t0 : S_api_Cube) (t1 : S_api_Cube) {r : Bool} (h : F_cube_both fu t0 t1 = some r) : FC Try.prog 56 [(S_api_Cube.d t0), (S_api_Cube.d t1)] [] (D.bool r) [] := by
  refine fc_of_runs (fn := Try.f56) (c := Try.f56.body.getD .skip) (by kernel_rfl) (by kernel_rfl) ?_
  refine runs_to (ts := [0, 1]) (T' := T_cube_both) (env' := [(0, (S_api_Cube.d t0)), (1, (S_api_Cube.d t1))]) (h2 := []) (by kernel_rfl) (by kernel_rfl) trivial (Nat.le_refl _) trivial (And.intro (S_api_Cube.inn _) (And.intro (S_api_Cube.inn _) trivial)) ?_
  exact run_cube_both fu t0 t1 h rfl

def K_cube_Meet (d : D) (r : (S_api_Cube × Bool)) : Prop := d = (D.tup (D.cons (S_api_Cube.d r.1) (D.cons (D.bool r.2) D.nil)))

noncomputable def T_cube_Meet : List Item := norm 200 [.code (Try.f28.body.getD .skip)]

noncomputable def T_cube_Meet_L1 : List Item := norm 200 (nxt (cndF (nxt (nxt T_cube_Meet))))

noncomputable def X_cube_Meet_L1T : List Item := norm 200 (cndF (nxt (nxt (cndF (nxt (nxt T_cube_Meet))))))

abbrev E_cube_Meet_L1 := S_api_Cube

def N_cube_Meet_L1 (_fu : Nat) (m1 : S_api_Cube) (m2 : S_api_Cube) (d : D) (s : (Int × S_api_Cube)) : Prop := Runs Try.prog Try.f28 0 T_cube_Meet_L1 [(2, (D.ptr 0 [])), (3, (D.ptr 1 [])), (4, (D.ptr 2 [])), (12, (D.int .i64 s.1))] [some (.box (D.cons (D.ints .u64 12 s.2.f0) (D.cons (D.ints .u64 12 s.2.f1) D.nil))), some (.box (S_api_Cube.d m1)), some (.box (S_api_Cube.d m2))] d []

def X_cube_Meet_L1 (_fu : Nat) (_m1 : S_api_Cube) (m2 : S_api_Cube) (d : D) : E_cube_Meet_L1 ⊕ (S_api_Cube × Bool) → Prop
  | .inl e => Runs Try.prog Try.f28 0 X_cube_Meet_L1T [(2, (D.ptr 0 [])), (4, (D.ptr 2 []))] [some (.box (D.cons (D.ints .u64 12 e.f0) (D.cons (D.ints .u64 12 e.f1) D.nil))), none, some (.box (S_api_Cube.d m2))] d []
  | .inr o => (K_cube_Meet d) o

def F_cube_Meet_L1 (_fu : Nat) (m1 : S_api_Cube) (_m2 : S_api_Cube) (t12 : Int) (m0 : S_api_Cube) : Option (Lo (Int × S_api_Cube) E_cube_Meet_L1 (S_api_Cube × Bool)) :=
  ifs (decide (t12 < (12 : Int))) (
    chk (0 ≤ t12 ∧ t12 < ((12 : Nat) : Int)) <|
    chk (t12.toNat < 12) <|
    chk (0 ≤ t12 ∧ t12 < ((12 : Nat) : Int)) <|
    chk (t12.toNat < 12) <|
    chk (0 ≤ t12 ∧ t12 < ((12 : Nat) : Int)) <|
    chk (t12.toNat < 12) <|
    chk (0 ≤ t12 ∧ t12 < ((12 : Nat) : Int)) <|
    chk (t12.toNat < 12) <|
    ifs ((iand .u64 (iand .u64 (ixor .u64 (m0.f0 t12.toNat) (m1.f0 t12.toNat)) (m0.f1 t12.toNat)) (m1.f1 t12.toNat)) != (0 : Int)) (
      some (.ret ((S_api_Cube.mk (fun _ => 0) (fun _ => 0)), false))) (
      chk (0 ≤ t12 ∧ t12 < ((12 : Nat) : Int)) <|
      chk (t12.toNat < 12) <|
      chk (0 ≤ t12 ∧ t12 < ((12 : Nat) : Int)) <|
      chk (t12.toNat < 12) <|
      chk (0 ≤ t12 ∧ t12 < ((12 : Nat) : Int)) <|
      chk (t12.toNat < 12) <|
      chk (0 ≤ t12 ∧ t12 < ((12 : Nat) : Int)) <|
      chk (t12.toNat < 12) <|
      chk (0 ≤ t12 ∧ t12 < ((12 : Nat) : Int)) <|
      chk (t12.toNat < 12) <|
      chk (0 ≤ t12 ∧ t12 < ((12 : Nat) : Int)) <|
      chk (t12.toNat < 12) <|
      some (.next ((IntKind.wrap .i64 (t12 + (1 : Int))), (S_api_Cube.mk (fun j => if j = t12.toNat then (ior .u64 (m0.f0 t12.toNat) (m1.f0 t12.toNat)) else m0.f0 j) (fun j => if j = t12.toNat then (ior .u64 (m0.f1 t12.toNat) (m1.f1 t12.toNat)) else m0.f1 j)))))) (
    some (.exit m0))

theorem run_cube_Meet_L1 (fu : Nat) (m1 : S_api_Cube) (m2 : S_api_Cube) (t12 : Int) (m0 : S_api_Cube) {d : D} {o : (Lo (Int × S_api_Cube) E_cube_Meet_L1 (S_api_Cube × Bool))} (h : F_cube_Meet_L1 fu m1 m2 t12 m0 = some o) (hk : (Lo.post (N_cube_Meet_L1 fu m1 m2 d) (X_cube_Meet_L1 fu m1 m2 d)) o) : Runs Try.prog Try.f28 0 T_cube_Meet_L1 [(2, (D.ptr 0 [])), (3, (D.ptr 1 [])), (4, (D.ptr 2 [])), (12, (D.int .i64 t12))] [some (.box (S_api_Cube.d m0)), some (.box (S_api_Cube.d m1)), some (.box (S_api_Cube.d m2))] d [] := by
  unfold F_cube_Meet_L1 at h
  refine runs_regions 1 [([], [2, 3, 4, 12, 13])] (z := ([], [(2, (D.ptr 0 [])), (3, (D.ptr 1 [])), (4, (D.ptr 2 [])), (12, (D.int .i64 t12)), (13, (D.bool (decide (t12 < (12 : Int)))))], [some (.box (S_api_Cube.d m0)), some (.box (S_api_Cube.d m1)), some (.box (S_api_Cube.d m2))])) rfl (by kernel_rfl) trivial ?_
  refine runs_if (b := (decide (t12 < (12 : Int)))) (by kernel_rfl) (fun hb => ?_) (fun hb => ?_)
  · replace h := ifs_true h hb
    obtain ⟨p0, h⟩ := chk_some h
    obtain ⟨p1, h⟩ := chk_some h
    obtain ⟨p2, h⟩ := chk_some h
    obtain ⟨p3, h⟩ := chk_some h
    obtain ⟨p4, h⟩ := chk_some h
    obtain ⟨p5, h⟩ := chk_some h
    obtain ⟨p6, h⟩ := chk_some h
    obtain ⟨p7, h⟩ := chk_some h
    refine runs_regions 2 [([], [2, 3, 4, 6, 12]), ([], [2, 3, 4, 6, 12, 34])] (z := ([(0 ≤ t12 ∧ t12 < ((12 : Nat) : Int)), (t12.toNat < 12), (0 ≤ t12 ∧ t12 < ((12 : Nat) : Int)), (t12.toNat < 12), (0 ≤ t12 ∧ t12 < ((12 : Nat) : Int)), (t12.toNat < 12), (0 ≤ t12 ∧ t12 < ((12 : Nat) : Int)), (t12.toNat < 12)], [(2, (D.ptr 0 [])), (3, (D.ptr 1 [])), (4, (D.ptr 2 [])), (6, (D.int .i64 t12)), (12, (D.int .i64 t12)), (34, (D.bool ((iand .u64 (iand .u64 (ixor .u64 (m0.f0 t12.toNat) (m1.f0 t12.toNat)) (m0.f1 t12.toNat)) (m1.f1 t12.toNat)) != (0 : Int))))], [some (.box (S_api_Cube.d m0)), some (.box (S_api_Cube.d m1)), some (.box (S_api_Cube.d m2))])) rfl (by kernel_rfl) (And.intro p0 (And.intro p1 (And.intro p2 (And.intro p3 (And.intro p4 (And.intro p5 (And.intro p6 (And.intro p7 trivial)))))))) ?_
    refine runs_if (b := ((iand .u64 (iand .u64 (ixor .u64 (m0.f0 t12.toNat) (m1.f0 t12.toNat)) (m0.f1 t12.toNat)) (m1.f1 t12.toNat)) != (0 : Int))) (by kernel_rfl) (fun hb => ?_) (fun hb => ?_)
    · replace h := ifs_true h hb
      refine runs_regions 1 [([], [4, 5])] (z := ([], [(4, (D.ptr 2 [])), (5, (D.bool false))], [some (.box (S_api_Cube.d m0)), some (.box (S_api_Cube.d m1)), some (.box (D.cons (D.ints .u64 12 (fun _ => 0)) (D.cons (D.ints .u64 12 (fun _ => 0)) D.nil)))])) rfl (by kernel_rfl) trivial ?_
      rw [← Option.some.inj h] at hk
      obtain rfl : d = (D.tup (D.cons (D.cons (D.ints .u64 12 (fun _ => 0)) (D.cons (D.ints .u64 12 (fun _ => 0)) D.nil)) (D.cons (D.bool false) D.nil))) := hk
      exact runs_ret (by kernel_rfl) trivial (Nat.le_refl 0) trivial (And.intro (And.intro trivial (And.intro trivial trivial)) (And.intro trivial trivial))
    · replace h := ifs_false h hb
      obtain ⟨p8, h⟩ := chk_some h
      obtain ⟨p9, h⟩ := chk_some h
      obtain ⟨p10, h⟩ := chk_some h
      obtain ⟨p11, h⟩ := chk_some h
      obtain ⟨p12, h⟩ := chk_some h
      obtain ⟨p13, h⟩ := chk_some h
      obtain ⟨p14, h⟩ := chk_some h
      obtain ⟨p15, h⟩ := chk_some h
      obtain ⟨p16, h⟩ := chk_some h
      obtain ⟨p17, h⟩ := chk_some h
      obtain ⟨p18, h⟩ := chk_some h
      obtain ⟨p19, h⟩ := chk_some h
      refine runs_regions 3 [([], [2, 3, 4, 6, 12]), ([], [2, 3, 4, 12]), ([], [2, 3, 4, 12])] (z := ([(0 ≤ t12 ∧ t12 < ((12 : Nat) : Int)), (t12.toNat < 12), (0 ≤ t12 ∧ t12 < ((12 : Nat) : Int)), (t12.toNat < 12), (0 ≤ t12 ∧ t12 < ((12 : Nat) : Int)), (t12.toNat < 12), (0 ≤ t12 ∧ t12 < ((12 : Nat) : Int)), (t12.toNat < 12), (0 ≤ t12 ∧ t12 < ((12 : Nat) : Int)), (t12.toNat < 12), (0 ≤ t12 ∧ t12 < ((12 : Nat) : Int)), (t12.toNat < 12)], [(2, (D.ptr 0 [])), (3, (D.ptr 1 [])), (4, (D.ptr 2 [])), (12, (D.int .i64 (IntKind.wrap .i64 (t12 + (1 : Int)))))], [some (.box (D.cons (D.ints .u64 12 (fun j => if j = t12.toNat then (ior .u64 (m0.f0 t12.toNat) (m1.f0 t12.toNat)) else m0.f0 j)) (D.cons (D.ints .u64 12 (fun j => if j = t12.toNat then (ior .u64 (m0.f1 t12.toNat) (m1.f1 t12.toNat)) else m0.f1 j)) D.nil))), some (.box (S_api_Cube.d m1)), some (.box (S_api_Cube.d m2))])) rfl (by kernel_rfl) (And.intro p8 (And.intro p9 (And.intro p10 (And.intro p11 (And.intro p12 (And.intro p13 (And.intro p14 (And.intro p15 (And.intro p16 (And.intro p17 (And.intro p18 (And.intro p19 trivial)))))))))))) ?_
      rw [← Option.some.inj h] at hk
      refine runs_to (ts := [2, 3, 4, 12]) (T' := T_cube_Meet_L1) (env' := [(2, (D.ptr 0 [])), (3, (D.ptr 1 [])), (4, (D.ptr 2 [])), (12, (D.int .i64 (IntKind.wrap .i64 (t12 + (1 : Int)))))]) (h2 := [some (.box (D.cons (D.ints .u64 12 (fun j => if j = t12.toNat then (ior .u64 (m0.f0 t12.toNat) (m1.f0 t12.toNat)) else m0.f0 j)) (D.cons (D.ints .u64 12 (fun j => if j = t12.toNat then (ior .u64 (m0.f1 t12.toNat) (m1.f1 t12.toNat)) else m0.f1 j)) D.nil))), some (.box (S_api_Cube.d m1)), some (.box (S_api_Cube.d m2))]) (by kernel_rfl) (by kernel_rfl) (And.intro (.inr rfl) (And.intro (.inr rfl) (And.intro (.inr rfl) trivial))) (Nat.zero_le _) (And.intro (And.intro trivial (And.intro trivial trivial)) (And.intro (S_api_Cube.inn _) (And.intro (S_api_Cube.inn _) trivial))) (And.intro (bel_of rfl) (And.intro (bel_of rfl) (And.intro (bel_of rfl) (And.intro trivial trivial)))) ?_
      exact hk
  · replace h := ifs_false h hb
    rw [← Option.some.inj h] at hk
    refine runs_to (ts := [2, 4]) (T' := X_cube_Meet_L1T) (env' := [(2, (D.ptr 0 [])), (4, (D.ptr 2 []))]) (h2 := [some (.box (S_api_Cube.d m0)), none, some (.box (S_api_Cube.d m2))]) (by kernel_rfl) (by kernel_rfl) (And.intro (.inr rfl) (And.intro (.inl rfl) (And.intro (.inr rfl) trivial))) (Nat.zero_le _) (And.intro (S_api_Cube.inn _) (And.intro (S_api_Cube.inn _) trivial)) (And.intro (bel_of rfl) (And.intro (bel_of rfl) trivial)) ?_
    exact hk

theorem iter_cube_Meet_L1 (fu : Nat) (m1 : S_api_Cube) (m2 : S_api_Cube) {d : D} (k : Nat) (s : (Int × S_api_Cube)) {o : E_cube_Meet_L1 ⊕ (S_api_Cube × Bool)} (h : iter (fun s => F_cube_Meet_L1 fu m1 m2 s.1 s.2) k s = some o) (hx : X_cube_Meet_L1 fu m1 m2 d o) : N_cube_Meet_L1 fu m1 m2 d s :=
  iter_post (K := N_cube_Meet_L1 fu m1 m2 d) (X := X_cube_Meet_L1 fu m1 m2 d) (fun s _ h hk => run_cube_Meet_L1 fu m1 m2 s.1 s.2 h hk) k s o h hx

/-- podesta/cube.Meet -/
def F_cube_Meet (fu : Nat) (t0 : S_api_Cube) (t1 : S_api_Cube) : Option (S_api_Cube × Bool) :=
  (F_cube_both fu t0 t1).bind fun r0 =>
  ifs (!r0) (
    some ((S_api_Cube.mk (fun _ => 0) (fun _ => 0)), false)) (
    after (iter (fun s => F_cube_Meet_L1 fu t1 (S_api_Cube.mk (fun _ => 0) (fun _ => 0)) s.1 s.2) fu ((0 : Int), t0)) fun e21 =>
    some (e21, true))

theorem run_cube_Meet (fu : Nat) (t0 : S_api_Cube) (t1 : S_api_Cube) {d : D} {r : (S_api_Cube × Bool)} (h : F_cube_Meet fu t0 t1 = some r) (hk : (K_cube_Meet d) r) : Runs Try.prog Try.f28 0 T_cube_Meet [(0, (S_api_Cube.d t0)), (1, (S_api_Cube.d t1))] [] d [] := by
  unfold F_cube_Meet at h
  obtain ⟨r0, cr0, h⟩ := Option.bind_eq_some_iff.1 h
  refine runs_regions 2 [([], [2, 3, 4]), ([(.d (D.bool r0))], [2, 3, 4, 10])] (z := ([FC Try.prog 56 [(S_api_Cube.d t0), (S_api_Cube.d t1)] [] (D.bool r0) [], All (List.map NoRow [(S_api_Cube.d t0), (S_api_Cube.d t1)])], [(2, (D.ptr 0 [])), (3, (D.ptr 1 [])), (4, (D.ptr 2 [])), (10, (D.bool (!r0)))], [some (.box (S_api_Cube.d t0)), some (.box (S_api_Cube.d t1)), some (.box (D.cons (D.ints .u64 12 (fun _ => 0)) (D.cons (D.ints .u64 12 (fun _ => 0)) D.nil)))])) rfl (by kernel_rfl) (And.intro (fc_cube_both fu t0 t1 cr0) (And.intro (And.intro (S_api_Cube.inn _) (And.intro (S_api_Cube.inn _) trivial)) trivial)) ?_
  refine runs_if (b := (!r0)) (by kernel_rfl) (fun hb => ?_) (fun hb => ?_)
  · replace h := ifs_true h hb
    refine runs_regions 1 [([], [4, 5])] (z := ([], [(4, (D.ptr 2 [])), (5, (D.bool false))], [some (.box (S_api_Cube.d t0)), some (.box (S_api_Cube.d t1)), some (.box (D.cons (D.ints .u64 12 (fun _ => 0)) (D.cons (D.ints .u64 12 (fun _ => 0)) D.nil)))])) rfl (by kernel_rfl) trivial ?_
    rw [← Option.some.inj h] at hk
    obtain rfl : d = (D.tup (D.cons (D.cons (D.ints .u64 12 (fun _ => 0)) (D.cons (D.ints .u64 12 (fun _ => 0)) D.nil)) (D.cons (D.bool false) D.nil))) := hk
    exact runs_ret (by kernel_rfl) trivial (Nat.le_refl 0) trivial (And.intro (And.intro trivial (And.intro trivial trivial)) (And.intro trivial trivial))
  · replace h := ifs_false h hb
    refine runs_regions 1 [([], [2, 3, 4, 12])] (z := ([], [(2, (D.ptr 0 [])), (3, (D.ptr 1 [])), (4, (D.ptr 2 [])), (12, (D.int .i64 (0 : Int)))], [some (.box (S_api_Cube.d t0)), some (.box (S_api_Cube.d t1)), some (.box (D.cons (D.ints .u64 12 (fun _ => 0)) (D.cons (D.ints .u64 12 (fun _ => 0)) D.nil)))])) rfl (by kernel_rfl) trivial ?_
    refine runs_to (ts := [2, 3, 4, 12]) (T' := T_cube_Meet_L1) (env' := [(2, (D.ptr 0 [])), (3, (D.ptr 1 [])), (4, (D.ptr 2 [])), (12, (D.int .i64 (0 : Int)))]) (h2 := [some (.box (S_api_Cube.d t0)), some (.box (S_api_Cube.d t1)), some (.box (D.cons (D.ints .u64 12 (fun _ => 0)) (D.cons (D.ints .u64 12 (fun _ => 0)) D.nil)))]) (by kernel_rfl) (by kernel_rfl) (And.intro (.inr rfl) (And.intro (.inr rfl) (And.intro (.inr rfl) trivial))) (Nat.zero_le _) (And.intro (S_api_Cube.inn _) (And.intro (S_api_Cube.inn _) (And.intro (And.intro trivial (And.intro trivial trivial)) trivial))) (And.intro (bel_of rfl) (And.intro (bel_of rfl) (And.intro (bel_of rfl) (And.intro trivial trivial)))) ?_
    rcases after_some h with ⟨e21, hi, h⟩ | hi
    · refine iter_cube_Meet_L1 fu t1 (S_api_Cube.mk (fun _ => 0) (fun _ => 0)) fu ((0 : Int), t0) hi ?_
      show Runs Try.prog Try.f28 0 X_cube_Meet_L1T [(2, (D.ptr 0 [])), (4, (D.ptr 2 []))] [some (.box (S_api_Cube.d e21)), none, some (.box (D.cons (D.ints .u64 12 (fun _ => 0)) (D.cons (D.ints .u64 12 (fun _ => 0)) D.nil)))] d []
      refine runs_regions 1 [([], [4, 5])] (z := ([], [(4, (D.ptr 2 [])), (5, (D.bool true))], [some (.box (S_api_Cube.d e21)), none, some (.box (S_api_Cube.d e21))])) rfl (by kernel_rfl) trivial ?_
      rw [← Option.some.inj h] at hk
      obtain rfl : d = (D.tup (D.cons (S_api_Cube.d e21) (D.cons (D.bool true) D.nil))) := hk
      exact runs_ret (by kernel_rfl) trivial (Nat.le_refl 0) trivial (And.intro (S_api_Cube.inn _) (And.intro trivial trivial))
    · exact iter_cube_Meet_L1 fu t1 (S_api_Cube.mk (fun _ => 0) (fun _ => 0)) fu ((0 : Int), t0) hi hk

theorem fc_cube_Meet (fu : Nat) (t0 : S_api_Cube) (t1 : S_api_Cube) {r : (S_api_Cube × Bool)} (h : F_cube_Meet fu t0 t1 = some r) : FC Try.prog 28 [(S_api_Cube.d t0), (S_api_Cube.d t1)] [] (D.tup (D.cons (S_api_Cube.d r.1) (D.cons (D.bool r.2) D.nil))) [] := by
  refine fc_of_runs (fn := Try.f28) (c := Try.f28.body.getD .skip) (by kernel_rfl) (by kernel_rfl) ?_
  refine runs_to (ts := [0, 1]) (T' := T_cube_Meet) (env' := [(0, (S_api_Cube.d t0)), (1, (S_api_Cube.d t1))]) (h2 := []) (by kernel_rfl) (by kernel_rfl) trivial (Nat.le_refl _) trivial (And.intro (S_api_Cube.inn _) (And.intro (S_api_Cube.inn _) trivial)) ?_
  exact run_cube_Meet fu t0 t1 h rfl

def K_cube_Within (d : D) (r : Bool) : Prop := d = (D.bool r)

noncomputable def T_cube_Within : List Item := norm 200 [.code (Try.f35.body.getD .skip)]

/-- podesta/cube.Within -/
def F_cube_Within (fu : Nat) (t0 : S_api_Cube) (t1 : S_api_Cube) : Option Bool :=
  (F_cube_Meet fu t0 t1).bind fun r0 =>
  some (bif r0.2 then (((List.range 12).all fun i => r0.1.f0 i == t0.f0 i) && (((List.range 12).all fun i => r0.1.f1 i == t0.f1 i) && true)) else false)

theorem run_cube_Within (fu : Nat) (t0 : S_api_Cube) (t1 : S_api_Cube) {d : D} {r : Bool} (h : F_cube_Within fu t0 t1 = some r) (hk : (K_cube_Within d) r) : Runs Try.prog Try.f35 0 T_cube_Within [(0, (S_api_Cube.d t0)), (1, (S_api_Cube.d t1))] [] d [] := by
  unfold F_cube_Within at h
  obtain ⟨r0, cr0, h⟩ := Option.bind_eq_some_iff.1 h
  refine runs_regions 3 [([], [2, 3]), ([(.d (D.tup (D.cons (S_api_Cube.d r0.1) (D.cons (D.bool r0.2) D.nil))))], [2, 5, 6]), ([], [4])] (z := ([FC Try.prog 28 [(S_api_Cube.d t0), (S_api_Cube.d t1)] [] (D.tup (D.cons (S_api_Cube.d r0.1) (D.cons (D.bool r0.2) D.nil))) [], All (List.map NoRow [(S_api_Cube.d t0), (S_api_Cube.d t1)]), (r0.2 = true → All [(r0.2 = true → r0.2 = true), (r0.2 = true → r0.2 = true)]), ((true && r0.2) = true → r0.2 = true)], [(4, (D.bool (bif r0.2 then (((List.range 12).all fun i => r0.1.f0 i == t0.f0 i) && (((List.range 12).all fun i => r0.1.f1 i == t0.f1 i) && true)) else false)))], [some (.box (S_api_Cube.d t0)), some (.box (S_api_Cube.d t1)), some (.box (S_api_Cube.d r0.1))])) rfl (by kernel_rfl) (And.intro (fc_cube_Meet fu t0 t1 cr0) (And.intro (And.intro (S_api_Cube.inn _) (And.intro (S_api_Cube.inn _) trivial)) (And.intro (fun _ => (And.intro (by first | exact fun h => h | exact fun h => (Bool.and_eq_true_iff.1 h).1 | simp_all) (And.intro (by first | exact fun h => h | exact fun h => (Bool.and_eq_true_iff.1 h).1 | simp_all) trivial))) (And.intro (by first | exact fun h => h | exact fun h => (Bool.and_eq_true_iff.1 h).1 | simp_all) trivial)))) ?_
  rw [← Option.some.inj h] at hk
  obtain rfl : d = (D.bool (bif r0.2 then (((List.range 12).all fun i => r0.1.f0 i == t0.f0 i) && (((List.range 12).all fun i => r0.1.f1 i == t0.f1 i) && true)) else false)) := hk
  exact runs_ret (by kernel_rfl) trivial (Nat.le_refl 0) trivial trivial

theorem fc_cube_Within (fu : Nat) (t0 : S_api_Cube) (t1 : S_api_Cube) {r : Bool} (h : F_cube_Within fu t0 t1 = some r) : FC Try.prog 35 [(S_api_Cube.d t0), (S_api_Cube.d t1)] [] (D.bool r) [] := by
  refine fc_of_runs (fn := Try.f35) (c := Try.f35.body.getD .skip) (by kernel_rfl) (by kernel_rfl) ?_
  refine runs_to (ts := [0, 1]) (T' := T_cube_Within) (env' := [(0, (S_api_Cube.d t0)), (1, (S_api_Cube.d t1))]) (h2 := []) (by kernel_rfl) (by kernel_rfl) trivial (Nat.le_refl _) trivial (And.intro (S_api_Cube.inn _) (And.intro (S_api_Cube.inn _) trivial)) ?_
  exact run_cube_Within fu t0 t1 h rfl

def K_ref01_Size (d : D) (r : Int) : Prop := d = (D.int .i64 r)

noncomputable def T_ref01_Size : List Item := norm 200 [.code (Try.f53.body.getD .skip)]

/-- podesta/podestaref01.Size -/
def F_ref01_Size (t0 : Int) : Option Int :=
  ifs (bif (decide (t0 < (0 : Int))) then true else (decide (t0 > (11 : Int)))) (
    some (0 : Int)) (
    chk (0 ≤ t0 ∧ t0 < ((12 : Nat) : Int)) <|
    some ((fun i => ([(16 : Int), (48 : Int), (48 : Int), (16 : Int), (12 : Int), (4 : Int), (32 : Int), (32 : Int), (8 : Int), (8 : Int), (12 : Int), (12 : Int)] : List Int).getD i (0 : Int)) t0.toNat))

theorem run_ref01_Size (t0 : Int) {d : D} {r : Int} (h : F_ref01_Size t0 = some r) (hk : (K_ref01_Size d) r) : Runs Try.prog Try.f53 0 T_ref01_Size [(0, (D.int .i64 t0))] [] d [] := by
  unfold F_ref01_Size at h
  refine runs_regions 2 [([], [0]), ([], [0, 8])] (z := ([((!(decide (t0 < (0 : Int)))) = true → All [((!(decide (t0 < (0 : Int)))) = true → (!(decide (t0 < (0 : Int)))) = true)]), ((true && !(decide (t0 < (0 : Int)))) = true → (!(decide (t0 < (0 : Int)))) = true)], [(0, (D.int .i64 t0)), (8, (D.bool (bif (decide (t0 < (0 : Int))) then true else (decide (t0 > (11 : Int))))))], [])) rfl (by kernel_rfl) (And.intro (fun _ => (And.intro (by first | exact fun h => h | exact fun h => (Bool.and_eq_true_iff.1 h).1 | simp_all) trivial)) (And.intro (by first | exact fun h => h | exact fun h => (Bool.and_eq_true_iff.1 h).1 | simp_all) trivial)) ?_
  refine runs_if (b := (bif (decide (t0 < (0 : Int))) then true else (decide (t0 > (11 : Int))))) (by kernel_rfl) (fun hb => ?_) (fun hb => ?_)
  · replace h := ifs_true h hb
    refine runs_regions 1 [([], [2])] (z := ([], [(2, (D.int .i64 (0 : Int)))], [])) rfl (by kernel_rfl) trivial ?_
    rw [← Option.some.inj h] at hk
    obtain rfl : d = (D.int .i64 (0 : Int)) := hk
    exact runs_ret (by kernel_rfl) trivial (Nat.le_refl 0) trivial trivial
  · replace h := ifs_false h hb
    obtain ⟨p0, h⟩ := chk_some h
    refine runs_regions 1 [([(.lit fun i => (D.int .i64 ((fun i => ([(16 : Int), (48 : Int), (48 : Int), (16 : Int), (12 : Int), (4 : Int), (32 : Int), (32 : Int), (8 : Int), (8 : Int), (12 : Int), (12 : Int)] : List Int).getD i (0 : Int)) i)))], [2])] (z := ([TabOk [(D.int .i64 (16 : Int)), (D.int .i64 (48 : Int)), (D.int .i64 (48 : Int)), (D.int .i64 (16 : Int)), (D.int .i64 (12 : Int)), (D.int .i64 (4 : Int)), (D.int .i64 (32 : Int)), (D.int .i64 (32 : Int)), (D.int .i64 (8 : Int)), (D.int .i64 (8 : Int)), (D.int .i64 (12 : Int)), (D.int .i64 (12 : Int))] 1 (D.arr 12 1 fun i => (D.int .i64 ((fun i => ([(16 : Int), (48 : Int), (48 : Int), (16 : Int), (12 : Int), (4 : Int), (32 : Int), (32 : Int), (8 : Int), (8 : Int), (12 : Int), (12 : Int)] : List Int).getD i (0 : Int)) i))), (0 ≤ t0 ∧ t0 < ((12 : Nat) : Int))], [(2, (D.int .i64 ((fun i => ([(16 : Int), (48 : Int), (48 : Int), (16 : Int), (12 : Int), (4 : Int), (32 : Int), (32 : Int), (8 : Int), (8 : Int), (12 : Int), (12 : Int)] : List Int).getD i (0 : Int)) t0.toNat)))], [])) rfl (by kernel_rfl) (And.intro (tabOk_arr rfl (And.intro rfl (And.intro rfl (And.intro rfl (And.intro rfl (And.intro rfl (And.intro rfl (And.intro rfl (And.intro rfl (And.intro rfl (And.intro rfl (And.intro rfl (And.intro rfl trivial))))))))))))) (And.intro p0 trivial)) ?_
    rw [← Option.some.inj h] at hk
    obtain rfl : d = (D.int .i64 ((fun i => ([(16 : Int), (48 : Int), (48 : Int), (16 : Int), (12 : Int), (4 : Int), (32 : Int), (32 : Int), (8 : Int), (8 : Int), (12 : Int), (12 : Int)] : List Int).getD i (0 : Int)) t0.toNat)) := hk
    exact runs_ret (by kernel_rfl) trivial (Nat.le_refl 0) trivial trivial

theorem fc_ref01_Size (t0 : Int) {r : Int} (h : F_ref01_Size t0 = some r) : FC Try.prog 53 [(D.int .i64 t0)] [] (D.int .i64 r) [] := by
  refine fc_of_runs (fn := Try.f53) (c := Try.f53.body.getD .skip) (by kernel_rfl) (by kernel_rfl) ?_
  refine runs_to (ts := [0]) (T' := T_ref01_Size) (env' := [(0, (D.int .i64 t0))]) (h2 := []) (by kernel_rfl) (by kernel_rfl) trivial (Nat.le_refl _) trivial (And.intro trivial trivial) ?_
  exact run_ref01_Size t0 h rfl

def K_ref01_Fits (d : D) (r : Bool) : Prop := d = (D.bool r)

noncomputable def T_ref01_Fits : List Item := norm 200 [.code (Try.f54.body.getD .skip)]

/-- podesta/podestaref01.Fits -/
def F_ref01_Fits (t0 : Int) (t1 : Int) : Option Bool :=
  chk (0 ≤ (IntKind.wrap .u64 t1)) <|
  some (decide (t0 < (ishl .u64 (1 : Int) (IntKind.wrap .u64 t1))))

theorem run_ref01_Fits (t0 : Int) (t1 : Int) {d : D} {r : Bool} (h : F_ref01_Fits t0 t1 = some r) (hk : (K_ref01_Fits d) r) : Runs Try.prog Try.f54 0 T_ref01_Fits [(0, (D.int .u64 t0)), (1, (D.int .i64 t1))] [] d [] := by
  unfold F_ref01_Fits at h
  obtain ⟨p0, h⟩ := chk_some h
  refine runs_regions 2 [([], [0, 1]), ([], [4])] (z := ([(0 ≤ (IntKind.wrap .u64 t1))], [(4, (D.bool (decide (t0 < (ishl .u64 (1 : Int) (IntKind.wrap .u64 t1))))))], [])) rfl (by kernel_rfl) (And.intro p0 trivial) ?_
  rw [← Option.some.inj h] at hk
  obtain rfl : d = (D.bool (decide (t0 < (ishl .u64 (1 : Int) (IntKind.wrap .u64 t1))))) := hk
  exact runs_ret (by kernel_rfl) trivial (Nat.le_refl 0) trivial trivial

theorem fc_ref01_Fits (t0 : Int) (t1 : Int) {r : Bool} (h : F_ref01_Fits t0 t1 = some r) : FC Try.prog 54 [(D.int .u64 t0), (D.int .i64 t1)] [] (D.bool r) [] := by
  refine fc_of_runs (fn := Try.f54) (c := Try.f54.body.getD .skip) (by kernel_rfl) (by kernel_rfl) ?_
  refine runs_to (ts := [0, 1]) (T' := T_ref01_Fits) (env' := [(0, (D.int .u64 t0)), (1, (D.int .i64 t1))]) (h2 := []) (by kernel_rfl) (by kernel_rfl) trivial (Nat.le_refl _) trivial (And.intro trivial (And.intro trivial trivial)) ?_
  exact run_ref01_Fits t0 t1 h rfl

def K_ref01_Head (d : D) (r : Bool) : Prop := d = (D.bool r)

noncomputable def T_ref01_Head : List Item := norm 200 [.code (Try.f24.body.getD .skip)]

noncomputable def T_ref01_Head_L1 : List Item := norm 200 (nxt (nxt T_ref01_Head))

noncomputable def X_ref01_Head_L1T : List Item := norm 200 (cndF (nxt (nxt (nxt T_ref01_Head))))

abbrev E_ref01_Head_L1 := Unit

def N_ref01_Head_L1 (_fu : Nat) (m0 : (Nat → Int)) (d : D) (s : Int) : Prop := Runs Try.prog Try.f24 0 T_ref01_Head_L1 [(1, (D.ptr 0 [])), (3, (D.int .i64 s))] [some (.box (D.ints .u64 12 m0))] d []

def X_ref01_Head_L1 (_fu : Nat) (_m0 : (Nat → Int)) (d : D) : E_ref01_Head_L1 ⊕ Bool → Prop
  | .inl _ => Runs Try.prog Try.f24 0 X_ref01_Head_L1T [] [] d []
  | .inr o => (K_ref01_Head d) o

def F_ref01_Head_L1 (_fu : Nat) (m0 : (Nat → Int)) (t3 : Int) : Option (Lo Int E_ref01_Head_L1 Bool) :=
  ifs (decide (t3 < (12 : Int))) (
    chk (0 ≤ t3 ∧ t3 < ((12 : Nat) : Int)) <|
    chk (t3.toNat < 12) <|
    (F_ref01_Size t3).bind fun r0 =>
    (F_ref01_Fits (m0 t3.toNat) r0).bind fun r1 =>
    ifs (!r1) (
      some (.ret false)) (
      some (.next (IntKind.wrap .i64 (t3 + (1 : Int)))))) (
    some (.exit ()))

theorem run_ref01_Head_L1 (fu : Nat) (m0 : (Nat → Int)) (t3 : Int) {d : D} {o : (Lo Int E_ref01_Head_L1 Bool)} (h : F_ref01_Head_L1 fu m0 t3 = some o) (hk : (Lo.post (N_ref01_Head_L1 fu m0 d) (X_ref01_Head_L1 fu m0 d)) o) : Runs Try.prog Try.f24 0 T_ref01_Head_L1 [(1, (D.ptr 0 [])), (3, (D.int .i64 t3))] [some (.box (D.ints .u64 12 m0))] d [] := by
  unfold F_ref01_Head_L1 at h
  refine runs_regions 1 [([], [1, 3, 5])] (z := ([], [(1, (D.ptr 0 [])), (3, (D.int .i64 t3)), (5, (D.bool (decide (t3 < (12 : Int)))))], [some (.box (D.ints .u64 12 m0))])) rfl (by kernel_rfl) trivial ?_
  refine runs_if (b := (decide (t3 < (12 : Int)))) (by kernel_rfl) (fun hb => ?_) (fun hb => ?_)
  · replace h := ifs_true h hb
    obtain ⟨p0, h⟩ := chk_some h
    obtain ⟨p1, h⟩ := chk_some h
    obtain ⟨r0, cr0, h⟩ := Option.bind_eq_some_iff.1 h
    obtain ⟨r1, cr1, h⟩ := Option.bind_eq_some_iff.1 h
    refine runs_regions 1 [([(.d (D.int .i64 r0)), (.d (D.bool r1))], [1, 3, 14])] (z := ([(0 ≤ t3 ∧ t3 < ((12 : Nat) : Int)), (t3.toNat < 12), FC Try.prog 53 [(D.int .i64 t3)] [] (D.int .i64 r0) [], All (List.map NoRow [(D.int .i64 t3)]), FC Try.prog 54 [(D.int .u64 (m0 t3.toNat)), (D.int .i64 r0)] [] (D.bool r1) [], All (List.map NoRow [(D.int .u64 (m0 t3.toNat)), (D.int .i64 r0)])], [(1, (D.ptr 0 [])), (3, (D.int .i64 t3)), (14, (D.bool (!r1)))], [some (.box (D.ints .u64 12 m0))])) rfl (by kernel_rfl) (And.intro p0 (And.intro p1 (And.intro (fc_ref01_Size t3 cr0) (And.intro (And.intro trivial trivial) (And.intro (fc_ref01_Fits (m0 t3.toNat) r0 cr1) (And.intro (And.intro trivial (And.intro trivial trivial)) trivial)))))) ?_
    refine runs_if (b := (!r1)) (by kernel_rfl) (fun hb => ?_) (fun hb => ?_)
    · replace h := ifs_true h hb
      refine runs_regions 1 [([], [2])] (z := ([], [(2, (D.bool false))], [some (.box (D.ints .u64 12 m0))])) rfl (by kernel_rfl) trivial ?_
      rw [← Option.some.inj h] at hk
      obtain rfl : d = (D.bool false) := hk
      exact runs_ret (by kernel_rfl) trivial (Nat.le_refl 0) trivial trivial
    · replace h := ifs_false h hb
      refine runs_regions 1 [([], [1, 3])] (z := ([], [(1, (D.ptr 0 [])), (3, (D.int .i64 (IntKind.wrap .i64 (t3 + (1 : Int)))))], [some (.box (D.ints .u64 12 m0))])) rfl (by kernel_rfl) trivial ?_
      rw [← Option.some.inj h] at hk
      refine runs_to (ts := [1, 3]) (T' := T_ref01_Head_L1) (env' := [(1, (D.ptr 0 [])), (3, (D.int .i64 (IntKind.wrap .i64 (t3 + (1 : Int)))))]) (h2 := [some (.box (D.ints .u64 12 m0))]) (by kernel_rfl) (by kernel_rfl) (And.intro (.inr rfl) trivial) (Nat.zero_le _) (And.intro trivial trivial) (And.intro (bel_of rfl) (And.intro trivial trivial)) ?_
      exact hk
  · replace h := ifs_false h hb
    rw [← Option.some.inj h] at hk
    refine runs_to (ts := []) (T' := X_ref01_Head_L1T) (env' := []) (h2 := []) (by kernel_rfl) (by kernel_rfl) trivial (Nat.zero_le _) trivial trivial ?_
    exact hk

theorem iter_ref01_Head_L1 (fu : Nat) (m0 : (Nat → Int)) {d : D} (k : Nat) (s : Int) {o : E_ref01_Head_L1 ⊕ Bool} (h : iter (fun s => F_ref01_Head_L1 fu m0 s) k s = some o) (hx : X_ref01_Head_L1 fu m0 d o) : N_ref01_Head_L1 fu m0 d s :=
  iter_post (K := N_ref01_Head_L1 fu m0 d) (X := X_ref01_Head_L1 fu m0 d) (fun s _ h hk => run_ref01_Head_L1 fu m0 s h hk) k s o h hx

/-- podesta/podestaref01.Head -/
def F_ref01_Head (fu : Nat) (t0 : (Nat → Int)) : Option Bool :=
  after (iter (fun s => F_ref01_Head_L1 fu t0 s) fu (0 : Int)) fun _ =>
  some true

theorem run_ref01_Head (fu : Nat) (t0 : (Nat → Int)) {d : D} {r : Bool} (h : F_ref01_Head fu t0 = some r) (hk : (K_ref01_Head d) r) : Runs Try.prog Try.f24 0 T_ref01_Head [(0, (D.ints .u64 12 t0))] [] d [] := by
  unfold F_ref01_Head at h
  refine runs_regions 2 [([], [1]), ([], [1, 3])] (z := ([], [(1, (D.ptr 0 [])), (3, (D.int .i64 (0 : Int)))], [some (.box (D.ints .u64 12 t0))])) rfl (by kernel_rfl) trivial ?_
  refine runs_to (ts := [1, 3]) (T' := T_ref01_Head_L1) (env' := [(1, (D.ptr 0 [])), (3, (D.int .i64 (0 : Int)))]) (h2 := [some (.box (D.ints .u64 12 t0))]) (by kernel_rfl) (by kernel_rfl) (And.intro (.inr rfl) trivial) (Nat.zero_le _) (And.intro trivial trivial) (And.intro (bel_of rfl) (And.intro trivial trivial)) ?_
  rcases after_some h with ⟨e3, hi, h⟩ | hi
  · refine iter_ref01_Head_L1 fu t0 fu (0 : Int) hi ?_
    show Runs Try.prog Try.f24 0 X_ref01_Head_L1T [] [] d []
    refine runs_regions 1 [([], [2])] (z := ([], [(2, (D.bool true))], [])) rfl (by kernel_rfl) trivial ?_
    rw [← Option.some.inj h] at hk
    obtain rfl : d = (D.bool true) := hk
    exact runs_ret (by kernel_rfl) trivial (Nat.le_refl 0) trivial trivial
  · exact iter_ref01_Head_L1 fu t0 fu (0 : Int) hi hk

theorem fc_ref01_Head (fu : Nat) (t0 : (Nat → Int)) {r : Bool} (h : F_ref01_Head fu t0 = some r) : FC Try.prog 24 [(D.ints .u64 12 t0)] [] (D.bool r) [] := by
  refine fc_of_runs (fn := Try.f24) (c := Try.f24.body.getD .skip) (by kernel_rfl) (by kernel_rfl) ?_
  refine runs_to (ts := [0]) (T' := T_ref01_Head) (env' := [(0, (D.ints .u64 12 t0))]) (h2 := []) (by kernel_rfl) (by kernel_rfl) trivial (Nat.le_refl _) trivial (And.intro trivial trivial) ?_
  exact run_ref01_Head fu t0 h rfl

def K_ref01_Bits (d : D) (r : (Nat × (Nat → Bool))) : Prop := d = (D.lit r.1 1 fun i => (D.bool (r.2 i)))

noncomputable def T_ref01_Bits : List Item := norm 200 [.code (Try.f52.body.getD .skip)]

noncomputable def T_ref01_Bits_L1 : List Item := norm 200 (nxt (nxt (nxt T_ref01_Bits)))

noncomputable def X_ref01_Bits_L1T : List Item := norm 200 (cndF (nxt (nxt (nxt (nxt T_ref01_Bits)))))

abbrev E_ref01_Bits_L1 := (Nat × (Nat → Bool))

def N_ref01_Bits_L1 (_fu : Nat) (t0 : Int) (d : D) (s : (Int × (Nat × (Nat → Bool)))) : Prop := Runs Try.prog Try.f52 0 T_ref01_Bits_L1 [(0, (D.int .u64 t0)), (5, (D.own 0)), (6, (D.int .i64 s.1))] [some (.seq 4 s.2.1 1 (D.arr s.2.1 1 fun i => (D.bool (s.2.2 i))))] d []

def X_ref01_Bits_L1 (_fu : Nat) (_t0 : Int) (d : D) : E_ref01_Bits_L1 ⊕ (Nat × (Nat → Bool)) → Prop
  | .inl e => Runs Try.prog Try.f52 0 X_ref01_Bits_L1T [(5, (D.own 0))] [some (.seq 4 e.1 1 (D.arr e.1 1 fun i => (D.bool (e.2 i))))] d []
  | .inr o => (K_ref01_Bits d) o

def F_ref01_Bits_L1 (_fu : Nat) (t0 : Int) (t6 : Int) (m0 : (Nat × (Nat → Bool))) : Option (Lo (Int × (Nat × (Nat → Bool))) E_ref01_Bits_L1 (Nat × (Nat → Bool))) :=
  ifs (decide (t6 ≥ (0 : Int))) (
    chk (0 ≤ (IntKind.wrap .u64 t6)) <|
    chk (RoomOk (m0.1 + 1) 1) <|
    some (.next ((IntKind.wrap .i64 (t6 - (1 : Int))), ((m0.1 + 1), (fun i => if i < m0.1 then m0.2 i else (fun i => ([((iand .u64 (ishr .u64 t0 (IntKind.wrap .u64 t6)) (1 : Int)) == (1 : Int))] : List Bool).getD i false) (i - m0.1)))))) (
    some (.exit m0))

theorem run_ref01_Bits_L1 (fu : Nat) (t0 : Int) (t6 : Int) (m0 : (Nat × (Nat → Bool))) {d : D} {o : (Lo (Int × (Nat × (Nat → Bool))) E_ref01_Bits_L1 (Nat × (Nat → Bool)))} (h : F_ref01_Bits_L1 fu t0 t6 m0 = some o) (hk : (Lo.post (N_ref01_Bits_L1 fu t0 d) (X_ref01_Bits_L1 fu t0 d)) o) : Runs Try.prog Try.f52 0 T_ref01_Bits_L1 [(0, (D.int .u64 t0)), (5, (D.own 0)), (6, (D.int .i64 t6))] [some (.seq 4 m0.1 1 (D.arr m0.1 1 fun i => (D.bool (m0.2 i))))] d [] := by
  unfold F_ref01_Bits_L1 at h
  refine runs_regions 1 [([], [0, 5, 6, 10])] (z := ([], [(0, (D.int .u64 t0)), (5, (D.own 0)), (6, (D.int .i64 t6)), (10, (D.bool (decide (t6 ≥ (0 : Int)))))], [some (.seq 4 m0.1 1 (D.arr m0.1 1 fun i => (D.bool (m0.2 i))))])) rfl (by kernel_rfl) trivial ?_
  refine runs_if (b := (decide (t6 ≥ (0 : Int)))) (by kernel_rfl) (fun hb => ?_) (fun hb => ?_)
  · replace h := ifs_true h hb
    obtain ⟨p0, h⟩ := chk_some h
    obtain ⟨p1, h⟩ := chk_some h
    refine runs_regions 2 [([(.lit fun i => (D.bool ((fun i => ([((iand .u64 (ishr .u64 t0 (IntKind.wrap .u64 t6)) (1 : Int)) == (1 : Int))] : List Bool).getD i false) i))), (.d (D.arr (m0.1 + 1) 1 fun i1 => (D.bool ((fun i => if i < m0.1 then m0.2 i else (fun i => ([((iand .u64 (ishr .u64 t0 (IntKind.wrap .u64 t6)) (1 : Int)) == (1 : Int))] : List Bool).getD i false) (i - m0.1)) i1))))], [0, 5, 6]), ([], [0, 5, 6])] (z := ([(0 ≤ (IntKind.wrap .u64 t6)), TabOk [(D.bool ((iand .u64 (ishr .u64 t0 (IntKind.wrap .u64 t6)) (1 : Int)) == (1 : Int)))] 1 (D.arr 1 1 fun i1 => (D.bool ((fun i => ([((iand .u64 (ishr .u64 t0 (IntKind.wrap .u64 t6)) (1 : Int)) == (1 : Int))] : List Bool).getD i false) i1))), (RoomOk (m0.1 + 1) 1), CatOk (D.arr m0.1 1 fun i => (D.bool (m0.2 i))) (D.arr 1 1 fun i1 => (D.bool ((fun i => ([((iand .u64 (ishr .u64 t0 (IntKind.wrap .u64 t6)) (1 : Int)) == (1 : Int))] : List Bool).getD i false) i1))) (D.arr (m0.1 + 1) 1 fun i1 => (D.bool ((fun i => if i < m0.1 then m0.2 i else (fun i => ([((iand .u64 (ishr .u64 t0 (IntKind.wrap .u64 t6)) (1 : Int)) == (1 : Int))] : List Bool).getD i false) (i - m0.1)) i1)))], [(0, (D.int .u64 t0)), (5, (D.own 1)), (6, (D.int .i64 (IntKind.wrap .i64 (t6 - (1 : Int)))))], [none, some (.seq 4 (m0.1 + 1) 1 (D.arr (m0.1 + 1) 1 fun i1 => (D.bool ((fun i => if i < m0.1 then m0.2 i else (fun i => ([((iand .u64 (ishr .u64 t0 (IntKind.wrap .u64 t6)) (1 : Int)) == (1 : Int))] : List Bool).getD i false) (i - m0.1)) i1))))])) rfl (by kernel_rfl) (And.intro p0 (And.intro (tabOk_arr rfl (And.intro rfl trivial)) (And.intro p1 (And.intro (catOk_arr' rfl fun i => (d_ite (f := fun x : Bool => (D.bool x)) rfl rfl).symm) trivial)))) ?_
    rw [← Option.some.inj h] at hk
    refine runs_to (ts := [0, 5, 6]) (T' := T_ref01_Bits_L1) (env' := [(0, (D.int .u64 t0)), (5, (D.own 1)), (6, (D.int .i64 (IntKind.wrap .i64 (t6 - (1 : Int)))))]) (h2 := [none, some (.seq 4 (m0.1 + 1) 1 (D.arr (m0.1 + 1) 1 fun i1 => (D.bool ((fun i => if i < m0.1 then m0.2 i else (fun i => ([((iand .u64 (ishr .u64 t0 (IntKind.wrap .u64 t6)) (1 : Int)) == (1 : Int))] : List Bool).getD i false) (i - m0.1)) i1))))]) (by kernel_rfl) (by kernel_rfl) (And.intro (.inl rfl) (And.intro (.inr rfl) trivial)) (Nat.zero_le _) (And.intro (fun _ _ => trivial) trivial) (And.intro trivial (And.intro (bel_of rfl) (And.intro trivial trivial))) ?_
    refine runs_rename 0 1 (row := (.seq 4 (m0.1 + 1) 1 (D.arr (m0.1 + 1) 1 fun i1 => (D.bool ((fun i => if i < m0.1 then m0.2 i else (fun i => ([((iand .u64 (ishr .u64 t0 (IntKind.wrap .u64 t6)) (1 : Int)) == (1 : Int))] : List Bool).getD i false) (i - m0.1)) i1))))) (by decide) (Nat.zero_le _) rfl rfl (And.intro (fun _ _ => trivial) trivial) (And.intro trivial (And.intro (rn_own rfl) (And.intro trivial trivial))) ?_
    refine runs_to (ts := [0, 5, 6]) (T' := T_ref01_Bits_L1) (env' := [(0, (D.int .u64 t0)), (5, (D.own 0)), (6, (D.int .i64 (IntKind.wrap .i64 (t6 - (1 : Int)))))]) (h2 := [some (.seq 4 (m0.1 + 1) 1 (D.arr (m0.1 + 1) 1 fun i1 => (D.bool ((fun i => if i < m0.1 then m0.2 i else (fun i => ([((iand .u64 (ishr .u64 t0 (IntKind.wrap .u64 t6)) (1 : Int)) == (1 : Int))] : List Bool).getD i false) (i - m0.1)) i1))))]) (by kernel_rfl) (by kernel_rfl) (And.intro (.inr rfl) trivial) (Nat.zero_le _) (And.intro (fun _ _ => trivial) trivial) (And.intro trivial (And.intro (bel_of rfl) (And.intro trivial trivial))) ?_
    exact hk
  · replace h := ifs_false h hb
    rw [← Option.some.inj h] at hk
    refine runs_to (ts := [5]) (T' := X_ref01_Bits_L1T) (env' := [(5, (D.own 0))]) (h2 := [some (.seq 4 m0.1 1 (D.arr m0.1 1 fun i => (D.bool (m0.2 i))))]) (by kernel_rfl) (by kernel_rfl) (And.intro (.inr rfl) trivial) (Nat.zero_le _) (And.intro (fun _ _ => trivial) trivial) (And.intro (bel_of rfl) trivial) ?_
    exact hk

theorem iter_ref01_Bits_L1 (fu : Nat) (t0 : Int) {d : D} (k : Nat) (s : (Int × (Nat × (Nat → Bool)))) {o : E_ref01_Bits_L1 ⊕ (Nat × (Nat → Bool))} (h : iter (fun s => F_ref01_Bits_L1 fu t0 s.1 s.2) k s = some o) (hx : X_ref01_Bits_L1 fu t0 d o) : N_ref01_Bits_L1 fu t0 d s :=
  iter_post (K := N_ref01_Bits_L1 fu t0 d) (X := X_ref01_Bits_L1 fu t0 d) (fun s _ h hk => run_ref01_Bits_L1 fu t0 s.1 s.2 h hk) k s o h hx

/-- podesta/podestaref01.Bits -/
def F_ref01_Bits (fu : Nat) (t0 : Int) (t1 : Int) : Option (Nat × (Nat → Bool)) :=
  after (iter (fun s => F_ref01_Bits_L1 fu t0 s.1 s.2) fu ((IntKind.wrap .i64 (t1 - (1 : Int))), (0, (fun _ => false)))) fun e3 =>
  some e3

theorem run_ref01_Bits (fu : Nat) (t0 : Int) (t1 : Int) {d : D} {r : (Nat × (Nat → Bool))} (h : F_ref01_Bits fu t0 t1 = some r) (hk : (K_ref01_Bits d) r) : Runs Try.prog Try.f52 0 T_ref01_Bits [(0, (D.int .u64 t0)), (1, (D.int .i64 t1))] [] d [] := by
  unfold F_ref01_Bits at h
  refine runs_regions 3 [([], [0, 1]), ([(.nil 4 1 (D.arr 0 1 fun i => (D.bool ((fun _ => false) i))))], [0, 1, 5]), ([], [0, 5, 6])] (z := ([EmptyOk (D.arr 0 1 fun i => (D.bool ((fun _ => false) i)))], [(0, (D.int .u64 t0)), (5, (D.own 0)), (6, (D.int .i64 (IntKind.wrap .i64 (t1 - (1 : Int)))))], [some (.seq 4 0 1 (D.arr 0 1 fun i => (D.bool ((fun _ => false) i))))])) rfl (by kernel_rfl) (And.intro emptyOk_arr trivial) ?_
  refine runs_to (ts := [0, 5, 6]) (T' := T_ref01_Bits_L1) (env' := [(0, (D.int .u64 t0)), (5, (D.own 0)), (6, (D.int .i64 (IntKind.wrap .i64 (t1 - (1 : Int)))))]) (h2 := [some (.seq 4 0 1 (D.arr 0 1 fun i => (D.bool ((fun _ => false) i))))]) (by kernel_rfl) (by kernel_rfl) (And.intro (.inr rfl) trivial) (Nat.zero_le _) (And.intro (fun _ _ => trivial) trivial) (And.intro trivial (And.intro (bel_of rfl) (And.intro trivial trivial))) ?_
  rcases after_some h with ⟨e3, hi, h⟩ | hi
  · refine iter_ref01_Bits_L1 fu t0 fu ((IntKind.wrap .i64 (t1 - (1 : Int))), (0, (fun _ => false))) hi ?_
    show Runs Try.prog Try.f52 0 X_ref01_Bits_L1T [(5, (D.own 0))] [some (.seq 4 e3.1 1 (D.arr e3.1 1 fun i => (D.bool (e3.2 i))))] d []
    refine runs_regions 1 [([], [4])] (z := ([], [(4, (D.own 0))], [some (.seq 4 e3.1 1 (D.arr e3.1 1 fun i => (D.bool (e3.2 i))))])) rfl (by kernel_rfl) trivial ?_
    rw [← Option.some.inj h] at hk
    obtain rfl : d = (D.lit e3.1 1 fun i => (D.bool (e3.2 i))) := hk
    refine runs_freeze 0 (row := (.seq 4 e3.1 1 (D.arr e3.1 1 fun i => (D.bool (e3.2 i))))) rfl ?_
    exact runs_ret (by kernel_rfl) trivial (Nat.le_refl 0) trivial (fun _ _ => trivial)
  · exact iter_ref01_Bits_L1 fu t0 fu ((IntKind.wrap .i64 (t1 - (1 : Int))), (0, (fun _ => false))) hi hk

theorem fc_ref01_Bits (fu : Nat) (t0 : Int) (t1 : Int) {r : (Nat × (Nat → Bool))} (h : F_ref01_Bits fu t0 t1 = some r) : FC Try.prog 52 [(D.int .u64 t0), (D.int .i64 t1)] [] (D.lit r.1 1 fun i => (D.bool (r.2 i))) [] := by
  refine fc_of_runs (fn := Try.f52) (c := Try.f52.body.getD .skip) (by kernel_rfl) (by kernel_rfl) ?_
  refine runs_to (ts := [0, 1]) (T' := T_ref01_Bits) (env' := [(0, (D.int .u64 t0)), (1, (D.int .i64 t1))]) (h2 := []) (by kernel_rfl) (by kernel_rfl) trivial (Nat.le_refl _) trivial (And.intro trivial (And.intro trivial trivial)) ?_
  exact run_ref01_Bits fu t0 t1 h rfl

def K_ref01_Text (d : D) (r : (ByteArray × Bool)) : Prop := d = (D.tup (D.cons (D.str r.1) (D.cons (D.bool r.2) D.nil)))

noncomputable def T_ref01_Text : List Item := norm 200 [.code (Try.f22.body.getD .skip)]

noncomputable def T_ref01_Text_L2 : List Item := norm 200 (nxt (nxt (cndF (nxt (cndT (nxt (nxt (nxt (nxt (nxt T_ref01_Text))))))))))

noncomputable def X_ref01_Text_L2T : List Item := norm 200 (cndF (nxt (nxt (nxt (cndF (nxt (cndT (nxt (nxt (nxt (nxt (nxt T_ref01_Text))))))))))))

noncomputable def T_ref01_Text_J1 : List Item := norm 200 (cndF (nxt (cndT (nxt (nxt (nxt (nxt (nxt T_ref01_Text))))))))

noncomputable def T_ref01_Text_L1 : List Item := norm 200 (nxt (nxt (nxt (nxt T_ref01_Text))))

noncomputable def X_ref01_Text_L1T : List Item := norm 200 (cndF (nxt (nxt (nxt (nxt (nxt T_ref01_Text))))))

abbrev E_ref01_Text_L1 := (Bool × (Nat × (Nat → Int)))

def N_ref01_Text_L1 (_fu : Nat) (m0 : S_api_Cube) (d : D) (s : (Bool × Int × (Nat × (Nat → Int)))) : Prop := Runs Try.prog Try.f22 0 T_ref01_Text_L1 [(1, (D.ptr 0 [])), (4, (D.own 1)), (5, (D.bool s.1)), (6, (D.int .i64 s.2.1))] [some (.box (S_api_Cube.d m0)), some (.seq 5 s.2.2.1 1 (D.ints .u8 s.2.2.1 s.2.2.2))] d []

def X_ref01_Text_L1 (_fu : Nat) (_m0 : S_api_Cube) (d : D) : E_ref01_Text_L1 ⊕ (ByteArray × Bool) → Prop
  | .inl e => Runs Try.prog Try.f22 0 X_ref01_Text_L1T [(4, (D.own 1)), (5, (D.bool e.1))] [none, some (.seq 5 e.2.1 1 (D.ints .u8 e.2.1 e.2.2))] d []
  | .inr o => (K_ref01_Text d) o

abbrev E_ref01_Text_L2 := (Nat × (Nat → Int))

def N_ref01_Text_L2 (_fu : Nat) (m0 : S_api_Cube) (t5 : Bool) (t6 : Int) (t7 : (Nat × (Nat → Bool))) (t8 : (Nat × (Nat → Bool))) (d : D) (s : (Int × (Nat × (Nat → Int)))) : Prop := Runs Try.prog Try.f22 0 T_ref01_Text_L2 [(1, (D.ptr 0 [])), (4, (D.own 1)), (5, (D.bool t5)), (6, (D.int .i64 t6)), (7, (D.lit t7.1 1 fun i => (D.bool (t7.2 i)))), (8, (D.lit t8.1 1 fun i => (D.bool (t8.2 i)))), (9, (D.int .i64 s.1))] [some (.box (S_api_Cube.d m0)), some (.seq 5 s.2.1 1 (D.ints .u8 s.2.1 s.2.2))] d []

def X_ref01_Text_L2 (fu : Nat) (m0 : S_api_Cube) (t5 : Bool) (t6 : Int) (_t7 : (Nat × (Nat → Bool))) (_t8 : (Nat × (Nat → Bool))) (d : D) : E_ref01_Text_L2 ⊕ (Lo (Bool × Int × (Nat × (Nat → Int))) E_ref01_Text_L1 (ByteArray × Bool)) → Prop
  | .inl e => Runs Try.prog Try.f22 0 X_ref01_Text_L2T [(1, (D.ptr 0 [])), (4, (D.own 1)), (5, (D.bool t5)), (6, (D.int .i64 t6))] [some (.box (S_api_Cube.d m0)), some (.seq 5 e.1 1 (D.ints .u8 e.1 e.2))] d []
  | .inr o => (Lo.post (N_ref01_Text_L1 fu m0 d) (X_ref01_Text_L1 fu m0 d)) o

def F_ref01_Text_L2 (_fu : Nat) (_m0 : S_api_Cube) (_t5 : Bool) (_t6 : Int) (t7 : (Nat × (Nat → Bool))) (t8 : (Nat × (Nat → Bool))) (t9 : Int) (m1 : (Nat × (Nat → Int))) : Option (Lo (Int × (Nat × (Nat → Int))) E_ref01_Text_L2 (Lo (Bool × Int × (Nat × (Nat → Int))) E_ref01_Text_L1 (ByteArray × Bool))) :=
  ifs (decide (t9 < ((t7.1 : Nat) : Int))) (
    chk (0 ≤ t9 ∧ t9 < ((t8.1 : Nat) : Int)) <|
    ifs (!(t8.2 t9.toNat)) (
      chk (RoomOk (m1.1 + 1) 1) <|
      some (.next ((IntKind.wrap .i64 (t9 + (1 : Int))), ((m1.1 + 1), (fun i => if i < m1.1 then m1.2 i else (fun i => ([(120 : Int)] : List Int).getD i (0 : Int)) (i - m1.1)))))) (
      chk (0 ≤ t9 ∧ t9 < ((t7.1 : Nat) : Int)) <|
      ifs (t7.2 t9.toNat) (
        chk (RoomOk (m1.1 + 1) 1) <|
        some (.next ((IntKind.wrap .i64 (t9 + (1 : Int))), ((m1.1 + 1), (fun i => if i < m1.1 then m1.2 i else (fun i => ([(49 : Int)] : List Int).getD i (0 : Int)) (i - m1.1)))))) (
        chk (RoomOk (m1.1 + 1) 1) <|
        some (.next ((IntKind.wrap .i64 (t9 + (1 : Int))), ((m1.1 + 1), (fun i => if i < m1.1 then m1.2 i else (fun i => ([(48 : Int)] : List Int).getD i (0 : Int)) (i - m1.1)))))))) (
    some (.exit m1))

theorem run_ref01_Text_L2 (fu : Nat) (m0 : S_api_Cube) (t5 : Bool) (t6 : Int) (t7 : (Nat × (Nat → Bool))) (t8 : (Nat × (Nat → Bool))) (t9 : Int) (m1 : (Nat × (Nat → Int))) {d : D} {o : (Lo (Int × (Nat × (Nat → Int))) E_ref01_Text_L2 (Lo (Bool × Int × (Nat × (Nat → Int))) E_ref01_Text_L1 (ByteArray × Bool)))} (h : F_ref01_Text_L2 fu m0 t5 t6 t7 t8 t9 m1 = some o) (hk : (Lo.post (N_ref01_Text_L2 fu m0 t5 t6 t7 t8 d) (X_ref01_Text_L2 fu m0 t5 t6 t7 t8 d)) o) : Runs Try.prog Try.f22 0 T_ref01_Text_L2 [(1, (D.ptr 0 [])), (4, (D.own 1)), (5, (D.bool t5)), (6, (D.int .i64 t6)), (7, (D.lit t7.1 1 fun i => (D.bool (t7.2 i)))), (8, (D.lit t8.1 1 fun i => (D.bool (t8.2 i)))), (9, (D.int .i64 t9))] [some (.box (S_api_Cube.d m0)), some (.seq 5 m1.1 1 (D.ints .u8 m1.1 m1.2))] d [] := by
  unfold F_ref01_Text_L2 at h
  refine runs_regions 1 [([], [1, 4, 5, 6, 7, 8, 9, 44])] (z := ([], [(1, (D.ptr 0 [])), (4, (D.own 1)), (5, (D.bool t5)), (6, (D.int .i64 t6)), (7, (D.lit t7.1 1 fun i => (D.bool (t7.2 i)))), (8, (D.lit t8.1 1 fun i => (D.bool (t8.2 i)))), (9, (D.int .i64 t9)), (44, (D.bool (decide (t9 < ((t7.1 : Nat) : Int)))))], [some (.box (S_api_Cube.d m0)), some (.seq 5 m1.1 1 (D.ints .u8 m1.1 m1.2))])) rfl (by kernel_rfl) trivial ?_
  refine runs_if (b := (decide (t9 < ((t7.1 : Nat) : Int)))) (by kernel_rfl) (fun hb => ?_) (fun hb => ?_)
  · replace h := ifs_true h hb
    obtain ⟨p8, h⟩ := chk_some h
    refine runs_regions 1 [([], [1, 4, 5, 6, 7, 8, 9, 50])] (z := ([(0 ≤ t9 ∧ t9 < ((t8.1 : Nat) : Int))], [(1, (D.ptr 0 [])), (4, (D.own 1)), (5, (D.bool t5)), (6, (D.int .i64 t6)), (7, (D.lit t7.1 1 fun i => (D.bool (t7.2 i)))), (8, (D.lit t8.1 1 fun i => (D.bool (t8.2 i)))), (9, (D.int .i64 t9)), (50, (D.bool (!(t8.2 t9.toNat))))], [some (.box (S_api_Cube.d m0)), some (.seq 5 m1.1 1 (D.ints .u8 m1.1 m1.2))])) rfl (by kernel_rfl) (And.intro p8 trivial) ?_
    refine runs_if (b := (!(t8.2 t9.toNat))) (by kernel_rfl) (fun hb => ?_) (fun hb => ?_)
    · replace h := ifs_true h hb
      obtain ⟨p9, h⟩ := chk_some h
      refine runs_regions 2 [([(.lit fun i => (D.int .u8 ((fun i => ([(120 : Int)] : List Int).getD i (0 : Int)) i))), (.d (D.ints .u8 (m1.1 + 1) (fun i => if i < m1.1 then m1.2 i else (fun i => ([(120 : Int)] : List Int).getD i (0 : Int)) (i - m1.1))))], [1, 4, 5, 6, 7, 8, 9]), ([], [1, 4, 5, 6, 7, 8, 9])] (z := ([TabOk [(D.int .u8 (120 : Int))] 1 (D.arr 1 1 fun i => (D.int .u8 ((fun i => ([(120 : Int)] : List Int).getD i (0 : Int)) i))), (RoomOk (m1.1 + 1) 1), CatOk (D.ints .u8 m1.1 m1.2) (D.arr 1 1 fun i => (D.int .u8 ((fun i => ([(120 : Int)] : List Int).getD i (0 : Int)) i))) (D.ints .u8 (m1.1 + 1) (fun i => if i < m1.1 then m1.2 i else (fun i => ([(120 : Int)] : List Int).getD i (0 : Int)) (i - m1.1)))], [(1, (D.ptr 0 [])), (4, (D.own 2)), (5, (D.bool t5)), (6, (D.int .i64 t6)), (7, (D.lit t7.1 1 fun i => (D.bool (t7.2 i)))), (8, (D.lit t8.1 1 fun i => (D.bool (t8.2 i)))), (9, (D.int .i64 (IntKind.wrap .i64 (t9 + (1 : Int)))))], [some (.box (S_api_Cube.d m0)), none, some (.seq 5 (m1.1 + 1) 1 (D.ints .u8 (m1.1 + 1) (fun i => if i < m1.1 then m1.2 i else (fun i => ([(120 : Int)] : List Int).getD i (0 : Int)) (i - m1.1))))])) rfl (by kernel_rfl) (And.intro (tabOk_arr rfl (And.intro rfl trivial)) (And.intro p9 (And.intro (catOk_ints (f := (fun i => ([(120 : Int)] : List Int).getD i (0 : Int))) rfl) trivial))) ?_
      rw [← Option.some.inj h] at hk
      refine runs_to (ts := [1, 4, 5, 6, 7, 8, 9]) (T' := T_ref01_Text_L2) (env' := [(1, (D.ptr 0 [])), (4, (D.own 2)), (5, (D.bool t5)), (6, (D.int .i64 t6)), (7, (D.lit t7.1 1 fun i => (D.bool (t7.2 i)))), (8, (D.lit t8.1 1 fun i => (D.bool (t8.2 i)))), (9, (D.int .i64 (IntKind.wrap .i64 (t9 + (1 : Int)))))]) (h2 := [some (.box (S_api_Cube.d m0)), none, some (.seq 5 (m1.1 + 1) 1 (D.ints .u8 (m1.1 + 1) (fun i => if i < m1.1 then m1.2 i else (fun i => ([(120 : Int)] : List Int).getD i (0 : Int)) (i - m1.1))))]) (by kernel_rfl) (by kernel_rfl) (And.intro (.inr rfl) (And.intro (.inl rfl) (And.intro (.inr rfl) trivial))) (Nat.zero_le _) (And.intro (S_api_Cube.inn _) (And.intro trivial trivial)) (And.intro (bel_of rfl) (And.intro (bel_of rfl) (And.intro trivial (And.intro trivial (And.intro (fun _ _ => trivial) (And.intro (fun _ _ => trivial) (And.intro trivial trivial))))))) ?_
      refine runs_rename 1 2 (row := (.seq 5 (m1.1 + 1) 1 (D.ints .u8 (m1.1 + 1) (fun i => if i < m1.1 then m1.2 i else (fun i => ([(120 : Int)] : List Int).getD i (0 : Int)) (i - m1.1))))) (by decide) (Nat.zero_le _) rfl rfl (And.intro (S_api_Cube.rnk _) (And.intro trivial trivial)) (And.intro (rn_ptr rfl) (And.intro (rn_own rfl) (And.intro trivial (And.intro trivial (And.intro (fun _ _ => trivial) (And.intro (fun _ _ => trivial) (And.intro trivial trivial))))))) ?_
      refine runs_to (ts := [1, 4, 5, 6, 7, 8, 9]) (T' := T_ref01_Text_L2) (env' := [(1, (D.ptr 0 [])), (4, (D.own 1)), (5, (D.bool t5)), (6, (D.int .i64 t6)), (7, (D.lit t7.1 1 fun i => (D.bool (t7.2 i)))), (8, (D.lit t8.1 1 fun i => (D.bool (t8.2 i)))), (9, (D.int .i64 (IntKind.wrap .i64 (t9 + (1 : Int)))))]) (h2 := [some (.box (S_api_Cube.d m0)), some (.seq 5 (m1.1 + 1) 1 (D.ints .u8 (m1.1 + 1) (fun i => if i < m1.1 then m1.2 i else (fun i => ([(120 : Int)] : List Int).getD i (0 : Int)) (i - m1.1))))]) (by kernel_rfl) (by kernel_rfl) (And.intro (.inr rfl) (And.intro (.inr rfl) trivial)) (Nat.zero_le _) (And.intro (S_api_Cube.inn _) (And.intro trivial trivial)) (And.intro (bel_of rfl) (And.intro (bel_of rfl) (And.intro trivial (And.intro trivial (And.intro (fun _ _ => trivial) (And.intro (fun _ _ => trivial) (And.intro trivial trivial))))))) ?_
      exact hk
    · replace h := ifs_false h hb
      obtain ⟨p10, h⟩ := chk_some h
      refine runs_regions 1 [([], [1, 4, 5, 6, 7, 8, 9, 59])] (z := ([(0 ≤ t9 ∧ t9 < ((t7.1 : Nat) : Int))], [(1, (D.ptr 0 [])), (4, (D.own 1)), (5, (D.bool t5)), (6, (D.int .i64 t6)), (7, (D.lit t7.1 1 fun i => (D.bool (t7.2 i)))), (8, (D.lit t8.1 1 fun i => (D.bool (t8.2 i)))), (9, (D.int .i64 t9)), (59, (D.bool (t7.2 t9.toNat)))], [some (.box (S_api_Cube.d m0)), some (.seq 5 m1.1 1 (D.ints .u8 m1.1 m1.2))])) rfl (by kernel_rfl) (And.intro p10 trivial) ?_
      refine runs_if (b := (t7.2 t9.toNat)) (by kernel_rfl) (fun hb => ?_) (fun hb => ?_)
      · replace h := ifs_true h hb
        obtain ⟨p11, h⟩ := chk_some h
        refine runs_regions 2 [([(.lit fun i => (D.int .u8 ((fun i => ([(49 : Int)] : List Int).getD i (0 : Int)) i))), (.d (D.ints .u8 (m1.1 + 1) (fun i => if i < m1.1 then m1.2 i else (fun i => ([(49 : Int)] : List Int).getD i (0 : Int)) (i - m1.1))))], [1, 4, 5, 6, 7, 8, 9]), ([], [1, 4, 5, 6, 7, 8, 9])] (z := ([TabOk [(D.int .u8 (49 : Int))] 1 (D.arr 1 1 fun i => (D.int .u8 ((fun i => ([(49 : Int)] : List Int).getD i (0 : Int)) i))), (RoomOk (m1.1 + 1) 1), CatOk (D.ints .u8 m1.1 m1.2) (D.arr 1 1 fun i => (D.int .u8 ((fun i => ([(49 : Int)] : List Int).getD i (0 : Int)) i))) (D.ints .u8 (m1.1 + 1) (fun i => if i < m1.1 then m1.2 i else (fun i => ([(49 : Int)] : List Int).getD i (0 : Int)) (i - m1.1)))], [(1, (D.ptr 0 [])), (4, (D.own 2)), (5, (D.bool t5)), (6, (D.int .i64 t6)), (7, (D.lit t7.1 1 fun i => (D.bool (t7.2 i)))), (8, (D.lit t8.1 1 fun i => (D.bool (t8.2 i)))), (9, (D.int .i64 (IntKind.wrap .i64 (t9 + (1 : Int)))))], [some (.box (S_api_Cube.d m0)), none, some (.seq 5 (m1.1 + 1) 1 (D.ints .u8 (m1.1 + 1) (fun i => if i < m1.1 then m1.2 i else (fun i => ([(49 : Int)] : List Int).getD i (0 : Int)) (i - m1.1))))])) rfl (by kernel_rfl) (And.intro (tabOk_arr rfl (And.intro rfl trivial)) (And.intro p11 (And.intro (catOk_ints (f := (fun i => ([(49 : Int)] : List Int).getD i (0 : Int))) rfl) trivial))) ?_
        rw [← Option.some.inj h] at hk
        refine runs_to (ts := [1, 4, 5, 6, 7, 8, 9]) (T' := T_ref01_Text_L2) (env' := [(1, (D.ptr 0 [])), (4, (D.own 2)), (5, (D.bool t5)), (6, (D.int .i64 t6)), (7, (D.lit t7.1 1 fun i => (D.bool (t7.2 i)))), (8, (D.lit t8.1 1 fun i => (D.bool (t8.2 i)))), (9, (D.int .i64 (IntKind.wrap .i64 (t9 + (1 : Int)))))]) (h2 := [some (.box (S_api_Cube.d m0)), none, some (.seq 5 (m1.1 + 1) 1 (D.ints .u8 (m1.1 + 1) (fun i => if i < m1.1 then m1.2 i else (fun i => ([(49 : Int)] : List Int).getD i (0 : Int)) (i - m1.1))))]) (by kernel_rfl) (by kernel_rfl) (And.intro (.inr rfl) (And.intro (.inl rfl) (And.intro (.inr rfl) trivial))) (Nat.zero_le _) (And.intro (S_api_Cube.inn _) (And.intro trivial trivial)) (And.intro (bel_of rfl) (And.intro (bel_of rfl) (And.intro trivial (And.intro trivial (And.intro (fun _ _ => trivial) (And.intro (fun _ _ => trivial) (And.intro trivial trivial))))))) ?_
        refine runs_rename 1 2 (row := (.seq 5 (m1.1 + 1) 1 (D.ints .u8 (m1.1 + 1) (fun i => if i < m1.1 then m1.2 i else (fun i => ([(49 : Int)] : List Int).getD i (0 : Int)) (i - m1.1))))) (by decide) (Nat.zero_le _) rfl rfl (And.intro (S_api_Cube.rnk _) (And.intro trivial trivial)) (And.intro (rn_ptr rfl) (And.intro (rn_own rfl) (And.intro trivial (And.intro trivial (And.intro (fun _ _ => trivial) (And.intro (fun _ _ => trivial) (And.intro trivial trivial))))))) ?_
        refine runs_to (ts := [1, 4, 5, 6, 7, 8, 9]) (T' := T_ref01_Text_L2) (env' := [(1, (D.ptr 0 [])), (4, (D.own 1)), (5, (D.bool t5)), (6, (D.int .i64 t6)), (7, (D.lit t7.1 1 fun i => (D.bool (t7.2 i)))), (8, (D.lit t8.1 1 fun i => (D.bool (t8.2 i)))), (9, (D.int .i64 (IntKind.wrap .i64 (t9 + (1 : Int)))))]) (h2 := [some (.box (S_api_Cube.d m0)), some (.seq 5 (m1.1 + 1) 1 (D.ints .u8 (m1.1 + 1) (fun i => if i < m1.1 then m1.2 i else (fun i => ([(49 : Int)] : List Int).getD i (0 : Int)) (i - m1.1))))]) (by kernel_rfl) (by kernel_rfl) (And.intro (.inr rfl) (And.intro (.inr rfl) trivial)) (Nat.zero_le _) (And.intro (S_api_Cube.inn _) (And.intro trivial trivial)) (And.intro (bel_of rfl) (And.intro (bel_of rfl) (And.intro trivial (And.intro trivial (And.intro (fun _ _ => trivial) (And.intro (fun _ _ => trivial) (And.intro trivial trivial))))))) ?_
        exact hk
      · replace h := ifs_false h hb
        obtain ⟨p12, h⟩ := chk_some h
        refine runs_regions 2 [([(.lit fun i => (D.int .u8 ((fun i => ([(48 : Int)] : List Int).getD i (0 : Int)) i))), (.d (D.ints .u8 (m1.1 + 1) (fun i => if i < m1.1 then m1.2 i else (fun i => ([(48 : Int)] : List Int).getD i (0 : Int)) (i - m1.1))))], [1, 4, 5, 6, 7, 8, 9]), ([], [1, 4, 5, 6, 7, 8, 9])] (z := ([TabOk [(D.int .u8 (48 : Int))] 1 (D.arr 1 1 fun i => (D.int .u8 ((fun i => ([(48 : Int)] : List Int).getD i (0 : Int)) i))), (RoomOk (m1.1 + 1) 1), CatOk (D.ints .u8 m1.1 m1.2) (D.arr 1 1 fun i => (D.int .u8 ((fun i => ([(48 : Int)] : List Int).getD i (0 : Int)) i))) (D.ints .u8 (m1.1 + 1) (fun i => if i < m1.1 then m1.2 i else (fun i => ([(48 : Int)] : List Int).getD i (0 : Int)) (i - m1.1)))], [(1, (D.ptr 0 [])), (4, (D.own 2)), (5, (D.bool t5)), (6, (D.int .i64 t6)), (7, (D.lit t7.1 1 fun i => (D.bool (t7.2 i)))), (8, (D.lit t8.1 1 fun i => (D.bool (t8.2 i)))), (9, (D.int .i64 (IntKind.wrap .i64 (t9 + (1 : Int)))))], [some (.box (S_api_Cube.d m0)), none, some (.seq 5 (m1.1 + 1) 1 (D.ints .u8 (m1.1 + 1) (fun i => if i < m1.1 then m1.2 i else (fun i => ([(48 : Int)] : List Int).getD i (0 : Int)) (i - m1.1))))])) rfl (by kernel_rfl) (And.intro (tabOk_arr rfl (And.intro rfl trivial)) (And.intro p12 (And.intro (catOk_ints (f := (fun i => ([(48 : Int)] : List Int).getD i (0 : Int))) rfl) trivial))) ?_
        rw [← Option.some.inj h] at hk
        refine runs_to (ts := [1, 4, 5, 6, 7, 8, 9]) (T' := T_ref01_Text_L2) (env' := [(1, (D.ptr 0 [])), (4, (D.own 2)), (5, (D.bool t5)), (6, (D.int .i64 t6)), (7, (D.lit t7.1 1 fun i => (D.bool (t7.2 i)))), (8, (D.lit t8.1 1 fun i => (D.bool (t8.2 i)))), (9, (D.int .i64 (IntKind.wrap .i64 (t9 + (1 : Int)))))]) (h2 := [some (.box (S_api_Cube.d m0)), none, some (.seq 5 (m1.1 + 1) 1 (D.ints .u8 (m1.1 + 1) (fun i => if i < m1.1 then m1.2 i else (fun i => ([(48 : Int)] : List Int).getD i (0 : Int)) (i - m1.1))))]) (by kernel_rfl) (by kernel_rfl) (And.intro (.inr rfl) (And.intro (.inl rfl) (And.intro (.inr rfl) trivial))) (Nat.zero_le _) (And.intro (S_api_Cube.inn _) (And.intro trivial trivial)) (And.intro (bel_of rfl) (And.intro (bel_of rfl) (And.intro trivial (And.intro trivial (And.intro (fun _ _ => trivial) (And.intro (fun _ _ => trivial) (And.intro trivial trivial))))))) ?_
        refine runs_rename 1 2 (row := (.seq 5 (m1.1 + 1) 1 (D.ints .u8 (m1.1 + 1) (fun i => if i < m1.1 then m1.2 i else (fun i => ([(48 : Int)] : List Int).getD i (0 : Int)) (i - m1.1))))) (by decide) (Nat.zero_le _) rfl rfl (And.intro (S_api_Cube.rnk _) (And.intro trivial trivial)) (And.intro (rn_ptr rfl) (And.intro (rn_own rfl) (And.intro trivial (And.intro trivial (And.intro (fun _ _ => trivial) (And.intro (fun _ _ => trivial) (And.intro trivial trivial))))))) ?_
        refine runs_to (ts := [1, 4, 5, 6, 7, 8, 9]) (T' := T_ref01_Text_L2) (env' := [(1, (D.ptr 0 [])), (4, (D.own 1)), (5, (D.bool t5)), (6, (D.int .i64 t6)), (7, (D.lit t7.1 1 fun i => (D.bool (t7.2 i)))), (8, (D.lit t8.1 1 fun i => (D.bool (t8.2 i)))), (9, (D.int .i64 (IntKind.wrap .i64 (t9 + (1 : Int)))))]) (h2 := [some (.box (S_api_Cube.d m0)), some (.seq 5 (m1.1 + 1) 1 (D.ints .u8 (m1.1 + 1) (fun i => if i < m1.1 then m1.2 i else (fun i => ([(48 : Int)] : List Int).getD i (0 : Int)) (i - m1.1))))]) (by kernel_rfl) (by kernel_rfl) (And.intro (.inr rfl) (And.intro (.inr rfl) trivial)) (Nat.zero_le _) (And.intro (S_api_Cube.inn _) (And.intro trivial trivial)) (And.intro (bel_of rfl) (And.intro (bel_of rfl) (And.intro trivial (And.intro trivial (And.intro (fun _ _ => trivial) (And.intro (fun _ _ => trivial) (And.intro trivial trivial))))))) ?_
        exact hk
  · replace h := ifs_false h hb
    rw [← Option.some.inj h] at hk
    refine runs_to (ts := [1, 4, 5, 6]) (T' := X_ref01_Text_L2T) (env' := [(1, (D.ptr 0 [])), (4, (D.own 1)), (5, (D.bool t5)), (6, (D.int .i64 t6))]) (h2 := [some (.box (S_api_Cube.d m0)), some (.seq 5 m1.1 1 (D.ints .u8 m1.1 m1.2))]) (by kernel_rfl) (by kernel_rfl) (And.intro (.inr rfl) (And.intro (.inr rfl) trivial)) (Nat.zero_le _) (And.intro (S_api_Cube.inn _) (And.intro trivial trivial)) (And.intro (bel_of rfl) (And.intro (bel_of rfl) (And.intro trivial (And.intro trivial trivial)))) ?_
    exact hk

theorem iter_ref01_Text_L2 (fu : Nat) (m0 : S_api_Cube) (t5 : Bool) (t6 : Int) (t7 : (Nat × (Nat → Bool))) (t8 : (Nat × (Nat → Bool))) {d : D} (k : Nat) (s : (Int × (Nat × (Nat → Int)))) {o : E_ref01_Text_L2 ⊕ (Lo (Bool × Int × (Nat × (Nat → Int))) E_ref01_Text_L1 (ByteArray × Bool))} (h : iter (fun s => F_ref01_Text_L2 fu m0 t5 t6 t7 t8 s.1 s.2) k s = some o) (hx : X_ref01_Text_L2 fu m0 t5 t6 t7 t8 d o) : N_ref01_Text_L2 fu m0 t5 t6 t7 t8 d s :=
  iter_post (K := N_ref01_Text_L2 fu m0 t5 t6 t7 t8 d) (X := X_ref01_Text_L2 fu m0 t5 t6 t7 t8 d) (fun s _ h hk => run_ref01_Text_L2 fu m0 t5 t6 t7 t8 s.1 s.2 h hk) k s o h hx

def F_ref01_Text_J1 (fu : Nat) (m0 : S_api_Cube) (t5 : Bool) (t6 : Int) (m1 : (Nat × (Nat → Int))) : Option (Lo (Bool × Int × (Nat × (Nat → Int))) E_ref01_Text_L1 (ByteArray × Bool)) :=
  chk (0 ≤ t6 ∧ t6 < ((12 : Nat) : Int)) <|
  chk (t6.toNat < 12) <|
  (F_ref01_Size t6).bind fun r1 =>
  (F_ref01_Bits fu (m0.f0 t6.toNat) r1).bind fun r2 =>
  chk (0 ≤ t6 ∧ t6 < ((12 : Nat) : Int)) <|
  chk (t6.toNat < 12) <|
  (F_ref01_Size t6).bind fun r3 =>
  (F_ref01_Bits fu (m0.f1 t6.toNat) r3).bind fun r4 =>
  after (iter (fun s => F_ref01_Text_L2 fu m0 t5 t6 r2 r4 s.1 s.2) fu ((0 : Int), m1)) fun e14 =>
  some (.next (t5, (IntKind.wrap .i64 (t6 + (1 : Int))), e14))

theorem run_ref01_Text_J1 (fu : Nat) (m0 : S_api_Cube) (t5 : Bool) (t6 : Int) (m1 : (Nat × (Nat → Int))) {d : D} {o : (Lo (Bool × Int × (Nat × (Nat → Int))) E_ref01_Text_L1 (ByteArray × Bool))} (h : F_ref01_Text_J1 fu m0 t5 t6 m1 = some o) (hk : (Lo.post (N_ref01_Text_L1 fu m0 d) (X_ref01_Text_L1 fu m0 d)) o) : Runs Try.prog Try.f22 0 T_ref01_Text_J1 [(1, (D.ptr 0 [])), (4, (D.own 1)), (5, (D.bool t5)), (6, (D.int .i64 t6))] [some (.box (S_api_Cube.d m0)), some (.seq 5 m1.1 1 (D.ints .u8 m1.1 m1.2))] d [] := by
  unfold F_ref01_Text_J1 at h
  obtain ⟨p4, h⟩ := chk_some h
  obtain ⟨p5, h⟩ := chk_some h
  obtain ⟨r1, cr1, h⟩ := Option.bind_eq_some_iff.1 h
  obtain ⟨r2, cr2, h⟩ := Option.bind_eq_some_iff.1 h
  obtain ⟨p6, h⟩ := chk_some h
  obtain ⟨p7, h⟩ := chk_some h
  obtain ⟨r3, cr3, h⟩ := Option.bind_eq_some_iff.1 h
  obtain ⟨r4, cr4, h⟩ := Option.bind_eq_some_iff.1 h
  refine runs_regions 2 [([(.d (D.int .i64 r1)), (.d (D.lit r2.1 1 fun i => (D.bool (r2.2 i)))), (.d (D.int .i64 r3)), (.d (D.lit r4.1 1 fun i => (D.bool (r4.2 i))))], [1, 4, 5, 6, 7, 8]), ([], [1, 4, 5, 6, 7, 8, 9])] (z := ([(0 ≤ t6 ∧ t6 < ((12 : Nat) : Int)), (t6.toNat < 12), FC Try.prog 53 [(D.int .i64 t6)] [] (D.int .i64 r1) [], All (List.map NoRow [(D.int .i64 t6)]), FC Try.prog 52 [(D.int .u64 (m0.f0 t6.toNat)), (D.int .i64 r1)] [] (D.lit r2.1 1 fun i => (D.bool (r2.2 i))) [], All (List.map NoRow [(D.int .u64 (m0.f0 t6.toNat)), (D.int .i64 r1)]), (0 ≤ t6 ∧ t6 < ((12 : Nat) : Int)), (t6.toNat < 12), FC Try.prog 53 [(D.int .i64 t6)] [] (D.int .i64 r3) [], All (List.map NoRow [(D.int .i64 t6)]), FC Try.prog 52 [(D.int .u64 (m0.f1 t6.toNat)), (D.int .i64 r3)] [] (D.lit r4.1 1 fun i => (D.bool (r4.2 i))) [], All (List.map NoRow [(D.int .u64 (m0.f1 t6.toNat)), (D.int .i64 r3)])], [(1, (D.ptr 0 [])), (4, (D.own 1)), (5, (D.bool t5)), (6, (D.int .i64 t6)), (7, (D.lit r2.1 1 fun i => (D.bool (r2.2 i)))), (8, (D.lit r4.1 1 fun i => (D.bool (r4.2 i)))), (9, (D.int .i64 (0 : Int)))], [some (.box (S_api_Cube.d m0)), some (.seq 5 m1.1 1 (D.ints .u8 m1.1 m1.2))])) rfl (by kernel_rfl) (And.intro p4 (And.intro p5 (And.intro (fc_ref01_Size t6 cr1) (And.intro (And.intro trivial trivial) (And.intro (fc_ref01_Bits fu (m0.f0 t6.toNat) r1 cr2) (And.intro (And.intro trivial (And.intro trivial trivial)) (And.intro p6 (And.intro p7 (And.intro (fc_ref01_Size t6 cr3) (And.intro (And.intro trivial trivial) (And.intro (fc_ref01_Bits fu (m0.f1 t6.toNat) r3 cr4) (And.intro (And.intro trivial (And.intro trivial trivial)) trivial)))))))))))) ?_
  refine runs_to (ts := [1, 4, 5, 6, 7, 8, 9]) (T' := T_ref01_Text_L2) (env' := [(1, (D.ptr 0 [])), (4, (D.own 1)), (5, (D.bool t5)), (6, (D.int .i64 t6)), (7, (D.lit r2.1 1 fun i => (D.bool (r2.2 i)))), (8, (D.lit r4.1 1 fun i => (D.bool (r4.2 i)))), (9, (D.int .i64 (0 : Int)))]) (h2 := [some (.box (S_api_Cube.d m0)), some (.seq 5 m1.1 1 (D.ints .u8 m1.1 m1.2))]) (by kernel_rfl) (by kernel_rfl) (And.intro (.inr rfl) (And.intro (.inr rfl) trivial)) (Nat.zero_le _) (And.intro (S_api_Cube.inn _) (And.intro trivial trivial)) (And.intro (bel_of rfl) (And.intro (bel_of rfl) (And.intro trivial (And.intro trivial (And.intro (fun _ _ => trivial) (And.intro (fun _ _ => trivial) (And.intro trivial trivial))))))) ?_
  rcases after_some h with ⟨e14, hi, h⟩ | hi
  · refine iter_ref01_Text_L2 fu m0 t5 t6 r2 r4 fu ((0 : Int), m1) hi ?_
    show Runs Try.prog Try.f22 0 X_ref01_Text_L2T [(1, (D.ptr 0 [])), (4, (D.own 1)), (5, (D.bool t5)), (6, (D.int .i64 t6))] [some (.box (S_api_Cube.d m0)), some (.seq 5 e14.1 1 (D.ints .u8 e14.1 e14.2))] d []
    refine runs_regions 1 [([], [1, 4, 5, 6])] (z := ([], [(1, (D.ptr 0 [])), (4, (D.own 1)), (5, (D.bool t5)), (6, (D.int .i64 (IntKind.wrap .i64 (t6 + (1 : Int)))))], [some (.box (S_api_Cube.d m0)), some (.seq 5 e14.1 1 (D.ints .u8 e14.1 e14.2))])) rfl (by kernel_rfl) trivial ?_
    rw [← Option.some.inj h] at hk
    refine runs_to (ts := [1, 4, 5, 6]) (T' := T_ref01_Text_L1) (env' := [(1, (D.ptr 0 [])), (4, (D.own 1)), (5, (D.bool t5)), (6, (D.int .i64 (IntKind.wrap .i64 (t6 + (1 : Int)))))]) (h2 := [some (.box (S_api_Cube.d m0)), some (.seq 5 e14.1 1 (D.ints .u8 e14.1 e14.2))]) (by kernel_rfl) (by kernel_rfl) (And.intro (.inr rfl) (And.intro (.inr rfl) trivial)) (Nat.zero_le _) (And.intro (S_api_Cube.inn _) (And.intro trivial trivial)) (And.intro (bel_of rfl) (And.intro (bel_of rfl) (And.intro trivial (And.intro trivial trivial)))) ?_
    exact hk
  · exact iter_ref01_Text_L2 fu m0 t5 t6 r2 r4 fu ((0 : Int), m1) hi hk

def F_ref01_Text_L1 (fu : Nat) (m0 : S_api_Cube) (t5 : Bool) (t6 : Int) (m1 : (Nat × (Nat → Int))) : Option (Lo (Bool × Int × (Nat × (Nat → Int))) E_ref01_Text_L1 (ByteArray × Bool)) :=
  ifs (decide (t6 < (12 : Int))) (
    chk (0 ≤ t6 ∧ t6 < ((12 : Nat) : Int)) <|
    chk (t6.toNat < 12) <|
    chk (0 ≤ t6 ∧ t6 < ((12 : Nat) : Int)) <|
    chk (t6.toNat < 12) <|
    ifs ((iandn .u64 (m0.f0 t6.toNat) (m0.f1 t6.toNat)) != (0 : Int)) (
      F_ref01_Text_J1 fu m0 false t6 m1) (
      F_ref01_Text_J1 fu m0 t5 t6 m1)) (
    some (.exit (t5, m1)))

theorem run_ref01_Text_L1 (fu : Nat) (m0 : S_api_Cube) (t5 : Bool) (t6 : Int) (m1 : (Nat × (Nat → Int))) {d : D} {o : (Lo (Bool × Int × (Nat × (Nat → Int))) E_ref01_Text_L1 (ByteArray × Bool))} (h : F_ref01_Text_L1 fu m0 t5 t6 m1 = some o) (hk : (Lo.post (N_ref01_Text_L1 fu m0 d) (X_ref01_Text_L1 fu m0 d)) o) : Runs Try.prog Try.f22 0 T_ref01_Text_L1 [(1, (D.ptr 0 [])), (4, (D.own 1)), (5, (D.bool t5)), (6, (D.int .i64 t6))] [some (.box (S_api_Cube.d m0)), some (.seq 5 m1.1 1 (D.ints .u8 m1.1 m1.2))] d [] := by
  unfold F_ref01_Text_L1 at h
  refine runs_regions 1 [([], [1, 4, 5, 6, 14])] (z := ([], [(1, (D.ptr 0 [])), (4, (D.own 1)), (5, (D.bool t5)), (6, (D.int .i64 t6)), (14, (D.bool (decide (t6 < (12 : Int)))))], [some (.box (S_api_Cube.d m0)), some (.seq 5 m1.1 1 (D.ints .u8 m1.1 m1.2))])) rfl (by kernel_rfl) trivial ?_
  refine runs_if (b := (decide (t6 < (12 : Int)))) (by kernel_rfl) (fun hb => ?_) (fun hb => ?_)
  · replace h := ifs_true h hb
    obtain ⟨p0, h⟩ := chk_some h
    obtain ⟨p1, h⟩ := chk_some h
    obtain ⟨p2, h⟩ := chk_some h
    obtain ⟨p3, h⟩ := chk_some h
    refine runs_regions 1 [([], [1, 4, 5, 6, 26])] (z := ([(0 ≤ t6 ∧ t6 < ((12 : Nat) : Int)), (t6.toNat < 12), (0 ≤ t6 ∧ t6 < ((12 : Nat) : Int)), (t6.toNat < 12)], [(1, (D.ptr 0 [])), (4, (D.own 1)), (5, (D.bool t5)), (6, (D.int .i64 t6)), (26, (D.bool ((iandn .u64 (m0.f0 t6.toNat) (m0.f1 t6.toNat)) != (0 : Int))))], [some (.box (S_api_Cube.d m0)), some (.seq 5 m1.1 1 (D.ints .u8 m1.1 m1.2))])) rfl (by kernel_rfl) (And.intro p0 (And.intro p1 (And.intro p2 (And.intro p3 trivial)))) ?_
    refine runs_if (b := ((iandn .u64 (m0.f0 t6.toNat) (m0.f1 t6.toNat)) != (0 : Int))) (by kernel_rfl) (fun hb => ?_) (fun hb => ?_)
    · replace h := ifs_true h hb
      refine runs_regions 1 [([], [1, 4, 5, 6])] (z := ([], [(1, (D.ptr 0 [])), (4, (D.own 1)), (5, (D.bool false)), (6, (D.int .i64 t6))], [some (.box (S_api_Cube.d m0)), some (.seq 5 m1.1 1 (D.ints .u8 m1.1 m1.2))])) rfl (by kernel_rfl) trivial ?_
      refine runs_to (ts := [1, 4, 5, 6]) (T' := T_ref01_Text_J1) (env' := [(1, (D.ptr 0 [])), (4, (D.own 1)), (5, (D.bool false)), (6, (D.int .i64 t6))]) (h2 := [some (.box (S_api_Cube.d m0)), some (.seq 5 m1.1 1 (D.ints .u8 m1.1 m1.2))]) (by kernel_rfl) (by kernel_rfl) (And.intro (.inr rfl) (And.intro (.inr rfl) trivial)) (Nat.zero_le _) (And.intro (S_api_Cube.inn _) (And.intro trivial trivial)) (And.intro (bel_of rfl) (And.intro (bel_of rfl) (And.intro trivial (And.intro trivial trivial)))) ?_
      exact run_ref01_Text_J1 fu m0 false t6 m1 h hk
    · replace h := ifs_false h hb
      refine runs_to (ts := [1, 4, 5, 6]) (T' := T_ref01_Text_J1) (env' := [(1, (D.ptr 0 [])), (4, (D.own 1)), (5, (D.bool t5)), (6, (D.int .i64 t6))]) (h2 := [some (.box (S_api_Cube.d m0)), some (.seq 5 m1.1 1 (D.ints .u8 m1.1 m1.2))]) (by kernel_rfl) (by kernel_rfl) (And.intro (.inr rfl) (And.intro (.inr rfl) trivial)) (Nat.zero_le _) (And.intro (S_api_Cube.inn _) (And.intro trivial trivial)) (And.intro (bel_of rfl) (And.intro (bel_of rfl) (And.intro trivial (And.intro trivial trivial)))) ?_
      exact run_ref01_Text_J1 fu m0 t5 t6 m1 h hk
  · replace h := ifs_false h hb
    rw [← Option.some.inj h] at hk
    refine runs_to (ts := [4, 5]) (T' := X_ref01_Text_L1T) (env' := [(4, (D.own 1)), (5, (D.bool t5))]) (h2 := [none, some (.seq 5 m1.1 1 (D.ints .u8 m1.1 m1.2))]) (by kernel_rfl) (by kernel_rfl) (And.intro (.inl rfl) (And.intro (.inr rfl) trivial)) (Nat.zero_le _) (And.intro trivial trivial) (And.intro (bel_of rfl) (And.intro trivial trivial)) ?_
    exact hk

theorem iter_ref01_Text_L1 (fu : Nat) (m0 : S_api_Cube) {d : D} (k : Nat) (s : (Bool × Int × (Nat × (Nat → Int)))) {o : E_ref01_Text_L1 ⊕ (ByteArray × Bool)} (h : iter (fun s => F_ref01_Text_L1 fu m0 s.1 s.2.1 s.2.2) k s = some o) (hx : X_ref01_Text_L1 fu m0 d o) : N_ref01_Text_L1 fu m0 d s :=
  iter_post (K := N_ref01_Text_L1 fu m0 d) (X := X_ref01_Text_L1 fu m0 d) (fun s _ h hk => run_ref01_Text_L1 fu m0 s.1 s.2.1 s.2.2 h hk) k s o h hx

/-- podesta/podestaref01.Text -/
def F_ref01_Text (fu : Nat) (t0 : S_api_Cube) : Option (ByteArray × Bool) :=
  (F_ref01_Head fu t0.f1).bind fun r0 =>
  after (iter (fun s => F_ref01_Text_L1 fu t0 s.1 s.2.1 s.2.2) fu (r0, (0 : Int), (0, (fun _ => 0)))) fun e15 =>
  some ((bytesOf e15.2.1 e15.2.2), e15.1)

theorem run_ref01_Text (fu : Nat) (t0 : S_api_Cube) {d : D} {r : (ByteArray × Bool)} (h : F_ref01_Text fu t0 = some r) (hk : (K_ref01_Text d) r) : Runs Try.prog Try.f22 0 T_ref01_Text [(0, (S_api_Cube.d t0))] [] d [] := by
  unfold F_ref01_Text at h
  obtain ⟨r0, cr0, h⟩ := Option.bind_eq_some_iff.1 h
  refine runs_regions 4 [([], [1]), ([(.nil 5 1 (D.ints .u8 0 (fun _ => 0)))], [1, 4]), ([(.d (D.bool r0))], [1, 4, 5]), ([], [1, 4, 5, 6])] (z := ([EmptyOk (D.ints .u8 0 (fun _ => 0)), FC Try.prog 24 [(D.ints .u64 12 t0.f1)] [] (D.bool r0) [], All (List.map NoRow [(D.ints .u64 12 t0.f1)])], [(1, (D.ptr 0 [])), (4, (D.own 1)), (5, (D.bool r0)), (6, (D.int .i64 (0 : Int)))], [some (.box (S_api_Cube.d t0)), some (.seq 5 0 1 (D.ints .u8 0 (fun _ => 0)))])) rfl (by kernel_rfl) (And.intro emptyOk_ints (And.intro (fc_ref01_Head fu t0.f1 cr0) (And.intro (And.intro trivial trivial) trivial))) ?_
  refine runs_to (ts := [1, 4, 5, 6]) (T' := T_ref01_Text_L1) (env' := [(1, (D.ptr 0 [])), (4, (D.own 1)), (5, (D.bool r0)), (6, (D.int .i64 (0 : Int)))]) (h2 := [some (.box (S_api_Cube.d t0)), some (.seq 5 0 1 (D.ints .u8 0 (fun _ => 0)))]) (by kernel_rfl) (by kernel_rfl) (And.intro (.inr rfl) (And.intro (.inr rfl) trivial)) (Nat.zero_le _) (And.intro (S_api_Cube.inn _) (And.intro trivial trivial)) (And.intro (bel_of rfl) (And.intro (bel_of rfl) (And.intro trivial (And.intro trivial trivial)))) ?_
  rcases after_some h with ⟨e15, hi, h⟩ | hi
  · refine iter_ref01_Text_L1 fu t0 fu (r0, (0 : Int), (0, (fun _ => 0))) hi ?_
    show Runs Try.prog Try.f22 0 X_ref01_Text_L1T [(4, (D.own 1)), (5, (D.bool e15.1))] [none, some (.seq 5 e15.2.1 1 (D.ints .u8 e15.2.1 e15.2.2))] d []
    refine runs_regions 1 [([], [2, 3])] (z := ([], [(2, (D.str (bytesOf e15.2.1 e15.2.2))), (3, (D.bool e15.1))], [none, some (.seq 5 e15.2.1 1 (D.ints .u8 e15.2.1 e15.2.2))])) rfl (by kernel_rfl) trivial ?_
    rw [← Option.some.inj h] at hk
    obtain rfl : d = (D.tup (D.cons (D.str (bytesOf e15.2.1 e15.2.2)) (D.cons (D.bool e15.1) D.nil))) := hk
    exact runs_ret (by kernel_rfl) trivial (Nat.le_refl 0) trivial (And.intro trivial (And.intro trivial trivial))
  · exact iter_ref01_Text_L1 fu t0 fu (r0, (0 : Int), (0, (fun _ => 0))) hi hk

theorem fc_ref01_Text (fu : Nat) (t0 : S_api_Cube) {r : (ByteArray × Bool)} (h : F_ref01_Text fu t0 = some r) : FC Try.prog 22 [(S_api_Cube.d t0)] [] (D.tup (D.cons (D.str r.1) (D.cons (D.bool r.2) D.nil))) [] := by
  refine fc_of_runs (fn := Try.f22) (c := Try.f22.body.getD .skip) (by kernel_rfl) (by kernel_rfl) ?_
  refine runs_to (ts := [0]) (T' := T_ref01_Text) (env' := [(0, (S_api_Cube.d t0))]) (h2 := []) (by kernel_rfl) (by kernel_rfl) trivial (Nat.le_refl _) trivial (And.intro (S_api_Cube.inn _) trivial) ?_
  exact run_ref01_Text fu t0 h rfl

def K_ref01_From (d : D) (r : S_api_Cube) : Prop := d = (S_api_Cube.d r)

noncomputable def T_ref01_From : List Item := norm 200 [.code (Try.f57.body.getD .skip)]

noncomputable def T_ref01_From_J1 : List Item := norm 200 (cndF (nxt (nxt (nxt (cndT (nxt (nxt (cndT (nxt (nxt (nxt (nxt (nxt T_ref01_From)))))))))))))

noncomputable def T_ref01_From_L2 : List Item := norm 200 (nxt (cndT (nxt (nxt (nxt (nxt (nxt T_ref01_From)))))))

noncomputable def X_ref01_From_L2T : List Item := norm 200 (cndF (nxt (nxt (cndT (nxt (nxt (nxt (nxt (nxt T_ref01_From)))))))))

noncomputable def T_ref01_From_L1 : List Item := norm 200 (nxt (nxt (nxt (nxt T_ref01_From))))

noncomputable def X_ref01_From_L1T : List Item := norm 200 (cndF (nxt (nxt (nxt (nxt (nxt T_ref01_From))))))

abbrev E_ref01_From_L1 := S_api_Cube

def N_ref01_From_L1 (_fu : Nat) (t0 : ByteArray) (m0 : S_api_Cube) (d : D) (s : (Int × Int × S_api_Cube)) : Prop := Runs Try.prog Try.f57 0 T_ref01_From_L1 [(0, (D.str t0)), (2, (D.ptr 0 [])), (3, (D.ptr 1 [])), (4, (D.int .i64 s.1)), (5, (D.int .i64 s.2.1))] [some (.box (S_api_Cube.d m0)), some (.box (D.cons (D.ints .u64 12 s.2.2.f0) (D.cons (D.ints .u64 12 s.2.2.f1) D.nil)))] d []

def X_ref01_From_L1 (_fu : Nat) (_t0 : ByteArray) (m0 : S_api_Cube) (d : D) : E_ref01_From_L1 ⊕ S_api_Cube → Prop
  | .inl e => Runs Try.prog Try.f57 0 X_ref01_From_L1T [(2, (D.ptr 0 [])), (3, (D.ptr 1 []))] [some (.box (S_api_Cube.d m0)), some (.box (D.cons (D.ints .u64 12 e.f0) (D.cons (D.ints .u64 12 e.f1) D.nil)))] d []
  | .inr o => (K_ref01_From d) o

abbrev E_ref01_From_L2 := (Int × S_api_Cube)

def N_ref01_From_L2 (_fu : Nat) (t0 : ByteArray) (m0 : S_api_Cube) (t5 : Int) (d : D) (s : (Int × Int × S_api_Cube)) : Prop := Runs Try.prog Try.f57 0 T_ref01_From_L2 [(0, (D.str t0)), (2, (D.ptr 0 [])), (3, (D.ptr 1 [])), (4, (D.int .i64 s.1)), (5, (D.int .i64 t5)), (6, (D.int .i64 s.2.1))] [some (.box (S_api_Cube.d m0)), some (.box (D.cons (D.ints .u64 12 s.2.2.f0) (D.cons (D.ints .u64 12 s.2.2.f1) D.nil)))] d []

def X_ref01_From_L2 (fu : Nat) (t0 : ByteArray) (m0 : S_api_Cube) (t5 : Int) (d : D) : E_ref01_From_L2 ⊕ (Lo (Int × Int × S_api_Cube) E_ref01_From_L1 S_api_Cube) → Prop
  | .inl e => Runs Try.prog Try.f57 0 X_ref01_From_L2T [(0, (D.str t0)), (2, (D.ptr 0 [])), (3, (D.ptr 1 [])), (4, (D.int .i64 e.1)), (5, (D.int .i64 t5))] [some (.box (S_api_Cube.d m0)), some (.box (D.cons (D.ints .u64 12 e.2.f0) (D.cons (D.ints .u64 12 e.2.f1) D.nil)))] d []
  | .inr o => (Lo.post (N_ref01_From_L1 fu t0 m0 d) (X_ref01_From_L1 fu t0 m0 d)) o

def F_ref01_From_J1 (_fu : Nat) (t0 : ByteArray) (_m0 : S_api_Cube) (t5 : Int) (t4 : Int) (t6 : Int) (m1 : S_api_Cube) : Option (Lo (Int × Int × S_api_Cube) E_ref01_From_L2 (Lo (Int × Int × S_api_Cube) E_ref01_From_L1 S_api_Cube)) :=
  chk (0 ≤ t4 ∧ t4 < (t0.size : Int)) <|
  ifs ((((t0[t4.toNat]?).getD 0).toNat : Int) == (49 : Int)) (
    chk (0 ≤ t5 ∧ t5 < ((12 : Nat) : Int)) <|
    chk (t5.toNat < 12) <|
    chk (0 ≤ t5 ∧ t5 < ((12 : Nat) : Int)) <|
    chk (t5.toNat < 12) <|
    some (.next ((IntKind.wrap .i64 (t4 + (1 : Int))), (IntKind.wrap .i64 (t6 + (1 : Int))), (S_api_Cube.mk (fun j => if j = t5.toNat then (IntKind.wrap .u64 ((m1.f0 t5.toNat) + (1 : Int))) else m1.f0 j) m1.f1)))) (
    some (.next ((IntKind.wrap .i64 (t4 + (1 : Int))), (IntKind.wrap .i64 (t6 + (1 : Int))), m1)))

theorem run_ref01_From_J1 (fu : Nat) (t0 : ByteArray) (m0 : S_api_Cube) (t5 : Int) (t4 : Int) (t6 : Int) (m1 : S_api_Cube) {d : D} {o : (Lo (Int × Int × S_api_Cube) E_ref01_From_L2 (Lo (Int × Int × S_api_Cube) E_ref01_From_L1 S_api_Cube))} (h : F_ref01_From_J1 fu t0 m0 t5 t4 t6 m1 = some o) (hk : (Lo.post (N_ref01_From_L2 fu t0 m0 t5 d) (X_ref01_From_L2 fu t0 m0 t5 d)) o) : Runs Try.prog Try.f57 0 T_ref01_From_J1 [(0, (D.str t0)), (2, (D.ptr 0 [])), (3, (D.ptr 1 [])), (4, (D.int .i64 t4)), (5, (D.int .i64 t5)), (6, (D.int .i64 t6))] [some (.box (S_api_Cube.d m0)), some (.box (S_api_Cube.d m1))] d [] := by
  unfold F_ref01_From_J1 at h
  obtain ⟨p13, h⟩ := chk_some h
  refine runs_regions 1 [([], [0, 2, 3, 4, 5, 6, 47])] (z := ([(0 ≤ t4 ∧ t4 < (t0.size : Int))], [(0, (D.str t0)), (2, (D.ptr 0 [])), (3, (D.ptr 1 [])), (4, (D.int .i64 t4)), (5, (D.int .i64 t5)), (6, (D.int .i64 t6)), (47, (D.bool ((((t0[t4.toNat]?).getD 0).toNat : Int) == (49 : Int))))], [some (.box (S_api_Cube.d m0)), some (.box (S_api_Cube.d m1))])) rfl (by kernel_rfl) (And.intro p13 trivial) ?_
  refine runs_if (b := ((((t0[t4.toNat]?).getD 0).toNat : Int) == (49 : Int))) (by kernel_rfl) (fun hb => ?_) (fun hb => ?_)
  · replace h := ifs_true h hb
    obtain ⟨p14, h⟩ := chk_some h
    obtain ⟨p15, h⟩ := chk_some h
    obtain ⟨p16, h⟩ := chk_some h
    obtain ⟨p17, h⟩ := chk_some h
    refine runs_regions 3 [([], [0, 2, 3, 4, 5, 6]), ([], [0, 2, 3, 4, 5, 6]), ([], [0, 2, 3, 4, 5, 6])] (z := ([(0 ≤ t5 ∧ t5 < ((12 : Nat) : Int)), (t5.toNat < 12), (0 ≤ t5 ∧ t5 < ((12 : Nat) : Int)), (t5.toNat < 12)], [(0, (D.str t0)), (2, (D.ptr 0 [])), (3, (D.ptr 1 [])), (4, (D.int .i64 (IntKind.wrap .i64 (t4 + (1 : Int))))), (5, (D.int .i64 t5)), (6, (D.int .i64 (IntKind.wrap .i64 (t6 + (1 : Int)))))], [some (.box (S_api_Cube.d m0)), some (.box (D.cons (D.ints .u64 12 (fun j => if j = t5.toNat then (IntKind.wrap .u64 ((m1.f0 t5.toNat) + (1 : Int))) else m1.f0 j)) (D.cons (D.ints .u64 12 m1.f1) D.nil)))])) rfl (by kernel_rfl) (And.intro p14 (And.intro p15 (And.intro p16 (And.intro p17 trivial)))) ?_
    rw [← Option.some.inj h] at hk
    refine runs_to (ts := [0, 2, 3, 4, 5, 6]) (T' := T_ref01_From_L2) (env' := [(0, (D.str t0)), (2, (D.ptr 0 [])), (3, (D.ptr 1 [])), (4, (D.int .i64 (IntKind.wrap .i64 (t4 + (1 : Int))))), (5, (D.int .i64 t5)), (6, (D.int .i64 (IntKind.wrap .i64 (t6 + (1 : Int)))))]) (h2 := [some (.box (S_api_Cube.d m0)), some (.box (D.cons (D.ints .u64 12 (fun j => if j = t5.toNat then (IntKind.wrap .u64 ((m1.f0 t5.toNat) + (1 : Int))) else m1.f0 j)) (D.cons (D.ints .u64 12 m1.f1) D.nil)))]) (by kernel_rfl) (by kernel_rfl) (And.intro (.inr rfl) (And.intro (.inr rfl) trivial)) (Nat.zero_le _) (And.intro (S_api_Cube.inn _) (And.intro (And.intro trivial (And.intro trivial trivial)) trivial)) (And.intro trivial (And.intro (bel_of rfl) (And.intro (bel_of rfl) (And.intro trivial (And.intro trivial (And.intro trivial trivial)))))) ?_
    exact hk
  · replace h := ifs_false h hb
    refine runs_regions 2 [([], [0, 2, 3, 4, 5, 6]), ([], [0, 2, 3, 4, 5, 6])] (z := ([], [(0, (D.str t0)), (2, (D.ptr 0 [])), (3, (D.ptr 1 [])), (4, (D.int .i64 (IntKind.wrap .i64 (t4 + (1 : Int))))), (5, (D.int .i64 t5)), (6, (D.int .i64 (IntKind.wrap .i64 (t6 + (1 : Int)))))], [some (.box (S_api_Cube.d m0)), some (.box (S_api_Cube.d m1))])) rfl (by kernel_rfl) trivial ?_
    rw [← Option.some.inj h] at hk
    refine runs_to (ts := [0, 2, 3, 4, 5, 6]) (T' := T_ref01_From_L2) (env' := [(0, (D.str t0)), (2, (D.ptr 0 [])), (3, (D.ptr 1 [])), (4, (D.int .i64 (IntKind.wrap .i64 (t4 + (1 : Int))))), (5, (D.int .i64 t5)), (6, (D.int .i64 (IntKind.wrap .i64 (t6 + (1 : Int)))))]) (h2 := [some (.box (S_api_Cube.d m0)), some (.box (S_api_Cube.d m1))]) (by kernel_rfl) (by kernel_rfl) (And.intro (.inr rfl) (And.intro (.inr rfl) trivial)) (Nat.zero_le _) (And.intro (S_api_Cube.inn _) (And.intro (S_api_Cube.inn _) trivial)) (And.intro trivial (And.intro (bel_of rfl) (And.intro (bel_of rfl) (And.intro trivial (And.intro trivial (And.intro trivial trivial)))))) ?_
    exact hk

def F_ref01_From_L2 (fu : Nat) (t0 : ByteArray) (m0 : S_api_Cube) (t5 : Int) (t4 : Int) (t6 : Int) (m1 : S_api_Cube) : Option (Lo (Int × Int × S_api_Cube) E_ref01_From_L2 (Lo (Int × Int × S_api_Cube) E_ref01_From_L1 S_api_Cube)) :=
  (F_ref01_Size t5).bind fun r0 =>
  ifs (decide (t6 < r0)) (
    chk (0 ≤ t5 ∧ t5 < ((12 : Nat) : Int)) <|
    chk (t5.toNat < 12) <|
    chk (0 ≤ t5 ∧ t5 < ((12 : Nat) : Int)) <|
    chk (t5.toNat < 12) <|
    chk (0 ≤ t5 ∧ t5 < ((12 : Nat) : Int)) <|
    chk (t5.toNat < 12) <|
    chk (0 ≤ t5 ∧ t5 < ((12 : Nat) : Int)) <|
    chk (t5.toNat < 12) <|
    chk (0 ≤ t4 ∧ t4 < (t0.size : Int)) <|
    ifs ((((t0[t4.toNat]?).getD 0).toNat : Int) != (120 : Int)) (
      chk (0 ≤ t5 ∧ t5 < ((12 : Nat) : Int)) <|
      chk (t5.toNat < 12) <|
      chk (0 ≤ t5 ∧ t5 < ((12 : Nat) : Int)) <|
      chk (t5.toNat < 12) <|
      F_ref01_From_J1 fu t0 m0 t5 t4 t6 (S_api_Cube.mk (fun j => if j = t5.toNat then (IntKind.wrap .u64 ((m1.f0 t5.toNat) * (2 : Int))) else m1.f0 j) (fun j => if j = t5.toNat then (IntKind.wrap .u64 (((fun j => if j = t5.toNat then (IntKind.wrap .u64 ((m1.f1 t5.toNat) * (2 : Int))) else m1.f1 j) t5.toNat) + (1 : Int))) else (fun j => if j = t5.toNat then (IntKind.wrap .u64 ((m1.f1 t5.toNat) * (2 : Int))) else m1.f1 j) j))) (
      F_ref01_From_J1 fu t0 m0 t5 t4 t6 (S_api_Cube.mk (fun j => if j = t5.toNat then (IntKind.wrap .u64 ((m1.f0 t5.toNat) * (2 : Int))) else m1.f0 j) (fun j => if j = t5.toNat then (IntKind.wrap .u64 ((m1.f1 t5.toNat) * (2 : Int))) else m1.f1 j)))) (
    some (.exit (t4, m1)))

theorem run_ref01_From_L2 (fu : Nat) (t0 : ByteArray) (m0 : S_api_Cube) (t5 : Int) (t4 : Int) (t6 : Int) (m1 : S_api_Cube) {d : D} {o : (Lo (Int × Int × S_api_Cube) E_ref01_From_L2 (Lo (Int × Int × S_api_Cube) E_ref01_From_L1 S_api_Cube))} (h : F_ref01_From_L2 fu t0 m0 t5 t4 t6 m1 = some o) (hk : (Lo.post (N_ref01_From_L2 fu t0 m0 t5 d) (X_ref01_From_L2 fu t0 m0 t5 d)) o) : Runs Try.prog Try.f57 0 T_ref01_From_L2 [(0, (D.str t0)), (2, (D.ptr 0 [])), (3, (D.ptr 1 [])), (4, (D.int .i64 t4)), (5, (D.int .i64 t5)), (6, (D.int .i64 t6))] [some (.box (S_api_Cube.d m0)), some (.box (S_api_Cube.d m1))] d [] := by
  unfold F_ref01_From_L2 at h
  obtain ⟨r0, cr0, h⟩ := Option.bind_eq_some_iff.1 h
  refine runs_regions 1 [([(.d (D.int .i64 r0))], [0, 2, 3, 4, 5, 6, 14])] (z := ([FC Try.prog 53 [(D.int .i64 t5)] [] (D.int .i64 r0) [], All (List.map NoRow [(D.int .i64 t5)])], [(0, (D.str t0)), (2, (D.ptr 0 [])), (3, (D.ptr 1 [])), (4, (D.int .i64 t4)), (5, (D.int .i64 t5)), (6, (D.int .i64 t6)), (14, (D.bool (decide (t6 < r0))))], [some (.box (S_api_Cube.d m0)), some (.box (S_api_Cube.d m1))])) rfl (by kernel_rfl) (And.intro (fc_ref01_Size t5 cr0) (And.intro (And.intro trivial trivial) trivial)) ?_
  refine runs_if (b := (decide (t6 < r0))) (by kernel_rfl) (fun hb => ?_) (fun hb => ?_)
  · replace h := ifs_true h hb
    obtain ⟨p0, h⟩ := chk_some h
    obtain ⟨p1, h⟩ := chk_some h
    obtain ⟨p2, h⟩ := chk_some h
    obtain ⟨p3, h⟩ := chk_some h
    obtain ⟨p4, h⟩ := chk_some h
    obtain ⟨p5, h⟩ := chk_some h
    obtain ⟨p6, h⟩ := chk_some h
    obtain ⟨p7, h⟩ := chk_some h
    obtain ⟨p8, h⟩ := chk_some h
    refine runs_regions 3 [([], [0, 2, 3, 4, 5, 6]), ([], [0, 2, 3, 4, 5, 6]), ([], [0, 2, 3, 4, 5, 6, 36])] (z := ([(0 ≤ t5 ∧ t5 < ((12 : Nat) : Int)), (t5.toNat < 12), (0 ≤ t5 ∧ t5 < ((12 : Nat) : Int)), (t5.toNat < 12), (0 ≤ t5 ∧ t5 < ((12 : Nat) : Int)), (t5.toNat < 12), (0 ≤ t5 ∧ t5 < ((12 : Nat) : Int)), (t5.toNat < 12), (0 ≤ t4 ∧ t4 < (t0.size : Int))], [(0, (D.str t0)), (2, (D.ptr 0 [])), (3, (D.ptr 1 [])), (4, (D.int .i64 t4)), (5, (D.int .i64 t5)), (6, (D.int .i64 t6)), (36, (D.bool ((((t0[t4.toNat]?).getD 0).toNat : Int) != (120 : Int))))], [some (.box (S_api_Cube.d m0)), some (.box (D.cons (D.ints .u64 12 (fun j => if j = t5.toNat then (IntKind.wrap .u64 ((m1.f0 t5.toNat) * (2 : Int))) else m1.f0 j)) (D.cons (D.ints .u64 12 (fun j => if j = t5.toNat then (IntKind.wrap .u64 ((m1.f1 t5.toNat) * (2 : Int))) else m1.f1 j)) D.nil)))])) rfl (by kernel_rfl) (And.intro p0 (And.intro p1 (And.intro p2 (And.intro p3 (And.intro p4 (And.intro p5 (And.intro p6 (And.intro p7 (And.intro p8 trivial))))))))) ?_
    refine runs_if (b := ((((t0[t4.toNat]?).getD 0).toNat : Int) != (120 : Int))) (by kernel_rfl) (fun hb => ?_) (fun hb => ?_)
    · replace h := ifs_true h hb
      obtain ⟨p9, h⟩ := chk_some h
      obtain ⟨p10, h⟩ := chk_some h
      obtain ⟨p11, h⟩ := chk_some h
      obtain ⟨p12, h⟩ := chk_some h
      refine runs_regions 1 [([], [0, 2, 3, 4, 5, 6])] (z := ([(0 ≤ t5 ∧ t5 < ((12 : Nat) : Int)), (t5.toNat < 12), (0 ≤ t5 ∧ t5 < ((12 : Nat) : Int)), (t5.toNat < 12)], [(0, (D.str t0)), (2, (D.ptr 0 [])), (3, (D.ptr 1 [])), (4, (D.int .i64 t4)), (5, (D.int .i64 t5)), (6, (D.int .i64 t6))], [some (.box (S_api_Cube.d m0)), some (.box (D.cons (D.ints .u64 12 (fun j => if j = t5.toNat then (IntKind.wrap .u64 ((m1.f0 t5.toNat) * (2 : Int))) else m1.f0 j)) (D.cons (D.ints .u64 12 (fun j => if j = t5.toNat then (IntKind.wrap .u64 (((fun j => if j = t5.toNat then (IntKind.wrap .u64 ((m1.f1 t5.toNat) * (2 : Int))) else m1.f1 j) t5.toNat) + (1 : Int))) else (fun j => if j = t5.toNat then (IntKind.wrap .u64 ((m1.f1 t5.toNat) * (2 : Int))) else m1.f1 j) j)) D.nil)))])) rfl (by kernel_rfl) (And.intro p9 (And.intro p10 (And.intro p11 (And.intro p12 trivial)))) ?_
      refine runs_to (ts := [0, 2, 3, 4, 5, 6]) (T' := T_ref01_From_J1) (env' := [(0, (D.str t0)), (2, (D.ptr 0 [])), (3, (D.ptr 1 [])), (4, (D.int .i64 t4)), (5, (D.int .i64 t5)), (6, (D.int .i64 t6))]) (h2 := [some (.box (S_api_Cube.d m0)), some (.box (D.cons (D.ints .u64 12 (fun j => if j = t5.toNat then (IntKind.wrap .u64 ((m1.f0 t5.toNat) * (2 : Int))) else m1.f0 j)) (D.cons (D.ints .u64 12 (fun j => if j = t5.toNat then (IntKind.wrap .u64 (((fun j => if j = t5.toNat then (IntKind.wrap .u64 ((m1.f1 t5.toNat) * (2 : Int))) else m1.f1 j) t5.toNat) + (1 : Int))) else (fun j => if j = t5.toNat then (IntKind.wrap .u64 ((m1.f1 t5.toNat) * (2 : Int))) else m1.f1 j) j)) D.nil)))]) (by kernel_rfl) (by kernel_rfl) (And.intro (.inr rfl) (And.intro (.inr rfl) trivial)) (Nat.zero_le _) (And.intro (S_api_Cube.inn _) (And.intro (And.intro trivial (And.intro trivial trivial)) trivial)) (And.intro trivial (And.intro (bel_of rfl) (And.intro (bel_of rfl) (And.intro trivial (And.intro trivial (And.intro trivial trivial)))))) ?_
      exact run_ref01_From_J1 fu t0 m0 t5 t4 t6 (S_api_Cube.mk (fun j => if j = t5.toNat then (IntKind.wrap .u64 ((m1.f0 t5.toNat) * (2 : Int))) else m1.f0 j) (fun j => if j = t5.toNat then (IntKind.wrap .u64 (((fun j => if j = t5.toNat then (IntKind.wrap .u64 ((m1.f1 t5.toNat) * (2 : Int))) else m1.f1 j) t5.toNat) + (1 : Int))) else (fun j => if j = t5.toNat then (IntKind.wrap .u64 ((m1.f1 t5.toNat) * (2 : Int))) else m1.f1 j) j)) h hk
    · replace h := ifs_false h hb
      refine runs_to (ts := [0, 2, 3, 4, 5, 6]) (T' := T_ref01_From_J1) (env' := [(0, (D.str t0)), (2, (D.ptr 0 [])), (3, (D.ptr 1 [])), (4, (D.int .i64 t4)), (5, (D.int .i64 t5)), (6, (D.int .i64 t6))]) (h2 := [some (.box (S_api_Cube.d m0)), some (.box (D.cons (D.ints .u64 12 (fun j => if j = t5.toNat then (IntKind.wrap .u64 ((m1.f0 t5.toNat) * (2 : Int))) else m1.f0 j)) (D.cons (D.ints .u64 12 (fun j => if j = t5.toNat then (IntKind.wrap .u64 ((m1.f1 t5.toNat) * (2 : Int))) else m1.f1 j)) D.nil)))]) (by kernel_rfl) (by kernel_rfl) (And.intro (.inr rfl) (And.intro (.inr rfl) trivial)) (Nat.zero_le _) (And.intro (S_api_Cube.inn _) (And.intro (And.intro trivial (And.intro trivial trivial)) trivial)) (And.intro trivial (And.intro (bel_of rfl) (And.intro (bel_of rfl) (And.intro trivial (And.intro trivial (And.intro trivial trivial)))))) ?_
      exact run_ref01_From_J1 fu t0 m0 t5 t4 t6 (S_api_Cube.mk (fun j => if j = t5.toNat then (IntKind.wrap .u64 ((m1.f0 t5.toNat) * (2 : Int))) else m1.f0 j) (fun j => if j = t5.toNat then (IntKind.wrap .u64 ((m1.f1 t5.toNat) * (2 : Int))) else m1.f1 j)) h hk
  · replace h := ifs_false h hb
    rw [← Option.some.inj h] at hk
    refine runs_to (ts := [0, 2, 3, 4, 5]) (T' := X_ref01_From_L2T) (env' := [(0, (D.str t0)), (2, (D.ptr 0 [])), (3, (D.ptr 1 [])), (4, (D.int .i64 t4)), (5, (D.int .i64 t5))]) (h2 := [some (.box (S_api_Cube.d m0)), some (.box (S_api_Cube.d m1))]) (by kernel_rfl) (by kernel_rfl) (And.intro (.inr rfl) (And.intro (.inr rfl) trivial)) (Nat.zero_le _) (And.intro (S_api_Cube.inn _) (And.intro (S_api_Cube.inn _) trivial)) (And.intro trivial (And.intro (bel_of rfl) (And.intro (bel_of rfl) (And.intro trivial (And.intro trivial trivial))))) ?_
    exact hk

theorem iter_ref01_From_L2 (fu : Nat) (t0 : ByteArray) (m0 : S_api_Cube) (t5 : Int) {d : D} (k : Nat) (s : (Int × Int × S_api_Cube)) {o : E_ref01_From_L2 ⊕ (Lo (Int × Int × S_api_Cube) E_ref01_From_L1 S_api_Cube)} (h : iter (fun s => F_ref01_From_L2 fu t0 m0 t5 s.1 s.2.1 s.2.2) k s = some o) (hx : X_ref01_From_L2 fu t0 m0 t5 d o) : N_ref01_From_L2 fu t0 m0 t5 d s :=
  iter_post (K := N_ref01_From_L2 fu t0 m0 t5 d) (X := X_ref01_From_L2 fu t0 m0 t5 d) (fun s _ h hk => run_ref01_From_L2 fu t0 m0 t5 s.1 s.2.1 s.2.2 h hk) k s o h hx

def F_ref01_From_L1 (fu : Nat) (t0 : ByteArray) (m0 : S_api_Cube) (t4 : Int) (t5 : Int) (m1 : S_api_Cube) : Option (Lo (Int × Int × S_api_Cube) E_ref01_From_L1 S_api_Cube) :=
  ifs (decide (t5 < (12 : Int))) (
    after (iter (fun s => F_ref01_From_L2 fu t0 m0 t5 s.1 s.2.1 s.2.2) fu (t4, (0 : Int), m1)) fun e19 =>
    some (.next (e19.1, (IntKind.wrap .i64 (t5 + (1 : Int))), e19.2))) (
    some (.exit m1))

theorem run_ref01_From_L1 (fu : Nat) (t0 : ByteArray) (m0 : S_api_Cube) (t4 : Int) (t5 : Int) (m1 : S_api_Cube) {d : D} {o : (Lo (Int × Int × S_api_Cube) E_ref01_From_L1 S_api_Cube)} (h : F_ref01_From_L1 fu t0 m0 t4 t5 m1 = some o) (hk : (Lo.post (N_ref01_From_L1 fu t0 m0 d) (X_ref01_From_L1 fu t0 m0 d)) o) : Runs Try.prog Try.f57 0 T_ref01_From_L1 [(0, (D.str t0)), (2, (D.ptr 0 [])), (3, (D.ptr 1 [])), (4, (D.int .i64 t4)), (5, (D.int .i64 t5))] [some (.box (S_api_Cube.d m0)), some (.box (S_api_Cube.d m1))] d [] := by
  unfold F_ref01_From_L1 at h
  refine runs_regions 1 [([], [0, 2, 3, 4, 5, 8])] (z := ([], [(0, (D.str t0)), (2, (D.ptr 0 [])), (3, (D.ptr 1 [])), (4, (D.int .i64 t4)), (5, (D.int .i64 t5)), (8, (D.bool (decide (t5 < (12 : Int)))))], [some (.box (S_api_Cube.d m0)), some (.box (S_api_Cube.d m1))])) rfl (by kernel_rfl) trivial ?_
  refine runs_if (b := (decide (t5 < (12 : Int)))) (by kernel_rfl) (fun hb => ?_) (fun hb => ?_)
  · replace h := ifs_true h hb
    refine runs_regions 1 [([], [0, 2, 3, 4, 5, 6])] (z := ([], [(0, (D.str t0)), (2, (D.ptr 0 [])), (3, (D.ptr 1 [])), (4, (D.int .i64 t4)), (5, (D.int .i64 t5)), (6, (D.int .i64 (0 : Int)))], [some (.box (S_api_Cube.d m0)), some (.box (S_api_Cube.d m1))])) rfl (by kernel_rfl) trivial ?_
    refine runs_to (ts := [0, 2, 3, 4, 5, 6]) (T' := T_ref01_From_L2) (env' := [(0, (D.str t0)), (2, (D.ptr 0 [])), (3, (D.ptr 1 [])), (4, (D.int .i64 t4)), (5, (D.int .i64 t5)), (6, (D.int .i64 (0 : Int)))]) (h2 := [some (.box (S_api_Cube.d m0)), some (.box (S_api_Cube.d m1))]) (by kernel_rfl) (by kernel_rfl) (And.intro (.inr rfl) (And.intro (.inr rfl) trivial)) (Nat.zero_le _) (And.intro (S_api_Cube.inn _) (And.intro (S_api_Cube.inn _) trivial)) (And.intro trivial (And.intro (bel_of rfl) (And.intro (bel_of rfl) (And.intro trivial (And.intro trivial (And.intro trivial trivial)))))) ?_
    rcases after_some h with ⟨e19, hi, h⟩ | hi
    · refine iter_ref01_From_L2 fu t0 m0 t5 fu (t4, (0 : Int), m1) hi ?_
      show Runs Try.prog Try.f57 0 X_ref01_From_L2T [(0, (D.str t0)), (2, (D.ptr 0 [])), (3, (D.ptr 1 [])), (4, (D.int .i64 e19.1)), (5, (D.int .i64 t5))] [some (.box (S_api_Cube.d m0)), some (.box (S_api_Cube.d e19.2))] d []
      refine runs_regions 1 [([], [0, 2, 3, 4, 5])] (z := ([], [(0, (D.str t0)), (2, (D.ptr 0 [])), (3, (D.ptr 1 [])), (4, (D.int .i64 e19.1)), (5, (D.int .i64 (IntKind.wrap .i64 (t5 + (1 : Int)))))], [some (.box (S_api_Cube.d m0)), some (.box (S_api_Cube.d e19.2))])) rfl (by kernel_rfl) trivial ?_
      rw [← Option.some.inj h] at hk
      refine runs_to (ts := [0, 2, 3, 4, 5]) (T' := T_ref01_From_L1) (env' := [(0, (D.str t0)), (2, (D.ptr 0 [])), (3, (D.ptr 1 [])), (4, (D.int .i64 e19.1)), (5, (D.int .i64 (IntKind.wrap .i64 (t5 + (1 : Int)))))]) (h2 := [some (.box (S_api_Cube.d m0)), some (.box (S_api_Cube.d e19.2))]) (by kernel_rfl) (by kernel_rfl) (And.intro (.inr rfl) (And.intro (.inr rfl) trivial)) (Nat.zero_le _) (And.intro (S_api_Cube.inn _) (And.intro (S_api_Cube.inn _) trivial)) (And.intro trivial (And.intro (bel_of rfl) (And.intro (bel_of rfl) (And.intro trivial (And.intro trivial trivial))))) ?_
      exact hk
    · exact iter_ref01_From_L2 fu t0 m0 t5 fu (t4, (0 : Int), m1) hi hk
  · replace h := ifs_false h hb
    rw [← Option.some.inj h] at hk
    refine runs_to (ts := [2, 3]) (T' := X_ref01_From_L1T) (env' := [(2, (D.ptr 0 [])), (3, (D.ptr 1 []))]) (h2 := [some (.box (S_api_Cube.d m0)), some (.box (S_api_Cube.d m1))]) (by kernel_rfl) (by kernel_rfl) (And.intro (.inr rfl) (And.intro (.inr rfl) trivial)) (Nat.zero_le _) (And.intro (S_api_Cube.inn _) (And.intro (S_api_Cube.inn _) trivial)) (And.intro (bel_of rfl) (And.intro (bel_of rfl) trivial)) ?_
    exact hk

theorem iter_ref01_From_L1 (fu : Nat) (t0 : ByteArray) (m0 : S_api_Cube) {d : D} (k : Nat) (s : (Int × Int × S_api_Cube)) {o : E_ref01_From_L1 ⊕ S_api_Cube} (h : iter (fun s => F_ref01_From_L1 fu t0 m0 s.1 s.2.1 s.2.2) k s = some o) (hx : X_ref01_From_L1 fu t0 m0 d o) : N_ref01_From_L1 fu t0 m0 d s :=
  iter_post (K := N_ref01_From_L1 fu t0 m0 d) (X := X_ref01_From_L1 fu t0 m0 d) (fun s _ h hk => run_ref01_From_L1 fu t0 m0 s.1 s.2.1 s.2.2 h hk) k s o h hx

/-- podesta/podestaref01.From -/
def F_ref01_From (fu : Nat) (t0 : ByteArray) : Option S_api_Cube :=
  after (iter (fun s => F_ref01_From_L1 fu t0 (S_api_Cube.mk (fun _ => 0) (fun _ => 0)) s.1 s.2.1 s.2.2) fu ((0 : Int), (0 : Int), (S_api_Cube.mk (fun _ => 0) (fun _ => 0)))) fun e20 =>
  some e20

theorem run_ref01_From (fu : Nat) (t0 : ByteArray) {d : D} {r : S_api_Cube} (h : F_ref01_From fu t0 = some r) (hk : (K_ref01_From d) r) : Runs Try.prog Try.f57 0 T_ref01_From [(0, (D.str t0))] [] d [] := by
  unfold F_ref01_From at h
  refine runs_regions 4 [([], [0, 2]), ([], [0, 2, 3]), ([], [0, 2, 3, 4]), ([], [0, 2, 3, 4, 5])] (z := ([], [(0, (D.str t0)), (2, (D.ptr 0 [])), (3, (D.ptr 1 [])), (4, (D.int .i64 (0 : Int))), (5, (D.int .i64 (0 : Int)))], [some (.box (D.cons (D.ints .u64 12 (fun _ => 0)) (D.cons (D.ints .u64 12 (fun _ => 0)) D.nil))), some (.box (D.cons (D.ints .u64 12 (fun _ => 0)) (D.cons (D.ints .u64 12 (fun _ => 0)) D.nil)))])) rfl (by kernel_rfl) trivial ?_
  refine runs_to (ts := [0, 2, 3, 4, 5]) (T' := T_ref01_From_L1) (env' := [(0, (D.str t0)), (2, (D.ptr 0 [])), (3, (D.ptr 1 [])), (4, (D.int .i64 (0 : Int))), (5, (D.int .i64 (0 : Int)))]) (h2 := [some (.box (D.cons (D.ints .u64 12 (fun _ => 0)) (D.cons (D.ints .u64 12 (fun _ => 0)) D.nil))), some (.box (D.cons (D.ints .u64 12 (fun _ => 0)) (D.cons (D.ints .u64 12 (fun _ => 0)) D.nil)))]) (by kernel_rfl) (by kernel_rfl) (And.intro (.inr rfl) (And.intro (.inr rfl) trivial)) (Nat.zero_le _) (And.intro (And.intro trivial (And.intro trivial trivial)) (And.intro (And.intro trivial (And.intro trivial trivial)) trivial)) (And.intro trivial (And.intro (bel_of rfl) (And.intro (bel_of rfl) (And.intro trivial (And.intro trivial trivial))))) ?_
  rcases after_some h with ⟨e20, hi, h⟩ | hi
  · refine iter_ref01_From_L1 fu t0 (S_api_Cube.mk (fun _ => 0) (fun _ => 0)) fu ((0 : Int), (0 : Int), (S_api_Cube.mk (fun _ => 0) (fun _ => 0))) hi ?_
    show Runs Try.prog Try.f57 0 X_ref01_From_L1T [(2, (D.ptr 0 [])), (3, (D.ptr 1 []))] [some (.box (D.cons (D.ints .u64 12 (fun _ => 0)) (D.cons (D.ints .u64 12 (fun _ => 0)) D.nil))), some (.box (S_api_Cube.d e20))] d []
    refine runs_regions 1 [([], [2])] (z := ([], [(2, (D.ptr 0 []))], [some (.box (S_api_Cube.d e20)), some (.box (S_api_Cube.d e20))])) rfl (by kernel_rfl) trivial ?_
    rw [← Option.some.inj h] at hk
    obtain rfl : d = (S_api_Cube.d e20) := hk
    exact runs_ret (by kernel_rfl) trivial (Nat.le_refl 0) trivial (S_api_Cube.inn _)
  · exact iter_ref01_From_L1 fu t0 (S_api_Cube.mk (fun _ => 0) (fun _ => 0)) fu ((0 : Int), (0 : Int), (S_api_Cube.mk (fun _ => 0) (fun _ => 0))) hi hk

theorem fc_ref01_From (fu : Nat) (t0 : ByteArray) {r : S_api_Cube} (h : F_ref01_From fu t0 = some r) : FC Try.prog 57 [(D.str t0)] [] (S_api_Cube.d r) [] := by
  refine fc_of_runs (fn := Try.f57) (c := Try.f57.body.getD .skip) (by kernel_rfl) (by kernel_rfl) ?_
  refine runs_to (ts := [0]) (T' := T_ref01_From) (env' := [(0, (D.str t0))]) (h2 := []) (by kernel_rfl) (by kernel_rfl) trivial (Nat.le_refl _) trivial (And.intro trivial trivial) ?_
  exact run_ref01_From fu t0 h rfl

def K_ref01_Meet (d : D) (r : (S_api_Cube × Bool)) : Prop := d = (D.tup (D.cons (S_api_Cube.d r.1) (D.cons (D.bool r.2) D.nil)))

noncomputable def T_ref01_Meet : List Item := norm 200 [.code (Try.f29.body.getD .skip)]

noncomputable def T_ref01_Meet_L1 : List Item := norm 200 (nxt (nxt (cndF (nxt (nxt (nxt (nxt T_ref01_Meet)))))))

noncomputable def X_ref01_Meet_L1T : List Item := norm 200 (cndF (nxt (nxt (nxt (cndF (nxt (nxt (nxt (nxt T_ref01_Meet)))))))))

abbrev E_ref01_Meet_L1 := (Nat × (Nat → Int))

def N_ref01_Meet_L1 (_fu : Nat) (t6 : ByteArray) (t8 : ByteArray) (m2 : S_api_Cube) (d : D) (s : (Int × (Nat × (Nat → Int)))) : Prop := Runs Try.prog Try.f29 0 T_ref01_Meet_L1 [(4, (D.ptr 2 [])), (6, (D.str t6)), (8, (D.str t8)), (10, (D.own 3)), (11, (D.int .i64 s.1))] [none, none, some (.box (S_api_Cube.d m2)), some (.seq 5 s.2.1 1 (D.ints .u8 s.2.1 s.2.2))] d []

def X_ref01_Meet_L1 (_fu : Nat) (_t6 : ByteArray) (_t8 : ByteArray) (m2 : S_api_Cube) (d : D) : E_ref01_Meet_L1 ⊕ (S_api_Cube × Bool) → Prop
  | .inl e => Runs Try.prog Try.f29 0 X_ref01_Meet_L1T [(4, (D.ptr 2 [])), (10, (D.own 3))] [none, none, some (.box (S_api_Cube.d m2)), some (.seq 5 e.1 1 (D.ints .u8 e.1 e.2))] d []
  | .inr o => (K_ref01_Meet d) o

def F_ref01_Meet_L1 (_fu : Nat) (t6 : ByteArray) (t8 : ByteArray) (_m2 : S_api_Cube) (t11 : Int) (m3 : (Nat × (Nat → Int))) : Option (Lo (Int × (Nat × (Nat → Int))) E_ref01_Meet_L1 (S_api_Cube × Bool)) :=
  ifs (decide (t11 < (t6.size : Int))) (
    chk (0 ≤ t11 ∧ t11 < (t6.size : Int)) <|
    ifs ((((t6[t11.toNat]?).getD 0).toNat : Int) == (120 : Int)) (
      chk (0 ≤ t11 ∧ t11 < (t8.size : Int)) <|
      chk (0 ≤ t11 ∧ t11 < ((m3.1 : Nat) : Int)) <|
      chk (t11.toNat < m3.1) <|
      some (.next ((IntKind.wrap .i64 (t11 + (1 : Int))), (m3.1, (fun j => if j = t11.toNat then (((t8[t11.toNat]?).getD 0).toNat : Int) else m3.2 j))))) (
      chk (0 ≤ t11 ∧ t11 < (t8.size : Int)) <|
      chk (((((t8[t11.toNat]?).getD 0).toNat : Int) != (120 : Int)) = true → (0 ≤ t11 ∧ t11 < (t6.size : Int))) <|
      chk (((((t8[t11.toNat]?).getD 0).toNat : Int) != (120 : Int)) = true → (0 ≤ t11 ∧ t11 < (t8.size : Int))) <|
      ifs (bif ((((t8[t11.toNat]?).getD 0).toNat : Int) != (120 : Int)) then ((((t6[t11.toNat]?).getD 0).toNat : Int) != (((t8[t11.toNat]?).getD 0).toNat : Int)) else false) (
        some (.ret ((S_api_Cube.mk (fun _ => 0) (fun _ => 0)), false))) (
        some (.next ((IntKind.wrap .i64 (t11 + (1 : Int))), m3))))) (
    some (.exit m3))

theorem run_ref01_Meet_L1 (fu : Nat) (t6 : ByteArray) (t8 : ByteArray) (m2 : S_api_Cube) (t11 : Int) (m3 : (Nat × (Nat → Int))) {d : D} {o : (Lo (Int × (Nat × (Nat → Int))) E_ref01_Meet_L1 (S_api_Cube × Bool))} (h : F_ref01_Meet_L1 fu t6 t8 m2 t11 m3 = some o) (hk : (Lo.post (N_ref01_Meet_L1 fu t6 t8 m2 d) (X_ref01_Meet_L1 fu t6 t8 m2 d)) o) : Runs Try.prog Try.f29 0 T_ref01_Meet_L1 [(4, (D.ptr 2 [])), (6, (D.str t6)), (8, (D.str t8)), (10, (D.own 3)), (11, (D.int .i64 t11))] [none, none, some (.box (S_api_Cube.d m2)), some (.seq 5 m3.1 1 (D.ints .u8 m3.1 m3.2))] d [] := by
  unfold F_ref01_Meet_L1 at h
  refine runs_regions 1 [([], [4, 6, 8, 10, 11, 34])] (z := ([], [(4, (D.ptr 2 [])), (6, (D.str t6)), (8, (D.str t8)), (10, (D.own 3)), (11, (D.int .i64 t11)), (34, (D.bool (decide (t11 < (t6.size : Int)))))], [none, none, some (.box (S_api_Cube.d m2)), some (.seq 5 m3.1 1 (D.ints .u8 m3.1 m3.2))])) rfl (by kernel_rfl) trivial ?_
  refine runs_if (b := (decide (t11 < (t6.size : Int)))) (by kernel_rfl) (fun hb => ?_) (fun hb => ?_)
  · replace h := ifs_true h hb
    obtain ⟨p1, h⟩ := chk_some h
    refine runs_regions 1 [([], [4, 6, 8, 10, 11, 40])] (z := ([(0 ≤ t11 ∧ t11 < (t6.size : Int))], [(4, (D.ptr 2 [])), (6, (D.str t6)), (8, (D.str t8)), (10, (D.own 3)), (11, (D.int .i64 t11)), (40, (D.bool ((((t6[t11.toNat]?).getD 0).toNat : Int) == (120 : Int))))], [none, none, some (.box (S_api_Cube.d m2)), some (.seq 5 m3.1 1 (D.ints .u8 m3.1 m3.2))])) rfl (by kernel_rfl) (And.intro p1 trivial) ?_
    refine runs_if (b := ((((t6[t11.toNat]?).getD 0).toNat : Int) == (120 : Int))) (by kernel_rfl) (fun hb => ?_) (fun hb => ?_)
    · replace h := ifs_true h hb
      obtain ⟨p2, h⟩ := chk_some h
      obtain ⟨p3, h⟩ := chk_some h
      obtain ⟨p4, h⟩ := chk_some h
      refine runs_regions 2 [([], [4, 6, 8, 10, 11]), ([], [4, 6, 8, 10, 11])] (z := ([(0 ≤ t11 ∧ t11 < (t8.size : Int)), (0 ≤ t11 ∧ t11 < ((m3.1 : Nat) : Int)), (t11.toNat < m3.1)], [(4, (D.ptr 2 [])), (6, (D.str t6)), (8, (D.str t8)), (10, (D.own 3)), (11, (D.int .i64 (IntKind.wrap .i64 (t11 + (1 : Int)))))], [none, none, some (.box (S_api_Cube.d m2)), some (.seq 5 m3.1 1 (D.ints .u8 m3.1 (fun j => if j = t11.toNat then (((t8[t11.toNat]?).getD 0).toNat : Int) else m3.2 j)))])) rfl (by kernel_rfl) (And.intro p2 (And.intro p3 (And.intro p4 trivial))) ?_
      rw [← Option.some.inj h] at hk
      refine runs_to (ts := [4, 6, 8, 10, 11]) (T' := T_ref01_Meet_L1) (env' := [(4, (D.ptr 2 [])), (6, (D.str t6)), (8, (D.str t8)), (10, (D.own 3)), (11, (D.int .i64 (IntKind.wrap .i64 (t11 + (1 : Int)))))]) (h2 := [none, none, some (.box (S_api_Cube.d m2)), some (.seq 5 m3.1 1 (D.ints .u8 m3.1 (fun j => if j = t11.toNat then (((t8[t11.toNat]?).getD 0).toNat : Int) else m3.2 j)))]) (by kernel_rfl) (by kernel_rfl) (And.intro (.inl rfl) (And.intro (.inl rfl) (And.intro (.inr rfl) (And.intro (.inr rfl) trivial)))) (Nat.zero_le _) (And.intro (S_api_Cube.inn _) (And.intro trivial trivial)) (And.intro (bel_of rfl) (And.intro trivial (And.intro trivial (And.intro (bel_of rfl) (And.intro trivial trivial))))) ?_
      exact hk
    · replace h := ifs_false h hb
      obtain ⟨p5, h⟩ := chk_some h
      obtain ⟨p6, h⟩ := chk_some h
      obtain ⟨p7, h⟩ := chk_some h
      refine runs_regions 1 [([], [4, 6, 8, 10, 11, 59])] (z := ([(0 ≤ t11 ∧ t11 < (t8.size : Int)), (((((t8[t11.toNat]?).getD 0).toNat : Int) != (120 : Int)) = true → All [(((((t8[t11.toNat]?).getD 0).toNat : Int) != (120 : Int)) = true → ((((t8[t11.toNat]?).getD 0).toNat : Int) != (120 : Int)) = true), (((((t8[t11.toNat]?).getD 0).toNat : Int) != (120 : Int)) = true → ((((t8[t11.toNat]?).getD 0).toNat : Int) != (120 : Int)) = true), (0 ≤ t11 ∧ t11 < (t6.size : Int))]), (((((t8[t11.toNat]?).getD 0).toNat : Int) != (120 : Int)) = true → All [(((((t8[t11.toNat]?).getD 0).toNat : Int) != (120 : Int)) = true → ((((t8[t11.toNat]?).getD 0).toNat : Int) != (120 : Int)) = true), (((((t8[t11.toNat]?).getD 0).toNat : Int) != (120 : Int)) = true → ((((t8[t11.toNat]?).getD 0).toNat : Int) != (120 : Int)) = true), (0 ≤ t11 ∧ t11 < (t8.size : Int))]), (((((t8[t11.toNat]?).getD 0).toNat : Int) != (120 : Int)) = true → All [(((((t8[t11.toNat]?).getD 0).toNat : Int) != (120 : Int)) = true → ((((t8[t11.toNat]?).getD 0).toNat : Int) != (120 : Int)) = true), (((((t8[t11.toNat]?).getD 0).toNat : Int) != (120 : Int)) = true → ((((t8[t11.toNat]?).getD 0).toNat : Int) != (120 : Int)) = true)]), ((true && ((((t8[t11.toNat]?).getD 0).toNat : Int) != (120 : Int))) = true → ((((t8[t11.toNat]?).getD 0).toNat : Int) != (120 : Int)) = true)], [(4, (D.ptr 2 [])), (6, (D.str t6)), (8, (D.str t8)), (10, (D.own 3)), (11, (D.int .i64 t11)), (59, (D.bool (bif ((((t8[t11.toNat]?).getD 0).toNat : Int) != (120 : Int)) then ((((t6[t11.toNat]?).getD 0).toNat : Int) != (((t8[t11.toNat]?).getD 0).toNat : Int)) else false)))], [none, none, some (.box (S_api_Cube.d m2)), some (.seq 5 m3.1 1 (D.ints .u8 m3.1 m3.2))])) rfl (by kernel_rfl) (And.intro p5 (And.intro (fun hg => (And.intro (by first | exact fun h => h | exact fun h => (Bool.and_eq_true_iff.1 h).1 | simp_all) (And.intro (by first | exact fun h => h | exact fun h => (Bool.and_eq_true_iff.1 h).1 | simp_all) (And.intro (p6 hg) trivial)))) (And.intro (fun hg => (And.intro (by first | exact fun h => h | exact fun h => (Bool.and_eq_true_iff.1 h).1 | simp_all) (And.intro (by first | exact fun h => h | exact fun h => (Bool.and_eq_true_iff.1 h).1 | simp_all) (And.intro (p7 hg) trivial)))) (And.intro (fun _ => (And.intro (by first | exact fun h => h | exact fun h => (Bool.and_eq_true_iff.1 h).1 | simp_all) (And.intro (by first | exact fun h => h | exact fun h => (Bool.and_eq_true_iff.1 h).1 | simp_all) trivial))) (And.intro (by first | exact fun h => h | exact fun h => (Bool.and_eq_true_iff.1 h).1 | simp_all) trivial))))) ?_
      refine runs_if (b := (bif ((((t8[t11.toNat]?).getD 0).toNat : Int) != (120 : Int)) then ((((t6[t11.toNat]?).getD 0).toNat : Int) != (((t8[t11.toNat]?).getD 0).toNat : Int)) else false)) (by kernel_rfl) (fun hb => ?_) (fun hb => ?_)
      · replace h := ifs_true h hb
        refine runs_regions 1 [([], [4, 5])] (z := ([], [(4, (D.ptr 2 [])), (5, (D.bool false))], [none, none, some (.box (D.cons (D.ints .u64 12 (fun _ => 0)) (D.cons (D.ints .u64 12 (fun _ => 0)) D.nil))), some (.seq 5 m3.1 1 (D.ints .u8 m3.1 m3.2))])) rfl (by kernel_rfl) trivial ?_
        rw [← Option.some.inj h] at hk
        obtain rfl : d = (D.tup (D.cons (D.cons (D.ints .u64 12 (fun _ => 0)) (D.cons (D.ints .u64 12 (fun _ => 0)) D.nil)) (D.cons (D.bool false) D.nil))) := hk
        exact runs_ret (by kernel_rfl) trivial (Nat.le_refl 0) trivial (And.intro (And.intro trivial (And.intro trivial trivial)) (And.intro trivial trivial))
      · replace h := ifs_false h hb
        refine runs_regions 1 [([], [4, 6, 8, 10, 11])] (z := ([], [(4, (D.ptr 2 [])), (6, (D.str t6)), (8, (D.str t8)), (10, (D.own 3)), (11, (D.int .i64 (IntKind.wrap .i64 (t11 + (1 : Int)))))], [none, none, some (.box (S_api_Cube.d m2)), some (.seq 5 m3.1 1 (D.ints .u8 m3.1 m3.2))])) rfl (by kernel_rfl) trivial ?_
        rw [← Option.some.inj h] at hk
        refine runs_to (ts := [4, 6, 8, 10, 11]) (T' := T_ref01_Meet_L1) (env' := [(4, (D.ptr 2 [])), (6, (D.str t6)), (8, (D.str t8)), (10, (D.own 3)), (11, (D.int .i64 (IntKind.wrap .i64 (t11 + (1 : Int)))))]) (h2 := [none, none, some (.box (S_api_Cube.d m2)), some (.seq 5 m3.1 1 (D.ints .u8 m3.1 m3.2))]) (by kernel_rfl) (by kernel_rfl) (And.intro (.inl rfl) (And.intro (.inl rfl) (And.intro (.inr rfl) (And.intro (.inr rfl) trivial)))) (Nat.zero_le _) (And.intro (S_api_Cube.inn _) (And.intro trivial trivial)) (And.intro (bel_of rfl) (And.intro trivial (And.intro trivial (And.intro (bel_of rfl) (And.intro trivial trivial))))) ?_
        exact hk
  · replace h := ifs_false h hb
    rw [← Option.some.inj h] at hk
    refine runs_to (ts := [4, 10]) (T' := X_ref01_Meet_L1T) (env' := [(4, (D.ptr 2 [])), (10, (D.own 3))]) (h2 := [none, none, some (.box (S_api_Cube.d m2)), some (.seq 5 m3.1 1 (D.ints .u8 m3.1 m3.2))]) (by kernel_rfl) (by kernel_rfl) (And.intro (.inl rfl) (And.intro (.inl rfl) (And.intro (.inr rfl) (And.intro (.inr rfl) trivial)))) (Nat.zero_le _) (And.intro (S_api_Cube.inn _) (And.intro trivial trivial)) (And.intro (bel_of rfl) (And.intro (bel_of rfl) trivial)) ?_
    exact hk

theorem iter_ref01_Meet_L1 (fu : Nat) (t6 : ByteArray) (t8 : ByteArray) (m2 : S_api_Cube) {d : D} (k : Nat) (s : (Int × (Nat × (Nat → Int)))) {o : E_ref01_Meet_L1 ⊕ (S_api_Cube × Bool)} (h : iter (fun s => F_ref01_Meet_L1 fu t6 t8 m2 s.1 s.2) k s = some o) (hx : X_ref01_Meet_L1 fu t6 t8 m2 d o) : N_ref01_Meet_L1 fu t6 t8 m2 d s :=
  iter_post (K := N_ref01_Meet_L1 fu t6 t8 m2 d) (X := X_ref01_Meet_L1 fu t6 t8 m2 d) (fun s _ h hk => run_ref01_Meet_L1 fu t6 t8 m2 s.1 s.2 h hk) k s o h hx

/-- podesta/podestaref01.Meet -/
def F_ref01_Meet (fu : Nat) (t0 : S_api_Cube) (t1 : S_api_Cube) : Option (S_api_Cube × Bool) :=
  (F_ref01_Text fu t0).bind fun r0 =>
  (F_ref01_Text fu t1).bind fun r1 =>
  ifs (bif (!r0.2) then true else (!r1.2)) (
    some ((S_api_Cube.mk (fun _ => 0) (fun _ => 0)), false)) (
    chk (r0.1.size ≤ 9223372036854775807) <|
    after (iter (fun s => F_ref01_Meet_L1 fu r0.1 r1.1 (S_api_Cube.mk (fun _ => 0) (fun _ => 0)) s.1 s.2) fu ((0 : Int), (r0.1.size, (fun i => (((r0.1[i]?).getD 0).toNat : Int))))) fun e9 =>
    (F_ref01_From fu (bytesOf e9.1 e9.2)).bind fun r2 =>
    some (r2, true))

theorem run_ref01_Meet (fu : Nat) (t0 : S_api_Cube) (t1 : S_api_Cube) {d : D} {r : (S_api_Cube × Bool)} (h : F_ref01_Meet fu t0 t1 = some r) (hk : (K_ref01_Meet d) r) : Runs Try.prog Try.f29 0 T_ref01_Meet [(0, (S_api_Cube.d t0)), (1, (S_api_Cube.d t1))] [] d [] := by
  unfold F_ref01_Meet at h
  obtain ⟨r0, cr0, h⟩ := Option.bind_eq_some_iff.1 h
  obtain ⟨r1, cr1, h⟩ := Option.bind_eq_some_iff.1 h
  refine runs_regions 4 [([], [2, 3, 4]), ([(.d (D.tup (D.cons (D.str r0.1) (D.cons (D.bool r0.2) D.nil))))], [3, 4, 6, 7]), ([(.d (D.tup (D.cons (D.str r1.1) (D.cons (D.bool r1.2) D.nil))))], [4, 6, 7, 8, 9]), ([], [4, 6, 8, 27])] (z := ([FC Try.prog 22 [(S_api_Cube.d t0)] [] (D.tup (D.cons (D.str r0.1) (D.cons (D.bool r0.2) D.nil))) [], All (List.map NoRow [(S_api_Cube.d t0)]), FC Try.prog 22 [(S_api_Cube.d t1)] [] (D.tup (D.cons (D.str r1.1) (D.cons (D.bool r1.2) D.nil))) [], All (List.map NoRow [(S_api_Cube.d t1)]), ((!(!r0.2)) = true → All [((!(!r0.2)) = true → (!(!r0.2)) = true)]), ((true && !(!r0.2)) = true → (!(!r0.2)) = true)], [(4, (D.ptr 2 [])), (6, (D.str r0.1)), (8, (D.str r1.1)), (27, (D.bool (bif (!r0.2) then true else (!r1.2))))], [some (.box (S_api_Cube.d t0)), some (.box (S_api_Cube.d t1)), some (.box (D.cons (D.ints .u64 12 (fun _ => 0)) (D.cons (D.ints .u64 12 (fun _ => 0)) D.nil)))])) rfl (by kernel_rfl) (And.intro (fc_ref01_Text fu t0 cr0) (And.intro (And.intro (S_api_Cube.inn _) trivial) (And.intro (fc_ref01_Text fu t1 cr1) (And.intro (And.intro (S_api_Cube.inn _) trivial) (And.intro (fun _ => (And.intro (by first | exact fun h => h | exact fun h => (Bool.and_eq_true_iff.1 h).1 | simp_all) trivial)) (And.intro (by first | exact fun h => h | exact fun h => (Bool.and_eq_true_iff.1 h).1 | simp_all) trivial)))))) ?_
  refine runs_if (b := (bif (!r0.2) then true else (!r1.2))) (by kernel_rfl) (fun hb => ?_) (fun hb => ?_)
  · replace h := ifs_true h hb
    refine runs_regions 1 [([], [4, 5])] (z := ([], [(4, (D.ptr 2 [])), (5, (D.bool false))], [some (.box (S_api_Cube.d t0)), some (.box (S_api_Cube.d t1)), some (.box (D.cons (D.ints .u64 12 (fun _ => 0)) (D.cons (D.ints .u64 12 (fun _ => 0)) D.nil)))])) rfl (by kernel_rfl) trivial ?_
    rw [← Option.some.inj h] at hk
    obtain rfl : d = (D.tup (D.cons (D.cons (D.ints .u64 12 (fun _ => 0)) (D.cons (D.ints .u64 12 (fun _ => 0)) D.nil)) (D.cons (D.bool false) D.nil))) := hk
    exact runs_ret (by kernel_rfl) trivial (Nat.le_refl 0) trivial (And.intro (And.intro trivial (And.intro trivial trivial)) (And.intro trivial trivial))
  · replace h := ifs_false h hb
    obtain ⟨p0, h⟩ := chk_some h
    refine runs_regions 2 [([], [4, 6, 8, 10]), ([], [4, 6, 8, 10, 11])] (z := ([(r0.1.size ≤ 9223372036854775807), MarkedB 5 = true], [(4, (D.ptr 2 [])), (6, (D.str r0.1)), (8, (D.str r1.1)), (10, (D.own 3)), (11, (D.int .i64 (0 : Int)))], [some (.box (S_api_Cube.d t0)), some (.box (S_api_Cube.d t1)), some (.box (D.cons (D.ints .u64 12 (fun _ => 0)) (D.cons (D.ints .u64 12 (fun _ => 0)) D.nil))), some (.seq 5 r0.1.size 1 (D.ints .u8 r0.1.size (fun i => (((r0.1[i]?).getD 0).toNat : Int))))])) rfl (by kernel_rfl) (And.intro p0 (And.intro rfl trivial)) ?_
    refine runs_to (ts := [4, 6, 8, 10, 11]) (T' := T_ref01_Meet_L1) (env' := [(4, (D.ptr 2 [])), (6, (D.str r0.1)), (8, (D.str r1.1)), (10, (D.own 3)), (11, (D.int .i64 (0 : Int)))]) (h2 := [none, none, some (.box (D.cons (D.ints .u64 12 (fun _ => 0)) (D.cons (D.ints .u64 12 (fun _ => 0)) D.nil))), some (.seq 5 r0.1.size 1 (D.ints .u8 r0.1.size (fun i => (((r0.1[i]?).getD 0).toNat : Int))))]) (by kernel_rfl) (by kernel_rfl) (And.intro (.inl rfl) (And.intro (.inl rfl) (And.intro (.inr rfl) (And.intro (.inr rfl) trivial)))) (Nat.zero_le _) (And.intro (And.intro trivial (And.intro trivial trivial)) (And.intro trivial trivial)) (And.intro (bel_of rfl) (And.intro trivial (And.intro trivial (And.intro (bel_of rfl) (And.intro trivial trivial))))) ?_
    rcases after_some h with ⟨e9, hi, h⟩ | hi
    · refine iter_ref01_Meet_L1 fu r0.1 r1.1 (S_api_Cube.mk (fun _ => 0) (fun _ => 0)) fu ((0 : Int), (r0.1.size, (fun i => (((r0.1[i]?).getD 0).toNat : Int)))) hi ?_
      show Runs Try.prog Try.f29 0 X_ref01_Meet_L1T [(4, (D.ptr 2 [])), (10, (D.own 3))] [none, none, some (.box (D.cons (D.ints .u64 12 (fun _ => 0)) (D.cons (D.ints .u64 12 (fun _ => 0)) D.nil))), some (.seq 5 e9.1 1 (D.ints .u8 e9.1 e9.2))] d []
      obtain ⟨r2, cr2, h⟩ := Option.bind_eq_some_iff.1 h
      refine runs_regions 1 [([(.d (S_api_Cube.d r2))], [4, 5])] (z := ([FC Try.prog 57 [(D.str (bytesOf e9.1 e9.2))] [] (S_api_Cube.d r2) [], All (List.map NoRow [(D.str (bytesOf e9.1 e9.2))])], [(4, (D.ptr 2 [])), (5, (D.bool true))], [none, none, some (.box (S_api_Cube.d r2)), some (.seq 5 e9.1 1 (D.ints .u8 e9.1 e9.2))])) rfl (by kernel_rfl) (And.intro (fc_ref01_From fu (bytesOf e9.1 e9.2) cr2) (And.intro (And.intro trivial trivial) trivial)) ?_
      rw [← Option.some.inj h] at hk
      obtain rfl : d = (D.tup (D.cons (S_api_Cube.d r2) (D.cons (D.bool true) D.nil))) := hk
      exact runs_ret (by kernel_rfl) trivial (Nat.le_refl 0) trivial (And.intro (S_api_Cube.inn _) (And.intro trivial trivial))
    · exact iter_ref01_Meet_L1 fu r0.1 r1.1 (S_api_Cube.mk (fun _ => 0) (fun _ => 0)) fu ((0 : Int), (r0.1.size, (fun i => (((r0.1[i]?).getD 0).toNat : Int)))) hi hk

theorem fc_ref01_Meet (fu : Nat) (t0 : S_api_Cube) (t1 : S_api_Cube) {r : (S_api_Cube × Bool)} (h : F_ref01_Meet fu t0 t1 = some r) : FC Try.prog 29 [(S_api_Cube.d t0), (S_api_Cube.d t1)] [] (D.tup (D.cons (S_api_Cube.d r.1) (D.cons (D.bool r.2) D.nil))) [] := by
  refine fc_of_runs (fn := Try.f29) (c := Try.f29.body.getD .skip) (by kernel_rfl) (by kernel_rfl) ?_
  refine runs_to (ts := [0, 1]) (T' := T_ref01_Meet) (env' := [(0, (S_api_Cube.d t0)), (1, (S_api_Cube.d t1))]) (h2 := []) (by kernel_rfl) (by kernel_rfl) trivial (Nat.le_refl _) trivial (And.intro (S_api_Cube.inn _) (And.intro (S_api_Cube.inn _) trivial)) ?_
  exact run_ref01_Meet fu t0 t1 h rfl

def K_ref01_Within (d : D) (r : Bool) : Prop := d = (D.bool r)

noncomputable def T_ref01_Within : List Item := norm 200 [.code (Try.f14.body.getD .skip)]

noncomputable def T_ref01_Within_L1 : List Item := norm 200 (nxt (nxt (nxt (nxt T_ref01_Within))))

noncomputable def X_ref01_Within_L1T : List Item := norm 200 (cndF (nxt (nxt (nxt (nxt (nxt T_ref01_Within))))))

abbrev E_ref01_Within_L1 := Bool

def N_ref01_Within_L1 (_fu : Nat) (t5 : ByteArray) (t7 : ByteArray) (t8 : Bool) (d : D) (s : (Bool × Int)) : Prop := Runs Try.prog Try.f14 0 T_ref01_Within_L1 [(5, (D.str t5)), (6, (D.bool s.1)), (7, (D.str t7)), (8, (D.bool t8)), (9, (D.int .i64 s.2))] [] d []

def X_ref01_Within_L1 (_fu : Nat) (_t5 : ByteArray) (_t7 : ByteArray) (t8 : Bool) (d : D) : E_ref01_Within_L1 ⊕ Bool → Prop
  | .inl e => Runs Try.prog Try.f14 0 X_ref01_Within_L1T [(6, (D.bool e)), (8, (D.bool t8))] [] d []
  | .inr o => (K_ref01_Within d) o

def F_ref01_Within_L1 (_fu : Nat) (t5 : ByteArray) (t7 : ByteArray) (_t8 : Bool) (t6 : Bool) (t9 : Int) : Option (Lo (Bool × Int) E_ref01_Within_L1 Bool) :=
  ifs (decide (t9 < (t5.size : Int))) (
    chk (t6 = true → (0 ≤ t9 ∧ t9 < (t7.size : Int))) <|
    chk ((t6 && (!((((t7[t9.toNat]?).getD 0).toNat : Int) == (120 : Int)))) = true → (0 ≤ t9 ∧ t9 < (t5.size : Int))) <|
    chk ((t6 && (!((((t7[t9.toNat]?).getD 0).toNat : Int) == (120 : Int)))) = true → (0 ≤ t9 ∧ t9 < (t7.size : Int))) <|
    some (.next ((bif t6 then (bif ((((t7[t9.toNat]?).getD 0).toNat : Int) == (120 : Int)) then true else ((((t5[t9.toNat]?).getD 0).toNat : Int) == (((t7[t9.toNat]?).getD 0).toNat : Int))) else false), (IntKind.wrap .i64 (t9 + (1 : Int)))))) (
    some (.exit t6))

theorem run_ref01_Within_L1 (fu : Nat) (t5 : ByteArray) (t7 : ByteArray) (t8 : Bool) (t6 : Bool) (t9 : Int) {d : D} {o : (Lo (Bool × Int) E_ref01_Within_L1 Bool)} (h : F_ref01_Within_L1 fu t5 t7 t8 t6 t9 = some o) (hk : (Lo.post (N_ref01_Within_L1 fu t5 t7 t8 d) (X_ref01_Within_L1 fu t5 t7 t8 d)) o) : Runs Try.prog Try.f14 0 T_ref01_Within_L1 [(5, (D.str t5)), (6, (D.bool t6)), (7, (D.str t7)), (8, (D.bool t8)), (9, (D.int .i64 t9))] [] d [] := by
  unfold F_ref01_Within_L1 at h
  refine runs_regions 1 [([], [5, 6, 7, 8, 9, 23])] (z := ([], [(5, (D.str t5)), (6, (D.bool t6)), (7, (D.str t7)), (8, (D.bool t8)), (9, (D.int .i64 t9)), (23, (D.bool (decide (t9 < (t5.size : Int)))))], [])) rfl (by kernel_rfl) trivial ?_
  refine runs_if (b := (decide (t9 < (t5.size : Int)))) (by kernel_rfl) (fun hb => ?_) (fun hb => ?_)
  · replace h := ifs_true h hb
    obtain ⟨p0, h⟩ := chk_some h
    obtain ⟨p1, h⟩ := chk_some h
    obtain ⟨p2, h⟩ := chk_some h
    refine runs_regions 2 [([], [5, 6, 7, 8, 9]), ([], [5, 6, 7, 8, 9])] (z := ([(t6 = true → All [(t6 = true → t6 = true), (t6 = true → t6 = true), (0 ≤ t9 ∧ t9 < (t7.size : Int))]), (t6 = true → All [(t6 = true → t6 = true)]), (t6 = true → All [(t6 = true → t6 = true)]), ((t6 && (!((((t7[t9.toNat]?).getD 0).toNat : Int) == (120 : Int)))) = true → All [((t6 && (!((((t7[t9.toNat]?).getD 0).toNat : Int) == (120 : Int)))) = true → (t6 && (!((((t7[t9.toNat]?).getD 0).toNat : Int) == (120 : Int)))) = true), ((t6 && (!((((t7[t9.toNat]?).getD 0).toNat : Int) == (120 : Int)))) = true → (t6 && (!((((t7[t9.toNat]?).getD 0).toNat : Int) == (120 : Int)))) = true), (0 ≤ t9 ∧ t9 < (t5.size : Int))]), ((t6 && (!((((t7[t9.toNat]?).getD 0).toNat : Int) == (120 : Int)))) = true → All [((t6 && (!((((t7[t9.toNat]?).getD 0).toNat : Int) == (120 : Int)))) = true → (t6 && (!((((t7[t9.toNat]?).getD 0).toNat : Int) == (120 : Int)))) = true), ((t6 && (!((((t7[t9.toNat]?).getD 0).toNat : Int) == (120 : Int)))) = true → (t6 && (!((((t7[t9.toNat]?).getD 0).toNat : Int) == (120 : Int)))) = true), (0 ≤ t9 ∧ t9 < (t7.size : Int))]), ((t6 && (!((((t7[t9.toNat]?).getD 0).toNat : Int) == (120 : Int)))) = true → All [((t6 && (!((((t7[t9.toNat]?).getD 0).toNat : Int) == (120 : Int)))) = true → (t6 && (!((((t7[t9.toNat]?).getD 0).toNat : Int) == (120 : Int)))) = true), ((t6 && (!((((t7[t9.toNat]?).getD 0).toNat : Int) == (120 : Int)))) = true → (t6 && (!((((t7[t9.toNat]?).getD 0).toNat : Int) == (120 : Int)))) = true)]), (t6 = true → All [(t6 = true → t6 = true), ((t6 && !((((t7[t9.toNat]?).getD 0).toNat : Int) == (120 : Int))) = true → (t6 && (!((((t7[t9.toNat]?).getD 0).toNat : Int) == (120 : Int)))) = true)]), ((true && t6) = true → t6 = true)], [(5, (D.str t5)), (6, (D.bool (bif t6 then (bif ((((t7[t9.toNat]?).getD 0).toNat : Int) == (120 : Int)) then true else ((((t5[t9.toNat]?).getD 0).toNat : Int) == (((t7[t9.toNat]?).getD 0).toNat : Int))) else false))), (7, (D.str t7)), (8, (D.bool t8)), (9, (D.int .i64 (IntKind.wrap .i64 (t9 + (1 : Int)))))], [])) rfl (by kernel_rfl) (And.intro (fun hg => (And.intro (by first | exact fun h => h | exact fun h => (Bool.and_eq_true_iff.1 h).1 | simp_all) (And.intro (by first | exact fun h => h | exact fun h => (Bool.and_eq_true_iff.1 h).1 | simp_all) (And.intro (p0 hg) trivial)))) (And.intro (fun _ => (And.intro (by first | exact fun h => h | exact fun h => (Bool.and_eq_true_iff.1 h).1 | simp_all) trivial)) (And.intro (fun _ => (And.intro (by first | exact fun h => h | exact fun h => (Bool.and_eq_true_iff.1 h).1 | simp_all) trivial)) (And.intro (fun hg => (And.intro (by first | exact fun h => h | exact fun h => (Bool.and_eq_true_iff.1 h).1 | simp_all) (And.intro (by first | exact fun h => h | exact fun h => (Bool.and_eq_true_iff.1 h).1 | simp_all) (And.intro (p1 hg) trivial)))) (And.intro (fun hg => (And.intro (by first | exact fun h => h | exact fun h => (Bool.and_eq_true_iff.1 h).1 | simp_all) (And.intro (by first | exact fun h => h | exact fun h => (Bool.and_eq_true_iff.1 h).1 | simp_all) (And.intro (p2 hg) trivial)))) (And.intro (fun _ => (And.intro (by first | exact fun h => h | exact fun h => (Bool.and_eq_true_iff.1 h).1 | simp_all) (And.intro (by first | exact fun h => h | exact fun h => (Bool.and_eq_true_iff.1 h).1 | simp_all) trivial))) (And.intro (fun _ => (And.intro (by first | exact fun h => h | exact fun h => (Bool.and_eq_true_iff.1 h).1 | simp_all) (And.intro (by first | exact fun h => h | exact fun h => (Bool.and_eq_true_iff.1 h).1 | simp_all) trivial))) (And.intro (by first | exact fun h => h | exact fun h => (Bool.and_eq_true_iff.1 h).1 | simp_all) trivial)))))))) ?_
    rw [← Option.some.inj h] at hk
    refine runs_to (ts := [5, 6, 7, 8, 9]) (T' := T_ref01_Within_L1) (env' := [(5, (D.str t5)), (6, (D.bool (bif t6 then (bif ((((t7[t9.toNat]?).getD 0).toNat : Int) == (120 : Int)) then true else ((((t5[t9.toNat]?).getD 0).toNat : Int) == (((t7[t9.toNat]?).getD 0).toNat : Int))) else false))), (7, (D.str t7)), (8, (D.bool t8)), (9, (D.int .i64 (IntKind.wrap .i64 (t9 + (1 : Int)))))]) (h2 := []) (by kernel_rfl) (by kernel_rfl) trivial (Nat.zero_le _) trivial (And.intro trivial (And.intro trivial (And.intro trivial (And.intro trivial (And.intro trivial trivial))))) ?_
    exact hk
  · replace h := ifs_false h hb
    rw [← Option.some.inj h] at hk
    refine runs_to (ts := [6, 8]) (T' := X_ref01_Within_L1T) (env' := [(6, (D.bool t6)), (8, (D.bool t8))]) (h2 := []) (by kernel_rfl) (by kernel_rfl) trivial (Nat.zero_le _) trivial (And.intro trivial (And.intro trivial trivial)) ?_
    exact hk

theorem iter_ref01_Within_L1 (fu : Nat) (t5 : ByteArray) (t7 : ByteArray) (t8 : Bool) {d : D} (k : Nat) (s : (Bool × Int)) {o : E_ref01_Within_L1 ⊕ Bool} (h : iter (fun s => F_ref01_Within_L1 fu t5 t7 t8 s.1 s.2) k s = some o) (hx : X_ref01_Within_L1 fu t5 t7 t8 d o) : N_ref01_Within_L1 fu t5 t7 t8 d s :=
  iter_post (K := N_ref01_Within_L1 fu t5 t7 t8 d) (X := X_ref01_Within_L1 fu t5 t7 t8 d) (fun s _ h hk => run_ref01_Within_L1 fu t5 t7 t8 s.1 s.2 h hk) k s o h hx

/-- podesta/podestaref01.Within -/
def F_ref01_Within (fu : Nat) (t0 : S_api_Cube) (t1 : S_api_Cube) : Option Bool :=
  (F_ref01_Text fu t0).bind fun r0 =>
  (F_ref01_Text fu t1).bind fun r1 =>
  after (iter (fun s => F_ref01_Within_L1 fu r0.1 r1.1 r1.2 s.1 s.2) fu (r0.2, (0 : Int))) fun e4 =>
  some (bif e4 then r1.2 else false)

theorem run_ref01_Within (fu : Nat) (t0 : S_api_Cube) (t1 : S_api_Cube) {d : D} {r : Bool} (h : F_ref01_Within fu t0 t1 = some r) (hk : (K_ref01_Within d) r) : Runs Try.prog Try.f14 0 T_ref01_Within [(0, (S_api_Cube.d t0)), (1, (S_api_Cube.d t1))] [] d [] := by
  unfold F_ref01_Within at h
  obtain ⟨r0, cr0, h⟩ := Option.bind_eq_some_iff.1 h
  obtain ⟨r1, cr1, h⟩ := Option.bind_eq_some_iff.1 h
  refine runs_regions 4 [([], [2, 3]), ([(.d (D.tup (D.cons (D.str r0.1) (D.cons (D.bool r0.2) D.nil))))], [3, 5, 6]), ([(.d (D.tup (D.cons (D.str r1.1) (D.cons (D.bool r1.2) D.nil))))], [5, 6, 7, 8]), ([], [5, 6, 7, 8, 9])] (z := ([FC Try.prog 22 [(S_api_Cube.d t0)] [] (D.tup (D.cons (D.str r0.1) (D.cons (D.bool r0.2) D.nil))) [], All (List.map NoRow [(S_api_Cube.d t0)]), FC Try.prog 22 [(S_api_Cube.d t1)] [] (D.tup (D.cons (D.str r1.1) (D.cons (D.bool r1.2) D.nil))) [], All (List.map NoRow [(S_api_Cube.d t1)])], [(5, (D.str r0.1)), (6, (D.bool r0.2)), (7, (D.str r1.1)), (8, (D.bool r1.2)), (9, (D.int .i64 (0 : Int)))], [some (.box (S_api_Cube.d t0)), some (.box (S_api_Cube.d t1))])) rfl (by kernel_rfl) (And.intro (fc_ref01_Text fu t0 cr0) (And.intro (And.intro (S_api_Cube.inn _) trivial) (And.intro (fc_ref01_Text fu t1 cr1) (And.intro (And.intro (S_api_Cube.inn _) trivial) trivial)))) ?_
  refine runs_to (ts := [5, 6, 7, 8, 9]) (T' := T_ref01_Within_L1) (env' := [(5, (D.str r0.1)), (6, (D.bool r0.2)), (7, (D.str r1.1)), (8, (D.bool r1.2)), (9, (D.int .i64 (0 : Int)))]) (h2 := []) (by kernel_rfl) (by kernel_rfl) trivial (Nat.zero_le _) trivial (And.intro trivial (And.intro trivial (And.intro trivial (And.intro trivial (And.intro trivial trivial))))) ?_
  rcases after_some h with ⟨e4, hi, h⟩ | hi
  · refine iter_ref01_Within_L1 fu r0.1 r1.1 r1.2 fu (r0.2, (0 : Int)) hi ?_
    show Runs Try.prog Try.f14 0 X_ref01_Within_L1T [(6, (D.bool e4)), (8, (D.bool r1.2))] [] d []
    refine runs_regions 1 [([], [4])] (z := ([((true && e4) = true → e4 = true)], [(4, (D.bool (bif e4 then r1.2 else false)))], [])) rfl (by kernel_rfl) (And.intro (by first | exact fun h => h | exact fun h => (Bool.and_eq_true_iff.1 h).1 | simp_all) trivial) ?_
    rw [← Option.some.inj h] at hk
    obtain rfl : d = (D.bool (bif e4 then r1.2 else false)) := hk
    exact runs_ret (by kernel_rfl) trivial (Nat.le_refl 0) trivial trivial
  · exact iter_ref01_Within_L1 fu r0.1 r1.1 r1.2 fu (r0.2, (0 : Int)) hi hk

theorem fc_ref01_Within (fu : Nat) (t0 : S_api_Cube) (t1 : S_api_Cube) {r : Bool} (h : F_ref01_Within fu t0 t1 = some r) : FC Try.prog 14 [(S_api_Cube.d t0), (S_api_Cube.d t1)] [] (D.bool r) [] := by
  refine fc_of_runs (fn := Try.f14) (c := Try.f14.body.getD .skip) (by kernel_rfl) (by kernel_rfl) ?_
  refine runs_to (ts := [0, 1]) (T' := T_ref01_Within) (env' := [(0, (S_api_Cube.d t0)), (1, (S_api_Cube.d t1))]) (h2 := []) (by kernel_rfl) (by kernel_rfl) trivial (Nat.le_refl _) trivial (And.intro (S_api_Cube.inn _) (And.intro (S_api_Cube.inn _) trivial)) ?_
  exact run_ref01_Within fu t0 t1 h rfl

def K_ref01_Order (d : D) (r : Int) : Prop := d = (D.int .i64 r)

noncomputable def T_ref01_Order : List Item := norm 200 [.code (Try.f66.body.getD .skip)]

noncomputable def T_ref01_Order_L1 : List Item := norm 200 (nxt (nxt T_ref01_Order))

noncomputable def X_ref01_Order_L1T : List Item := norm 200 (cndF (nxt (nxt (nxt T_ref01_Order))))

abbrev E_ref01_Order_L1 := Unit

def N_ref01_Order_L1 (_fu : Nat) (m0 : (Nat → Int)) (m1 : (Nat → Int)) (d : D) (s : Int) : Prop := Runs Try.prog Try.f66 0 T_ref01_Order_L1 [(2, (D.ptr 0 [])), (3, (D.ptr 1 [])), (5, (D.int .i64 s))] [some (.box (D.ints .u64 12 m0)), some (.box (D.ints .u64 12 m1))] d []

def X_ref01_Order_L1 (_fu : Nat) (_m0 : (Nat → Int)) (_m1 : (Nat → Int)) (d : D) : E_ref01_Order_L1 ⊕ Int → Prop
  | .inl _ => Runs Try.prog Try.f66 0 X_ref01_Order_L1T [] [] d []
  | .inr o => (K_ref01_Order d) o

def F_ref01_Order_L1 (_fu : Nat) (m0 : (Nat → Int)) (m1 : (Nat → Int)) (t5 : Int) : Option (Lo Int E_ref01_Order_L1 Int) :=
  ifs (decide (t5 < (12 : Int))) (
    chk (0 ≤ t5 ∧ t5 < ((12 : Nat) : Int)) <|
    chk (t5.toNat < 12) <|
    chk (0 ≤ t5 ∧ t5 < ((12 : Nat) : Int)) <|
    chk (t5.toNat < 12) <|
    ifs (decide ((m0 t5.toNat) < (m1 t5.toNat))) (
      some (.ret (-1 : Int))) (
      chk (0 ≤ t5 ∧ t5 < ((12 : Nat) : Int)) <|
      chk (t5.toNat < 12) <|
      chk (0 ≤ t5 ∧ t5 < ((12 : Nat) : Int)) <|
      chk (t5.toNat < 12) <|
      ifs (decide ((m0 t5.toNat) > (m1 t5.toNat))) (
        some (.ret (1 : Int))) (
        some (.next (IntKind.wrap .i64 (t5 + (1 : Int))))))) (
    some (.exit ()))

theorem run_ref01_Order_L1 (fu : Nat) (m0 : (Nat → Int)) (m1 : (Nat → Int)) (t5 : Int) {d : D} {o : (Lo Int E_ref01_Order_L1 Int)} (h : F_ref01_Order_L1 fu m0 m1 t5 = some o) (hk : (Lo.post (N_ref01_Order_L1 fu m0 m1 d) (X_ref01_Order_L1 fu m0 m1 d)) o) : Runs Try.prog Try.f66 0 T_ref01_Order_L1 [(2, (D.ptr 0 [])), (3, (D.ptr 1 [])), (5, (D.int .i64 t5))] [some (.box (D.ints .u64 12 m0)), some (.box (D.ints .u64 12 m1))] d [] := by
  unfold F_ref01_Order_L1 at h
  refine runs_regions 1 [([], [2, 3, 5, 7])] (z := ([], [(2, (D.ptr 0 [])), (3, (D.ptr 1 [])), (5, (D.int .i64 t5)), (7, (D.bool (decide (t5 < (12 : Int)))))], [some (.box (D.ints .u64 12 m0)), some (.box (D.ints .u64 12 m1))])) rfl (by kernel_rfl) trivial ?_
  refine runs_if (b := (decide (t5 < (12 : Int)))) (by kernel_rfl) (fun hb => ?_) (fun hb => ?_)
  · replace h := ifs_true h hb
    obtain ⟨p0, h⟩ := chk_some h
    obtain ⟨p1, h⟩ := chk_some h
    obtain ⟨p2, h⟩ := chk_some h
    obtain ⟨p3, h⟩ := chk_some h
    refine runs_regions 1 [([], [2, 3, 5, 16])] (z := ([(0 ≤ t5 ∧ t5 < ((12 : Nat) : Int)), (t5.toNat < 12), (0 ≤ t5 ∧ t5 < ((12 : Nat) : Int)), (t5.toNat < 12)], [(2, (D.ptr 0 [])), (3, (D.ptr 1 [])), (5, (D.int .i64 t5)), (16, (D.bool (decide ((m0 t5.toNat) < (m1 t5.toNat)))))], [some (.box (D.ints .u64 12 m0)), some (.box (D.ints .u64 12 m1))])) rfl (by kernel_rfl) (And.intro p0 (And.intro p1 (And.intro p2 (And.intro p3 trivial)))) ?_
    refine runs_if (b := (decide ((m0 t5.toNat) < (m1 t5.toNat)))) (by kernel_rfl) (fun hb => ?_) (fun hb => ?_)
    · replace h := ifs_true h hb
      refine runs_regions 1 [([], [4])] (z := ([], [(4, (D.int .i64 (-1 : Int)))], [some (.box (D.ints .u64 12 m0)), some (.box (D.ints .u64 12 m1))])) rfl (by kernel_rfl) trivial ?_
      rw [← Option.some.inj h] at hk
      obtain rfl : d = (D.int .i64 (-1 : Int)) := hk
      exact runs_ret (by kernel_rfl) trivial (Nat.le_refl 0) trivial trivial
    · replace h := ifs_false h hb
      obtain ⟨p4, h⟩ := chk_some h
      obtain ⟨p5, h⟩ := chk_some h
      obtain ⟨p6, h⟩ := chk_some h
      obtain ⟨p7, h⟩ := chk_some h
      refine runs_regions 1 [([], [2, 3, 5, 23])] (z := ([(0 ≤ t5 ∧ t5 < ((12 : Nat) : Int)), (t5.toNat < 12), (0 ≤ t5 ∧ t5 < ((12 : Nat) : Int)), (t5.toNat < 12)], [(2, (D.ptr 0 [])), (3, (D.ptr 1 [])), (5, (D.int .i64 t5)), (23, (D.bool (decide ((m0 t5.toNat) > (m1 t5.toNat)))))], [some (.box (D.ints .u64 12 m0)), some (.box (D.ints .u64 12 m1))])) rfl (by kernel_rfl) (And.intro p4 (And.intro p5 (And.intro p6 (And.intro p7 trivial)))) ?_
      refine runs_if (b := (decide ((m0 t5.toNat) > (m1 t5.toNat)))) (by kernel_rfl) (fun hb => ?_) (fun hb => ?_)
      · replace h := ifs_true h hb
        refine runs_regions 1 [([], [4])] (z := ([], [(4, (D.int .i64 (1 : Int)))], [some (.box (D.ints .u64 12 m0)), some (.box (D.ints .u64 12 m1))])) rfl (by kernel_rfl) trivial ?_
        rw [← Option.some.inj h] at hk
        obtain rfl : d = (D.int .i64 (1 : Int)) := hk
        exact runs_ret (by kernel_rfl) trivial (Nat.le_refl 0) trivial trivial
      · replace h := ifs_false h hb
        refine runs_regions 1 [([], [2, 3, 5])] (z := ([], [(2, (D.ptr 0 [])), (3, (D.ptr 1 [])), (5, (D.int .i64 (IntKind.wrap .i64 (t5 + (1 : Int)))))], [some (.box (D.ints .u64 12 m0)), some (.box (D.ints .u64 12 m1))])) rfl (by kernel_rfl) trivial ?_
        rw [← Option.some.inj h] at hk
        refine runs_to (ts := [2, 3, 5]) (T' := T_ref01_Order_L1) (env' := [(2, (D.ptr 0 [])), (3, (D.ptr 1 [])), (5, (D.int .i64 (IntKind.wrap .i64 (t5 + (1 : Int)))))]) (h2 := [some (.box (D.ints .u64 12 m0)), some (.box (D.ints .u64 12 m1))]) (by kernel_rfl) (by kernel_rfl) (And.intro (.inr rfl) (And.intro (.inr rfl) trivial)) (Nat.zero_le _) (And.intro trivial (And.intro trivial trivial)) (And.intro (bel_of rfl) (And.intro (bel_of rfl) (And.intro trivial trivial))) ?_
        exact hk
  · replace h := ifs_false h hb
    rw [← Option.some.inj h] at hk
    refine runs_to (ts := []) (T' := X_ref01_Order_L1T) (env' := []) (h2 := []) (by kernel_rfl) (by kernel_rfl) trivial (Nat.zero_le _) trivial trivial ?_
    exact hk

theorem iter_ref01_Order_L1 (fu : Nat) (m0 : (Nat → Int)) (m1 : (Nat → Int)) {d : D} (k : Nat) (s : Int) {o : E_ref01_Order_L1 ⊕ Int} (h : iter (fun s => F_ref01_Order_L1 fu m0 m1 s) k s = some o) (hx : X_ref01_Order_L1 fu m0 m1 d o) : N_ref01_Order_L1 fu m0 m1 d s :=
  iter_post (K := N_ref01_Order_L1 fu m0 m1 d) (X := X_ref01_Order_L1 fu m0 m1 d) (fun s _ h hk => run_ref01_Order_L1 fu m0 m1 s h hk) k s o h hx

/-- podesta/podestaref01.Order -/
def F_ref01_Order (fu : Nat) (t0 : (Nat → Int)) (t1 : (Nat → Int)) : Option Int :=
  after (iter (fun s => F_ref01_Order_L1 fu t0 t1 s) fu (0 : Int)) fun _ =>
  some (0 : Int)

theorem run_ref01_Order (fu : Nat) (t0 : (Nat → Int)) (t1 : (Nat → Int)) {d : D} {r : Int} (h : F_ref01_Order fu t0 t1 = some r) (hk : (K_ref01_Order d) r) : Runs Try.prog Try.f66 0 T_ref01_Order [(0, (D.ints .u64 12 t0)), (1, (D.ints .u64 12 t1))] [] d [] := by
  unfold F_ref01_Order at h
  refine runs_regions 2 [([], [2, 3]), ([], [2, 3, 5])] (z := ([], [(2, (D.ptr 0 [])), (3, (D.ptr 1 [])), (5, (D.int .i64 (0 : Int)))], [some (.box (D.ints .u64 12 t0)), some (.box (D.ints .u64 12 t1))])) rfl (by kernel_rfl) trivial ?_
  refine runs_to (ts := [2, 3, 5]) (T' := T_ref01_Order_L1) (env' := [(2, (D.ptr 0 [])), (3, (D.ptr 1 [])), (5, (D.int .i64 (0 : Int)))]) (h2 := [some (.box (D.ints .u64 12 t0)), some (.box (D.ints .u64 12 t1))]) (by kernel_rfl) (by kernel_rfl) (And.intro (.inr rfl) (And.intro (.inr rfl) trivial)) (Nat.zero_le _) (And.intro trivial (And.intro trivial trivial)) (And.intro (bel_of rfl) (And.intro (bel_of rfl) (And.intro trivial trivial))) ?_
  rcases after_some h with ⟨e9, hi, h⟩ | hi
  · refine iter_ref01_Order_L1 fu t0 t1 fu (0 : Int) hi ?_
    show Runs Try.prog Try.f66 0 X_ref01_Order_L1T [] [] d []
    refine runs_regions 1 [([], [4])] (z := ([], [(4, (D.int .i64 (0 : Int)))], [])) rfl (by kernel_rfl) trivial ?_
    rw [← Option.some.inj h] at hk
    obtain rfl : d = (D.int .i64 (0 : Int)) := hk
    exact runs_ret (by kernel_rfl) trivial (Nat.le_refl 0) trivial trivial
  · exact iter_ref01_Order_L1 fu t0 t1 fu (0 : Int) hi hk

theorem fc_ref01_Order (fu : Nat) (t0 : (Nat → Int)) (t1 : (Nat → Int)) {r : Int} (h : F_ref01_Order fu t0 t1 = some r) : FC Try.prog 66 [(D.ints .u64 12 t0), (D.ints .u64 12 t1)] [] (D.int .i64 r) [] := by
  refine fc_of_runs (fn := Try.f66) (c := Try.f66.body.getD .skip) (by kernel_rfl) (by kernel_rfl) ?_
  refine runs_to (ts := [0, 1]) (T' := T_ref01_Order) (env' := [(0, (D.ints .u64 12 t0)), (1, (D.ints .u64 12 t1))]) (h2 := []) (by kernel_rfl) (by kernel_rfl) trivial (Nat.le_refl _) trivial (And.intro trivial (And.intro trivial trivial)) ?_
  exact run_ref01_Order fu t0 t1 h rfl

def K_ref01_Compare (d : D) (r : Int) : Prop := d = (D.int .i64 r)

noncomputable def T_ref01_Compare : List Item := norm 200 [.code (Try.f45.body.getD .skip)]

/-- podesta/podestaref01.Compare -/
def F_ref01_Compare (fu : Nat) (t0 : S_api_Cube) (t1 : S_api_Cube) : Option Int :=
  (F_ref01_Order fu t0.f1 t1.f1).bind fun r0 =>
  ifs (r0 != (0 : Int)) (
    some r0) (
    (F_ref01_Order fu t0.f0 t1.f0).bind fun r1 =>
    some r1)

theorem run_ref01_Compare (fu : Nat) (t0 : S_api_Cube) (t1 : S_api_Cube) {d : D} {r : Int} (h : F_ref01_Compare fu t0 t1 = some r) (hk : (K_ref01_Compare d) r) : Runs Try.prog Try.f45 0 T_ref01_Compare [(0, (S_api_Cube.d t0)), (1, (S_api_Cube.d t1))] [] d [] := by
  unfold F_ref01_Compare at h
  obtain ⟨r0, cr0, h⟩ := Option.bind_eq_some_iff.1 h
  refine runs_regions 3 [([], [2, 3]), ([(.d (D.int .i64 r0))], [2, 3, 5]), ([], [2, 3, 5, 12])] (z := ([FC Try.prog 66 [(D.ints .u64 12 t0.f1), (D.ints .u64 12 t1.f1)] [] (D.int .i64 r0) [], All (List.map NoRow [(D.ints .u64 12 t0.f1), (D.ints .u64 12 t1.f1)])], [(2, (D.ptr 0 [])), (3, (D.ptr 1 [])), (5, (D.int .i64 r0)), (12, (D.bool (r0 != (0 : Int))))], [some (.box (S_api_Cube.d t0)), some (.box (S_api_Cube.d t1))])) rfl (by kernel_rfl) (And.intro (fc_ref01_Order fu t0.f1 t1.f1 cr0) (And.intro (And.intro trivial (And.intro trivial trivial)) trivial)) ?_
  refine runs_if (b := (r0 != (0 : Int))) (by kernel_rfl) (fun hb => ?_) (fun hb => ?_)
  · replace h := ifs_true h hb
    refine runs_regions 1 [([], [4])] (z := ([], [(4, (D.int .i64 r0))], [some (.box (S_api_Cube.d t0)), some (.box (S_api_Cube.d t1))])) rfl (by kernel_rfl) trivial ?_
    rw [← Option.some.inj h] at hk
    obtain rfl : d = (D.int .i64 r0) := hk
    exact runs_ret (by kernel_rfl) trivial (Nat.le_refl 0) trivial trivial
  · replace h := ifs_false h hb
    obtain ⟨r1, cr1, h⟩ := Option.bind_eq_some_iff.1 h
    refine runs_regions 1 [([(.d (D.int .i64 r1))], [4])] (z := ([FC Try.prog 66 [(D.ints .u64 12 t0.f0), (D.ints .u64 12 t1.f0)] [] (D.int .i64 r1) [], All (List.map NoRow [(D.ints .u64 12 t0.f0), (D.ints .u64 12 t1.f0)])], [(4, (D.int .i64 r1))], [some (.box (S_api_Cube.d t0)), some (.box (S_api_Cube.d t1))])) rfl (by kernel_rfl) (And.intro (fc_ref01_Order fu t0.f0 t1.f0 cr1) (And.intro (And.intro trivial (And.intro trivial trivial)) trivial)) ?_
    rw [← Option.some.inj h] at hk
    obtain rfl : d = (D.int .i64 r1) := hk
    exact runs_ret (by kernel_rfl) trivial (Nat.le_refl 0) trivial trivial

theorem fc_ref01_Compare (fu : Nat) (t0 : S_api_Cube) (t1 : S_api_Cube) {r : Int} (h : F_ref01_Compare fu t0 t1 = some r) : FC Try.prog 45 [(S_api_Cube.d t0), (S_api_Cube.d t1)] [] (D.int .i64 r) [] := by
  refine fc_of_runs (fn := Try.f45) (c := Try.f45.body.getD .skip) (by kernel_rfl) (by kernel_rfl) ?_
  refine runs_to (ts := [0, 1]) (T' := T_ref01_Compare) (env' := [(0, (S_api_Cube.d t0)), (1, (S_api_Cube.d t1))]) (h2 := []) (by kernel_rfl) (by kernel_rfl) trivial (Nat.le_refl _) trivial (And.intro (S_api_Cube.inn _) (And.intro (S_api_Cube.inn _) trivial)) ?_
  exact run_ref01_Compare fu t0 t1 h rfl

def K_ref01_Cube (d : D) (r : Bool) : Prop := d = (D.bool r)

noncomputable def T_ref01_Cube : List Item := norm 200 [.code (Try.f36.body.getD .skip)]

/-- podesta/podestaref01.Cube -/
def F_ref01_Cube (fu : Nat) (t0 : S_api_Cube) : Option Bool :=
  (F_ref01_Text fu t0).bind fun r0 =>
  some r0.2

theorem run_ref01_Cube (fu : Nat) (t0 : S_api_Cube) {d : D} {r : Bool} (h : F_ref01_Cube fu t0 = some r) (hk : (K_ref01_Cube d) r) : Runs Try.prog Try.f36 0 T_ref01_Cube [(0, (S_api_Cube.d t0))] [] d [] := by
  unfold F_ref01_Cube at h
  obtain ⟨r0, cr0, h⟩ := Option.bind_eq_some_iff.1 h
  refine runs_regions 3 [([], [1]), ([(.d (D.tup (D.cons (D.str r0.1) (D.cons (D.bool r0.2) D.nil))))], [4]), ([], [2])] (z := ([FC Try.prog 22 [(S_api_Cube.d t0)] [] (D.tup (D.cons (D.str r0.1) (D.cons (D.bool r0.2) D.nil))) [], All (List.map NoRow [(S_api_Cube.d t0)])], [(2, (D.bool r0.2))], [some (.box (S_api_Cube.d t0))])) rfl (by kernel_rfl) (And.intro (fc_ref01_Text fu t0 cr0) (And.intro (And.intro (S_api_Cube.inn _) trivial) trivial)) ?_
  rw [← Option.some.inj h] at hk
  obtain rfl : d = (D.bool r0.2) := hk
  exact runs_ret (by kernel_rfl) trivial (Nat.le_refl 0) trivial trivial

theorem fc_ref01_Cube (fu : Nat) (t0 : S_api_Cube) {r : Bool} (h : F_ref01_Cube fu t0 = some r) : FC Try.prog 36 [(S_api_Cube.d t0)] [] (D.bool r) [] := by
  refine fc_of_runs (fn := Try.f36) (c := Try.f36.body.getD .skip) (by kernel_rfl) (by kernel_rfl) ?_
  refine runs_to (ts := [0]) (T' := T_ref01_Cube) (env' := [(0, (S_api_Cube.d t0))]) (h2 := []) (by kernel_rfl) (by kernel_rfl) trivial (Nat.le_refl _) trivial (And.intro (S_api_Cube.inn _) trivial) ?_
  exact run_ref01_Cube fu t0 h rfl

structure S_api_Act where
  f0 : Int
  f1 : Int
  f2 : Int
  f3 : Int

def S_api_Act.d (x : S_api_Act) : D := (D.cons (D.int .i64 x.f0) (D.cons (D.int .i64 x.f1) (D.cons (D.int .i64 x.f2) (D.cons (D.int .u64 x.f3) D.nil))))
theorem S_api_Act.inn {S : Nat → Prop} (x : S_api_Act) : (S_api_Act.d x).In S := by
  unfold S_api_Act.d
  exact (And.intro trivial (And.intro trivial (And.intro trivial (And.intro trivial trivial))))
theorem S_api_Act.rnk {r0 r1 : Nat} (x : S_api_Act) : rnOk r0 r1 (S_api_Act.d x) := by
  unfold S_api_Act.d
  exact (And.intro trivial (And.intro trivial (And.intro trivial (And.intro trivial trivial))))
theorem S_api_Act.tgt (x : S_api_Act) : (S_api_Act.d x).Tight := by
  unfold S_api_Act.d
  exact (And.intro trivial (And.intro trivial (And.intro trivial (And.intro trivial trivial))))
abbrev S_api_Act.z : S_api_Act := (S_api_Act.mk (0 : Int) (0 : Int) (0 : Int) (0 : Int))

def S_api_Act.wf (x : S_api_Act) : Prop := (Lit.int .i64 x.f0).wf = true ∧ (Lit.int .i64 x.f1).wf = true ∧ (Lit.int .i64 x.f2).wf = true ∧ (Lit.int .u64 x.f3).wf = true ∧ True

def K_slices_Clip_api_Act (d : D) (r : (Nat × (Nat → S_api_Act))) : Prop := d = (D.lit r.1 4 fun i => (S_api_Act.d (r.2 i)))

noncomputable def T_slices_Clip_api_Act : List Item := norm 200 [.code (Try.f46.body.getD .skip)]

/-- slices.Clip[[]podesta/api.Act,podesta/api.Act] -/
def F_slices_Clip_api_Act (t0 : (Nat × (Nat → S_api_Act))) : Option (Nat × (Nat → S_api_Act)) :=
  chk (0 ≤ ((t0.1 : Nat) : Int) ∧ ((t0.1 : Nat) : Int) ≤ ((t0.1 : Nat) : Int)) <|
  some ((((t0.1 : Nat) : Int)).toNat, t0.2)

theorem run_slices_Clip_api_Act (t0 : (Nat × (Nat → S_api_Act))) {d : D} {r : (Nat × (Nat → S_api_Act))} (h : F_slices_Clip_api_Act t0 = some r) (hk : (K_slices_Clip_api_Act d) r) : Runs Try.prog Try.f46 0 T_slices_Clip_api_Act [(0, (D.lit t0.1 4 fun i => (S_api_Act.d (t0.2 i))))] [] d [] := by
  unfold F_slices_Clip_api_Act at h
  obtain ⟨p0, h⟩ := chk_some h
  refine runs_regions 2 [([], [0]), ([], [2])] (z := ([(0 ≤ ((t0.1 : Nat) : Int) ∧ ((t0.1 : Nat) : Int) ≤ ((t0.1 : Nat) : Int)), (((t0.1 : Nat) : Int) = ((t0.1 : Nat) : Int))], [(2, (D.lit (((t0.1 : Nat) : Int)).toNat 4 fun i => (S_api_Act.d (t0.2 i))))], [])) rfl (by kernel_rfl) (And.intro p0 (And.intro rfl trivial)) ?_
  rw [← Option.some.inj h] at hk
  obtain rfl : d = (D.lit (((t0.1 : Nat) : Int)).toNat 4 fun i => (S_api_Act.d (t0.2 i))) := hk
  exact runs_ret (by kernel_rfl) trivial (Nat.le_refl 0) trivial (fun _ _ => (S_api_Act.inn _))

theorem fc_slices_Clip_api_Act (t0 : (Nat × (Nat → S_api_Act))) {r : (Nat × (Nat → S_api_Act))} (h : F_slices_Clip_api_Act t0 = some r) : FC Try.prog 46 [(D.lit t0.1 4 fun i => (S_api_Act.d (t0.2 i)))] [] (D.lit r.1 4 fun i => (S_api_Act.d (r.2 i))) [] := by
  refine fc_of_runs (fn := Try.f46) (c := Try.f46.body.getD .skip) (by kernel_rfl) (by kernel_rfl) ?_
  refine runs_to (ts := [0]) (T' := T_slices_Clip_api_Act) (env' := [(0, (D.lit t0.1 4 fun i => (S_api_Act.d (t0.2 i))))]) (h2 := []) (by kernel_rfl) (by kernel_rfl) trivial (Nat.le_refl _) trivial (And.intro (fun _ _ => (S_api_Act.inn _)) trivial) ?_
  exact run_slices_Clip_api_Act t0 h rfl

end Go.Proofs.Ytffkolbogcpjjaa
