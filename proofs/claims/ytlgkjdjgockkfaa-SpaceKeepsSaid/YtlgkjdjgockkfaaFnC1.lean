/- What the functions compute, each proved to do so (printed by pgen.py). -/
import Derived.Test.YtlgkjdjgockkfaaProg
import Derived.Test.YtlgkjdjgockkfaaPodK
import Derived.Test.YtlgkjdjgockkfaaFnA
import Derived.Test.YtlgkjdjgockkfaaSpSort
namespace Go.Proofs.Ytlgkjdjgockkfaa
open Go Go.Pod Go.Proofs

def K_law03_few (d : D) (r : Bool) : Prop := d = (D.bool r)

noncomputable def T_law03_few : List Item := norm 200 [.code (Try.f25.body.getD .skip)]

/-- podesta/podestalaw03.few -/
def F_law03_few (t0 : (Nat × (Nat → S_api_Cube))) : Option Bool :=
  some (decide (((t0.1 : Nat) : Int) ≤ (8 : Int)))

theorem run_law03_few (t0 : (Nat × (Nat → S_api_Cube))) {d : D} {r : Bool} (h : F_law03_few t0 = some r) (hk : (K_law03_few d) r) : Runs Try.prog Try.f25 0 T_law03_few [(0, (D.lit t0.1 24 fun i => (S_api_Cube.d (t0.2 i))))] [] d [] := by
  unfold F_law03_few at h
  refine runs_regions 2 [([], [0]), ([], [2])] (z := ([], [(2, (D.bool (decide (((t0.1 : Nat) : Int) ≤ (8 : Int)))))], [])) rfl (by kernel_rfl) trivial ?_
  rw [← Option.some.inj h] at hk
  obtain rfl : d = (D.bool (decide (((t0.1 : Nat) : Int) ≤ (8 : Int)))) := hk
  exact runs_ret (by kernel_rfl) trivial (Nat.le_refl 0) trivial trivial

theorem fc_law03_few (t0 : (Nat × (Nat → S_api_Cube))) {r : Bool} (h : F_law03_few t0 = some r) : FC Try.prog 25 [(D.lit t0.1 24 fun i => (S_api_Cube.d (t0.2 i)))] [] (D.bool r) [] := by
  refine fc_of_runs (fn := Try.f25) (c := Try.f25.body.getD .skip) (by kernel_rfl) (by kernel_rfl) ?_
  refine runs_to (ts := [0]) (T' := T_law03_few) (env' := [(0, (D.lit t0.1 24 fun i => (S_api_Cube.d (t0.2 i))))]) (h2 := []) (by kernel_rfl) (by kernel_rfl) trivial (Nat.le_refl _) trivial (And.intro (fun _ _ => (S_api_Cube.inn _)) trivial) ?_
  exact run_law03_few t0 h rfl

def K_ref01_Space (d : D) (r : Bool) : Prop := d = (D.bool r)

noncomputable def T_ref01_Space : List Item := norm 200 [.code (Try.f21.body.getD .skip)]

noncomputable def T_ref01_Space_L1 : List Item := norm 200 (nxt (nxt T_ref01_Space))

noncomputable def X_ref01_Space_L1T : List Item := norm 200 (cndF (nxt (nxt (nxt T_ref01_Space))))

abbrev E_ref01_Space_L1 := Unit

def N_ref01_Space_L1 (_fu : Nat) (t0 : (Nat × (Nat → S_api_Cube))) (d : D) (s : Int) : Prop := Runs Try.prog Try.f21 0 T_ref01_Space_L1 [(0, (D.lit t0.1 24 fun i => (S_api_Cube.d (t0.2 i)))), (3, (D.int .i64 s))] [] d []

def X_ref01_Space_L1 (_fu : Nat) (t0 : (Nat × (Nat → S_api_Cube))) (d : D) : E_ref01_Space_L1 ⊕ Bool → Prop
  | .inl _ => Runs Try.prog Try.f21 0 X_ref01_Space_L1T [(0, (D.lit t0.1 24 fun i => (S_api_Cube.d (t0.2 i))))] [] d []
  | .inr o => (K_ref01_Space d) o

def F_ref01_Space_L1 (fu : Nat) (t0 : (Nat × (Nat → S_api_Cube))) (t3 : Int) : Option (Lo Int E_ref01_Space_L1 Bool) :=
  ifs (decide (t3 < ((t0.1 : Nat) : Int))) (
    chk (0 ≤ t3 ∧ t3 < ((t0.1 : Nat) : Int)) <|
    (F_ref01_Cube fu (t0.2 t3.toNat)).bind fun r0 =>
    ifs (!r0) (
      some (.ret false)) (
      some (.next (IntKind.wrap .i64 (t3 + (1 : Int)))))) (
    some (.exit ()))

theorem run_ref01_Space_L1 (fu : Nat) (t0 : (Nat × (Nat → S_api_Cube))) (t3 : Int) {d : D} {o : (Lo Int E_ref01_Space_L1 Bool)} (h : F_ref01_Space_L1 fu t0 t3 = some o) (hk : (Lo.post (N_ref01_Space_L1 fu t0 d) (X_ref01_Space_L1 fu t0 d)) o) : Runs Try.prog Try.f21 0 T_ref01_Space_L1 [(0, (D.lit t0.1 24 fun i => (S_api_Cube.d (t0.2 i)))), (3, (D.int .i64 t3))] [] d [] := by
  unfold F_ref01_Space_L1 at h
  refine runs_regions 1 [([], [0, 3, 7])] (z := ([], [(0, (D.lit t0.1 24 fun i => (S_api_Cube.d (t0.2 i)))), (3, (D.int .i64 t3)), (7, (D.bool (decide (t3 < ((t0.1 : Nat) : Int)))))], [])) rfl (by kernel_rfl) trivial ?_
  refine runs_if (b := (decide (t3 < ((t0.1 : Nat) : Int)))) (by kernel_rfl) (fun hb => ?_) (fun hb => ?_)
  · replace h := ifs_true h hb
    obtain ⟨p0, h⟩ := chk_some h
    obtain ⟨r0, cr0, h⟩ := Option.bind_eq_some_iff.1 h
    refine runs_regions 1 [([(.d (D.bool r0))], [0, 3, 15])] (z := ([(0 ≤ t3 ∧ t3 < ((t0.1 : Nat) : Int)), FC Try.prog 46 [(S_api_Cube.d (t0.2 t3.toNat))] [] (D.bool r0) [], All (List.map NoRow [(S_api_Cube.d (t0.2 t3.toNat))])], [(0, (D.lit t0.1 24 fun i => (S_api_Cube.d (t0.2 i)))), (3, (D.int .i64 t3)), (15, (D.bool (!r0)))], [])) rfl (by kernel_rfl) (And.intro p0 (And.intro (fc_ref01_Cube fu (t0.2 t3.toNat) cr0) (And.intro (And.intro (S_api_Cube.inn _) trivial) trivial))) ?_
    refine runs_if (b := (!r0)) (by kernel_rfl) (fun hb => ?_) (fun hb => ?_)
    · replace h := ifs_true h hb
      refine runs_regions 1 [([], [2])] (z := ([], [(2, (D.bool false))], [])) rfl (by kernel_rfl) trivial ?_
      rw [← Option.some.inj h] at hk
      obtain rfl : d = (D.bool false) := hk
      exact runs_ret (by kernel_rfl) trivial (Nat.le_refl 0) trivial trivial
    · replace h := ifs_false h hb
      refine runs_regions 1 [([], [0, 3])] (z := ([], [(0, (D.lit t0.1 24 fun i => (S_api_Cube.d (t0.2 i)))), (3, (D.int .i64 (IntKind.wrap .i64 (t3 + (1 : Int)))))], [])) rfl (by kernel_rfl) trivial ?_
      rw [← Option.some.inj h] at hk
      refine runs_to (ts := [0, 3]) (T' := T_ref01_Space_L1) (env' := [(0, (D.lit t0.1 24 fun i => (S_api_Cube.d (t0.2 i)))), (3, (D.int .i64 (IntKind.wrap .i64 (t3 + (1 : Int)))))]) (h2 := []) (by kernel_rfl) (by kernel_rfl) trivial (Nat.zero_le _) trivial (And.intro (fun _ _ => (S_api_Cube.inn _)) (And.intro trivial trivial)) ?_
      exact hk
  · replace h := ifs_false h hb
    rw [← Option.some.inj h] at hk
    refine runs_to (ts := [0]) (T' := X_ref01_Space_L1T) (env' := [(0, (D.lit t0.1 24 fun i => (S_api_Cube.d (t0.2 i))))]) (h2 := []) (by kernel_rfl) (by kernel_rfl) trivial (Nat.zero_le _) trivial (And.intro (fun _ _ => (S_api_Cube.inn _)) trivial) ?_
    exact hk

theorem iter_ref01_Space_L1 (fu : Nat) (t0 : (Nat × (Nat → S_api_Cube))) {d : D} (k : Nat) (s : Int) {o : E_ref01_Space_L1 ⊕ Bool} (h : iter (fun s => F_ref01_Space_L1 fu t0 s) k s = some o) (hx : X_ref01_Space_L1 fu t0 d o) : N_ref01_Space_L1 fu t0 d s :=
  iter_post (K := N_ref01_Space_L1 fu t0 d) (X := X_ref01_Space_L1 fu t0 d) (fun s _ h hk => run_ref01_Space_L1 fu t0 s h hk) k s o h hx

/-- podesta/podestaref01.Space -/
def F_ref01_Space (fu : Nat) (t0 : (Nat × (Nat → S_api_Cube))) : Option Bool :=
  after (iter (fun s => F_ref01_Space_L1 fu t0 s) fu (0 : Int)) fun _ =>
  some (decide (((t0.1 : Nat) : Int) ≤ (64 : Int)))

theorem run_ref01_Space (fu : Nat) (t0 : (Nat × (Nat → S_api_Cube))) {d : D} {r : Bool} (h : F_ref01_Space fu t0 = some r) (hk : (K_ref01_Space d) r) : Runs Try.prog Try.f21 0 T_ref01_Space [(0, (D.lit t0.1 24 fun i => (S_api_Cube.d (t0.2 i))))] [] d [] := by
  unfold F_ref01_Space at h
  refine runs_regions 2 [([], [0]), ([], [0, 3])] (z := ([], [(0, (D.lit t0.1 24 fun i => (S_api_Cube.d (t0.2 i)))), (3, (D.int .i64 (0 : Int)))], [])) rfl (by kernel_rfl) trivial ?_
  refine runs_to (ts := [0, 3]) (T' := T_ref01_Space_L1) (env' := [(0, (D.lit t0.1 24 fun i => (S_api_Cube.d (t0.2 i)))), (3, (D.int .i64 (0 : Int)))]) (h2 := []) (by kernel_rfl) (by kernel_rfl) trivial (Nat.zero_le _) trivial (And.intro (fun _ _ => (S_api_Cube.inn _)) (And.intro trivial trivial)) ?_
  rcases after_some h with ⟨e2, hi, h⟩ | hi
  · refine iter_ref01_Space_L1 fu t0 fu (0 : Int) hi ?_
    show Runs Try.prog Try.f21 0 X_ref01_Space_L1T [(0, (D.lit t0.1 24 fun i => (S_api_Cube.d (t0.2 i))))] [] d []
    refine runs_regions 1 [([], [2])] (z := ([], [(2, (D.bool (decide (((t0.1 : Nat) : Int) ≤ (64 : Int)))))], [])) rfl (by kernel_rfl) trivial ?_
    rw [← Option.some.inj h] at hk
    obtain rfl : d = (D.bool (decide (((t0.1 : Nat) : Int) ≤ (64 : Int)))) := hk
    exact runs_ret (by kernel_rfl) trivial (Nat.le_refl 0) trivial trivial
  · exact iter_ref01_Space_L1 fu t0 fu (0 : Int) hi hk

theorem fc_ref01_Space (fu : Nat) (t0 : (Nat × (Nat → S_api_Cube))) {r : Bool} (h : F_ref01_Space fu t0 = some r) : FC Try.prog 21 [(D.lit t0.1 24 fun i => (S_api_Cube.d (t0.2 i)))] [] (D.bool r) [] := by
  refine fc_of_runs (fn := Try.f21) (c := Try.f21.body.getD .skip) (by kernel_rfl) (by kernel_rfl) ?_
  refine runs_to (ts := [0]) (T' := T_ref01_Space) (env' := [(0, (D.lit t0.1 24 fun i => (S_api_Cube.d (t0.2 i))))]) (h2 := []) (by kernel_rfl) (by kernel_rfl) trivial (Nat.le_refl _) trivial (And.intro (fun _ _ => (S_api_Cube.inn _)) trivial) ?_
  exact run_ref01_Space fu t0 h rfl

def K_space_Sound_1 (d : D) (r : Bool) : Prop := d = (D.bool r)

noncomputable def T_space_Sound_1 : List Item := norm 200 [.code (Try.f45.body.getD .skip)]

/-- podesta/space.Sound 1 -/
def F_space_Sound_1 (fu : Nat) (t0 : S_api_Cube) : Option Bool :=
  (F_cube_Sound fu t0).bind fun r0 =>
  some (!r0)

theorem run_space_Sound_1 (fu : Nat) (t0 : S_api_Cube) {d : D} {r : Bool} (h : F_space_Sound_1 fu t0 = some r) (hk : (K_space_Sound_1 d) r) : Runs Try.prog Try.f45 0 T_space_Sound_1 [(0, (S_api_Cube.d t0))] [] d [] := by
  unfold F_space_Sound_1 at h
  obtain ⟨r0, cr0, h⟩ := Option.bind_eq_some_iff.1 h
  refine runs_regions 2 [([], [1]), ([(.d (D.bool r0))], [2])] (z := ([FC Try.prog 35 [(S_api_Cube.d t0)] [] (D.bool r0) [], All (List.map NoRow [(S_api_Cube.d t0)])], [(2, (D.bool (!r0)))], [some (.box (S_api_Cube.d t0))])) rfl (by kernel_rfl) (And.intro (fc_cube_Sound fu t0 cr0) (And.intro (And.intro (S_api_Cube.inn _) trivial) trivial)) ?_
  rw [← Option.some.inj h] at hk
  obtain rfl : d = (D.bool (!r0)) := hk
  exact runs_ret (by kernel_rfl) trivial (Nat.le_refl 0) trivial trivial

theorem fc_space_Sound_1 (fu : Nat) (t0 : S_api_Cube) {r : Bool} (h : F_space_Sound_1 fu t0 = some r) : FC Try.prog 45 [(S_api_Cube.d t0)] [] (D.bool r) [] := by
  refine fc_of_runs (fn := Try.f45) (c := Try.f45.body.getD .skip) (by kernel_rfl) (by kernel_rfl) ?_
  refine runs_to (ts := [0]) (T' := T_space_Sound_1) (env' := [(0, (S_api_Cube.d t0))]) (h2 := []) (by kernel_rfl) (by kernel_rfl) trivial (Nat.le_refl _) trivial (And.intro (S_api_Cube.inn _) trivial) ?_
  exact run_space_Sound_1 fu t0 h rfl

def K_slices_IndexFunc_api_Cube_space_Sound_1 (d : D) (r : Int) : Prop := d = (D.int .i64 r)

noncomputable def T_slices_IndexFunc_api_Cube_space_Sound_1 : List Item := norm 200 [.code (Try.f55.body.getD .skip)]

noncomputable def T_slices_IndexFunc_api_Cube_space_Sound_1_L1 : List Item := norm 200 (nxt (nxt T_slices_IndexFunc_api_Cube_space_Sound_1))

noncomputable def X_slices_IndexFunc_api_Cube_space_Sound_1_L1T : List Item := norm 200 (cndF (nxt (nxt (nxt T_slices_IndexFunc_api_Cube_space_Sound_1))))

abbrev E_slices_IndexFunc_api_Cube_space_Sound_1_L1 := Unit

def N_slices_IndexFunc_api_Cube_space_Sound_1_L1 (_fu : Nat) (t0 : (Nat × (Nat → S_api_Cube))) (t7 : Int) (d : D) (s : Int) : Prop := Runs Try.prog Try.f55 0 T_slices_IndexFunc_api_Cube_space_Sound_1_L1 [(0, (D.lit t0.1 24 fun i => (S_api_Cube.d (t0.2 i)))), (1, (D.fn 45 D.nil)), (7, (D.int .i64 t7)), (8, (D.int .i64 s))] [] d []

def X_slices_IndexFunc_api_Cube_space_Sound_1_L1 (_fu : Nat) (_t0 : (Nat × (Nat → S_api_Cube))) (_t7 : Int) (d : D) : E_slices_IndexFunc_api_Cube_space_Sound_1_L1 ⊕ Int → Prop
  | .inl _ => Runs Try.prog Try.f55 0 X_slices_IndexFunc_api_Cube_space_Sound_1_L1T [] [] d []
  | .inr o => (K_slices_IndexFunc_api_Cube_space_Sound_1 d) o

def F_slices_IndexFunc_api_Cube_space_Sound_1_L1 (fu : Nat) (t0 : (Nat × (Nat → S_api_Cube))) (t7 : Int) (t8 : Int) : Option (Lo Int E_slices_IndexFunc_api_Cube_space_Sound_1_L1 Int) :=
  ifs (decide (t8 < t7)) (
    chk (0 ≤ t8 ∧ t8 < ((t0.1 : Nat) : Int)) <|
    (F_space_Sound_1 fu (t0.2 t8.toNat)).bind fun r0 =>
    ifs r0 (
      some (.ret t8)) (
      some (.next (IntKind.wrap .i64 (t8 + (1 : Int)))))) (
    some (.exit ()))

theorem run_slices_IndexFunc_api_Cube_space_Sound_1_L1 (fu : Nat) (t0 : (Nat × (Nat → S_api_Cube))) (t7 : Int) (t8 : Int) {d : D} {o : (Lo Int E_slices_IndexFunc_api_Cube_space_Sound_1_L1 Int)} (h : F_slices_IndexFunc_api_Cube_space_Sound_1_L1 fu t0 t7 t8 = some o) (hk : (Lo.post (N_slices_IndexFunc_api_Cube_space_Sound_1_L1 fu t0 t7 d) (X_slices_IndexFunc_api_Cube_space_Sound_1_L1 fu t0 t7 d)) o) : Runs Try.prog Try.f55 0 T_slices_IndexFunc_api_Cube_space_Sound_1_L1 [(0, (D.lit t0.1 24 fun i => (S_api_Cube.d (t0.2 i)))), (1, (D.fn 45 D.nil)), (7, (D.int .i64 t7)), (8, (D.int .i64 t8))] [] d [] := by
  unfold F_slices_IndexFunc_api_Cube_space_Sound_1_L1 at h
  refine runs_regions 1 [([], [0, 1, 7, 8, 9])] (z := ([], [(0, (D.lit t0.1 24 fun i => (S_api_Cube.d (t0.2 i)))), (1, (D.fn 45 D.nil)), (7, (D.int .i64 t7)), (8, (D.int .i64 t8)), (9, (D.bool (decide (t8 < t7))))], [])) rfl (by kernel_rfl) trivial ?_
  refine runs_if (b := (decide (t8 < t7))) (by kernel_rfl) (fun hb => ?_) (fun hb => ?_)
  · replace h := ifs_true h hb
    obtain ⟨p0, h⟩ := chk_some h
    obtain ⟨r0, cr0, h⟩ := Option.bind_eq_some_iff.1 h
    refine runs_regions 2 [([], [0, 1, 5, 7, 8]), ([(.d (D.bool r0))], [0, 1, 5, 7, 8, 16])] (z := ([(0 ≤ t8 ∧ t8 < ((t0.1 : Nat) : Int)), FC Try.prog 45 [(S_api_Cube.d (t0.2 t8.toNat))] [] (D.bool r0) [], All (List.map NoRow [(S_api_Cube.d (t0.2 t8.toNat))])], [(0, (D.lit t0.1 24 fun i => (S_api_Cube.d (t0.2 i)))), (1, (D.fn 45 D.nil)), (5, (D.int .i64 t8)), (7, (D.int .i64 t7)), (8, (D.int .i64 t8)), (16, (D.bool r0))], [])) rfl (by kernel_rfl) (And.intro p0 (And.intro (fc_space_Sound_1 fu (t0.2 t8.toNat) cr0) (And.intro (And.intro (S_api_Cube.inn _) trivial) trivial))) ?_
    refine runs_if (b := r0) (by kernel_rfl) (fun hb => ?_) (fun hb => ?_)
    · replace h := ifs_true h hb
      refine runs_regions 1 [([], [4])] (z := ([], [(4, (D.int .i64 t8))], [])) rfl (by kernel_rfl) trivial ?_
      rw [← Option.some.inj h] at hk
      obtain rfl : d = (D.int .i64 t8) := hk
      exact runs_ret (by kernel_rfl) trivial (Nat.le_refl 0) trivial trivial
    · replace h := ifs_false h hb
      refine runs_regions 1 [([], [0, 1, 7, 8])] (z := ([], [(0, (D.lit t0.1 24 fun i => (S_api_Cube.d (t0.2 i)))), (1, (D.fn 45 D.nil)), (7, (D.int .i64 t7)), (8, (D.int .i64 (IntKind.wrap .i64 (t8 + (1 : Int)))))], [])) rfl (by kernel_rfl) trivial ?_
      rw [← Option.some.inj h] at hk
      refine runs_to (ts := [0, 1, 7, 8]) (T' := T_slices_IndexFunc_api_Cube_space_Sound_1_L1) (env' := [(0, (D.lit t0.1 24 fun i => (S_api_Cube.d (t0.2 i)))), (1, (D.fn 45 D.nil)), (7, (D.int .i64 t7)), (8, (D.int .i64 (IntKind.wrap .i64 (t8 + (1 : Int)))))]) (h2 := []) (by kernel_rfl) (by kernel_rfl) trivial (Nat.zero_le _) trivial (And.intro (fun _ _ => (S_api_Cube.inn _)) (And.intro trivial (And.intro trivial (And.intro trivial trivial)))) ?_
      exact hk
  · replace h := ifs_false h hb
    rw [← Option.some.inj h] at hk
    refine runs_to (ts := []) (T' := X_slices_IndexFunc_api_Cube_space_Sound_1_L1T) (env' := []) (h2 := []) (by kernel_rfl) (by kernel_rfl) trivial (Nat.zero_le _) trivial trivial ?_
    exact hk

theorem iter_slices_IndexFunc_api_Cube_space_Sound_1_L1 (fu : Nat) (t0 : (Nat × (Nat → S_api_Cube))) (t7 : Int) {d : D} (k : Nat) (s : Int) {o : E_slices_IndexFunc_api_Cube_space_Sound_1_L1 ⊕ Int} (h : iter (fun s => F_slices_IndexFunc_api_Cube_space_Sound_1_L1 fu t0 t7 s) k s = some o) (hx : X_slices_IndexFunc_api_Cube_space_Sound_1_L1 fu t0 t7 d o) : N_slices_IndexFunc_api_Cube_space_Sound_1_L1 fu t0 t7 d s :=
  iter_post (K := N_slices_IndexFunc_api_Cube_space_Sound_1_L1 fu t0 t7 d) (X := X_slices_IndexFunc_api_Cube_space_Sound_1_L1 fu t0 t7 d) (fun s _ h hk => run_slices_IndexFunc_api_Cube_space_Sound_1_L1 fu t0 t7 s h hk) k s o h hx

/-- slices.IndexFunc[[]podesta/api.Cube,podesta/api.Cube] -/
def F_slices_IndexFunc_api_Cube_space_Sound_1 (fu : Nat) (t0 : (Nat × (Nat → S_api_Cube))) : Option Int :=
  after (iter (fun s => F_slices_IndexFunc_api_Cube_space_Sound_1_L1 fu t0 ((t0.1 : Nat) : Int) s) fu (0 : Int)) fun _ =>
  some (-1 : Int)

theorem run_slices_IndexFunc_api_Cube_space_Sound_1 (fu : Nat) (t0 : (Nat × (Nat → S_api_Cube))) {d : D} {r : Int} (h : F_slices_IndexFunc_api_Cube_space_Sound_1 fu t0 = some r) (hk : (K_slices_IndexFunc_api_Cube_space_Sound_1 d) r) : Runs Try.prog Try.f55 0 T_slices_IndexFunc_api_Cube_space_Sound_1 [(0, (D.lit t0.1 24 fun i => (S_api_Cube.d (t0.2 i)))), (1, (D.fn 45 D.nil))] [] d [] := by
  unfold F_slices_IndexFunc_api_Cube_space_Sound_1 at h
  refine runs_regions 2 [([], [0, 1]), ([], [0, 1, 7, 8])] (z := ([], [(0, (D.lit t0.1 24 fun i => (S_api_Cube.d (t0.2 i)))), (1, (D.fn 45 D.nil)), (7, (D.int .i64 ((t0.1 : Nat) : Int))), (8, (D.int .i64 (0 : Int)))], [])) rfl (by kernel_rfl) trivial ?_
  refine runs_to (ts := [0, 1, 7, 8]) (T' := T_slices_IndexFunc_api_Cube_space_Sound_1_L1) (env' := [(0, (D.lit t0.1 24 fun i => (S_api_Cube.d (t0.2 i)))), (1, (D.fn 45 D.nil)), (7, (D.int .i64 ((t0.1 : Nat) : Int))), (8, (D.int .i64 (0 : Int)))]) (h2 := []) (by kernel_rfl) (by kernel_rfl) trivial (Nat.zero_le _) trivial (And.intro (fun _ _ => (S_api_Cube.inn _)) (And.intro trivial (And.intro trivial (And.intro trivial trivial)))) ?_
  rcases after_some h with ⟨e2, hi, h⟩ | hi
  · refine iter_slices_IndexFunc_api_Cube_space_Sound_1_L1 fu t0 ((t0.1 : Nat) : Int) fu (0 : Int) hi ?_
    show Runs Try.prog Try.f55 0 X_slices_IndexFunc_api_Cube_space_Sound_1_L1T [] [] d []
    refine runs_regions 1 [([], [4])] (z := ([], [(4, (D.int .i64 (-1 : Int)))], [])) rfl (by kernel_rfl) trivial ?_
    rw [← Option.some.inj h] at hk
    obtain rfl : d = (D.int .i64 (-1 : Int)) := hk
    exact runs_ret (by kernel_rfl) trivial (Nat.le_refl 0) trivial trivial
  · exact iter_slices_IndexFunc_api_Cube_space_Sound_1_L1 fu t0 ((t0.1 : Nat) : Int) fu (0 : Int) hi hk

theorem fc_slices_IndexFunc_api_Cube_space_Sound_1 (fu : Nat) (t0 : (Nat × (Nat → S_api_Cube))) {r : Int} (h : F_slices_IndexFunc_api_Cube_space_Sound_1 fu t0 = some r) : FC Try.prog 55 [(D.lit t0.1 24 fun i => (S_api_Cube.d (t0.2 i))), (D.fn 45 D.nil)] [] (D.int .i64 r) [] := by
  refine fc_of_runs (fn := Try.f55) (c := Try.f55.body.getD .skip) (by kernel_rfl) (by kernel_rfl) ?_
  refine runs_to (ts := [0, 1]) (T' := T_slices_IndexFunc_api_Cube_space_Sound_1) (env' := [(0, (D.lit t0.1 24 fun i => (S_api_Cube.d (t0.2 i)))), (1, (D.fn 45 D.nil))]) (h2 := []) (by kernel_rfl) (by kernel_rfl) trivial (Nat.le_refl _) trivial (And.intro (fun _ _ => (S_api_Cube.inn _)) (And.intro trivial trivial)) ?_
  exact run_slices_IndexFunc_api_Cube_space_Sound_1 fu t0 h rfl

def K_slices_ContainsFunc_api_Cube_space_Sound_1 (d : D) (r : Bool) : Prop := d = (D.bool r)

noncomputable def T_slices_ContainsFunc_api_Cube_space_Sound_1 : List Item := norm 200 [.code (Try.f41.body.getD .skip)]

/-- slices.ContainsFunc[[]podesta/api.Cube,podesta/api.Cube] -/
def F_slices_ContainsFunc_api_Cube_space_Sound_1 (fu : Nat) (t0 : (Nat × (Nat → S_api_Cube))) : Option Bool :=
  (F_slices_IndexFunc_api_Cube_space_Sound_1 fu t0).bind fun r0 =>
  some (decide (r0 ≥ (0 : Int)))

theorem run_slices_ContainsFunc_api_Cube_space_Sound_1 (fu : Nat) (t0 : (Nat × (Nat → S_api_Cube))) {d : D} {r : Bool} (h : F_slices_ContainsFunc_api_Cube_space_Sound_1 fu t0 = some r) (hk : (K_slices_ContainsFunc_api_Cube_space_Sound_1 d) r) : Runs Try.prog Try.f41 0 T_slices_ContainsFunc_api_Cube_space_Sound_1 [(0, (D.lit t0.1 24 fun i => (S_api_Cube.d (t0.2 i)))), (1, (D.fn 45 D.nil))] [] d [] := by
  unfold F_slices_ContainsFunc_api_Cube_space_Sound_1 at h
  obtain ⟨r0, cr0, h⟩ := Option.bind_eq_some_iff.1 h
  refine runs_regions 2 [([], [0, 1]), ([(.d (D.int .i64 r0))], [4])] (z := ([FC Try.prog 55 [(D.lit t0.1 24 fun i => (S_api_Cube.d (t0.2 i))), (D.fn 45 D.nil)] [] (D.int .i64 r0) [], All (List.map NoRow [(D.lit t0.1 24 fun i => (S_api_Cube.d (t0.2 i))), (D.fn 45 D.nil)])], [(4, (D.bool (decide (r0 ≥ (0 : Int)))))], [])) rfl (by kernel_rfl) (And.intro (fc_slices_IndexFunc_api_Cube_space_Sound_1 fu t0 cr0) (And.intro (And.intro (fun _ _ => (S_api_Cube.inn _)) (And.intro trivial trivial)) trivial)) ?_
  rw [← Option.some.inj h] at hk
  obtain rfl : d = (D.bool (decide (r0 ≥ (0 : Int)))) := hk
  exact runs_ret (by kernel_rfl) trivial (Nat.le_refl 0) trivial trivial

theorem fc_slices_ContainsFunc_api_Cube_space_Sound_1 (fu : Nat) (t0 : (Nat × (Nat → S_api_Cube))) {r : Bool} (h : F_slices_ContainsFunc_api_Cube_space_Sound_1 fu t0 = some r) : FC Try.prog 41 [(D.lit t0.1 24 fun i => (S_api_Cube.d (t0.2 i))), (D.fn 45 D.nil)] [] (D.bool r) [] := by
  refine fc_of_runs (fn := Try.f41) (c := Try.f41.body.getD .skip) (by kernel_rfl) (by kernel_rfl) ?_
  refine runs_to (ts := [0, 1]) (T' := T_slices_ContainsFunc_api_Cube_space_Sound_1) (env' := [(0, (D.lit t0.1 24 fun i => (S_api_Cube.d (t0.2 i)))), (1, (D.fn 45 D.nil))]) (h2 := []) (by kernel_rfl) (by kernel_rfl) trivial (Nat.le_refl _) trivial (And.intro (fun _ _ => (S_api_Cube.inn _)) (And.intro trivial trivial)) ?_
  exact run_slices_ContainsFunc_api_Cube_space_Sound_1 fu t0 h rfl

def K_space_Sound (d : D) (r : Bool) : Prop := d = (D.bool r)

noncomputable def T_space_Sound : List Item := norm 200 [.code (Try.f20.body.getD .skip)]

/-- podesta/space.Sound -/
def F_space_Sound (fu : Nat) (t0 : (Nat × (Nat → S_api_Cube))) : Option Bool :=
  (callIf (decide (((t0.1 : Nat) : Int) ≤ (64 : Int))) (F_slices_ContainsFunc_api_Cube_space_Sound_1 fu t0) false).bind fun r0 =>
  some (bif (decide (((t0.1 : Nat) : Int) ≤ (64 : Int))) then (!r0) else false)

theorem run_space_Sound (fu : Nat) (t0 : (Nat × (Nat → S_api_Cube))) {d : D} {r : Bool} (h : F_space_Sound fu t0 = some r) (hk : (K_space_Sound d) r) : Runs Try.prog Try.f20 0 T_space_Sound [(0, (D.lit t0.1 24 fun i => (S_api_Cube.d (t0.2 i))))] [] d [] := by
  unfold F_space_Sound at h
  obtain ⟨r0, cr0, h⟩ := Option.bind_eq_some_iff.1 h
  refine runs_regions 2 [([], [0]), ([(.d (D.bool r0))], [2])] (z := ([((decide (((t0.1 : Nat) : Int) ≤ (64 : Int))) = true → All [((decide (((t0.1 : Nat) : Int) ≤ (64 : Int))) = true → (decide (((t0.1 : Nat) : Int) ≤ (64 : Int))) = true), FC Try.prog 41 [(D.lit t0.1 24 fun i => (S_api_Cube.d (t0.2 i))), (D.fn 45 D.nil)] [] (D.bool r0) [], All (List.map NoRow [(D.lit t0.1 24 fun i => (S_api_Cube.d (t0.2 i))), (D.fn 45 D.nil)])]), ((decide (((t0.1 : Nat) : Int) ≤ (64 : Int))) = true → All [((decide (((t0.1 : Nat) : Int) ≤ (64 : Int))) = true → (decide (((t0.1 : Nat) : Int) ≤ (64 : Int))) = true)]), ((true && (decide (((t0.1 : Nat) : Int) ≤ (64 : Int)))) = true → (decide (((t0.1 : Nat) : Int) ≤ (64 : Int))) = true)], [(2, (D.bool (bif (decide (((t0.1 : Nat) : Int) ≤ (64 : Int))) then (!r0) else false)))], [])) rfl (by kernel_rfl) (And.intro (fun hg => (And.intro (by first | exact fun h => h | exact fun h => (Bool.and_eq_true_iff.1 h).1 | simp_all) (And.intro (fc_slices_ContainsFunc_api_Cube_space_Sound_1 fu t0 (callIf_some cr0 hg)) (And.intro (And.intro (fun _ _ => (S_api_Cube.inn _)) (And.intro trivial trivial)) trivial)))) (And.intro (fun _ => (And.intro (by first | exact fun h => h | exact fun h => (Bool.and_eq_true_iff.1 h).1 | simp_all) trivial)) (And.intro (by first | exact fun h => h | exact fun h => (Bool.and_eq_true_iff.1 h).1 | simp_all) trivial))) ?_
  rw [← Option.some.inj h] at hk
  obtain rfl : d = (D.bool (bif (decide (((t0.1 : Nat) : Int) ≤ (64 : Int))) then (!r0) else false)) := hk
  exact runs_ret (by kernel_rfl) trivial (Nat.le_refl 0) trivial trivial

theorem fc_space_Sound (fu : Nat) (t0 : (Nat × (Nat → S_api_Cube))) {r : Bool} (h : F_space_Sound fu t0 = some r) : FC Try.prog 20 [(D.lit t0.1 24 fun i => (S_api_Cube.d (t0.2 i)))] [] (D.bool r) [] := by
  refine fc_of_runs (fn := Try.f20) (c := Try.f20.body.getD .skip) (by kernel_rfl) (by kernel_rfl) ?_
  refine runs_to (ts := [0]) (T' := T_space_Sound) (env' := [(0, (D.lit t0.1 24 fun i => (S_api_Cube.d (t0.2 i))))]) (h2 := []) (by kernel_rfl) (by kernel_rfl) trivial (Nat.le_refl _) trivial (And.intro (fun _ _ => (S_api_Cube.inn _)) trivial) ?_
  exact run_space_Sound fu t0 h rfl

def K_space_Lean_1 (d : D) (r : Bool) : Prop := d = (D.bool r)

noncomputable def T_space_Lean_1 : List Item := norm 200 [.code (Try.f34.body.getD .skip)]

/-- podesta/space.Lean 1 -/
def F_space_Lean_1 (fu : Nat) (t0 : S_api_Cube) : Option Bool :=
  (F_cube_Sound fu t0).bind fun r0 =>
  some (!r0)

theorem run_space_Lean_1 (fu : Nat) (t0 : S_api_Cube) {d : D} {r : Bool} (h : F_space_Lean_1 fu t0 = some r) (hk : (K_space_Lean_1 d) r) : Runs Try.prog Try.f34 0 T_space_Lean_1 [(0, (S_api_Cube.d t0))] [] d [] := by
  unfold F_space_Lean_1 at h
  obtain ⟨r0, cr0, h⟩ := Option.bind_eq_some_iff.1 h
  refine runs_regions 2 [([], [1]), ([(.d (D.bool r0))], [2])] (z := ([FC Try.prog 35 [(S_api_Cube.d t0)] [] (D.bool r0) [], All (List.map NoRow [(S_api_Cube.d t0)])], [(2, (D.bool (!r0)))], [some (.box (S_api_Cube.d t0))])) rfl (by kernel_rfl) (And.intro (fc_cube_Sound fu t0 cr0) (And.intro (And.intro (S_api_Cube.inn _) trivial) trivial)) ?_
  rw [← Option.some.inj h] at hk
  obtain rfl : d = (D.bool (!r0)) := hk
  exact runs_ret (by kernel_rfl) trivial (Nat.le_refl 0) trivial trivial

theorem fc_space_Lean_1 (fu : Nat) (t0 : S_api_Cube) {r : Bool} (h : F_space_Lean_1 fu t0 = some r) : FC Try.prog 34 [(S_api_Cube.d t0)] [] (D.bool r) [] := by
  refine fc_of_runs (fn := Try.f34) (c := Try.f34.body.getD .skip) (by kernel_rfl) (by kernel_rfl) ?_
  refine runs_to (ts := [0]) (T' := T_space_Lean_1) (env' := [(0, (S_api_Cube.d t0))]) (h2 := []) (by kernel_rfl) (by kernel_rfl) trivial (Nat.le_refl _) trivial (And.intro (S_api_Cube.inn _) trivial) ?_
  exact run_space_Lean_1 fu t0 h rfl

def K_slices_IndexFunc_api_Cube_space_Lean_1 (d : D) (r : Int) : Prop := d = (D.int .i64 r)

noncomputable def T_slices_IndexFunc_api_Cube_space_Lean_1 : List Item := norm 200 [.code (Try.f55.body.getD .skip)]

noncomputable def T_slices_IndexFunc_api_Cube_space_Lean_1_L1 : List Item := norm 200 (nxt (nxt T_slices_IndexFunc_api_Cube_space_Lean_1))

noncomputable def X_slices_IndexFunc_api_Cube_space_Lean_1_L1T : List Item := norm 200 (cndF (nxt (nxt (nxt T_slices_IndexFunc_api_Cube_space_Lean_1))))

abbrev E_slices_IndexFunc_api_Cube_space_Lean_1_L1 := Unit

def N_slices_IndexFunc_api_Cube_space_Lean_1_L1 (_fu : Nat) (t0 : (Nat × (Nat → S_api_Cube))) (t7 : Int) (d : D) (s : Int) : Prop := Runs Try.prog Try.f55 0 T_slices_IndexFunc_api_Cube_space_Lean_1_L1 [(0, (D.lit t0.1 24 fun i => (S_api_Cube.d (t0.2 i)))), (1, (D.fn 34 D.nil)), (7, (D.int .i64 t7)), (8, (D.int .i64 s))] [] d []

def X_slices_IndexFunc_api_Cube_space_Lean_1_L1 (_fu : Nat) (_t0 : (Nat × (Nat → S_api_Cube))) (_t7 : Int) (d : D) : E_slices_IndexFunc_api_Cube_space_Lean_1_L1 ⊕ Int → Prop
  | .inl _ => Runs Try.prog Try.f55 0 X_slices_IndexFunc_api_Cube_space_Lean_1_L1T [] [] d []
  | .inr o => (K_slices_IndexFunc_api_Cube_space_Lean_1 d) o

def F_slices_IndexFunc_api_Cube_space_Lean_1_L1 (fu : Nat) (t0 : (Nat × (Nat → S_api_Cube))) (t7 : Int) (t8 : Int) : Option (Lo Int E_slices_IndexFunc_api_Cube_space_Lean_1_L1 Int) :=
  ifs (decide (t8 < t7)) (
    chk (0 ≤ t8 ∧ t8 < ((t0.1 : Nat) : Int)) <|
    (F_space_Lean_1 fu (t0.2 t8.toNat)).bind fun r0 =>
    ifs r0 (
      some (.ret t8)) (
      some (.next (IntKind.wrap .i64 (t8 + (1 : Int)))))) (
    some (.exit ()))

theorem run_slices_IndexFunc_api_Cube_space_Lean_1_L1 (fu : Nat) (t0 : (Nat × (Nat → S_api_Cube))) (t7 : Int) (t8 : Int) {d : D} {o : (Lo Int E_slices_IndexFunc_api_Cube_space_Lean_1_L1 Int)} (h : F_slices_IndexFunc_api_Cube_space_Lean_1_L1 fu t0 t7 t8 = some o) (hk : (Lo.post (N_slices_IndexFunc_api_Cube_space_Lean_1_L1 fu t0 t7 d) (X_slices_IndexFunc_api_Cube_space_Lean_1_L1 fu t0 t7 d)) o) : Runs Try.prog Try.f55 0 T_slices_IndexFunc_api_Cube_space_Lean_1_L1 [(0, (D.lit t0.1 24 fun i => (S_api_Cube.d (t0.2 i)))), (1, (D.fn 34 D.nil)), (7, (D.int .i64 t7)), (8, (D.int .i64 t8))] [] d [] := by
  unfold F_slices_IndexFunc_api_Cube_space_Lean_1_L1 at h
  refine runs_regions 1 [([], [0, 1, 7, 8, 9])] (z := ([], [(0, (D.lit t0.1 24 fun i => (S_api_Cube.d (t0.2 i)))), (1, (D.fn 34 D.nil)), (7, (D.int .i64 t7)), (8, (D.int .i64 t8)), (9, (D.bool (decide (t8 < t7))))], [])) rfl (by kernel_rfl) trivial ?_
  refine runs_if (b := (decide (t8 < t7))) (by kernel_rfl) (fun hb => ?_) (fun hb => ?_)
  · replace h := ifs_true h hb
    obtain ⟨p0, h⟩ := chk_some h
    obtain ⟨r0, cr0, h⟩ := Option.bind_eq_some_iff.1 h
    refine runs_regions 2 [([], [0, 1, 5, 7, 8]), ([(.d (D.bool r0))], [0, 1, 5, 7, 8, 16])] (z := ([(0 ≤ t8 ∧ t8 < ((t0.1 : Nat) : Int)), FC Try.prog 34 [(S_api_Cube.d (t0.2 t8.toNat))] [] (D.bool r0) [], All (List.map NoRow [(S_api_Cube.d (t0.2 t8.toNat))])], [(0, (D.lit t0.1 24 fun i => (S_api_Cube.d (t0.2 i)))), (1, (D.fn 34 D.nil)), (5, (D.int .i64 t8)), (7, (D.int .i64 t7)), (8, (D.int .i64 t8)), (16, (D.bool r0))], [])) rfl (by kernel_rfl) (And.intro p0 (And.intro (fc_space_Lean_1 fu (t0.2 t8.toNat) cr0) (And.intro (And.intro (S_api_Cube.inn _) trivial) trivial))) ?_
    refine runs_if (b := r0) (by kernel_rfl) (fun hb => ?_) (fun hb => ?_)
    · replace h := ifs_true h hb
      refine runs_regions 1 [([], [4])] (z := ([], [(4, (D.int .i64 t8))], [])) rfl (by kernel_rfl) trivial ?_
      rw [← Option.some.inj h] at hk
      obtain rfl : d = (D.int .i64 t8) := hk
      exact runs_ret (by kernel_rfl) trivial (Nat.le_refl 0) trivial trivial
    · replace h := ifs_false h hb
      refine runs_regions 1 [([], [0, 1, 7, 8])] (z := ([], [(0, (D.lit t0.1 24 fun i => (S_api_Cube.d (t0.2 i)))), (1, (D.fn 34 D.nil)), (7, (D.int .i64 t7)), (8, (D.int .i64 (IntKind.wrap .i64 (t8 + (1 : Int)))))], [])) rfl (by kernel_rfl) trivial ?_
      rw [← Option.some.inj h] at hk
      refine runs_to (ts := [0, 1, 7, 8]) (T' := T_slices_IndexFunc_api_Cube_space_Lean_1_L1) (env' := [(0, (D.lit t0.1 24 fun i => (S_api_Cube.d (t0.2 i)))), (1, (D.fn 34 D.nil)), (7, (D.int .i64 t7)), (8, (D.int .i64 (IntKind.wrap .i64 (t8 + (1 : Int)))))]) (h2 := []) (by kernel_rfl) (by kernel_rfl) trivial (Nat.zero_le _) trivial (And.intro (fun _ _ => (S_api_Cube.inn _)) (And.intro trivial (And.intro trivial (And.intro trivial trivial)))) ?_
      exact hk
  · replace h := ifs_false h hb
    rw [← Option.some.inj h] at hk
    refine runs_to (ts := []) (T' := X_slices_IndexFunc_api_Cube_space_Lean_1_L1T) (env' := []) (h2 := []) (by kernel_rfl) (by kernel_rfl) trivial (Nat.zero_le _) trivial trivial ?_
    exact hk

theorem iter_slices_IndexFunc_api_Cube_space_Lean_1_L1 (fu : Nat) (t0 : (Nat × (Nat → S_api_Cube))) (t7 : Int) {d : D} (k : Nat) (s : Int) {o : E_slices_IndexFunc_api_Cube_space_Lean_1_L1 ⊕ Int} (h : iter (fun s => F_slices_IndexFunc_api_Cube_space_Lean_1_L1 fu t0 t7 s) k s = some o) (hx : X_slices_IndexFunc_api_Cube_space_Lean_1_L1 fu t0 t7 d o) : N_slices_IndexFunc_api_Cube_space_Lean_1_L1 fu t0 t7 d s :=
  iter_post (K := N_slices_IndexFunc_api_Cube_space_Lean_1_L1 fu t0 t7 d) (X := X_slices_IndexFunc_api_Cube_space_Lean_1_L1 fu t0 t7 d) (fun s _ h hk => run_slices_IndexFunc_api_Cube_space_Lean_1_L1 fu t0 t7 s h hk) k s o h hx

/-- slices.IndexFunc[[]podesta/api.Cube,podesta/api.Cube] -/
def F_slices_IndexFunc_api_Cube_space_Lean_1 (fu : Nat) (t0 : (Nat × (Nat → S_api_Cube))) : Option Int :=
  after (iter (fun s => F_slices_IndexFunc_api_Cube_space_Lean_1_L1 fu t0 ((t0.1 : Nat) : Int) s) fu (0 : Int)) fun _ =>
  some (-1 : Int)

theorem run_slices_IndexFunc_api_Cube_space_Lean_1 (fu : Nat) (t0 : (Nat × (Nat → S_api_Cube))) {d : D} {r : Int} (h : F_slices_IndexFunc_api_Cube_space_Lean_1 fu t0 = some r) (hk : (K_slices_IndexFunc_api_Cube_space_Lean_1 d) r) : Runs Try.prog Try.f55 0 T_slices_IndexFunc_api_Cube_space_Lean_1 [(0, (D.lit t0.1 24 fun i => (S_api_Cube.d (t0.2 i)))), (1, (D.fn 34 D.nil))] [] d [] := by
  unfold F_slices_IndexFunc_api_Cube_space_Lean_1 at h
  refine runs_regions 2 [([], [0, 1]), ([], [0, 1, 7, 8])] (z := ([], [(0, (D.lit t0.1 24 fun i => (S_api_Cube.d (t0.2 i)))), (1, (D.fn 34 D.nil)), (7, (D.int .i64 ((t0.1 : Nat) : Int))), (8, (D.int .i64 (0 : Int)))], [])) rfl (by kernel_rfl) trivial ?_
  refine runs_to (ts := [0, 1, 7, 8]) (T' := T_slices_IndexFunc_api_Cube_space_Lean_1_L1) (env' := [(0, (D.lit t0.1 24 fun i => (S_api_Cube.d (t0.2 i)))), (1, (D.fn 34 D.nil)), (7, (D.int .i64 ((t0.1 : Nat) : Int))), (8, (D.int .i64 (0 : Int)))]) (h2 := []) (by kernel_rfl) (by kernel_rfl) trivial (Nat.zero_le _) trivial (And.intro (fun _ _ => (S_api_Cube.inn _)) (And.intro trivial (And.intro trivial (And.intro trivial trivial)))) ?_
  rcases after_some h with ⟨e2, hi, h⟩ | hi
  · refine iter_slices_IndexFunc_api_Cube_space_Lean_1_L1 fu t0 ((t0.1 : Nat) : Int) fu (0 : Int) hi ?_
    show Runs Try.prog Try.f55 0 X_slices_IndexFunc_api_Cube_space_Lean_1_L1T [] [] d []
    refine runs_regions 1 [([], [4])] (z := ([], [(4, (D.int .i64 (-1 : Int)))], [])) rfl (by kernel_rfl) trivial ?_
    rw [← Option.some.inj h] at hk
    obtain rfl : d = (D.int .i64 (-1 : Int)) := hk
    exact runs_ret (by kernel_rfl) trivial (Nat.le_refl 0) trivial trivial
  · exact iter_slices_IndexFunc_api_Cube_space_Lean_1_L1 fu t0 ((t0.1 : Nat) : Int) fu (0 : Int) hi hk

theorem fc_slices_IndexFunc_api_Cube_space_Lean_1 (fu : Nat) (t0 : (Nat × (Nat → S_api_Cube))) {r : Int} (h : F_slices_IndexFunc_api_Cube_space_Lean_1 fu t0 = some r) : FC Try.prog 55 [(D.lit t0.1 24 fun i => (S_api_Cube.d (t0.2 i))), (D.fn 34 D.nil)] [] (D.int .i64 r) [] := by
  refine fc_of_runs (fn := Try.f55) (c := Try.f55.body.getD .skip) (by kernel_rfl) (by kernel_rfl) ?_
  refine runs_to (ts := [0, 1]) (T' := T_slices_IndexFunc_api_Cube_space_Lean_1) (env' := [(0, (D.lit t0.1 24 fun i => (S_api_Cube.d (t0.2 i)))), (1, (D.fn 34 D.nil))]) (h2 := []) (by kernel_rfl) (by kernel_rfl) trivial (Nat.le_refl _) trivial (And.intro (fun _ _ => (S_api_Cube.inn _)) (And.intro trivial trivial)) ?_
  exact run_slices_IndexFunc_api_Cube_space_Lean_1 fu t0 h rfl

def K_slices_DeleteFunc_api_Cube_space_Lean_1 (d : D) (hp : Heap) (r : (Nat × (Nat → S_api_Cube))) : Prop := d = (D.own 1) ∧ hp = [none, some (.seq 44 r.1 24 (D.arr r.1 24 fun i => (S_api_Cube.d (r.2 i))))]

noncomputable def T_slices_DeleteFunc_api_Cube_space_Lean_1 : List Item := norm 200 [.code (Try.f32.body.getD .skip)]

noncomputable def T_slices_DeleteFunc_api_Cube_space_Lean_1_L1 : List Item := norm 200 (nxt (cndF (nxt (nxt (nxt T_slices_DeleteFunc_api_Cube_space_Lean_1)))))

noncomputable def X_slices_DeleteFunc_api_Cube_space_Lean_1_L1T : List Item := norm 200 (cndF (nxt (nxt (cndF (nxt (nxt (nxt T_slices_DeleteFunc_api_Cube_space_Lean_1)))))))

abbrev E_slices_DeleteFunc_api_Cube_space_Lean_1_L1 := (Int × (Nat × (Nat → S_api_Cube)))

def N_slices_DeleteFunc_api_Cube_space_Lean_1_L1 (_fu : Nat) (d : D) (hp : Heap) (s : (Int × Int × (Nat × (Nat → S_api_Cube)))) : Prop := Runs Try.prog Try.f32 1 T_slices_DeleteFunc_api_Cube_space_Lean_1_L1 [(0, (D.own 0)), (1, (D.fn 34 D.nil)), (5, (D.int .i64 s.1)), (6, (D.int .i64 s.2.1))] [some (.seq 44 s.2.2.1 24 (D.arr s.2.2.1 24 fun i => (S_api_Cube.d (s.2.2.2 i))))] d hp

def X_slices_DeleteFunc_api_Cube_space_Lean_1_L1 (_fu : Nat) (d : D) (hp : Heap) : E_slices_DeleteFunc_api_Cube_space_Lean_1_L1 ⊕ (Nat × (Nat → S_api_Cube)) → Prop
  | .inl e => Runs Try.prog Try.f32 1 X_slices_DeleteFunc_api_Cube_space_Lean_1_L1T [(0, (D.own 0)), (5, (D.int .i64 e.1))] [some (.seq 44 e.2.1 24 (D.arr e.2.1 24 fun i => (S_api_Cube.d (e.2.2 i))))] d hp
  | .inr o => (K_slices_DeleteFunc_api_Cube_space_Lean_1 d hp) o

def F_slices_DeleteFunc_api_Cube_space_Lean_1_L1 (fu : Nat) (t5 : Int) (t6 : Int) (m0 : (Nat × (Nat → S_api_Cube))) : Option (Lo (Int × Int × (Nat × (Nat → S_api_Cube))) E_slices_DeleteFunc_api_Cube_space_Lean_1_L1 (Nat × (Nat → S_api_Cube))) :=
  ifs (decide (t6 < ((m0.1 : Nat) : Int))) (
    chk (0 ≤ t6 ∧ t6 < ((m0.1 : Nat) : Int)) <|
    chk (t6.toNat < m0.1) <|
    (F_space_Lean_1 fu (m0.2 t6.toNat)).bind fun r1 =>
    ifs (!r1) (
      chk (0 ≤ t5 ∧ t5 < ((m0.1 : Nat) : Int)) <|
      chk (t5.toNat < m0.1) <|
      some (.next ((IntKind.wrap .i64 (t5 + (1 : Int))), (IntKind.wrap .i64 (t6 + (1 : Int))), (m0.1, (fun j => if j = t5.toNat then (m0.2 t6.toNat) else m0.2 j))))) (
      some (.next (t5, (IntKind.wrap .i64 (t6 + (1 : Int))), m0)))) (
    some (.exit (t5, m0)))

theorem run_slices_DeleteFunc_api_Cube_space_Lean_1_L1 (fu : Nat) (t5 : Int) (t6 : Int) (m0 : (Nat × (Nat → S_api_Cube))) {d : D} {hp : Heap} {o : (Lo (Int × Int × (Nat × (Nat → S_api_Cube))) E_slices_DeleteFunc_api_Cube_space_Lean_1_L1 (Nat × (Nat → S_api_Cube)))} (h : F_slices_DeleteFunc_api_Cube_space_Lean_1_L1 fu t5 t6 m0 = some o) (hk : (Lo.post (N_slices_DeleteFunc_api_Cube_space_Lean_1_L1 fu d hp) (X_slices_DeleteFunc_api_Cube_space_Lean_1_L1 fu d hp)) o) : Runs Try.prog Try.f32 1 T_slices_DeleteFunc_api_Cube_space_Lean_1_L1 [(0, (D.own 0)), (1, (D.fn 34 D.nil)), (5, (D.int .i64 t5)), (6, (D.int .i64 t6))] [some (.seq 44 m0.1 24 (D.arr m0.1 24 fun i => (S_api_Cube.d (m0.2 i))))] d hp := by
  unfold F_slices_DeleteFunc_api_Cube_space_Lean_1_L1 at h
  refine runs_regions 1 [([], [0, 1, 5, 6, 19])] (z := ([], [(0, (D.own 0)), (1, (D.fn 34 D.nil)), (5, (D.int .i64 t5)), (6, (D.int .i64 t6)), (19, (D.bool (decide (t6 < ((m0.1 : Nat) : Int)))))], [some (.seq 44 m0.1 24 (D.arr m0.1 24 fun i => (S_api_Cube.d (m0.2 i))))])) rfl (by kernel_rfl) trivial ?_
  refine runs_if (b := (decide (t6 < ((m0.1 : Nat) : Int)))) (by kernel_rfl) (fun hb => ?_) (fun hb => ?_)
  · replace h := ifs_true h hb
    obtain ⟨p0, h⟩ := chk_some h
    obtain ⟨p1, h⟩ := chk_some h
    obtain ⟨r1, cr1, h⟩ := Option.bind_eq_some_iff.1 h
    refine runs_regions 2 [([], [0, 1, 5, 6, 7]), ([(.d (D.bool r1))], [0, 1, 5, 6, 7, 29])] (z := ([(0 ≤ t6 ∧ t6 < ((m0.1 : Nat) : Int)), (t6.toNat < m0.1), FC Try.prog 34 [(S_api_Cube.d (m0.2 t6.toNat))] [] (D.bool r1) [], All (List.map NoRow [(S_api_Cube.d (m0.2 t6.toNat))])], [(0, (D.own 0)), (1, (D.fn 34 D.nil)), (5, (D.int .i64 t5)), (6, (D.int .i64 t6)), (7, (D.ptr 1 [])), (29, (D.bool (!r1)))], [some (.seq 44 m0.1 24 (D.arr m0.1 24 fun i => (S_api_Cube.d (m0.2 i)))), some (.box (S_api_Cube.d (m0.2 t6.toNat)))])) rfl (by kernel_rfl) (And.intro p0 (And.intro p1 (And.intro (fc_space_Lean_1 fu (m0.2 t6.toNat) cr1) (And.intro (And.intro (S_api_Cube.inn _) trivial) trivial)))) ?_
    refine runs_if (b := (!r1)) (by kernel_rfl) (fun hb => ?_) (fun hb => ?_)
    · replace h := ifs_true h hb
      obtain ⟨p2, h⟩ := chk_some h
      obtain ⟨p3, h⟩ := chk_some h
      refine runs_regions 1 [([], [0, 1, 5, 6])] (z := ([(0 ≤ t5 ∧ t5 < ((m0.1 : Nat) : Int)), (t5.toNat < m0.1)], [(0, (D.own 0)), (1, (D.fn 34 D.nil)), (5, (D.int .i64 t5)), (6, (D.int .i64 t6))], [some (.seq 44 m0.1 24 (D.arr m0.1 24 fun j => (if j = t5.toNat then (S_api_Cube.d (m0.2 t6.toNat)) else (S_api_Cube.d (m0.2 j))))), some (.box (S_api_Cube.d (m0.2 t6.toNat)))])) rfl (by kernel_rfl) (And.intro p2 (And.intro p3 trivial)) ?_
      refine cast_fun (F := fun q => Runs Try.prog Try.f32 1 _ [(0, (D.own 0)), (1, (D.fn 34 D.nil)), (5, (D.int .i64 t5)), (6, (D.int .i64 t6))] [some (.seq 44 m0.1 24 (D.arr m0.1 24 q)), some (.box (S_api_Cube.d (m0.2 t6.toNat)))] d hp) (funext fun j => (show (if j = t5.toNat then (S_api_Cube.d (m0.2 t6.toNat)) else (S_api_Cube.d (m0.2 j))) = (fun x : S_api_Cube => (S_api_Cube.d x)) ((fun j => if j = t5.toNat then (m0.2 t6.toNat) else m0.2 j) j) from (d_ite (f := fun x : S_api_Cube => (S_api_Cube.d x)) rfl rfl))) ?_
      refine runs_regions 2 [([], [0, 1, 5, 6]), ([], [0, 1, 5, 6])] (z := ([], [(0, (D.own 0)), (1, (D.fn 34 D.nil)), (5, (D.int .i64 (IntKind.wrap .i64 (t5 + (1 : Int))))), (6, (D.int .i64 (IntKind.wrap .i64 (t6 + (1 : Int)))))], [some (.seq 44 m0.1 24 (D.arr m0.1 24 fun i => (S_api_Cube.d ((fun j => if j = t5.toNat then (m0.2 t6.toNat) else m0.2 j) i)))), some (.box (S_api_Cube.d (m0.2 t6.toNat)))])) rfl (by kernel_rfl) trivial ?_
      rw [← Option.some.inj h] at hk
      refine runs_to (ts := [0, 1, 5, 6]) (T' := T_slices_DeleteFunc_api_Cube_space_Lean_1_L1) (env' := [(0, (D.own 0)), (1, (D.fn 34 D.nil)), (5, (D.int .i64 (IntKind.wrap .i64 (t5 + (1 : Int))))), (6, (D.int .i64 (IntKind.wrap .i64 (t6 + (1 : Int)))))]) (h2 := [some (.seq 44 m0.1 24 (D.arr m0.1 24 fun i => (S_api_Cube.d ((fun j => if j = t5.toNat then (m0.2 t6.toNat) else m0.2 j) i))))]) (by kernel_rfl) (by kernel_rfl) (And.intro (.inr rfl) trivial) (Nat.le_of_ble_eq_true rfl) (And.intro (fun _ _ => (S_api_Cube.inn _)) trivial) (And.intro (bel_of rfl) (And.intro trivial (And.intro trivial (And.intro trivial trivial)))) ?_
      exact hk
    · replace h := ifs_false h hb
      refine runs_regions 1 [([], [0, 1, 5, 6])] (z := ([], [(0, (D.own 0)), (1, (D.fn 34 D.nil)), (5, (D.int .i64 t5)), (6, (D.int .i64 (IntKind.wrap .i64 (t6 + (1 : Int)))))], [some (.seq 44 m0.1 24 (D.arr m0.1 24 fun i => (S_api_Cube.d (m0.2 i)))), some (.box (S_api_Cube.d (m0.2 t6.toNat)))])) rfl (by kernel_rfl) trivial ?_
      rw [← Option.some.inj h] at hk
      refine runs_to (ts := [0, 1, 5, 6]) (T' := T_slices_DeleteFunc_api_Cube_space_Lean_1_L1) (env' := [(0, (D.own 0)), (1, (D.fn 34 D.nil)), (5, (D.int .i64 t5)), (6, (D.int .i64 (IntKind.wrap .i64 (t6 + (1 : Int)))))]) (h2 := [some (.seq 44 m0.1 24 (D.arr m0.1 24 fun i => (S_api_Cube.d (m0.2 i))))]) (by kernel_rfl) (by kernel_rfl) (And.intro (.inr rfl) trivial) (Nat.le_of_ble_eq_true rfl) (And.intro (fun _ _ => (S_api_Cube.inn _)) trivial) (And.intro (bel_of rfl) (And.intro trivial (And.intro trivial (And.intro trivial trivial)))) ?_
      exact hk
  · replace h := ifs_false h hb
    rw [← Option.some.inj h] at hk
    refine runs_to (ts := [0, 5]) (T' := X_slices_DeleteFunc_api_Cube_space_Lean_1_L1T) (env' := [(0, (D.own 0)), (5, (D.int .i64 t5))]) (h2 := [some (.seq 44 m0.1 24 (D.arr m0.1 24 fun i => (S_api_Cube.d (m0.2 i))))]) (by kernel_rfl) (by kernel_rfl) (And.intro (.inr rfl) trivial) (Nat.le_of_ble_eq_true rfl) (And.intro (fun _ _ => (S_api_Cube.inn _)) trivial) (And.intro (bel_of rfl) (And.intro trivial trivial)) ?_
    exact hk

theorem iter_slices_DeleteFunc_api_Cube_space_Lean_1_L1 (fu : Nat) {d : D} {hp : Heap} (k : Nat) (s : (Int × Int × (Nat × (Nat → S_api_Cube)))) {o : E_slices_DeleteFunc_api_Cube_space_Lean_1_L1 ⊕ (Nat × (Nat → S_api_Cube))} (h : iter (fun s => F_slices_DeleteFunc_api_Cube_space_Lean_1_L1 fu s.1 s.2.1 s.2.2) k s = some o) (hx : X_slices_DeleteFunc_api_Cube_space_Lean_1_L1 fu d hp o) : N_slices_DeleteFunc_api_Cube_space_Lean_1_L1 fu d hp s :=
  iter_post (K := N_slices_DeleteFunc_api_Cube_space_Lean_1_L1 fu d hp) (X := X_slices_DeleteFunc_api_Cube_space_Lean_1_L1 fu d hp) (fun s _ h hk => run_slices_DeleteFunc_api_Cube_space_Lean_1_L1 fu s.1 s.2.1 s.2.2 h hk) k s o h hx

/-- slices.DeleteFunc[[]podesta/api.Cube,podesta/api.Cube] -/
def F_slices_DeleteFunc_api_Cube_space_Lean_1 (fu : Nat) (t0 : (Nat × (Nat → S_api_Cube))) : Option (Nat × (Nat → S_api_Cube)) :=
  (F_slices_IndexFunc_api_Cube_space_Lean_1 fu t0).bind fun r0 =>
  ifs (r0 == (-1 : Int)) (
    some t0) (
    after (iter (fun s => F_slices_DeleteFunc_api_Cube_space_Lean_1_L1 fu s.1 s.2.1 s.2.2) fu (r0, (IntKind.wrap .i64 (r0 + (1 : Int))), t0)) fun e5 =>
    chk (0 ≤ e5.1 ∧ e5.1 ≤ ((e5.2.1 : Nat) : Int) ∧ ((e5.2.1 : Nat) : Int) ≤ ((e5.2.1 : Nat) : Int)) <|
    chk ((e5.1).toNat + ((((e5.2.1 : Nat) : Int)).toNat - (e5.1).toNat) ≤ e5.2.1) <|
    chk (0 ≤ (0 : Int) ∧ (0 : Int) ≤ e5.1 ∧ e5.1 ≤ ((e5.2.1 : Nat) : Int)) <|
    chk (((e5.1).toNat - ((0 : Int)).toNat) ≤ e5.2.1) <|
    some (((e5.1).toNat - ((0 : Int)).toNat), (fun i => if (e5.1).toNat ≤ i ∧ i < (e5.1).toNat + ((((e5.2.1 : Nat) : Int)).toNat - (e5.1).toNat) then (S_api_Cube.mk (fun _ => 0) (fun _ => 0)) else e5.2.2 i)))

theorem run_slices_DeleteFunc_api_Cube_space_Lean_1 (fu : Nat) (t0 : (Nat × (Nat → S_api_Cube))) {d : D} {hp : Heap} {r : (Nat × (Nat → S_api_Cube))} (h : F_slices_DeleteFunc_api_Cube_space_Lean_1 fu t0 = some r) (hk : (K_slices_DeleteFunc_api_Cube_space_Lean_1 d hp) r) : Runs Try.prog Try.f32 1 T_slices_DeleteFunc_api_Cube_space_Lean_1 [(0, (D.own 0)), (1, (D.fn 34 D.nil))] [some (.seq 44 t0.1 24 (D.arr t0.1 24 fun i => (S_api_Cube.d (t0.2 i))))] d hp := by
  unfold F_slices_DeleteFunc_api_Cube_space_Lean_1 at h
  obtain ⟨r0, cr0, h⟩ := Option.bind_eq_some_iff.1 h
  refine runs_regions 3 [([], [0, 1]), ([(.lend (D.int .i64 r0))], [0, 1, 5]), ([], [0, 1, 5, 12])] (z := ([FC Try.prog 55 [(D.lit t0.1 24 fun i => (S_api_Cube.d (t0.2 i))), (D.fn 34 D.nil)] [] (D.int .i64 r0) [], All (List.map NoRow [(D.lit t0.1 24 fun i => (S_api_Cube.d (t0.2 i))), (D.fn 34 D.nil)])], [(0, (D.own 0)), (1, (D.fn 34 D.nil)), (5, (D.int .i64 r0)), (12, (D.bool (r0 == (-1 : Int))))], [some (.seq 44 t0.1 24 (D.arr t0.1 24 fun i => (S_api_Cube.d (t0.2 i))))])) rfl (by kernel_rfl) (And.intro (fc_slices_IndexFunc_api_Cube_space_Lean_1 fu t0 cr0) (And.intro (And.intro (fun _ _ => (S_api_Cube.inn _)) (And.intro trivial trivial)) trivial)) ?_
  refine runs_if (b := (r0 == (-1 : Int))) (by kernel_rfl) (fun hb => ?_) (fun hb => ?_)
  · replace h := ifs_true h hb
    refine runs_regions 1 [([], [4])] (z := ([], [(4, (D.own 0))], [some (.seq 44 t0.1 24 (D.arr t0.1 24 fun i => (S_api_Cube.d (t0.2 i))))])) rfl (by kernel_rfl) trivial ?_
    rw [← Option.some.inj h] at hk
    obtain ⟨rfl, rfl⟩ : d = (D.own 1) ∧ hp = [none, some (.seq 44 t0.1 24 (D.arr t0.1 24 fun i => (S_api_Cube.d (t0.2 i))))] := hk
    refine runs_keep (ts := [4]) (env' := [(4, (D.own 0))]) (h2 := [some (.seq 44 t0.1 24 (D.arr t0.1 24 fun i => (S_api_Cube.d (t0.2 i))))]) (by kernel_rfl) (And.intro (.inr rfl) trivial) (Nat.le_of_ble_eq_true rfl) (And.intro (fun _ _ => (S_api_Cube.inn _)) trivial) (And.intro (bel_of rfl) trivial) ?_
    refine runs_pad ?_
    refine runs_rename 1 0 (row := (.seq 44 t0.1 24 (D.arr t0.1 24 fun i => (S_api_Cube.d (t0.2 i))))) (by decide) (by decide) rfl rfl (And.intro (fun _ _ => (S_api_Cube.inn _)) trivial) (And.intro (rn_own rfl) trivial) ?_
    exact runs_ret (h2 := [none, some (.seq 44 t0.1 24 (D.arr t0.1 24 fun i => (S_api_Cube.d (t0.2 i))))]) (by kernel_rfl) (And.intro (.inl rfl) (And.intro (.inr rfl) trivial)) (Nat.le_of_ble_eq_true rfl) (And.intro (fun _ _ => (S_api_Cube.inn _)) trivial) (bel_of rfl)
  · replace h := ifs_false h hb
    refine runs_regions 1 [([], [0, 1, 5, 6])] (z := ([], [(0, (D.own 0)), (1, (D.fn 34 D.nil)), (5, (D.int .i64 r0)), (6, (D.int .i64 (IntKind.wrap .i64 (r0 + (1 : Int)))))], [some (.seq 44 t0.1 24 (D.arr t0.1 24 fun i => (S_api_Cube.d (t0.2 i))))])) rfl (by kernel_rfl) trivial ?_
    refine runs_to (ts := [0, 1, 5, 6]) (T' := T_slices_DeleteFunc_api_Cube_space_Lean_1_L1) (env' := [(0, (D.own 0)), (1, (D.fn 34 D.nil)), (5, (D.int .i64 r0)), (6, (D.int .i64 (IntKind.wrap .i64 (r0 + (1 : Int)))))]) (h2 := [some (.seq 44 t0.1 24 (D.arr t0.1 24 fun i => (S_api_Cube.d (t0.2 i))))]) (by kernel_rfl) (by kernel_rfl) (And.intro (.inr rfl) trivial) (Nat.le_of_ble_eq_true rfl) (And.intro (fun _ _ => (S_api_Cube.inn _)) trivial) (And.intro (bel_of rfl) (And.intro trivial (And.intro trivial (And.intro trivial trivial)))) ?_
    rcases after_some h with ⟨e5, hi, h⟩ | hi
    · refine iter_slices_DeleteFunc_api_Cube_space_Lean_1_L1 fu fu (r0, (IntKind.wrap .i64 (r0 + (1 : Int))), t0) hi ?_
      show Runs Try.prog Try.f32 1 X_slices_DeleteFunc_api_Cube_space_Lean_1_L1T [(0, (D.own 0)), (5, (D.int .i64 e5.1))] [some (.seq 44 e5.2.1 24 (D.arr e5.2.1 24 fun i => (S_api_Cube.d (e5.2.2 i))))] d hp
      obtain ⟨p5, h⟩ := chk_some h
      obtain ⟨p6, h⟩ := chk_some h
      obtain ⟨p7, h⟩ := chk_some h
      refine runs_regions 2 [([(.d (D.arr e5.2.1 24 fun i1 => (S_api_Cube.d ((fun i => if (e5.1).toNat ≤ i ∧ i < (e5.1).toNat + ((((e5.2.1 : Nat) : Int)).toNat - (e5.1).toNat) then (S_api_Cube.mk (fun _ => 0) (fun _ => 0)) else e5.2.2 i) i1))))], [0, 5]), ([], [4])] (z := ([(0 ≤ e5.1 ∧ e5.1 ≤ ((e5.2.1 : Nat) : Int) ∧ ((e5.2.1 : Nat) : Int) ≤ ((e5.2.1 : Nat) : Int)), ((e5.1).toNat + ((((e5.2.1 : Nat) : Int)).toNat - (e5.1).toNat) ≤ e5.2.1), ClearOk e5.2.1 (e5.1).toNat ((((e5.2.1 : Nat) : Int)).toNat - (e5.1).toNat) 24 (D.cons (D.ints .u64 12 (fun _ => 0)) (D.cons (D.ints .u64 12 (fun _ => 0)) D.nil)) (D.arr e5.2.1 24 fun i => (S_api_Cube.d (e5.2.2 i))) (D.arr e5.2.1 24 fun i1 => (S_api_Cube.d ((fun i => if (e5.1).toNat ≤ i ∧ i < (e5.1).toNat + ((((e5.2.1 : Nat) : Int)).toNat - (e5.1).toNat) then (S_api_Cube.mk (fun _ => 0) (fun _ => 0)) else e5.2.2 i) i1))), (0 ≤ (0 : Int) ∧ (0 : Int) ≤ e5.1 ∧ e5.1 ≤ ((e5.2.1 : Nat) : Int))], [(4, (D.view 0 ((0 : Int)).toNat ((e5.1).toNat - ((0 : Int)).toNat) 24))], [some (.seq 44 e5.2.1 24 (D.arr e5.2.1 24 fun i1 => (S_api_Cube.d ((fun i => if (e5.1).toNat ≤ i ∧ i < (e5.1).toNat + ((((e5.2.1 : Nat) : Int)).toNat - (e5.1).toNat) then (S_api_Cube.mk (fun _ => 0) (fun _ => 0)) else e5.2.2 i) i1))))])) rfl (by kernel_rfl) (And.intro p5 (And.intro p6 (And.intro (clearOk_arr rfl fun i => (d_ite (f := fun x : S_api_Cube => (S_api_Cube.d x)) rfl rfl).symm) (And.intro p7 trivial)))) ?_
      obtain ⟨p8, h⟩ := chk_some h
      rw [← Option.some.inj h] at hk
      obtain ⟨rfl, rfl⟩ : d = (D.own 1) ∧ hp = [none, some (.seq 44 ((e5.1).toNat - ((0 : Int)).toNat) 24 (D.arr ((e5.1).toNat - ((0 : Int)).toNat) 24 fun i1 => (S_api_Cube.d ((fun i => if (e5.1).toNat ≤ i ∧ i < (e5.1).toNat + ((((e5.2.1 : Nat) : Int)).toNat - (e5.1).toNat) then (S_api_Cube.mk (fun _ => 0) (fun _ => 0)) else e5.2.2 i) i1))))] := hk
      refine runs_keep (ts := [4]) (env' := [(4, (D.view 0 ((0 : Int)).toNat ((e5.1).toNat - ((0 : Int)).toNat) 24))]) (h2 := [some (.seq 44 e5.2.1 24 (D.arr e5.2.1 24 fun i1 => (S_api_Cube.d ((fun i => if (e5.1).toNat ≤ i ∧ i < (e5.1).toNat + ((((e5.2.1 : Nat) : Int)).toNat - (e5.1).toNat) then (S_api_Cube.mk (fun _ => 0) (fun _ => 0)) else e5.2.2 i) i1))))]) (by kernel_rfl) (And.intro (.inr rfl) trivial) (Nat.le_of_ble_eq_true rfl) (And.intro (fun _ _ => (S_api_Cube.inn _)) trivial) (And.intro (bel_of rfl) trivial) ?_
      refine runs_trunc 4 0 (el := 44) (n := e5.2.1) (m := ((e5.1).toNat - ((0 : Int)).toNat)) (sz := 24) (d := (D.arr e5.2.1 24 fun i1 => (S_api_Cube.d ((fun i => if (e5.1).toNat ≤ i ∧ i < (e5.1).toNat + ((((e5.2.1 : Nat) : Int)).toNat - (e5.1).toNat) then (S_api_Cube.mk (fun _ => 0) (fun _ => 0)) else e5.2.2 i) i1)))) (d' := (D.arr ((e5.1).toNat - ((0 : Int)).toNat) 24 fun i1 => (S_api_Cube.d ((fun i => if (e5.1).toNat ≤ i ∧ i < (e5.1).toNat + ((((e5.2.1 : Nat) : Int)).toNat - (e5.1).toNat) then (S_api_Cube.mk (fun _ => 0) (fun _ => 0)) else e5.2.2 i) i1)))) (by kernel_rfl) rfl p8 (truncOk_arr p8) ?_
      exact runs_ret (h2 := [none, some (.seq 44 ((e5.1).toNat - ((0 : Int)).toNat) 24 (D.arr ((e5.1).toNat - ((0 : Int)).toNat) 24 fun i1 => (S_api_Cube.d ((fun i => if (e5.1).toNat ≤ i ∧ i < (e5.1).toNat + ((((e5.2.1 : Nat) : Int)).toNat - (e5.1).toNat) then (S_api_Cube.mk (fun _ => 0) (fun _ => 0)) else e5.2.2 i) i1))))]) (by kernel_rfl) (And.intro (.inl rfl) (And.intro (.inr rfl) trivial)) (Nat.le_of_ble_eq_true rfl) (And.intro (fun _ _ => (S_api_Cube.inn _)) trivial) (bel_of rfl)
    · exact iter_slices_DeleteFunc_api_Cube_space_Lean_1_L1 fu fu (r0, (IntKind.wrap .i64 (r0 + (1 : Int))), t0) hi hk

theorem fc_slices_DeleteFunc_api_Cube_space_Lean_1 (fu : Nat) (t0 : (Nat × (Nat → S_api_Cube))) {r : (Nat × (Nat → S_api_Cube))} (h : F_slices_DeleteFunc_api_Cube_space_Lean_1 fu t0 = some r) : FC Try.prog 32 [(D.own 0), (D.fn 34 D.nil)] [some (.seq 44 t0.1 24 (D.arr t0.1 24 fun i => (S_api_Cube.d (t0.2 i))))] (D.own 1) [none, some (.seq 44 r.1 24 (D.arr r.1 24 fun i => (S_api_Cube.d (r.2 i))))] := by
  refine fc_of_runs (fn := Try.f32) (c := Try.f32.body.getD .skip) (by kernel_rfl) (by kernel_rfl) ?_
  refine runs_to (ts := [0, 1]) (T' := T_slices_DeleteFunc_api_Cube_space_Lean_1) (env' := [(0, (D.own 0)), (1, (D.fn 34 D.nil))]) (h2 := [some (.seq 44 t0.1 24 (D.arr t0.1 24 fun i => (S_api_Cube.d (t0.2 i))))]) (by kernel_rfl) (by kernel_rfl) (And.intro (.inr rfl) trivial) (Nat.le_refl _) (And.intro (fun _ _ => (S_api_Cube.inn _)) trivial) (And.intro (bel_of rfl) (And.intro trivial trivial)) ?_
  exact run_slices_DeleteFunc_api_Cube_space_Lean_1 fu t0 h ⟨rfl, rfl⟩

def K_slices_Compact_api_Cube (d : D) (hp : Heap) (r : (Nat × (Nat → S_api_Cube))) : Prop := d = (D.own 1) ∧ hp = [none, some (.seq 44 r.1 24 (D.arr r.1 24 fun i => (S_api_Cube.d (r.2 i))))]

noncomputable def T_slices_Compact_api_Cube : List Item := norm 200 [.code (Try.f38.body.getD .skip)]

noncomputable def T_slices_Compact_api_Cube_L2 : List Item := norm 200 (nxt (nxt (cndT (nxt (cndT (nxt (nxt (cndF (nxt (nxt T_slices_Compact_api_Cube))))))))))

noncomputable def X_slices_Compact_api_Cube_L2T : List Item := norm 200 (cndF (nxt (nxt (nxt (cndT (nxt (cndT (nxt (nxt (cndF (nxt (nxt T_slices_Compact_api_Cube))))))))))))

noncomputable def T_slices_Compact_api_Cube_L1 : List Item := norm 200 (nxt (cndF (nxt (nxt T_slices_Compact_api_Cube))))

noncomputable def X_slices_Compact_api_Cube_L1T : List Item := norm 200 (cndF (nxt (nxt (cndF (nxt (nxt T_slices_Compact_api_Cube))))))

abbrev E_slices_Compact_api_Cube_L1 := Unit

def N_slices_Compact_api_Cube_L1 (_fu : Nat) (m0 : (Nat × (Nat → S_api_Cube))) (d : D) (hp : Heap) (s : Int) : Prop := Runs Try.prog Try.f38 1 T_slices_Compact_api_Cube_L1 [(0, (D.own 0)), (3, (D.int .i64 s))] [some (.seq 44 m0.1 24 (D.arr m0.1 24 fun i => (S_api_Cube.d (m0.2 i))))] d hp

def X_slices_Compact_api_Cube_L1 (_fu : Nat) (m0 : (Nat × (Nat → S_api_Cube))) (d : D) (hp : Heap) : E_slices_Compact_api_Cube_L1 ⊕ (Nat × (Nat → S_api_Cube)) → Prop
  | .inl _ => Runs Try.prog Try.f38 1 X_slices_Compact_api_Cube_L1T [(0, (D.own 0))] [some (.seq 44 m0.1 24 (D.arr m0.1 24 fun i => (S_api_Cube.d (m0.2 i))))] d hp
  | .inr o => (K_slices_Compact_api_Cube d hp) o

abbrev E_slices_Compact_api_Cube_L2 := (Int × (Nat × (Nat → S_api_Cube)))

def N_slices_Compact_api_Cube_L2 (_fu : Nat) (_m0 : (Nat × (Nat → S_api_Cube))) (t4_lo : Nat) (t4_n : Nat) (d : D) (hp : Heap) (s : (Int × Int × (Nat × (Nat → S_api_Cube)))) : Prop := Runs Try.prog Try.f38 1 T_slices_Compact_api_Cube_L2 [(0, (D.own 0)), (3, (D.int .i64 s.1)), (4, (D.view 0 t4_lo t4_n 24)), (5, (D.int .i64 s.2.1))] [some (.seq 44 s.2.2.1 24 (D.arr s.2.2.1 24 fun i => (S_api_Cube.d (s.2.2.2 i))))] d hp

def X_slices_Compact_api_Cube_L2 (fu : Nat) (m0 : (Nat × (Nat → S_api_Cube))) (_t4_lo : Nat) (_t4_n : Nat) (d : D) (hp : Heap) : E_slices_Compact_api_Cube_L2 ⊕ (Lo Int E_slices_Compact_api_Cube_L1 (Nat × (Nat → S_api_Cube))) → Prop
  | .inl e => Runs Try.prog Try.f38 1 X_slices_Compact_api_Cube_L2T [(0, (D.own 0)), (3, (D.int .i64 e.1))] [some (.seq 44 e.2.1 24 (D.arr e.2.1 24 fun i => (S_api_Cube.d (e.2.2 i))))] d hp
  | .inr o => (Lo.post (N_slices_Compact_api_Cube_L1 fu m0 d hp) (X_slices_Compact_api_Cube_L1 fu m0 d hp)) o

def F_slices_Compact_api_Cube_L2 (_fu : Nat) (_m0 : (Nat × (Nat → S_api_Cube))) (t4_lo : Nat) (t4_n : Nat) (t3 : Int) (t5 : Int) (m0x : (Nat × (Nat → S_api_Cube))) : Option (Lo (Int × Int × (Nat × (Nat → S_api_Cube))) E_slices_Compact_api_Cube_L2 (Lo Int E_slices_Compact_api_Cube_L1 (Nat × (Nat → S_api_Cube)))) :=
  ifs (decide (t5 < ((t4_n : Nat) : Int))) (
    chk (0 ≤ t5 ∧ t5 < ((t4_n : Nat) : Int)) <|
    chk ((t4_lo + t5.toNat) < m0x.1) <|
    chk (0 ≤ (IntKind.wrap .i64 (t5 - (1 : Int))) ∧ (IntKind.wrap .i64 (t5 - (1 : Int))) < ((t4_n : Nat) : Int)) <|
    chk ((t4_lo + (IntKind.wrap .i64 (t5 - (1 : Int))).toNat) < m0x.1) <|
    ifs (!(((List.range 12).all fun i => (m0x.2 (t4_lo + t5.toNat)).f0 i == (m0x.2 (t4_lo + (IntKind.wrap .i64 (t5 - (1 : Int))).toNat)).f0 i) && (((List.range 12).all fun i => (m0x.2 (t4_lo + t5.toNat)).f1 i == (m0x.2 (t4_lo + (IntKind.wrap .i64 (t5 - (1 : Int))).toNat)).f1 i) && true))) (
      chk (0 ≤ t5 ∧ t5 < ((t4_n : Nat) : Int)) <|
      chk ((t4_lo + t5.toNat) < m0x.1) <|
      chk (0 ≤ t3 ∧ t3 < ((m0x.1 : Nat) : Int)) <|
      chk (t3.toNat < m0x.1) <|
      some (.next ((IntKind.wrap .i64 (t3 + (1 : Int))), (IntKind.wrap .i64 (t5 + (1 : Int))), (m0x.1, (fun j => if j = t3.toNat then (m0x.2 (t4_lo + t5.toNat)) else m0x.2 j))))) (
      some (.next (t3, (IntKind.wrap .i64 (t5 + (1 : Int))), m0x)))) (
    some (.exit (t3, m0x)))

theorem run_slices_Compact_api_Cube_L2 (fu : Nat) (m0 : (Nat × (Nat → S_api_Cube))) (t4_lo : Nat) (t4_n : Nat) (t3 : Int) (t5 : Int) (m0x : (Nat × (Nat → S_api_Cube))) {d : D} {hp : Heap} {o : (Lo (Int × Int × (Nat × (Nat → S_api_Cube))) E_slices_Compact_api_Cube_L2 (Lo Int E_slices_Compact_api_Cube_L1 (Nat × (Nat → S_api_Cube))))} (h : F_slices_Compact_api_Cube_L2 fu m0 t4_lo t4_n t3 t5 m0x = some o) (hk : (Lo.post (N_slices_Compact_api_Cube_L2 fu m0 t4_lo t4_n d hp) (X_slices_Compact_api_Cube_L2 fu m0 t4_lo t4_n d hp)) o) : Runs Try.prog Try.f38 1 T_slices_Compact_api_Cube_L2 [(0, (D.own 0)), (3, (D.int .i64 t3)), (4, (D.view 0 t4_lo t4_n 24)), (5, (D.int .i64 t5))] [some (.seq 44 m0x.1 24 (D.arr m0x.1 24 fun i => (S_api_Cube.d (m0x.2 i))))] d hp := by
  unfold F_slices_Compact_api_Cube_L2 at h
  refine runs_regions 1 [([], [0, 3, 4, 5, 32])] (z := ([], [(0, (D.own 0)), (3, (D.int .i64 t3)), (4, (D.view 0 t4_lo t4_n 24)), (5, (D.int .i64 t5)), (32, (D.bool (decide (t5 < ((t4_n : Nat) : Int)))))], [some (.seq 44 m0x.1 24 (D.arr m0x.1 24 fun i => (S_api_Cube.d (m0x.2 i))))])) rfl (by kernel_rfl) trivial ?_
  refine runs_if (b := (decide (t5 < ((t4_n : Nat) : Int)))) (by kernel_rfl) (fun hb => ?_) (fun hb => ?_)
  · replace h := ifs_true h hb
    obtain ⟨p5, h⟩ := chk_some h
    obtain ⟨p6, h⟩ := chk_some h
    obtain ⟨p7, h⟩ := chk_some h
    obtain ⟨p8, h⟩ := chk_some h
    refine runs_regions 1 [([], [0, 3, 4, 5, 44])] (z := ([(0 ≤ t5 ∧ t5 < ((t4_n : Nat) : Int)), ((t4_lo + t5.toNat) < m0x.1), (0 ≤ (IntKind.wrap .i64 (t5 - (1 : Int))) ∧ (IntKind.wrap .i64 (t5 - (1 : Int))) < ((t4_n : Nat) : Int)), ((t4_lo + (IntKind.wrap .i64 (t5 - (1 : Int))).toNat) < m0x.1)], [(0, (D.own 0)), (3, (D.int .i64 t3)), (4, (D.view 0 t4_lo t4_n 24)), (5, (D.int .i64 t5)), (44, (D.bool (!(((List.range 12).all fun i => (m0x.2 (t4_lo + t5.toNat)).f0 i == (m0x.2 (t4_lo + (IntKind.wrap .i64 (t5 - (1 : Int))).toNat)).f0 i) && (((List.range 12).all fun i => (m0x.2 (t4_lo + t5.toNat)).f1 i == (m0x.2 (t4_lo + (IntKind.wrap .i64 (t5 - (1 : Int))).toNat)).f1 i) && true)))))], [some (.seq 44 m0x.1 24 (D.arr m0x.1 24 fun i => (S_api_Cube.d (m0x.2 i))))])) rfl (by kernel_rfl) (And.intro p5 (And.intro p6 (And.intro p7 (And.intro p8 trivial)))) ?_
    refine runs_if (b := (!(((List.range 12).all fun i => (m0x.2 (t4_lo + t5.toNat)).f0 i == (m0x.2 (t4_lo + (IntKind.wrap .i64 (t5 - (1 : Int))).toNat)).f0 i) && (((List.range 12).all fun i => (m0x.2 (t4_lo + t5.toNat)).f1 i == (m0x.2 (t4_lo + (IntKind.wrap .i64 (t5 - (1 : Int))).toNat)).f1 i) && true)))) (by kernel_rfl) (fun hb => ?_) (fun hb => ?_)
    · replace h := ifs_true h hb
      obtain ⟨p9, h⟩ := chk_some h
      obtain ⟨p10, h⟩ := chk_some h
      obtain ⟨p11, h⟩ := chk_some h
      obtain ⟨p12, h⟩ := chk_some h
      refine runs_regions 1 [([], [0, 3, 4, 5])] (z := ([(0 ≤ t5 ∧ t5 < ((t4_n : Nat) : Int)), ((t4_lo + t5.toNat) < m0x.1), (0 ≤ t3 ∧ t3 < ((m0x.1 : Nat) : Int)), (t3.toNat < m0x.1)], [(0, (D.own 0)), (3, (D.int .i64 t3)), (4, (D.view 0 t4_lo t4_n 24)), (5, (D.int .i64 t5))], [some (.seq 44 m0x.1 24 (D.arr m0x.1 24 fun j => (if j = t3.toNat then (S_api_Cube.d (m0x.2 (t4_lo + t5.toNat))) else (S_api_Cube.d (m0x.2 j)))))])) rfl (by kernel_rfl) (And.intro p9 (And.intro p10 (And.intro p11 (And.intro p12 trivial)))) ?_
      refine cast_fun (F := fun q => Runs Try.prog Try.f38 1 _ [(0, (D.own 0)), (3, (D.int .i64 t3)), (4, (D.view 0 t4_lo t4_n 24)), (5, (D.int .i64 t5))] [some (.seq 44 m0x.1 24 (D.arr m0x.1 24 q))] d hp) (funext fun j => (show (if j = t3.toNat then (S_api_Cube.d (m0x.2 (t4_lo + t5.toNat))) else (S_api_Cube.d (m0x.2 j))) = (fun x : S_api_Cube => (S_api_Cube.d x)) ((fun j => if j = t3.toNat then (m0x.2 (t4_lo + t5.toNat)) else m0x.2 j) j) from (d_ite (f := fun x : S_api_Cube => (S_api_Cube.d x)) rfl rfl))) ?_
      refine runs_regions 2 [([], [0, 3, 4, 5]), ([], [0, 3, 4, 5])] (z := ([], [(0, (D.own 0)), (3, (D.int .i64 (IntKind.wrap .i64 (t3 + (1 : Int))))), (4, (D.view 0 t4_lo t4_n 24)), (5, (D.int .i64 (IntKind.wrap .i64 (t5 + (1 : Int)))))], [some (.seq 44 m0x.1 24 (D.arr m0x.1 24 fun i => (S_api_Cube.d ((fun j => if j = t3.toNat then (m0x.2 (t4_lo + t5.toNat)) else m0x.2 j) i))))])) rfl (by kernel_rfl) trivial ?_
      rw [← Option.some.inj h] at hk
      refine runs_to (ts := [0, 3, 4, 5]) (T' := T_slices_Compact_api_Cube_L2) (env' := [(0, (D.own 0)), (3, (D.int .i64 (IntKind.wrap .i64 (t3 + (1 : Int))))), (4, (D.view 0 t4_lo t4_n 24)), (5, (D.int .i64 (IntKind.wrap .i64 (t5 + (1 : Int)))))]) (h2 := [some (.seq 44 m0x.1 24 (D.arr m0x.1 24 fun i => (S_api_Cube.d ((fun j => if j = t3.toNat then (m0x.2 (t4_lo + t5.toNat)) else m0x.2 j) i))))]) (by kernel_rfl) (by kernel_rfl) (And.intro (.inr rfl) trivial) (Nat.le_of_ble_eq_true rfl) (And.intro (fun _ _ => (S_api_Cube.inn _)) trivial) (And.intro (bel_of rfl) (And.intro trivial (And.intro (bel_of rfl) (And.intro trivial trivial)))) ?_
      exact hk
    · replace h := ifs_false h hb
      refine runs_regions 1 [([], [0, 3, 4, 5])] (z := ([], [(0, (D.own 0)), (3, (D.int .i64 t3)), (4, (D.view 0 t4_lo t4_n 24)), (5, (D.int .i64 (IntKind.wrap .i64 (t5 + (1 : Int)))))], [some (.seq 44 m0x.1 24 (D.arr m0x.1 24 fun i => (S_api_Cube.d (m0x.2 i))))])) rfl (by kernel_rfl) trivial ?_
      rw [← Option.some.inj h] at hk
      refine runs_to (ts := [0, 3, 4, 5]) (T' := T_slices_Compact_api_Cube_L2) (env' := [(0, (D.own 0)), (3, (D.int .i64 t3)), (4, (D.view 0 t4_lo t4_n 24)), (5, (D.int .i64 (IntKind.wrap .i64 (t5 + (1 : Int)))))]) (h2 := [some (.seq 44 m0x.1 24 (D.arr m0x.1 24 fun i => (S_api_Cube.d (m0x.2 i))))]) (by kernel_rfl) (by kernel_rfl) (And.intro (.inr rfl) trivial) (Nat.le_of_ble_eq_true rfl) (And.intro (fun _ _ => (S_api_Cube.inn _)) trivial) (And.intro (bel_of rfl) (And.intro trivial (And.intro (bel_of rfl) (And.intro trivial trivial)))) ?_
      exact hk
  · replace h := ifs_false h hb
    rw [← Option.some.inj h] at hk
    refine runs_to (ts := [0, 3]) (T' := X_slices_Compact_api_Cube_L2T) (env' := [(0, (D.own 0)), (3, (D.int .i64 t3))]) (h2 := [some (.seq 44 m0x.1 24 (D.arr m0x.1 24 fun i => (S_api_Cube.d (m0x.2 i))))]) (by kernel_rfl) (by kernel_rfl) (And.intro (.inr rfl) trivial) (Nat.le_of_ble_eq_true rfl) (And.intro (fun _ _ => (S_api_Cube.inn _)) trivial) (And.intro (bel_of rfl) (And.intro trivial trivial)) ?_
    exact hk

theorem iter_slices_Compact_api_Cube_L2 (fu : Nat) (m0 : (Nat × (Nat → S_api_Cube))) (t4_lo : Nat) (t4_n : Nat) {d : D} {hp : Heap} (k : Nat) (s : (Int × Int × (Nat × (Nat → S_api_Cube)))) {o : E_slices_Compact_api_Cube_L2 ⊕ (Lo Int E_slices_Compact_api_Cube_L1 (Nat × (Nat → S_api_Cube)))} (h : iter (fun s => F_slices_Compact_api_Cube_L2 fu m0 t4_lo t4_n s.1 s.2.1 s.2.2) k s = some o) (hx : X_slices_Compact_api_Cube_L2 fu m0 t4_lo t4_n d hp o) : N_slices_Compact_api_Cube_L2 fu m0 t4_lo t4_n d hp s :=
  iter_post (K := N_slices_Compact_api_Cube_L2 fu m0 t4_lo t4_n d hp) (X := X_slices_Compact_api_Cube_L2 fu m0 t4_lo t4_n d hp) (fun s _ h hk => run_slices_Compact_api_Cube_L2 fu m0 t4_lo t4_n s.1 s.2.1 s.2.2 h hk) k s o h hx

def F_slices_Compact_api_Cube_L1 (fu : Nat) (m0 : (Nat × (Nat → S_api_Cube))) (t3 : Int) : Option (Lo Int E_slices_Compact_api_Cube_L1 (Nat × (Nat → S_api_Cube))) :=
  ifs (decide (t3 < ((m0.1 : Nat) : Int))) (
    chk (0 ≤ t3 ∧ t3 < ((m0.1 : Nat) : Int)) <|
    chk (t3.toNat < m0.1) <|
    chk (0 ≤ (IntKind.wrap .i64 (t3 - (1 : Int))) ∧ (IntKind.wrap .i64 (t3 - (1 : Int))) < ((m0.1 : Nat) : Int)) <|
    chk ((IntKind.wrap .i64 (t3 - (1 : Int))).toNat < m0.1) <|
    ifs (((List.range 12).all fun i => (m0.2 t3.toNat).f0 i == (m0.2 (IntKind.wrap .i64 (t3 - (1 : Int))).toNat).f0 i) && (((List.range 12).all fun i => (m0.2 t3.toNat).f1 i == (m0.2 (IntKind.wrap .i64 (t3 - (1 : Int))).toNat).f1 i) && true)) (
      chk (0 ≤ t3 ∧ t3 ≤ ((m0.1 : Nat) : Int) ∧ ((m0.1 : Nat) : Int) ≤ ((m0.1 : Nat) : Int)) <|
      after (iter (fun s => F_slices_Compact_api_Cube_L2 fu m0 (t3).toNat ((((m0.1 : Nat) : Int)).toNat - (t3).toNat) s.1 s.2.1 s.2.2) fu (t3, (1 : Int), m0)) fun e14 =>
      chk (0 ≤ e14.1 ∧ e14.1 ≤ ((e14.2.1 : Nat) : Int) ∧ ((e14.2.1 : Nat) : Int) ≤ ((e14.2.1 : Nat) : Int)) <|
      chk ((e14.1).toNat + ((((e14.2.1 : Nat) : Int)).toNat - (e14.1).toNat) ≤ e14.2.1) <|
      chk (0 ≤ (0 : Int) ∧ (0 : Int) ≤ e14.1 ∧ e14.1 ≤ ((e14.2.1 : Nat) : Int)) <|
      chk (((e14.1).toNat - ((0 : Int)).toNat) ≤ e14.2.1) <|
      some (.ret (((e14.1).toNat - ((0 : Int)).toNat), (fun i => if (e14.1).toNat ≤ i ∧ i < (e14.1).toNat + ((((e14.2.1 : Nat) : Int)).toNat - (e14.1).toNat) then (S_api_Cube.mk (fun _ => 0) (fun _ => 0)) else e14.2.2 i)))) (
      some (.next (IntKind.wrap .i64 (t3 + (1 : Int)))))) (
    some (.exit ()))

theorem run_slices_Compact_api_Cube_L1 (fu : Nat) (m0 : (Nat × (Nat → S_api_Cube))) (t3 : Int) {d : D} {hp : Heap} {o : (Lo Int E_slices_Compact_api_Cube_L1 (Nat × (Nat → S_api_Cube)))} (h : F_slices_Compact_api_Cube_L1 fu m0 t3 = some o) (hk : (Lo.post (N_slices_Compact_api_Cube_L1 fu m0 d hp) (X_slices_Compact_api_Cube_L1 fu m0 d hp)) o) : Runs Try.prog Try.f38 1 T_slices_Compact_api_Cube_L1 [(0, (D.own 0)), (3, (D.int .i64 t3))] [some (.seq 44 m0.1 24 (D.arr m0.1 24 fun i => (S_api_Cube.d (m0.2 i))))] d hp := by
  unfold F_slices_Compact_api_Cube_L1 at h
  refine runs_regions 1 [([], [0, 3, 13])] (z := ([], [(0, (D.own 0)), (3, (D.int .i64 t3)), (13, (D.bool (decide (t3 < ((m0.1 : Nat) : Int)))))], [some (.seq 44 m0.1 24 (D.arr m0.1 24 fun i => (S_api_Cube.d (m0.2 i))))])) rfl (by kernel_rfl) trivial ?_
  refine runs_if (b := (decide (t3 < ((m0.1 : Nat) : Int)))) (by kernel_rfl) (fun hb => ?_) (fun hb => ?_)
  · replace h := ifs_true h hb
    obtain ⟨p0, h⟩ := chk_some h
    obtain ⟨p1, h⟩ := chk_some h
    obtain ⟨p2, h⟩ := chk_some h
    obtain ⟨p3, h⟩ := chk_some h
    refine runs_regions 1 [([], [0, 3, 25])] (z := ([(0 ≤ t3 ∧ t3 < ((m0.1 : Nat) : Int)), (t3.toNat < m0.1), (0 ≤ (IntKind.wrap .i64 (t3 - (1 : Int))) ∧ (IntKind.wrap .i64 (t3 - (1 : Int))) < ((m0.1 : Nat) : Int)), ((IntKind.wrap .i64 (t3 - (1 : Int))).toNat < m0.1)], [(0, (D.own 0)), (3, (D.int .i64 t3)), (25, (D.bool (((List.range 12).all fun i => (m0.2 t3.toNat).f0 i == (m0.2 (IntKind.wrap .i64 (t3 - (1 : Int))).toNat).f0 i) && (((List.range 12).all fun i => (m0.2 t3.toNat).f1 i == (m0.2 (IntKind.wrap .i64 (t3 - (1 : Int))).toNat).f1 i) && true))))], [some (.seq 44 m0.1 24 (D.arr m0.1 24 fun i => (S_api_Cube.d (m0.2 i))))])) rfl (by kernel_rfl) (And.intro p0 (And.intro p1 (And.intro p2 (And.intro p3 trivial)))) ?_
    refine runs_if (b := (((List.range 12).all fun i => (m0.2 t3.toNat).f0 i == (m0.2 (IntKind.wrap .i64 (t3 - (1 : Int))).toNat).f0 i) && (((List.range 12).all fun i => (m0.2 t3.toNat).f1 i == (m0.2 (IntKind.wrap .i64 (t3 - (1 : Int))).toNat).f1 i) && true))) (by kernel_rfl) (fun hb => ?_) (fun hb => ?_)
    · replace h := ifs_true h hb
      obtain ⟨p4, h⟩ := chk_some h
      refine runs_regions 2 [([], [0, 3, 4]), ([], [0, 3, 4, 5])] (z := ([(0 ≤ t3 ∧ t3 ≤ ((m0.1 : Nat) : Int) ∧ ((m0.1 : Nat) : Int) ≤ ((m0.1 : Nat) : Int))], [(0, (D.own 0)), (3, (D.int .i64 t3)), (4, (D.view 0 (t3).toNat ((((m0.1 : Nat) : Int)).toNat - (t3).toNat) 24)), (5, (D.int .i64 (1 : Int)))], [some (.seq 44 m0.1 24 (D.arr m0.1 24 fun i => (S_api_Cube.d (m0.2 i))))])) rfl (by kernel_rfl) (And.intro p4 trivial) ?_
      refine runs_to (ts := [0, 3, 4, 5]) (T' := T_slices_Compact_api_Cube_L2) (env' := [(0, (D.own 0)), (3, (D.int .i64 t3)), (4, (D.view 0 (t3).toNat ((((m0.1 : Nat) : Int)).toNat - (t3).toNat) 24)), (5, (D.int .i64 (1 : Int)))]) (h2 := [some (.seq 44 m0.1 24 (D.arr m0.1 24 fun i => (S_api_Cube.d (m0.2 i))))]) (by kernel_rfl) (by kernel_rfl) (And.intro (.inr rfl) trivial) (Nat.le_of_ble_eq_true rfl) (And.intro (fun _ _ => (S_api_Cube.inn _)) trivial) (And.intro (bel_of rfl) (And.intro trivial (And.intro (bel_of rfl) (And.intro trivial trivial)))) ?_
      rcases after_some h with ⟨e14, hi, h⟩ | hi
      · refine iter_slices_Compact_api_Cube_L2 fu m0 (t3).toNat ((((m0.1 : Nat) : Int)).toNat - (t3).toNat) fu (t3, (1 : Int), m0) hi ?_
        show Runs Try.prog Try.f38 1 X_slices_Compact_api_Cube_L2T [(0, (D.own 0)), (3, (D.int .i64 e14.1))] [some (.seq 44 e14.2.1 24 (D.arr e14.2.1 24 fun i => (S_api_Cube.d (e14.2.2 i))))] d hp
        obtain ⟨p14, h⟩ := chk_some h
        obtain ⟨p15, h⟩ := chk_some h
        obtain ⟨p16, h⟩ := chk_some h
        refine runs_regions 2 [([(.d (D.arr e14.2.1 24 fun i1 => (S_api_Cube.d ((fun i => if (e14.1).toNat ≤ i ∧ i < (e14.1).toNat + ((((e14.2.1 : Nat) : Int)).toNat - (e14.1).toNat) then (S_api_Cube.mk (fun _ => 0) (fun _ => 0)) else e14.2.2 i) i1))))], [0, 3]), ([], [2])] (z := ([(0 ≤ e14.1 ∧ e14.1 ≤ ((e14.2.1 : Nat) : Int) ∧ ((e14.2.1 : Nat) : Int) ≤ ((e14.2.1 : Nat) : Int)), ((e14.1).toNat + ((((e14.2.1 : Nat) : Int)).toNat - (e14.1).toNat) ≤ e14.2.1), ClearOk e14.2.1 (e14.1).toNat ((((e14.2.1 : Nat) : Int)).toNat - (e14.1).toNat) 24 (D.cons (D.ints .u64 12 (fun _ => 0)) (D.cons (D.ints .u64 12 (fun _ => 0)) D.nil)) (D.arr e14.2.1 24 fun i => (S_api_Cube.d (e14.2.2 i))) (D.arr e14.2.1 24 fun i1 => (S_api_Cube.d ((fun i => if (e14.1).toNat ≤ i ∧ i < (e14.1).toNat + ((((e14.2.1 : Nat) : Int)).toNat - (e14.1).toNat) then (S_api_Cube.mk (fun _ => 0) (fun _ => 0)) else e14.2.2 i) i1))), (0 ≤ (0 : Int) ∧ (0 : Int) ≤ e14.1 ∧ e14.1 ≤ ((e14.2.1 : Nat) : Int))], [(2, (D.view 0 ((0 : Int)).toNat ((e14.1).toNat - ((0 : Int)).toNat) 24))], [some (.seq 44 e14.2.1 24 (D.arr e14.2.1 24 fun i1 => (S_api_Cube.d ((fun i => if (e14.1).toNat ≤ i ∧ i < (e14.1).toNat + ((((e14.2.1 : Nat) : Int)).toNat - (e14.1).toNat) then (S_api_Cube.mk (fun _ => 0) (fun _ => 0)) else e14.2.2 i) i1))))])) rfl (by kernel_rfl) (And.intro p14 (And.intro p15 (And.intro (clearOk_arr rfl fun i => (d_ite (f := fun x : S_api_Cube => (S_api_Cube.d x)) rfl rfl).symm) (And.intro p16 trivial)))) ?_
        obtain ⟨p17, h⟩ := chk_some h
        rw [← Option.some.inj h] at hk
        obtain ⟨rfl, rfl⟩ : d = (D.own 1) ∧ hp = [none, some (.seq 44 ((e14.1).toNat - ((0 : Int)).toNat) 24 (D.arr ((e14.1).toNat - ((0 : Int)).toNat) 24 fun i1 => (S_api_Cube.d ((fun i => if (e14.1).toNat ≤ i ∧ i < (e14.1).toNat + ((((e14.2.1 : Nat) : Int)).toNat - (e14.1).toNat) then (S_api_Cube.mk (fun _ => 0) (fun _ => 0)) else e14.2.2 i) i1))))] := hk
        refine runs_keep (ts := [2]) (env' := [(2, (D.view 0 ((0 : Int)).toNat ((e14.1).toNat - ((0 : Int)).toNat) 24))]) (h2 := [some (.seq 44 e14.2.1 24 (D.arr e14.2.1 24 fun i1 => (S_api_Cube.d ((fun i => if (e14.1).toNat ≤ i ∧ i < (e14.1).toNat + ((((e14.2.1 : Nat) : Int)).toNat - (e14.1).toNat) then (S_api_Cube.mk (fun _ => 0) (fun _ => 0)) else e14.2.2 i) i1))))]) (by kernel_rfl) (And.intro (.inr rfl) trivial) (Nat.le_of_ble_eq_true rfl) (And.intro (fun _ _ => (S_api_Cube.inn _)) trivial) (And.intro (bel_of rfl) trivial) ?_
        refine runs_trunc 2 0 (el := 44) (n := e14.2.1) (m := ((e14.1).toNat - ((0 : Int)).toNat)) (sz := 24) (d := (D.arr e14.2.1 24 fun i1 => (S_api_Cube.d ((fun i => if (e14.1).toNat ≤ i ∧ i < (e14.1).toNat + ((((e14.2.1 : Nat) : Int)).toNat - (e14.1).toNat) then (S_api_Cube.mk (fun _ => 0) (fun _ => 0)) else e14.2.2 i) i1)))) (d' := (D.arr ((e14.1).toNat - ((0 : Int)).toNat) 24 fun i1 => (S_api_Cube.d ((fun i => if (e14.1).toNat ≤ i ∧ i < (e14.1).toNat + ((((e14.2.1 : Nat) : Int)).toNat - (e14.1).toNat) then (S_api_Cube.mk (fun _ => 0) (fun _ => 0)) else e14.2.2 i) i1)))) (by kernel_rfl) rfl p17 (truncOk_arr p17) ?_
        exact runs_ret (h2 := [none, some (.seq 44 ((e14.1).toNat - ((0 : Int)).toNat) 24 (D.arr ((e14.1).toNat - ((0 : Int)).toNat) 24 fun i1 => (S_api_Cube.d ((fun i => if (e14.1).toNat ≤ i ∧ i < (e14.1).toNat + ((((e14.2.1 : Nat) : Int)).toNat - (e14.1).toNat) then (S_api_Cube.mk (fun _ => 0) (fun _ => 0)) else e14.2.2 i) i1))))]) (by kernel_rfl) (And.intro (.inl rfl) (And.intro (.inr rfl) trivial)) (Nat.le_of_ble_eq_true rfl) (And.intro (fun _ _ => (S_api_Cube.inn _)) trivial) (bel_of rfl)
      · exact iter_slices_Compact_api_Cube_L2 fu m0 (t3).toNat ((((m0.1 : Nat) : Int)).toNat - (t3).toNat) fu (t3, (1 : Int), m0) hi hk
    · replace h := ifs_false h hb
      refine runs_regions 1 [([], [0, 3])] (z := ([], [(0, (D.own 0)), (3, (D.int .i64 (IntKind.wrap .i64 (t3 + (1 : Int)))))], [some (.seq 44 m0.1 24 (D.arr m0.1 24 fun i => (S_api_Cube.d (m0.2 i))))])) rfl (by kernel_rfl) trivial ?_
      rw [← Option.some.inj h] at hk
      refine runs_to (ts := [0, 3]) (T' := T_slices_Compact_api_Cube_L1) (env' := [(0, (D.own 0)), (3, (D.int .i64 (IntKind.wrap .i64 (t3 + (1 : Int)))))]) (h2 := [some (.seq 44 m0.1 24 (D.arr m0.1 24 fun i => (S_api_Cube.d (m0.2 i))))]) (by kernel_rfl) (by kernel_rfl) (And.intro (.inr rfl) trivial) (Nat.le_of_ble_eq_true rfl) (And.intro (fun _ _ => (S_api_Cube.inn _)) trivial) (And.intro (bel_of rfl) (And.intro trivial trivial)) ?_
      exact hk
  · replace h := ifs_false h hb
    rw [← Option.some.inj h] at hk
    refine runs_to (ts := [0]) (T' := X_slices_Compact_api_Cube_L1T) (env' := [(0, (D.own 0))]) (h2 := [some (.seq 44 m0.1 24 (D.arr m0.1 24 fun i => (S_api_Cube.d (m0.2 i))))]) (by kernel_rfl) (by kernel_rfl) (And.intro (.inr rfl) trivial) (Nat.le_of_ble_eq_true rfl) (And.intro (fun _ _ => (S_api_Cube.inn _)) trivial) (And.intro (bel_of rfl) trivial) ?_
    exact hk

theorem iter_slices_Compact_api_Cube_L1 (fu : Nat) (m0 : (Nat × (Nat → S_api_Cube))) {d : D} {hp : Heap} (k : Nat) (s : Int) {o : E_slices_Compact_api_Cube_L1 ⊕ (Nat × (Nat → S_api_Cube))} (h : iter (fun s => F_slices_Compact_api_Cube_L1 fu m0 s) k s = some o) (hx : X_slices_Compact_api_Cube_L1 fu m0 d hp o) : N_slices_Compact_api_Cube_L1 fu m0 d hp s :=
  iter_post (K := N_slices_Compact_api_Cube_L1 fu m0 d hp) (X := X_slices_Compact_api_Cube_L1 fu m0 d hp) (fun s _ h hk => run_slices_Compact_api_Cube_L1 fu m0 s h hk) k s o h hx

/-- slices.Compact[[]podesta/api.Cube,podesta/api.Cube] -/
def F_slices_Compact_api_Cube (fu : Nat) (t0 : (Nat × (Nat → S_api_Cube))) : Option (Nat × (Nat → S_api_Cube)) :=
  ifs (decide (((t0.1 : Nat) : Int) < (2 : Int))) (
    some t0) (
    after (iter (fun s => F_slices_Compact_api_Cube_L1 fu t0 s) fu (1 : Int)) fun _ =>
    some t0)

theorem run_slices_Compact_api_Cube (fu : Nat) (t0 : (Nat × (Nat → S_api_Cube))) {d : D} {hp : Heap} {r : (Nat × (Nat → S_api_Cube))} (h : F_slices_Compact_api_Cube fu t0 = some r) (hk : (K_slices_Compact_api_Cube d hp) r) : Runs Try.prog Try.f38 1 T_slices_Compact_api_Cube [(0, (D.own 0))] [some (.seq 44 t0.1 24 (D.arr t0.1 24 fun i => (S_api_Cube.d (t0.2 i))))] d hp := by
  unfold F_slices_Compact_api_Cube at h
  refine runs_regions 2 [([], [0]), ([], [0, 8])] (z := ([], [(0, (D.own 0)), (8, (D.bool (decide (((t0.1 : Nat) : Int) < (2 : Int)))))], [some (.seq 44 t0.1 24 (D.arr t0.1 24 fun i => (S_api_Cube.d (t0.2 i))))])) rfl (by kernel_rfl) trivial ?_
  refine runs_if (b := (decide (((t0.1 : Nat) : Int) < (2 : Int)))) (by kernel_rfl) (fun hb => ?_) (fun hb => ?_)
  · replace h := ifs_true h hb
    refine runs_regions 1 [([], [2])] (z := ([], [(2, (D.own 0))], [some (.seq 44 t0.1 24 (D.arr t0.1 24 fun i => (S_api_Cube.d (t0.2 i))))])) rfl (by kernel_rfl) trivial ?_
    rw [← Option.some.inj h] at hk
    obtain ⟨rfl, rfl⟩ : d = (D.own 1) ∧ hp = [none, some (.seq 44 t0.1 24 (D.arr t0.1 24 fun i => (S_api_Cube.d (t0.2 i))))] := hk
    refine runs_keep (ts := [2]) (env' := [(2, (D.own 0))]) (h2 := [some (.seq 44 t0.1 24 (D.arr t0.1 24 fun i => (S_api_Cube.d (t0.2 i))))]) (by kernel_rfl) (And.intro (.inr rfl) trivial) (Nat.le_of_ble_eq_true rfl) (And.intro (fun _ _ => (S_api_Cube.inn _)) trivial) (And.intro (bel_of rfl) trivial) ?_
    refine runs_pad ?_
    refine runs_rename 1 0 (row := (.seq 44 t0.1 24 (D.arr t0.1 24 fun i => (S_api_Cube.d (t0.2 i))))) (by decide) (by decide) rfl rfl (And.intro (fun _ _ => (S_api_Cube.inn _)) trivial) (And.intro (rn_own rfl) trivial) ?_
    exact runs_ret (h2 := [none, some (.seq 44 t0.1 24 (D.arr t0.1 24 fun i => (S_api_Cube.d (t0.2 i))))]) (by kernel_rfl) (And.intro (.inl rfl) (And.intro (.inr rfl) trivial)) (Nat.le_of_ble_eq_true rfl) (And.intro (fun _ _ => (S_api_Cube.inn _)) trivial) (bel_of rfl)
  · replace h := ifs_false h hb
    refine runs_regions 1 [([], [0, 3])] (z := ([], [(0, (D.own 0)), (3, (D.int .i64 (1 : Int)))], [some (.seq 44 t0.1 24 (D.arr t0.1 24 fun i => (S_api_Cube.d (t0.2 i))))])) rfl (by kernel_rfl) trivial ?_
    refine runs_to (ts := [0, 3]) (T' := T_slices_Compact_api_Cube_L1) (env' := [(0, (D.own 0)), (3, (D.int .i64 (1 : Int)))]) (h2 := [some (.seq 44 t0.1 24 (D.arr t0.1 24 fun i => (S_api_Cube.d (t0.2 i))))]) (by kernel_rfl) (by kernel_rfl) (And.intro (.inr rfl) trivial) (Nat.le_of_ble_eq_true rfl) (And.intro (fun _ _ => (S_api_Cube.inn _)) trivial) (And.intro (bel_of rfl) (And.intro trivial trivial)) ?_
    rcases after_some h with ⟨e19, hi, h⟩ | hi
    · refine iter_slices_Compact_api_Cube_L1 fu t0 fu (1 : Int) hi ?_
      show Runs Try.prog Try.f38 1 X_slices_Compact_api_Cube_L1T [(0, (D.own 0))] [some (.seq 44 t0.1 24 (D.arr t0.1 24 fun i => (S_api_Cube.d (t0.2 i))))] d hp
      refine runs_regions 1 [([], [2])] (z := ([], [(2, (D.own 0))], [some (.seq 44 t0.1 24 (D.arr t0.1 24 fun i => (S_api_Cube.d (t0.2 i))))])) rfl (by kernel_rfl) trivial ?_
      rw [← Option.some.inj h] at hk
      obtain ⟨rfl, rfl⟩ : d = (D.own 1) ∧ hp = [none, some (.seq 44 t0.1 24 (D.arr t0.1 24 fun i => (S_api_Cube.d (t0.2 i))))] := hk
      refine runs_keep (ts := [2]) (env' := [(2, (D.own 0))]) (h2 := [some (.seq 44 t0.1 24 (D.arr t0.1 24 fun i => (S_api_Cube.d (t0.2 i))))]) (by kernel_rfl) (And.intro (.inr rfl) trivial) (Nat.le_of_ble_eq_true rfl) (And.intro (fun _ _ => (S_api_Cube.inn _)) trivial) (And.intro (bel_of rfl) trivial) ?_
      refine runs_pad ?_
      refine runs_rename 1 0 (row := (.seq 44 t0.1 24 (D.arr t0.1 24 fun i => (S_api_Cube.d (t0.2 i))))) (by decide) (by decide) rfl rfl (And.intro (fun _ _ => (S_api_Cube.inn _)) trivial) (And.intro (rn_own rfl) trivial) ?_
      exact runs_ret (h2 := [none, some (.seq 44 t0.1 24 (D.arr t0.1 24 fun i => (S_api_Cube.d (t0.2 i))))]) (by kernel_rfl) (And.intro (.inl rfl) (And.intro (.inr rfl) trivial)) (Nat.le_of_ble_eq_true rfl) (And.intro (fun _ _ => (S_api_Cube.inn _)) trivial) (bel_of rfl)
    · exact iter_slices_Compact_api_Cube_L1 fu t0 fu (1 : Int) hi hk

theorem fc_slices_Compact_api_Cube (fu : Nat) (t0 : (Nat × (Nat → S_api_Cube))) {r : (Nat × (Nat → S_api_Cube))} (h : F_slices_Compact_api_Cube fu t0 = some r) : FC Try.prog 38 [(D.own 0)] [some (.seq 44 t0.1 24 (D.arr t0.1 24 fun i => (S_api_Cube.d (t0.2 i))))] (D.own 1) [none, some (.seq 44 r.1 24 (D.arr r.1 24 fun i => (S_api_Cube.d (r.2 i))))] := by
  refine fc_of_runs (fn := Try.f38) (c := Try.f38.body.getD .skip) (by kernel_rfl) (by kernel_rfl) ?_
  refine runs_to (ts := [0]) (T' := T_slices_Compact_api_Cube) (env' := [(0, (D.own 0))]) (h2 := [some (.seq 44 t0.1 24 (D.arr t0.1 24 fun i => (S_api_Cube.d (t0.2 i))))]) (by kernel_rfl) (by kernel_rfl) (And.intro (.inr rfl) trivial) (Nat.le_refl _) (And.intro (fun _ _ => (S_api_Cube.inn _)) trivial) (And.intro (bel_of rfl) trivial) ?_
  exact run_slices_Compact_api_Cube fu t0 h ⟨rfl, rfl⟩

def K_space_Lean_2 (d : D) (r : Bool) : Prop := d = (D.bool r)

noncomputable def T_space_Lean_2 : List Item := norm 200 [.code (Try.f39.body.getD .skip)]

/-- podesta/space.Lean 2 -/
def F_space_Lean_2 (fu : Nat) (t0 : S_api_Cube) (t1 : S_api_Cube) : Option Bool :=
  (callIf (!(((List.range 12).all fun i => t0.f0 i == t1.f0 i) && (((List.range 12).all fun i => t0.f1 i == t1.f1 i) && true))) (F_cube_Within fu t1 t0) false).bind fun r0 =>
  some (bif (!(((List.range 12).all fun i => t0.f0 i == t1.f0 i) && (((List.range 12).all fun i => t0.f1 i == t1.f1 i) && true))) then r0 else false)

theorem run_space_Lean_2 (fu : Nat) (t0 : S_api_Cube) (t1 : S_api_Cube) {d : D} {r : Bool} (h : F_space_Lean_2 fu t0 t1 = some r) (hk : (K_space_Lean_2 d) r) : Runs Try.prog Try.f39 0 T_space_Lean_2 [(0, (S_api_Cube.d t0)), (1, (D.lptr (S_api_Cube.d t1)))] [] d [] := by
  unfold F_space_Lean_2 at h
  obtain ⟨r0, cr0, h⟩ := Option.bind_eq_some_iff.1 h
  refine runs_regions 2 [([], [1, 2]), ([(.d (D.bool r0))], [3])] (z := ([((!(((List.range 12).all fun i => t0.f0 i == t1.f0 i) && (((List.range 12).all fun i => t0.f1 i == t1.f1 i) && true))) = true → All [((!(((List.range 12).all fun i => t0.f0 i == t1.f0 i) && (((List.range 12).all fun i => t0.f1 i == t1.f1 i) && true))) = true → (!(((List.range 12).all fun i => t0.f0 i == t1.f0 i) && (((List.range 12).all fun i => t0.f1 i == t1.f1 i) && true))) = true), ((!(((List.range 12).all fun i => t0.f0 i == t1.f0 i) && (((List.range 12).all fun i => t0.f1 i == t1.f1 i) && true))) = true → (!(((List.range 12).all fun i => t0.f0 i == t1.f0 i) && (((List.range 12).all fun i => t0.f1 i == t1.f1 i) && true))) = true), FC Try.prog 40 [(S_api_Cube.d t1), (S_api_Cube.d t0)] [] (D.bool r0) [], All (List.map NoRow [(S_api_Cube.d t1), (S_api_Cube.d t0)])]), ((true && (!(((List.range 12).all fun i => t0.f0 i == t1.f0 i) && (((List.range 12).all fun i => t0.f1 i == t1.f1 i) && true)))) = true → (!(((List.range 12).all fun i => t0.f0 i == t1.f0 i) && (((List.range 12).all fun i => t0.f1 i == t1.f1 i) && true))) = true)], [(3, (D.bool (bif (!(((List.range 12).all fun i => t0.f0 i == t1.f0 i) && (((List.range 12).all fun i => t0.f1 i == t1.f1 i) && true))) then r0 else false)))], [some (.box (S_api_Cube.d t0))])) rfl (by kernel_rfl) (And.intro (fun hg => (And.intro (by first | exact fun h => h | exact fun h => (Bool.and_eq_true_iff.1 h).1 | simp_all) (And.intro (by first | exact fun h => h | exact fun h => (Bool.and_eq_true_iff.1 h).1 | simp_all) (And.intro (fc_cube_Within fu t1 t0 (callIf_some cr0 hg)) (And.intro (And.intro (S_api_Cube.inn _) (And.intro (S_api_Cube.inn _) trivial)) trivial))))) (And.intro (by first | exact fun h => h | exact fun h => (Bool.and_eq_true_iff.1 h).1 | simp_all) trivial)) ?_
  rw [← Option.some.inj h] at hk
  obtain rfl : d = (D.bool (bif (!(((List.range 12).all fun i => t0.f0 i == t1.f0 i) && (((List.range 12).all fun i => t0.f1 i == t1.f1 i) && true))) then r0 else false)) := hk
  exact runs_ret (by kernel_rfl) trivial (Nat.le_refl 0) trivial trivial

theorem fc_space_Lean_2 (fu : Nat) (t0 : S_api_Cube) (t1 : S_api_Cube) {r : Bool} (h : F_space_Lean_2 fu t0 t1 = some r) : FC Try.prog 39 [(S_api_Cube.d t0), (D.lptr (S_api_Cube.d t1))] [] (D.bool r) [] := by
  refine fc_of_runs (fn := Try.f39) (c := Try.f39.body.getD .skip) (by kernel_rfl) (by kernel_rfl) ?_
  refine runs_to (ts := [0, 1]) (T' := T_space_Lean_2) (env' := [(0, (S_api_Cube.d t0)), (1, (D.lptr (S_api_Cube.d t1)))]) (h2 := []) (by kernel_rfl) (by kernel_rfl) trivial (Nat.le_refl _) trivial (And.intro (S_api_Cube.inn _) (And.intro (S_api_Cube.inn _) trivial)) ?_
  exact run_space_Lean_2 fu t0 t1 h rfl

def K_slices_IndexFunc_api_Cube_space_Lean_2 (d : D) (r : Int) : Prop := d = (D.int .i64 r)

noncomputable def T_slices_IndexFunc_api_Cube_space_Lean_2 : List Item := norm 200 [.code (Try.f55.body.getD .skip)]

noncomputable def T_slices_IndexFunc_api_Cube_space_Lean_2_L1 : List Item := norm 200 (nxt (nxt T_slices_IndexFunc_api_Cube_space_Lean_2))

noncomputable def X_slices_IndexFunc_api_Cube_space_Lean_2_L1T : List Item := norm 200 (cndF (nxt (nxt (nxt T_slices_IndexFunc_api_Cube_space_Lean_2))))

abbrev E_slices_IndexFunc_api_Cube_space_Lean_2_L1 := Unit

def N_slices_IndexFunc_api_Cube_space_Lean_2_L1 (_fu : Nat) (t0 : (Nat × (Nat → S_api_Cube))) (t1_0 : S_api_Cube) (t7 : Int) (d : D) (s : Int) : Prop := Runs Try.prog Try.f55 0 T_slices_IndexFunc_api_Cube_space_Lean_2_L1 [(0, (D.lit t0.1 24 fun i => (S_api_Cube.d (t0.2 i)))), (1, (D.fn 39 (D.cons (D.lptr (S_api_Cube.d t1_0)) D.nil))), (7, (D.int .i64 t7)), (8, (D.int .i64 s))] [] d []

def X_slices_IndexFunc_api_Cube_space_Lean_2_L1 (_fu : Nat) (_t0 : (Nat × (Nat → S_api_Cube))) (_t1_0 : S_api_Cube) (_t7 : Int) (d : D) : E_slices_IndexFunc_api_Cube_space_Lean_2_L1 ⊕ Int → Prop
  | .inl _ => Runs Try.prog Try.f55 0 X_slices_IndexFunc_api_Cube_space_Lean_2_L1T [] [] d []
  | .inr o => (K_slices_IndexFunc_api_Cube_space_Lean_2 d) o

def F_slices_IndexFunc_api_Cube_space_Lean_2_L1 (fu : Nat) (t0 : (Nat × (Nat → S_api_Cube))) (t1_0 : S_api_Cube) (t7 : Int) (t8 : Int) : Option (Lo Int E_slices_IndexFunc_api_Cube_space_Lean_2_L1 Int) :=
  ifs (decide (t8 < t7)) (
    chk (0 ≤ t8 ∧ t8 < ((t0.1 : Nat) : Int)) <|
    (F_space_Lean_2 fu (t0.2 t8.toNat) t1_0).bind fun r0 =>
    ifs r0 (
      some (.ret t8)) (
      some (.next (IntKind.wrap .i64 (t8 + (1 : Int)))))) (
    some (.exit ()))

theorem run_slices_IndexFunc_api_Cube_space_Lean_2_L1 (fu : Nat) (t0 : (Nat × (Nat → S_api_Cube))) (t1_0 : S_api_Cube) (t7 : Int) (t8 : Int) {d : D} {o : (Lo Int E_slices_IndexFunc_api_Cube_space_Lean_2_L1 Int)} (h : F_slices_IndexFunc_api_Cube_space_Lean_2_L1 fu t0 t1_0 t7 t8 = some o) (hk : (Lo.post (N_slices_IndexFunc_api_Cube_space_Lean_2_L1 fu t0 t1_0 t7 d) (X_slices_IndexFunc_api_Cube_space_Lean_2_L1 fu t0 t1_0 t7 d)) o) : Runs Try.prog Try.f55 0 T_slices_IndexFunc_api_Cube_space_Lean_2_L1 [(0, (D.lit t0.1 24 fun i => (S_api_Cube.d (t0.2 i)))), (1, (D.fn 39 (D.cons (D.lptr (S_api_Cube.d t1_0)) D.nil))), (7, (D.int .i64 t7)), (8, (D.int .i64 t8))] [] d [] := by
  unfold F_slices_IndexFunc_api_Cube_space_Lean_2_L1 at h
  refine runs_regions 1 [([], [0, 1, 7, 8, 9])] (z := ([], [(0, (D.lit t0.1 24 fun i => (S_api_Cube.d (t0.2 i)))), (1, (D.fn 39 (D.cons (D.lptr (S_api_Cube.d t1_0)) D.nil))), (7, (D.int .i64 t7)), (8, (D.int .i64 t8)), (9, (D.bool (decide (t8 < t7))))], [])) rfl (by kernel_rfl) trivial ?_
  refine runs_if (b := (decide (t8 < t7))) (by kernel_rfl) (fun hb => ?_) (fun hb => ?_)
  · replace h := ifs_true h hb
    obtain ⟨p0, h⟩ := chk_some h
    obtain ⟨r0, cr0, h⟩ := Option.bind_eq_some_iff.1 h
    refine runs_regions 2 [([], [0, 1, 5, 7, 8]), ([(.d (D.bool r0))], [0, 1, 5, 7, 8, 16])] (z := ([(0 ≤ t8 ∧ t8 < ((t0.1 : Nat) : Int)), FC Try.prog 39 [(S_api_Cube.d (t0.2 t8.toNat)), (D.lptr (S_api_Cube.d t1_0))] [] (D.bool r0) [], All (List.map NoRow [(S_api_Cube.d (t0.2 t8.toNat)), (D.lptr (S_api_Cube.d t1_0))])], [(0, (D.lit t0.1 24 fun i => (S_api_Cube.d (t0.2 i)))), (1, (D.fn 39 (D.cons (D.lptr (S_api_Cube.d t1_0)) D.nil))), (5, (D.int .i64 t8)), (7, (D.int .i64 t7)), (8, (D.int .i64 t8)), (16, (D.bool r0))], [])) rfl (by kernel_rfl) (And.intro p0 (And.intro (fc_space_Lean_2 fu (t0.2 t8.toNat) t1_0 cr0) (And.intro (And.intro (S_api_Cube.inn _) (And.intro (S_api_Cube.inn _) trivial)) trivial))) ?_
    refine runs_if (b := r0) (by kernel_rfl) (fun hb => ?_) (fun hb => ?_)
    · replace h := ifs_true h hb
      refine runs_regions 1 [([], [4])] (z := ([], [(4, (D.int .i64 t8))], [])) rfl (by kernel_rfl) trivial ?_
      rw [← Option.some.inj h] at hk
      obtain rfl : d = (D.int .i64 t8) := hk
      exact runs_ret (by kernel_rfl) trivial (Nat.le_refl 0) trivial trivial
    · replace h := ifs_false h hb
      refine runs_regions 1 [([], [0, 1, 7, 8])] (z := ([], [(0, (D.lit t0.1 24 fun i => (S_api_Cube.d (t0.2 i)))), (1, (D.fn 39 (D.cons (D.lptr (S_api_Cube.d t1_0)) D.nil))), (7, (D.int .i64 t7)), (8, (D.int .i64 (IntKind.wrap .i64 (t8 + (1 : Int)))))], [])) rfl (by kernel_rfl) trivial ?_
      rw [← Option.some.inj h] at hk
      refine runs_to (ts := [0, 1, 7, 8]) (T' := T_slices_IndexFunc_api_Cube_space_Lean_2_L1) (env' := [(0, (D.lit t0.1 24 fun i => (S_api_Cube.d (t0.2 i)))), (1, (D.fn 39 (D.cons (D.lptr (S_api_Cube.d t1_0)) D.nil))), (7, (D.int .i64 t7)), (8, (D.int .i64 (IntKind.wrap .i64 (t8 + (1 : Int)))))]) (h2 := []) (by kernel_rfl) (by kernel_rfl) trivial (Nat.zero_le _) trivial (And.intro (fun _ _ => (S_api_Cube.inn _)) (And.intro (And.intro (S_api_Cube.inn _) trivial) (And.intro trivial (And.intro trivial trivial)))) ?_
      exact hk
  · replace h := ifs_false h hb
    rw [← Option.some.inj h] at hk
    refine runs_to (ts := []) (T' := X_slices_IndexFunc_api_Cube_space_Lean_2_L1T) (env' := []) (h2 := []) (by kernel_rfl) (by kernel_rfl) trivial (Nat.zero_le _) trivial trivial ?_
    exact hk

theorem iter_slices_IndexFunc_api_Cube_space_Lean_2_L1 (fu : Nat) (t0 : (Nat × (Nat → S_api_Cube))) (t1_0 : S_api_Cube) (t7 : Int) {d : D} (k : Nat) (s : Int) {o : E_slices_IndexFunc_api_Cube_space_Lean_2_L1 ⊕ Int} (h : iter (fun s => F_slices_IndexFunc_api_Cube_space_Lean_2_L1 fu t0 t1_0 t7 s) k s = some o) (hx : X_slices_IndexFunc_api_Cube_space_Lean_2_L1 fu t0 t1_0 t7 d o) : N_slices_IndexFunc_api_Cube_space_Lean_2_L1 fu t0 t1_0 t7 d s :=
  iter_post (K := N_slices_IndexFunc_api_Cube_space_Lean_2_L1 fu t0 t1_0 t7 d) (X := X_slices_IndexFunc_api_Cube_space_Lean_2_L1 fu t0 t1_0 t7 d) (fun s _ h hk => run_slices_IndexFunc_api_Cube_space_Lean_2_L1 fu t0 t1_0 t7 s h hk) k s o h hx

/-- slices.IndexFunc[[]podesta/api.Cube,podesta/api.Cube] -/
def F_slices_IndexFunc_api_Cube_space_Lean_2 (fu : Nat) (t0 : (Nat × (Nat → S_api_Cube))) (t1_0 : S_api_Cube) : Option Int :=
  after (iter (fun s => F_slices_IndexFunc_api_Cube_space_Lean_2_L1 fu t0 t1_0 ((t0.1 : Nat) : Int) s) fu (0 : Int)) fun _ =>
  some (-1 : Int)

theorem run_slices_IndexFunc_api_Cube_space_Lean_2 (fu : Nat) (t0 : (Nat × (Nat → S_api_Cube))) (t1_0 : S_api_Cube) {d : D} {r : Int} (h : F_slices_IndexFunc_api_Cube_space_Lean_2 fu t0 t1_0 = some r) (hk : (K_slices_IndexFunc_api_Cube_space_Lean_2 d) r) : Runs Try.prog Try.f55 0 T_slices_IndexFunc_api_Cube_space_Lean_2 [(0, (D.lit t0.1 24 fun i => (S_api_Cube.d (t0.2 i)))), (1, (D.fn 39 (D.cons (D.lptr (S_api_Cube.d t1_0)) D.nil)))] [] d [] := by
  unfold F_slices_IndexFunc_api_Cube_space_Lean_2 at h
  refine runs_regions 2 [([], [0, 1]), ([], [0, 1, 7, 8])] (z := ([], [(0, (D.lit t0.1 24 fun i => (S_api_Cube.d (t0.2 i)))), (1, (D.fn 39 (D.cons (D.lptr (S_api_Cube.d t1_0)) D.nil))), (7, (D.int .i64 ((t0.1 : Nat) : Int))), (8, (D.int .i64 (0 : Int)))], [])) rfl (by kernel_rfl) trivial ?_
  refine runs_to (ts := [0, 1, 7, 8]) (T' := T_slices_IndexFunc_api_Cube_space_Lean_2_L1) (env' := [(0, (D.lit t0.1 24 fun i => (S_api_Cube.d (t0.2 i)))), (1, (D.fn 39 (D.cons (D.lptr (S_api_Cube.d t1_0)) D.nil))), (7, (D.int .i64 ((t0.1 : Nat) : Int))), (8, (D.int .i64 (0 : Int)))]) (h2 := []) (by kernel_rfl) (by kernel_rfl) trivial (Nat.zero_le _) trivial (And.intro (fun _ _ => (S_api_Cube.inn _)) (And.intro (And.intro (S_api_Cube.inn _) trivial) (And.intro trivial (And.intro trivial trivial)))) ?_
  rcases after_some h with ⟨e2, hi, h⟩ | hi
  · refine iter_slices_IndexFunc_api_Cube_space_Lean_2_L1 fu t0 t1_0 ((t0.1 : Nat) : Int) fu (0 : Int) hi ?_
    show Runs Try.prog Try.f55 0 X_slices_IndexFunc_api_Cube_space_Lean_2_L1T [] [] d []
    refine runs_regions 1 [([], [4])] (z := ([], [(4, (D.int .i64 (-1 : Int)))], [])) rfl (by kernel_rfl) trivial ?_
    rw [← Option.some.inj h] at hk
    obtain rfl : d = (D.int .i64 (-1 : Int)) := hk
    exact runs_ret (by kernel_rfl) trivial (Nat.le_refl 0) trivial trivial
  · exact iter_slices_IndexFunc_api_Cube_space_Lean_2_L1 fu t0 t1_0 ((t0.1 : Nat) : Int) fu (0 : Int) hi hk

theorem fc_slices_IndexFunc_api_Cube_space_Lean_2 (fu : Nat) (t0 : (Nat × (Nat → S_api_Cube))) (t1_0 : S_api_Cube) {r : Int} (h : F_slices_IndexFunc_api_Cube_space_Lean_2 fu t0 t1_0 = some r) : FC Try.prog 55 [(D.lit t0.1 24 fun i => (S_api_Cube.d (t0.2 i))), (D.fn 39 (D.cons (D.lptr (S_api_Cube.d t1_0)) D.nil))] [] (D.int .i64 r) [] := by
  refine fc_of_runs (fn := Try.f55) (c := Try.f55.body.getD .skip) (by kernel_rfl) (by kernel_rfl) ?_
  refine runs_to (ts := [0, 1]) (T' := T_slices_IndexFunc_api_Cube_space_Lean_2) (env' := [(0, (D.lit t0.1 24 fun i => (S_api_Cube.d (t0.2 i)))), (1, (D.fn 39 (D.cons (D.lptr (S_api_Cube.d t1_0)) D.nil)))]) (h2 := []) (by kernel_rfl) (by kernel_rfl) trivial (Nat.le_refl _) trivial (And.intro (fun _ _ => (S_api_Cube.inn _)) (And.intro (And.intro (S_api_Cube.inn _) trivial) trivial)) ?_
  exact run_slices_IndexFunc_api_Cube_space_Lean_2 fu t0 t1_0 h rfl

def K_slices_ContainsFunc_api_Cube_space_Lean_2 (d : D) (r : Bool) : Prop := d = (D.bool r)

noncomputable def T_slices_ContainsFunc_api_Cube_space_Lean_2 : List Item := norm 200 [.code (Try.f41.body.getD .skip)]

/-- slices.ContainsFunc[[]podesta/api.Cube,podesta/api.Cube] -/
def F_slices_ContainsFunc_api_Cube_space_Lean_2 (fu : Nat) (t0 : (Nat × (Nat → S_api_Cube))) (t1_0 : S_api_Cube) : Option Bool :=
  (F_slices_IndexFunc_api_Cube_space_Lean_2 fu t0 t1_0).bind fun r0 =>
  some (decide (r0 ≥ (0 : Int)))

theorem run_slices_ContainsFunc_api_Cube_space_Lean_2 (fu : Nat) (t0 : (Nat × (Nat → S_api_Cube))) (t1_0 : S_api_Cube) {d : D} {r : Bool} (h : F_slices_ContainsFunc_api_Cube_space_Lean_2 fu t0 t1_0 = some r) (hk : (K_slices_ContainsFunc_api_Cube_space_Lean_2 d) r) : Runs Try.prog Try.f41 0 T_slices_ContainsFunc_api_Cube_space_Lean_2 [(0, (D.lit t0.1 24 fun i => (S_api_Cube.d (t0.2 i)))), (1, (D.fn 39 (D.cons (D.lptr (S_api_Cube.d t1_0)) D.nil)))] [] d [] := by
  unfold F_slices_ContainsFunc_api_Cube_space_Lean_2 at h
  obtain ⟨r0, cr0, h⟩ := Option.bind_eq_some_iff.1 h
  refine runs_regions 2 [([], [0, 1]), ([(.d (D.int .i64 r0))], [4])] (z := ([FC Try.prog 55 [(D.lit t0.1 24 fun i => (S_api_Cube.d (t0.2 i))), (D.fn 39 (D.cons (D.lptr (S_api_Cube.d t1_0)) D.nil))] [] (D.int .i64 r0) [], All (List.map NoRow [(D.lit t0.1 24 fun i => (S_api_Cube.d (t0.2 i))), (D.fn 39 (D.cons (D.lptr (S_api_Cube.d t1_0)) D.nil))])], [(4, (D.bool (decide (r0 ≥ (0 : Int)))))], [])) rfl (by kernel_rfl) (And.intro (fc_slices_IndexFunc_api_Cube_space_Lean_2 fu t0 t1_0 cr0) (And.intro (And.intro (fun _ _ => (S_api_Cube.inn _)) (And.intro (And.intro (S_api_Cube.inn _) trivial) trivial)) trivial)) ?_
  rw [← Option.some.inj h] at hk
  obtain rfl : d = (D.bool (decide (r0 ≥ (0 : Int)))) := hk
  exact runs_ret (by kernel_rfl) trivial (Nat.le_refl 0) trivial trivial

theorem fc_slices_ContainsFunc_api_Cube_space_Lean_2 (fu : Nat) (t0 : (Nat × (Nat → S_api_Cube))) (t1_0 : S_api_Cube) {r : Bool} (h : F_slices_ContainsFunc_api_Cube_space_Lean_2 fu t0 t1_0 = some r) : FC Try.prog 41 [(D.lit t0.1 24 fun i => (S_api_Cube.d (t0.2 i))), (D.fn 39 (D.cons (D.lptr (S_api_Cube.d t1_0)) D.nil))] [] (D.bool r) [] := by
  refine fc_of_runs (fn := Try.f41) (c := Try.f41.body.getD .skip) (by kernel_rfl) (by kernel_rfl) ?_
  refine runs_to (ts := [0, 1]) (T' := T_slices_ContainsFunc_api_Cube_space_Lean_2) (env' := [(0, (D.lit t0.1 24 fun i => (S_api_Cube.d (t0.2 i)))), (1, (D.fn 39 (D.cons (D.lptr (S_api_Cube.d t1_0)) D.nil)))]) (h2 := []) (by kernel_rfl) (by kernel_rfl) trivial (Nat.le_refl _) trivial (And.intro (fun _ _ => (S_api_Cube.inn _)) (And.intro (And.intro (S_api_Cube.inn _) trivial) trivial)) ?_
  exact run_slices_ContainsFunc_api_Cube_space_Lean_2 fu t0 t1_0 h rfl

def K_space_Lean (d : D) (r : (Nat × (Nat → S_api_Cube))) : Prop := d = (D.lit r.1 24 fun i => (S_api_Cube.d (r.2 i)))

noncomputable def T_space_Lean : List Item := norm 200 [.code (Try.f18.body.getD .skip)]

noncomputable def T_space_Lean_L1 : List Item := norm 200 (nxt (nxt (nxt (nxt (nxt (nxt T_space_Lean))))))

noncomputable def X_space_Lean_L1T : List Item := norm 200 (cndF (nxt (nxt (nxt (nxt (nxt (nxt (nxt T_space_Lean))))))))

abbrev E_space_Lean_L1 := (Nat × (Nat → S_api_Cube))

def N_space_Lean_L1 (_fu : Nat) (t16 : Int) (m2 : (Nat × (Nat → S_api_Cube))) (d : D) (s : (Int × (Nat × (Nat → S_api_Cube)))) : Prop := Runs Try.prog Try.f18 0 T_space_Lean_L1 [(3, (D.own 2)), (4, (D.own 3)), (15, (D.own 2)), (16, (D.int .i64 t16)), (17, (D.int .i64 s.1))] [none, none, some (.seq 44 m2.1 24 (D.arr m2.1 24 fun i => (S_api_Cube.d (m2.2 i)))), some (.seq 44 s.2.1 24 (D.arr s.2.1 24 fun i => (S_api_Cube.d (s.2.2 i))))] d []

def X_space_Lean_L1 (_fu : Nat) (_t16 : Int) (_m2 : (Nat × (Nat → S_api_Cube))) (d : D) : E_space_Lean_L1 ⊕ (Nat × (Nat → S_api_Cube)) → Prop
  | .inl e => Runs Try.prog Try.f18 0 X_space_Lean_L1T [(4, (D.own 3))] [none, none, none, some (.seq 44 e.1 24 (D.arr e.1 24 fun i => (S_api_Cube.d (e.2 i))))] d []
  | .inr o => (K_space_Lean d) o

def F_space_Lean_L1 (fu : Nat) (t16 : Int) (m2 : (Nat × (Nat → S_api_Cube))) (t17 : Int) (m3 : (Nat × (Nat → S_api_Cube))) : Option (Lo (Int × (Nat × (Nat → S_api_Cube))) E_space_Lean_L1 (Nat × (Nat → S_api_Cube))) :=
  ifs (decide (t17 < t16)) (
    chk (0 ≤ t17 ∧ t17 < ((m2.1 : Nat) : Int)) <|
    chk (t17.toNat < m2.1) <|
    chk (0 ≤ (0 : Int) ∧ (0 : Int) ≤ t17 ∧ t17 ≤ ((m2.1 : Nat) : Int)) <|
    (F_slices_ContainsFunc_api_Cube_space_Lean_2 fu (((t17).toNat - ((0 : Int)).toNat), (fun i => m2.2 (((0 : Int)).toNat + i))) (m2.2 t17.toNat)).bind fun r4 =>
    chk (((0 : Int)).toNat + ((t17).toNat - ((0 : Int)).toNat) ≤ m2.1) <|
    chk ((!r4) = true → (0 ≤ t17 ∧ t17 ≤ ((m2.1 : Nat) : Int) ∧ ((m2.1 : Nat) : Int) ≤ ((m2.1 : Nat) : Int))) <|
    (callIf (!r4) (F_slices_ContainsFunc_api_Cube_space_Lean_2 fu (((((m2.1 : Nat) : Int)).toNat - (t17).toNat), (fun i => m2.2 ((t17).toNat + i))) (m2.2 t17.toNat)) false).bind fun r5 =>
    chk ((!r4) = true → ((t17).toNat + ((((m2.1 : Nat) : Int)).toNat - (t17).toNat) ≤ m2.1)) <|
    ifs (bif (!r4) then (!r5) else false) (
      chk (RoomOk (m3.1 + 1) 192) <|
      some (.next ((IntKind.wrap .i64 (t17 + (1 : Int))), ((m3.1 + 1), (fun i => if i < m3.1 then m3.2 i else (fun i => ([(m2.2 t17.toNat)] : List S_api_Cube).getD i (S_api_Cube.mk (fun _ => 0) (fun _ => 0))) (i - m3.1)))))) (
      some (.next ((IntKind.wrap .i64 (t17 + (1 : Int))), m3)))) (
    some (.exit m3))

theorem run_space_Lean_L1 (fu : Nat) (t16 : Int) (m2 : (Nat × (Nat → S_api_Cube))) (t17 : Int) (m3 : (Nat × (Nat → S_api_Cube))) {d : D} {o : (Lo (Int × (Nat × (Nat → S_api_Cube))) E_space_Lean_L1 (Nat × (Nat → S_api_Cube)))} (h : F_space_Lean_L1 fu t16 m2 t17 m3 = some o) (hk : (Lo.post (N_space_Lean_L1 fu t16 m2 d) (X_space_Lean_L1 fu t16 m2 d)) o) : Runs Try.prog Try.f18 0 T_space_Lean_L1 [(3, (D.own 2)), (4, (D.own 3)), (15, (D.own 2)), (16, (D.int .i64 t16)), (17, (D.int .i64 t17))] [none, none, some (.seq 44 m2.1 24 (D.arr m2.1 24 fun i => (S_api_Cube.d (m2.2 i)))), some (.seq 44 m3.1 24 (D.arr m3.1 24 fun i => (S_api_Cube.d (m3.2 i))))] d [] := by
  unfold F_space_Lean_L1 at h
  refine runs_regions 1 [([], [3, 4, 15, 16, 17, 18])] (z := ([], [(3, (D.own 2)), (4, (D.own 3)), (15, (D.own 2)), (16, (D.int .i64 t16)), (17, (D.int .i64 t17)), (18, (D.bool (decide (t17 < t16))))], [none, none, some (.seq 44 m2.1 24 (D.arr m2.1 24 fun i => (S_api_Cube.d (m2.2 i)))), some (.seq 44 m3.1 24 (D.arr m3.1 24 fun i => (S_api_Cube.d (m3.2 i))))])) rfl (by kernel_rfl) trivial ?_
  refine runs_if (b := (decide (t17 < t16))) (by kernel_rfl) (fun hb => ?_) (fun hb => ?_)
  · replace h := ifs_true h hb
    obtain ⟨p0, h⟩ := chk_some h
    obtain ⟨p1, h⟩ := chk_some h
    refine runs_regions 1 [([], [3, 4, 5, 6, 15, 16, 17])] (z := ([(0 ≤ t17 ∧ t17 < ((m2.1 : Nat) : Int)), (t17.toNat < m2.1)], [(3, (D.own 2)), (4, (D.own 3)), (5, (D.int .i64 t17)), (6, (D.ptr 4 [])), (15, (D.own 2)), (16, (D.int .i64 t16)), (17, (D.int .i64 t17))], [none, none, some (.seq 44 m2.1 24 (D.arr m2.1 24 fun i => (S_api_Cube.d (m2.2 i)))), some (.seq 44 m3.1 24 (D.arr m3.1 24 fun i => (S_api_Cube.d (m3.2 i)))), some (.box (S_api_Cube.d (m2.2 t17.toNat)))])) rfl (by kernel_rfl) (And.intro p0 (And.intro p1 trivial)) ?_
    refine runs_freeze 4 (row := (.box (S_api_Cube.d (m2.2 t17.toNat)))) rfl ?_
    obtain ⟨p2, h⟩ := chk_some h
    obtain ⟨r4, cr4, h⟩ := Option.bind_eq_some_iff.1 h
    obtain ⟨p3, h⟩ := chk_some h
    obtain ⟨p4, h⟩ := chk_some h
    obtain ⟨r5, cr5, h⟩ := Option.bind_eq_some_iff.1 h
    obtain ⟨p5, h⟩ := chk_some h
    refine runs_regions 2 [([], [3, 4, 5, 6, 7, 15, 16, 17]), ([(.lend (D.bool r4)), (.lend (D.bool r5))], [3, 4, 6, 15, 16, 17, 36])] (z := ([(0 ≤ (0 : Int) ∧ (0 : Int) ≤ t17 ∧ t17 ≤ ((m2.1 : Nat) : Int)), (((0 : Int)).toNat + ((t17).toNat - ((0 : Int)).toNat) ≤ m2.1), FC Try.prog 41 [(D.lit ((t17).toNat - ((0 : Int)).toNat) 24 fun i => (S_api_Cube.d ((fun i => m2.2 (((0 : Int)).toNat + i)) i))), (D.fn 39 (D.cons (D.lptr (S_api_Cube.d (m2.2 t17.toNat))) D.nil))] [] (D.bool r4) [], All (List.map NoRow [(D.lit ((t17).toNat - ((0 : Int)).toNat) 24 fun i => (S_api_Cube.d ((fun i => m2.2 (((0 : Int)).toNat + i)) i))), (D.fn 39 (D.cons (D.lptr (S_api_Cube.d (m2.2 t17.toNat))) D.nil))]), ((!r4) = true → All [((!r4) = true → (!r4) = true), ((!r4) = true → (!r4) = true), (0 ≤ t17 ∧ t17 ≤ ((m2.1 : Nat) : Int) ∧ ((m2.1 : Nat) : Int) ≤ ((m2.1 : Nat) : Int))]), ((!r4) = true → All [((!r4) = true → (!r4) = true), ((!r4) = true → (!r4) = true), ((t17).toNat + ((((m2.1 : Nat) : Int)).toNat - (t17).toNat) ≤ m2.1), FC Try.prog 41 [(D.lit ((((m2.1 : Nat) : Int)).toNat - (t17).toNat) 24 fun i => (S_api_Cube.d ((fun i => m2.2 ((t17).toNat + i)) i))), (D.fn 39 (D.cons (D.lptr (S_api_Cube.d (m2.2 t17.toNat))) D.nil))] [] (D.bool r5) [], All (List.map NoRow [(D.lit ((((m2.1 : Nat) : Int)).toNat - (t17).toNat) 24 fun i => (S_api_Cube.d ((fun i => m2.2 ((t17).toNat + i)) i))), (D.fn 39 (D.cons (D.lptr (S_api_Cube.d (m2.2 t17.toNat))) D.nil))])]), ((!r4) = true → All [((!r4) = true → (!r4) = true)]), ((true && (!r4)) = true → (!r4) = true)], [(3, (D.own 2)), (4, (D.own 3)), (6, (D.lptr (S_api_Cube.d (m2.2 t17.toNat)))), (15, (D.own 2)), (16, (D.int .i64 t16)), (17, (D.int .i64 t17)), (36, (D.bool (bif (!r4) then (!r5) else false)))], [none, none, some (.seq 44 m2.1 24 (D.arr m2.1 24 fun i => (S_api_Cube.d (m2.2 i)))), some (.seq 44 m3.1 24 (D.arr m3.1 24 fun i => (S_api_Cube.d (m3.2 i)))), none])) rfl (by kernel_rfl) (And.intro p2 (And.intro p3 (And.intro (fc_slices_ContainsFunc_api_Cube_space_Lean_2 fu (((t17).toNat - ((0 : Int)).toNat), (fun i => m2.2 (((0 : Int)).toNat + i))) (m2.2 t17.toNat) cr4) (And.intro (And.intro (fun _ _ => (S_api_Cube.inn _)) (And.intro (And.intro (S_api_Cube.inn _) trivial) trivial)) (And.intro (fun hg => (And.intro (by first | exact fun h => h | exact fun h => (Bool.and_eq_true_iff.1 h).1 | simp_all) (And.intro (by first | exact fun h => h | exact fun h => (Bool.and_eq_true_iff.1 h).1 | simp_all) (And.intro (p4 hg) trivial)))) (And.intro (fun hg => (And.intro (by first | exact fun h => h | exact fun h => (Bool.and_eq_true_iff.1 h).1 | simp_all) (And.intro (by first | exact fun h => h | exact fun h => (Bool.and_eq_true_iff.1 h).1 | simp_all) (And.intro (p5 hg) (And.intro (fc_slices_ContainsFunc_api_Cube_space_Lean_2 fu (((((m2.1 : Nat) : Int)).toNat - (t17).toNat), (fun i => m2.2 ((t17).toNat + i))) (m2.2 t17.toNat) (callIf_some cr5 hg)) (And.intro (And.intro (fun _ _ => (S_api_Cube.inn _)) (And.intro (And.intro (S_api_Cube.inn _) trivial) trivial)) trivial)))))) (And.intro (fun _ => (And.intro (by first | exact fun h => h | exact fun h => (Bool.and_eq_true_iff.1 h).1 | simp_all) trivial)) (And.intro (by first | exact fun h => h | exact fun h => (Bool.and_eq_true_iff.1 h).1 | simp_all) trivial)))))))) ?_
    refine runs_if (b := (bif (!r4) then (!r5) else false)) (by kernel_rfl) (fun hb => ?_) (fun hb => ?_)
    · replace h := ifs_true h hb
      obtain ⟨p6, h⟩ := chk_some h
      refine runs_regions 2 [([(.lit fun i => (S_api_Cube.d ((fun i => ([(m2.2 t17.toNat)] : List S_api_Cube).getD i (S_api_Cube.mk (fun _ => 0) (fun _ => 0))) i))), (.d (D.arr (m3.1 + 1) 24 fun i => (S_api_Cube.d ((fun i => if i < m3.1 then m3.2 i else (fun i => ([(m2.2 t17.toNat)] : List S_api_Cube).getD i (S_api_Cube.mk (fun _ => 0) (fun _ => 0))) (i - m3.1)) i))))], [3, 4, 15, 16, 17]), ([], [3, 4, 15, 16, 17])] (z := ([TabOk [(S_api_Cube.d (m2.2 t17.toNat))] 24 (D.arr 1 24 fun i => (S_api_Cube.d ((fun i => ([(m2.2 t17.toNat)] : List S_api_Cube).getD i (S_api_Cube.mk (fun _ => 0) (fun _ => 0))) i))), (RoomOk (m3.1 + 1) 192), CatOk (D.arr m3.1 24 fun i => (S_api_Cube.d (m3.2 i))) (D.arr 1 24 fun i => (S_api_Cube.d ((fun i => ([(m2.2 t17.toNat)] : List S_api_Cube).getD i (S_api_Cube.mk (fun _ => 0) (fun _ => 0))) i))) (D.arr (m3.1 + 1) 24 fun i => (S_api_Cube.d ((fun i => if i < m3.1 then m3.2 i else (fun i => ([(m2.2 t17.toNat)] : List S_api_Cube).getD i (S_api_Cube.mk (fun _ => 0) (fun _ => 0))) (i - m3.1)) i)))], [(3, (D.own 2)), (4, (D.own 5)), (15, (D.own 2)), (16, (D.int .i64 t16)), (17, (D.int .i64 (IntKind.wrap .i64 (t17 + (1 : Int)))))], [none, none, some (.seq 44 m2.1 24 (D.arr m2.1 24 fun i => (S_api_Cube.d (m2.2 i)))), none, none, some (.seq 44 (m3.1 + 1) 24 (D.arr (m3.1 + 1) 24 fun i => (S_api_Cube.d ((fun i => if i < m3.1 then m3.2 i else (fun i => ([(m2.2 t17.toNat)] : List S_api_Cube).getD i (S_api_Cube.mk (fun _ => 0) (fun _ => 0))) (i - m3.1)) i))))])) rfl (by kernel_rfl) (And.intro (tabOk_arr rfl (And.intro rfl trivial)) (And.intro p6 (And.intro (catOk_arr' rfl fun i => (d_ite (f := fun x : S_api_Cube => (S_api_Cube.d x)) rfl rfl).symm) trivial))) ?_
      rw [← Option.some.inj h] at hk
      refine runs_to (ts := [3, 4, 15, 16, 17]) (T' := T_space_Lean_L1) (env' := [(3, (D.own 2)), (4, (D.own 5)), (15, (D.own 2)), (16, (D.int .i64 t16)), (17, (D.int .i64 (IntKind.wrap .i64 (t17 + (1 : Int)))))]) (h2 := [none, none, some (.seq 44 m2.1 24 (D.arr m2.1 24 fun i => (S_api_Cube.d (m2.2 i)))), none, none, some (.seq 44 (m3.1 + 1) 24 (D.arr (m3.1 + 1) 24 fun i => (S_api_Cube.d ((fun i => if i < m3.1 then m3.2 i else (fun i => ([(m2.2 t17.toNat)] : List S_api_Cube).getD i (S_api_Cube.mk (fun _ => 0) (fun _ => 0))) (i - m3.1)) i))))]) (by kernel_rfl) (by kernel_rfl) (And.intro (.inl rfl) (And.intro (.inl rfl) (And.intro (.inr rfl) (And.intro (.inl rfl) (And.intro (.inl rfl) (And.intro (.inr rfl) trivial)))))) (Nat.zero_le _) (And.intro (fun _ _ => (S_api_Cube.inn _)) (And.intro (fun _ _ => (S_api_Cube.inn _)) trivial)) (And.intro (bel_of rfl) (And.intro (bel_of rfl) (And.intro (bel_of rfl) (And.intro trivial (And.intro trivial trivial))))) ?_
      refine runs_rename 3 5 (row := (.seq 44 (m3.1 + 1) 24 (D.arr (m3.1 + 1) 24 fun i => (S_api_Cube.d ((fun i => if i < m3.1 then m3.2 i else (fun i => ([(m2.2 t17.toNat)] : List S_api_Cube).getD i (S_api_Cube.mk (fun _ => 0) (fun _ => 0))) (i - m3.1)) i))))) (by decide) (Nat.zero_le _) rfl rfl (And.intro (fun _ _ => (S_api_Cube.inn _)) (And.intro (fun _ _ => (S_api_Cube.inn _)) trivial)) (And.intro (rn_own rfl) (And.intro (rn_own rfl) (And.intro (rn_own rfl) (And.intro trivial (And.intro trivial trivial))))) ?_
      refine runs_to (ts := [3, 4, 15, 16, 17]) (T' := T_space_Lean_L1) (env' := [(3, (D.own 2)), (4, (D.own 3)), (15, (D.own 2)), (16, (D.int .i64 t16)), (17, (D.int .i64 (IntKind.wrap .i64 (t17 + (1 : Int)))))]) (h2 := [none, none, some (.seq 44 m2.1 24 (D.arr m2.1 24 fun i => (S_api_Cube.d (m2.2 i)))), some (.seq 44 (m3.1 + 1) 24 (D.arr (m3.1 + 1) 24 fun i => (S_api_Cube.d ((fun i => if i < m3.1 then m3.2 i else (fun i => ([(m2.2 t17.toNat)] : List S_api_Cube).getD i (S_api_Cube.mk (fun _ => 0) (fun _ => 0))) (i - m3.1)) i))))]) (by kernel_rfl) (by kernel_rfl) (And.intro (.inl rfl) (And.intro (.inl rfl) (And.intro (.inr rfl) (And.intro (.inr rfl) trivial)))) (Nat.zero_le _) (And.intro (fun _ _ => (S_api_Cube.inn _)) (And.intro (fun _ _ => (S_api_Cube.inn _)) trivial)) (And.intro (bel_of rfl) (And.intro (bel_of rfl) (And.intro (bel_of rfl) (And.intro trivial (And.intro trivial trivial))))) ?_
      exact hk
    · replace h := ifs_false h hb
      refine runs_regions 1 [([], [3, 4, 15, 16, 17])] (z := ([], [(3, (D.own 2)), (4, (D.own 3)), (15, (D.own 2)), (16, (D.int .i64 t16)), (17, (D.int .i64 (IntKind.wrap .i64 (t17 + (1 : Int)))))], [none, none, some (.seq 44 m2.1 24 (D.arr m2.1 24 fun i => (S_api_Cube.d (m2.2 i)))), some (.seq 44 m3.1 24 (D.arr m3.1 24 fun i => (S_api_Cube.d (m3.2 i)))), none])) rfl (by kernel_rfl) trivial ?_
      rw [← Option.some.inj h] at hk
      refine runs_to (ts := [3, 4, 15, 16, 17]) (T' := T_space_Lean_L1) (env' := [(3, (D.own 2)), (4, (D.own 3)), (15, (D.own 2)), (16, (D.int .i64 t16)), (17, (D.int .i64 (IntKind.wrap .i64 (t17 + (1 : Int)))))]) (h2 := [none, none, some (.seq 44 m2.1 24 (D.arr m2.1 24 fun i => (S_api_Cube.d (m2.2 i)))), some (.seq 44 m3.1 24 (D.arr m3.1 24 fun i => (S_api_Cube.d (m3.2 i))))]) (by kernel_rfl) (by kernel_rfl) (And.intro (.inl rfl) (And.intro (.inl rfl) (And.intro (.inr rfl) (And.intro (.inr rfl) trivial)))) (Nat.zero_le _) (And.intro (fun _ _ => (S_api_Cube.inn _)) (And.intro (fun _ _ => (S_api_Cube.inn _)) trivial)) (And.intro (bel_of rfl) (And.intro (bel_of rfl) (And.intro (bel_of rfl) (And.intro trivial (And.intro trivial trivial))))) ?_
      exact hk
  · replace h := ifs_false h hb
    rw [← Option.some.inj h] at hk
    refine runs_to (ts := [4]) (T' := X_space_Lean_L1T) (env' := [(4, (D.own 3))]) (h2 := [none, none, none, some (.seq 44 m3.1 24 (D.arr m3.1 24 fun i => (S_api_Cube.d (m3.2 i))))]) (by kernel_rfl) (by kernel_rfl) (And.intro (.inl rfl) (And.intro (.inl rfl) (And.intro (.inl rfl) (And.intro (.inr rfl) trivial)))) (Nat.zero_le _) (And.intro (fun _ _ => (S_api_Cube.inn _)) trivial) (And.intro (bel_of rfl) trivial) ?_
    exact hk

theorem iter_space_Lean_L1 (fu : Nat) (t16 : Int) (m2 : (Nat × (Nat → S_api_Cube))) {d : D} (k : Nat) (s : (Int × (Nat × (Nat → S_api_Cube)))) {o : E_space_Lean_L1 ⊕ (Nat × (Nat → S_api_Cube))} (h : iter (fun s => F_space_Lean_L1 fu t16 m2 s.1 s.2) k s = some o) (hx : X_space_Lean_L1 fu t16 m2 d o) : N_space_Lean_L1 fu t16 m2 d s :=
  iter_post (K := N_space_Lean_L1 fu t16 m2 d) (X := X_space_Lean_L1 fu t16 m2 d) (fun s _ h hk => run_space_Lean_L1 fu t16 m2 s.1 s.2 h hk) k s o h hx

/-- podesta/space.Lean -/
def F_space_Lean (fu : Nat) (t0 : (Nat × (Nat → S_api_Cube))) : Option (Nat × (Nat → S_api_Cube)) :=
  (F_slices_Clone_api_Cube t0).bind fun r0 =>
  (F_slices_DeleteFunc_api_Cube_space_Lean_1 fu r0).bind fun r1 =>
  (F_slices_SortFunc_cube_Compare r1).bind fun r2 =>
  (F_slices_Compact_api_Cube fu r2).bind fun r3 =>
  after (iter (fun s => F_space_Lean_L1 fu ((r3.1 : Nat) : Int) r3 s.1 s.2) fu ((0 : Int), (0, (fun _ => (S_api_Cube.mk (fun _ => 0) (fun _ => 0)))))) fun e8 =>
  some e8

theorem run_space_Lean (fu : Nat) (t0 : (Nat × (Nat → S_api_Cube))) {d : D} {r : (Nat × (Nat → S_api_Cube))} (h : F_space_Lean fu t0 = some r) (hk : (K_space_Lean d) r) : Runs Try.prog Try.f18 0 T_space_Lean [(0, (D.lit t0.1 24 fun i => (S_api_Cube.d (t0.2 i))))] [] d [] := by
  unfold F_space_Lean at h
  obtain ⟨r0, cr0, h⟩ := Option.bind_eq_some_iff.1 h
  obtain ⟨r1, cr1, h⟩ := Option.bind_eq_some_iff.1 h
  obtain ⟨r2, cr2, h⟩ := Option.bind_eq_some_iff.1 h
  obtain ⟨r3, cr3, h⟩ := Option.bind_eq_some_iff.1 h
  refine runs_regions 6 [([], [0]), ([(.rows ([] : List Nat) [(D.lit t0.1 24 fun i => (S_api_Cube.d (t0.2 i)))] ([] : List Row) ([some (.seq 44 r0.1 24 (D.arr r0.1 24 fun i => (S_api_Cube.d (r0.2 i))))] : Heap) (D.own 0)), (.rows ([0] : List Nat) [(D.own 0), (D.fn 34 D.nil)] ([(.seq 44 r0.1 24 (D.arr r0.1 24 fun i => (S_api_Cube.d (r0.2 i))))] : List Row) ([none, some (.seq 44 r1.1 24 (D.arr r1.1 24 fun i => (S_api_Cube.d (r1.2 i))))] : Heap) (D.own 1))], [3]), ([(.rows ([1] : List Nat) [(D.own 0), (D.fn 37 D.nil)] ([(.seq 44 r1.1 24 (D.arr r1.1 24 fun i => (S_api_Cube.d (r1.2 i))))] : List Row) ([some (.seq 44 r2.1 24 (D.arr r2.1 24 fun i => (S_api_Cube.d (r2.2 i))))] : Heap) (D.tup D.nil))], [3]), ([(.rows ([1] : List Nat) [(D.own 0)] ([(.seq 44 r2.1 24 (D.arr r2.1 24 fun i => (S_api_Cube.d (r2.2 i))))] : List Row) ([none, some (.seq 44 r3.1 24 (D.arr r3.1 24 fun i => (S_api_Cube.d (r3.2 i))))] : Heap) (D.own 1))], [3]), ([(.nil 44 24 (D.arr 0 24 fun i => (S_api_Cube.d ((fun _ => (S_api_Cube.mk (fun _ => 0) (fun _ => 0))) i))))], [3, 4]), ([], [3, 4, 15, 16, 17])] (z := ([FC Try.prog 33 [(D.lit t0.1 24 fun i => (S_api_Cube.d (t0.2 i)))] (List.map some ([] : List Row)) (D.own 0) ([some (.seq 44 r0.1 24 (D.arr r0.1 24 fun i => (S_api_Cube.d (r0.2 i))))] : Heap), [(D.lit t0.1 24 fun i => (S_api_Cube.d (t0.2 i)))] = List.map (D.ren (emb ([] : List Nat) 0)) [(D.lit t0.1 24 fun i => (S_api_Cube.d (t0.2 i)))], RowsAt (emb ([] : List Nat) 0) ([] : Heap) ([] : List Nat) ([] : List Row), HIn (Bel (List.length ([] : List Nat))) (List.map some ([] : List Row)), AllIn (Bel (List.length ([] : List Nat))) [(D.lit t0.1 24 fun i => (S_api_Cube.d (t0.2 i)))], HIn (Bel (List.length ([some (.seq 44 r0.1 24 (D.arr r0.1 24 fun i => (S_api_Cube.d (r0.2 i))))] : Heap))) ([some (.seq 44 r0.1 24 (D.arr r0.1 24 fun i => (S_api_Cube.d (r0.2 i))))] : Heap), D.In (Bel (List.length ([some (.seq 44 r0.1 24 (D.arr r0.1 24 fun i => (S_api_Cube.d (r0.2 i))))] : Heap))) (D.own 0), FC Try.prog 32 [(D.own 0), (D.fn 34 D.nil)] (List.map some ([(.seq 44 r0.1 24 (D.arr r0.1 24 fun i => (S_api_Cube.d (r0.2 i))))] : List Row)) (D.own 1) ([none, some (.seq 44 r1.1 24 (D.arr r1.1 24 fun i => (S_api_Cube.d (r1.2 i))))] : Heap), [(D.own 0), (D.fn 34 D.nil)] = List.map (D.ren (emb ([0] : List Nat) 1)) [(D.own 0), (D.fn 34 D.nil)], RowsAt (emb ([0] : List Nat) 1) ([some (.seq 44 r0.1 24 (D.arr r0.1 24 fun i => (S_api_Cube.d (r0.2 i))))] : Heap) ([0] : List Nat) ([(.seq 44 r0.1 24 (D.arr r0.1 24 fun i => (S_api_Cube.d (r0.2 i))))] : List Row), HIn (Bel (List.length ([0] : List Nat))) (List.map some ([(.seq 44 r0.1 24 (D.arr r0.1 24 fun i => (S_api_Cube.d (r0.2 i))))] : List Row)), AllIn (Bel (List.length ([0] : List Nat))) [(D.own 0), (D.fn 34 D.nil)], HIn (Bel (List.length ([none, some (.seq 44 r1.1 24 (D.arr r1.1 24 fun i => (S_api_Cube.d (r1.2 i))))] : Heap))) ([none, some (.seq 44 r1.1 24 (D.arr r1.1 24 fun i => (S_api_Cube.d (r1.2 i))))] : Heap), D.In (Bel (List.length ([none, some (.seq 44 r1.1 24 (D.arr r1.1 24 fun i => (S_api_Cube.d (r1.2 i))))] : Heap))) (D.own 1), FC Try.prog 36 [(D.own 0), (D.fn 37 D.nil)] (List.map some ([(.seq 44 r1.1 24 (D.arr r1.1 24 fun i => (S_api_Cube.d (r1.2 i))))] : List Row)) (D.tup D.nil) ([some (.seq 44 r2.1 24 (D.arr r2.1 24 fun i => (S_api_Cube.d (r2.2 i))))] : Heap), [(D.own 1), (D.fn 37 D.nil)] = List.map (D.ren (emb ([1] : List Nat) 2)) [(D.own 0), (D.fn 37 D.nil)], RowsAt (emb ([1] : List Nat) 2) ([none, some (.seq 44 r1.1 24 (D.arr r1.1 24 fun i => (S_api_Cube.d (r1.2 i))))] : Heap) ([1] : List Nat) ([(.seq 44 r1.1 24 (D.arr r1.1 24 fun i => (S_api_Cube.d (r1.2 i))))] : List Row), HIn (Bel (List.length ([1] : List Nat))) (List.map some ([(.seq 44 r1.1 24 (D.arr r1.1 24 fun i => (S_api_Cube.d (r1.2 i))))] : List Row)), AllIn (Bel (List.length ([1] : List Nat))) [(D.own 0), (D.fn 37 D.nil)], HIn (Bel (List.length ([some (.seq 44 r2.1 24 (D.arr r2.1 24 fun i => (S_api_Cube.d (r2.2 i))))] : Heap))) ([some (.seq 44 r2.1 24 (D.arr r2.1 24 fun i => (S_api_Cube.d (r2.2 i))))] : Heap), D.In (Bel (List.length ([some (.seq 44 r2.1 24 (D.arr r2.1 24 fun i => (S_api_Cube.d (r2.2 i))))] : Heap))) (D.tup D.nil), FC Try.prog 38 [(D.own 0)] (List.map some ([(.seq 44 r2.1 24 (D.arr r2.1 24 fun i => (S_api_Cube.d (r2.2 i))))] : List Row)) (D.own 1) ([none, some (.seq 44 r3.1 24 (D.arr r3.1 24 fun i => (S_api_Cube.d (r3.2 i))))] : Heap), [(D.own 1)] = List.map (D.ren (emb ([1] : List Nat) 2)) [(D.own 0)], RowsAt (emb ([1] : List Nat) 2) ([none, some (.seq 44 r2.1 24 (D.arr r2.1 24 fun i => (S_api_Cube.d (r2.2 i))))] : Heap) ([1] : List Nat) ([(.seq 44 r2.1 24 (D.arr r2.1 24 fun i => (S_api_Cube.d (r2.2 i))))] : List Row), HIn (Bel (List.length ([1] : List Nat))) (List.map some ([(.seq 44 r2.1 24 (D.arr r2.1 24 fun i => (S_api_Cube.d (r2.2 i))))] : List Row)), AllIn (Bel (List.length ([1] : List Nat))) [(D.own 0)], HIn (Bel (List.length ([none, some (.seq 44 r3.1 24 (D.arr r3.1 24 fun i => (S_api_Cube.d (r3.2 i))))] : Heap))) ([none, some (.seq 44 r3.1 24 (D.arr r3.1 24 fun i => (S_api_Cube.d (r3.2 i))))] : Heap), D.In (Bel (List.length ([none, some (.seq 44 r3.1 24 (D.arr r3.1 24 fun i => (S_api_Cube.d (r3.2 i))))] : Heap))) (D.own 1), EmptyOk (D.arr 0 24 fun i => (S_api_Cube.d ((fun _ => (S_api_Cube.mk (fun _ => 0) (fun _ => 0))) i)))], [(3, (D.own 2)), (4, (D.own 3)), (15, (D.own 2)), (16, (D.int .i64 ((r3.1 : Nat) : Int))), (17, (D.int .i64 (0 : Int)))], [none, none, some (.seq 44 r3.1 24 (D.arr r3.1 24 fun i => (S_api_Cube.d (r3.2 i)))), some (.seq 44 0 24 (D.arr 0 24 fun i => (S_api_Cube.d ((fun _ => (S_api_Cube.mk (fun _ => 0) (fun _ => 0))) i))))])) rfl (by kernel_rfl) (And.intro (fc_slices_Clone_api_Cube t0 cr0) (And.intro rfl (And.intro trivial (And.intro trivial (And.intro (And.intro (fun _ _ => (S_api_Cube.inn _)) trivial) (And.intro (And.intro (fun _ _ => (S_api_Cube.inn _)) trivial) (And.intro (bel_of rfl) (And.intro (fc_slices_DeleteFunc_api_Cube_space_Lean_1 fu r0 cr1) (And.intro rfl (And.intro (And.intro rfl trivial) (And.intro (And.intro (fun _ _ => (S_api_Cube.inn _)) trivial) (And.intro (And.intro (bel_of rfl) (And.intro trivial trivial)) (And.intro (And.intro (fun _ _ => (S_api_Cube.inn _)) trivial) (And.intro (bel_of rfl) (And.intro (fc_slices_SortFunc_cube_Compare r1 cr2) (And.intro rfl (And.intro (And.intro rfl trivial) (And.intro (And.intro (fun _ _ => (S_api_Cube.inn _)) trivial) (And.intro (And.intro (bel_of rfl) (And.intro trivial trivial)) (And.intro (And.intro (fun _ _ => (S_api_Cube.inn _)) trivial) (And.intro trivial (And.intro (fc_slices_Compact_api_Cube fu r2 cr3) (And.intro rfl (And.intro (And.intro rfl trivial) (And.intro (And.intro (fun _ _ => (S_api_Cube.inn _)) trivial) (And.intro (And.intro (bel_of rfl) trivial) (And.intro (And.intro (fun _ _ => (S_api_Cube.inn _)) trivial) (And.intro (bel_of rfl) (And.intro emptyOk_arr trivial))))))))))))))))))))))))))))) ?_
  refine runs_to (ts := [3, 4, 15, 16, 17]) (T' := T_space_Lean_L1) (env' := [(3, (D.own 2)), (4, (D.own 3)), (15, (D.own 2)), (16, (D.int .i64 ((r3.1 : Nat) : Int))), (17, (D.int .i64 (0 : Int)))]) (h2 := [none, none, some (.seq 44 r3.1 24 (D.arr r3.1 24 fun i => (S_api_Cube.d (r3.2 i)))), some (.seq 44 0 24 (D.arr 0 24 fun i => (S_api_Cube.d ((fun _ => (S_api_Cube.mk (fun _ => 0) (fun _ => 0))) i))))]) (by kernel_rfl) (by kernel_rfl) (And.intro (.inl rfl) (And.intro (.inl rfl) (And.intro (.inr rfl) (And.intro (.inr rfl) trivial)))) (Nat.zero_le _) (And.intro (fun _ _ => (S_api_Cube.inn _)) (And.intro (fun _ _ => (S_api_Cube.inn _)) trivial)) (And.intro (bel_of rfl) (And.intro (bel_of rfl) (And.intro (bel_of rfl) (And.intro trivial (And.intro trivial trivial))))) ?_
  rcases after_some h with ⟨e8, hi, h⟩ | hi
  · refine iter_space_Lean_L1 fu ((r3.1 : Nat) : Int) r3 fu ((0 : Int), (0, (fun _ => (S_api_Cube.mk (fun _ => 0) (fun _ => 0))))) hi ?_
    show Runs Try.prog Try.f18 0 X_space_Lean_L1T [(4, (D.own 3))] [none, none, none, some (.seq 44 e8.1 24 (D.arr e8.1 24 fun i => (S_api_Cube.d (e8.2 i))))] d []
    refine runs_regions 1 [([], [2])] (z := ([], [(2, (D.own 3))], [none, none, none, some (.seq 44 e8.1 24 (D.arr e8.1 24 fun i => (S_api_Cube.d (e8.2 i))))])) rfl (by kernel_rfl) trivial ?_
    rw [← Option.some.inj h] at hk
    obtain rfl : d = (D.lit e8.1 24 fun i => (S_api_Cube.d (e8.2 i))) := hk
    refine runs_freeze 3 (row := (.seq 44 e8.1 24 (D.arr e8.1 24 fun i => (S_api_Cube.d (e8.2 i))))) rfl ?_
    exact runs_ret (by kernel_rfl) trivial (Nat.le_refl 0) trivial (fun _ _ => (S_api_Cube.inn _))
  · exact iter_space_Lean_L1 fu ((r3.1 : Nat) : Int) r3 fu ((0 : Int), (0, (fun _ => (S_api_Cube.mk (fun _ => 0) (fun _ => 0))))) hi hk

theorem fc_space_Lean (fu : Nat) (t0 : (Nat × (Nat → S_api_Cube))) {r : (Nat × (Nat → S_api_Cube))} (h : F_space_Lean fu t0 = some r) : FC Try.prog 18 [(D.lit t0.1 24 fun i => (S_api_Cube.d (t0.2 i)))] [] (D.lit r.1 24 fun i => (S_api_Cube.d (r.2 i))) [] := by
  refine fc_of_runs (fn := Try.f18) (c := Try.f18.body.getD .skip) (by kernel_rfl) (by kernel_rfl) ?_
  refine runs_to (ts := [0]) (T' := T_space_Lean) (env' := [(0, (D.lit t0.1 24 fun i => (S_api_Cube.d (t0.2 i))))]) (h2 := []) (by kernel_rfl) (by kernel_rfl) trivial (Nat.le_refl _) trivial (And.intro (fun _ _ => (S_api_Cube.inn _)) trivial) ?_
  exact run_space_Lean fu t0 h rfl

def K_space_lean (d : D) (r : ((Nat × (Nat → S_api_Cube)) × Int)) : Prop := d = (D.tup (D.cons (D.lit r.1.1 24 fun i => (S_api_Cube.d (r.1.2 i))) (D.cons (D.int .i64 r.2) D.nil)))

noncomputable def T_space_lean : List Item := norm 200 [.code (Try.f52.body.getD .skip)]

/-- podesta/space.lean -/
def F_space_lean (fu : Nat) (t0 : (Nat × (Nat → S_api_Cube))) : Option ((Nat × (Nat → S_api_Cube)) × Int) :=
  (F_space_Lean fu t0).bind fun r0 =>
  ifs (decide (((r0.1 : Nat) : Int) > (64 : Int))) (
    some ((0, (fun _ => (S_api_Cube.mk (fun _ => 0) (fun _ => 0)))), (3 : Int))) (
    some (r0, (0 : Int)))

theorem run_space_lean (fu : Nat) (t0 : (Nat × (Nat → S_api_Cube))) {d : D} {r : ((Nat × (Nat → S_api_Cube)) × Int)} (h : F_space_lean fu t0 = some r) (hk : (K_space_lean d) r) : Runs Try.prog Try.f52 0 T_space_lean [(0, (D.lit t0.1 24 fun i => (S_api_Cube.d (t0.2 i))))] [] d [] := by
  unfold F_space_lean at h
  obtain ⟨r0, cr0, h⟩ := Option.bind_eq_some_iff.1 h
  refine runs_regions 3 [([], [0]), ([(.d (D.lit r0.1 24 fun i => (S_api_Cube.d (r0.2 i))))], [4]), ([], [4, 9])] (z := ([FC Try.prog 18 [(D.lit t0.1 24 fun i => (S_api_Cube.d (t0.2 i)))] [] (D.lit r0.1 24 fun i => (S_api_Cube.d (r0.2 i))) [], All (List.map NoRow [(D.lit t0.1 24 fun i => (S_api_Cube.d (t0.2 i)))])], [(4, (D.lit r0.1 24 fun i => (S_api_Cube.d (r0.2 i)))), (9, (D.bool (decide (((r0.1 : Nat) : Int) > (64 : Int)))))], [])) rfl (by kernel_rfl) (And.intro (fc_space_Lean fu t0 cr0) (And.intro (And.intro (fun _ _ => (S_api_Cube.inn _)) trivial) trivial)) ?_
  refine runs_if (b := (decide (((r0.1 : Nat) : Int) > (64 : Int)))) (by kernel_rfl) (fun hb => ?_) (fun hb => ?_)
  · replace h := ifs_true h hb
    refine runs_regions 1 [([], [2, 3])] (z := ([], [(2, D.nils), (3, (D.int .i64 (3 : Int)))], [])) rfl (by kernel_rfl) trivial ?_
    rw [← Option.some.inj h] at hk
    obtain rfl : d = (D.tup (D.cons (D.lit 0 24 fun i => (S_api_Cube.d ((fun _ => (S_api_Cube.mk (fun _ => 0) (fun _ => 0))) i))) (D.cons (D.int .i64 (3 : Int)) D.nil))) := hk
    refine runs_nils 2 24 (fun i => (S_api_Cube.d ((fun _ => (S_api_Cube.mk (fun _ => 0) (fun _ => 0))) i))) (by kernel_rfl) ?_
    exact runs_ret (by kernel_rfl) trivial (Nat.le_refl 0) trivial (And.intro (fun _ _ => (S_api_Cube.inn _)) (And.intro trivial trivial))
  · replace h := ifs_false h hb
    refine runs_regions 1 [([], [2, 3])] (z := ([], [(2, (D.lit r0.1 24 fun i => (S_api_Cube.d (r0.2 i)))), (3, (D.int .i64 (0 : Int)))], [])) rfl (by kernel_rfl) trivial ?_
    rw [← Option.some.inj h] at hk
    obtain rfl : d = (D.tup (D.cons (D.lit r0.1 24 fun i => (S_api_Cube.d (r0.2 i))) (D.cons (D.int .i64 (0 : Int)) D.nil))) := hk
    exact runs_ret (by kernel_rfl) trivial (Nat.le_refl 0) trivial (And.intro (fun _ _ => (S_api_Cube.inn _)) (And.intro trivial trivial))

theorem fc_space_lean (fu : Nat) (t0 : (Nat × (Nat → S_api_Cube))) {r : ((Nat × (Nat → S_api_Cube)) × Int)} (h : F_space_lean fu t0 = some r) : FC Try.prog 52 [(D.lit t0.1 24 fun i => (S_api_Cube.d (t0.2 i)))] [] (D.tup (D.cons (D.lit r.1.1 24 fun i => (S_api_Cube.d (r.1.2 i))) (D.cons (D.int .i64 r.2) D.nil))) [] := by
  refine fc_of_runs (fn := Try.f52) (c := Try.f52.body.getD .skip) (by kernel_rfl) (by kernel_rfl) ?_
  refine runs_to (ts := [0]) (T' := T_space_lean) (env' := [(0, (D.lit t0.1 24 fun i => (S_api_Cube.d (t0.2 i))))]) (h2 := []) (by kernel_rfl) (by kernel_rfl) trivial (Nat.le_refl _) trivial (And.intro (fun _ _ => (S_api_Cube.inn _)) trivial) ?_
  exact run_space_lean fu t0 h rfl

def K_space_Less (d : D) (r : ((Nat × (Nat → S_api_Cube)) × Int)) : Prop := d = (D.tup (D.cons (D.lit r.1.1 24 fun i => (S_api_Cube.d (r.1.2 i))) (D.cons (D.int .i64 r.2) D.nil)))

noncomputable def T_space_Less : List Item := norm 200 [.code (Try.f26.body.getD .skip)]

noncomputable def T_space_Less_L2 : List Item := norm 200 (nxt (nxt (nxt (cndT (nxt (nxt (nxt (cndF (nxt (nxt T_space_Less))))))))))

noncomputable def X_space_Less_L2T : List Item := norm 200 (cndF (nxt (nxt (nxt (nxt (cndT (nxt (nxt (nxt (cndF (nxt (nxt T_space_Less))))))))))))

noncomputable def T_space_Less_L1 : List Item := norm 200 (nxt (nxt (cndF (nxt (nxt T_space_Less)))))

noncomputable def X_space_Less_L1T : List Item := norm 200 (cndF (nxt (nxt (nxt (cndF (nxt (nxt T_space_Less)))))))

abbrev E_space_Less_L1 := (Nat × (Nat → S_api_Cube))

def N_space_Less_L1 (_fu : Nat) (t23 : (Nat × (Nat → S_api_Cube))) (t24 : Int) (d : D) (s : ((Nat × (Nat → S_api_Cube)) × Int)) : Prop := Runs Try.prog Try.f26 0 T_space_Less_L1 [(6, (D.lit s.1.1 24 fun i => (S_api_Cube.d (s.1.2 i)))), (23, (D.lit t23.1 24 fun i => (S_api_Cube.d (t23.2 i)))), (24, (D.int .i64 t24)), (25, (D.int .i64 s.2))] [] d []

def X_space_Less_L1 (_fu : Nat) (_t23 : (Nat × (Nat → S_api_Cube))) (_t24 : Int) (d : D) : E_space_Less_L1 ⊕ ((Nat × (Nat → S_api_Cube)) × Int) → Prop
  | .inl e => Runs Try.prog Try.f26 0 X_space_Less_L1T [(6, (D.lit e.1 24 fun i => (S_api_Cube.d (e.2 i))))] [] d []
  | .inr o => (K_space_Less d) o

abbrev E_space_Less_L2 := (Nat × (Nat → S_api_Cube))

def N_space_Less_L2 (_fu : Nat) (t23 : (Nat × (Nat → S_api_Cube))) (t24 : Int) (t25 : Int) (t29 : (Nat × (Nat → S_api_Cube))) (t30 : Int) (m0 : S_api_Cube) (d : D) (s : (Int × (Nat × (Nat → S_api_Cube)))) : Prop := Runs Try.prog Try.f26 0 T_space_Less_L2 [(8, (D.ptr 0 [])), (9, (D.own 1)), (23, (D.lit t23.1 24 fun i => (S_api_Cube.d (t23.2 i)))), (24, (D.int .i64 t24)), (25, (D.int .i64 t25)), (29, (D.lit t29.1 24 fun i => (S_api_Cube.d (t29.2 i)))), (30, (D.int .i64 t30)), (31, (D.int .i64 s.1))] [some (.box (S_api_Cube.d m0)), some (.seq 44 s.2.1 24 (D.arr s.2.1 24 fun i => (S_api_Cube.d (s.2.2 i))))] d []

def X_space_Less_L2 (fu : Nat) (t23 : (Nat × (Nat → S_api_Cube))) (t24 : Int) (t25 : Int) (_t29 : (Nat × (Nat → S_api_Cube))) (_t30 : Int) (_m0 : S_api_Cube) (d : D) : E_space_Less_L2 ⊕ (Lo ((Nat × (Nat → S_api_Cube)) × Int) E_space_Less_L1 ((Nat × (Nat → S_api_Cube)) × Int)) → Prop
  | .inl e => Runs Try.prog Try.f26 0 X_space_Less_L2T [(9, (D.own 1)), (23, (D.lit t23.1 24 fun i => (S_api_Cube.d (t23.2 i)))), (24, (D.int .i64 t24)), (25, (D.int .i64 t25))] [none, some (.seq 44 e.1 24 (D.arr e.1 24 fun i => (S_api_Cube.d (e.2 i))))] d []
  | .inr o => (Lo.post (N_space_Less_L1 fu t23 t24 d) (X_space_Less_L1 fu t23 t24 d)) o

def F_space_Less_L2 (fu : Nat) (_t23 : (Nat × (Nat → S_api_Cube))) (_t24 : Int) (_t25 : Int) (t29 : (Nat × (Nat → S_api_Cube))) (t30 : Int) (m0 : S_api_Cube) (t31 : Int) (m1 : (Nat × (Nat → S_api_Cube))) : Option (Lo (Int × (Nat × (Nat → S_api_Cube))) E_space_Less_L2 (Lo ((Nat × (Nat → S_api_Cube)) × Int) E_space_Less_L1 ((Nat × (Nat → S_api_Cube)) × Int))) :=
  ifs (decide (t31 < t30)) (
    chk (0 ≤ t31 ∧ t31 < ((t29.1 : Nat) : Int)) <|
    (F_cube_Less fu (t29.2 t31.toNat) m0).bind fun r3 =>
    chk (RoomOk (m1.1 + r3.1) 192) <|
    some (.next ((IntKind.wrap .i64 (t31 + (1 : Int))), ((m1.1 + r3.1), (fun i => if i < m1.1 then m1.2 i else r3.2 (i - m1.1)))))) (
    some (.exit m1))

theorem run_space_Less_L2 (fu : Nat) (t23 : (Nat × (Nat → S_api_Cube))) (t24 : Int) (t25 : Int) (t29 : (Nat × (Nat → S_api_Cube))) (t30 : Int) (m0 : S_api_Cube) (t31 : Int) (m1 : (Nat × (Nat → S_api_Cube))) {d : D} {o : (Lo (Int × (Nat × (Nat → S_api_Cube))) E_space_Less_L2 (Lo ((Nat × (Nat → S_api_Cube)) × Int) E_space_Less_L1 ((Nat × (Nat → S_api_Cube)) × Int)))} (h : F_space_Less_L2 fu t23 t24 t25 t29 t30 m0 t31 m1 = some o) (hk : (Lo.post (N_space_Less_L2 fu t23 t24 t25 t29 t30 m0 d) (X_space_Less_L2 fu t23 t24 t25 t29 t30 m0 d)) o) : Runs Try.prog Try.f26 0 T_space_Less_L2 [(8, (D.ptr 0 [])), (9, (D.own 1)), (23, (D.lit t23.1 24 fun i => (S_api_Cube.d (t23.2 i)))), (24, (D.int .i64 t24)), (25, (D.int .i64 t25)), (29, (D.lit t29.1 24 fun i => (S_api_Cube.d (t29.2 i)))), (30, (D.int .i64 t30)), (31, (D.int .i64 t31))] [some (.box (S_api_Cube.d m0)), some (.seq 44 m1.1 24 (D.arr m1.1 24 fun i => (S_api_Cube.d (m1.2 i))))] d [] := by
  unfold F_space_Less_L2 at h
  refine runs_regions 1 [([], [8, 9, 23, 24, 25, 29, 30, 31, 32])] (z := ([], [(8, (D.ptr 0 [])), (9, (D.own 1)), (23, (D.lit t23.1 24 fun i => (S_api_Cube.d (t23.2 i)))), (24, (D.int .i64 t24)), (25, (D.int .i64 t25)), (29, (D.lit t29.1 24 fun i => (S_api_Cube.d (t29.2 i)))), (30, (D.int .i64 t30)), (31, (D.int .i64 t31)), (32, (D.bool (decide (t31 < t30))))], [some (.box (S_api_Cube.d m0)), some (.seq 44 m1.1 24 (D.arr m1.1 24 fun i => (S_api_Cube.d (m1.2 i))))])) rfl (by kernel_rfl) trivial ?_
  refine runs_if (b := (decide (t31 < t30))) (by kernel_rfl) (fun hb => ?_) (fun hb => ?_)
  · replace h := ifs_true h hb
    obtain ⟨p1, h⟩ := chk_some h
    obtain ⟨r3, cr3, h⟩ := Option.bind_eq_some_iff.1 h
    obtain ⟨p2, h⟩ := chk_some h
    refine runs_regions 3 [([], [8, 9, 11, 23, 24, 25, 29, 30, 31]), ([(.d (D.lit r3.1 24 fun i => (S_api_Cube.d (r3.2 i)))), (.d (D.arr (m1.1 + r3.1) 24 fun i => (S_api_Cube.d ((fun i => if i < m1.1 then m1.2 i else r3.2 (i - m1.1)) i))))], [8, 9, 23, 24, 25, 29, 30, 31]), ([], [8, 9, 23, 24, 25, 29, 30, 31])] (z := ([(0 ≤ t31 ∧ t31 < ((t29.1 : Nat) : Int)), FC Try.prog 51 [(S_api_Cube.d (t29.2 t31.toNat)), (S_api_Cube.d m0)] [] (D.lit r3.1 24 fun i => (S_api_Cube.d (r3.2 i))) [], All (List.map NoRow [(S_api_Cube.d (t29.2 t31.toNat)), (S_api_Cube.d m0)]), (RoomOk (m1.1 + r3.1) 192), CatOk (D.arr m1.1 24 fun i => (S_api_Cube.d (m1.2 i))) (D.arr r3.1 24 fun i => (S_api_Cube.d (r3.2 i))) (D.arr (m1.1 + r3.1) 24 fun i => (S_api_Cube.d ((fun i => if i < m1.1 then m1.2 i else r3.2 (i - m1.1)) i)))], [(8, (D.ptr 0 [])), (9, (D.own 3)), (23, (D.lit t23.1 24 fun i => (S_api_Cube.d (t23.2 i)))), (24, (D.int .i64 t24)), (25, (D.int .i64 t25)), (29, (D.lit t29.1 24 fun i => (S_api_Cube.d (t29.2 i)))), (30, (D.int .i64 t30)), (31, (D.int .i64 (IntKind.wrap .i64 (t31 + (1 : Int)))))], [some (.box (S_api_Cube.d m0)), none, some (.box (S_api_Cube.d (t29.2 t31.toNat))), some (.seq 44 (m1.1 + r3.1) 24 (D.arr (m1.1 + r3.1) 24 fun i => (S_api_Cube.d ((fun i => if i < m1.1 then m1.2 i else r3.2 (i - m1.1)) i))))])) rfl (by kernel_rfl) (And.intro p1 (And.intro (fc_cube_Less fu (t29.2 t31.toNat) m0 cr3) (And.intro (And.intro (S_api_Cube.inn _) (And.intro (S_api_Cube.inn _) trivial)) (And.intro p2 (And.intro (catOk_arr' rfl fun i => (d_ite (f := fun x : S_api_Cube => (S_api_Cube.d x)) rfl rfl).symm) trivial))))) ?_
    rw [← Option.some.inj h] at hk
    refine runs_to (ts := [8, 9, 23, 24, 25, 29, 30, 31]) (T' := T_space_Less_L2) (env' := [(8, (D.ptr 0 [])), (9, (D.own 3)), (23, (D.lit t23.1 24 fun i => (S_api_Cube.d (t23.2 i)))), (24, (D.int .i64 t24)), (25, (D.int .i64 t25)), (29, (D.lit t29.1 24 fun i => (S_api_Cube.d (t29.2 i)))), (30, (D.int .i64 t30)), (31, (D.int .i64 (IntKind.wrap .i64 (t31 + (1 : Int)))))]) (h2 := [some (.box (S_api_Cube.d m0)), none, some (.box (S_api_Cube.d (t29.2 t31.toNat))), some (.seq 44 (m1.1 + r3.1) 24 (D.arr (m1.1 + r3.1) 24 fun i => (S_api_Cube.d ((fun i => if i < m1.1 then m1.2 i else r3.2 (i - m1.1)) i))))]) (by kernel_rfl) (by kernel_rfl) (And.intro (.inr rfl) (And.intro (.inl rfl) (And.intro (.inr rfl) (And.intro (.inr rfl) trivial)))) (Nat.zero_le _) (And.intro (S_api_Cube.inn _) (And.intro (S_api_Cube.inn _) (And.intro (fun _ _ => (S_api_Cube.inn _)) trivial))) (And.intro (bel_of rfl) (And.intro (bel_of rfl) (And.intro (fun _ _ => (S_api_Cube.inn _)) (And.intro trivial (And.intro trivial (And.intro (fun _ _ => (S_api_Cube.inn _)) (And.intro trivial (And.intro trivial trivial)))))))) ?_
    refine runs_rename 1 3 (row := (.seq 44 (m1.1 + r3.1) 24 (D.arr (m1.1 + r3.1) 24 fun i => (S_api_Cube.d ((fun i => if i < m1.1 then m1.2 i else r3.2 (i - m1.1)) i))))) (by decide) (Nat.zero_le _) rfl rfl (And.intro (S_api_Cube.rnk _) (And.intro (S_api_Cube.rnk _) (And.intro (fun _ _ => (S_api_Cube.inn _)) trivial))) (And.intro (rn_ptr rfl) (And.intro (rn_own rfl) (And.intro (fun _ _ => (S_api_Cube.inn _)) (And.intro trivial (And.intro trivial (And.intro (fun _ _ => (S_api_Cube.inn _)) (And.intro trivial (And.intro trivial trivial)))))))) ?_
    refine runs_to (ts := [8, 9, 23, 24, 25, 29, 30, 31]) (T' := T_space_Less_L2) (env' := [(8, (D.ptr 0 [])), (9, (D.own 1)), (23, (D.lit t23.1 24 fun i => (S_api_Cube.d (t23.2 i)))), (24, (D.int .i64 t24)), (25, (D.int .i64 t25)), (29, (D.lit t29.1 24 fun i => (S_api_Cube.d (t29.2 i)))), (30, (D.int .i64 t30)), (31, (D.int .i64 (IntKind.wrap .i64 (t31 + (1 : Int)))))]) (h2 := [some (.box (S_api_Cube.d m0)), some (.seq 44 (m1.1 + r3.1) 24 (D.arr (m1.1 + r3.1) 24 fun i => (S_api_Cube.d ((fun i => if i < m1.1 then m1.2 i else r3.2 (i - m1.1)) i))))]) (by kernel_rfl) (by kernel_rfl) (And.intro (.inr rfl) (And.intro (.inr rfl) trivial)) (Nat.zero_le _) (And.intro (S_api_Cube.inn _) (And.intro (fun _ _ => (S_api_Cube.inn _)) trivial)) (And.intro (bel_of rfl) (And.intro (bel_of rfl) (And.intro (fun _ _ => (S_api_Cube.inn _)) (And.intro trivial (And.intro trivial (And.intro (fun _ _ => (S_api_Cube.inn _)) (And.intro trivial (And.intro trivial trivial)))))))) ?_
    exact hk
  · replace h := ifs_false h hb
    rw [← Option.some.inj h] at hk
    refine runs_to (ts := [9, 23, 24, 25]) (T' := X_space_Less_L2T) (env' := [(9, (D.own 1)), (23, (D.lit t23.1 24 fun i => (S_api_Cube.d (t23.2 i)))), (24, (D.int .i64 t24)), (25, (D.int .i64 t25))]) (h2 := [none, some (.seq 44 m1.1 24 (D.arr m1.1 24 fun i => (S_api_Cube.d (m1.2 i))))]) (by kernel_rfl) (by kernel_rfl) (And.intro (.inl rfl) (And.intro (.inr rfl) trivial)) (Nat.zero_le _) (And.intro (fun _ _ => (S_api_Cube.inn _)) trivial) (And.intro (bel_of rfl) (And.intro (fun _ _ => (S_api_Cube.inn _)) (And.intro trivial (And.intro trivial trivial)))) ?_
    exact hk

theorem iter_space_Less_L2 (fu : Nat) (t23 : (Nat × (Nat → S_api_Cube))) (t24 : Int) (t25 : Int) (t29 : (Nat × (Nat → S_api_Cube))) (t30 : Int) (m0 : S_api_Cube) {d : D} (k : Nat) (s : (Int × (Nat × (Nat → S_api_Cube)))) {o : E_space_Less_L2 ⊕ (Lo ((Nat × (Nat → S_api_Cube)) × Int) E_space_Less_L1 ((Nat × (Nat → S_api_Cube)) × Int))} (h : iter (fun s => F_space_Less_L2 fu t23 t24 t25 t29 t30 m0 s.1 s.2) k s = some o) (hx : X_space_Less_L2 fu t23 t24 t25 t29 t30 m0 d o) : N_space_Less_L2 fu t23 t24 t25 t29 t30 m0 d s :=
  iter_post (K := N_space_Less_L2 fu t23 t24 t25 t29 t30 m0 d) (X := X_space_Less_L2 fu t23 t24 t25 t29 t30 m0 d) (fun s _ h hk => run_space_Less_L2 fu t23 t24 t25 t29 t30 m0 s.1 s.2 h hk) k s o h hx

def F_space_Less_L1 (fu : Nat) (t23 : (Nat × (Nat → S_api_Cube))) (t24 : Int) (t6 : (Nat × (Nat → S_api_Cube))) (t25 : Int) : Option (Lo ((Nat × (Nat → S_api_Cube)) × Int) E_space_Less_L1 ((Nat × (Nat → S_api_Cube)) × Int)) :=
  ifs (decide (t25 < t24)) (
    chk (0 ≤ t25 ∧ t25 < ((t23.1 : Nat) : Int)) <|
    after (iter (fun s => F_space_Less_L2 fu t23 t24 t25 t6 ((t6.1 : Nat) : Int) (t23.2 t25.toNat) s.1 s.2) fu ((0 : Int), (0, (fun _ => (S_api_Cube.mk (fun _ => 0) (fun _ => 0)))))) fun e4 =>
    (F_space_lean fu e4).bind fun r4 =>
    ifs (r4.2 != (0 : Int)) (
      some (.ret ((0, (fun _ => (S_api_Cube.mk (fun _ => 0) (fun _ => 0)))), r4.2))) (
      some (.next (r4.1, (IntKind.wrap .i64 (t25 + (1 : Int))))))) (
    some (.exit t6))

theorem run_space_Less_L1 (fu : Nat) (t23 : (Nat × (Nat → S_api_Cube))) (t24 : Int) (t6 : (Nat × (Nat → S_api_Cube))) (t25 : Int) {d : D} {o : (Lo ((Nat × (Nat → S_api_Cube)) × Int) E_space_Less_L1 ((Nat × (Nat → S_api_Cube)) × Int))} (h : F_space_Less_L1 fu t23 t24 t6 t25 = some o) (hk : (Lo.post (N_space_Less_L1 fu t23 t24 d) (X_space_Less_L1 fu t23 t24 d)) o) : Runs Try.prog Try.f26 0 T_space_Less_L1 [(6, (D.lit t6.1 24 fun i => (S_api_Cube.d (t6.2 i)))), (23, (D.lit t23.1 24 fun i => (S_api_Cube.d (t23.2 i)))), (24, (D.int .i64 t24)), (25, (D.int .i64 t25))] [] d [] := by
  unfold F_space_Less_L1 at h
  refine runs_regions 1 [([], [6, 23, 24, 25, 26])] (z := ([], [(6, (D.lit t6.1 24 fun i => (S_api_Cube.d (t6.2 i)))), (23, (D.lit t23.1 24 fun i => (S_api_Cube.d (t23.2 i)))), (24, (D.int .i64 t24)), (25, (D.int .i64 t25)), (26, (D.bool (decide (t25 < t24))))], [])) rfl (by kernel_rfl) trivial ?_
  refine runs_if (b := (decide (t25 < t24))) (by kernel_rfl) (fun hb => ?_) (fun hb => ?_)
  · replace h := ifs_true h hb
    obtain ⟨p0, h⟩ := chk_some h
    refine runs_regions 3 [([], [6, 8, 23, 24, 25]), ([(.nil 44 24 (D.arr 0 24 fun i => (S_api_Cube.d ((fun _ => (S_api_Cube.mk (fun _ => 0) (fun _ => 0))) i))))], [6, 8, 9, 23, 24, 25]), ([], [8, 9, 23, 24, 25, 29, 30, 31])] (z := ([(0 ≤ t25 ∧ t25 < ((t23.1 : Nat) : Int)), EmptyOk (D.arr 0 24 fun i => (S_api_Cube.d ((fun _ => (S_api_Cube.mk (fun _ => 0) (fun _ => 0))) i)))], [(8, (D.ptr 0 [])), (9, (D.own 1)), (23, (D.lit t23.1 24 fun i => (S_api_Cube.d (t23.2 i)))), (24, (D.int .i64 t24)), (25, (D.int .i64 t25)), (29, (D.lit t6.1 24 fun i => (S_api_Cube.d (t6.2 i)))), (30, (D.int .i64 ((t6.1 : Nat) : Int))), (31, (D.int .i64 (0 : Int)))], [some (.box (S_api_Cube.d (t23.2 t25.toNat))), some (.seq 44 0 24 (D.arr 0 24 fun i => (S_api_Cube.d ((fun _ => (S_api_Cube.mk (fun _ => 0) (fun _ => 0))) i))))])) rfl (by kernel_rfl) (And.intro p0 (And.intro emptyOk_arr trivial)) ?_
    refine runs_to (ts := [8, 9, 23, 24, 25, 29, 30, 31]) (T' := T_space_Less_L2) (env' := [(8, (D.ptr 0 [])), (9, (D.own 1)), (23, (D.lit t23.1 24 fun i => (S_api_Cube.d (t23.2 i)))), (24, (D.int .i64 t24)), (25, (D.int .i64 t25)), (29, (D.lit t6.1 24 fun i => (S_api_Cube.d (t6.2 i)))), (30, (D.int .i64 ((t6.1 : Nat) : Int))), (31, (D.int .i64 (0 : Int)))]) (h2 := [some (.box (S_api_Cube.d (t23.2 t25.toNat))), some (.seq 44 0 24 (D.arr 0 24 fun i => (S_api_Cube.d ((fun _ => (S_api_Cube.mk (fun _ => 0) (fun _ => 0))) i))))]) (by kernel_rfl) (by kernel_rfl) (And.intro (.inr rfl) (And.intro (.inr rfl) trivial)) (Nat.zero_le _) (And.intro (S_api_Cube.inn _) (And.intro (fun _ _ => (S_api_Cube.inn _)) trivial)) (And.intro (bel_of rfl) (And.intro (bel_of rfl) (And.intro (fun _ _ => (S_api_Cube.inn _)) (And.intro trivial (And.intro trivial (And.intro (fun _ _ => (S_api_Cube.inn _)) (And.intro trivial (And.intro trivial trivial)))))))) ?_
    rcases after_some h with ⟨e4, hi, h⟩ | hi
    · refine iter_space_Less_L2 fu t23 t24 t25 t6 ((t6.1 : Nat) : Int) (t23.2 t25.toNat) fu ((0 : Int), (0, (fun _ => (S_api_Cube.mk (fun _ => 0) (fun _ => 0))))) hi ?_
      show Runs Try.prog Try.f26 0 X_space_Less_L2T [(9, (D.own 1)), (23, (D.lit t23.1 24 fun i => (S_api_Cube.d (t23.2 i)))), (24, (D.int .i64 t24)), (25, (D.int .i64 t25))] [none, some (.seq 44 e4.1 24 (D.arr e4.1 24 fun i => (S_api_Cube.d (e4.2 i))))] d []
      refine runs_regions 1 [([], [9, 23, 24, 25])] (z := ([], [(9, (D.own 1)), (23, (D.lit t23.1 24 fun i => (S_api_Cube.d (t23.2 i)))), (24, (D.int .i64 t24)), (25, (D.int .i64 t25))], [none, some (.seq 44 e4.1 24 (D.arr e4.1 24 fun i => (S_api_Cube.d (e4.2 i))))])) rfl (by kernel_rfl) trivial ?_
      refine runs_freeze 1 (row := (.seq 44 e4.1 24 (D.arr e4.1 24 fun i => (S_api_Cube.d (e4.2 i))))) rfl ?_
      obtain ⟨r4, cr4, h⟩ := Option.bind_eq_some_iff.1 h
      refine runs_regions 2 [([(.d (D.tup (D.cons (D.lit r4.1.1 24 fun i => (S_api_Cube.d (r4.1.2 i))) (D.cons (D.int .i64 r4.2) D.nil))))], [6, 12, 23, 24, 25]), ([], [6, 12, 23, 24, 25, 47])] (z := ([FC Try.prog 52 [(D.lit e4.1 24 fun i => (S_api_Cube.d (e4.2 i)))] [] (D.tup (D.cons (D.lit r4.1.1 24 fun i => (S_api_Cube.d (r4.1.2 i))) (D.cons (D.int .i64 r4.2) D.nil))) [], All (List.map NoRow [(D.lit e4.1 24 fun i => (S_api_Cube.d (e4.2 i)))])], [(6, (D.lit r4.1.1 24 fun i => (S_api_Cube.d (r4.1.2 i)))), (12, (D.int .i64 r4.2)), (23, (D.lit t23.1 24 fun i => (S_api_Cube.d (t23.2 i)))), (24, (D.int .i64 t24)), (25, (D.int .i64 t25)), (47, (D.bool (r4.2 != (0 : Int))))], [none, none])) rfl (by kernel_rfl) (And.intro (fc_space_lean fu e4 cr4) (And.intro (And.intro (fun _ _ => (S_api_Cube.inn _)) trivial) trivial)) ?_
      refine runs_if (b := (r4.2 != (0 : Int))) (by kernel_rfl) (fun hb => ?_) (fun hb => ?_)
      · replace h := ifs_true h hb
        refine runs_regions 1 [([], [4, 5])] (z := ([], [(4, D.nils), (5, (D.int .i64 r4.2))], [none, none])) rfl (by kernel_rfl) trivial ?_
        rw [← Option.some.inj h] at hk
        obtain rfl : d = (D.tup (D.cons (D.lit 0 24 fun i => (S_api_Cube.d ((fun _ => (S_api_Cube.mk (fun _ => 0) (fun _ => 0))) i))) (D.cons (D.int .i64 r4.2) D.nil))) := hk
        refine runs_nils 4 24 (fun i => (S_api_Cube.d ((fun _ => (S_api_Cube.mk (fun _ => 0) (fun _ => 0))) i))) (by kernel_rfl) ?_
        exact runs_ret (by kernel_rfl) trivial (Nat.le_refl 0) trivial (And.intro (fun _ _ => (S_api_Cube.inn _)) (And.intro trivial trivial))
      · replace h := ifs_false h hb
        refine runs_regions 1 [([], [6, 23, 24, 25])] (z := ([], [(6, (D.lit r4.1.1 24 fun i => (S_api_Cube.d (r4.1.2 i)))), (23, (D.lit t23.1 24 fun i => (S_api_Cube.d (t23.2 i)))), (24, (D.int .i64 t24)), (25, (D.int .i64 (IntKind.wrap .i64 (t25 + (1 : Int)))))], [none, none])) rfl (by kernel_rfl) trivial ?_
        rw [← Option.some.inj h] at hk
        refine runs_to (ts := [6, 23, 24, 25]) (T' := T_space_Less_L1) (env' := [(6, (D.lit r4.1.1 24 fun i => (S_api_Cube.d (r4.1.2 i)))), (23, (D.lit t23.1 24 fun i => (S_api_Cube.d (t23.2 i)))), (24, (D.int .i64 t24)), (25, (D.int .i64 (IntKind.wrap .i64 (t25 + (1 : Int)))))]) (h2 := []) (by kernel_rfl) (by kernel_rfl) trivial (Nat.zero_le _) trivial (And.intro (fun _ _ => (S_api_Cube.inn _)) (And.intro (fun _ _ => (S_api_Cube.inn _)) (And.intro trivial (And.intro trivial trivial)))) ?_
        exact hk
    · exact iter_space_Less_L2 fu t23 t24 t25 t6 ((t6.1 : Nat) : Int) (t23.2 t25.toNat) fu ((0 : Int), (0, (fun _ => (S_api_Cube.mk (fun _ => 0) (fun _ => 0))))) hi hk
  · replace h := ifs_false h hb
    rw [← Option.some.inj h] at hk
    refine runs_to (ts := [6]) (T' := X_space_Less_L1T) (env' := [(6, (D.lit t6.1 24 fun i => (S_api_Cube.d (t6.2 i))))]) (h2 := []) (by kernel_rfl) (by kernel_rfl) trivial (Nat.zero_le _) trivial (And.intro (fun _ _ => (S_api_Cube.inn _)) trivial) ?_
    exact hk

theorem iter_space_Less_L1 (fu : Nat) (t23 : (Nat × (Nat → S_api_Cube))) (t24 : Int) {d : D} (k : Nat) (s : ((Nat × (Nat → S_api_Cube)) × Int)) {o : E_space_Less_L1 ⊕ ((Nat × (Nat → S_api_Cube)) × Int)} (h : iter (fun s => F_space_Less_L1 fu t23 t24 s.1 s.2) k s = some o) (hx : X_space_Less_L1 fu t23 t24 d o) : N_space_Less_L1 fu t23 t24 d s :=
  iter_post (K := N_space_Less_L1 fu t23 t24 d) (X := X_space_Less_L1 fu t23 t24 d) (fun s _ h hk => run_space_Less_L1 fu t23 t24 s.1 s.2 h hk) k s o h hx

/-- podesta/space.Less -/
def F_space_Less (fu : Nat) (t0 : (Nat × (Nat → S_api_Cube))) (t1 : (Nat × (Nat → S_api_Cube))) : Option ((Nat × (Nat → S_api_Cube)) × Int) :=
  (F_space_Sound fu t0).bind fun r0 =>
  (callIf (!(!r0)) (F_space_Sound fu t1) false).bind fun r1 =>
  ifs (bif (!r0) then true else (!r1)) (
    some ((0, (fun _ => (S_api_Cube.mk (fun _ => 0) (fun _ => 0)))), (2 : Int))) (
    (F_space_Lean fu t0).bind fun r2 =>
    after (iter (fun s => F_space_Less_L1 fu t1 ((t1.1 : Nat) : Int) s.1 s.2) fu (r2, (0 : Int))) fun e5 =>
    some (e5, (0 : Int)))

theorem run_space_Less (fu : Nat) (t0 : (Nat × (Nat → S_api_Cube))) (t1 : (Nat × (Nat → S_api_Cube))) {d : D} {r : ((Nat × (Nat → S_api_Cube)) × Int)} (h : F_space_Less fu t0 t1 = some r) (hk : (K_space_Less d) r) : Runs Try.prog Try.f26 0 T_space_Less [(0, (D.lit t0.1 24 fun i => (S_api_Cube.d (t0.2 i)))), (1, (D.lit t1.1 24 fun i => (S_api_Cube.d (t1.2 i))))] [] d [] := by
  unfold F_space_Less at h
  obtain ⟨r0, cr0, h⟩ := Option.bind_eq_some_iff.1 h
  obtain ⟨r1, cr1, h⟩ := Option.bind_eq_some_iff.1 h
  refine runs_regions 2 [([], [0, 1]), ([(.d (D.bool r0)), (.d (D.bool r1))], [0, 1, 20])] (z := ([FC Try.prog 20 [(D.lit t0.1 24 fun i => (S_api_Cube.d (t0.2 i)))] [] (D.bool r0) [], All (List.map NoRow [(D.lit t0.1 24 fun i => (S_api_Cube.d (t0.2 i)))]), ((!(!r0)) = true → All [((!(!r0)) = true → (!(!r0)) = true), FC Try.prog 20 [(D.lit t1.1 24 fun i => (S_api_Cube.d (t1.2 i)))] [] (D.bool r1) [], All (List.map NoRow [(D.lit t1.1 24 fun i => (S_api_Cube.d (t1.2 i)))])]), ((!(!r0)) = true → All [((!(!r0)) = true → (!(!r0)) = true)]), ((true && !(!r0)) = true → (!(!r0)) = true)], [(0, (D.lit t0.1 24 fun i => (S_api_Cube.d (t0.2 i)))), (1, (D.lit t1.1 24 fun i => (S_api_Cube.d (t1.2 i)))), (20, (D.bool (bif (!r0) then true else (!r1))))], [])) rfl (by kernel_rfl) (And.intro (fc_space_Sound fu t0 cr0) (And.intro (And.intro (fun _ _ => (S_api_Cube.inn _)) trivial) (And.intro (fun hg => (And.intro (by first | exact fun h => h | exact fun h => (Bool.and_eq_true_iff.1 h).1 | simp_all) (And.intro (fc_space_Sound fu t1 (callIf_some cr1 hg)) (And.intro (And.intro (fun _ _ => (S_api_Cube.inn _)) trivial) trivial)))) (And.intro (fun _ => (And.intro (by first | exact fun h => h | exact fun h => (Bool.and_eq_true_iff.1 h).1 | simp_all) trivial)) (And.intro (by first | exact fun h => h | exact fun h => (Bool.and_eq_true_iff.1 h).1 | simp_all) trivial))))) ?_
  refine runs_if (b := (bif (!r0) then true else (!r1))) (by kernel_rfl) (fun hb => ?_) (fun hb => ?_)
  · replace h := ifs_true h hb
    refine runs_regions 1 [([], [4, 5])] (z := ([], [(4, D.nils), (5, (D.int .i64 (2 : Int)))], [])) rfl (by kernel_rfl) trivial ?_
    rw [← Option.some.inj h] at hk
    obtain rfl : d = (D.tup (D.cons (D.lit 0 24 fun i => (S_api_Cube.d ((fun _ => (S_api_Cube.mk (fun _ => 0) (fun _ => 0))) i))) (D.cons (D.int .i64 (2 : Int)) D.nil))) := hk
    refine runs_nils 4 24 (fun i => (S_api_Cube.d ((fun _ => (S_api_Cube.mk (fun _ => 0) (fun _ => 0))) i))) (by kernel_rfl) ?_
    exact runs_ret (by kernel_rfl) trivial (Nat.le_refl 0) trivial (And.intro (fun _ _ => (S_api_Cube.inn _)) (And.intro trivial trivial))
  · replace h := ifs_false h hb
    obtain ⟨r2, cr2, h⟩ := Option.bind_eq_some_iff.1 h
    refine runs_regions 2 [([(.d (D.lit r2.1 24 fun i => (S_api_Cube.d (r2.2 i))))], [1, 6]), ([], [6, 23, 24, 25])] (z := ([FC Try.prog 18 [(D.lit t0.1 24 fun i => (S_api_Cube.d (t0.2 i)))] [] (D.lit r2.1 24 fun i => (S_api_Cube.d (r2.2 i))) [], All (List.map NoRow [(D.lit t0.1 24 fun i => (S_api_Cube.d (t0.2 i)))])], [(6, (D.lit r2.1 24 fun i => (S_api_Cube.d (r2.2 i)))), (23, (D.lit t1.1 24 fun i => (S_api_Cube.d (t1.2 i)))), (24, (D.int .i64 ((t1.1 : Nat) : Int))), (25, (D.int .i64 (0 : Int)))], [])) rfl (by kernel_rfl) (And.intro (fc_space_Lean fu t0 cr2) (And.intro (And.intro (fun _ _ => (S_api_Cube.inn _)) trivial) trivial)) ?_
    refine runs_to (ts := [6, 23, 24, 25]) (T' := T_space_Less_L1) (env' := [(6, (D.lit r2.1 24 fun i => (S_api_Cube.d (r2.2 i)))), (23, (D.lit t1.1 24 fun i => (S_api_Cube.d (t1.2 i)))), (24, (D.int .i64 ((t1.1 : Nat) : Int))), (25, (D.int .i64 (0 : Int)))]) (h2 := []) (by kernel_rfl) (by kernel_rfl) trivial (Nat.zero_le _) trivial (And.intro (fun _ _ => (S_api_Cube.inn _)) (And.intro (fun _ _ => (S_api_Cube.inn _)) (And.intro trivial (And.intro trivial trivial)))) ?_
    rcases after_some h with ⟨e5, hi, h⟩ | hi
    · refine iter_space_Less_L1 fu t1 ((t1.1 : Nat) : Int) fu (r2, (0 : Int)) hi ?_
      show Runs Try.prog Try.f26 0 X_space_Less_L1T [(6, (D.lit e5.1 24 fun i => (S_api_Cube.d (e5.2 i))))] [] d []
      refine runs_regions 1 [([], [4, 5])] (z := ([], [(4, (D.lit e5.1 24 fun i => (S_api_Cube.d (e5.2 i)))), (5, (D.int .i64 (0 : Int)))], [])) rfl (by kernel_rfl) trivial ?_
      rw [← Option.some.inj h] at hk
      obtain rfl : d = (D.tup (D.cons (D.lit e5.1 24 fun i => (S_api_Cube.d (e5.2 i))) (D.cons (D.int .i64 (0 : Int)) D.nil))) := hk
      exact runs_ret (by kernel_rfl) trivial (Nat.le_refl 0) trivial (And.intro (fun _ _ => (S_api_Cube.inn _)) (And.intro trivial trivial))
    · exact iter_space_Less_L1 fu t1 ((t1.1 : Nat) : Int) fu (r2, (0 : Int)) hi hk

theorem fc_space_Less (fu : Nat) (t0 : (Nat × (Nat → S_api_Cube))) (t1 : (Nat × (Nat → S_api_Cube))) {r : ((Nat × (Nat → S_api_Cube)) × Int)} (h : F_space_Less fu t0 t1 = some r) : FC Try.prog 26 [(D.lit t0.1 24 fun i => (S_api_Cube.d (t0.2 i))), (D.lit t1.1 24 fun i => (S_api_Cube.d (t1.2 i)))] [] (D.tup (D.cons (D.lit r.1.1 24 fun i => (S_api_Cube.d (r.1.2 i))) (D.cons (D.int .i64 r.2) D.nil))) [] := by
  refine fc_of_runs (fn := Try.f26) (c := Try.f26.body.getD .skip) (by kernel_rfl) (by kernel_rfl) ?_
  refine runs_to (ts := [0, 1]) (T' := T_space_Less) (env' := [(0, (D.lit t0.1 24 fun i => (S_api_Cube.d (t0.2 i)))), (1, (D.lit t1.1 24 fun i => (S_api_Cube.d (t1.2 i))))]) (h2 := []) (by kernel_rfl) (by kernel_rfl) trivial (Nat.le_refl _) trivial (And.intro (fun _ _ => (S_api_Cube.inn _)) (And.intro (fun _ _ => (S_api_Cube.inn _)) trivial)) ?_
  exact run_space_Less fu t0 t1 h rfl

def K_space_Within (d : D) (r : (Bool × Int)) : Prop := d = (D.tup (D.cons (D.bool r.1) (D.cons (D.int .i64 r.2) D.nil)))

noncomputable def T_space_Within : List Item := norm 200 [.code (Try.f27.body.getD .skip)]

/-- podesta/space.Within -/
def F_space_Within (fu : Nat) (t0 : (Nat × (Nat → S_api_Cube))) (t1 : (Nat × (Nat → S_api_Cube))) : Option (Bool × Int) :=
  (F_space_Less fu t0 t1).bind fun r0 =>
  some ((bif (r0.2 == (0 : Int)) then (((r0.1.1 : Nat) : Int) == (0 : Int)) else false), r0.2)

theorem run_space_Within (fu : Nat) (t0 : (Nat × (Nat → S_api_Cube))) (t1 : (Nat × (Nat → S_api_Cube))) {d : D} {r : (Bool × Int)} (h : F_space_Within fu t0 t1 = some r) (hk : (K_space_Within d) r) : Runs Try.prog Try.f27 0 T_space_Within [(0, (D.lit t0.1 24 fun i => (S_api_Cube.d (t0.2 i)))), (1, (D.lit t1.1 24 fun i => (S_api_Cube.d (t1.2 i))))] [] d [] := by
  unfold F_space_Within at h
  obtain ⟨r0, cr0, h⟩ := Option.bind_eq_some_iff.1 h
  refine runs_regions 3 [([], [0, 1]), ([(.d (D.tup (D.cons (D.lit r0.1.1 24 fun i => (S_api_Cube.d (r0.1.2 i))) (D.cons (D.int .i64 r0.2) D.nil))))], [6, 7]), ([], [4, 5])] (z := ([FC Try.prog 26 [(D.lit t0.1 24 fun i => (S_api_Cube.d (t0.2 i))), (D.lit t1.1 24 fun i => (S_api_Cube.d (t1.2 i)))] [] (D.tup (D.cons (D.lit r0.1.1 24 fun i => (S_api_Cube.d (r0.1.2 i))) (D.cons (D.int .i64 r0.2) D.nil))) [], All (List.map NoRow [(D.lit t0.1 24 fun i => (S_api_Cube.d (t0.2 i))), (D.lit t1.1 24 fun i => (S_api_Cube.d (t1.2 i)))]), ((r0.2 == (0 : Int)) = true → All [((r0.2 == (0 : Int)) = true → (r0.2 == (0 : Int)) = true)]), ((r0.2 == (0 : Int)) = true → All [((r0.2 == (0 : Int)) = true → (r0.2 == (0 : Int)) = true)]), ((true && (r0.2 == (0 : Int))) = true → (r0.2 == (0 : Int)) = true)], [(4, (D.bool (bif (r0.2 == (0 : Int)) then (((r0.1.1 : Nat) : Int) == (0 : Int)) else false))), (5, (D.int .i64 r0.2))], [])) rfl (by kernel_rfl) (And.intro (fc_space_Less fu t0 t1 cr0) (And.intro (And.intro (fun _ _ => (S_api_Cube.inn _)) (And.intro (fun _ _ => (S_api_Cube.inn _)) trivial)) (And.intro (fun _ => (And.intro (by first | exact fun h => h | exact fun h => (Bool.and_eq_true_iff.1 h).1 | simp_all) trivial)) (And.intro (fun _ => (And.intro (by first | exact fun h => h | exact fun h => (Bool.and_eq_true_iff.1 h).1 | simp_all) trivial)) (And.intro (by first | exact fun h => h | exact fun h => (Bool.and_eq_true_iff.1 h).1 | simp_all) trivial))))) ?_
  rw [← Option.some.inj h] at hk
  obtain rfl : d = (D.tup (D.cons (D.bool (bif (r0.2 == (0 : Int)) then (((r0.1.1 : Nat) : Int) == (0 : Int)) else false)) (D.cons (D.int .i64 r0.2) D.nil))) := hk
  exact runs_ret (by kernel_rfl) trivial (Nat.le_refl 0) trivial (And.intro trivial (And.intro trivial trivial))

theorem fc_space_Within (fu : Nat) (t0 : (Nat × (Nat → S_api_Cube))) (t1 : (Nat × (Nat → S_api_Cube))) {r : (Bool × Int)} (h : F_space_Within fu t0 t1 = some r) : FC Try.prog 27 [(D.lit t0.1 24 fun i => (S_api_Cube.d (t0.2 i))), (D.lit t1.1 24 fun i => (S_api_Cube.d (t1.2 i)))] [] (D.tup (D.cons (D.bool r.1) (D.cons (D.int .i64 r.2) D.nil))) [] := by
  refine fc_of_runs (fn := Try.f27) (c := Try.f27.body.getD .skip) (by kernel_rfl) (by kernel_rfl) ?_
  refine runs_to (ts := [0, 1]) (T' := T_space_Within) (env' := [(0, (D.lit t0.1 24 fun i => (S_api_Cube.d (t0.2 i)))), (1, (D.lit t1.1 24 fun i => (S_api_Cube.d (t1.2 i))))]) (h2 := []) (by kernel_rfl) (by kernel_rfl) trivial (Nat.le_refl _) trivial (And.intro (fun _ _ => (S_api_Cube.inn _)) (And.intro (fun _ _ => (S_api_Cube.inn _)) trivial)) ?_
  exact run_space_Within fu t0 t1 h rfl

def K_space_Has_1 (d : D) (r : Bool) : Prop := d = (D.bool r)

noncomputable def T_space_Has_1 : List Item := norm 200 [.code (Try.f47.body.getD .skip)]

/-- podesta/space.Has 1 -/
def F_space_Has_1 (fu : Nat) (t0 : S_api_Cube) (t1 : (Nat → Int)) : Option Bool :=
  (F_cube_Has fu t0 t1).bind fun r0 =>
  some r0

theorem run_space_Has_1 (fu : Nat) (t0 : S_api_Cube) (t1 : (Nat → Int)) {d : D} {r : Bool} (h : F_space_Has_1 fu t0 t1 = some r) (hk : (K_space_Has_1 d) r) : Runs Try.prog Try.f47 0 T_space_Has_1 [(0, (S_api_Cube.d t0)), (1, (D.lptr (D.ints .u64 12 t1)))] [] d [] := by
  unfold F_space_Has_1 at h
  obtain ⟨r0, cr0, h⟩ := Option.bind_eq_some_iff.1 h
  refine runs_regions 2 [([], [1, 2]), ([(.d (D.bool r0))], [3])] (z := ([FC Try.prog 48 [(S_api_Cube.d t0), (D.ints .u64 12 t1)] [] (D.bool r0) [], All (List.map NoRow [(S_api_Cube.d t0), (D.ints .u64 12 t1)])], [(3, (D.bool r0))], [some (.box (S_api_Cube.d t0))])) rfl (by kernel_rfl) (And.intro (fc_cube_Has fu t0 t1 cr0) (And.intro (And.intro (S_api_Cube.inn _) (And.intro trivial trivial)) trivial)) ?_
  rw [← Option.some.inj h] at hk
  obtain rfl : d = (D.bool r0) := hk
  exact runs_ret (by kernel_rfl) trivial (Nat.le_refl 0) trivial trivial

theorem fc_space_Has_1 (fu : Nat) (t0 : S_api_Cube) (t1 : (Nat → Int)) {r : Bool} (h : F_space_Has_1 fu t0 t1 = some r) : FC Try.prog 47 [(S_api_Cube.d t0), (D.lptr (D.ints .u64 12 t1))] [] (D.bool r) [] := by
  refine fc_of_runs (fn := Try.f47) (c := Try.f47.body.getD .skip) (by kernel_rfl) (by kernel_rfl) ?_
  refine runs_to (ts := [0, 1]) (T' := T_space_Has_1) (env' := [(0, (S_api_Cube.d t0)), (1, (D.lptr (D.ints .u64 12 t1)))]) (h2 := []) (by kernel_rfl) (by kernel_rfl) trivial (Nat.le_refl _) trivial (And.intro (S_api_Cube.inn _) (And.intro trivial trivial)) ?_
  exact run_space_Has_1 fu t0 t1 h rfl

def K_slices_IndexFunc_api_Cube_space_Has_1 (d : D) (r : Int) : Prop := d = (D.int .i64 r)

noncomputable def T_slices_IndexFunc_api_Cube_space_Has_1 : List Item := norm 200 [.code (Try.f55.body.getD .skip)]

noncomputable def T_slices_IndexFunc_api_Cube_space_Has_1_L1 : List Item := norm 200 (nxt (nxt T_slices_IndexFunc_api_Cube_space_Has_1))

noncomputable def X_slices_IndexFunc_api_Cube_space_Has_1_L1T : List Item := norm 200 (cndF (nxt (nxt (nxt T_slices_IndexFunc_api_Cube_space_Has_1))))

abbrev E_slices_IndexFunc_api_Cube_space_Has_1_L1 := Unit

def N_slices_IndexFunc_api_Cube_space_Has_1_L1 (_fu : Nat) (t0 : (Nat × (Nat → S_api_Cube))) (t1_0 : (Nat → Int)) (t7 : Int) (d : D) (s : Int) : Prop := Runs Try.prog Try.f55 0 T_slices_IndexFunc_api_Cube_space_Has_1_L1 [(0, (D.lit t0.1 24 fun i => (S_api_Cube.d (t0.2 i)))), (1, (D.fn 47 (D.cons (D.lptr (D.ints .u64 12 t1_0)) D.nil))), (7, (D.int .i64 t7)), (8, (D.int .i64 s))] [] d []

def X_slices_IndexFunc_api_Cube_space_Has_1_L1 (_fu : Nat) (_t0 : (Nat × (Nat → S_api_Cube))) (_t1_0 : (Nat → Int)) (_t7 : Int) (d : D) : E_slices_IndexFunc_api_Cube_space_Has_1_L1 ⊕ Int → Prop
  | .inl _ => Runs Try.prog Try.f55 0 X_slices_IndexFunc_api_Cube_space_Has_1_L1T [] [] d []
  | .inr o => (K_slices_IndexFunc_api_Cube_space_Has_1 d) o

def F_slices_IndexFunc_api_Cube_space_Has_1_L1 (fu : Nat) (t0 : (Nat × (Nat → S_api_Cube))) (t1_0 : (Nat → Int)) (t7 : Int) (t8 : Int) : Option (Lo Int E_slices_IndexFunc_api_Cube_space_Has_1_L1 Int) :=
  ifs (decide (t8 < t7)) (
    chk (0 ≤ t8 ∧ t8 < ((t0.1 : Nat) : Int)) <|
    (F_space_Has_1 fu (t0.2 t8.toNat) t1_0).bind fun r0 =>
    ifs r0 (
      some (.ret t8)) (
      some (.next (IntKind.wrap .i64 (t8 + (1 : Int)))))) (
    some (.exit ()))

theorem run_slices_IndexFunc_api_Cube_space_Has_1_L1 (fu : Nat) (t0 : (Nat × (Nat → S_api_Cube))) (t1_0 : (Nat → Int)) (t7 : Int) (t8 : Int) {d : D} {o : (Lo Int E_slices_IndexFunc_api_Cube_space_Has_1_L1 Int)} (h : F_slices_IndexFunc_api_Cube_space_Has_1_L1 fu t0 t1_0 t7 t8 = some o) (hk : (Lo.post (N_slices_IndexFunc_api_Cube_space_Has_1_L1 fu t0 t1_0 t7 d) (X_slices_IndexFunc_api_Cube_space_Has_1_L1 fu t0 t1_0 t7 d)) o) : Runs Try.prog Try.f55 0 T_slices_IndexFunc_api_Cube_space_Has_1_L1 [(0, (D.lit t0.1 24 fun i => (S_api_Cube.d (t0.2 i)))), (1, (D.fn 47 (D.cons (D.lptr (D.ints .u64 12 t1_0)) D.nil))), (7, (D.int .i64 t7)), (8, (D.int .i64 t8))] [] d [] := by
  unfold F_slices_IndexFunc_api_Cube_space_Has_1_L1 at h
  refine runs_regions 1 [([], [0, 1, 7, 8, 9])] (z := ([], [(0, (D.lit t0.1 24 fun i => (S_api_Cube.d (t0.2 i)))), (1, (D.fn 47 (D.cons (D.lptr (D.ints .u64 12 t1_0)) D.nil))), (7, (D.int .i64 t7)), (8, (D.int .i64 t8)), (9, (D.bool (decide (t8 < t7))))], [])) rfl (by kernel_rfl) trivial ?_
  refine runs_if (b := (decide (t8 < t7))) (by kernel_rfl) (fun hb => ?_) (fun hb => ?_)
  · replace h := ifs_true h hb
    obtain ⟨p0, h⟩ := chk_some h
    obtain ⟨r0, cr0, h⟩ := Option.bind_eq_some_iff.1 h
    refine runs_regions 2 [([], [0, 1, 5, 7, 8]), ([(.d (D.bool r0))], [0, 1, 5, 7, 8, 16])] (z := ([(0 ≤ t8 ∧ t8 < ((t0.1 : Nat) : Int)), FC Try.prog 47 [(S_api_Cube.d (t0.2 t8.toNat)), (D.lptr (D.ints .u64 12 t1_0))] [] (D.bool r0) [], All (List.map NoRow [(S_api_Cube.d (t0.2 t8.toNat)), (D.lptr (D.ints .u64 12 t1_0))])], [(0, (D.lit t0.1 24 fun i => (S_api_Cube.d (t0.2 i)))), (1, (D.fn 47 (D.cons (D.lptr (D.ints .u64 12 t1_0)) D.nil))), (5, (D.int .i64 t8)), (7, (D.int .i64 t7)), (8, (D.int .i64 t8)), (16, (D.bool r0))], [])) rfl (by kernel_rfl) (And.intro p0 (And.intro (fc_space_Has_1 fu (t0.2 t8.toNat) t1_0 cr0) (And.intro (And.intro (S_api_Cube.inn _) (And.intro trivial trivial)) trivial))) ?_
    refine runs_if (b := r0) (by kernel_rfl) (fun hb => ?_) (fun hb => ?_)
    · replace h := ifs_true h hb
      refine runs_regions 1 [([], [4])] (z := ([], [(4, (D.int .i64 t8))], [])) rfl (by kernel_rfl) trivial ?_
      rw [← Option.some.inj h] at hk
      obtain rfl : d = (D.int .i64 t8) := hk
      exact runs_ret (by kernel_rfl) trivial (Nat.le_refl 0) trivial trivial
    · replace h := ifs_false h hb
      refine runs_regions 1 [([], [0, 1, 7, 8])] (z := ([], [(0, (D.lit t0.1 24 fun i => (S_api_Cube.d (t0.2 i)))), (1, (D.fn 47 (D.cons (D.lptr (D.ints .u64 12 t1_0)) D.nil))), (7, (D.int .i64 t7)), (8, (D.int .i64 (IntKind.wrap .i64 (t8 + (1 : Int)))))], [])) rfl (by kernel_rfl) trivial ?_
      rw [← Option.some.inj h] at hk
      refine runs_to (ts := [0, 1, 7, 8]) (T' := T_slices_IndexFunc_api_Cube_space_Has_1_L1) (env' := [(0, (D.lit t0.1 24 fun i => (S_api_Cube.d (t0.2 i)))), (1, (D.fn 47 (D.cons (D.lptr (D.ints .u64 12 t1_0)) D.nil))), (7, (D.int .i64 t7)), (8, (D.int .i64 (IntKind.wrap .i64 (t8 + (1 : Int)))))]) (h2 := []) (by kernel_rfl) (by kernel_rfl) trivial (Nat.zero_le _) trivial (And.intro (fun _ _ => (S_api_Cube.inn _)) (And.intro (And.intro trivial trivial) (And.intro trivial (And.intro trivial trivial)))) ?_
      exact hk
  · replace h := ifs_false h hb
    rw [← Option.some.inj h] at hk
    refine runs_to (ts := []) (T' := X_slices_IndexFunc_api_Cube_space_Has_1_L1T) (env' := []) (h2 := []) (by kernel_rfl) (by kernel_rfl) trivial (Nat.zero_le _) trivial trivial ?_
    exact hk

theorem iter_slices_IndexFunc_api_Cube_space_Has_1_L1 (fu : Nat) (t0 : (Nat × (Nat → S_api_Cube))) (t1_0 : (Nat → Int)) (t7 : Int) {d : D} (k : Nat) (s : Int) {o : E_slices_IndexFunc_api_Cube_space_Has_1_L1 ⊕ Int} (h : iter (fun s => F_slices_IndexFunc_api_Cube_space_Has_1_L1 fu t0 t1_0 t7 s) k s = some o) (hx : X_slices_IndexFunc_api_Cube_space_Has_1_L1 fu t0 t1_0 t7 d o) : N_slices_IndexFunc_api_Cube_space_Has_1_L1 fu t0 t1_0 t7 d s :=
  iter_post (K := N_slices_IndexFunc_api_Cube_space_Has_1_L1 fu t0 t1_0 t7 d) (X := X_slices_IndexFunc_api_Cube_space_Has_1_L1 fu t0 t1_0 t7 d) (fun s _ h hk => run_slices_IndexFunc_api_Cube_space_Has_1_L1 fu t0 t1_0 t7 s h hk) k s o h hx

/-- slices.IndexFunc[[]podesta/api.Cube,podesta/api.Cube] -/
def F_slices_IndexFunc_api_Cube_space_Has_1 (fu : Nat) (t0 : (Nat × (Nat → S_api_Cube))) (t1_0 : (Nat → Int)) : Option Int :=
  after (iter (fun s => F_slices_IndexFunc_api_Cube_space_Has_1_L1 fu t0 t1_0 ((t0.1 : Nat) : Int) s) fu (0 : Int)) fun _ =>
  some (-1 : Int)

theorem run_slices_IndexFunc_api_Cube_space_Has_1 (fu : Nat) (t0 : (Nat × (Nat → S_api_Cube))) (t1_0 : (Nat → Int)) {d : D} {r : Int} (h : F_slices_IndexFunc_api_Cube_space_Has_1 fu t0 t1_0 = some r) (hk : (K_slices_IndexFunc_api_Cube_space_Has_1 d) r) : Runs Try.prog Try.f55 0 T_slices_IndexFunc_api_Cube_space_Has_1 [(0, (D.lit t0.1 24 fun i => (S_api_Cube.d (t0.2 i)))), (1, (D.fn 47 (D.cons (D.lptr (D.ints .u64 12 t1_0)) D.nil)))] [] d [] := by
  unfold F_slices_IndexFunc_api_Cube_space_Has_1 at h
  refine runs_regions 2 [([], [0, 1]), ([], [0, 1, 7, 8])] (z := ([], [(0, (D.lit t0.1 24 fun i => (S_api_Cube.d (t0.2 i)))), (1, (D.fn 47 (D.cons (D.lptr (D.ints .u64 12 t1_0)) D.nil))), (7, (D.int .i64 ((t0.1 : Nat) : Int))), (8, (D.int .i64 (0 : Int)))], [])) rfl (by kernel_rfl) trivial ?_
  refine runs_to (ts := [0, 1, 7, 8]) (T' := T_slices_IndexFunc_api_Cube_space_Has_1_L1) (env' := [(0, (D.lit t0.1 24 fun i => (S_api_Cube.d (t0.2 i)))), (1, (D.fn 47 (D.cons (D.lptr (D.ints .u64 12 t1_0)) D.nil))), (7, (D.int .i64 ((t0.1 : Nat) : Int))), (8, (D.int .i64 (0 : Int)))]) (h2 := []) (by kernel_rfl) (by kernel_rfl) trivial (Nat.zero_le _) trivial (And.intro (fun _ _ => (S_api_Cube.inn _)) (And.intro (And.intro trivial trivial) (And.intro trivial (And.intro trivial trivial)))) ?_
  rcases after_some h with ⟨e2, hi, h⟩ | hi
  · refine iter_slices_IndexFunc_api_Cube_space_Has_1_L1 fu t0 t1_0 ((t0.1 : Nat) : Int) fu (0 : Int) hi ?_
    show Runs Try.prog Try.f55 0 X_slices_IndexFunc_api_Cube_space_Has_1_L1T [] [] d []
    refine runs_regions 1 [([], [4])] (z := ([], [(4, (D.int .i64 (-1 : Int)))], [])) rfl (by kernel_rfl) trivial ?_
    rw [← Option.some.inj h] at hk
    obtain rfl : d = (D.int .i64 (-1 : Int)) := hk
    exact runs_ret (by kernel_rfl) trivial (Nat.le_refl 0) trivial trivial
  · exact iter_slices_IndexFunc_api_Cube_space_Has_1_L1 fu t0 t1_0 ((t0.1 : Nat) : Int) fu (0 : Int) hi hk

theorem fc_slices_IndexFunc_api_Cube_space_Has_1 (fu : Nat) (t0 : (Nat × (Nat → S_api_Cube))) (t1_0 : (Nat → Int)) {r : Int} (h : F_slices_IndexFunc_api_Cube_space_Has_1 fu t0 t1_0 = some r) : FC Try.prog 55 [(D.lit t0.1 24 fun i => (S_api_Cube.d (t0.2 i))), (D.fn 47 (D.cons (D.lptr (D.ints .u64 12 t1_0)) D.nil))] [] (D.int .i64 r) [] := by
  refine fc_of_runs (fn := Try.f55) (c := Try.f55.body.getD .skip) (by kernel_rfl) (by kernel_rfl) ?_
  refine runs_to (ts := [0, 1]) (T' := T_slices_IndexFunc_api_Cube_space_Has_1) (env' := [(0, (D.lit t0.1 24 fun i => (S_api_Cube.d (t0.2 i)))), (1, (D.fn 47 (D.cons (D.lptr (D.ints .u64 12 t1_0)) D.nil)))]) (h2 := []) (by kernel_rfl) (by kernel_rfl) trivial (Nat.le_refl _) trivial (And.intro (fun _ _ => (S_api_Cube.inn _)) (And.intro (And.intro trivial trivial) trivial)) ?_
  exact run_slices_IndexFunc_api_Cube_space_Has_1 fu t0 t1_0 h rfl

def K_slices_ContainsFunc_api_Cube_space_Has_1 (d : D) (r : Bool) : Prop := d = (D.bool r)

noncomputable def T_slices_ContainsFunc_api_Cube_space_Has_1 : List Item := norm 200 [.code (Try.f41.body.getD .skip)]

/-- slices.ContainsFunc[[]podesta/api.Cube,podesta/api.Cube] -/
def F_slices_ContainsFunc_api_Cube_space_Has_1 (fu : Nat) (t0 : (Nat × (Nat → S_api_Cube))) (t1_0 : (Nat → Int)) : Option Bool :=
  (F_slices_IndexFunc_api_Cube_space_Has_1 fu t0 t1_0).bind fun r0 =>
  some (decide (r0 ≥ (0 : Int)))

theorem run_slices_ContainsFunc_api_Cube_space_Has_1 (fu : Nat) (t0 : (Nat × (Nat → S_api_Cube))) (t1_0 : (Nat → Int)) {d : D} {r : Bool} (h : F_slices_ContainsFunc_api_Cube_space_Has_1 fu t0 t1_0 = some r) (hk : (K_slices_ContainsFunc_api_Cube_space_Has_1 d) r) : Runs Try.prog Try.f41 0 T_slices_ContainsFunc_api_Cube_space_Has_1 [(0, (D.lit t0.1 24 fun i => (S_api_Cube.d (t0.2 i)))), (1, (D.fn 47 (D.cons (D.lptr (D.ints .u64 12 t1_0)) D.nil)))] [] d [] := by
  unfold F_slices_ContainsFunc_api_Cube_space_Has_1 at h
  obtain ⟨r0, cr0, h⟩ := Option.bind_eq_some_iff.1 h
  refine runs_regions 2 [([], [0, 1]), ([(.d (D.int .i64 r0))], [4])] (z := ([FC Try.prog 55 [(D.lit t0.1 24 fun i => (S_api_Cube.d (t0.2 i))), (D.fn 47 (D.cons (D.lptr (D.ints .u64 12 t1_0)) D.nil))] [] (D.int .i64 r0) [], All (List.map NoRow [(D.lit t0.1 24 fun i => (S_api_Cube.d (t0.2 i))), (D.fn 47 (D.cons (D.lptr (D.ints .u64 12 t1_0)) D.nil))])], [(4, (D.bool (decide (r0 ≥ (0 : Int)))))], [])) rfl (by kernel_rfl) (And.intro (fc_slices_IndexFunc_api_Cube_space_Has_1 fu t0 t1_0 cr0) (And.intro (And.intro (fun _ _ => (S_api_Cube.inn _)) (And.intro (And.intro trivial trivial) trivial)) trivial)) ?_
  rw [← Option.some.inj h] at hk
  obtain rfl : d = (D.bool (decide (r0 ≥ (0 : Int)))) := hk
  exact runs_ret (by kernel_rfl) trivial (Nat.le_refl 0) trivial trivial

theorem fc_slices_ContainsFunc_api_Cube_space_Has_1 (fu : Nat) (t0 : (Nat × (Nat → S_api_Cube))) (t1_0 : (Nat → Int)) {r : Bool} (h : F_slices_ContainsFunc_api_Cube_space_Has_1 fu t0 t1_0 = some r) : FC Try.prog 41 [(D.lit t0.1 24 fun i => (S_api_Cube.d (t0.2 i))), (D.fn 47 (D.cons (D.lptr (D.ints .u64 12 t1_0)) D.nil))] [] (D.bool r) [] := by
  refine fc_of_runs (fn := Try.f41) (c := Try.f41.body.getD .skip) (by kernel_rfl) (by kernel_rfl) ?_
  refine runs_to (ts := [0, 1]) (T' := T_slices_ContainsFunc_api_Cube_space_Has_1) (env' := [(0, (D.lit t0.1 24 fun i => (S_api_Cube.d (t0.2 i)))), (1, (D.fn 47 (D.cons (D.lptr (D.ints .u64 12 t1_0)) D.nil)))]) (h2 := []) (by kernel_rfl) (by kernel_rfl) trivial (Nat.le_refl _) trivial (And.intro (fun _ _ => (S_api_Cube.inn _)) (And.intro (And.intro trivial trivial) trivial)) ?_
  exact run_slices_ContainsFunc_api_Cube_space_Has_1 fu t0 t1_0 h rfl

def K_space_Has (d : D) (r : Bool) : Prop := d = (D.bool r)

noncomputable def T_space_Has : List Item := norm 200 [.code (Try.f22.body.getD .skip)]

/-- podesta/space.Has -/
def F_space_Has (fu : Nat) (t0 : (Nat × (Nat → S_api_Cube))) (t1 : (Nat → Int)) : Option Bool :=
  (F_slices_ContainsFunc_api_Cube_space_Has_1 fu t0 t1).bind fun r0 =>
  some r0

theorem run_space_Has (fu : Nat) (t0 : (Nat × (Nat → S_api_Cube))) (t1 : (Nat → Int)) {d : D} {r : Bool} (h : F_space_Has fu t0 t1 = some r) (hk : (K_space_Has d) r) : Runs Try.prog Try.f22 0 T_space_Has [(0, (D.lit t0.1 24 fun i => (S_api_Cube.d (t0.2 i)))), (1, (D.ints .u64 12 t1))] [] d [] := by
  unfold F_space_Has at h
  refine runs_regions 1 [([], [0, 3])] (z := ([], [(0, (D.lit t0.1 24 fun i => (S_api_Cube.d (t0.2 i)))), (3, (D.ptr 0 []))], [some (.box (D.ints .u64 12 t1))])) rfl (by kernel_rfl) trivial ?_
  refine runs_freeze 0 (row := (.box (D.ints .u64 12 t1))) rfl ?_
  obtain ⟨r0, cr0, h⟩ := Option.bind_eq_some_iff.1 h
  refine runs_regions 1 [([(.d (D.bool r0))], [4])] (z := ([FC Try.prog 41 [(D.lit t0.1 24 fun i => (S_api_Cube.d (t0.2 i))), (D.fn 47 (D.cons (D.lptr (D.ints .u64 12 t1)) D.nil))] [] (D.bool r0) [], All (List.map NoRow [(D.lit t0.1 24 fun i => (S_api_Cube.d (t0.2 i))), (D.fn 47 (D.cons (D.lptr (D.ints .u64 12 t1)) D.nil))])], [(4, (D.bool r0))], [none])) rfl (by kernel_rfl) (And.intro (fc_slices_ContainsFunc_api_Cube_space_Has_1 fu t0 t1 cr0) (And.intro (And.intro (fun _ _ => (S_api_Cube.inn _)) (And.intro (And.intro trivial trivial) trivial)) trivial)) ?_
  rw [← Option.some.inj h] at hk
  obtain rfl : d = (D.bool r0) := hk
  exact runs_ret (by kernel_rfl) trivial (Nat.le_refl 0) trivial trivial

theorem fc_space_Has (fu : Nat) (t0 : (Nat × (Nat → S_api_Cube))) (t1 : (Nat → Int)) {r : Bool} (h : F_space_Has fu t0 t1 = some r) : FC Try.prog 22 [(D.lit t0.1 24 fun i => (S_api_Cube.d (t0.2 i))), (D.ints .u64 12 t1)] [] (D.bool r) [] := by
  refine fc_of_runs (fn := Try.f22) (c := Try.f22.body.getD .skip) (by kernel_rfl) (by kernel_rfl) ?_
  refine runs_to (ts := [0, 1]) (T' := T_space_Has) (env' := [(0, (D.lit t0.1 24 fun i => (S_api_Cube.d (t0.2 i)))), (1, (D.ints .u64 12 t1))]) (h2 := []) (by kernel_rfl) (by kernel_rfl) trivial (Nat.le_refl _) trivial (And.intro (fun _ _ => (S_api_Cube.inn _)) (And.intro trivial trivial)) ?_
  exact run_space_Has fu t0 t1 h rfl

def K_law03_answers (d : D) (r : Bool) : Prop := d = (D.bool r)

noncomputable def T_law03_answers : List Item := norm 200 [.code (Try.f17.body.getD .skip)]

/-- podesta/podestalaw03.answers -/
def F_law03_answers (fu : Nat) : Option Bool :=
  (F_space_Within fu (1, (fun i => ([(S_api_Cube.mk (fun _ => 0) (fun _ => 0))] : List S_api_Cube).getD i (S_api_Cube.mk (fun _ => 0) (fun _ => 0)))) (1, (fun i => ([(S_api_Cube.mk (fun _ => 0) (fun _ => 0))] : List S_api_Cube).getD i (S_api_Cube.mk (fun _ => 0) (fun _ => 0))))).bind fun r0 =>
  (callIf (bif (r0.2 == (0 : Int)) then r0.1 else false) (F_space_Has fu (1, (fun i => ([(S_api_Cube.mk (fun _ => 0) (fun _ => 0))] : List S_api_Cube).getD i (S_api_Cube.mk (fun _ => 0) (fun _ => 0)))) (fun _ => 0)) false).bind fun r1 =>
  (callIf (bif (bif (r0.2 == (0 : Int)) then r0.1 else false) then r1 else false) (F_space_Lean fu (2, (fun i => ([(S_api_Cube.mk (fun _ => 0) (fun _ => 0)), (S_api_Cube.mk (fun _ => 0) (fun _ => 0))] : List S_api_Cube).getD i (S_api_Cube.mk (fun _ => 0) (fun _ => 0))))) (0, fun _ => (S_api_Cube.mk (fun _ => 0) (fun _ => 0)))).bind fun r2 =>
  some (bif (bif (bif (r0.2 == (0 : Int)) then r0.1 else false) then r1 else false) then (((r2.1 : Nat) : Int) == (1 : Int)) else false)

theorem run_law03_answers (fu : Nat) {d : D} {r : Bool} (h : F_law03_answers fu = some r) (hk : (K_law03_answers d) r) : Runs Try.prog Try.f17 0 T_law03_answers [] [] d [] := by
  unfold F_law03_answers at h
  obtain ⟨r0, cr0, h⟩ := Option.bind_eq_some_iff.1 h
  obtain ⟨r1, cr1, h⟩ := Option.bind_eq_some_iff.1 h
  obtain ⟨r2, cr2, h⟩ := Option.bind_eq_some_iff.1 h
  refine runs_regions 3 [([], []), ([(.lit fun i => (S_api_Cube.d ((fun i => ([(S_api_Cube.mk (fun _ => 0) (fun _ => 0))] : List S_api_Cube).getD i (S_api_Cube.mk (fun _ => 0) (fun _ => 0))) i))), (.lit fun i => (S_api_Cube.d ((fun i => ([(S_api_Cube.mk (fun _ => 0) (fun _ => 0))] : List S_api_Cube).getD i (S_api_Cube.mk (fun _ => 0) (fun _ => 0))) i))), (.d (D.tup (D.cons (D.bool r0.1) (D.cons (D.int .i64 r0.2) D.nil))))], [1, 2]), ([(.lit fun i => (S_api_Cube.d ((fun i => ([(S_api_Cube.mk (fun _ => 0) (fun _ => 0))] : List S_api_Cube).getD i (S_api_Cube.mk (fun _ => 0) (fun _ => 0))) i))), (.d (D.bool r1)), (.lit fun i => (S_api_Cube.d ((fun i => ([(S_api_Cube.mk (fun _ => 0) (fun _ => 0)), (S_api_Cube.mk (fun _ => 0) (fun _ => 0))] : List S_api_Cube).getD i (S_api_Cube.mk (fun _ => 0) (fun _ => 0))) i))), (.d (D.lit r2.1 24 fun i => (S_api_Cube.d (r2.2 i))))], [0])] (z := ([TabOk [(D.cons (D.ints .u64 12 (fun _ => 0)) (D.cons (D.ints .u64 12 (fun _ => 0)) D.nil))] 24 (D.arr 1 24 fun i => (S_api_Cube.d ((fun i => ([(S_api_Cube.mk (fun _ => 0) (fun _ => 0))] : List S_api_Cube).getD i (S_api_Cube.mk (fun _ => 0) (fun _ => 0))) i))), TabOk [(D.cons (D.ints .u64 12 (fun _ => 0)) (D.cons (D.ints .u64 12 (fun _ => 0)) D.nil))] 24 (D.arr 1 24 fun i => (S_api_Cube.d ((fun i => ([(S_api_Cube.mk (fun _ => 0) (fun _ => 0))] : List S_api_Cube).getD i (S_api_Cube.mk (fun _ => 0) (fun _ => 0))) i))), FC Try.prog 27 [(D.lit 1 24 fun i => (S_api_Cube.d ((fun i => ([(S_api_Cube.mk (fun _ => 0) (fun _ => 0))] : List S_api_Cube).getD i (S_api_Cube.mk (fun _ => 0) (fun _ => 0))) i))), (D.lit 1 24 fun i => (S_api_Cube.d ((fun i => ([(S_api_Cube.mk (fun _ => 0) (fun _ => 0))] : List S_api_Cube).getD i (S_api_Cube.mk (fun _ => 0) (fun _ => 0))) i)))] [] (D.tup (D.cons (D.bool r0.1) (D.cons (D.int .i64 r0.2) D.nil))) [], All (List.map NoRow [(D.lit 1 24 fun i => (S_api_Cube.d ((fun i => ([(S_api_Cube.mk (fun _ => 0) (fun _ => 0))] : List S_api_Cube).getD i (S_api_Cube.mk (fun _ => 0) (fun _ => 0))) i))), (D.lit 1 24 fun i => (S_api_Cube.d ((fun i => ([(S_api_Cube.mk (fun _ => 0) (fun _ => 0))] : List S_api_Cube).getD i (S_api_Cube.mk (fun _ => 0) (fun _ => 0))) i)))]), ((true && (r0.2 == (0 : Int))) = true → (r0.2 == (0 : Int)) = true), ((bif (r0.2 == (0 : Int)) then r0.1 else false) = true → All [((bif (r0.2 == (0 : Int)) then r0.1 else false) = true → (bif (r0.2 == (0 : Int)) then r0.1 else false) = true), TabOk [(D.cons (D.ints .u64 12 (fun _ => 0)) (D.cons (D.ints .u64 12 (fun _ => 0)) D.nil))] 24 (D.arr 1 24 fun i => (S_api_Cube.d ((fun i => ([(S_api_Cube.mk (fun _ => 0) (fun _ => 0))] : List S_api_Cube).getD i (S_api_Cube.mk (fun _ => 0) (fun _ => 0))) i)))]), ((bif (r0.2 == (0 : Int)) then r0.1 else false) = true → All [((bif (r0.2 == (0 : Int)) then r0.1 else false) = true → (bif (r0.2 == (0 : Int)) then r0.1 else false) = true), ((bif (r0.2 == (0 : Int)) then r0.1 else false) = true → (bif (r0.2 == (0 : Int)) then r0.1 else false) = true), FC Try.prog 22 [(D.lit 1 24 fun i => (S_api_Cube.d ((fun i => ([(S_api_Cube.mk (fun _ => 0) (fun _ => 0))] : List S_api_Cube).getD i (S_api_Cube.mk (fun _ => 0) (fun _ => 0))) i))), (D.ints .u64 12 (fun _ => 0))] [] (D.bool r1) [], All (List.map NoRow [(D.lit 1 24 fun i => (S_api_Cube.d ((fun i => ([(S_api_Cube.mk (fun _ => 0) (fun _ => 0))] : List S_api_Cube).getD i (S_api_Cube.mk (fun _ => 0) (fun _ => 0))) i))), (D.ints .u64 12 (fun _ => 0))])]), ((true && (bif (r0.2 == (0 : Int)) then r0.1 else false)) = true → (bif (r0.2 == (0 : Int)) then r0.1 else false) = true), ((bif (bif (r0.2 == (0 : Int)) then r0.1 else false) then r1 else false) = true → All [((bif (bif (r0.2 == (0 : Int)) then r0.1 else false) then r1 else false) = true → (bif (bif (r0.2 == (0 : Int)) then r0.1 else false) then r1 else false) = true), ((bif (bif (r0.2 == (0 : Int)) then r0.1 else false) then r1 else false) = true → (bif (bif (r0.2 == (0 : Int)) then r0.1 else false) then r1 else false) = true), TabOk [(D.cons (D.ints .u64 12 (fun _ => 0)) (D.cons (D.ints .u64 12 (fun _ => 0)) D.nil)), (D.cons (D.ints .u64 12 (fun _ => 0)) (D.cons (D.ints .u64 12 (fun _ => 0)) D.nil))] 24 (D.arr 2 24 fun i => (S_api_Cube.d ((fun i => ([(S_api_Cube.mk (fun _ => 0) (fun _ => 0)), (S_api_Cube.mk (fun _ => 0) (fun _ => 0))] : List S_api_Cube).getD i (S_api_Cube.mk (fun _ => 0) (fun _ => 0))) i)))]), ((bif (bif (r0.2 == (0 : Int)) then r0.1 else false) then r1 else false) = true → All [((bif (bif (r0.2 == (0 : Int)) then r0.1 else false) then r1 else false) = true → (bif (bif (r0.2 == (0 : Int)) then r0.1 else false) then r1 else false) = true), FC Try.prog 18 [(D.lit 2 24 fun i => (S_api_Cube.d ((fun i => ([(S_api_Cube.mk (fun _ => 0) (fun _ => 0)), (S_api_Cube.mk (fun _ => 0) (fun _ => 0))] : List S_api_Cube).getD i (S_api_Cube.mk (fun _ => 0) (fun _ => 0))) i)))] [] (D.lit r2.1 24 fun i => (S_api_Cube.d (r2.2 i))) [], All (List.map NoRow [(D.lit 2 24 fun i => (S_api_Cube.d ((fun i => ([(S_api_Cube.mk (fun _ => 0) (fun _ => 0)), (S_api_Cube.mk (fun _ => 0) (fun _ => 0))] : List S_api_Cube).getD i (S_api_Cube.mk (fun _ => 0) (fun _ => 0))) i)))])]), ((bif (bif (r0.2 == (0 : Int)) then r0.1 else false) then r1 else false) = true → All [((bif (bif (r0.2 == (0 : Int)) then r0.1 else false) then r1 else false) = true → (bif (bif (r0.2 == (0 : Int)) then r0.1 else false) then r1 else false) = true)]), ((bif (bif (r0.2 == (0 : Int)) then r0.1 else false) then r1 else false) = true → All [((bif (bif (r0.2 == (0 : Int)) then r0.1 else false) then r1 else false) = true → (bif (bif (r0.2 == (0 : Int)) then r0.1 else false) then r1 else false) = true)]), ((true && (bif (bif (r0.2 == (0 : Int)) then r0.1 else false) then r1 else false)) = true → (bif (bif (r0.2 == (0 : Int)) then r0.1 else false) then r1 else false) = true)], [(0, (D.bool (bif (bif (bif (r0.2 == (0 : Int)) then r0.1 else false) then r1 else false) then (((r2.1 : Nat) : Int) == (1 : Int)) else false)))], [])) rfl (by kernel_rfl) (And.intro (tabOk_arr rfl (And.intro rfl trivial)) (And.intro (tabOk_arr rfl (And.intro rfl trivial)) (And.intro (fc_space_Within fu (1, (fun i => ([(S_api_Cube.mk (fun _ => 0) (fun _ => 0))] : List S_api_Cube).getD i (S_api_Cube.mk (fun _ => 0) (fun _ => 0)))) (1, (fun i => ([(S_api_Cube.mk (fun _ => 0) (fun _ => 0))] : List S_api_Cube).getD i (S_api_Cube.mk (fun _ => 0) (fun _ => 0)))) cr0) (And.intro (And.intro (fun _ _ => (S_api_Cube.inn _)) (And.intro (fun _ _ => (S_api_Cube.inn _)) trivial)) (And.intro (by first | exact fun h => h | exact fun h => (Bool.and_eq_true_iff.1 h).1 | simp_all) (And.intro (fun _ => (And.intro (by first | exact fun h => h | exact fun h => (Bool.and_eq_true_iff.1 h).1 | simp_all) (And.intro (tabOk_arr rfl (And.intro rfl trivial)) trivial))) (And.intro (fun hg => (And.intro (by first | exact fun h => h | exact fun h => (Bool.and_eq_true_iff.1 h).1 | simp_all) (And.intro (by first | exact fun h => h | exact fun h => (Bool.and_eq_true_iff.1 h).1 | simp_all) (And.intro (fc_space_Has fu (1, (fun i => ([(S_api_Cube.mk (fun _ => 0) (fun _ => 0))] : List S_api_Cube).getD i (S_api_Cube.mk (fun _ => 0) (fun _ => 0)))) (fun _ => 0) (callIf_some cr1 hg)) (And.intro (And.intro (fun _ _ => (S_api_Cube.inn _)) (And.intro trivial trivial)) trivial))))) (And.intro (by first | exact fun h => h | exact fun h => (Bool.and_eq_true_iff.1 h).1 | simp_all) (And.intro (fun _ => (And.intro (by first | exact fun h => h | exact fun h => (Bool.and_eq_true_iff.1 h).1 | simp_all) (And.intro (by first | exact fun h => h | exact fun h => (Bool.and_eq_true_iff.1 h).1 | simp_all) (And.intro (tabOk_arr rfl (And.intro rfl (And.intro rfl trivial))) trivial)))) (And.intro (fun hg => (And.intro (by first | exact fun h => h | exact fun h => (Bool.and_eq_true_iff.1 h).1 | simp_all) (And.intro (fc_space_Lean fu (2, (fun i => ([(S_api_Cube.mk (fun _ => 0) (fun _ => 0)), (S_api_Cube.mk (fun _ => 0) (fun _ => 0))] : List S_api_Cube).getD i (S_api_Cube.mk (fun _ => 0) (fun _ => 0)))) (callIf_some cr2 hg)) (And.intro (And.intro (fun _ _ => (S_api_Cube.inn _)) trivial) trivial)))) (And.intro (fun _ => (And.intro (by first | exact fun h => h | exact fun h => (Bool.and_eq_true_iff.1 h).1 | simp_all) trivial)) (And.intro (fun _ => (And.intro (by first | exact fun h => h | exact fun h => (Bool.and_eq_true_iff.1 h).1 | simp_all) trivial)) (And.intro (by first | exact fun h => h | exact fun h => (Bool.and_eq_true_iff.1 h).1 | simp_all) trivial))))))))))))) ?_
  rw [← Option.some.inj h] at hk
  obtain rfl : d = (D.bool (bif (bif (bif (r0.2 == (0 : Int)) then r0.1 else false) then r1 else false) then (((r2.1 : Nat) : Int) == (1 : Int)) else false)) := hk
  exact runs_ret (by kernel_rfl) trivial (Nat.le_refl 0) trivial trivial

theorem fc_law03_answers (fu : Nat) {r : Bool} (h : F_law03_answers fu = some r) : FC Try.prog 17 [] [] (D.bool r) [] := by
  refine fc_of_runs (fn := Try.f17) (c := Try.f17.body.getD .skip) (by kernel_rfl) (by kernel_rfl) ?_
  refine runs_to (ts := []) (T' := T_law03_answers) (env' := []) (h2 := []) (by kernel_rfl) (by kernel_rfl) trivial (Nat.le_refl _) trivial trivial ?_
  exact run_law03_answers fu h rfl

def K_space_Touch_1 (d : D) (r : Bool) : Prop := d = (D.bool r)

noncomputable def T_space_Touch_1 : List Item := norm 200 [.code (Try.f53.body.getD .skip)]

/-- podesta/space.Touch 1 -/
def F_space_Touch_1 (fu : Nat) (t0 : S_api_Cube) (t1 : S_api_Cube) : Option Bool :=
  (F_cube_Meet fu t1 t0).bind fun r0 =>
  some r0.2

theorem run_space_Touch_1 (fu : Nat) (t0 : S_api_Cube) (t1 : S_api_Cube) {d : D} {r : Bool} (h : F_space_Touch_1 fu t0 t1 = some r) (hk : (K_space_Touch_1 d) r) : Runs Try.prog Try.f53 0 T_space_Touch_1 [(0, (S_api_Cube.d t0)), (1, (D.lptr (S_api_Cube.d t1)))] [] d [] := by
  unfold F_space_Touch_1 at h
  obtain ⟨r0, cr0, h⟩ := Option.bind_eq_some_iff.1 h
  refine runs_regions 3 [([], [1, 2]), ([(.d (D.tup (D.cons (S_api_Cube.d r0.1) (D.cons (D.bool r0.2) D.nil))))], [5]), ([], [3])] (z := ([FC Try.prog 54 [(S_api_Cube.d t1), (S_api_Cube.d t0)] [] (D.tup (D.cons (S_api_Cube.d r0.1) (D.cons (D.bool r0.2) D.nil))) [], All (List.map NoRow [(S_api_Cube.d t1), (S_api_Cube.d t0)])], [(3, (D.bool r0.2))], [some (.box (S_api_Cube.d t0)), some (.box (S_api_Cube.d r0.1))])) rfl (by kernel_rfl) (And.intro (fc_cube_Meet fu t1 t0 cr0) (And.intro (And.intro (S_api_Cube.inn _) (And.intro (S_api_Cube.inn _) trivial)) trivial)) ?_
  rw [← Option.some.inj h] at hk
  obtain rfl : d = (D.bool r0.2) := hk
  exact runs_ret (by kernel_rfl) trivial (Nat.le_refl 0) trivial trivial

theorem fc_space_Touch_1 (fu : Nat) (t0 : S_api_Cube) (t1 : S_api_Cube) {r : Bool} (h : F_space_Touch_1 fu t0 t1 = some r) : FC Try.prog 53 [(S_api_Cube.d t0), (D.lptr (S_api_Cube.d t1))] [] (D.bool r) [] := by
  refine fc_of_runs (fn := Try.f53) (c := Try.f53.body.getD .skip) (by kernel_rfl) (by kernel_rfl) ?_
  refine runs_to (ts := [0, 1]) (T' := T_space_Touch_1) (env' := [(0, (S_api_Cube.d t0)), (1, (D.lptr (S_api_Cube.d t1)))]) (h2 := []) (by kernel_rfl) (by kernel_rfl) trivial (Nat.le_refl _) trivial (And.intro (S_api_Cube.inn _) (And.intro (S_api_Cube.inn _) trivial)) ?_
  exact run_space_Touch_1 fu t0 t1 h rfl

def K_slices_IndexFunc_api_Cube_space_Touch_1 (d : D) (r : Int) : Prop := d = (D.int .i64 r)

noncomputable def T_slices_IndexFunc_api_Cube_space_Touch_1 : List Item := norm 200 [.code (Try.f55.body.getD .skip)]

noncomputable def T_slices_IndexFunc_api_Cube_space_Touch_1_L1 : List Item := norm 200 (nxt (nxt T_slices_IndexFunc_api_Cube_space_Touch_1))

noncomputable def X_slices_IndexFunc_api_Cube_space_Touch_1_L1T : List Item := norm 200 (cndF (nxt (nxt (nxt T_slices_IndexFunc_api_Cube_space_Touch_1))))

abbrev E_slices_IndexFunc_api_Cube_space_Touch_1_L1 := Unit

def N_slices_IndexFunc_api_Cube_space_Touch_1_L1 (_fu : Nat) (t0 : (Nat × (Nat → S_api_Cube))) (t1_0 : S_api_Cube) (t7 : Int) (d : D) (s : Int) : Prop := Runs Try.prog Try.f55 0 T_slices_IndexFunc_api_Cube_space_Touch_1_L1 [(0, (D.lit t0.1 24 fun i => (S_api_Cube.d (t0.2 i)))), (1, (D.fn 53 (D.cons (D.lptr (S_api_Cube.d t1_0)) D.nil))), (7, (D.int .i64 t7)), (8, (D.int .i64 s))] [] d []

def X_slices_IndexFunc_api_Cube_space_Touch_1_L1 (_fu : Nat) (_t0 : (Nat × (Nat → S_api_Cube))) (_t1_0 : S_api_Cube) (_t7 : Int) (d : D) : E_slices_IndexFunc_api_Cube_space_Touch_1_L1 ⊕ Int → Prop
  | .inl _ => Runs Try.prog Try.f55 0 X_slices_IndexFunc_api_Cube_space_Touch_1_L1T [] [] d []
  | .inr o => (K_slices_IndexFunc_api_Cube_space_Touch_1 d) o

def F_slices_IndexFunc_api_Cube_space_Touch_1_L1 (fu : Nat) (t0 : (Nat × (Nat → S_api_Cube))) (t1_0 : S_api_Cube) (t7 : Int) (t8 : Int) : Option (Lo Int E_slices_IndexFunc_api_Cube_space_Touch_1_L1 Int) :=
  ifs (decide (t8 < t7)) (
    chk (0 ≤ t8 ∧ t8 < ((t0.1 : Nat) : Int)) <|
    (F_space_Touch_1 fu (t0.2 t8.toNat) t1_0).bind fun r0 =>
    ifs r0 (
      some (.ret t8)) (
      some (.next (IntKind.wrap .i64 (t8 + (1 : Int)))))) (
    some (.exit ()))

theorem run_slices_IndexFunc_api_Cube_space_Touch_1_L1 (fu : Nat) (t0 : (Nat × (Nat → S_api_Cube))) (t1_0 : S_api_Cube) (t7 : Int) (t8 : Int) {d : D} {o : (Lo Int E_slices_IndexFunc_api_Cube_space_Touch_1_L1 Int)} (h : F_slices_IndexFunc_api_Cube_space_Touch_1_L1 fu t0 t1_0 t7 t8 = some o) (hk : (Lo.post (N_slices_IndexFunc_api_Cube_space_Touch_1_L1 fu t0 t1_0 t7 d) (X_slices_IndexFunc_api_Cube_space_Touch_1_L1 fu t0 t1_0 t7 d)) o) : Runs Try.prog Try.f55 0 T_slices_IndexFunc_api_Cube_space_Touch_1_L1 [(0, (D.lit t0.1 24 fun i => (S_api_Cube.d (t0.2 i)))), (1, (D.fn 53 (D.cons (D.lptr (S_api_Cube.d t1_0)) D.nil))), (7, (D.int .i64 t7)), (8, (D.int .i64 t8))] [] d [] := by
  unfold F_slices_IndexFunc_api_Cube_space_Touch_1_L1 at h
  refine runs_regions 1 [([], [0, 1, 7, 8, 9])] (z := ([], [(0, (D.lit t0.1 24 fun i => (S_api_Cube.d (t0.2 i)))), (1, (D.fn 53 (D.cons (D.lptr (S_api_Cube.d t1_0)) D.nil))), (7, (D.int .i64 t7)), (8, (D.int .i64 t8)), (9, (D.bool (decide (t8 < t7))))], [])) rfl (by kernel_rfl) trivial ?_
  refine runs_if (b := (decide (t8 < t7))) (by kernel_rfl) (fun hb => ?_) (fun hb => ?_)
  · replace h := ifs_true h hb
    obtain ⟨p0, h⟩ := chk_some h
    obtain ⟨r0, cr0, h⟩ := Option.bind_eq_some_iff.1 h
    refine runs_regions 2 [([], [0, 1, 5, 7, 8]), ([(.d (D.bool r0))], [0, 1, 5, 7, 8, 16])] (z := ([(0 ≤ t8 ∧ t8 < ((t0.1 : Nat) : Int)), FC Try.prog 53 [(S_api_Cube.d (t0.2 t8.toNat)), (D.lptr (S_api_Cube.d t1_0))] [] (D.bool r0) [], All (List.map NoRow [(S_api_Cube.d (t0.2 t8.toNat)), (D.lptr (S_api_Cube.d t1_0))])], [(0, (D.lit t0.1 24 fun i => (S_api_Cube.d (t0.2 i)))), (1, (D.fn 53 (D.cons (D.lptr (S_api_Cube.d t1_0)) D.nil))), (5, (D.int .i64 t8)), (7, (D.int .i64 t7)), (8, (D.int .i64 t8)), (16, (D.bool r0))], [])) rfl (by kernel_rfl) (And.intro p0 (And.intro (fc_space_Touch_1 fu (t0.2 t8.toNat) t1_0 cr0) (And.intro (And.intro (S_api_Cube.inn _) (And.intro (S_api_Cube.inn _) trivial)) trivial))) ?_
    refine runs_if (b := r0) (by kernel_rfl) (fun hb => ?_) (fun hb => ?_)
    · replace h := ifs_true h hb
      refine runs_regions 1 [([], [4])] (z := ([], [(4, (D.int .i64 t8))], [])) rfl (by kernel_rfl) trivial ?_
      rw [← Option.some.inj h] at hk
      obtain rfl : d = (D.int .i64 t8) := hk
      exact runs_ret (by kernel_rfl) trivial (Nat.le_refl 0) trivial trivial
    · replace h := ifs_false h hb
      refine runs_regions 1 [([], [0, 1, 7, 8])] (z := ([], [(0, (D.lit t0.1 24 fun i => (S_api_Cube.d (t0.2 i)))), (1, (D.fn 53 (D.cons (D.lptr (S_api_Cube.d t1_0)) D.nil))), (7, (D.int .i64 t7)), (8, (D.int .i64 (IntKind.wrap .i64 (t8 + (1 : Int)))))], [])) rfl (by kernel_rfl) trivial ?_
      rw [← Option.some.inj h] at hk
      refine runs_to (ts := [0, 1, 7, 8]) (T' := T_slices_IndexFunc_api_Cube_space_Touch_1_L1) (env' := [(0, (D.lit t0.1 24 fun i => (S_api_Cube.d (t0.2 i)))), (1, (D.fn 53 (D.cons (D.lptr (S_api_Cube.d t1_0)) D.nil))), (7, (D.int .i64 t7)), (8, (D.int .i64 (IntKind.wrap .i64 (t8 + (1 : Int)))))]) (h2 := []) (by kernel_rfl) (by kernel_rfl) trivial (Nat.zero_le _) trivial (And.intro (fun _ _ => (S_api_Cube.inn _)) (And.intro (And.intro (S_api_Cube.inn _) trivial) (And.intro trivial (And.intro trivial trivial)))) ?_
      exact hk
  · replace h := ifs_false h hb
    rw [← Option.some.inj h] at hk
    refine runs_to (ts := []) (T' := X_slices_IndexFunc_api_Cube_space_Touch_1_L1T) (env' := []) (h2 := []) (by kernel_rfl) (by kernel_rfl) trivial (Nat.zero_le _) trivial trivial ?_
    exact hk

theorem iter_slices_IndexFunc_api_Cube_space_Touch_1_L1 (fu : Nat) (t0 : (Nat × (Nat → S_api_Cube))) (t1_0 : S_api_Cube) (t7 : Int) {d : D} (k : Nat) (s : Int) {o : E_slices_IndexFunc_api_Cube_space_Touch_1_L1 ⊕ Int} (h : iter (fun s => F_slices_IndexFunc_api_Cube_space_Touch_1_L1 fu t0 t1_0 t7 s) k s = some o) (hx : X_slices_IndexFunc_api_Cube_space_Touch_1_L1 fu t0 t1_0 t7 d o) : N_slices_IndexFunc_api_Cube_space_Touch_1_L1 fu t0 t1_0 t7 d s :=
  iter_post (K := N_slices_IndexFunc_api_Cube_space_Touch_1_L1 fu t0 t1_0 t7 d) (X := X_slices_IndexFunc_api_Cube_space_Touch_1_L1 fu t0 t1_0 t7 d) (fun s _ h hk => run_slices_IndexFunc_api_Cube_space_Touch_1_L1 fu t0 t1_0 t7 s h hk) k s o h hx

/-- slices.IndexFunc[[]podesta/api.Cube,podesta/api.Cube] -/
def F_slices_IndexFunc_api_Cube_space_Touch_1 (fu : Nat) (t0 : (Nat × (Nat → S_api_Cube))) (t1_0 : S_api_Cube) : Option Int :=
  after (iter (fun s => F_slices_IndexFunc_api_Cube_space_Touch_1_L1 fu t0 t1_0 ((t0.1 : Nat) : Int) s) fu (0 : Int)) fun _ =>
  some (-1 : Int)

theorem run_slices_IndexFunc_api_Cube_space_Touch_1 (fu : Nat) (t0 : (Nat × (Nat → S_api_Cube))) (t1_0 : S_api_Cube) {d : D} {r : Int} (h : F_slices_IndexFunc_api_Cube_space_Touch_1 fu t0 t1_0 = some r) (hk : (K_slices_IndexFunc_api_Cube_space_Touch_1 d) r) : Runs Try.prog Try.f55 0 T_slices_IndexFunc_api_Cube_space_Touch_1 [(0, (D.lit t0.1 24 fun i => (S_api_Cube.d (t0.2 i)))), (1, (D.fn 53 (D.cons (D.lptr (S_api_Cube.d t1_0)) D.nil)))] [] d [] := by
  unfold F_slices_IndexFunc_api_Cube_space_Touch_1 at h
  refine runs_regions 2 [([], [0, 1]), ([], [0, 1, 7, 8])] (z := ([], [(0, (D.lit t0.1 24 fun i => (S_api_Cube.d (t0.2 i)))), (1, (D.fn 53 (D.cons (D.lptr (S_api_Cube.d t1_0)) D.nil))), (7, (D.int .i64 ((t0.1 : Nat) : Int))), (8, (D.int .i64 (0 : Int)))], [])) rfl (by kernel_rfl) trivial ?_
  refine runs_to (ts := [0, 1, 7, 8]) (T' := T_slices_IndexFunc_api_Cube_space_Touch_1_L1) (env' := [(0, (D.lit t0.1 24 fun i => (S_api_Cube.d (t0.2 i)))), (1, (D.fn 53 (D.cons (D.lptr (S_api_Cube.d t1_0)) D.nil))), (7, (D.int .i64 ((t0.1 : Nat) : Int))), (8, (D.int .i64 (0 : Int)))]) (h2 := []) (by kernel_rfl) (by kernel_rfl) trivial (Nat.zero_le _) trivial (And.intro (fun _ _ => (S_api_Cube.inn _)) (And.intro (And.intro (S_api_Cube.inn _) trivial) (And.intro trivial (And.intro trivial trivial)))) ?_
  rcases after_some h with ⟨e2, hi, h⟩ | hi
  · refine iter_slices_IndexFunc_api_Cube_space_Touch_1_L1 fu t0 t1_0 ((t0.1 : Nat) : Int) fu (0 : Int) hi ?_
    show Runs Try.prog Try.f55 0 X_slices_IndexFunc_api_Cube_space_Touch_1_L1T [] [] d []
    refine runs_regions 1 [([], [4])] (z := ([], [(4, (D.int .i64 (-1 : Int)))], [])) rfl (by kernel_rfl) trivial ?_
    rw [← Option.some.inj h] at hk
    obtain rfl : d = (D.int .i64 (-1 : Int)) := hk
    exact runs_ret (by kernel_rfl) trivial (Nat.le_refl 0) trivial trivial
  · exact iter_slices_IndexFunc_api_Cube_space_Touch_1_L1 fu t0 t1_0 ((t0.1 : Nat) : Int) fu (0 : Int) hi hk

theorem fc_slices_IndexFunc_api_Cube_space_Touch_1 (fu : Nat) (t0 : (Nat × (Nat → S_api_Cube))) (t1_0 : S_api_Cube) {r : Int} (h : F_slices_IndexFunc_api_Cube_space_Touch_1 fu t0 t1_0 = some r) : FC Try.prog 55 [(D.lit t0.1 24 fun i => (S_api_Cube.d (t0.2 i))), (D.fn 53 (D.cons (D.lptr (S_api_Cube.d t1_0)) D.nil))] [] (D.int .i64 r) [] := by
  refine fc_of_runs (fn := Try.f55) (c := Try.f55.body.getD .skip) (by kernel_rfl) (by kernel_rfl) ?_
  refine runs_to (ts := [0, 1]) (T' := T_slices_IndexFunc_api_Cube_space_Touch_1) (env' := [(0, (D.lit t0.1 24 fun i => (S_api_Cube.d (t0.2 i)))), (1, (D.fn 53 (D.cons (D.lptr (S_api_Cube.d t1_0)) D.nil)))]) (h2 := []) (by kernel_rfl) (by kernel_rfl) trivial (Nat.le_refl _) trivial (And.intro (fun _ _ => (S_api_Cube.inn _)) (And.intro (And.intro (S_api_Cube.inn _) trivial) trivial)) ?_
  exact run_slices_IndexFunc_api_Cube_space_Touch_1 fu t0 t1_0 h rfl

def K_slices_ContainsFunc_api_Cube_space_Touch_1 (d : D) (r : Bool) : Prop := d = (D.bool r)

noncomputable def T_slices_ContainsFunc_api_Cube_space_Touch_1 : List Item := norm 200 [.code (Try.f41.body.getD .skip)]

/-- slices.ContainsFunc[[]podesta/api.Cube,podesta/api.Cube] -/
def F_slices_ContainsFunc_api_Cube_space_Touch_1 (fu : Nat) (t0 : (Nat × (Nat → S_api_Cube))) (t1_0 : S_api_Cube) : Option Bool :=
  (F_slices_IndexFunc_api_Cube_space_Touch_1 fu t0 t1_0).bind fun r0 =>
  some (decide (r0 ≥ (0 : Int)))

theorem run_slices_ContainsFunc_api_Cube_space_Touch_1 (fu : Nat) (t0 : (Nat × (Nat → S_api_Cube))) (t1_0 : S_api_Cube) {d : D} {r : Bool} (h : F_slices_ContainsFunc_api_Cube_space_Touch_1 fu t0 t1_0 = some r) (hk : (K_slices_ContainsFunc_api_Cube_space_Touch_1 d) r) : Runs Try.prog Try.f41 0 T_slices_ContainsFunc_api_Cube_space_Touch_1 [(0, (D.lit t0.1 24 fun i => (S_api_Cube.d (t0.2 i)))), (1, (D.fn 53 (D.cons (D.lptr (S_api_Cube.d t1_0)) D.nil)))] [] d [] := by
  unfold F_slices_ContainsFunc_api_Cube_space_Touch_1 at h
  obtain ⟨r0, cr0, h⟩ := Option.bind_eq_some_iff.1 h
  refine runs_regions 2 [([], [0, 1]), ([(.d (D.int .i64 r0))], [4])] (z := ([FC Try.prog 55 [(D.lit t0.1 24 fun i => (S_api_Cube.d (t0.2 i))), (D.fn 53 (D.cons (D.lptr (S_api_Cube.d t1_0)) D.nil))] [] (D.int .i64 r0) [], All (List.map NoRow [(D.lit t0.1 24 fun i => (S_api_Cube.d (t0.2 i))), (D.fn 53 (D.cons (D.lptr (S_api_Cube.d t1_0)) D.nil))])], [(4, (D.bool (decide (r0 ≥ (0 : Int)))))], [])) rfl (by kernel_rfl) (And.intro (fc_slices_IndexFunc_api_Cube_space_Touch_1 fu t0 t1_0 cr0) (And.intro (And.intro (fun _ _ => (S_api_Cube.inn _)) (And.intro (And.intro (S_api_Cube.inn _) trivial) trivial)) trivial)) ?_
  rw [← Option.some.inj h] at hk
  obtain rfl : d = (D.bool (decide (r0 ≥ (0 : Int)))) := hk
  exact runs_ret (by kernel_rfl) trivial (Nat.le_refl 0) trivial trivial

theorem fc_slices_ContainsFunc_api_Cube_space_Touch_1 (fu : Nat) (t0 : (Nat × (Nat → S_api_Cube))) (t1_0 : S_api_Cube) {r : Bool} (h : F_slices_ContainsFunc_api_Cube_space_Touch_1 fu t0 t1_0 = some r) : FC Try.prog 41 [(D.lit t0.1 24 fun i => (S_api_Cube.d (t0.2 i))), (D.fn 53 (D.cons (D.lptr (S_api_Cube.d t1_0)) D.nil))] [] (D.bool r) [] := by
  refine fc_of_runs (fn := Try.f41) (c := Try.f41.body.getD .skip) (by kernel_rfl) (by kernel_rfl) ?_
  refine runs_to (ts := [0, 1]) (T' := T_slices_ContainsFunc_api_Cube_space_Touch_1) (env' := [(0, (D.lit t0.1 24 fun i => (S_api_Cube.d (t0.2 i)))), (1, (D.fn 53 (D.cons (D.lptr (S_api_Cube.d t1_0)) D.nil)))]) (h2 := []) (by kernel_rfl) (by kernel_rfl) trivial (Nat.le_refl _) trivial (And.intro (fun _ _ => (S_api_Cube.inn _)) (And.intro (And.intro (S_api_Cube.inn _) trivial) trivial)) ?_
  exact run_slices_ContainsFunc_api_Cube_space_Touch_1 fu t0 t1_0 h rfl

def K_space_Touch (d : D) (r : Bool) : Prop := d = (D.bool r)

noncomputable def T_space_Touch : List Item := norm 200 [.code (Try.f28.body.getD .skip)]

noncomputable def T_space_Touch_L1 : List Item := norm 200 (nxt (nxt T_space_Touch))

noncomputable def X_space_Touch_L1T : List Item := norm 200 (cndF (nxt (nxt (nxt T_space_Touch))))

abbrev E_space_Touch_L1 := Unit

def N_space_Touch_L1 (_fu : Nat) (t1 : (Nat × (Nat → S_api_Cube))) (t8 : (Nat × (Nat → S_api_Cube))) (t9 : Int) (d : D) (s : Int) : Prop := Runs Try.prog Try.f28 0 T_space_Touch_L1 [(1, (D.lit t1.1 24 fun i => (S_api_Cube.d (t1.2 i)))), (8, (D.lit t8.1 24 fun i => (S_api_Cube.d (t8.2 i)))), (9, (D.int .i64 t9)), (10, (D.int .i64 s))] [] d []

def X_space_Touch_L1 (_fu : Nat) (_t1 : (Nat × (Nat → S_api_Cube))) (_t8 : (Nat × (Nat → S_api_Cube))) (_t9 : Int) (d : D) : E_space_Touch_L1 ⊕ Bool → Prop
  | .inl _ => Runs Try.prog Try.f28 0 X_space_Touch_L1T [] [] d []
  | .inr o => (K_space_Touch d) o

def F_space_Touch_L1 (fu : Nat) (t1 : (Nat × (Nat → S_api_Cube))) (t8 : (Nat × (Nat → S_api_Cube))) (t9 : Int) (t10 : Int) : Option (Lo Int E_space_Touch_L1 Bool) :=
  ifs (decide (t10 < t9)) (
    chk (0 ≤ t10 ∧ t10 < ((t8.1 : Nat) : Int)) <|
    (F_slices_ContainsFunc_api_Cube_space_Touch_1 fu t1 (t8.2 t10.toNat)).bind fun r0 =>
    ifs r0 (
      some (.ret true)) (
      some (.next (IntKind.wrap .i64 (t10 + (1 : Int)))))) (
    some (.exit ()))

theorem run_space_Touch_L1 (fu : Nat) (t1 : (Nat × (Nat → S_api_Cube))) (t8 : (Nat × (Nat → S_api_Cube))) (t9 : Int) (t10 : Int) {d : D} {o : (Lo Int E_space_Touch_L1 Bool)} (h : F_space_Touch_L1 fu t1 t8 t9 t10 = some o) (hk : (Lo.post (N_space_Touch_L1 fu t1 t8 t9 d) (X_space_Touch_L1 fu t1 t8 t9 d)) o) : Runs Try.prog Try.f28 0 T_space_Touch_L1 [(1, (D.lit t1.1 24 fun i => (S_api_Cube.d (t1.2 i)))), (8, (D.lit t8.1 24 fun i => (S_api_Cube.d (t8.2 i)))), (9, (D.int .i64 t9)), (10, (D.int .i64 t10))] [] d [] := by
  unfold F_space_Touch_L1 at h
  refine runs_regions 1 [([], [1, 8, 9, 10, 11])] (z := ([], [(1, (D.lit t1.1 24 fun i => (S_api_Cube.d (t1.2 i)))), (8, (D.lit t8.1 24 fun i => (S_api_Cube.d (t8.2 i)))), (9, (D.int .i64 t9)), (10, (D.int .i64 t10)), (11, (D.bool (decide (t10 < t9))))], [])) rfl (by kernel_rfl) trivial ?_
  refine runs_if (b := (decide (t10 < t9))) (by kernel_rfl) (fun hb => ?_) (fun hb => ?_)
  · replace h := ifs_true h hb
    obtain ⟨p0, h⟩ := chk_some h
    refine runs_regions 1 [([], [1, 6, 8, 9, 10])] (z := ([(0 ≤ t10 ∧ t10 < ((t8.1 : Nat) : Int))], [(1, (D.lit t1.1 24 fun i => (S_api_Cube.d (t1.2 i)))), (6, (D.ptr 0 [])), (8, (D.lit t8.1 24 fun i => (S_api_Cube.d (t8.2 i)))), (9, (D.int .i64 t9)), (10, (D.int .i64 t10))], [some (.box (S_api_Cube.d (t8.2 t10.toNat)))])) rfl (by kernel_rfl) (And.intro p0 trivial) ?_
    refine runs_freeze 0 (row := (.box (S_api_Cube.d (t8.2 t10.toNat)))) rfl ?_
    obtain ⟨r0, cr0, h⟩ := Option.bind_eq_some_iff.1 h
    refine runs_regions 2 [([], [1, 7, 8, 9, 10]), ([(.d (D.bool r0))], [1, 8, 9, 10, 17])] (z := ([FC Try.prog 41 [(D.lit t1.1 24 fun i => (S_api_Cube.d (t1.2 i))), (D.fn 53 (D.cons (D.lptr (S_api_Cube.d (t8.2 t10.toNat))) D.nil))] [] (D.bool r0) [], All (List.map NoRow [(D.lit t1.1 24 fun i => (S_api_Cube.d (t1.2 i))), (D.fn 53 (D.cons (D.lptr (S_api_Cube.d (t8.2 t10.toNat))) D.nil))])], [(1, (D.lit t1.1 24 fun i => (S_api_Cube.d (t1.2 i)))), (8, (D.lit t8.1 24 fun i => (S_api_Cube.d (t8.2 i)))), (9, (D.int .i64 t9)), (10, (D.int .i64 t10)), (17, (D.bool r0))], [none])) rfl (by kernel_rfl) (And.intro (fc_slices_ContainsFunc_api_Cube_space_Touch_1 fu t1 (t8.2 t10.toNat) cr0) (And.intro (And.intro (fun _ _ => (S_api_Cube.inn _)) (And.intro (And.intro (S_api_Cube.inn _) trivial) trivial)) trivial)) ?_
    refine runs_if (b := r0) (by kernel_rfl) (fun hb => ?_) (fun hb => ?_)
    · replace h := ifs_true h hb
      refine runs_regions 1 [([], [4])] (z := ([], [(4, (D.bool true))], [none])) rfl (by kernel_rfl) trivial ?_
      rw [← Option.some.inj h] at hk
      obtain rfl : d = (D.bool true) := hk
      exact runs_ret (by kernel_rfl) trivial (Nat.le_refl 0) trivial trivial
    · replace h := ifs_false h hb
      refine runs_regions 1 [([], [1, 8, 9, 10])] (z := ([], [(1, (D.lit t1.1 24 fun i => (S_api_Cube.d (t1.2 i)))), (8, (D.lit t8.1 24 fun i => (S_api_Cube.d (t8.2 i)))), (9, (D.int .i64 t9)), (10, (D.int .i64 (IntKind.wrap .i64 (t10 + (1 : Int)))))], [none])) rfl (by kernel_rfl) trivial ?_
      rw [← Option.some.inj h] at hk
      refine runs_to (ts := [1, 8, 9, 10]) (T' := T_space_Touch_L1) (env' := [(1, (D.lit t1.1 24 fun i => (S_api_Cube.d (t1.2 i)))), (8, (D.lit t8.1 24 fun i => (S_api_Cube.d (t8.2 i)))), (9, (D.int .i64 t9)), (10, (D.int .i64 (IntKind.wrap .i64 (t10 + (1 : Int)))))]) (h2 := []) (by kernel_rfl) (by kernel_rfl) trivial (Nat.zero_le _) trivial (And.intro (fun _ _ => (S_api_Cube.inn _)) (And.intro (fun _ _ => (S_api_Cube.inn _)) (And.intro trivial (And.intro trivial trivial)))) ?_
      exact hk
  · replace h := ifs_false h hb
    rw [← Option.some.inj h] at hk
    refine runs_to (ts := []) (T' := X_space_Touch_L1T) (env' := []) (h2 := []) (by kernel_rfl) (by kernel_rfl) trivial (Nat.zero_le _) trivial trivial ?_
    exact hk

theorem iter_space_Touch_L1 (fu : Nat) (t1 : (Nat × (Nat → S_api_Cube))) (t8 : (Nat × (Nat → S_api_Cube))) (t9 : Int) {d : D} (k : Nat) (s : Int) {o : E_space_Touch_L1 ⊕ Bool} (h : iter (fun s => F_space_Touch_L1 fu t1 t8 t9 s) k s = some o) (hx : X_space_Touch_L1 fu t1 t8 t9 d o) : N_space_Touch_L1 fu t1 t8 t9 d s :=
  iter_post (K := N_space_Touch_L1 fu t1 t8 t9 d) (X := X_space_Touch_L1 fu t1 t8 t9 d) (fun s _ h hk => run_space_Touch_L1 fu t1 t8 t9 s h hk) k s o h hx

/-- podesta/space.Touch -/
def F_space_Touch (fu : Nat) (t0 : (Nat × (Nat → S_api_Cube))) (t1 : (Nat × (Nat → S_api_Cube))) : Option Bool :=
  after (iter (fun s => F_space_Touch_L1 fu t1 t0 ((t0.1 : Nat) : Int) s) fu (0 : Int)) fun _ =>
  some false

theorem run_space_Touch (fu : Nat) (t0 : (Nat × (Nat → S_api_Cube))) (t1 : (Nat × (Nat → S_api_Cube))) {d : D} {r : Bool} (h : F_space_Touch fu t0 t1 = some r) (hk : (K_space_Touch d) r) : Runs Try.prog Try.f28 0 T_space_Touch [(0, (D.lit t0.1 24 fun i => (S_api_Cube.d (t0.2 i)))), (1, (D.lit t1.1 24 fun i => (S_api_Cube.d (t1.2 i))))] [] d [] := by
  unfold F_space_Touch at h
  refine runs_regions 2 [([], [0, 1]), ([], [1, 8, 9, 10])] (z := ([], [(1, (D.lit t1.1 24 fun i => (S_api_Cube.d (t1.2 i)))), (8, (D.lit t0.1 24 fun i => (S_api_Cube.d (t0.2 i)))), (9, (D.int .i64 ((t0.1 : Nat) : Int))), (10, (D.int .i64 (0 : Int)))], [])) rfl (by kernel_rfl) trivial ?_
  refine runs_to (ts := [1, 8, 9, 10]) (T' := T_space_Touch_L1) (env' := [(1, (D.lit t1.1 24 fun i => (S_api_Cube.d (t1.2 i)))), (8, (D.lit t0.1 24 fun i => (S_api_Cube.d (t0.2 i)))), (9, (D.int .i64 ((t0.1 : Nat) : Int))), (10, (D.int .i64 (0 : Int)))]) (h2 := []) (by kernel_rfl) (by kernel_rfl) trivial (Nat.zero_le _) trivial (And.intro (fun _ _ => (S_api_Cube.inn _)) (And.intro (fun _ _ => (S_api_Cube.inn _)) (And.intro trivial (And.intro trivial trivial)))) ?_
  rcases after_some h with ⟨e2, hi, h⟩ | hi
  · refine iter_space_Touch_L1 fu t1 t0 ((t0.1 : Nat) : Int) fu (0 : Int) hi ?_
    show Runs Try.prog Try.f28 0 X_space_Touch_L1T [] [] d []
    refine runs_regions 1 [([], [4])] (z := ([], [(4, (D.bool false))], [])) rfl (by kernel_rfl) trivial ?_
    rw [← Option.some.inj h] at hk
    obtain rfl : d = (D.bool false) := hk
    exact runs_ret (by kernel_rfl) trivial (Nat.le_refl 0) trivial trivial
  · exact iter_space_Touch_L1 fu t1 t0 ((t0.1 : Nat) : Int) fu (0 : Int) hi hk

theorem fc_space_Touch (fu : Nat) (t0 : (Nat × (Nat → S_api_Cube))) (t1 : (Nat × (Nat → S_api_Cube))) {r : Bool} (h : F_space_Touch fu t0 t1 = some r) : FC Try.prog 28 [(D.lit t0.1 24 fun i => (S_api_Cube.d (t0.2 i))), (D.lit t1.1 24 fun i => (S_api_Cube.d (t1.2 i)))] [] (D.bool r) [] := by
  refine fc_of_runs (fn := Try.f28) (c := Try.f28.body.getD .skip) (by kernel_rfl) (by kernel_rfl) ?_
  refine runs_to (ts := [0, 1]) (T' := T_space_Touch) (env' := [(0, (D.lit t0.1 24 fun i => (S_api_Cube.d (t0.2 i)))), (1, (D.lit t1.1 24 fun i => (S_api_Cube.d (t1.2 i))))]) (h2 := []) (by kernel_rfl) (by kernel_rfl) trivial (Nat.le_refl _) trivial (And.intro (fun _ _ => (S_api_Cube.inn _)) (And.intro (fun _ _ => (S_api_Cube.inn _)) trivial)) ?_
  exact run_space_Touch fu t0 t1 h rfl

def K_law03_SpaceAll (d : D) (r : Bool) : Prop := d = (D.bool r)

noncomputable def T_law03_SpaceAll : List Item := norm 200 [.code (Try.f7.body.getD .skip)]

/-- podesta/podestalaw03.SpaceAll -/
def F_law03_SpaceAll (fu : Nat) (t0 : (Nat × (Nat → S_api_Cube))) : Option Bool :=
  (F_law03_few t0).bind fun r0 =>
  (callIf (!(!r0)) (F_ref01_Space fu t0) false).bind fun r1 =>
  ifs (bif (!r0) then true else (!r1)) (
    (F_law03_answers fu).bind fun r2 =>
    some r2) (
    (F_space_Less fu (1, (fun i => ([(S_api_Cube.mk (fun _ => 0) (fun _ => 0))] : List S_api_Cube).getD i (S_api_Cube.mk (fun _ => 0) (fun _ => 0)))) t0).bind fun r3 =>
    ifs (bif (r3.2 != (0 : Int)) then true else (decide ((IntKind.wrap .i64 (((r3.1.1 : Nat) : Int) + ((t0.1 : Nat) : Int))) > (64 : Int)))) (
      (F_law03_answers fu).bind fun r4 =>
      some r4) (
      chk (RoomOk (0 + r3.1.1) 192) <|
      chk (RoomOk ((0 + r3.1.1) + t0.1) 192) <|
      (F_space_Within fu (1, (fun i => ([(S_api_Cube.mk (fun _ => 0) (fun _ => 0))] : List S_api_Cube).getD i (S_api_Cube.mk (fun _ => 0) (fun _ => 0)))) (((0 + r3.1.1) + t0.1), (fun i => if i < (0 + r3.1.1) then (fun i => if i < 0 then (fun i => ([] : List S_api_Cube).getD i (S_api_Cube.mk (fun _ => 0) (fun _ => 0))) i else r3.1.2 (i - 0)) i else t0.2 (i - (0 + r3.1.1))))).bind fun r5 =>
      (F_law03_answers fu).bind fun r6 =>
      (callIf (bif r6 then (bif (r5.2 != (0 : Int)) then true else r5.1) else false) (F_space_Touch fu r3.1 t0) false).bind fun r7 =>
      some (bif (bif r6 then (bif (r5.2 != (0 : Int)) then true else r5.1) else false) then (!r7) else false)))

theorem run_law03_SpaceAll (fu : Nat) (t0 : (Nat × (Nat → S_api_Cube))) {d : D} {r : Bool} (h : F_law03_SpaceAll fu t0 = some r) (hk : (K_law03_SpaceAll d) r) : Runs Try.prog Try.f7 0 T_law03_SpaceAll [(0, (D.lit t0.1 24 fun i => (S_api_Cube.d (t0.2 i))))] [] d [] := by
  unfold F_law03_SpaceAll at h
  obtain ⟨r0, cr0, h⟩ := Option.bind_eq_some_iff.1 h
  obtain ⟨r1, cr1, h⟩ := Option.bind_eq_some_iff.1 h
  refine runs_regions 2 [([], [0]), ([(.d (D.bool r0)), (.d (D.bool r1))], [0, 14])] (z := ([FC Try.prog 25 [(D.lit t0.1 24 fun i => (S_api_Cube.d (t0.2 i)))] [] (D.bool r0) [], All (List.map NoRow [(D.lit t0.1 24 fun i => (S_api_Cube.d (t0.2 i)))]), ((!(!r0)) = true → All [((!(!r0)) = true → (!(!r0)) = true), FC Try.prog 21 [(D.lit t0.1 24 fun i => (S_api_Cube.d (t0.2 i)))] [] (D.bool r1) [], All (List.map NoRow [(D.lit t0.1 24 fun i => (S_api_Cube.d (t0.2 i)))])]), ((!(!r0)) = true → All [((!(!r0)) = true → (!(!r0)) = true)]), ((true && !(!r0)) = true → (!(!r0)) = true)], [(0, (D.lit t0.1 24 fun i => (S_api_Cube.d (t0.2 i)))), (14, (D.bool (bif (!r0) then true else (!r1))))], [])) rfl (by kernel_rfl) (And.intro (fc_law03_few t0 cr0) (And.intro (And.intro (fun _ _ => (S_api_Cube.inn _)) trivial) (And.intro (fun hg => (And.intro (by first | exact fun h => h | exact fun h => (Bool.and_eq_true_iff.1 h).1 | simp_all) (And.intro (fc_ref01_Space fu t0 (callIf_some cr1 hg)) (And.intro (And.intro (fun _ _ => (S_api_Cube.inn _)) trivial) trivial)))) (And.intro (fun _ => (And.intro (by first | exact fun h => h | exact fun h => (Bool.and_eq_true_iff.1 h).1 | simp_all) trivial)) (And.intro (by first | exact fun h => h | exact fun h => (Bool.and_eq_true_iff.1 h).1 | simp_all) trivial))))) ?_
  refine runs_if (b := (bif (!r0) then true else (!r1))) (by kernel_rfl) (fun hb => ?_) (fun hb => ?_)
  · replace h := ifs_true h hb
    obtain ⟨r2, cr2, h⟩ := Option.bind_eq_some_iff.1 h
    refine runs_regions 1 [([(.d (D.bool r2))], [2])] (z := ([FC Try.prog 17 [] [] (D.bool r2) [], All (List.map NoRow [])], [(2, (D.bool r2))], [])) rfl (by kernel_rfl) (And.intro (fc_law03_answers fu cr2) (And.intro trivial trivial)) ?_
    rw [← Option.some.inj h] at hk
    obtain rfl : d = (D.bool r2) := hk
    exact runs_ret (by kernel_rfl) trivial (Nat.le_refl 0) trivial trivial
  · replace h := ifs_false h hb
    obtain ⟨r3, cr3, h⟩ := Option.bind_eq_some_iff.1 h
    refine runs_regions 2 [([(.lit fun i => (S_api_Cube.d ((fun i => ([(S_api_Cube.mk (fun _ => 0) (fun _ => 0))] : List S_api_Cube).getD i (S_api_Cube.mk (fun _ => 0) (fun _ => 0))) i))), (.d (D.tup (D.cons (D.lit r3.1.1 24 fun i => (S_api_Cube.d (r3.1.2 i))) (D.cons (D.int .i64 r3.2) D.nil))))], [0, 3, 4]), ([], [0, 3, 32])] (z := ([TabOk [(D.cons (D.ints .u64 12 (fun _ => 0)) (D.cons (D.ints .u64 12 (fun _ => 0)) D.nil))] 24 (D.arr 1 24 fun i => (S_api_Cube.d ((fun i => ([(S_api_Cube.mk (fun _ => 0) (fun _ => 0))] : List S_api_Cube).getD i (S_api_Cube.mk (fun _ => 0) (fun _ => 0))) i))), FC Try.prog 26 [(D.lit 1 24 fun i => (S_api_Cube.d ((fun i => ([(S_api_Cube.mk (fun _ => 0) (fun _ => 0))] : List S_api_Cube).getD i (S_api_Cube.mk (fun _ => 0) (fun _ => 0))) i))), (D.lit t0.1 24 fun i => (S_api_Cube.d (t0.2 i)))] [] (D.tup (D.cons (D.lit r3.1.1 24 fun i => (S_api_Cube.d (r3.1.2 i))) (D.cons (D.int .i64 r3.2) D.nil))) [], All (List.map NoRow [(D.lit 1 24 fun i => (S_api_Cube.d ((fun i => ([(S_api_Cube.mk (fun _ => 0) (fun _ => 0))] : List S_api_Cube).getD i (S_api_Cube.mk (fun _ => 0) (fun _ => 0))) i))), (D.lit t0.1 24 fun i => (S_api_Cube.d (t0.2 i)))]), ((!(r3.2 != (0 : Int))) = true → All [((!(r3.2 != (0 : Int))) = true → (!(r3.2 != (0 : Int))) = true)]), ((!(r3.2 != (0 : Int))) = true → All [((!(r3.2 != (0 : Int))) = true → (!(r3.2 != (0 : Int))) = true)]), ((!(r3.2 != (0 : Int))) = true → All [((!(r3.2 != (0 : Int))) = true → (!(r3.2 != (0 : Int))) = true), ((!(r3.2 != (0 : Int))) = true → (!(r3.2 != (0 : Int))) = true)]), ((!(r3.2 != (0 : Int))) = true → All [((!(r3.2 != (0 : Int))) = true → (!(r3.2 != (0 : Int))) = true)]), ((true && !(r3.2 != (0 : Int))) = true → (!(r3.2 != (0 : Int))) = true)], [(0, (D.lit t0.1 24 fun i => (S_api_Cube.d (t0.2 i)))), (3, (D.lit r3.1.1 24 fun i => (S_api_Cube.d (r3.1.2 i)))), (32, (D.bool (bif (r3.2 != (0 : Int)) then true else (decide ((IntKind.wrap .i64 (((r3.1.1 : Nat) : Int) + ((t0.1 : Nat) : Int))) > (64 : Int))))))], [])) rfl (by kernel_rfl) (And.intro (tabOk_arr rfl (And.intro rfl trivial)) (And.intro (fc_space_Less fu (1, (fun i => ([(S_api_Cube.mk (fun _ => 0) (fun _ => 0))] : List S_api_Cube).getD i (S_api_Cube.mk (fun _ => 0) (fun _ => 0)))) t0 cr3) (And.intro (And.intro (fun _ _ => (S_api_Cube.inn _)) (And.intro (fun _ _ => (S_api_Cube.inn _)) trivial)) (And.intro (fun _ => (And.intro (by first | exact fun h => h | exact fun h => (Bool.and_eq_true_iff.1 h).1 | simp_all) trivial)) (And.intro (fun _ => (And.intro (by first | exact fun h => h | exact fun h => (Bool.and_eq_true_iff.1 h).1 | simp_all) trivial)) (And.intro (fun _ => (And.intro (by first | exact fun h => h | exact fun h => (Bool.and_eq_true_iff.1 h).1 | simp_all) (And.intro (by first | exact fun h => h | exact fun h => (Bool.and_eq_true_iff.1 h).1 | simp_all) trivial))) (And.intro (fun _ => (And.intro (by first | exact fun h => h | exact fun h => (Bool.and_eq_true_iff.1 h).1 | simp_all) trivial)) (And.intro (by first | exact fun h => h | exact fun h => (Bool.and_eq_true_iff.1 h).1 | simp_all) trivial)))))))) ?_
    refine runs_if (b := (bif (r3.2 != (0 : Int)) then true else (decide ((IntKind.wrap .i64 (((r3.1.1 : Nat) : Int) + ((t0.1 : Nat) : Int))) > (64 : Int))))) (by kernel_rfl) (fun hb => ?_) (fun hb => ?_)
    · replace h := ifs_true h hb
      obtain ⟨r4, cr4, h⟩ := Option.bind_eq_some_iff.1 h
      refine runs_regions 1 [([(.d (D.bool r4))], [2])] (z := ([FC Try.prog 17 [] [] (D.bool r4) [], All (List.map NoRow [])], [(2, (D.bool r4))], [])) rfl (by kernel_rfl) (And.intro (fc_law03_answers fu cr4) (And.intro trivial trivial)) ?_
      rw [← Option.some.inj h] at hk
      obtain rfl : d = (D.bool r4) := hk
      exact runs_ret (by kernel_rfl) trivial (Nat.le_refl 0) trivial trivial
    · replace h := ifs_false h hb
      obtain ⟨p0, h⟩ := chk_some h
      obtain ⟨p1, h⟩ := chk_some h
      obtain ⟨r5, cr5, h⟩ := Option.bind_eq_some_iff.1 h
      obtain ⟨r6, cr6, h⟩ := Option.bind_eq_some_iff.1 h
      obtain ⟨r7, cr7, h⟩ := Option.bind_eq_some_iff.1 h
      refine runs_regions 2 [([(.lit fun i => (S_api_Cube.d ((fun i => ([(S_api_Cube.mk (fun _ => 0) (fun _ => 0))] : List S_api_Cube).getD i (S_api_Cube.mk (fun _ => 0) (fun _ => 0))) i))), (.own (D.arr 0 24 fun i => (S_api_Cube.d ((fun i => ([] : List S_api_Cube).getD i (S_api_Cube.mk (fun _ => 0) (fun _ => 0))) i)))), (.d (D.arr (0 + r3.1.1) 24 fun i => (S_api_Cube.d ((fun i => if i < 0 then (fun i => ([] : List S_api_Cube).getD i (S_api_Cube.mk (fun _ => 0) (fun _ => 0))) i else r3.1.2 (i - 0)) i)))), (.lit fun i => (S_api_Cube.d ((fun i => if i < (0 + r3.1.1) then (fun i => if i < 0 then (fun i => ([] : List S_api_Cube).getD i (S_api_Cube.mk (fun _ => 0) (fun _ => 0))) i else r3.1.2 (i - 0)) i else t0.2 (i - (0 + r3.1.1))) i))), (.d (D.tup (D.cons (D.bool r5.1) (D.cons (D.int .i64 r5.2) D.nil))))], [0, 3, 5, 6]), ([(.d (D.bool r6)), (.d (D.bool r7))], [2])] (z := ([TabOk [(D.cons (D.ints .u64 12 (fun _ => 0)) (D.cons (D.ints .u64 12 (fun _ => 0)) D.nil))] 24 (D.arr 1 24 fun i => (S_api_Cube.d ((fun i => ([(S_api_Cube.mk (fun _ => 0) (fun _ => 0))] : List S_api_Cube).getD i (S_api_Cube.mk (fun _ => 0) (fun _ => 0))) i))), TabOk [] 24 (D.arr 0 24 fun i => (S_api_Cube.d ((fun i => ([] : List S_api_Cube).getD i (S_api_Cube.mk (fun _ => 0) (fun _ => 0))) i))), (RoomOk (0 + r3.1.1) 192), CatOk (D.arr 0 24 fun i => (S_api_Cube.d ((fun i => ([] : List S_api_Cube).getD i (S_api_Cube.mk (fun _ => 0) (fun _ => 0))) i))) (D.arr r3.1.1 24 fun i => (S_api_Cube.d (r3.1.2 i))) (D.arr (0 + r3.1.1) 24 fun i => (S_api_Cube.d ((fun i => if i < 0 then (fun i => ([] : List S_api_Cube).getD i (S_api_Cube.mk (fun _ => 0) (fun _ => 0))) i else r3.1.2 (i - 0)) i))), (RoomOk ((0 + r3.1.1) + t0.1) 192), CatOk (D.arr (0 + r3.1.1) 24 fun i => (S_api_Cube.d ((fun i => if i < 0 then (fun i => ([] : List S_api_Cube).getD i (S_api_Cube.mk (fun _ => 0) (fun _ => 0))) i else r3.1.2 (i - 0)) i))) (D.arr t0.1 24 fun i => (S_api_Cube.d (t0.2 i))) (D.arr ((0 + r3.1.1) + t0.1) 24 fun i1 => (S_api_Cube.d ((fun i => if i < (0 + r3.1.1) then (fun i => if i < 0 then (fun i => ([] : List S_api_Cube).getD i (S_api_Cube.mk (fun _ => 0) (fun _ => 0))) i else r3.1.2 (i - 0)) i else t0.2 (i - (0 + r3.1.1))) i1))), FC Try.prog 27 [(D.lit 1 24 fun i => (S_api_Cube.d ((fun i => ([(S_api_Cube.mk (fun _ => 0) (fun _ => 0))] : List S_api_Cube).getD i (S_api_Cube.mk (fun _ => 0) (fun _ => 0))) i))), (D.lit ((0 + r3.1.1) + t0.1) 24 fun i1 => (S_api_Cube.d ((fun i => if i < (0 + r3.1.1) then (fun i => if i < 0 then (fun i => ([] : List S_api_Cube).getD i (S_api_Cube.mk (fun _ => 0) (fun _ => 0))) i else r3.1.2 (i - 0)) i else t0.2 (i - (0 + r3.1.1))) i1)))] [] (D.tup (D.cons (D.bool r5.1) (D.cons (D.int .i64 r5.2) D.nil))) [], All (List.map NoRow [(D.lit 1 24 fun i => (S_api_Cube.d ((fun i => ([(S_api_Cube.mk (fun _ => 0) (fun _ => 0))] : List S_api_Cube).getD i (S_api_Cube.mk (fun _ => 0) (fun _ => 0))) i))), (D.lit ((0 + r3.1.1) + t0.1) 24 fun i1 => (S_api_Cube.d ((fun i => if i < (0 + r3.1.1) then (fun i => if i < 0 then (fun i => ([] : List S_api_Cube).getD i (S_api_Cube.mk (fun _ => 0) (fun _ => 0))) i else r3.1.2 (i - 0)) i else t0.2 (i - (0 + r3.1.1))) i1)))]), FC Try.prog 17 [] [] (D.bool r6) [], All (List.map NoRow []), (r6 = true → All [(r6 = true → r6 = true)]), (r6 = true → All [(r6 = true → r6 = true)]), (r6 = true → All [(r6 = true → r6 = true), ((r6 && !(r5.2 != (0 : Int))) = true → (r6 && (!(r5.2 != (0 : Int)))) = true)]), ((true && r6) = true → r6 = true), ((bif r6 then (bif (r5.2 != (0 : Int)) then true else r5.1) else false) = true → All [((bif r6 then (bif (r5.2 != (0 : Int)) then true else r5.1) else false) = true → (bif r6 then (bif (r5.2 != (0 : Int)) then true else r5.1) else false) = true), ((bif r6 then (bif (r5.2 != (0 : Int)) then true else r5.1) else false) = true → (bif r6 then (bif (r5.2 != (0 : Int)) then true else r5.1) else false) = true), FC Try.prog 28 [(D.lit r3.1.1 24 fun i => (S_api_Cube.d (r3.1.2 i))), (D.lit t0.1 24 fun i => (S_api_Cube.d (t0.2 i)))] [] (D.bool r7) [], All (List.map NoRow [(D.lit r3.1.1 24 fun i => (S_api_Cube.d (r3.1.2 i))), (D.lit t0.1 24 fun i => (S_api_Cube.d (t0.2 i)))])]), ((bif r6 then (bif (r5.2 != (0 : Int)) then true else r5.1) else false) = true → All [((bif r6 then (bif (r5.2 != (0 : Int)) then true else r5.1) else false) = true → (bif r6 then (bif (r5.2 != (0 : Int)) then true else r5.1) else false) = true)]), ((true && (bif r6 then (bif (r5.2 != (0 : Int)) then true else r5.1) else false)) = true → (bif r6 then (bif (r5.2 != (0 : Int)) then true else r5.1) else false) = true)], [(2, (D.bool (bif (bif r6 then (bif (r5.2 != (0 : Int)) then true else r5.1) else false) then (!r7) else false)))], [none, none, none])) rfl (by kernel_rfl) (And.intro (tabOk_arr rfl (And.intro rfl trivial)) (And.intro (tabOk_arr rfl trivial) (And.intro p0 (And.intro (catOk_arr' rfl fun i => (d_ite (f := fun x : S_api_Cube => (S_api_Cube.d x)) rfl rfl).symm) (And.intro p1 (And.intro (catOk_arr' rfl fun i => (d_ite (f := fun x : S_api_Cube => (S_api_Cube.d x)) rfl rfl).symm) (And.intro (fc_space_Within fu (1, (fun i => ([(S_api_Cube.mk (fun _ => 0) (fun _ => 0))] : List S_api_Cube).getD i (S_api_Cube.mk (fun _ => 0) (fun _ => 0)))) (((0 + r3.1.1) + t0.1), (fun i => if i < (0 + r3.1.1) then (fun i => if i < 0 then (fun i => ([] : List S_api_Cube).getD i (S_api_Cube.mk (fun _ => 0) (fun _ => 0))) i else r3.1.2 (i - 0)) i else t0.2 (i - (0 + r3.1.1)))) cr5) (And.intro (And.intro (fun _ _ => (S_api_Cube.inn _)) (And.intro (fun _ _ => (S_api_Cube.inn _)) trivial)) (And.intro (fc_law03_answers fu cr6) (And.intro trivial (And.intro (fun _ => (And.intro (by first | exact fun h => h | exact fun h => (Bool.and_eq_true_iff.1 h).1 | simp_all) trivial)) (And.intro (fun _ => (And.intro (by first | exact fun h => h | exact fun h => (Bool.and_eq_true_iff.1 h).1 | simp_all) trivial)) (And.intro (fun _ => (And.intro (by first | exact fun h => h | exact fun h => (Bool.and_eq_true_iff.1 h).1 | simp_all) (And.intro (by first | exact fun h => h | exact fun h => (Bool.and_eq_true_iff.1 h).1 | simp_all) trivial))) (And.intro (by first | exact fun h => h | exact fun h => (Bool.and_eq_true_iff.1 h).1 | simp_all) (And.intro (fun hg => (And.intro (by first | exact fun h => h | exact fun h => (Bool.and_eq_true_iff.1 h).1 | simp_all) (And.intro (by first | exact fun h => h | exact fun h => (Bool.and_eq_true_iff.1 h).1 | simp_all) (And.intro (fc_space_Touch fu r3.1 t0 (callIf_some cr7 hg)) (And.intro (And.intro (fun _ _ => (S_api_Cube.inn _)) (And.intro (fun _ _ => (S_api_Cube.inn _)) trivial)) trivial))))) (And.intro (fun _ => (And.intro (by first | exact fun h => h | exact fun h => (Bool.and_eq_true_iff.1 h).1 | simp_all) trivial)) (And.intro (by first | exact fun h => h | exact fun h => (Bool.and_eq_true_iff.1 h).1 | simp_all) trivial))))))))))))))))) ?_
      rw [← Option.some.inj h] at hk
      obtain rfl : d = (D.bool (bif (bif r6 then (bif (r5.2 != (0 : Int)) then true else r5.1) else false) then (!r7) else false)) := hk
      exact runs_ret (by kernel_rfl) trivial (Nat.le_refl 0) trivial trivial

theorem fc_law03_SpaceAll (fu : Nat) (t0 : (Nat × (Nat → S_api_Cube))) {r : Bool} (h : F_law03_SpaceAll fu t0 = some r) : FC Try.prog 7 [(D.lit t0.1 24 fun i => (S_api_Cube.d (t0.2 i)))] [] (D.bool r) [] := by
  refine fc_of_runs (fn := Try.f7) (c := Try.f7.body.getD .skip) (by kernel_rfl) (by kernel_rfl) ?_
  refine runs_to (ts := [0]) (T' := T_law03_SpaceAll) (env' := [(0, (D.lit t0.1 24 fun i => (S_api_Cube.d (t0.2 i))))]) (h2 := []) (by kernel_rfl) (by kernel_rfl) trivial (Nat.le_refl _) trivial (And.intro (fun _ _ => (S_api_Cube.inn _)) trivial) ?_
  exact run_law03_SpaceAll fu t0 h rfl

def K_space_Meet (d : D) (r : ((Nat × (Nat → S_api_Cube)) × Int)) : Prop := d = (D.tup (D.cons (D.lit r.1.1 24 fun i => (S_api_Cube.d (r.1.2 i))) (D.cons (D.int .i64 r.2) D.nil)))

noncomputable def T_space_Meet : List Item := norm 200 [.code (Try.f29.body.getD .skip)]

noncomputable def T_space_Meet_L2 : List Item := norm 200 (nxt (nxt (cndT (nxt (nxt (nxt (cndF (nxt (nxt T_space_Meet)))))))))

noncomputable def X_space_Meet_L2T : List Item := norm 200 (cndF (nxt (nxt (nxt (cndT (nxt (nxt (nxt (cndF (nxt (nxt T_space_Meet)))))))))))

noncomputable def T_space_Meet_L1 : List Item := norm 200 (nxt (nxt (cndF (nxt (nxt T_space_Meet)))))

noncomputable def X_space_Meet_L1T : List Item := norm 200 (cndF (nxt (nxt (nxt (cndF (nxt (nxt T_space_Meet)))))))

abbrev E_space_Meet_L1 := (Nat × (Nat → S_api_Cube))

def N_space_Meet_L1 (_fu : Nat) (t1 : (Nat × (Nat → S_api_Cube))) (t21 : (Nat × (Nat → S_api_Cube))) (t22 : Int) (d : D) (s : (Int × (Nat × (Nat → S_api_Cube)))) : Prop := Runs Try.prog Try.f29 0 T_space_Meet_L1 [(1, (D.lit t1.1 24 fun i => (S_api_Cube.d (t1.2 i)))), (6, (D.own 0)), (21, (D.lit t21.1 24 fun i => (S_api_Cube.d (t21.2 i)))), (22, (D.int .i64 t22)), (23, (D.int .i64 s.1))] [some (.seq 44 s.2.1 24 (D.arr s.2.1 24 fun i => (S_api_Cube.d (s.2.2 i))))] d []

def X_space_Meet_L1 (_fu : Nat) (_t1 : (Nat × (Nat → S_api_Cube))) (_t21 : (Nat × (Nat → S_api_Cube))) (_t22 : Int) (d : D) : E_space_Meet_L1 ⊕ ((Nat × (Nat → S_api_Cube)) × Int) → Prop
  | .inl e => Runs Try.prog Try.f29 0 X_space_Meet_L1T [(6, (D.own 0))] [some (.seq 44 e.1 24 (D.arr e.1 24 fun i => (S_api_Cube.d (e.2 i))))] d []
  | .inr o => (K_space_Meet d) o

abbrev E_space_Meet_L2 := (Nat × (Nat → S_api_Cube))

def N_space_Meet_L2 (_fu : Nat) (t1 : (Nat × (Nat → S_api_Cube))) (t21 : (Nat × (Nat → S_api_Cube))) (t22 : Int) (t23 : Int) (t27 : (Nat × (Nat → S_api_Cube))) (t28 : Int) (m1 : S_api_Cube) (d : D) (s : (Int × (Nat × (Nat → S_api_Cube)))) : Prop := Runs Try.prog Try.f29 0 T_space_Meet_L2 [(1, (D.lit t1.1 24 fun i => (S_api_Cube.d (t1.2 i)))), (6, (D.own 0)), (8, (D.ptr 1 [])), (21, (D.lit t21.1 24 fun i => (S_api_Cube.d (t21.2 i)))), (22, (D.int .i64 t22)), (23, (D.int .i64 t23)), (27, (D.lit t27.1 24 fun i => (S_api_Cube.d (t27.2 i)))), (28, (D.int .i64 t28)), (29, (D.int .i64 s.1))] [some (.seq 44 s.2.1 24 (D.arr s.2.1 24 fun i => (S_api_Cube.d (s.2.2 i)))), some (.box (S_api_Cube.d m1))] d []

def X_space_Meet_L2 (fu : Nat) (t1 : (Nat × (Nat → S_api_Cube))) (t21 : (Nat × (Nat → S_api_Cube))) (t22 : Int) (t23 : Int) (_t27 : (Nat × (Nat → S_api_Cube))) (_t28 : Int) (_m1 : S_api_Cube) (d : D) : E_space_Meet_L2 ⊕ (Lo (Int × (Nat × (Nat → S_api_Cube))) E_space_Meet_L1 ((Nat × (Nat → S_api_Cube)) × Int)) → Prop
  | .inl e => Runs Try.prog Try.f29 0 X_space_Meet_L2T [(1, (D.lit t1.1 24 fun i => (S_api_Cube.d (t1.2 i)))), (6, (D.own 0)), (21, (D.lit t21.1 24 fun i => (S_api_Cube.d (t21.2 i)))), (22, (D.int .i64 t22)), (23, (D.int .i64 t23))] [some (.seq 44 e.1 24 (D.arr e.1 24 fun i => (S_api_Cube.d (e.2 i))))] d []
  | .inr o => (Lo.post (N_space_Meet_L1 fu t1 t21 t22 d) (X_space_Meet_L1 fu t1 t21 t22 d)) o

def F_space_Meet_L2 (fu : Nat) (_t1 : (Nat × (Nat → S_api_Cube))) (_t21 : (Nat × (Nat → S_api_Cube))) (_t22 : Int) (_t23 : Int) (t27 : (Nat × (Nat → S_api_Cube))) (t28 : Int) (m1 : S_api_Cube) (t29 : Int) (m0 : (Nat × (Nat → S_api_Cube))) : Option (Lo (Int × (Nat × (Nat → S_api_Cube))) E_space_Meet_L2 (Lo (Int × (Nat × (Nat → S_api_Cube))) E_space_Meet_L1 ((Nat × (Nat → S_api_Cube)) × Int))) :=
  ifs (decide (t29 < t28)) (
    chk (0 ≤ t29 ∧ t29 < ((t27.1 : Nat) : Int)) <|
    (F_cube_Meet fu m1 (t27.2 t29.toNat)).bind fun r2 =>
    ifs r2.2 (
      chk (RoomOk (m0.1 + 1) 192) <|
      some (.next ((IntKind.wrap .i64 (t29 + (1 : Int))), ((m0.1 + 1), (fun i => if i < m0.1 then m0.2 i else (fun i => ([r2.1] : List S_api_Cube).getD i (S_api_Cube.mk (fun _ => 0) (fun _ => 0))) (i - m0.1)))))) (
      some (.next ((IntKind.wrap .i64 (t29 + (1 : Int))), m0)))) (
    some (.exit m0))

theorem run_space_Meet_L2 (fu : Nat) (t1 : (Nat × (Nat → S_api_Cube))) (t21 : (Nat × (Nat → S_api_Cube))) (t22 : Int) (t23 : Int) (t27 : (Nat × (Nat → S_api_Cube))) (t28 : Int) (m1 : S_api_Cube) (t29 : Int) (m0 : (Nat × (Nat → S_api_Cube))) {d : D} {o : (Lo (Int × (Nat × (Nat → S_api_Cube))) E_space_Meet_L2 (Lo (Int × (Nat × (Nat → S_api_Cube))) E_space_Meet_L1 ((Nat × (Nat → S_api_Cube)) × Int)))} (h : F_space_Meet_L2 fu t1 t21 t22 t23 t27 t28 m1 t29 m0 = some o) (hk : (Lo.post (N_space_Meet_L2 fu t1 t21 t22 t23 t27 t28 m1 d) (X_space_Meet_L2 fu t1 t21 t22 t23 t27 t28 m1 d)) o) : Runs Try.prog Try.f29 0 T_space_Meet_L2 [(1, (D.lit t1.1 24 fun i => (S_api_Cube.d (t1.2 i)))), (6, (D.own 0)), (8, (D.ptr 1 [])), (21, (D.lit t21.1 24 fun i => (S_api_Cube.d (t21.2 i)))), (22, (D.int .i64 t22)), (23, (D.int .i64 t23)), (27, (D.lit t27.1 24 fun i => (S_api_Cube.d (t27.2 i)))), (28, (D.int .i64 t28)), (29, (D.int .i64 t29))] [some (.seq 44 m0.1 24 (D.arr m0.1 24 fun i => (S_api_Cube.d (m0.2 i)))), some (.box (S_api_Cube.d m1))] d [] := by
  unfold F_space_Meet_L2 at h
  refine runs_regions 1 [([], [1, 6, 8, 21, 22, 23, 27, 28, 29, 30])] (z := ([], [(1, (D.lit t1.1 24 fun i => (S_api_Cube.d (t1.2 i)))), (6, (D.own 0)), (8, (D.ptr 1 [])), (21, (D.lit t21.1 24 fun i => (S_api_Cube.d (t21.2 i)))), (22, (D.int .i64 t22)), (23, (D.int .i64 t23)), (27, (D.lit t27.1 24 fun i => (S_api_Cube.d (t27.2 i)))), (28, (D.int .i64 t28)), (29, (D.int .i64 t29)), (30, (D.bool (decide (t29 < t28))))], [some (.seq 44 m0.1 24 (D.arr m0.1 24 fun i => (S_api_Cube.d (m0.2 i)))), some (.box (S_api_Cube.d m1))])) rfl (by kernel_rfl) trivial ?_
  refine runs_if (b := (decide (t29 < t28))) (by kernel_rfl) (fun hb => ?_) (fun hb => ?_)
  · replace h := ifs_true h hb
    obtain ⟨p1, h⟩ := chk_some h
    obtain ⟨r2, cr2, h⟩ := Option.bind_eq_some_iff.1 h
    refine runs_regions 3 [([], [1, 6, 8, 10, 21, 22, 23, 27, 28, 29]), ([(.d (D.tup (D.cons (S_api_Cube.d r2.1) (D.cons (D.bool r2.2) D.nil))))], [1, 6, 8, 11, 12, 21, 22, 23, 27, 28, 29]), ([], [1, 6, 8, 11, 21, 22, 23, 27, 28, 29, 39])] (z := ([(0 ≤ t29 ∧ t29 < ((t27.1 : Nat) : Int)), FC Try.prog 54 [(S_api_Cube.d m1), (S_api_Cube.d (t27.2 t29.toNat))] [] (D.tup (D.cons (S_api_Cube.d r2.1) (D.cons (D.bool r2.2) D.nil))) [], All (List.map NoRow [(S_api_Cube.d m1), (S_api_Cube.d (t27.2 t29.toNat))])], [(1, (D.lit t1.1 24 fun i => (S_api_Cube.d (t1.2 i)))), (6, (D.own 0)), (8, (D.ptr 1 [])), (11, (D.ptr 3 [])), (21, (D.lit t21.1 24 fun i => (S_api_Cube.d (t21.2 i)))), (22, (D.int .i64 t22)), (23, (D.int .i64 t23)), (27, (D.lit t27.1 24 fun i => (S_api_Cube.d (t27.2 i)))), (28, (D.int .i64 t28)), (29, (D.int .i64 t29)), (39, (D.bool r2.2))], [some (.seq 44 m0.1 24 (D.arr m0.1 24 fun i => (S_api_Cube.d (m0.2 i)))), some (.box (S_api_Cube.d m1)), some (.box (S_api_Cube.d (t27.2 t29.toNat))), some (.box (S_api_Cube.d r2.1))])) rfl (by kernel_rfl) (And.intro p1 (And.intro (fc_cube_Meet fu m1 (t27.2 t29.toNat) cr2) (And.intro (And.intro (S_api_Cube.inn _) (And.intro (S_api_Cube.inn _) trivial)) trivial))) ?_
    refine runs_if (b := r2.2) (by kernel_rfl) (fun hb => ?_) (fun hb => ?_)
    · replace h := ifs_true h hb
      obtain ⟨p2, h⟩ := chk_some h
      refine runs_regions 2 [([(.lit fun i => (S_api_Cube.d ((fun i => ([r2.1] : List S_api_Cube).getD i (S_api_Cube.mk (fun _ => 0) (fun _ => 0))) i))), (.d (D.arr (m0.1 + 1) 24 fun i => (S_api_Cube.d ((fun i => if i < m0.1 then m0.2 i else (fun i => ([r2.1] : List S_api_Cube).getD i (S_api_Cube.mk (fun _ => 0) (fun _ => 0))) (i - m0.1)) i))))], [1, 6, 8, 21, 22, 23, 27, 28, 29]), ([], [1, 6, 8, 21, 22, 23, 27, 28, 29])] (z := ([TabOk [(S_api_Cube.d r2.1)] 24 (D.arr 1 24 fun i => (S_api_Cube.d ((fun i => ([r2.1] : List S_api_Cube).getD i (S_api_Cube.mk (fun _ => 0) (fun _ => 0))) i))), (RoomOk (m0.1 + 1) 192), CatOk (D.arr m0.1 24 fun i => (S_api_Cube.d (m0.2 i))) (D.arr 1 24 fun i => (S_api_Cube.d ((fun i => ([r2.1] : List S_api_Cube).getD i (S_api_Cube.mk (fun _ => 0) (fun _ => 0))) i))) (D.arr (m0.1 + 1) 24 fun i => (S_api_Cube.d ((fun i => if i < m0.1 then m0.2 i else (fun i => ([r2.1] : List S_api_Cube).getD i (S_api_Cube.mk (fun _ => 0) (fun _ => 0))) (i - m0.1)) i)))], [(1, (D.lit t1.1 24 fun i => (S_api_Cube.d (t1.2 i)))), (6, (D.own 4)), (8, (D.ptr 1 [])), (21, (D.lit t21.1 24 fun i => (S_api_Cube.d (t21.2 i)))), (22, (D.int .i64 t22)), (23, (D.int .i64 t23)), (27, (D.lit t27.1 24 fun i => (S_api_Cube.d (t27.2 i)))), (28, (D.int .i64 t28)), (29, (D.int .i64 (IntKind.wrap .i64 (t29 + (1 : Int)))))], [none, some (.box (S_api_Cube.d m1)), some (.box (S_api_Cube.d (t27.2 t29.toNat))), some (.box (S_api_Cube.d r2.1)), some (.seq 44 (m0.1 + 1) 24 (D.arr (m0.1 + 1) 24 fun i => (S_api_Cube.d ((fun i => if i < m0.1 then m0.2 i else (fun i => ([r2.1] : List S_api_Cube).getD i (S_api_Cube.mk (fun _ => 0) (fun _ => 0))) (i - m0.1)) i))))])) rfl (by kernel_rfl) (And.intro (tabOk_arr rfl (And.intro rfl trivial)) (And.intro p2 (And.intro (catOk_arr' rfl fun i => (d_ite (f := fun x : S_api_Cube => (S_api_Cube.d x)) rfl rfl).symm) trivial))) ?_
      rw [← Option.some.inj h] at hk
      refine runs_to (ts := [1, 6, 8, 21, 22, 23, 27, 28, 29]) (T' := T_space_Meet_L2) (env' := [(1, (D.lit t1.1 24 fun i => (S_api_Cube.d (t1.2 i)))), (6, (D.own 4)), (8, (D.ptr 1 [])), (21, (D.lit t21.1 24 fun i => (S_api_Cube.d (t21.2 i)))), (22, (D.int .i64 t22)), (23, (D.int .i64 t23)), (27, (D.lit t27.1 24 fun i => (S_api_Cube.d (t27.2 i)))), (28, (D.int .i64 t28)), (29, (D.int .i64 (IntKind.wrap .i64 (t29 + (1 : Int)))))]) (h2 := [none, some (.box (S_api_Cube.d m1)), some (.box (S_api_Cube.d (t27.2 t29.toNat))), some (.box (S_api_Cube.d r2.1)), some (.seq 44 (m0.1 + 1) 24 (D.arr (m0.1 + 1) 24 fun i => (S_api_Cube.d ((fun i => if i < m0.1 then m0.2 i else (fun i => ([r2.1] : List S_api_Cube).getD i (S_api_Cube.mk (fun _ => 0) (fun _ => 0))) (i - m0.1)) i))))]) (by kernel_rfl) (by kernel_rfl) (And.intro (.inl rfl) (And.intro (.inr rfl) (And.intro (.inr rfl) (And.intro (.inr rfl) (And.intro (.inr rfl) trivial))))) (Nat.zero_le _) (And.intro (S_api_Cube.inn _) (And.intro (S_api_Cube.inn _) (And.intro (S_api_Cube.inn _) (And.intro (fun _ _ => (S_api_Cube.inn _)) trivial)))) (And.intro (fun _ _ => (S_api_Cube.inn _)) (And.intro (bel_of rfl) (And.intro (bel_of rfl) (And.intro (fun _ _ => (S_api_Cube.inn _)) (And.intro trivial (And.intro trivial (And.intro (fun _ _ => (S_api_Cube.inn _)) (And.intro trivial (And.intro trivial trivial))))))))) ?_
      refine runs_rename 0 4 (row := (.seq 44 (m0.1 + 1) 24 (D.arr (m0.1 + 1) 24 fun i => (S_api_Cube.d ((fun i => if i < m0.1 then m0.2 i else (fun i => ([r2.1] : List S_api_Cube).getD i (S_api_Cube.mk (fun _ => 0) (fun _ => 0))) (i - m0.1)) i))))) (by decide) (Nat.zero_le _) rfl rfl (And.intro (S_api_Cube.rnk _) (And.intro (S_api_Cube.rnk _) (And.intro (S_api_Cube.rnk _) (And.intro (fun _ _ => (S_api_Cube.inn _)) trivial)))) (And.intro (fun _ _ => (S_api_Cube.inn _)) (And.intro (rn_own rfl) (And.intro (rn_ptr rfl) (And.intro (fun _ _ => (S_api_Cube.inn _)) (And.intro trivial (And.intro trivial (And.intro (fun _ _ => (S_api_Cube.inn _)) (And.intro trivial (And.intro trivial trivial))))))))) ?_
      refine runs_to (ts := [1, 6, 8, 21, 22, 23, 27, 28, 29]) (T' := T_space_Meet_L2) (env' := [(1, (D.lit t1.1 24 fun i => (S_api_Cube.d (t1.2 i)))), (6, (D.own 0)), (8, (D.ptr 1 [])), (21, (D.lit t21.1 24 fun i => (S_api_Cube.d (t21.2 i)))), (22, (D.int .i64 t22)), (23, (D.int .i64 t23)), (27, (D.lit t27.1 24 fun i => (S_api_Cube.d (t27.2 i)))), (28, (D.int .i64 t28)), (29, (D.int .i64 (IntKind.wrap .i64 (t29 + (1 : Int)))))]) (h2 := [some (.seq 44 (m0.1 + 1) 24 (D.arr (m0.1 + 1) 24 fun i => (S_api_Cube.d ((fun i => if i < m0.1 then m0.2 i else (fun i => ([r2.1] : List S_api_Cube).getD i (S_api_Cube.mk (fun _ => 0) (fun _ => 0))) (i - m0.1)) i)))), some (.box (S_api_Cube.d m1))]) (by kernel_rfl) (by kernel_rfl) (And.intro (.inr rfl) (And.intro (.inr rfl) trivial)) (Nat.zero_le _) (And.intro (fun _ _ => (S_api_Cube.inn _)) (And.intro (S_api_Cube.inn _) trivial)) (And.intro (fun _ _ => (S_api_Cube.inn _)) (And.intro (bel_of rfl) (And.intro (bel_of rfl) (And.intro (fun _ _ => (S_api_Cube.inn _)) (And.intro trivial (And.intro trivial (And.intro (fun _ _ => (S_api_Cube.inn _)) (And.intro trivial (And.intro trivial trivial))))))))) ?_
      exact hk
    · replace h := ifs_false h hb
      refine runs_regions 1 [([], [1, 6, 8, 21, 22, 23, 27, 28, 29])] (z := ([], [(1, (D.lit t1.1 24 fun i => (S_api_Cube.d (t1.2 i)))), (6, (D.own 0)), (8, (D.ptr 1 [])), (21, (D.lit t21.1 24 fun i => (S_api_Cube.d (t21.2 i)))), (22, (D.int .i64 t22)), (23, (D.int .i64 t23)), (27, (D.lit t27.1 24 fun i => (S_api_Cube.d (t27.2 i)))), (28, (D.int .i64 t28)), (29, (D.int .i64 (IntKind.wrap .i64 (t29 + (1 : Int)))))], [some (.seq 44 m0.1 24 (D.arr m0.1 24 fun i => (S_api_Cube.d (m0.2 i)))), some (.box (S_api_Cube.d m1)), some (.box (S_api_Cube.d (t27.2 t29.toNat))), some (.box (S_api_Cube.d r2.1))])) rfl (by kernel_rfl) trivial ?_
      rw [← Option.some.inj h] at hk
      refine runs_to (ts := [1, 6, 8, 21, 22, 23, 27, 28, 29]) (T' := T_space_Meet_L2) (env' := [(1, (D.lit t1.1 24 fun i => (S_api_Cube.d (t1.2 i)))), (6, (D.own 0)), (8, (D.ptr 1 [])), (21, (D.lit t21.1 24 fun i => (S_api_Cube.d (t21.2 i)))), (22, (D.int .i64 t22)), (23, (D.int .i64 t23)), (27, (D.lit t27.1 24 fun i => (S_api_Cube.d (t27.2 i)))), (28, (D.int .i64 t28)), (29, (D.int .i64 (IntKind.wrap .i64 (t29 + (1 : Int)))))]) (h2 := [some (.seq 44 m0.1 24 (D.arr m0.1 24 fun i => (S_api_Cube.d (m0.2 i)))), some (.box (S_api_Cube.d m1))]) (by kernel_rfl) (by kernel_rfl) (And.intro (.inr rfl) (And.intro (.inr rfl) trivial)) (Nat.zero_le _) (And.intro (fun _ _ => (S_api_Cube.inn _)) (And.intro (S_api_Cube.inn _) trivial)) (And.intro (fun _ _ => (S_api_Cube.inn _)) (And.intro (bel_of rfl) (And.intro (bel_of rfl) (And.intro (fun _ _ => (S_api_Cube.inn _)) (And.intro trivial (And.intro trivial (And.intro (fun _ _ => (S_api_Cube.inn _)) (And.intro trivial (And.intro trivial trivial))))))))) ?_
      exact hk
  · replace h := ifs_false h hb
    rw [← Option.some.inj h] at hk
    refine runs_to (ts := [1, 6, 21, 22, 23]) (T' := X_space_Meet_L2T) (env' := [(1, (D.lit t1.1 24 fun i => (S_api_Cube.d (t1.2 i)))), (6, (D.own 0)), (21, (D.lit t21.1 24 fun i => (S_api_Cube.d (t21.2 i)))), (22, (D.int .i64 t22)), (23, (D.int .i64 t23))]) (h2 := [some (.seq 44 m0.1 24 (D.arr m0.1 24 fun i => (S_api_Cube.d (m0.2 i))))]) (by kernel_rfl) (by kernel_rfl) (And.intro (.inr rfl) trivial) (Nat.zero_le _) (And.intro (fun _ _ => (S_api_Cube.inn _)) trivial) (And.intro (fun _ _ => (S_api_Cube.inn _)) (And.intro (bel_of rfl) (And.intro (fun _ _ => (S_api_Cube.inn _)) (And.intro trivial (And.intro trivial trivial))))) ?_
    exact hk

theorem iter_space_Meet_L2 (fu : Nat) (t1 : (Nat × (Nat → S_api_Cube))) (t21 : (Nat × (Nat → S_api_Cube))) (t22 : Int) (t23 : Int) (t27 : (Nat × (Nat → S_api_Cube))) (t28 : Int) (m1 : S_api_Cube) {d : D} (k : Nat) (s : (Int × (Nat × (Nat → S_api_Cube)))) {o : E_space_Meet_L2 ⊕ (Lo (Int × (Nat × (Nat → S_api_Cube))) E_space_Meet_L1 ((Nat × (Nat → S_api_Cube)) × Int))} (h : iter (fun s => F_space_Meet_L2 fu t1 t21 t22 t23 t27 t28 m1 s.1 s.2) k s = some o) (hx : X_space_Meet_L2 fu t1 t21 t22 t23 t27 t28 m1 d o) : N_space_Meet_L2 fu t1 t21 t22 t23 t27 t28 m1 d s :=
  iter_post (K := N_space_Meet_L2 fu t1 t21 t22 t23 t27 t28 m1 d) (X := X_space_Meet_L2 fu t1 t21 t22 t23 t27 t28 m1 d) (fun s _ h hk => run_space_Meet_L2 fu t1 t21 t22 t23 t27 t28 m1 s.1 s.2 h hk) k s o h hx

def F_space_Meet_L1 (fu : Nat) (t1 : (Nat × (Nat → S_api_Cube))) (t21 : (Nat × (Nat → S_api_Cube))) (t22 : Int) (t23 : Int) (m0 : (Nat × (Nat → S_api_Cube))) : Option (Lo (Int × (Nat × (Nat → S_api_Cube))) E_space_Meet_L1 ((Nat × (Nat → S_api_Cube)) × Int)) :=
  ifs (decide (t23 < t22)) (
    chk (0 ≤ t23 ∧ t23 < ((t21.1 : Nat) : Int)) <|
    after (iter (fun s => F_space_Meet_L2 fu t1 t21 t22 t23 t1 ((t1.1 : Nat) : Int) (t21.2 t23.toNat) s.1 s.2) fu ((0 : Int), m0)) fun e4 =>
    some (.next ((IntKind.wrap .i64 (t23 + (1 : Int))), e4))) (
    some (.exit m0))

theorem run_space_Meet_L1 (fu : Nat) (t1 : (Nat × (Nat → S_api_Cube))) (t21 : (Nat × (Nat → S_api_Cube))) (t22 : Int) (t23 : Int) (m0 : (Nat × (Nat → S_api_Cube))) {d : D} {o : (Lo (Int × (Nat × (Nat → S_api_Cube))) E_space_Meet_L1 ((Nat × (Nat → S_api_Cube)) × Int))} (h : F_space_Meet_L1 fu t1 t21 t22 t23 m0 = some o) (hk : (Lo.post (N_space_Meet_L1 fu t1 t21 t22 d) (X_space_Meet_L1 fu t1 t21 t22 d)) o) : Runs Try.prog Try.f29 0 T_space_Meet_L1 [(1, (D.lit t1.1 24 fun i => (S_api_Cube.d (t1.2 i)))), (6, (D.own 0)), (21, (D.lit t21.1 24 fun i => (S_api_Cube.d (t21.2 i)))), (22, (D.int .i64 t22)), (23, (D.int .i64 t23))] [some (.seq 44 m0.1 24 (D.arr m0.1 24 fun i => (S_api_Cube.d (m0.2 i))))] d [] := by
  unfold F_space_Meet_L1 at h
  refine runs_regions 1 [([], [1, 6, 21, 22, 23, 24])] (z := ([], [(1, (D.lit t1.1 24 fun i => (S_api_Cube.d (t1.2 i)))), (6, (D.own 0)), (21, (D.lit t21.1 24 fun i => (S_api_Cube.d (t21.2 i)))), (22, (D.int .i64 t22)), (23, (D.int .i64 t23)), (24, (D.bool (decide (t23 < t22))))], [some (.seq 44 m0.1 24 (D.arr m0.1 24 fun i => (S_api_Cube.d (m0.2 i))))])) rfl (by kernel_rfl) trivial ?_
  refine runs_if (b := (decide (t23 < t22))) (by kernel_rfl) (fun hb => ?_) (fun hb => ?_)
  · replace h := ifs_true h hb
    obtain ⟨p0, h⟩ := chk_some h
    refine runs_regions 2 [([], [1, 6, 8, 21, 22, 23]), ([], [1, 6, 8, 21, 22, 23, 27, 28, 29])] (z := ([(0 ≤ t23 ∧ t23 < ((t21.1 : Nat) : Int))], [(1, (D.lit t1.1 24 fun i => (S_api_Cube.d (t1.2 i)))), (6, (D.own 0)), (8, (D.ptr 1 [])), (21, (D.lit t21.1 24 fun i => (S_api_Cube.d (t21.2 i)))), (22, (D.int .i64 t22)), (23, (D.int .i64 t23)), (27, (D.lit t1.1 24 fun i => (S_api_Cube.d (t1.2 i)))), (28, (D.int .i64 ((t1.1 : Nat) : Int))), (29, (D.int .i64 (0 : Int)))], [some (.seq 44 m0.1 24 (D.arr m0.1 24 fun i => (S_api_Cube.d (m0.2 i)))), some (.box (S_api_Cube.d (t21.2 t23.toNat)))])) rfl (by kernel_rfl) (And.intro p0 trivial) ?_
    refine runs_to (ts := [1, 6, 8, 21, 22, 23, 27, 28, 29]) (T' := T_space_Meet_L2) (env' := [(1, (D.lit t1.1 24 fun i => (S_api_Cube.d (t1.2 i)))), (6, (D.own 0)), (8, (D.ptr 1 [])), (21, (D.lit t21.1 24 fun i => (S_api_Cube.d (t21.2 i)))), (22, (D.int .i64 t22)), (23, (D.int .i64 t23)), (27, (D.lit t1.1 24 fun i => (S_api_Cube.d (t1.2 i)))), (28, (D.int .i64 ((t1.1 : Nat) : Int))), (29, (D.int .i64 (0 : Int)))]) (h2 := [some (.seq 44 m0.1 24 (D.arr m0.1 24 fun i => (S_api_Cube.d (m0.2 i)))), some (.box (S_api_Cube.d (t21.2 t23.toNat)))]) (by kernel_rfl) (by kernel_rfl) (And.intro (.inr rfl) (And.intro (.inr rfl) trivial)) (Nat.zero_le _) (And.intro (fun _ _ => (S_api_Cube.inn _)) (And.intro (S_api_Cube.inn _) trivial)) (And.intro (fun _ _ => (S_api_Cube.inn _)) (And.intro (bel_of rfl) (And.intro (bel_of rfl) (And.intro (fun _ _ => (S_api_Cube.inn _)) (And.intro trivial (And.intro trivial (And.intro (fun _ _ => (S_api_Cube.inn _)) (And.intro trivial (And.intro trivial trivial))))))))) ?_
    rcases after_some h with ⟨e4, hi, h⟩ | hi
    · refine iter_space_Meet_L2 fu t1 t21 t22 t23 t1 ((t1.1 : Nat) : Int) (t21.2 t23.toNat) fu ((0 : Int), m0) hi ?_
      show Runs Try.prog Try.f29 0 X_space_Meet_L2T [(1, (D.lit t1.1 24 fun i => (S_api_Cube.d (t1.2 i)))), (6, (D.own 0)), (21, (D.lit t21.1 24 fun i => (S_api_Cube.d (t21.2 i)))), (22, (D.int .i64 t22)), (23, (D.int .i64 t23))] [some (.seq 44 e4.1 24 (D.arr e4.1 24 fun i => (S_api_Cube.d (e4.2 i))))] d []
      refine runs_regions 1 [([], [1, 6, 21, 22, 23])] (z := ([], [(1, (D.lit t1.1 24 fun i => (S_api_Cube.d (t1.2 i)))), (6, (D.own 0)), (21, (D.lit t21.1 24 fun i => (S_api_Cube.d (t21.2 i)))), (22, (D.int .i64 t22)), (23, (D.int .i64 (IntKind.wrap .i64 (t23 + (1 : Int)))))], [some (.seq 44 e4.1 24 (D.arr e4.1 24 fun i => (S_api_Cube.d (e4.2 i))))])) rfl (by kernel_rfl) trivial ?_
      rw [← Option.some.inj h] at hk
      refine runs_to (ts := [1, 6, 21, 22, 23]) (T' := T_space_Meet_L1) (env' := [(1, (D.lit t1.1 24 fun i => (S_api_Cube.d (t1.2 i)))), (6, (D.own 0)), (21, (D.lit t21.1 24 fun i => (S_api_Cube.d (t21.2 i)))), (22, (D.int .i64 t22)), (23, (D.int .i64 (IntKind.wrap .i64 (t23 + (1 : Int)))))]) (h2 := [some (.seq 44 e4.1 24 (D.arr e4.1 24 fun i => (S_api_Cube.d (e4.2 i))))]) (by kernel_rfl) (by kernel_rfl) (And.intro (.inr rfl) trivial) (Nat.zero_le _) (And.intro (fun _ _ => (S_api_Cube.inn _)) trivial) (And.intro (fun _ _ => (S_api_Cube.inn _)) (And.intro (bel_of rfl) (And.intro (fun _ _ => (S_api_Cube.inn _)) (And.intro trivial (And.intro trivial trivial))))) ?_
      exact hk
    · exact iter_space_Meet_L2 fu t1 t21 t22 t23 t1 ((t1.1 : Nat) : Int) (t21.2 t23.toNat) fu ((0 : Int), m0) hi hk
  · replace h := ifs_false h hb
    rw [← Option.some.inj h] at hk
    refine runs_to (ts := [6]) (T' := X_space_Meet_L1T) (env' := [(6, (D.own 0))]) (h2 := [some (.seq 44 m0.1 24 (D.arr m0.1 24 fun i => (S_api_Cube.d (m0.2 i))))]) (by kernel_rfl) (by kernel_rfl) (And.intro (.inr rfl) trivial) (Nat.zero_le _) (And.intro (fun _ _ => (S_api_Cube.inn _)) trivial) (And.intro (bel_of rfl) trivial) ?_
    exact hk

theorem iter_space_Meet_L1 (fu : Nat) (t1 : (Nat × (Nat → S_api_Cube))) (t21 : (Nat × (Nat → S_api_Cube))) (t22 : Int) {d : D} (k : Nat) (s : (Int × (Nat × (Nat → S_api_Cube)))) {o : E_space_Meet_L1 ⊕ ((Nat × (Nat → S_api_Cube)) × Int)} (h : iter (fun s => F_space_Meet_L1 fu t1 t21 t22 s.1 s.2) k s = some o) (hx : X_space_Meet_L1 fu t1 t21 t22 d o) : N_space_Meet_L1 fu t1 t21 t22 d s :=
  iter_post (K := N_space_Meet_L1 fu t1 t21 t22 d) (X := X_space_Meet_L1 fu t1 t21 t22 d) (fun s _ h hk => run_space_Meet_L1 fu t1 t21 t22 s.1 s.2 h hk) k s o h hx

/-- podesta/space.Meet -/
def F_space_Meet (fu : Nat) (t0 : (Nat × (Nat → S_api_Cube))) (t1 : (Nat × (Nat → S_api_Cube))) : Option ((Nat × (Nat → S_api_Cube)) × Int) :=
  (F_space_Sound fu t0).bind fun r0 =>
  (callIf (!(!r0)) (F_space_Sound fu t1) false).bind fun r1 =>
  ifs (bif (!r0) then true else (!r1)) (
    some ((0, (fun _ => (S_api_Cube.mk (fun _ => 0) (fun _ => 0)))), (2 : Int))) (
    after (iter (fun s => F_space_Meet_L1 fu t1 t0 ((t0.1 : Nat) : Int) s.1 s.2) fu ((0 : Int), (0, (fun _ => (S_api_Cube.mk (fun _ => 0) (fun _ => 0)))))) fun e5 =>
    (F_space_lean fu e5).bind fun r3 =>
    some (r3.1, r3.2))

theorem run_space_Meet (fu : Nat) (t0 : (Nat × (Nat → S_api_Cube))) (t1 : (Nat × (Nat → S_api_Cube))) {d : D} {r : ((Nat × (Nat → S_api_Cube)) × Int)} (h : F_space_Meet fu t0 t1 = some r) (hk : (K_space_Meet d) r) : Runs Try.prog Try.f29 0 T_space_Meet [(0, (D.lit t0.1 24 fun i => (S_api_Cube.d (t0.2 i)))), (1, (D.lit t1.1 24 fun i => (S_api_Cube.d (t1.2 i))))] [] d [] := by
  unfold F_space_Meet at h
  obtain ⟨r0, cr0, h⟩ := Option.bind_eq_some_iff.1 h
  obtain ⟨r1, cr1, h⟩ := Option.bind_eq_some_iff.1 h
  refine runs_regions 2 [([], [0, 1]), ([(.d (D.bool r0)), (.d (D.bool r1))], [0, 1, 20])] (z := ([FC Try.prog 20 [(D.lit t0.1 24 fun i => (S_api_Cube.d (t0.2 i)))] [] (D.bool r0) [], All (List.map NoRow [(D.lit t0.1 24 fun i => (S_api_Cube.d (t0.2 i)))]), ((!(!r0)) = true → All [((!(!r0)) = true → (!(!r0)) = true), FC Try.prog 20 [(D.lit t1.1 24 fun i => (S_api_Cube.d (t1.2 i)))] [] (D.bool r1) [], All (List.map NoRow [(D.lit t1.1 24 fun i => (S_api_Cube.d (t1.2 i)))])]), ((!(!r0)) = true → All [((!(!r0)) = true → (!(!r0)) = true)]), ((true && !(!r0)) = true → (!(!r0)) = true)], [(0, (D.lit t0.1 24 fun i => (S_api_Cube.d (t0.2 i)))), (1, (D.lit t1.1 24 fun i => (S_api_Cube.d (t1.2 i)))), (20, (D.bool (bif (!r0) then true else (!r1))))], [])) rfl (by kernel_rfl) (And.intro (fc_space_Sound fu t0 cr0) (And.intro (And.intro (fun _ _ => (S_api_Cube.inn _)) trivial) (And.intro (fun hg => (And.intro (by first | exact fun h => h | exact fun h => (Bool.and_eq_true_iff.1 h).1 | simp_all) (And.intro (fc_space_Sound fu t1 (callIf_some cr1 hg)) (And.intro (And.intro (fun _ _ => (S_api_Cube.inn _)) trivial) trivial)))) (And.intro (fun _ => (And.intro (by first | exact fun h => h | exact fun h => (Bool.and_eq_true_iff.1 h).1 | simp_all) trivial)) (And.intro (by first | exact fun h => h | exact fun h => (Bool.and_eq_true_iff.1 h).1 | simp_all) trivial))))) ?_
  refine runs_if (b := (bif (!r0) then true else (!r1))) (by kernel_rfl) (fun hb => ?_) (fun hb => ?_)
  · replace h := ifs_true h hb
    refine runs_regions 1 [([], [4, 5])] (z := ([], [(4, D.nils), (5, (D.int .i64 (2 : Int)))], [])) rfl (by kernel_rfl) trivial ?_
    rw [← Option.some.inj h] at hk
    obtain rfl : d = (D.tup (D.cons (D.lit 0 24 fun i => (S_api_Cube.d ((fun _ => (S_api_Cube.mk (fun _ => 0) (fun _ => 0))) i))) (D.cons (D.int .i64 (2 : Int)) D.nil))) := hk
    refine runs_nils 4 24 (fun i => (S_api_Cube.d ((fun _ => (S_api_Cube.mk (fun _ => 0) (fun _ => 0))) i))) (by kernel_rfl) ?_
    exact runs_ret (by kernel_rfl) trivial (Nat.le_refl 0) trivial (And.intro (fun _ _ => (S_api_Cube.inn _)) (And.intro trivial trivial))
  · replace h := ifs_false h hb
    refine runs_regions 2 [([(.nil 44 24 (D.arr 0 24 fun i => (S_api_Cube.d ((fun _ => (S_api_Cube.mk (fun _ => 0) (fun _ => 0))) i))))], [0, 1, 6]), ([], [1, 6, 21, 22, 23])] (z := ([EmptyOk (D.arr 0 24 fun i => (S_api_Cube.d ((fun _ => (S_api_Cube.mk (fun _ => 0) (fun _ => 0))) i)))], [(1, (D.lit t1.1 24 fun i => (S_api_Cube.d (t1.2 i)))), (6, (D.own 0)), (21, (D.lit t0.1 24 fun i => (S_api_Cube.d (t0.2 i)))), (22, (D.int .i64 ((t0.1 : Nat) : Int))), (23, (D.int .i64 (0 : Int)))], [some (.seq 44 0 24 (D.arr 0 24 fun i => (S_api_Cube.d ((fun _ => (S_api_Cube.mk (fun _ => 0) (fun _ => 0))) i))))])) rfl (by kernel_rfl) (And.intro emptyOk_arr trivial) ?_
    refine runs_to (ts := [1, 6, 21, 22, 23]) (T' := T_space_Meet_L1) (env' := [(1, (D.lit t1.1 24 fun i => (S_api_Cube.d (t1.2 i)))), (6, (D.own 0)), (21, (D.lit t0.1 24 fun i => (S_api_Cube.d (t0.2 i)))), (22, (D.int .i64 ((t0.1 : Nat) : Int))), (23, (D.int .i64 (0 : Int)))]) (h2 := [some (.seq 44 0 24 (D.arr 0 24 fun i => (S_api_Cube.d ((fun _ => (S_api_Cube.mk (fun _ => 0) (fun _ => 0))) i))))]) (by kernel_rfl) (by kernel_rfl) (And.intro (.inr rfl) trivial) (Nat.zero_le _) (And.intro (fun _ _ => (S_api_Cube.inn _)) trivial) (And.intro (fun _ _ => (S_api_Cube.inn _)) (And.intro (bel_of rfl) (And.intro (fun _ _ => (S_api_Cube.inn _)) (And.intro trivial (And.intro trivial trivial))))) ?_
    rcases after_some h with ⟨e5, hi, h⟩ | hi
    · refine iter_space_Meet_L1 fu t1 t0 ((t0.1 : Nat) : Int) fu ((0 : Int), (0, (fun _ => (S_api_Cube.mk (fun _ => 0) (fun _ => 0))))) hi ?_
      show Runs Try.prog Try.f29 0 X_space_Meet_L1T [(6, (D.own 0))] [some (.seq 44 e5.1 24 (D.arr e5.1 24 fun i => (S_api_Cube.d (e5.2 i))))] d []
      refine runs_freeze 0 (row := (.seq 44 e5.1 24 (D.arr e5.1 24 fun i => (S_api_Cube.d (e5.2 i))))) rfl ?_
      obtain ⟨r3, cr3, h⟩ := Option.bind_eq_some_iff.1 h
      refine runs_regions 1 [([(.d (D.tup (D.cons (D.lit r3.1.1 24 fun i => (S_api_Cube.d (r3.1.2 i))) (D.cons (D.int .i64 r3.2) D.nil))))], [4, 5])] (z := ([FC Try.prog 52 [(D.lit e5.1 24 fun i => (S_api_Cube.d (e5.2 i)))] [] (D.tup (D.cons (D.lit r3.1.1 24 fun i => (S_api_Cube.d (r3.1.2 i))) (D.cons (D.int .i64 r3.2) D.nil))) [], All (List.map NoRow [(D.lit e5.1 24 fun i => (S_api_Cube.d (e5.2 i)))])], [(4, (D.lit r3.1.1 24 fun i => (S_api_Cube.d (r3.1.2 i)))), (5, (D.int .i64 r3.2))], [none])) rfl (by kernel_rfl) (And.intro (fc_space_lean fu e5 cr3) (And.intro (And.intro (fun _ _ => (S_api_Cube.inn _)) trivial) trivial)) ?_
      rw [← Option.some.inj h] at hk
      obtain rfl : d = (D.tup (D.cons (D.lit r3.1.1 24 fun i => (S_api_Cube.d (r3.1.2 i))) (D.cons (D.int .i64 r3.2) D.nil))) := hk
      exact runs_ret (by kernel_rfl) trivial (Nat.le_refl 0) trivial (And.intro (fun _ _ => (S_api_Cube.inn _)) (And.intro trivial trivial))
    · exact iter_space_Meet_L1 fu t1 t0 ((t0.1 : Nat) : Int) fu ((0 : Int), (0, (fun _ => (S_api_Cube.mk (fun _ => 0) (fun _ => 0))))) hi hk

theorem fc_space_Meet (fu : Nat) (t0 : (Nat × (Nat → S_api_Cube))) (t1 : (Nat × (Nat → S_api_Cube))) {r : ((Nat × (Nat → S_api_Cube)) × Int)} (h : F_space_Meet fu t0 t1 = some r) : FC Try.prog 29 [(D.lit t0.1 24 fun i => (S_api_Cube.d (t0.2 i))), (D.lit t1.1 24 fun i => (S_api_Cube.d (t1.2 i)))] [] (D.tup (D.cons (D.lit r.1.1 24 fun i => (S_api_Cube.d (r.1.2 i))) (D.cons (D.int .i64 r.2) D.nil))) [] := by
  refine fc_of_runs (fn := Try.f29) (c := Try.f29.body.getD .skip) (by kernel_rfl) (by kernel_rfl) ?_
  refine runs_to (ts := [0, 1]) (T' := T_space_Meet) (env' := [(0, (D.lit t0.1 24 fun i => (S_api_Cube.d (t0.2 i)))), (1, (D.lit t1.1 24 fun i => (S_api_Cube.d (t1.2 i))))]) (h2 := []) (by kernel_rfl) (by kernel_rfl) trivial (Nat.le_refl _) trivial (And.intro (fun _ _ => (S_api_Cube.inn _)) (And.intro (fun _ _ => (S_api_Cube.inn _)) trivial)) ?_
  exact run_space_Meet fu t0 t1 h rfl

def K_law03_SpaceLaws (d : D) (r : Bool) : Prop := d = (D.bool r)

noncomputable def T_law03_SpaceLaws : List Item := norm 200 [.code (Try.f9.body.getD .skip)]

/-- podesta/podestalaw03.SpaceLaws -/
def F_law03_SpaceLaws (fu : Nat) (t0 : (Nat × (Nat → S_api_Cube))) (t1 : (Nat × (Nat → S_api_Cube))) : Option Bool :=
  (F_law03_few t0).bind fun r0 =>
  (callIf (!(!r0)) (F_law03_few t1) false).bind fun r1 =>
  ifs (bif (!r0) then true else (!r1)) (
    (F_law03_answers fu).bind fun r2 =>
    some r2) (
    (F_space_Meet fu t0 t1).bind fun r3 =>
    (F_space_Less fu t0 t1).bind fun r4 =>
    ifs (bif (bif (r3.2 != (0 : Int)) then true else (r4.2 != (0 : Int))) then true else (decide ((IntKind.wrap .i64 (((r3.1.1 : Nat) : Int) + ((r4.1.1 : Nat) : Int))) > (64 : Int)))) (
      (F_law03_answers fu).bind fun r5 =>
      some r5) (
      chk (RoomOk (0 + r3.1.1) 192) <|
      chk (RoomOk ((0 + r3.1.1) + r4.1.1) 192) <|
      (F_space_Within fu t0 (((0 + r3.1.1) + r4.1.1), (fun i => if i < (0 + r3.1.1) then (fun i => if i < 0 then (fun i => ([] : List S_api_Cube).getD i (S_api_Cube.mk (fun _ => 0) (fun _ => 0))) i else r3.1.2 (i - 0)) i else r4.1.2 (i - (0 + r3.1.1))))).bind fun r6 =>
      (F_space_Within fu (((0 + r3.1.1) + r4.1.1), (fun i => if i < (0 + r3.1.1) then (fun i => if i < 0 then (fun i => ([] : List S_api_Cube).getD i (S_api_Cube.mk (fun _ => 0) (fun _ => 0))) i else r3.1.2 (i - 0)) i else r4.1.2 (i - (0 + r3.1.1)))) t0).bind fun r7 =>
      (F_law03_answers fu).bind fun r8 =>
      (callIf r8 (F_space_Touch fu r4.1 t1) false).bind fun r9 =>
      (callIf (bif (bif (bif r8 then (!r9) else false) then (bif (r6.2 != (0 : Int)) then true else r6.1) else false) then (bif (r7.2 != (0 : Int)) then true else r7.1) else false) (F_space_Touch fu t0 t1) false).bind fun r10 =>
      some (bif (bif (bif (bif r8 then (!r9) else false) then (bif (r6.2 != (0 : Int)) then true else r6.1) else false) then (bif (r7.2 != (0 : Int)) then true else r7.1) else false) then ((decide (((r3.1.1 : Nat) : Int) > (0 : Int))) == r10) else false)))

end Go.Proofs.Ytlgkjdjgockkfaa
