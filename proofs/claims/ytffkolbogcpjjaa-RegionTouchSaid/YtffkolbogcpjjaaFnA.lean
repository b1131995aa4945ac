/- What the functions compute, each proved to do so (printed by pgen.py). -/
import Derived.Test.YtffkolbogcpjjaaFnA1
namespace Go.Proofs.Ytffkolbogcpjjaa
open Go Go.Pod Go.Proofs

theorem run_ref01_Order_L1 (fu : Nat) (m0 : (Nat → Int)) (m1 : (Nat → Int)) (t5 : Int) {d : D} {o : (Lo Int E_ref01_Order_L1 Int)} (h : F_ref01_Order_L1 fu m0 m1 t5 = some o) (hk : (Lo.post (N_ref01_Order_L1 fu m0 m1 d) (X_ref01_Order_L1 fu m0 m1 d)) o) : Runs Try.prog Try.f66 0 T_ref01_Order_L1 [(2, (D.ptr 0 [])), (3, (D.ptr 1 [])), (5, (D.int .i64 t5))] [some (.box (D.ints .u64 12 m0)), some (.box (D.ints .u64 12 m1))] d [] := by
  unfold F_ref01_Order_L1 at h
  refine runs_regions 1 [([], [2, 3, 5, 7])] (z := ([], [(2, (D.ptr 0 [])), (3, (D.ptr 1 [])), (5, (D.int .i64 t5)), (7, (D.bool (decide (t5 < (12 : Int)))))], [some (.box (D.ints .u64 12 m0)), some (.box (D.ints .u64 12 m1))])) rfl (by kernel_rfl) trivial ?_
  refine runs_if (b := (decide (t5 < (12 : Int)))) (by kernel_rfl) (fun hb => ?_) (fun hb => ?_)
  · replace h := ifs_true h hb
    obtain ⟨p0, h⟩ := chk_some h
    obtain ⟨p1, h⟩ := chk_some h
    obtain ⟨p2, h⟩ := chk_some h
    obtain ⟨p3, h⟩ := chk_some h
    refine runs_regions 1 [([], [2, 3, 5, 16])] (z := ([(0 ≤ t5 ∧ t5 < ((12 : Nat) : Int)), (t5.toNat < 12), (0 ≤ t5 ∧ t5 < ((12 : Nat) : Int)), (t5.toNat < 12)], [(2, (D.ptr 0 [])), (3, (D.ptr 1 [])), (5, (D.int .i64 t5)), (16, (D.bool (decide ((m0 t5.toNat) < (m1 t5.toNat)))))], [some (.box (D.ints .u64 12 m0)), some (.box (D.ints .u64 12 m1))])) rfl (by kernel_rfl) (And.intro p0 (And.intro p1 (And.intro p2 (And.intro p3 trivial)))) ?_
    refine runs_if (b := (decide ((m0 t5.toNat) < (m1 t5.toNat)))) (by kernel_rfl) (fun hb => ?_) (fun hb => ?_)
    · replace h := ifs_true h hb
      refine runs_regions 1 [([], [4])] (z := ([], [(4, (D.int .i64 (-1 : Int)))], [some (.box (D.ints .u64 12 m0)), some (.box (D.ints .u64 12 m1))])) rfl (by kernel_rfl) trivial ?_
      rw [← Option.some.inj h] at hk
      obtain rfl : d = (D.int .i64 (-1 : Int)) := hk
      exact runs_ret (by kernel_rfl) trivial (Nat.le_refl 0) trivial trivial
    · replace h := ifs_false h hb
      obtain ⟨p4, h⟩ := chk_some h
      obtain ⟨p5, h⟩ := chk_some h
      obtain ⟨p6, h⟩ := chk_some h
      obtain ⟨p7, h⟩ := chk_some h
      refine runs_regions 1 [([], [2, 3, 5, 23])] (z := ([(0 ≤ t5 ∧ t5 < ((12 : Nat) : Int)), (t5.toNat < 12), (0 ≤ t5 ∧ t5 < ((12 : Nat) : Int)), (t5.toNat < 12)], [(2, (D.ptr 0 [])), (3, (D.ptr 1 [])), (5, (D.int .i64 t5)), (23, (D.bool (decide ((m0 t5.toNat) > (m1 t5.toNat)))))], [some (.box (D.ints .u64 12 m0)), some (.box (D.ints .u64 12 m1))])) rfl (by kernel_rfl) (And.intro p4 (And.intro p5 (And.intro p6 (And.intro p7 trivial)))) ?_
      refine runs_if (b := (decide ((m0 t5.toNat) > (m1 t5.toNat)))) (by kernel_rfl) (fun hb => ?_) (fun hb => ?_)
      · replace h := ifs_true h hb
        refine runs_regions 1 [([], [4])] (z := ([], [(4, (D.int .i64 (1 : Int)))], [some (.box (D.ints .u64 12 m0)), some (.box (D.ints .u64 12 m1))])) rfl (by kernel_rfl) trivial ?_
        rw [← Option.some.inj h] at hk
        obtain rfl : d = (D.int .i64 (1 : Int)) := hk
        exact runs_ret (by kernel_rfl) trivial (Nat.le_refl 0) trivial trivial
      · replace h := ifs_false h hb
        refine runs_regions 1 [([], [2, 3, 5])] (z := ([], [(2, (D.ptr 0 [])), (3, (D.ptr 1 [])), (5, (D.int .i64 (IntKind.wrap .i64 (t5 + (1 : Int)))))], [some (.box (D.ints .u64 12 m0)), some (.box (D.ints .u64 12 m1))])) rfl (by kernel_rfl) trivial ?_
        rw [← Option.some.inj h] at hk
        refine runs_to (ts := [2, 3, 5]) (T' := T_ref01_Order_L1) (env' := [(2, (D.ptr 0 [])), (3, (D.ptr 1 [])), (5, (D.int .i64 (IntKind.wrap .i64 (t5 + (1 : Int)))))]) (h2 := [some (.box (D.ints .u64 12 m0)), some (.box (D.ints .u64 12 m1))]) (by kernel_rfl) (by kernel_rfl) (And.intro (.inr rfl) (And.intro (.inr rfl) trivial)) (Nat.zero_le _) (And.intro trivial (And.intro trivial trivial)) (And.intro (bel_of rfl) (And.intro (bel_of rfl) (And.intro trivial trivial))) ?_
        exact hk
  · replace h := ifs_false h hb
    rw [← Option.some.inj h] at hk
    refine runs_to (ts := []) (T' := X_ref01_Order_L1T) (env' := []) (h2 := []) (by kernel_rfl) (by kernel_rfl) trivial (Nat.zero_le _) trivial trivial ?_
    exact hk

theorem iter_ref01_Order_L1 (fu : Nat) (m0 : (Nat → Int)) (m1 : (Nat → Int)) {d : D} (k : Nat) (s : Int) {o : E_ref01_Order_L1 ⊕ Int} (h : iter (fun s => F_ref01_Order_L1 fu m0 m1 s) k s = some o) (hx : X_ref01_Order_L1 fu m0 m1 d o) : N_ref01_Order_L1 fu m0 m1 d s :=
  iter_post (K := N_ref01_Order_L1 fu m0 m1 d) (X := X_ref01_Order_L1 fu m0 m1 d) (fun s _ h hk => run_ref01_Order_L1 fu m0 m1 s h hk) k s o h hx

/-- podesta/podestaref01.Order -/
def F_ref01_Order (fu : Nat) (t0 : (Nat → Int)) (t1 : (Nat → Int)) : Option Int :=
  after (iter (fun s => F_ref01_Order_L1 fu t0 t1 s) fu (0 : Int)) fun _ =>
  some (0 : Int)

theorem run_ref01_Order (fu : Nat) (t0 : (Nat → Int)) (t1 : (Nat → Int)) {d : D} {r : Int} (h : F_ref01_Order fu t0 t1 = some r) (hk : (K_ref01_Order d) r) : Runs Try.prog Try.f66 0 T_ref01_Order [(0, (D.ints .u64 12 t0)), (1, (D.ints .u64 12 t1))] [] d [] := by
  unfold F_ref01_Order at h
  refine runs_regions 2 [([], [2, 3]), ([], [2, 3, 5])] (z := ([], [(2, (D.ptr 0 [])), (3, (D.ptr 1 [])), (5, (D.int .i64 (0 : Int)))], [some (.box (D.ints .u64 12 t0)), some (.box (D.ints .u64 12 t1))])) rfl (by kernel_rfl) trivial ?_
  refine runs_to (ts := [2, 3, 5]) (T' := T_ref01_Order_L1) (env' := [(2, (D.ptr 0 [])), (3, (D.ptr 1 [])), (5, (D.int .i64 (0 : Int)))]) (h2 := [some (.box (D.ints .u64 12 t0)), some (.box (D.ints .u64 12 t1))]) (by kernel_rfl) (by kernel_rfl) (And.intro (.inr rfl) (And.intro (.inr rfl) trivial)) (Nat.zero_le _) (And.intro trivial (And.intro trivial trivial)) (And.intro (bel_of rfl) (And.intro (bel_of rfl) (And.intro trivial trivial))) ?_
  rcases after_some h with ⟨e9, hi, h⟩ | hi
  · refine iter_ref01_Order_L1 fu t0 t1 fu (0 : Int) hi ?_
    show Runs Try.prog Try.f66 0 X_ref01_Order_L1T [] [] d []
    refine runs_regions 1 [([], [4])] (z := ([], [(4, (D.int .i64 (0 : Int)))], [])) rfl (by kernel_rfl) trivial ?_
    rw [← Option.some.inj h] at hk
    obtain rfl : d = (D.int .i64 (0 : Int)) := hk
    exact runs_ret (by kernel_rfl) trivial (Nat.le_refl 0) trivial trivial
  · exact iter_ref01_Order_L1 fu t0 t1 fu (0 : Int) hi hk

theorem fc_ref01_Order (fu : Nat) (t0 : (Nat → Int)) (t1 : (Nat → Int)) {r : Int} (h : F_ref01_Order fu t0 t1 = some r) : FC Try.prog 66 [(D.ints .u64 12 t0), (D.ints .u64 12 t1)] [] (D.int .i64 r) [] := by
  refine fc_of_runs (fn := Try.f66) (c := Try.f66.body.getD .skip) (by kernel_rfl) (by kernel_rfl) ?_
  refine runs_to (ts := [0, 1]) (T' := T_ref01_Order) (env' := [(0, (D.ints .u64 12 t0)), (1, (D.ints .u64 12 t1))]) (h2 := []) (by kernel_rfl) (by kernel_rfl) trivial (Nat.le_refl _) trivial (And.intro trivial (And.intro trivial trivial)) ?_
  exact run_ref01_Order fu t0 t1 h rfl

def K_ref01_Compare (d : D) (r : Int) : Prop := d = (D.int .i64 r)

noncomputable def T_ref01_Compare : List Item := norm 200 [.code (Try.f45.body.getD .skip)]

/-- podesta/podestaref01.Compare -/
def F_ref01_Compare (fu : Nat) (t0 : S_api_Cube) (t1 : S_api_Cube) : Option Int :=
  (F_ref01_Order fu t0.f1 t1.f1).bind fun r0 =>
  ifs (r0 != (0 : Int)) (
    some r0) (
    (F_ref01_Order fu t0.f0 t1.f0).bind fun r1 =>
    some r1)

theorem run_ref01_Compare (fu : Nat) (t0 : S_api_Cube) (t1 : S_api_Cube) {d : D} {r : Int} (h : F_ref01_Compare fu t0 t1 = some r) (hk : (K_ref01_Compare d) r) : Runs Try.prog Try.f45 0 T_ref01_Compare [(0, (D.cons (D.ints .u64 12 t0.f0) (D.cons (D.ints .u64 12 t0.f1) D.nil))), (1, (D.cons (D.ints .u64 12 t1.f0) (D.cons (D.ints .u64 12 t1.f1) D.nil)))] [] d [] := by
  unfold F_ref01_Compare at h
  obtain ⟨r0, cr0, h⟩ := Option.bind_eq_some_iff.1 h
  refine runs_regions 3 [([], [2, 3]), ([(.d (D.int .i64 r0))], [2, 3, 5]), ([], [2, 3, 5, 12])] (z := ([FC Try.prog 66 [(D.ints .u64 12 t0.f1), (D.ints .u64 12 t1.f1)] [] (D.int .i64 r0) [], All (List.map NoRow [(D.ints .u64 12 t0.f1), (D.ints .u64 12 t1.f1)])], [(2, (D.ptr 0 [])), (3, (D.ptr 1 [])), (5, (D.int .i64 r0)), (12, (D.bool (r0 != (0 : Int))))], [some (.box (D.cons (D.ints .u64 12 t0.f0) (D.cons (D.ints .u64 12 t0.f1) D.nil))), some (.box (D.cons (D.ints .u64 12 t1.f0) (D.cons (D.ints .u64 12 t1.f1) D.nil)))])) rfl (by kernel_rfl) (And.intro (fc_ref01_Order fu t0.f1 t1.f1 cr0) (And.intro (And.intro trivial (And.intro trivial trivial)) trivial)) ?_
  refine runs_if (b := (r0 != (0 : Int))) (by kernel_rfl) (fun hb => ?_) (fun hb => ?_)
  · replace h := ifs_true h hb
    refine runs_regions 1 [([], [4])] (z := ([], [(4, (D.int .i64 r0))], [some (.box (D.cons (D.ints .u64 12 t0.f0) (D.cons (D.ints .u64 12 t0.f1) D.nil))), some (.box (D.cons (D.ints .u64 12 t1.f0) (D.cons (D.ints .u64 12 t1.f1) D.nil)))])) rfl (by kernel_rfl) trivial ?_
    rw [← Option.some.inj h] at hk
    obtain rfl : d = (D.int .i64 r0) := hk
    exact runs_ret (by kernel_rfl) trivial (Nat.le_refl 0) trivial trivial
  · replace h := ifs_false h hb
    obtain ⟨r1, cr1, h⟩ := Option.bind_eq_some_iff.1 h
    refine runs_regions 1 [([(.d (D.int .i64 r1))], [4])] (z := ([FC Try.prog 66 [(D.ints .u64 12 t0.f0), (D.ints .u64 12 t1.f0)] [] (D.int .i64 r1) [], All (List.map NoRow [(D.ints .u64 12 t0.f0), (D.ints .u64 12 t1.f0)])], [(4, (D.int .i64 r1))], [some (.box (D.cons (D.ints .u64 12 t0.f0) (D.cons (D.ints .u64 12 t0.f1) D.nil))), some (.box (D.cons (D.ints .u64 12 t1.f0) (D.cons (D.ints .u64 12 t1.f1) D.nil)))])) rfl (by kernel_rfl) (And.intro (fc_ref01_Order fu t0.f0 t1.f0 cr1) (And.intro (And.intro trivial (And.intro trivial trivial)) trivial)) ?_
    rw [← Option.some.inj h] at hk
    obtain rfl : d = (D.int .i64 r1) := hk
    exact runs_ret (by kernel_rfl) trivial (Nat.le_refl 0) trivial trivial

theorem fc_ref01_Compare (fu : Nat) (t0 : S_api_Cube) (t1 : S_api_Cube) {r : Int} (h : F_ref01_Compare fu t0 t1 = some r) : FC Try.prog 45 [(D.cons (D.ints .u64 12 t0.f0) (D.cons (D.ints .u64 12 t0.f1) D.nil)), (D.cons (D.ints .u64 12 t1.f0) (D.cons (D.ints .u64 12 t1.f1) D.nil))] [] (D.int .i64 r) [] := by
  refine fc_of_runs (fn := Try.f45) (c := Try.f45.body.getD .skip) (by kernel_rfl) (by kernel_rfl) ?_
  refine runs_to (ts := [0, 1]) (T' := T_ref01_Compare) (env' := [(0, (D.cons (D.ints .u64 12 t0.f0) (D.cons (D.ints .u64 12 t0.f1) D.nil))), (1, (D.cons (D.ints .u64 12 t1.f0) (D.cons (D.ints .u64 12 t1.f1) D.nil)))]) (h2 := []) (by kernel_rfl) (by kernel_rfl) trivial (Nat.le_refl _) trivial (And.intro (And.intro trivial (And.intro trivial trivial)) (And.intro (And.intro trivial (And.intro trivial trivial)) trivial)) ?_
  exact run_ref01_Compare fu t0 t1 h rfl

def K_ref01_Cube (d : D) (r : Bool) : Prop := d = (D.bool r)

noncomputable def T_ref01_Cube : List Item := norm 200 [.code (Try.f36.body.getD .skip)]

/-- podesta/podestaref01.Cube -/
def F_ref01_Cube (fu : Nat) (t0 : S_api_Cube) : Option Bool :=
  (F_ref01_Text fu t0).bind fun r0 =>
  some r0.2

theorem run_ref01_Cube (fu : Nat) (t0 : S_api_Cube) {d : D} {r : Bool} (h : F_ref01_Cube fu t0 = some r) (hk : (K_ref01_Cube d) r) : Runs Try.prog Try.f36 0 T_ref01_Cube [(0, (D.cons (D.ints .u64 12 t0.f0) (D.cons (D.ints .u64 12 t0.f1) D.nil)))] [] d [] := by
  unfold F_ref01_Cube at h
  obtain ⟨r0, cr0, h⟩ := Option.bind_eq_some_iff.1 h
  refine runs_regions 3 [([], [1]), ([(.d (D.tup (D.cons (D.str r0.1) (D.cons (D.bool r0.2) D.nil))))], [4]), ([], [2])] (z := ([FC Try.prog 22 [(D.cons (D.ints .u64 12 t0.f0) (D.cons (D.ints .u64 12 t0.f1) D.nil))] [] (D.tup (D.cons (D.str r0.1) (D.cons (D.bool r0.2) D.nil))) [], All (List.map NoRow [(D.cons (D.ints .u64 12 t0.f0) (D.cons (D.ints .u64 12 t0.f1) D.nil))])], [(2, (D.bool r0.2))], [some (.box (D.cons (D.ints .u64 12 t0.f0) (D.cons (D.ints .u64 12 t0.f1) D.nil)))])) rfl (by kernel_rfl) (And.intro (fc_ref01_Text fu t0 cr0) (And.intro (And.intro (And.intro trivial (And.intro trivial trivial)) trivial) trivial)) ?_
  rw [← Option.some.inj h] at hk
  obtain rfl : d = (D.bool r0.2) := hk
  exact runs_ret (by kernel_rfl) trivial (Nat.le_refl 0) trivial trivial

theorem fc_ref01_Cube (fu : Nat) (t0 : S_api_Cube) {r : Bool} (h : F_ref01_Cube fu t0 = some r) : FC Try.prog 36 [(D.cons (D.ints .u64 12 t0.f0) (D.cons (D.ints .u64 12 t0.f1) D.nil))] [] (D.bool r) [] := by
  refine fc_of_runs (fn := Try.f36) (c := Try.f36.body.getD .skip) (by kernel_rfl) (by kernel_rfl) ?_
  refine runs_to (ts := [0]) (T' := T_ref01_Cube) (env' := [(0, (D.cons (D.ints .u64 12 t0.f0) (D.cons (D.ints .u64 12 t0.f1) D.nil)))]) (h2 := []) (by kernel_rfl) (by kernel_rfl) trivial (Nat.le_refl _) trivial (And.intro (And.intro trivial (And.intro trivial trivial)) trivial) ?_
  exact run_ref01_Cube fu t0 h rfl

end Go.Proofs.Ytffkolbogcpjjaa
