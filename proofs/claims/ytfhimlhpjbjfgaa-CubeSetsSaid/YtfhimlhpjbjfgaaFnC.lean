/- What the functions compute, each proved to do so (printed by pgen.py). -/
import Derived.Test.YtfhimlhpjbjfgaaFnC2
namespace Go.Proofs.Ytfhimlhpjbjfgaa
open Go Go.Pod Go.Proofs

theorem run_law02_CubeParts_L2 (fu : Nat) (t5 : (Nat × (Nat → S_api_Cube))) (m0 : S_api_Cube) (m1 : S_api_Cube) (t6 : Int) (t9 : Int) {d : D} {o : (Lo Int E_law02_CubeParts_L2 (Lo Int E_law02_CubeParts_L1 Bool))} (h : F_law02_CubeParts_L2 fu t5 m0 m1 t6 t9 = some o) (hk : (Lo.post (N_law02_CubeParts_L2 fu t5 m0 m1 t6 d) (X_law02_CubeParts_L2 fu t5 m0 m1 t6 d)) o) : Runs Try.prog Try.f13 0 T_law02_CubeParts_L2 [(2, (D.ptr 0 [])), (3, (D.ptr 1 [])), (5, (D.lit t5.1 24 fun i => (D.cons (D.ints .u64 12 (t5.2 i).f0) (D.cons (D.ints .u64 12 (t5.2 i).f1) D.nil)))), (6, (D.int .i64 t6)), (9, (D.int .i64 t9))] [some (.box (D.cons (D.ints .u64 12 m0.f0) (D.cons (D.ints .u64 12 m0.f1) D.nil))), some (.box (D.cons (D.ints .u64 12 m1.f0) (D.cons (D.ints .u64 12 m1.f1) D.nil)))] d [] := by
  unfold F_law02_CubeParts_L2 at h
  refine runs_regions 1 [([], [2, 3, 5, 6, 9, 48])] (z := ([], [(2, (D.ptr 0 [])), (3, (D.ptr 1 [])), (5, (D.lit t5.1 24 fun i => (D.cons (D.ints .u64 12 (t5.2 i).f0) (D.cons (D.ints .u64 12 (t5.2 i).f1) D.nil)))), (6, (D.int .i64 t6)), (9, (D.int .i64 t9)), (48, (D.bool (decide (t9 < t6))))], [some (.box (D.cons (D.ints .u64 12 m0.f0) (D.cons (D.ints .u64 12 m0.f1) D.nil))), some (.box (D.cons (D.ints .u64 12 m1.f0) (D.cons (D.ints .u64 12 m1.f1) D.nil)))])) rfl (by kernel_rfl) trivial ?_
  refine runs_if (b := (decide (t9 < t6))) (by kernel_rfl) (fun hb => ?_) (fun hb => ?_)
  · replace h := ifs_true h hb
    obtain ⟨p3, h⟩ := chk_some h
    obtain ⟨p4, h⟩ := chk_some h
    obtain ⟨r4, cr4, h⟩ := Option.bind_eq_some_iff.1 h
    refine runs_regions 2 [([(.d (D.tup (D.cons (D.cons (D.ints .u64 12 r4.1.f0) (D.cons (D.ints .u64 12 r4.1.f1) D.nil)) (D.cons (D.bool r4.2) D.nil))))], [2, 3, 5, 6, 8, 9]), ([], [2, 3, 5, 6, 9, 63])] (z := ([(0 ≤ t6 ∧ t6 < ((t5.1 : Nat) : Int)), (0 ≤ t9 ∧ t9 < ((t5.1 : Nat) : Int)), FC Try.prog 40 [(D.cons (D.ints .u64 12 (t5.2 t6.toNat).f0) (D.cons (D.ints .u64 12 (t5.2 t6.toNat).f1) D.nil)), (D.cons (D.ints .u64 12 (t5.2 t9.toNat).f0) (D.cons (D.ints .u64 12 (t5.2 t9.toNat).f1) D.nil))] [] (D.tup (D.cons (D.cons (D.ints .u64 12 r4.1.f0) (D.cons (D.ints .u64 12 r4.1.f1) D.nil)) (D.cons (D.bool r4.2) D.nil))) [], All (List.map NoRow [(D.cons (D.ints .u64 12 (t5.2 t6.toNat).f0) (D.cons (D.ints .u64 12 (t5.2 t6.toNat).f1) D.nil)), (D.cons (D.ints .u64 12 (t5.2 t9.toNat).f0) (D.cons (D.ints .u64 12 (t5.2 t9.toNat).f1) D.nil))])], [(2, (D.ptr 0 [])), (3, (D.ptr 1 [])), (5, (D.lit t5.1 24 fun i => (D.cons (D.ints .u64 12 (t5.2 i).f0) (D.cons (D.ints .u64 12 (t5.2 i).f1) D.nil)))), (6, (D.int .i64 t6)), (9, (D.int .i64 t9)), (63, (D.bool r4.2))], [some (.box (D.cons (D.ints .u64 12 m0.f0) (D.cons (D.ints .u64 12 m0.f1) D.nil))), some (.box (D.cons (D.ints .u64 12 m1.f0) (D.cons (D.ints .u64 12 m1.f1) D.nil)))])) rfl (by kernel_rfl) (And.intro p3 (And.intro p4 (And.intro (fc_cube_Meet fu (t5.2 t6.toNat) (t5.2 t9.toNat) cr4) (And.intro (And.intro (And.intro trivial (And.intro trivial trivial)) (And.intro (And.intro trivial (And.intro trivial trivial)) trivial)) trivial)))) ?_
    refine runs_if (b := r4.2) (by kernel_rfl) (fun hb => ?_) (fun hb => ?_)
    · replace h := ifs_true h hb
      refine runs_regions 1 [([], [4])] (z := ([], [(4, (D.bool false))], [some (.box (D.cons (D.ints .u64 12 m0.f0) (D.cons (D.ints .u64 12 m0.f1) D.nil))), some (.box (D.cons (D.ints .u64 12 m1.f0) (D.cons (D.ints .u64 12 m1.f1) D.nil)))])) rfl (by kernel_rfl) trivial ?_
      rw [← Option.some.inj h] at hk
      obtain rfl : d = (D.bool false) := hk
      exact runs_ret (by kernel_rfl) trivial (Nat.le_refl 0) trivial trivial
    · replace h := ifs_false h hb
      refine runs_regions 1 [([], [2, 3, 5, 6, 9])] (z := ([], [(2, (D.ptr 0 [])), (3, (D.ptr 1 [])), (5, (D.lit t5.1 24 fun i => (D.cons (D.ints .u64 12 (t5.2 i).f0) (D.cons (D.ints .u64 12 (t5.2 i).f1) D.nil)))), (6, (D.int .i64 t6)), (9, (D.int .i64 (IntKind.wrap .i64 (t9 + (1 : Int)))))], [some (.box (D.cons (D.ints .u64 12 m0.f0) (D.cons (D.ints .u64 12 m0.f1) D.nil))), some (.box (D.cons (D.ints .u64 12 m1.f0) (D.cons (D.ints .u64 12 m1.f1) D.nil)))])) rfl (by kernel_rfl) trivial ?_
      rw [← Option.some.inj h] at hk
      refine runs_to (ts := [2, 3, 5, 6, 9]) (T' := T_law02_CubeParts_L2) (env' := [(2, (D.ptr 0 [])), (3, (D.ptr 1 [])), (5, (D.lit t5.1 24 fun i => (D.cons (D.ints .u64 12 (t5.2 i).f0) (D.cons (D.ints .u64 12 (t5.2 i).f1) D.nil)))), (6, (D.int .i64 t6)), (9, (D.int .i64 (IntKind.wrap .i64 (t9 + (1 : Int)))))]) (h2 := [some (.box (D.cons (D.ints .u64 12 m0.f0) (D.cons (D.ints .u64 12 m0.f1) D.nil))), some (.box (D.cons (D.ints .u64 12 m1.f0) (D.cons (D.ints .u64 12 m1.f1) D.nil)))]) (by kernel_rfl) (by kernel_rfl) (And.intro (.inr rfl) (And.intro (.inr rfl) trivial)) (Nat.zero_le _) (And.intro (And.intro trivial (And.intro trivial trivial)) (And.intro (And.intro trivial (And.intro trivial trivial)) trivial)) (And.intro (bel_of rfl) (And.intro (bel_of rfl) (And.intro (fun _ _ => (And.intro trivial (And.intro trivial trivial))) (And.intro trivial (And.intro trivial trivial))))) ?_
      exact hk
  · replace h := ifs_false h hb
    rw [← Option.some.inj h] at hk
    refine runs_to (ts := [2, 3, 5, 6]) (T' := X_law02_CubeParts_L2T) (env' := [(2, (D.ptr 0 [])), (3, (D.ptr 1 [])), (5, (D.lit t5.1 24 fun i => (D.cons (D.ints .u64 12 (t5.2 i).f0) (D.cons (D.ints .u64 12 (t5.2 i).f1) D.nil)))), (6, (D.int .i64 t6))]) (h2 := [some (.box (D.cons (D.ints .u64 12 m0.f0) (D.cons (D.ints .u64 12 m0.f1) D.nil))), some (.box (D.cons (D.ints .u64 12 m1.f0) (D.cons (D.ints .u64 12 m1.f1) D.nil)))]) (by kernel_rfl) (by kernel_rfl) (And.intro (.inr rfl) (And.intro (.inr rfl) trivial)) (Nat.zero_le _) (And.intro (And.intro trivial (And.intro trivial trivial)) (And.intro (And.intro trivial (And.intro trivial trivial)) trivial)) (And.intro (bel_of rfl) (And.intro (bel_of rfl) (And.intro (fun _ _ => (And.intro trivial (And.intro trivial trivial))) (And.intro trivial trivial)))) ?_
    exact hk

theorem iter_law02_CubeParts_L2 (fu : Nat) (t5 : (Nat × (Nat → S_api_Cube))) (m0 : S_api_Cube) (m1 : S_api_Cube) (t6 : Int) {d : D} (k : Nat) (s : Int) {o : E_law02_CubeParts_L2 ⊕ (Lo Int E_law02_CubeParts_L1 Bool)} (h : iter (fun s => F_law02_CubeParts_L2 fu t5 m0 m1 t6 s) k s = some o) (hx : X_law02_CubeParts_L2 fu t5 m0 m1 t6 d o) : N_law02_CubeParts_L2 fu t5 m0 m1 t6 d s :=
  iter_post (K := N_law02_CubeParts_L2 fu t5 m0 m1 t6 d) (X := X_law02_CubeParts_L2 fu t5 m0 m1 t6 d) (fun s _ h hk => run_law02_CubeParts_L2 fu t5 m0 m1 t6 s h hk) k s o h hx

def F_law02_CubeParts_L1 (fu : Nat) (t5 : (Nat × (Nat → S_api_Cube))) (m0 : S_api_Cube) (m1 : S_api_Cube) (t6 : Int) : Option (Lo Int E_law02_CubeParts_L1 Bool) :=
  ifs (decide (t6 < ((t5.1 : Nat) : Int))) (
    chk (0 ≤ t6 ∧ t6 < ((t5.1 : Nat) : Int)) <|
    (F_cube_Meet fu (t5.2 t6.toNat) m1).bind fun r1 =>
    chk ((!r1.2) = true → (0 ≤ t6 ∧ t6 < ((t5.1 : Nat) : Int))) <|
    (callIf (!r1.2) (F_cube_Within fu (t5.2 t6.toNat) m0) false).bind fun r2 =>
    chk ((!(bif r1.2 then true else (!r2))) = true → (0 ≤ t6 ∧ t6 < ((t5.1 : Nat) : Int))) <|
    (callIf (!(bif r1.2 then true else (!r2))) (F_cube_Sound fu (t5.2 t6.toNat)) false).bind fun r3 =>
    ifs (bif (bif r1.2 then true else (!r2)) then true else (!r3)) (
      some (.ret false)) (
      after (iter (fun s => F_law02_CubeParts_L2 fu t5 m0 m1 t6 s) fu (0 : Int)) fun _ =>
      some (.next (IntKind.wrap .i64 (t6 + (1 : Int)))))) (
    some (.exit ()))

theorem run_law02_CubeParts_L1 (fu : Nat) (t5 : (Nat × (Nat → S_api_Cube))) (m0 : S_api_Cube) (m1 : S_api_Cube) (t6 : Int) {d : D} {o : (Lo Int E_law02_CubeParts_L1 Bool)} (h : F_law02_CubeParts_L1 fu t5 m0 m1 t6 = some o) (hk : (Lo.post (N_law02_CubeParts_L1 fu t5 m0 m1 d) (X_law02_CubeParts_L1 fu t5 m0 m1 d)) o) : Runs Try.prog Try.f13 0 T_law02_CubeParts_L1 [(2, (D.ptr 0 [])), (3, (D.ptr 1 [])), (5, (D.lit t5.1 24 fun i => (D.cons (D.ints .u64 12 (t5.2 i).f0) (D.cons (D.ints .u64 12 (t5.2 i).f1) D.nil)))), (6, (D.int .i64 t6))] [some (.box (D.cons (D.ints .u64 12 m0.f0) (D.cons (D.ints .u64 12 m0.f1) D.nil))), some (.box (D.cons (D.ints .u64 12 m1.f0) (D.cons (D.ints .u64 12 m1.f1) D.nil)))] d [] := by
  unfold F_law02_CubeParts_L1 at h
  refine runs_regions 1 [([], [2, 3, 5, 6, 16])] (z := ([], [(2, (D.ptr 0 [])), (3, (D.ptr 1 [])), (5, (D.lit t5.1 24 fun i => (D.cons (D.ints .u64 12 (t5.2 i).f0) (D.cons (D.ints .u64 12 (t5.2 i).f1) D.nil)))), (6, (D.int .i64 t6)), (16, (D.bool (decide (t6 < ((t5.1 : Nat) : Int)))))], [some (.box (D.cons (D.ints .u64 12 m0.f0) (D.cons (D.ints .u64 12 m0.f1) D.nil))), some (.box (D.cons (D.ints .u64 12 m1.f0) (D.cons (D.ints .u64 12 m1.f1) D.nil)))])) rfl (by kernel_rfl) trivial ?_
  refine runs_if (b := (decide (t6 < ((t5.1 : Nat) : Int)))) (by kernel_rfl) (fun hb => ?_) (fun hb => ?_)
  · replace h := ifs_true h hb
    obtain ⟨p0, h⟩ := chk_some h
    obtain ⟨r1, cr1, h⟩ := Option.bind_eq_some_iff.1 h
    obtain ⟨p1, h⟩ := chk_some h
    obtain ⟨r2, cr2, h⟩ := Option.bind_eq_some_iff.1 h
    obtain ⟨p2, h⟩ := chk_some h
    obtain ⟨r3, cr3, h⟩ := Option.bind_eq_some_iff.1 h
    refine runs_regions 2 [([(.d (D.tup (D.cons (D.cons (D.ints .u64 12 r1.1.f0) (D.cons (D.ints .u64 12 r1.1.f1) D.nil)) (D.cons (D.bool r1.2) D.nil))))], [2, 3, 5, 6, 8]), ([(.d (D.bool r2)), (.d (D.bool r3))], [2, 3, 5, 6, 45])] (z := ([(0 ≤ t6 ∧ t6 < ((t5.1 : Nat) : Int)), FC Try.prog 40 [(D.cons (D.ints .u64 12 (t5.2 t6.toNat).f0) (D.cons (D.ints .u64 12 (t5.2 t6.toNat).f1) D.nil)), (D.cons (D.ints .u64 12 m1.f0) (D.cons (D.ints .u64 12 m1.f1) D.nil))] [] (D.tup (D.cons (D.cons (D.ints .u64 12 r1.1.f0) (D.cons (D.ints .u64 12 r1.1.f1) D.nil)) (D.cons (D.bool r1.2) D.nil))) [], All (List.map NoRow [(D.cons (D.ints .u64 12 (t5.2 t6.toNat).f0) (D.cons (D.ints .u64 12 (t5.2 t6.toNat).f1) D.nil)), (D.cons (D.ints .u64 12 m1.f0) (D.cons (D.ints .u64 12 m1.f1) D.nil))]), ((!r1.2) = true → All [((!r1.2) = true → (!r1.2) = true), ((!r1.2) = true → (!r1.2) = true), (0 ≤ t6 ∧ t6 < ((t5.1 : Nat) : Int))]), ((!r1.2) = true → All [((!r1.2) = true → (!r1.2) = true)]), ((!r1.2) = true → All [((!r1.2) = true → (!r1.2) = true), ((!r1.2) = true → (!r1.2) = true), FC Try.prog 41 [(D.cons (D.ints .u64 12 (t5.2 t6.toNat).f0) (D.cons (D.ints .u64 12 (t5.2 t6.toNat).f1) D.nil)), (D.cons (D.ints .u64 12 m0.f0) (D.cons (D.ints .u64 12 m0.f1) D.nil))] [] (D.bool r2) [], All (List.map NoRow [(D.cons (D.ints .u64 12 (t5.2 t6.toNat).f0) (D.cons (D.ints .u64 12 (t5.2 t6.toNat).f1) D.nil)), (D.cons (D.ints .u64 12 m0.f0) (D.cons (D.ints .u64 12 m0.f1) D.nil))])]), ((!r1.2) = true → All [((!r1.2) = true → (!r1.2) = true)]), ((true && !r1.2) = true → (!r1.2) = true), ((!(bif r1.2 then true else (!r2))) = true → All [((!(bif r1.2 then true else (!r2))) = true → (!(bif r1.2 then true else (!r2))) = true), ((!(bif r1.2 then true else (!r2))) = true → (!(bif r1.2 then true else (!r2))) = true), (0 ≤ t6 ∧ t6 < ((t5.1 : Nat) : Int))]), ((!(bif r1.2 then true else (!r2))) = true → All [((!(bif r1.2 then true else (!r2))) = true → (!(bif r1.2 then true else (!r2))) = true)]), ((!(bif r1.2 then true else (!r2))) = true → All [((!(bif r1.2 then true else (!r2))) = true → (!(bif r1.2 then true else (!r2))) = true), FC Try.prog 34 [(D.cons (D.ints .u64 12 (t5.2 t6.toNat).f0) (D.cons (D.ints .u64 12 (t5.2 t6.toNat).f1) D.nil))] [] (D.bool r3) [], All (List.map NoRow [(D.cons (D.ints .u64 12 (t5.2 t6.toNat).f0) (D.cons (D.ints .u64 12 (t5.2 t6.toNat).f1) D.nil))])]), ((!(bif r1.2 then true else (!r2))) = true → All [((!(bif r1.2 then true else (!r2))) = true → (!(bif r1.2 then true else (!r2))) = true)]), ((true && !(bif r1.2 then true else (!r2))) = true → (!(bif r1.2 then true else (!r2))) = true)], [(2, (D.ptr 0 [])), (3, (D.ptr 1 [])), (5, (D.lit t5.1 24 fun i => (D.cons (D.ints .u64 12 (t5.2 i).f0) (D.cons (D.ints .u64 12 (t5.2 i).f1) D.nil)))), (6, (D.int .i64 t6)), (45, (D.bool (bif (bif r1.2 then true else (!r2)) then true else (!r3))))], [some (.box (D.cons (D.ints .u64 12 m0.f0) (D.cons (D.ints .u64 12 m0.f1) D.nil))), some (.box (D.cons (D.ints .u64 12 m1.f0) (D.cons (D.ints .u64 12 m1.f1) D.nil))), some (.box (D.cons (D.ints .u64 12 r1.1.f0) (D.cons (D.ints .u64 12 r1.1.f1) D.nil)))])) rfl (by kernel_rfl) (And.intro p0 (And.intro (fc_cube_Meet fu (t5.2 t6.toNat) m1 cr1) (And.intro (And.intro (And.intro trivial (And.intro trivial trivial)) (And.intro (And.intro trivial (And.intro trivial trivial)) trivial)) (And.intro (fun hg => (And.intro (by first | exact fun h => h | exact fun h => (Bool.and_eq_true_iff.1 h).1 | simp_all) (And.intro (by first | exact fun h => h | exact fun h => (Bool.and_eq_true_iff.1 h).1 | simp_all) (And.intro (p1 hg) trivial)))) (And.intro (fun _ => (And.intro (by first | exact fun h => h | exact fun h => (Bool.and_eq_true_iff.1 h).1 | simp_all) trivial)) (And.intro (fun hg => (And.intro (by first | exact fun h => h | exact fun h => (Bool.and_eq_true_iff.1 h).1 | simp_all) (And.intro (by first | exact fun h => h | exact fun h => (Bool.and_eq_true_iff.1 h).1 | simp_all) (And.intro (fc_cube_Within fu (t5.2 t6.toNat) m0 (callIf_some cr2 hg)) (And.intro (And.intro (And.intro trivial (And.intro trivial trivial)) (And.intro (And.intro trivial (And.intro trivial trivial)) trivial)) trivial))))) (And.intro (fun _ => (And.intro (by first | exact fun h => h | exact fun h => (Bool.and_eq_true_iff.1 h).1 | simp_all) trivial)) (And.intro (by first | exact fun h => h | exact fun h => (Bool.and_eq_true_iff.1 h).1 | simp_all) (And.intro (fun hg => (And.intro (by first | exact fun h => h | exact fun h => (Bool.and_eq_true_iff.1 h).1 | simp_all) (And.intro (by first | exact fun h => h | exact fun h => (Bool.and_eq_true_iff.1 h).1 | simp_all) (And.intro (p2 hg) trivial)))) (And.intro (fun _ => (And.intro (by first | exact fun h => h | exact fun h => (Bool.and_eq_true_iff.1 h).1 | simp_all) trivial)) (And.intro (fun hg => (And.intro (by first | exact fun h => h | exact fun h => (Bool.and_eq_true_iff.1 h).1 | simp_all) (And.intro (fc_cube_Sound fu (t5.2 t6.toNat) (callIf_some cr3 hg)) (And.intro (And.intro (And.intro trivial (And.intro trivial trivial)) trivial) trivial)))) (And.intro (fun _ => (And.intro (by first | exact fun h => h | exact fun h => (Bool.and_eq_true_iff.1 h).1 | simp_all) trivial)) (And.intro (by first | exact fun h => h | exact fun h => (Bool.and_eq_true_iff.1 h).1 | simp_all) trivial))))))))))))) ?_
    refine runs_if (b := (bif (bif r1.2 then true else (!r2)) then true else (!r3))) (by kernel_rfl) (fun hb => ?_) (fun hb => ?_)
    · replace h := ifs_true h hb
      refine runs_regions 1 [([], [4])] (z := ([], [(4, (D.bool false))], [some (.box (D.cons (D.ints .u64 12 m0.f0) (D.cons (D.ints .u64 12 m0.f1) D.nil))), some (.box (D.cons (D.ints .u64 12 m1.f0) (D.cons (D.ints .u64 12 m1.f1) D.nil))), some (.box (D.cons (D.ints .u64 12 r1.1.f0) (D.cons (D.ints .u64 12 r1.1.f1) D.nil)))])) rfl (by kernel_rfl) trivial ?_
      rw [← Option.some.inj h] at hk
      obtain rfl : d = (D.bool false) := hk
      exact runs_ret (by kernel_rfl) trivial (Nat.le_refl 0) trivial trivial
    · replace h := ifs_false h hb
      refine runs_regions 1 [([], [2, 3, 5, 6, 9])] (z := ([], [(2, (D.ptr 0 [])), (3, (D.ptr 1 [])), (5, (D.lit t5.1 24 fun i => (D.cons (D.ints .u64 12 (t5.2 i).f0) (D.cons (D.ints .u64 12 (t5.2 i).f1) D.nil)))), (6, (D.int .i64 t6)), (9, (D.int .i64 (0 : Int)))], [some (.box (D.cons (D.ints .u64 12 m0.f0) (D.cons (D.ints .u64 12 m0.f1) D.nil))), some (.box (D.cons (D.ints .u64 12 m1.f0) (D.cons (D.ints .u64 12 m1.f1) D.nil))), some (.box (D.cons (D.ints .u64 12 r1.1.f0) (D.cons (D.ints .u64 12 r1.1.f1) D.nil)))])) rfl (by kernel_rfl) trivial ?_
      refine runs_to (ts := [2, 3, 5, 6, 9]) (T' := T_law02_CubeParts_L2) (env' := [(2, (D.ptr 0 [])), (3, (D.ptr 1 [])), (5, (D.lit t5.1 24 fun i => (D.cons (D.ints .u64 12 (t5.2 i).f0) (D.cons (D.ints .u64 12 (t5.2 i).f1) D.nil)))), (6, (D.int .i64 t6)), (9, (D.int .i64 (0 : Int)))]) (h2 := [some (.box (D.cons (D.ints .u64 12 m0.f0) (D.cons (D.ints .u64 12 m0.f1) D.nil))), some (.box (D.cons (D.ints .u64 12 m1.f0) (D.cons (D.ints .u64 12 m1.f1) D.nil)))]) (by kernel_rfl) (by kernel_rfl) (And.intro (.inr rfl) (And.intro (.inr rfl) trivial)) (Nat.zero_le _) (And.intro (And.intro trivial (And.intro trivial trivial)) (And.intro (And.intro trivial (And.intro trivial trivial)) trivial)) (And.intro (bel_of rfl) (And.intro (bel_of rfl) (And.intro (fun _ _ => (And.intro trivial (And.intro trivial trivial))) (And.intro trivial (And.intro trivial trivial))))) ?_
      rcases after_some h with ⟨e6, hi, h⟩ | hi
      · refine iter_law02_CubeParts_L2 fu t5 m0 m1 t6 fu (0 : Int) hi ?_
        show Runs Try.prog Try.f13 0 X_law02_CubeParts_L2T [(2, (D.ptr 0 [])), (3, (D.ptr 1 [])), (5, (D.lit t5.1 24 fun i => (D.cons (D.ints .u64 12 (t5.2 i).f0) (D.cons (D.ints .u64 12 (t5.2 i).f1) D.nil)))), (6, (D.int .i64 t6))] [some (.box (D.cons (D.ints .u64 12 m0.f0) (D.cons (D.ints .u64 12 m0.f1) D.nil))), some (.box (D.cons (D.ints .u64 12 m1.f0) (D.cons (D.ints .u64 12 m1.f1) D.nil)))] d []
        refine runs_regions 1 [([], [2, 3, 5, 6])] (z := ([], [(2, (D.ptr 0 [])), (3, (D.ptr 1 [])), (5, (D.lit t5.1 24 fun i => (D.cons (D.ints .u64 12 (t5.2 i).f0) (D.cons (D.ints .u64 12 (t5.2 i).f1) D.nil)))), (6, (D.int .i64 (IntKind.wrap .i64 (t6 + (1 : Int)))))], [some (.box (D.cons (D.ints .u64 12 m0.f0) (D.cons (D.ints .u64 12 m0.f1) D.nil))), some (.box (D.cons (D.ints .u64 12 m1.f0) (D.cons (D.ints .u64 12 m1.f1) D.nil)))])) rfl (by kernel_rfl) trivial ?_
        rw [← Option.some.inj h] at hk
        refine runs_to (ts := [2, 3, 5, 6]) (T' := T_law02_CubeParts_L1) (env' := [(2, (D.ptr 0 [])), (3, (D.ptr 1 [])), (5, (D.lit t5.1 24 fun i => (D.cons (D.ints .u64 12 (t5.2 i).f0) (D.cons (D.ints .u64 12 (t5.2 i).f1) D.nil)))), (6, (D.int .i64 (IntKind.wrap .i64 (t6 + (1 : Int)))))]) (h2 := [some (.box (D.cons (D.ints .u64 12 m0.f0) (D.cons (D.ints .u64 12 m0.f1) D.nil))), some (.box (D.cons (D.ints .u64 12 m1.f0) (D.cons (D.ints .u64 12 m1.f1) D.nil)))]) (by kernel_rfl) (by kernel_rfl) (And.intro (.inr rfl) (And.intro (.inr rfl) trivial)) (Nat.zero_le _) (And.intro (And.intro trivial (And.intro trivial trivial)) (And.intro (And.intro trivial (And.intro trivial trivial)) trivial)) (And.intro (bel_of rfl) (And.intro (bel_of rfl) (And.intro (fun _ _ => (And.intro trivial (And.intro trivial trivial))) (And.intro trivial trivial)))) ?_
        exact hk
      · exact iter_law02_CubeParts_L2 fu t5 m0 m1 t6 fu (0 : Int) hi hk
  · replace h := ifs_false h hb
    rw [← Option.some.inj h] at hk
    refine runs_to (ts := [2, 3, 5]) (T' := X_law02_CubeParts_L1T) (env' := [(2, (D.ptr 0 [])), (3, (D.ptr 1 [])), (5, (D.lit t5.1 24 fun i => (D.cons (D.ints .u64 12 (t5.2 i).f0) (D.cons (D.ints .u64 12 (t5.2 i).f1) D.nil))))]) (h2 := [some (.box (D.cons (D.ints .u64 12 m0.f0) (D.cons (D.ints .u64 12 m0.f1) D.nil))), some (.box (D.cons (D.ints .u64 12 m1.f0) (D.cons (D.ints .u64 12 m1.f1) D.nil)))]) (by kernel_rfl) (by kernel_rfl) (And.intro (.inr rfl) (And.intro (.inr rfl) trivial)) (Nat.zero_le _) (And.intro (And.intro trivial (And.intro trivial trivial)) (And.intro (And.intro trivial (And.intro trivial trivial)) trivial)) (And.intro (bel_of rfl) (And.intro (bel_of rfl) (And.intro (fun _ _ => (And.intro trivial (And.intro trivial trivial))) trivial))) ?_
    exact hk

theorem iter_law02_CubeParts_L1 (fu : Nat) (t5 : (Nat × (Nat → S_api_Cube))) (m0 : S_api_Cube) (m1 : S_api_Cube) {d : D} (k : Nat) (s : Int) {o : E_law02_CubeParts_L1 ⊕ Bool} (h : iter (fun s => F_law02_CubeParts_L1 fu t5 m0 m1 s) k s = some o) (hx : X_law02_CubeParts_L1 fu t5 m0 m1 d o) : N_law02_CubeParts_L1 fu t5 m0 m1 d s :=
  iter_post (K := N_law02_CubeParts_L1 fu t5 m0 m1 d) (X := X_law02_CubeParts_L1 fu t5 m0 m1 d) (fun s _ h hk => run_law02_CubeParts_L1 fu t5 m0 m1 s h hk) k s o h hx

/-- podesta/podestalaw02.CubeParts -/
def F_law02_CubeParts (fu : Nat) (t0 : S_api_Cube) (t1 : S_api_Cube) : Option Bool :=
  (F_cube_Less fu t0 t1).bind fun r0 =>
  after (iter (fun s => F_law02_CubeParts_L1 fu r0 t0 t1 s) fu (0 : Int)) fun _ =>
  (F_law02_answers fu).bind fun r5 =>
  (callIf r5 (F_cube_Within fu t0 t1) false).bind fun r6 =>
  some (bif (bif r5 then (bif (!r6) then true else (((r0.1 : Nat) : Int) == (0 : Int))) else false) then (decide (((r0.1 : Nat) : Int) ≤ (248 : Int))) else false)

theorem run_law02_CubeParts (fu : Nat) (t0 : S_api_Cube) (t1 : S_api_Cube) {d : D} {r : Bool} (h : F_law02_CubeParts fu t0 t1 = some r) (hk : K_law02_CubeParts d r) : Runs Try.prog Try.f13 0 T_law02_CubeParts [(0, (D.cons (D.ints .u64 12 t0.f0) (D.cons (D.ints .u64 12 t0.f1) D.nil))), (1, (D.cons (D.ints .u64 12 t1.f0) (D.cons (D.ints .u64 12 t1.f1) D.nil)))] [] d [] := by
  unfold F_law02_CubeParts at h
  obtain ⟨r0, cr0, h⟩ := Option.bind_eq_some_iff.1 h
  refine runs_regions 3 [([], [2, 3]), ([(.d (D.lit r0.1 24 fun i => (D.cons (D.ints .u64 12 (r0.2 i).f0) (D.cons (D.ints .u64 12 (r0.2 i).f1) D.nil))))], [2, 3, 5]), ([], [2, 3, 5, 6])] (z := ([FC Try.prog 43 [(D.cons (D.ints .u64 12 t0.f0) (D.cons (D.ints .u64 12 t0.f1) D.nil)), (D.cons (D.ints .u64 12 t1.f0) (D.cons (D.ints .u64 12 t1.f1) D.nil))] [] (D.lit r0.1 24 fun i => (D.cons (D.ints .u64 12 (r0.2 i).f0) (D.cons (D.ints .u64 12 (r0.2 i).f1) D.nil))) [], All (List.map NoRow [(D.cons (D.ints .u64 12 t0.f0) (D.cons (D.ints .u64 12 t0.f1) D.nil)), (D.cons (D.ints .u64 12 t1.f0) (D.cons (D.ints .u64 12 t1.f1) D.nil))])], [(2, (D.ptr 0 [])), (3, (D.ptr 1 [])), (5, (D.lit r0.1 24 fun i => (D.cons (D.ints .u64 12 (r0.2 i).f0) (D.cons (D.ints .u64 12 (r0.2 i).f1) D.nil)))), (6, (D.int .i64 (0 : Int)))], [some (.box (D.cons (D.ints .u64 12 t0.f0) (D.cons (D.ints .u64 12 t0.f1) D.nil))), some (.box (D.cons (D.ints .u64 12 t1.f0) (D.cons (D.ints .u64 12 t1.f1) D.nil)))])) rfl (by kernel_rfl) (And.intro (fc_cube_Less fu t0 t1 cr0) (And.intro (And.intro (And.intro trivial (And.intro trivial trivial)) (And.intro (And.intro trivial (And.intro trivial trivial)) trivial)) trivial)) ?_
  refine runs_to (ts := [2, 3, 5, 6]) (T' := T_law02_CubeParts_L1) (env' := [(2, (D.ptr 0 [])), (3, (D.ptr 1 [])), (5, (D.lit r0.1 24 fun i => (D.cons (D.ints .u64 12 (r0.2 i).f0) (D.cons (D.ints .u64 12 (r0.2 i).f1) D.nil)))), (6, (D.int .i64 (0 : Int)))]) (h2 := [some (.box (D.cons (D.ints .u64 12 t0.f0) (D.cons (D.ints .u64 12 t0.f1) D.nil))), some (.box (D.cons (D.ints .u64 12 t1.f0) (D.cons (D.ints .u64 12 t1.f1) D.nil)))]) (by kernel_rfl) (by kernel_rfl) (And.intro (.inr rfl) (And.intro (.inr rfl) trivial)) (Nat.zero_le _) (And.intro (And.intro trivial (And.intro trivial trivial)) (And.intro (And.intro trivial (And.intro trivial trivial)) trivial)) (And.intro (bel_of rfl) (And.intro (bel_of rfl) (And.intro (fun _ _ => (And.intro trivial (And.intro trivial trivial))) (And.intro trivial trivial)))) ?_
  rcases after_some h with ⟨e7, hi, h⟩ | hi
  · refine iter_law02_CubeParts_L1 fu r0 t0 t1 fu (0 : Int) hi ?_
    show Runs Try.prog Try.f13 0 X_law02_CubeParts_L1T [(2, (D.ptr 0 [])), (3, (D.ptr 1 [])), (5, (D.lit r0.1 24 fun i => (D.cons (D.ints .u64 12 (r0.2 i).f0) (D.cons (D.ints .u64 12 (r0.2 i).f1) D.nil))))] [some (.box (D.cons (D.ints .u64 12 t0.f0) (D.cons (D.ints .u64 12 t0.f1) D.nil))), some (.box (D.cons (D.ints .u64 12 t1.f0) (D.cons (D.ints .u64 12 t1.f1) D.nil)))] d []
    obtain ⟨r5, cr5, h⟩ := Option.bind_eq_some_iff.1 h
    obtain ⟨r6, cr6, h⟩ := Option.bind_eq_some_iff.1 h
    refine runs_regions 1 [([(.d (D.bool r5)), (.d (D.bool r6))], [4])] (z := ([FC Try.prog 33 [] [] (D.bool r5) [], All (List.map NoRow []), (r5 = true → All [(r5 = true → r5 = true), (r5 = true → r5 = true), FC Try.prog 41 [(D.cons (D.ints .u64 12 t0.f0) (D.cons (D.ints .u64 12 t0.f1) D.nil)), (D.cons (D.ints .u64 12 t1.f0) (D.cons (D.ints .u64 12 t1.f1) D.nil))] [] (D.bool r6) [], All (List.map NoRow [(D.cons (D.ints .u64 12 t0.f0) (D.cons (D.ints .u64 12 t0.f1) D.nil)), (D.cons (D.ints .u64 12 t1.f0) (D.cons (D.ints .u64 12 t1.f1) D.nil))])]), (r5 = true → All [(r5 = true → r5 = true)]), (r5 = true → All [(r5 = true → r5 = true)]), ((r5 && (!(!r6))) = true → All [((r5 && (!(!r6))) = true → (r5 && (!(!r6))) = true)]), ((r5 && (!(!r6))) = true → All [((r5 && (!(!r6))) = true → (r5 && (!(!r6))) = true)]), (r5 = true → All [(r5 = true → r5 = true), ((r5 && !(!r6)) = true → (r5 && (!(!r6))) = true)]), ((true && r5) = true → r5 = true), ((bif r5 then (bif (!r6) then true else (((r0.1 : Nat) : Int) == (0 : Int))) else false) = true → All [((bif r5 then (bif (!r6) then true else (((r0.1 : Nat) : Int) == (0 : Int))) else false) = true → (bif r5 then (bif (!r6) then true else (((r0.1 : Nat) : Int) == (0 : Int))) else false) = true)]), ((bif r5 then (bif (!r6) then true else (((r0.1 : Nat) : Int) == (0 : Int))) else false) = true → All [((bif r5 then (bif (!r6) then true else (((r0.1 : Nat) : Int) == (0 : Int))) else false) = true → (bif r5 then (bif (!r6) then true else (((r0.1 : Nat) : Int) == (0 : Int))) else false) = true)]), ((true && (bif r5 then (bif (!r6) then true else (((r0.1 : Nat) : Int) == (0 : Int))) else false)) = true → (bif r5 then (bif (!r6) then true else (((r0.1 : Nat) : Int) == (0 : Int))) else false) = true)], [(4, (D.bool (bif (bif r5 then (bif (!r6) then true else (((r0.1 : Nat) : Int) == (0 : Int))) else false) then (decide (((r0.1 : Nat) : Int) ≤ (248 : Int))) else false)))], [some (.box (D.cons (D.ints .u64 12 t0.f0) (D.cons (D.ints .u64 12 t0.f1) D.nil))), some (.box (D.cons (D.ints .u64 12 t1.f0) (D.cons (D.ints .u64 12 t1.f1) D.nil)))])) rfl (by kernel_rfl) (And.intro (fc_law02_answers fu cr5) (And.intro trivial (And.intro (fun hg => (And.intro (by first | exact fun h => h | exact fun h => (Bool.and_eq_true_iff.1 h).1 | simp_all) (And.intro (by first | exact fun h => h | exact fun h => (Bool.and_eq_true_iff.1 h).1 | simp_all) (And.intro (fc_cube_Within fu t0 t1 (callIf_some cr6 hg)) (And.intro (And.intro (And.intro trivial (And.intro trivial trivial)) (And.intro (And.intro trivial (And.intro trivial trivial)) trivial)) trivial))))) (And.intro (fun _ => (And.intro (by first | exact fun h => h | exact fun h => (Bool.and_eq_true_iff.1 h).1 | simp_all) trivial)) (And.intro (fun _ => (And.intro (by first | exact fun h => h | exact fun h => (Bool.and_eq_true_iff.1 h).1 | simp_all) trivial)) (And.intro (fun _ => (And.intro (by first | exact fun h => h | exact fun h => (Bool.and_eq_true_iff.1 h).1 | simp_all) trivial)) (And.intro (fun _ => (And.intro (by first | exact fun h => h | exact fun h => (Bool.and_eq_true_iff.1 h).1 | simp_all) trivial)) (And.intro (fun _ => (And.intro (by first | exact fun h => h | exact fun h => (Bool.and_eq_true_iff.1 h).1 | simp_all) (And.intro (by first | exact fun h => h | exact fun h => (Bool.and_eq_true_iff.1 h).1 | simp_all) trivial))) (And.intro (by first | exact fun h => h | exact fun h => (Bool.and_eq_true_iff.1 h).1 | simp_all) (And.intro (fun _ => (And.intro (by first | exact fun h => h | exact fun h => (Bool.and_eq_true_iff.1 h).1 | simp_all) trivial)) (And.intro (fun _ => (And.intro (by first | exact fun h => h | exact fun h => (Bool.and_eq_true_iff.1 h).1 | simp_all) trivial)) (And.intro (by first | exact fun h => h | exact fun h => (Bool.and_eq_true_iff.1 h).1 | simp_all) trivial)))))))))))) ?_
    rw [← Option.some.inj h] at hk
    obtain rfl : d = (D.bool (bif (bif r5 then (bif (!r6) then true else (((r0.1 : Nat) : Int) == (0 : Int))) else false) then (decide (((r0.1 : Nat) : Int) ≤ (248 : Int))) else false)) := hk
    exact runs_ret (by kernel_rfl) trivial (Nat.le_refl 0) trivial trivial
  · exact iter_law02_CubeParts_L1 fu r0 t0 t1 fu (0 : Int) hi hk

theorem fc_law02_CubeParts (fu : Nat) (t0 : S_api_Cube) (t1 : S_api_Cube) {r : Bool} (h : F_law02_CubeParts fu t0 t1 = some r) : FC Try.prog 13 [(D.cons (D.ints .u64 12 t0.f0) (D.cons (D.ints .u64 12 t0.f1) D.nil)), (D.cons (D.ints .u64 12 t1.f0) (D.cons (D.ints .u64 12 t1.f1) D.nil))] [] (D.bool r) [] := by
  refine fc_of_runs (fn := Try.f13) (c := Try.f13.body.getD .skip) (by kernel_rfl) (by kernel_rfl) ?_
  refine runs_to (ts := [0, 1]) (T' := T_law02_CubeParts) (env' := [(0, (D.cons (D.ints .u64 12 t0.f0) (D.cons (D.ints .u64 12 t0.f1) D.nil))), (1, (D.cons (D.ints .u64 12 t1.f0) (D.cons (D.ints .u64 12 t1.f1) D.nil)))]) (h2 := []) (by kernel_rfl) (by kernel_rfl) trivial (Nat.le_refl 0) trivial (And.intro (And.intro trivial (And.intro trivial trivial)) (And.intro (And.intro trivial (And.intro trivial trivial)) trivial)) ?_
  exact run_law02_CubeParts fu t0 t1 h rfl

def K_cmp_isNaN_uint64 (d : D) (r : Bool) : Prop := d = (D.bool r)

noncomputable def T_cmp_isNaN_uint64 : List Item := norm 200 [.code (Try.f62.body.getD .skip)]

/-- cmp.isNaN[uint64] -/
def F_cmp_isNaN_uint64 (t0 : Int) : Option Bool :=
  some (t0 != t0)

theorem run_cmp_isNaN_uint64 (t0 : Int) {d : D} {r : Bool} (h : F_cmp_isNaN_uint64 t0 = some r) (hk : K_cmp_isNaN_uint64 d r) : Runs Try.prog Try.f62 0 T_cmp_isNaN_uint64 [(0, (D.int .u64 t0))] [] d [] := by
  unfold F_cmp_isNaN_uint64 at h
  refine runs_regions 2 [([], [0]), ([], [2])] (z := ([], [(2, (D.bool (t0 != t0)))], [])) rfl (by kernel_rfl) trivial ?_
  rw [← Option.some.inj h] at hk
  obtain rfl : d = (D.bool (t0 != t0)) := hk
  exact runs_ret (by kernel_rfl) trivial (Nat.le_refl 0) trivial trivial

theorem fc_cmp_isNaN_uint64 (t0 : Int) {r : Bool} (h : F_cmp_isNaN_uint64 t0 = some r) : FC Try.prog 62 [(D.int .u64 t0)] [] (D.bool r) [] := by
  refine fc_of_runs (fn := Try.f62) (c := Try.f62.body.getD .skip) (by kernel_rfl) (by kernel_rfl) ?_
  refine runs_to (ts := [0]) (T' := T_cmp_isNaN_uint64) (env' := [(0, (D.int .u64 t0))]) (h2 := []) (by kernel_rfl) (by kernel_rfl) trivial (Nat.le_refl 0) trivial (And.intro trivial trivial) ?_
  exact run_cmp_isNaN_uint64 t0 h rfl

def K_cmp_Compare_uint64 (d : D) (r : Int) : Prop := d = (D.int .i64 r)

noncomputable def T_cmp_Compare_uint64 : List Item := norm 200 [.code (Try.f57.body.getD .skip)]

/-- cmp.Compare[uint64] -/
def F_cmp_Compare_uint64 (t0 : Int) (t1 : Int) : Option Int :=
  (F_cmp_isNaN_uint64 t0).bind fun r0 =>
  (F_cmp_isNaN_uint64 t1).bind fun r1 =>
  ifs r0 (
    ifs r1 (
      some (0 : Int)) (
      some (-1 : Int))) (
    ifs r1 (
      some (1 : Int)) (
      ifs (decide (t0 < t1)) (
        some (-1 : Int)) (
        ifs (decide (t0 > t1)) (
          some (1 : Int)) (
          some (0 : Int)))))

theorem run_cmp_Compare_uint64 (t0 : Int) (t1 : Int) {d : D} {r : Int} (h : F_cmp_Compare_uint64 t0 t1 = some r) (hk : K_cmp_Compare_uint64 d r) : Runs Try.prog Try.f57 0 T_cmp_Compare_uint64 [(0, (D.int .u64 t0)), (1, (D.int .u64 t1))] [] d [] := by
  unfold F_cmp_Compare_uint64 at h
  obtain ⟨r0, cr0, h⟩ := Option.bind_eq_some_iff.1 h
  obtain ⟨r1, cr1, h⟩ := Option.bind_eq_some_iff.1 h
  refine runs_regions 4 [([], [0, 1]), ([(.d (D.bool r0))], [0, 1, 5]), ([(.d (D.bool r1))], [0, 1, 5, 6]), ([], [0, 1, 6, 11])] (z := ([FC Try.prog 62 [(D.int .u64 t0)] [] (D.bool r0) [], All (List.map NoRow [(D.int .u64 t0)]), FC Try.prog 62 [(D.int .u64 t1)] [] (D.bool r1) [], All (List.map NoRow [(D.int .u64 t1)])], [(0, (D.int .u64 t0)), (1, (D.int .u64 t1)), (6, (D.bool r1)), (11, (D.bool r0))], [])) rfl (by kernel_rfl) (And.intro (fc_cmp_isNaN_uint64 t0 cr0) (And.intro (And.intro trivial trivial) (And.intro (fc_cmp_isNaN_uint64 t1 cr1) (And.intro (And.intro trivial trivial) trivial)))) ?_
  refine runs_if (b := r0) (by kernel_rfl) (fun hb => ?_) (fun hb => ?_)
  · replace h := ifs_true h hb
    refine runs_regions 1 [([], [12])] (z := ([], [(12, (D.bool r1))], [])) rfl (by kernel_rfl) trivial ?_
    refine runs_if (b := r1) (by kernel_rfl) (fun hb => ?_) (fun hb => ?_)
    · replace h := ifs_true h hb
      refine runs_regions 1 [([], [4])] (z := ([], [(4, (D.int .i64 (0 : Int)))], [])) rfl (by kernel_rfl) trivial ?_
      rw [← Option.some.inj h] at hk
      obtain rfl : d = (D.int .i64 (0 : Int)) := hk
      exact runs_ret (by kernel_rfl) trivial (Nat.le_refl 0) trivial trivial
    · replace h := ifs_false h hb
      refine runs_regions 1 [([], [4])] (z := ([], [(4, (D.int .i64 (-1 : Int)))], [])) rfl (by kernel_rfl) trivial ?_
      rw [← Option.some.inj h] at hk
      obtain rfl : d = (D.int .i64 (-1 : Int)) := hk
      exact runs_ret (by kernel_rfl) trivial (Nat.le_refl 0) trivial trivial
  · replace h := ifs_false h hb
    refine runs_regions 1 [([], [0, 1, 13])] (z := ([], [(0, (D.int .u64 t0)), (1, (D.int .u64 t1)), (13, (D.bool r1))], [])) rfl (by kernel_rfl) trivial ?_
    refine runs_if (b := r1) (by kernel_rfl) (fun hb => ?_) (fun hb => ?_)
    · replace h := ifs_true h hb
      refine runs_regions 1 [([], [4])] (z := ([], [(4, (D.int .i64 (1 : Int)))], [])) rfl (by kernel_rfl) trivial ?_
      rw [← Option.some.inj h] at hk
      obtain rfl : d = (D.int .i64 (1 : Int)) := hk
      exact runs_ret (by kernel_rfl) trivial (Nat.le_refl 0) trivial trivial
    · replace h := ifs_false h hb
      refine runs_regions 1 [([], [0, 1, 16])] (z := ([], [(0, (D.int .u64 t0)), (1, (D.int .u64 t1)), (16, (D.bool (decide (t0 < t1))))], [])) rfl (by kernel_rfl) trivial ?_
      refine runs_if (b := (decide (t0 < t1))) (by kernel_rfl) (fun hb => ?_) (fun hb => ?_)
      · replace h := ifs_true h hb
        refine runs_regions 1 [([], [4])] (z := ([], [(4, (D.int .i64 (-1 : Int)))], [])) rfl (by kernel_rfl) trivial ?_
        rw [← Option.some.inj h] at hk
        obtain rfl : d = (D.int .i64 (-1 : Int)) := hk
        exact runs_ret (by kernel_rfl) trivial (Nat.le_refl 0) trivial trivial
      · replace h := ifs_false h hb
        refine runs_regions 1 [([], [19])] (z := ([], [(19, (D.bool (decide (t0 > t1))))], [])) rfl (by kernel_rfl) trivial ?_
        refine runs_if (b := (decide (t0 > t1))) (by kernel_rfl) (fun hb => ?_) (fun hb => ?_)
        · replace h := ifs_true h hb
          refine runs_regions 1 [([], [4])] (z := ([], [(4, (D.int .i64 (1 : Int)))], [])) rfl (by kernel_rfl) trivial ?_
          rw [← Option.some.inj h] at hk
          obtain rfl : d = (D.int .i64 (1 : Int)) := hk
          exact runs_ret (by kernel_rfl) trivial (Nat.le_refl 0) trivial trivial
        · replace h := ifs_false h hb
          refine runs_regions 1 [([], [4])] (z := ([], [(4, (D.int .i64 (0 : Int)))], [])) rfl (by kernel_rfl) trivial ?_
          rw [← Option.some.inj h] at hk
          obtain rfl : d = (D.int .i64 (0 : Int)) := hk
          exact runs_ret (by kernel_rfl) trivial (Nat.le_refl 0) trivial trivial

theorem fc_cmp_Compare_uint64 (t0 : Int) (t1 : Int) {r : Int} (h : F_cmp_Compare_uint64 t0 t1 = some r) : FC Try.prog 57 [(D.int .u64 t0), (D.int .u64 t1)] [] (D.int .i64 r) [] := by
  refine fc_of_runs (fn := Try.f57) (c := Try.f57.body.getD .skip) (by kernel_rfl) (by kernel_rfl) ?_
  refine runs_to (ts := [0, 1]) (T' := T_cmp_Compare_uint64) (env' := [(0, (D.int .u64 t0)), (1, (D.int .u64 t1))]) (h2 := []) (by kernel_rfl) (by kernel_rfl) trivial (Nat.le_refl 0) trivial (And.intro trivial (And.intro trivial trivial)) ?_
  exact run_cmp_Compare_uint64 t0 t1 h rfl

def K_slices_CompareFunc_uint64_cmp_Compare_uint64 (d : D) (r : Int) : Prop := d = (D.int .i64 r)

noncomputable def T_slices_CompareFunc_uint64_cmp_Compare_uint64 : List Item := norm 200 [.code (Try.f56.body.getD .skip)]

noncomputable def T_slices_CompareFunc_uint64_cmp_Compare_uint64_L1 : List Item := norm 200 (nxt (nxt T_slices_CompareFunc_uint64_cmp_Compare_uint64))

noncomputable def X_slices_CompareFunc_uint64_cmp_Compare_uint64_L1T : List Item := norm 200 (cndF (nxt (nxt (nxt T_slices_CompareFunc_uint64_cmp_Compare_uint64))))

abbrev E_slices_CompareFunc_uint64_cmp_Compare_uint64_L1 := Unit

def N_slices_CompareFunc_uint64_cmp_Compare_uint64_L1 (_fu : Nat) (t0 : (Nat × (Nat → Int))) (t1 : (Nat × (Nat → Int))) (t11 : (Nat × (Nat → Int))) (t12 : Int) (d : D) (s : Int) : Prop := Runs Try.prog Try.f56 0 T_slices_CompareFunc_uint64_cmp_Compare_uint64_L1 [(0, (D.lit t0.1 1 fun i => (D.int .u64 (t0.2 i)))), (1, (D.lit t1.1 1 fun i => (D.int .u64 (t1.2 i)))), (2, (D.fn 57 D.nil)), (11, (D.lit t11.1 1 fun i => (D.int .u64 (t11.2 i)))), (12, (D.int .i64 t12)), (13, (D.int .i64 s))] [] d []

def X_slices_CompareFunc_uint64_cmp_Compare_uint64_L1 (_fu : Nat) (t0 : (Nat × (Nat → Int))) (t1 : (Nat × (Nat → Int))) (_t11 : (Nat × (Nat → Int))) (_t12 : Int) (d : D) : E_slices_CompareFunc_uint64_cmp_Compare_uint64_L1 ⊕ Int → Prop
  | .inl _ => Runs Try.prog Try.f56 0 X_slices_CompareFunc_uint64_cmp_Compare_uint64_L1T [(0, (D.lit t0.1 1 fun i => (D.int .u64 (t0.2 i)))), (1, (D.lit t1.1 1 fun i => (D.int .u64 (t1.2 i))))] [] d []
  | .inr o => (K_slices_CompareFunc_uint64_cmp_Compare_uint64 d) o

def F_slices_CompareFunc_uint64_cmp_Compare_uint64_L1 (_fu : Nat) (_t0 : (Nat × (Nat → Int))) (t1 : (Nat × (Nat → Int))) (t11 : (Nat × (Nat → Int))) (t12 : Int) (t13 : Int) : Option (Lo Int E_slices_CompareFunc_uint64_cmp_Compare_uint64_L1 Int) :=
  ifs (decide (t13 < t12)) (
    chk (0 ≤ t13 ∧ t13 < ((t11.1 : Nat) : Int)) <|
    ifs (decide (t13 ≥ ((t1.1 : Nat) : Int))) (
      some (.ret (1 : Int))) (
      chk (0 ≤ t13 ∧ t13 < ((t1.1 : Nat) : Int)) <|
      (F_cmp_Compare_uint64 (t11.2 t13.toNat) (t1.2 t13.toNat)).bind fun r0 =>
      ifs (r0 != (0 : Int)) (
        some (.ret r0)) (
        some (.next (IntKind.wrap .i64 (t13 + (1 : Int))))))) (
    some (.exit ()))

theorem run_slices_CompareFunc_uint64_cmp_Compare_uint64_L1 (fu : Nat) (t0 : (Nat × (Nat → Int))) (t1 : (Nat × (Nat → Int))) (t11 : (Nat × (Nat → Int))) (t12 : Int) (t13 : Int) {d : D} {o : (Lo Int E_slices_CompareFunc_uint64_cmp_Compare_uint64_L1 Int)} (h : F_slices_CompareFunc_uint64_cmp_Compare_uint64_L1 fu t0 t1 t11 t12 t13 = some o) (hk : (Lo.post (N_slices_CompareFunc_uint64_cmp_Compare_uint64_L1 fu t0 t1 t11 t12 d) (X_slices_CompareFunc_uint64_cmp_Compare_uint64_L1 fu t0 t1 t11 t12 d)) o) : Runs Try.prog Try.f56 0 T_slices_CompareFunc_uint64_cmp_Compare_uint64_L1 [(0, (D.lit t0.1 1 fun i => (D.int .u64 (t0.2 i)))), (1, (D.lit t1.1 1 fun i => (D.int .u64 (t1.2 i)))), (2, (D.fn 57 D.nil)), (11, (D.lit t11.1 1 fun i => (D.int .u64 (t11.2 i)))), (12, (D.int .i64 t12)), (13, (D.int .i64 t13))] [] d [] := by
  unfold F_slices_CompareFunc_uint64_cmp_Compare_uint64_L1 at h
  refine runs_regions 1 [([], [0, 1, 2, 11, 12, 13, 14])] (z := ([], [(0, (D.lit t0.1 1 fun i => (D.int .u64 (t0.2 i)))), (1, (D.lit t1.1 1 fun i => (D.int .u64 (t1.2 i)))), (2, (D.fn 57 D.nil)), (11, (D.lit t11.1 1 fun i => (D.int .u64 (t11.2 i)))), (12, (D.int .i64 t12)), (13, (D.int .i64 t13)), (14, (D.bool (decide (t13 < t12))))], [])) rfl (by kernel_rfl) trivial ?_
  refine runs_if (b := (decide (t13 < t12))) (by kernel_rfl) (fun hb => ?_) (fun hb => ?_)
  · replace h := ifs_true h hb
    obtain ⟨p0, h⟩ := chk_some h
    refine runs_regions 2 [([], [0, 1, 2, 7, 8, 11, 12, 13]), ([], [0, 1, 2, 7, 8, 11, 12, 13, 21])] (z := ([(0 ≤ t13 ∧ t13 < ((t11.1 : Nat) : Int))], [(0, (D.lit t0.1 1 fun i => (D.int .u64 (t0.2 i)))), (1, (D.lit t1.1 1 fun i => (D.int .u64 (t1.2 i)))), (2, (D.fn 57 D.nil)), (7, (D.int .i64 t13)), (8, (D.int .u64 (t11.2 t13.toNat))), (11, (D.lit t11.1 1 fun i => (D.int .u64 (t11.2 i)))), (12, (D.int .i64 t12)), (13, (D.int .i64 t13)), (21, (D.bool (decide (t13 ≥ ((t1.1 : Nat) : Int)))))], [])) rfl (by kernel_rfl) (And.intro p0 trivial) ?_
    refine runs_if (b := (decide (t13 ≥ ((t1.1 : Nat) : Int)))) (by kernel_rfl) (fun hb => ?_) (fun hb => ?_)
    · replace h := ifs_true h hb
      refine runs_regions 1 [([], [6])] (z := ([], [(6, (D.int .i64 (1 : Int)))], [])) rfl (by kernel_rfl) trivial ?_
      rw [← Option.some.inj h] at hk
      obtain rfl : d = (D.int .i64 (1 : Int)) := hk
      exact runs_ret (by kernel_rfl) trivial (Nat.le_refl 0) trivial trivial
    · replace h := ifs_false h hb
      obtain ⟨p1, h⟩ := chk_some h
      obtain ⟨r0, cr0, h⟩ := Option.bind_eq_some_iff.1 h
      refine runs_regions 3 [([], [0, 1, 2, 8, 9, 11, 12, 13]), ([(.d (D.int .i64 r0))], [0, 1, 2, 10, 11, 12, 13]), ([], [0, 1, 2, 10, 11, 12, 13, 31])] (z := ([(0 ≤ t13 ∧ t13 < ((t1.1 : Nat) : Int)), FC Try.prog 57 [(D.int .u64 (t11.2 t13.toNat)), (D.int .u64 (t1.2 t13.toNat))] [] (D.int .i64 r0) [], All (List.map NoRow [(D.int .u64 (t11.2 t13.toNat)), (D.int .u64 (t1.2 t13.toNat))])], [(0, (D.lit t0.1 1 fun i => (D.int .u64 (t0.2 i)))), (1, (D.lit t1.1 1 fun i => (D.int .u64 (t1.2 i)))), (2, (D.fn 57 D.nil)), (10, (D.int .i64 r0)), (11, (D.lit t11.1 1 fun i => (D.int .u64 (t11.2 i)))), (12, (D.int .i64 t12)), (13, (D.int .i64 t13)), (31, (D.bool (r0 != (0 : Int))))], [])) rfl (by kernel_rfl) (And.intro p1 (And.intro (fc_cmp_Compare_uint64 (t11.2 t13.toNat) (t1.2 t13.toNat) cr0) (And.intro (And.intro trivial (And.intro trivial trivial)) trivial))) ?_
      refine runs_if (b := (r0 != (0 : Int))) (by kernel_rfl) (fun hb => ?_) (fun hb => ?_)
      · replace h := ifs_true h hb
        refine runs_regions 1 [([], [6])] (z := ([], [(6, (D.int .i64 r0))], [])) rfl (by kernel_rfl) trivial ?_
        rw [← Option.some.inj h] at hk
        obtain rfl : d = (D.int .i64 r0) := hk
        exact runs_ret (by kernel_rfl) trivial (Nat.le_refl 0) trivial trivial
      · replace h := ifs_false h hb
        refine runs_regions 1 [([], [0, 1, 2, 11, 12, 13])] (z := ([], [(0, (D.lit t0.1 1 fun i => (D.int .u64 (t0.2 i)))), (1, (D.lit t1.1 1 fun i => (D.int .u64 (t1.2 i)))), (2, (D.fn 57 D.nil)), (11, (D.lit t11.1 1 fun i => (D.int .u64 (t11.2 i)))), (12, (D.int .i64 t12)), (13, (D.int .i64 (IntKind.wrap .i64 (t13 + (1 : Int)))))], [])) rfl (by kernel_rfl) trivial ?_
        rw [← Option.some.inj h] at hk
        refine runs_to (ts := [0, 1, 2, 11, 12, 13]) (T' := T_slices_CompareFunc_uint64_cmp_Compare_uint64_L1) (env' := [(0, (D.lit t0.1 1 fun i => (D.int .u64 (t0.2 i)))), (1, (D.lit t1.1 1 fun i => (D.int .u64 (t1.2 i)))), (2, (D.fn 57 D.nil)), (11, (D.lit t11.1 1 fun i => (D.int .u64 (t11.2 i)))), (12, (D.int .i64 t12)), (13, (D.int .i64 (IntKind.wrap .i64 (t13 + (1 : Int)))))]) (h2 := []) (by kernel_rfl) (by kernel_rfl) trivial (Nat.zero_le _) trivial (And.intro (fun _ _ => trivial) (And.intro (fun _ _ => trivial) (And.intro trivial (And.intro (fun _ _ => trivial) (And.intro trivial (And.intro trivial trivial)))))) ?_
        exact hk
  · replace h := ifs_false h hb
    rw [← Option.some.inj h] at hk
    refine runs_to (ts := [0, 1]) (T' := X_slices_CompareFunc_uint64_cmp_Compare_uint64_L1T) (env' := [(0, (D.lit t0.1 1 fun i => (D.int .u64 (t0.2 i)))), (1, (D.lit t1.1 1 fun i => (D.int .u64 (t1.2 i))))]) (h2 := []) (by kernel_rfl) (by kernel_rfl) trivial (Nat.zero_le _) trivial (And.intro (fun _ _ => trivial) (And.intro (fun _ _ => trivial) trivial)) ?_
    exact hk

theorem iter_slices_CompareFunc_uint64_cmp_Compare_uint64_L1 (fu : Nat) (t0 : (Nat × (Nat → Int))) (t1 : (Nat × (Nat → Int))) (t11 : (Nat × (Nat → Int))) (t12 : Int) {d : D} (k : Nat) (s : Int) {o : E_slices_CompareFunc_uint64_cmp_Compare_uint64_L1 ⊕ Int} (h : iter (fun s => F_slices_CompareFunc_uint64_cmp_Compare_uint64_L1 fu t0 t1 t11 t12 s) k s = some o) (hx : X_slices_CompareFunc_uint64_cmp_Compare_uint64_L1 fu t0 t1 t11 t12 d o) : N_slices_CompareFunc_uint64_cmp_Compare_uint64_L1 fu t0 t1 t11 t12 d s :=
  iter_post (K := N_slices_CompareFunc_uint64_cmp_Compare_uint64_L1 fu t0 t1 t11 t12 d) (X := X_slices_CompareFunc_uint64_cmp_Compare_uint64_L1 fu t0 t1 t11 t12 d) (fun s _ h hk => run_slices_CompareFunc_uint64_cmp_Compare_uint64_L1 fu t0 t1 t11 t12 s h hk) k s o h hx

/-- slices.CompareFunc[[]uint64,[]uint64,uint64,uint64] -/
def F_slices_CompareFunc_uint64_cmp_Compare_uint64 (fu : Nat) (t0 : (Nat × (Nat → Int))) (t1 : (Nat × (Nat → Int))) : Option Int :=
  after (iter (fun s => F_slices_CompareFunc_uint64_cmp_Compare_uint64_L1 fu t0 t1 t0 ((t0.1 : Nat) : Int) s) fu (0 : Int)) fun _ =>
  ifs (decide (((t0.1 : Nat) : Int) < ((t1.1 : Nat) : Int))) (
    some (-1 : Int)) (
    some (0 : Int))

theorem run_slices_CompareFunc_uint64_cmp_Compare_uint64 (fu : Nat) (t0 : (Nat × (Nat → Int))) (t1 : (Nat × (Nat → Int))) {d : D} {r : Int} (h : F_slices_CompareFunc_uint64_cmp_Compare_uint64 fu t0 t1 = some r) (hk : K_slices_CompareFunc_uint64_cmp_Compare_uint64 d r) : Runs Try.prog Try.f56 0 T_slices_CompareFunc_uint64_cmp_Compare_uint64 [(0, (D.lit t0.1 1 fun i => (D.int .u64 (t0.2 i)))), (1, (D.lit t1.1 1 fun i => (D.int .u64 (t1.2 i)))), (2, (D.fn 57 D.nil))] [] d [] := by
  unfold F_slices_CompareFunc_uint64_cmp_Compare_uint64 at h
  refine runs_regions 2 [([], [0, 1, 2]), ([], [0, 1, 2, 11, 12, 13])] (z := ([], [(0, (D.lit t0.1 1 fun i => (D.int .u64 (t0.2 i)))), (1, (D.lit t1.1 1 fun i => (D.int .u64 (t1.2 i)))), (2, (D.fn 57 D.nil)), (11, (D.lit t0.1 1 fun i => (D.int .u64 (t0.2 i)))), (12, (D.int .i64 ((t0.1 : Nat) : Int))), (13, (D.int .i64 (0 : Int)))], [])) rfl (by kernel_rfl) trivial ?_
  refine runs_to (ts := [0, 1, 2, 11, 12, 13]) (T' := T_slices_CompareFunc_uint64_cmp_Compare_uint64_L1) (env' := [(0, (D.lit t0.1 1 fun i => (D.int .u64 (t0.2 i)))), (1, (D.lit t1.1 1 fun i => (D.int .u64 (t1.2 i)))), (2, (D.fn 57 D.nil)), (11, (D.lit t0.1 1 fun i => (D.int .u64 (t0.2 i)))), (12, (D.int .i64 ((t0.1 : Nat) : Int))), (13, (D.int .i64 (0 : Int)))]) (h2 := []) (by kernel_rfl) (by kernel_rfl) trivial (Nat.zero_le _) trivial (And.intro (fun _ _ => trivial) (And.intro (fun _ _ => trivial) (And.intro trivial (And.intro (fun _ _ => trivial) (And.intro trivial (And.intro trivial trivial)))))) ?_
  rcases after_some h with ⟨e3, hi, h⟩ | hi
  · refine iter_slices_CompareFunc_uint64_cmp_Compare_uint64_L1 fu t0 t1 t0 ((t0.1 : Nat) : Int) fu (0 : Int) hi ?_
    show Runs Try.prog Try.f56 0 X_slices_CompareFunc_uint64_cmp_Compare_uint64_L1T [(0, (D.lit t0.1 1 fun i => (D.int .u64 (t0.2 i)))), (1, (D.lit t1.1 1 fun i => (D.int .u64 (t1.2 i))))] [] d []
    refine runs_regions 1 [([], [38])] (z := ([], [(38, (D.bool (decide (((t0.1 : Nat) : Int) < ((t1.1 : Nat) : Int)))))], [])) rfl (by kernel_rfl) trivial ?_
    refine runs_if (b := (decide (((t0.1 : Nat) : Int) < ((t1.1 : Nat) : Int)))) (by kernel_rfl) (fun hb => ?_) (fun hb => ?_)
    · replace h := ifs_true h hb
      refine runs_regions 1 [([], [6])] (z := ([], [(6, (D.int .i64 (-1 : Int)))], [])) rfl (by kernel_rfl) trivial ?_
      rw [← Option.some.inj h] at hk
      obtain rfl : d = (D.int .i64 (-1 : Int)) := hk
      exact runs_ret (by kernel_rfl) trivial (Nat.le_refl 0) trivial trivial
    · replace h := ifs_false h hb
      refine runs_regions 1 [([], [6])] (z := ([], [(6, (D.int .i64 (0 : Int)))], [])) rfl (by kernel_rfl) trivial ?_
      rw [← Option.some.inj h] at hk
      obtain rfl : d = (D.int .i64 (0 : Int)) := hk
      exact runs_ret (by kernel_rfl) trivial (Nat.le_refl 0) trivial trivial
  · exact iter_slices_CompareFunc_uint64_cmp_Compare_uint64_L1 fu t0 t1 t0 ((t0.1 : Nat) : Int) fu (0 : Int) hi hk

theorem fc_slices_CompareFunc_uint64_cmp_Compare_uint64 (fu : Nat) (t0 : (Nat × (Nat → Int))) (t1 : (Nat × (Nat → Int))) {r : Int} (h : F_slices_CompareFunc_uint64_cmp_Compare_uint64 fu t0 t1 = some r) : FC Try.prog 56 [(D.lit t0.1 1 fun i => (D.int .u64 (t0.2 i))), (D.lit t1.1 1 fun i => (D.int .u64 (t1.2 i))), (D.fn 57 D.nil)] [] (D.int .i64 r) [] := by
  refine fc_of_runs (fn := Try.f56) (c := Try.f56.body.getD .skip) (by kernel_rfl) (by kernel_rfl) ?_
  refine runs_to (ts := [0, 1, 2]) (T' := T_slices_CompareFunc_uint64_cmp_Compare_uint64) (env' := [(0, (D.lit t0.1 1 fun i => (D.int .u64 (t0.2 i)))), (1, (D.lit t1.1 1 fun i => (D.int .u64 (t1.2 i)))), (2, (D.fn 57 D.nil))]) (h2 := []) (by kernel_rfl) (by kernel_rfl) trivial (Nat.le_refl 0) trivial (And.intro (fun _ _ => trivial) (And.intro (fun _ _ => trivial) (And.intro trivial trivial))) ?_
  exact run_slices_CompareFunc_uint64_cmp_Compare_uint64 fu t0 t1 h rfl

def K_head_Compare (d : D) (r : Int) : Prop := d = (D.int .i64 r)

noncomputable def T_head_Compare : List Item := norm 200 [.code (Try.f28.body.getD .skip)]

/-- podesta/head.Compare -/
def F_head_Compare (fu : Nat) (t0 : (Nat → Int)) (t1 : (Nat → Int)) : Option Int :=
  (F_slices_CompareFunc_uint64_cmp_Compare_uint64 fu (12, t0) (12, t1)).bind fun r0 =>
  some r0

theorem run_head_Compare (fu : Nat) (t0 : (Nat → Int)) (t1 : (Nat → Int)) {d : D} {r : Int} (h : F_head_Compare fu t0 t1 = some r) (hk : K_head_Compare d r) : Runs Try.prog Try.f28 0 T_head_Compare [(0, (D.ints .u64 12 t0)), (1, (D.ints .u64 12 t1))] [] d [] := by
  unfold F_head_Compare at h
  refine runs_regions 1 [([], [2, 3])] (z := ([], [(2, (D.ptr 0 [])), (3, (D.ptr 1 []))], [some (.box (D.ints .u64 12 t0)), some (.box (D.ints .u64 12 t1))])) rfl (by kernel_rfl) trivial ?_
  refine runs_freeze 0 (row := (.box (D.ints .u64 12 t0))) rfl ?_
  refine runs_freeze 1 (row := (.box (D.ints .u64 12 t1))) rfl ?_
  obtain ⟨r0, cr0, h⟩ := Option.bind_eq_some_iff.1 h
  refine runs_regions 1 [([(.d (D.int .i64 r0))], [4])] (z := ([FC Try.prog 56 [(D.lit 12 1 fun i => (D.int .u64 (t0 i))), (D.lit 12 1 fun i => (D.int .u64 (t1 i))), (D.fn 57 D.nil)] [] (D.int .i64 r0) [], All (List.map NoRow [(D.lit 12 1 fun i => (D.int .u64 (t0 i))), (D.lit 12 1 fun i => (D.int .u64 (t1 i))), (D.fn 57 D.nil)])], [(4, (D.int .i64 r0))], [none, none])) rfl (by kernel_rfl) (And.intro (fc_slices_CompareFunc_uint64_cmp_Compare_uint64 fu (12, t0) (12, t1) cr0) (And.intro (And.intro (fun _ _ => trivial) (And.intro (fun _ _ => trivial) (And.intro trivial trivial))) trivial)) ?_
  rw [← Option.some.inj h] at hk
  obtain rfl : d = (D.int .i64 r0) := hk
  exact runs_ret (by kernel_rfl) trivial (Nat.le_refl 0) trivial trivial

theorem fc_head_Compare (fu : Nat) (t0 : (Nat → Int)) (t1 : (Nat → Int)) {r : Int} (h : F_head_Compare fu t0 t1 = some r) : FC Try.prog 28 [(D.ints .u64 12 t0), (D.ints .u64 12 t1)] [] (D.int .i64 r) [] := by
  refine fc_of_runs (fn := Try.f28) (c := Try.f28.body.getD .skip) (by kernel_rfl) (by kernel_rfl) ?_
  refine runs_to (ts := [0, 1]) (T' := T_head_Compare) (env' := [(0, (D.ints .u64 12 t0)), (1, (D.ints .u64 12 t1))]) (h2 := []) (by kernel_rfl) (by kernel_rfl) trivial (Nat.le_refl 0) trivial (And.intro trivial (And.intro trivial trivial)) ?_
  exact run_head_Compare fu t0 t1 h rfl

def K_cmp_Or_int (d : D) (r : Int) : Prop := d = (D.int .i64 r)

noncomputable def T_cmp_Or_int : List Item := norm 200 [.code (Try.f61.body.getD .skip)]

noncomputable def T_cmp_Or_int_L1 : List Item := norm 200 (nxt (nxt (nxt T_cmp_Or_int)))

noncomputable def X_cmp_Or_int_L1T : List Item := norm 200 (cndF (nxt (nxt (nxt (nxt T_cmp_Or_int)))))

abbrev E_cmp_Or_int_L1 := Unit

def N_cmp_Or_int_L1 (_fu : Nat) (t3 : Int) (t6 : (Nat × (Nat → Int))) (t7 : Int) (d : D) (s : Int) : Prop := Runs Try.prog Try.f61 0 T_cmp_Or_int_L1 [(3, (D.int .i64 t3)), (6, (D.lit t6.1 1 fun i => (D.int .i64 (t6.2 i)))), (7, (D.int .i64 t7)), (8, (D.int .i64 s))] [] d []

def X_cmp_Or_int_L1 (_fu : Nat) (t3 : Int) (_t6 : (Nat × (Nat → Int))) (_t7 : Int) (d : D) : E_cmp_Or_int_L1 ⊕ Int → Prop
  | .inl _ => Runs Try.prog Try.f61 0 X_cmp_Or_int_L1T [(3, (D.int .i64 t3))] [] d []
  | .inr o => (K_cmp_Or_int d) o

def F_cmp_Or_int_L1 (_fu : Nat) (t3 : Int) (t6 : (Nat × (Nat → Int))) (t7 : Int) (t8 : Int) : Option (Lo Int E_cmp_Or_int_L1 Int) :=
  ifs (decide (t8 < t7)) (
    chk (0 ≤ t8 ∧ t8 < ((t6.1 : Nat) : Int)) <|
    ifs ((t6.2 t8.toNat) != t3) (
      some (.ret (t6.2 t8.toNat))) (
      some (.next (IntKind.wrap .i64 (t8 + (1 : Int)))))) (
    some (.exit ()))

theorem run_cmp_Or_int_L1 (fu : Nat) (t3 : Int) (t6 : (Nat × (Nat → Int))) (t7 : Int) (t8 : Int) {d : D} {o : (Lo Int E_cmp_Or_int_L1 Int)} (h : F_cmp_Or_int_L1 fu t3 t6 t7 t8 = some o) (hk : (Lo.post (N_cmp_Or_int_L1 fu t3 t6 t7 d) (X_cmp_Or_int_L1 fu t3 t6 t7 d)) o) : Runs Try.prog Try.f61 0 T_cmp_Or_int_L1 [(3, (D.int .i64 t3)), (6, (D.lit t6.1 1 fun i => (D.int .i64 (t6.2 i)))), (7, (D.int .i64 t7)), (8, (D.int .i64 t8))] [] d [] := by
  unfold F_cmp_Or_int_L1 at h
  refine runs_regions 1 [([], [3, 6, 7, 8, 9])] (z := ([], [(3, (D.int .i64 t3)), (6, (D.lit t6.1 1 fun i => (D.int .i64 (t6.2 i)))), (7, (D.int .i64 t7)), (8, (D.int .i64 t8)), (9, (D.bool (decide (t8 < t7))))], [])) rfl (by kernel_rfl) trivial ?_
  refine runs_if (b := (decide (t8 < t7))) (by kernel_rfl) (fun hb => ?_) (fun hb => ?_)
  · replace h := ifs_true h hb
    obtain ⟨p0, h⟩ := chk_some h
    refine runs_regions 2 [([], [3, 5, 6, 7, 8]), ([], [3, 5, 6, 7, 8, 14])] (z := ([(0 ≤ t8 ∧ t8 < ((t6.1 : Nat) : Int))], [(3, (D.int .i64 t3)), (5, (D.int .i64 (t6.2 t8.toNat))), (6, (D.lit t6.1 1 fun i => (D.int .i64 (t6.2 i)))), (7, (D.int .i64 t7)), (8, (D.int .i64 t8)), (14, (D.bool ((t6.2 t8.toNat) != t3)))], [])) rfl (by kernel_rfl) (And.intro p0 trivial) ?_
    refine runs_if (b := ((t6.2 t8.toNat) != t3)) (by kernel_rfl) (fun hb => ?_) (fun hb => ?_)
    · replace h := ifs_true h hb
      refine runs_regions 1 [([], [2])] (z := ([], [(2, (D.int .i64 (t6.2 t8.toNat)))], [])) rfl (by kernel_rfl) trivial ?_
      rw [← Option.some.inj h] at hk
      obtain rfl : d = (D.int .i64 (t6.2 t8.toNat)) := hk
      exact runs_ret (by kernel_rfl) trivial (Nat.le_refl 0) trivial trivial
    · replace h := ifs_false h hb
      refine runs_regions 1 [([], [3, 6, 7, 8])] (z := ([], [(3, (D.int .i64 t3)), (6, (D.lit t6.1 1 fun i => (D.int .i64 (t6.2 i)))), (7, (D.int .i64 t7)), (8, (D.int .i64 (IntKind.wrap .i64 (t8 + (1 : Int)))))], [])) rfl (by kernel_rfl) trivial ?_
      rw [← Option.some.inj h] at hk
      refine runs_to (ts := [3, 6, 7, 8]) (T' := T_cmp_Or_int_L1) (env' := [(3, (D.int .i64 t3)), (6, (D.lit t6.1 1 fun i => (D.int .i64 (t6.2 i)))), (7, (D.int .i64 t7)), (8, (D.int .i64 (IntKind.wrap .i64 (t8 + (1 : Int)))))]) (h2 := []) (by kernel_rfl) (by kernel_rfl) trivial (Nat.zero_le _) trivial (And.intro trivial (And.intro (fun _ _ => trivial) (And.intro trivial (And.intro trivial trivial)))) ?_
      exact hk
  · replace h := ifs_false h hb
    rw [← Option.some.inj h] at hk
    refine runs_to (ts := [3]) (T' := X_cmp_Or_int_L1T) (env' := [(3, (D.int .i64 t3))]) (h2 := []) (by kernel_rfl) (by kernel_rfl) trivial (Nat.zero_le _) trivial (And.intro trivial trivial) ?_
    exact hk

theorem iter_cmp_Or_int_L1 (fu : Nat) (t3 : Int) (t6 : (Nat × (Nat → Int))) (t7 : Int) {d : D} (k : Nat) (s : Int) {o : E_cmp_Or_int_L1 ⊕ Int} (h : iter (fun s => F_cmp_Or_int_L1 fu t3 t6 t7 s) k s = some o) (hx : X_cmp_Or_int_L1 fu t3 t6 t7 d o) : N_cmp_Or_int_L1 fu t3 t6 t7 d s :=
  iter_post (K := N_cmp_Or_int_L1 fu t3 t6 t7 d) (X := X_cmp_Or_int_L1 fu t3 t6 t7 d) (fun s _ h hk => run_cmp_Or_int_L1 fu t3 t6 t7 s h hk) k s o h hx

/-- cmp.Or[int] -/
def F_cmp_Or_int (fu : Nat) (t0 : (Nat × (Nat → Int))) : Option Int :=
  after (iter (fun s => F_cmp_Or_int_L1 fu (0 : Int) t0 ((t0.1 : Nat) : Int) s) fu (0 : Int)) fun _ =>
  some (0 : Int)

theorem run_cmp_Or_int (fu : Nat) (t0 : (Nat × (Nat → Int))) {d : D} {r : Int} (h : F_cmp_Or_int fu t0 = some r) (hk : K_cmp_Or_int d r) : Runs Try.prog Try.f61 0 T_cmp_Or_int [(0, (D.lit t0.1 1 fun i => (D.int .i64 (t0.2 i))))] [] d [] := by
  unfold F_cmp_Or_int at h
  refine runs_regions 3 [([], [0]), ([], [0, 3]), ([], [3, 6, 7, 8])] (z := ([], [(3, (D.int .i64 (0 : Int))), (6, (D.lit t0.1 1 fun i => (D.int .i64 (t0.2 i)))), (7, (D.int .i64 ((t0.1 : Nat) : Int))), (8, (D.int .i64 (0 : Int)))], [])) rfl (by kernel_rfl) trivial ?_
  refine runs_to (ts := [3, 6, 7, 8]) (T' := T_cmp_Or_int_L1) (env' := [(3, (D.int .i64 (0 : Int))), (6, (D.lit t0.1 1 fun i => (D.int .i64 (t0.2 i)))), (7, (D.int .i64 ((t0.1 : Nat) : Int))), (8, (D.int .i64 (0 : Int)))]) (h2 := []) (by kernel_rfl) (by kernel_rfl) trivial (Nat.zero_le _) trivial (And.intro trivial (And.intro (fun _ _ => trivial) (And.intro trivial (And.intro trivial trivial)))) ?_
  rcases after_some h with ⟨e2, hi, h⟩ | hi
  · refine iter_cmp_Or_int_L1 fu (0 : Int) t0 ((t0.1 : Nat) : Int) fu (0 : Int) hi ?_
    show Runs Try.prog Try.f61 0 X_cmp_Or_int_L1T [(3, (D.int .i64 (0 : Int)))] [] d []
    refine runs_regions 1 [([], [2])] (z := ([], [(2, (D.int .i64 (0 : Int)))], [])) rfl (by kernel_rfl) trivial ?_
    rw [← Option.some.inj h] at hk
    obtain rfl : d = (D.int .i64 (0 : Int)) := hk
    exact runs_ret (by kernel_rfl) trivial (Nat.le_refl 0) trivial trivial
  · exact iter_cmp_Or_int_L1 fu (0 : Int) t0 ((t0.1 : Nat) : Int) fu (0 : Int) hi hk

theorem fc_cmp_Or_int (fu : Nat) (t0 : (Nat × (Nat → Int))) {r : Int} (h : F_cmp_Or_int fu t0 = some r) : FC Try.prog 61 [(D.lit t0.1 1 fun i => (D.int .i64 (t0.2 i)))] [] (D.int .i64 r) [] := by
  refine fc_of_runs (fn := Try.f61) (c := Try.f61.body.getD .skip) (by kernel_rfl) (by kernel_rfl) ?_
  refine runs_to (ts := [0]) (T' := T_cmp_Or_int) (env' := [(0, (D.lit t0.1 1 fun i => (D.int .i64 (t0.2 i))))]) (h2 := []) (by kernel_rfl) (by kernel_rfl) trivial (Nat.le_refl 0) trivial (And.intro (fun _ _ => trivial) trivial) ?_
  exact run_cmp_Or_int fu t0 h rfl

def K_cube_Compare (d : D) (r : Int) : Prop := d = (D.int .i64 r)

noncomputable def T_cube_Compare : List Item := norm 200 [.code (Try.f48.body.getD .skip)]

/-- podesta/cube.Compare -/
def F_cube_Compare (fu : Nat) (t0 : S_api_Cube) (t1 : S_api_Cube) : Option Int :=
  (F_head_Compare fu t0.f1 t1.f1).bind fun r0 =>
  (F_head_Compare fu t0.f0 t1.f0).bind fun r1 =>
  (F_cmp_Or_int fu (2, (fun i => ([r0, r1] : List Int).getD i (0 : Int)))).bind fun r2 =>
  some r2

theorem run_cube_Compare (fu : Nat) (t0 : S_api_Cube) (t1 : S_api_Cube) {d : D} {r : Int} (h : F_cube_Compare fu t0 t1 = some r) (hk : K_cube_Compare d r) : Runs Try.prog Try.f48 0 T_cube_Compare [(0, (D.cons (D.ints .u64 12 t0.f0) (D.cons (D.ints .u64 12 t0.f1) D.nil))), (1, (D.cons (D.ints .u64 12 t1.f0) (D.cons (D.ints .u64 12 t1.f1) D.nil)))] [] d [] := by
  unfold F_cube_Compare at h
  obtain ⟨r0, cr0, h⟩ := Option.bind_eq_some_iff.1 h
  obtain ⟨r1, cr1, h⟩ := Option.bind_eq_some_iff.1 h
  obtain ⟨r2, cr2, h⟩ := Option.bind_eq_some_iff.1 h
  refine runs_regions 2 [([], [2, 3]), ([(.d (D.int .i64 r0)), (.d (D.int .i64 r1)), (.lit fun i => (D.int .i64 ((fun i => ([r0, r1] : List Int).getD i (0 : Int)) i))), (.d (D.int .i64 r2))], [4])] (z := ([FC Try.prog 28 [(D.ints .u64 12 t0.f1), (D.ints .u64 12 t1.f1)] [] (D.int .i64 r0) [], All (List.map NoRow [(D.ints .u64 12 t0.f1), (D.ints .u64 12 t1.f1)]), FC Try.prog 28 [(D.ints .u64 12 t0.f0), (D.ints .u64 12 t1.f0)] [] (D.int .i64 r1) [], All (List.map NoRow [(D.ints .u64 12 t0.f0), (D.ints .u64 12 t1.f0)]), TabOk [(D.int .i64 r0), (D.int .i64 r1)] 1 (D.arr 2 1 fun i => (D.int .i64 ((fun i => ([r0, r1] : List Int).getD i (0 : Int)) i))), FC Try.prog 61 [(D.lit 2 1 fun i => (D.int .i64 ((fun i => ([r0, r1] : List Int).getD i (0 : Int)) i)))] [] (D.int .i64 r2) [], All (List.map NoRow [(D.lit 2 1 fun i => (D.int .i64 ((fun i => ([r0, r1] : List Int).getD i (0 : Int)) i)))])], [(4, (D.int .i64 r2))], [some (.box (D.cons (D.ints .u64 12 t0.f0) (D.cons (D.ints .u64 12 t0.f1) D.nil))), some (.box (D.cons (D.ints .u64 12 t1.f0) (D.cons (D.ints .u64 12 t1.f1) D.nil)))])) rfl (by kernel_rfl) (And.intro (fc_head_Compare fu t0.f1 t1.f1 cr0) (And.intro (And.intro trivial (And.intro trivial trivial)) (And.intro (fc_head_Compare fu t0.f0 t1.f0 cr1) (And.intro (And.intro trivial (And.intro trivial trivial)) (And.intro (tabOk_arr rfl (And.intro rfl (And.intro rfl trivial))) (And.intro (fc_cmp_Or_int fu (2, (fun i => ([r0, r1] : List Int).getD i (0 : Int))) cr2) (And.intro (And.intro (fun _ _ => trivial) trivial) trivial))))))) ?_
  rw [← Option.some.inj h] at hk
  obtain rfl : d = (D.int .i64 r2) := hk
  exact runs_ret (by kernel_rfl) trivial (Nat.le_refl 0) trivial trivial

theorem fc_cube_Compare (fu : Nat) (t0 : S_api_Cube) (t1 : S_api_Cube) {r : Int} (h : F_cube_Compare fu t0 t1 = some r) : FC Try.prog 48 [(D.cons (D.ints .u64 12 t0.f0) (D.cons (D.ints .u64 12 t0.f1) D.nil)), (D.cons (D.ints .u64 12 t1.f0) (D.cons (D.ints .u64 12 t1.f1) D.nil))] [] (D.int .i64 r) [] := by
  refine fc_of_runs (fn := Try.f48) (c := Try.f48.body.getD .skip) (by kernel_rfl) (by kernel_rfl) ?_
  refine runs_to (ts := [0, 1]) (T' := T_cube_Compare) (env' := [(0, (D.cons (D.ints .u64 12 t0.f0) (D.cons (D.ints .u64 12 t0.f1) D.nil))), (1, (D.cons (D.ints .u64 12 t1.f0) (D.cons (D.ints .u64 12 t1.f1) D.nil)))]) (h2 := []) (by kernel_rfl) (by kernel_rfl) trivial (Nat.le_refl 0) trivial (And.intro (And.intro trivial (And.intro trivial trivial)) (And.intro (And.intro trivial (And.intro trivial trivial)) trivial)) ?_
  exact run_cube_Compare fu t0 t1 h rfl

def K_ref01_Order (d : D) (r : Int) : Prop := d = (D.int .i64 r)

noncomputable def T_ref01_Order : List Item := norm 200 [.code (Try.f30.body.getD .skip)]

noncomputable def T_ref01_Order_L1 : List Item := norm 200 (nxt (nxt T_ref01_Order))

noncomputable def X_ref01_Order_L1T : List Item := norm 200 (cndF (nxt (nxt (nxt T_ref01_Order))))

abbrev E_ref01_Order_L1 := Unit

def N_ref01_Order_L1 (_fu : Nat) (m0 : (Nat → Int)) (m1 : (Nat → Int)) (d : D) (s : Int) : Prop := Runs Try.prog Try.f30 0 T_ref01_Order_L1 [(2, (D.ptr 0 [])), (3, (D.ptr 1 [])), (5, (D.int .i64 s))] [some (.box (D.ints .u64 12 m0)), some (.box (D.ints .u64 12 m1))] d []

def X_ref01_Order_L1 (_fu : Nat) (_m0 : (Nat → Int)) (_m1 : (Nat → Int)) (d : D) : E_ref01_Order_L1 ⊕ Int → Prop
  | .inl _ => Runs Try.prog Try.f30 0 X_ref01_Order_L1T [] [] d []
  | .inr o => (K_ref01_Order d) o

def F_ref01_Order_L1 (_fu : Nat) (m0 : (Nat → Int)) (m1 : (Nat → Int)) (t5 : Int) : Option (Lo Int E_ref01_Order_L1 Int) :=
  ifs (decide (t5 < (12 : Int))) (
    chk (0 ≤ t5 ∧ t5 < ((12 : Nat) : Int)) <|
    chk (t5.toNat < 12) <|
    chk (0 ≤ t5 ∧ t5 < ((12 : Nat) : Int)) <|
    chk (t5.toNat < 12) <|
    ifs (decide ((m0 t5.toNat) < (m1 t5.toNat))) (
      some (.ret (-1 : Int))) (
      chk (0 ≤ t5 ∧ t5 < ((12 : Nat) : Int)) <|
      chk (t5.toNat < 12) <|
      chk (0 ≤ t5 ∧ t5 < ((12 : Nat) : Int)) <|
      chk (t5.toNat < 12) <|
      ifs (decide ((m0 t5.toNat) > (m1 t5.toNat))) (
        some (.ret (1 : Int))) (
        some (.next (IntKind.wrap .i64 (t5 + (1 : Int))))))) (
    some (.exit ()))

theorem run_ref01_Order_L1 (fu : Nat) (m0 : (Nat → Int)) (m1 : (Nat → Int)) (t5 : Int) {d : D} {o : (Lo Int E_ref01_Order_L1 Int)} (h : F_ref01_Order_L1 fu m0 m1 t5 = some o) (hk : (Lo.post (N_ref01_Order_L1 fu m0 m1 d) (X_ref01_Order_L1 fu m0 m1 d)) o) : Runs Try.prog Try.f30 0 T_ref01_Order_L1 [(2, (D.ptr 0 [])), (3, (D.ptr 1 [])), (5, (D.int .i64 t5))] [some (.box (D.ints .u64 12 m0)), some (.box (D.ints .u64 12 m1))] d [] := by
  unfold F_ref01_Order_L1 at h
  refine runs_regions 1 [([], [2, 3, 5, 7])] (z := ([], [(2, (D.ptr 0 [])), (3, (D.ptr 1 [])), (5, (D.int .i64 t5)), (7, (D.bool (decide (t5 < (12 : Int)))))], [some (.box (D.ints .u64 12 m0)), some (.box (D.ints .u64 12 m1))])) rfl (by kernel_rfl) trivial ?_
  refine runs_if (b := (decide (t5 < (12 : Int)))) (by kernel_rfl) (fun hb => ?_) (fun hb => ?_)
  · replace h := ifs_true h hb
    obtain ⟨p0, h⟩ := chk_some h
    obtain ⟨p1, h⟩ := chk_some h
    obtain ⟨p2, h⟩ := chk_some h
    obtain ⟨p3, h⟩ := chk_some h
    refine runs_regions 1 [([], [2, 3, 5, 16])] (z := ([(0 ≤ t5 ∧ t5 < ((12 : Nat) : Int)), (t5.toNat < 12), (0 ≤ t5 ∧ t5 < ((12 : Nat) : Int)), (t5.toNat < 12)], [(2, (D.ptr 0 [])), (3, (D.ptr 1 [])), (5, (D.int .i64 t5)), (16, (D.bool (decide ((m0 t5.toNat) < (m1 t5.toNat)))))], [some (.box (D.ints .u64 12 m0)), some (.box (D.ints .u64 12 m1))])) rfl (by kernel_rfl) (And.intro p0 (And.intro p1 (And.intro p2 (And.intro p3 trivial)))) ?_
    refine runs_if (b := (decide ((m0 t5.toNat) < (m1 t5.toNat)))) (by kernel_rfl) (fun hb => ?_) (fun hb => ?_)
    · replace h := ifs_true h hb
      refine runs_regions 1 [([], [4])] (z := ([], [(4, (D.int .i64 (-1 : Int)))], [some (.box (D.ints .u64 12 m0)), some (.box (D.ints .u64 12 m1))])) rfl (by kernel_rfl) trivial ?_
      rw [← Option.some.inj h] at hk
      obtain rfl : d = (D.int .i64 (-1 : Int)) := hk
      exact runs_ret (by kernel_rfl) trivial (Nat.le_refl 0) trivial trivial
    · replace h := ifs_false h hb
      obtain ⟨p4, h⟩ := chk_some h
      obtain ⟨p5, h⟩ := chk_some h
      obtain ⟨p6, h⟩ := chk_some h
      obtain ⟨p7, h⟩ := chk_some h
      refine runs_regions 1 [([], [2, 3, 5, 23])] (z := ([(0 ≤ t5 ∧ t5 < ((12 : Nat) : Int)), (t5.toNat < 12), (0 ≤ t5 ∧ t5 < ((12 : Nat) : Int)), (t5.toNat < 12)], [(2, (D.ptr 0 [])), (3, (D.ptr 1 [])), (5, (D.int .i64 t5)), (23, (D.bool (decide ((m0 t5.toNat) > (m1 t5.toNat)))))], [some (.box (D.ints .u64 12 m0)), some (.box (D.ints .u64 12 m1))])) rfl (by kernel_rfl) (And.intro p4 (And.intro p5 (And.intro p6 (And.intro p7 trivial)))) ?_
      refine runs_if (b := (decide ((m0 t5.toNat) > (m1 t5.toNat)))) (by kernel_rfl) (fun hb => ?_) (fun hb => ?_)
      · replace h := ifs_true h hb
        refine runs_regions 1 [([], [4])] (z := ([], [(4, (D.int .i64 (1 : Int)))], [some (.box (D.ints .u64 12 m0)), some (.box (D.ints .u64 12 m1))])) rfl (by kernel_rfl) trivial ?_
        rw [← Option.some.inj h] at hk
        obtain rfl : d = (D.int .i64 (1 : Int)) := hk
        exact runs_ret (by kernel_rfl) trivial (Nat.le_refl 0) trivial trivial
      · replace h := ifs_false h hb
        refine runs_regions 1 [([], [2, 3, 5])] (z := ([], [(2, (D.ptr 0 [])), (3, (D.ptr 1 [])), (5, (D.int .i64 (IntKind.wrap .i64 (t5 + (1 : Int)))))], [some (.box (D.ints .u64 12 m0)), some (.box (D.ints .u64 12 m1))])) rfl (by kernel_rfl) trivial ?_
        rw [← Option.some.inj h] at hk
        refine runs_to (ts := [2, 3, 5]) (T' := T_ref01_Order_L1) (env' := [(2, (D.ptr 0 [])), (3, (D.ptr 1 [])), (5, (D.int .i64 (IntKind.wrap .i64 (t5 + (1 : Int)))))]) (h2 := [some (.box (D.ints .u64 12 m0)), some (.box (D.ints .u64 12 m1))]) (by kernel_rfl) (by kernel_rfl) (And.intro (.inr rfl) (And.intro (.inr rfl) trivial)) (Nat.zero_le _) (And.intro trivial (And.intro trivial trivial)) (And.intro (bel_of rfl) (And.intro (bel_of rfl) (And.intro trivial trivial))) ?_
        exact hk
  · replace h := ifs_false h hb
    rw [← Option.some.inj h] at hk
    refine runs_to (ts := []) (T' := X_ref01_Order_L1T) (env' := []) (h2 := []) (by kernel_rfl) (by kernel_rfl) trivial (Nat.zero_le _) trivial trivial ?_
    exact hk

theorem iter_ref01_Order_L1 (fu : Nat) (m0 : (Nat → Int)) (m1 : (Nat → Int)) {d : D} (k : Nat) (s : Int) {o : E_ref01_Order_L1 ⊕ Int} (h : iter (fun s => F_ref01_Order_L1 fu m0 m1 s) k s = some o) (hx : X_ref01_Order_L1 fu m0 m1 d o) : N_ref01_Order_L1 fu m0 m1 d s :=
  iter_post (K := N_ref01_Order_L1 fu m0 m1 d) (X := X_ref01_Order_L1 fu m0 m1 d) (fun s _ h hk => run_ref01_Order_L1 fu m0 m1 s h hk) k s o h hx

/-- podesta/podestaref01.Order -/
def F_ref01_Order (fu : Nat) (t0 : (Nat → Int)) (t1 : (Nat → Int)) : Option Int :=
  after (iter (fun s => F_ref01_Order_L1 fu t0 t1 s) fu (0 : Int)) fun _ =>
  some (0 : Int)

theorem run_ref01_Order (fu : Nat) (t0 : (Nat → Int)) (t1 : (Nat → Int)) {d : D} {r : Int} (h : F_ref01_Order fu t0 t1 = some r) (hk : K_ref01_Order d r) : Runs Try.prog Try.f30 0 T_ref01_Order [(0, (D.ints .u64 12 t0)), (1, (D.ints .u64 12 t1))] [] d [] := by
  unfold F_ref01_Order at h
  refine runs_regions 2 [([], [2, 3]), ([], [2, 3, 5])] (z := ([], [(2, (D.ptr 0 [])), (3, (D.ptr 1 [])), (5, (D.int .i64 (0 : Int)))], [some (.box (D.ints .u64 12 t0)), some (.box (D.ints .u64 12 t1))])) rfl (by kernel_rfl) trivial ?_
  refine runs_to (ts := [2, 3, 5]) (T' := T_ref01_Order_L1) (env' := [(2, (D.ptr 0 [])), (3, (D.ptr 1 [])), (5, (D.int .i64 (0 : Int)))]) (h2 := [some (.box (D.ints .u64 12 t0)), some (.box (D.ints .u64 12 t1))]) (by kernel_rfl) (by kernel_rfl) (And.intro (.inr rfl) (And.intro (.inr rfl) trivial)) (Nat.zero_le _) (And.intro trivial (And.intro trivial trivial)) (And.intro (bel_of rfl) (And.intro (bel_of rfl) (And.intro trivial trivial))) ?_
  rcases after_some h with ⟨e9, hi, h⟩ | hi
  · refine iter_ref01_Order_L1 fu t0 t1 fu (0 : Int) hi ?_
    show Runs Try.prog Try.f30 0 X_ref01_Order_L1T [] [] d []
    refine runs_regions 1 [([], [4])] (z := ([], [(4, (D.int .i64 (0 : Int)))], [])) rfl (by kernel_rfl) trivial ?_
    rw [← Option.some.inj h] at hk
    obtain rfl : d = (D.int .i64 (0 : Int)) := hk
    exact runs_ret (by kernel_rfl) trivial (Nat.le_refl 0) trivial trivial
  · exact iter_ref01_Order_L1 fu t0 t1 fu (0 : Int) hi hk

theorem fc_ref01_Order (fu : Nat) (t0 : (Nat → Int)) (t1 : (Nat → Int)) {r : Int} (h : F_ref01_Order fu t0 t1 = some r) : FC Try.prog 30 [(D.ints .u64 12 t0), (D.ints .u64 12 t1)] [] (D.int .i64 r) [] := by
  refine fc_of_runs (fn := Try.f30) (c := Try.f30.body.getD .skip) (by kernel_rfl) (by kernel_rfl) ?_
  refine runs_to (ts := [0, 1]) (T' := T_ref01_Order) (env' := [(0, (D.ints .u64 12 t0)), (1, (D.ints .u64 12 t1))]) (h2 := []) (by kernel_rfl) (by kernel_rfl) trivial (Nat.le_refl 0) trivial (And.intro trivial (And.intro trivial trivial)) ?_
  exact run_ref01_Order fu t0 t1 h rfl

def K_ref01_Compare (d : D) (r : Int) : Prop := d = (D.int .i64 r)

noncomputable def T_ref01_Compare : List Item := norm 200 [.code (Try.f49.body.getD .skip)]

/-- podesta/podestaref01.Compare -/
def F_ref01_Compare (fu : Nat) (t0 : S_api_Cube) (t1 : S_api_Cube) : Option Int :=
  (F_ref01_Order fu t0.f1 t1.f1).bind fun r0 =>
  ifs (r0 != (0 : Int)) (
    some r0) (
    (F_ref01_Order fu t0.f0 t1.f0).bind fun r1 =>
    some r1)

theorem run_ref01_Compare (fu : Nat) (t0 : S_api_Cube) (t1 : S_api_Cube) {d : D} {r : Int} (h : F_ref01_Compare fu t0 t1 = some r) (hk : K_ref01_Compare d r) : Runs Try.prog Try.f49 0 T_ref01_Compare [(0, (D.cons (D.ints .u64 12 t0.f0) (D.cons (D.ints .u64 12 t0.f1) D.nil))), (1, (D.cons (D.ints .u64 12 t1.f0) (D.cons (D.ints .u64 12 t1.f1) D.nil)))] [] d [] := by
  unfold F_ref01_Compare at h
  obtain ⟨r0, cr0, h⟩ := Option.bind_eq_some_iff.1 h
  refine runs_regions 3 [([], [2, 3]), ([(.d (D.int .i64 r0))], [2, 3, 5]), ([], [2, 3, 5, 12])] (z := ([FC Try.prog 30 [(D.ints .u64 12 t0.f1), (D.ints .u64 12 t1.f1)] [] (D.int .i64 r0) [], All (List.map NoRow [(D.ints .u64 12 t0.f1), (D.ints .u64 12 t1.f1)])], [(2, (D.ptr 0 [])), (3, (D.ptr 1 [])), (5, (D.int .i64 r0)), (12, (D.bool (r0 != (0 : Int))))], [some (.box (D.cons (D.ints .u64 12 t0.f0) (D.cons (D.ints .u64 12 t0.f1) D.nil))), some (.box (D.cons (D.ints .u64 12 t1.f0) (D.cons (D.ints .u64 12 t1.f1) D.nil)))])) rfl (by kernel_rfl) (And.intro (fc_ref01_Order fu t0.f1 t1.f1 cr0) (And.intro (And.intro trivial (And.intro trivial trivial)) trivial)) ?_
  refine runs_if (b := (r0 != (0 : Int))) (by kernel_rfl) (fun hb => ?_) (fun hb => ?_)
  · replace h := ifs_true h hb
    refine runs_regions 1 [([], [4])] (z := ([], [(4, (D.int .i64 r0))], [some (.box (D.cons (D.ints .u64 12 t0.f0) (D.cons (D.ints .u64 12 t0.f1) D.nil))), some (.box (D.cons (D.ints .u64 12 t1.f0) (D.cons (D.ints .u64 12 t1.f1) D.nil)))])) rfl (by kernel_rfl) trivial ?_
    rw [← Option.some.inj h] at hk
    obtain rfl : d = (D.int .i64 r0) := hk
    exact runs_ret (by kernel_rfl) trivial (Nat.le_refl 0) trivial trivial
  · replace h := ifs_false h hb
    obtain ⟨r1, cr1, h⟩ := Option.bind_eq_some_iff.1 h
    refine runs_regions 1 [([(.d (D.int .i64 r1))], [4])] (z := ([FC Try.prog 30 [(D.ints .u64 12 t0.f0), (D.ints .u64 12 t1.f0)] [] (D.int .i64 r1) [], All (List.map NoRow [(D.ints .u64 12 t0.f0), (D.ints .u64 12 t1.f0)])], [(4, (D.int .i64 r1))], [some (.box (D.cons (D.ints .u64 12 t0.f0) (D.cons (D.ints .u64 12 t0.f1) D.nil))), some (.box (D.cons (D.ints .u64 12 t1.f0) (D.cons (D.ints .u64 12 t1.f1) D.nil)))])) rfl (by kernel_rfl) (And.intro (fc_ref01_Order fu t0.f0 t1.f0 cr1) (And.intro (And.intro trivial (And.intro trivial trivial)) trivial)) ?_
    rw [← Option.some.inj h] at hk
    obtain rfl : d = (D.int .i64 r1) := hk
    exact runs_ret (by kernel_rfl) trivial (Nat.le_refl 0) trivial trivial

theorem fc_ref01_Compare (fu : Nat) (t0 : S_api_Cube) (t1 : S_api_Cube) {r : Int} (h : F_ref01_Compare fu t0 t1 = some r) : FC Try.prog 49 [(D.cons (D.ints .u64 12 t0.f0) (D.cons (D.ints .u64 12 t0.f1) D.nil)), (D.cons (D.ints .u64 12 t1.f0) (D.cons (D.ints .u64 12 t1.f1) D.nil))] [] (D.int .i64 r) [] := by
  refine fc_of_runs (fn := Try.f49) (c := Try.f49.body.getD .skip) (by kernel_rfl) (by kernel_rfl) ?_
  refine runs_to (ts := [0, 1]) (T' := T_ref01_Compare) (env' := [(0, (D.cons (D.ints .u64 12 t0.f0) (D.cons (D.ints .u64 12 t0.f1) D.nil))), (1, (D.cons (D.ints .u64 12 t1.f0) (D.cons (D.ints .u64 12 t1.f1) D.nil)))]) (h2 := []) (by kernel_rfl) (by kernel_rfl) trivial (Nat.le_refl 0) trivial (And.intro (And.intro trivial (And.intro trivial trivial)) (And.intro (And.intro trivial (And.intro trivial trivial)) trivial)) ?_
  exact run_ref01_Compare fu t0 t1 h rfl

def K_law02_CubeOrder (d : D) (r : Bool) : Prop := d = (D.bool r)

noncomputable def T_law02_CubeOrder : List Item := norm 200 [.code (Try.f14.body.getD .skip)]

/-- podesta/podestalaw02.CubeOrder -/
def F_law02_CubeOrder (fu : Nat) (t0 : S_api_Cube) (t1 : S_api_Cube) : Option Bool :=
  (F_cube_Compare fu t0 t1).bind fun r0 =>
  (F_cube_Compare fu t1 t0).bind fun r1 =>
  (F_ref01_Compare fu t0 t1).bind fun r2 =>
  (F_cube_Meet fu t0 t1).bind fun r3 =>
  (F_cube_Meet fu t1 t0).bind fun r4 =>
  (F_law02_answers fu).bind fun r5 =>
  some (bif (bif (bif (bif (bif r5 then ((decide (r0 < (0 : Int))) == (decide (r2 < (0 : Int)))) else false) then ((decide (r0 > (0 : Int))) == (decide (r2 > (0 : Int)))) else false) then ((decide (r0 < (0 : Int))) == (decide (r1 > (0 : Int)))) else false) then ((r0 == (0 : Int)) == (((List.range 12).all fun i => t0.f0 i == t1.f0 i) && (((List.range 12).all fun i => t0.f1 i == t1.f1 i) && true))) else false) then (((List.range 12).all fun i => r3.1.f0 i == r4.1.f0 i) && (((List.range 12).all fun i => r3.1.f1 i == r4.1.f1 i) && true)) else false)

theorem run_law02_CubeOrder (fu : Nat) (t0 : S_api_Cube) (t1 : S_api_Cube) {d : D} {r : Bool} (h : F_law02_CubeOrder fu t0 t1 = some r) (hk : K_law02_CubeOrder d r) : Runs Try.prog Try.f14 0 T_law02_CubeOrder [(0, (D.cons (D.ints .u64 12 t0.f0) (D.cons (D.ints .u64 12 t0.f1) D.nil))), (1, (D.cons (D.ints .u64 12 t1.f0) (D.cons (D.ints .u64 12 t1.f1) D.nil)))] [] d [] := by
  unfold F_law02_CubeOrder at h
  obtain ⟨r0, cr0, h⟩ := Option.bind_eq_some_iff.1 h
  obtain ⟨r1, cr1, h⟩ := Option.bind_eq_some_iff.1 h
  obtain ⟨r2, cr2, h⟩ := Option.bind_eq_some_iff.1 h
  obtain ⟨r3, cr3, h⟩ := Option.bind_eq_some_iff.1 h
  obtain ⟨r4, cr4, h⟩ := Option.bind_eq_some_iff.1 h
  obtain ⟨r5, cr5, h⟩ := Option.bind_eq_some_iff.1 h
  refine runs_regions 6 [([], [2, 3]), ([(.d (D.int .i64 r0)), (.d (D.int .i64 r1))], [2, 3, 5, 6]), ([(.d (D.int .i64 r2))], [2, 3, 5, 6, 7]), ([(.d (D.tup (D.cons (D.cons (D.ints .u64 12 r3.1.f0) (D.cons (D.ints .u64 12 r3.1.f1) D.nil)) (D.cons (D.bool r3.2) D.nil))))], [2, 3, 5, 6, 7, 8]), ([(.d (D.tup (D.cons (D.cons (D.ints .u64 12 r4.1.f0) (D.cons (D.ints .u64 12 r4.1.f1) D.nil)) (D.cons (D.bool r4.2) D.nil))))], [2, 3, 5, 6, 7, 8, 10]), ([(.d (D.bool r5))], [4])] (z := ([FC Try.prog 48 [(D.cons (D.ints .u64 12 t0.f0) (D.cons (D.ints .u64 12 t0.f1) D.nil)), (D.cons (D.ints .u64 12 t1.f0) (D.cons (D.ints .u64 12 t1.f1) D.nil))] [] (D.int .i64 r0) [], All (List.map NoRow [(D.cons (D.ints .u64 12 t0.f0) (D.cons (D.ints .u64 12 t0.f1) D.nil)), (D.cons (D.ints .u64 12 t1.f0) (D.cons (D.ints .u64 12 t1.f1) D.nil))]), FC Try.prog 48 [(D.cons (D.ints .u64 12 t1.f0) (D.cons (D.ints .u64 12 t1.f1) D.nil)), (D.cons (D.ints .u64 12 t0.f0) (D.cons (D.ints .u64 12 t0.f1) D.nil))] [] (D.int .i64 r1) [], All (List.map NoRow [(D.cons (D.ints .u64 12 t1.f0) (D.cons (D.ints .u64 12 t1.f1) D.nil)), (D.cons (D.ints .u64 12 t0.f0) (D.cons (D.ints .u64 12 t0.f1) D.nil))]), FC Try.prog 49 [(D.cons (D.ints .u64 12 t0.f0) (D.cons (D.ints .u64 12 t0.f1) D.nil)), (D.cons (D.ints .u64 12 t1.f0) (D.cons (D.ints .u64 12 t1.f1) D.nil))] [] (D.int .i64 r2) [], All (List.map NoRow [(D.cons (D.ints .u64 12 t0.f0) (D.cons (D.ints .u64 12 t0.f1) D.nil)), (D.cons (D.ints .u64 12 t1.f0) (D.cons (D.ints .u64 12 t1.f1) D.nil))]), FC Try.prog 40 [(D.cons (D.ints .u64 12 t0.f0) (D.cons (D.ints .u64 12 t0.f1) D.nil)), (D.cons (D.ints .u64 12 t1.f0) (D.cons (D.ints .u64 12 t1.f1) D.nil))] [] (D.tup (D.cons (D.cons (D.ints .u64 12 r3.1.f0) (D.cons (D.ints .u64 12 r3.1.f1) D.nil)) (D.cons (D.bool r3.2) D.nil))) [], All (List.map NoRow [(D.cons (D.ints .u64 12 t0.f0) (D.cons (D.ints .u64 12 t0.f1) D.nil)), (D.cons (D.ints .u64 12 t1.f0) (D.cons (D.ints .u64 12 t1.f1) D.nil))]), FC Try.prog 40 [(D.cons (D.ints .u64 12 t1.f0) (D.cons (D.ints .u64 12 t1.f1) D.nil)), (D.cons (D.ints .u64 12 t0.f0) (D.cons (D.ints .u64 12 t0.f1) D.nil))] [] (D.tup (D.cons (D.cons (D.ints .u64 12 r4.1.f0) (D.cons (D.ints .u64 12 r4.1.f1) D.nil)) (D.cons (D.bool r4.2) D.nil))) [], All (List.map NoRow [(D.cons (D.ints .u64 12 t1.f0) (D.cons (D.ints .u64 12 t1.f1) D.nil)), (D.cons (D.ints .u64 12 t0.f0) (D.cons (D.ints .u64 12 t0.f1) D.nil))]), FC Try.prog 33 [] [] (D.bool r5) [], All (List.map NoRow []), (r5 = true → All [(r5 = true → r5 = true)]), (r5 = true → All [(r5 = true → r5 = true)]), (r5 = true → All [(r5 = true → r5 = true), (r5 = true → r5 = true)]), ((true && r5) = true → r5 = true), ((bif r5 then ((decide (r0 < (0 : Int))) == (decide (r2 < (0 : Int)))) else false) = true → All [((bif r5 then ((decide (r0 < (0 : Int))) == (decide (r2 < (0 : Int)))) else false) = true → (bif r5 then ((decide (r0 < (0 : Int))) == (decide (r2 < (0 : Int)))) else false) = true)]), ((bif r5 then ((decide (r0 < (0 : Int))) == (decide (r2 < (0 : Int)))) else false) = true → All [((bif r5 then ((decide (r0 < (0 : Int))) == (decide (r2 < (0 : Int)))) else false) = true → (bif r5 then ((decide (r0 < (0 : Int))) == (decide (r2 < (0 : Int)))) else false) = true)]), ((bif r5 then ((decide (r0 < (0 : Int))) == (decide (r2 < (0 : Int)))) else false) = true → All [((bif r5 then ((decide (r0 < (0 : Int))) == (decide (r2 < (0 : Int)))) else false) = true → (bif r5 then ((decide (r0 < (0 : Int))) == (decide (r2 < (0 : Int)))) else false) = true), ((bif r5 then ((decide (r0 < (0 : Int))) == (decide (r2 < (0 : Int)))) else false) = true → (bif r5 then ((decide (r0 < (0 : Int))) == (decide (r2 < (0 : Int)))) else false) = true)]), ((true && (bif r5 then ((decide (r0 < (0 : Int))) == (decide (r2 < (0 : Int)))) else false)) = true → (bif r5 then ((decide (r0 < (0 : Int))) == (decide (r2 < (0 : Int)))) else false) = true), ((bif (bif r5 then ((decide (r0 < (0 : Int))) == (decide (r2 < (0 : Int)))) else false) then ((decide (r0 > (0 : Int))) == (decide (r2 > (0 : Int)))) else false) = true → All [((bif (bif r5 then ((decide (r0 < (0 : Int))) == (decide (r2 < (0 : Int)))) else false) then ((decide (r0 > (0 : Int))) == (decide (r2 > (0 : Int)))) else false) = true → (bif (bif r5 then ((decide (r0 < (0 : Int))) == (decide (r2 < (0 : Int)))) else false) then ((decide (r0 > (0 : Int))) == (decide (r2 > (0 : Int)))) else false) = true)]), ((bif (bif r5 then ((decide (r0 < (0 : Int))) == (decide (r2 < (0 : Int)))) else false) then ((decide (r0 > (0 : Int))) == (decide (r2 > (0 : Int)))) else false) = true → All [((bif (bif r5 then ((decide (r0 < (0 : Int))) == (decide (r2 < (0 : Int)))) else false) then ((decide (r0 > (0 : Int))) == (decide (r2 > (0 : Int)))) else false) = true → (bif (bif r5 then ((decide (r0 < (0 : Int))) == (decide (r2 < (0 : Int)))) else false) then ((decide (r0 > (0 : Int))) == (decide (r2 > (0 : Int)))) else false) = true)]), ((bif (bif r5 then ((decide (r0 < (0 : Int))) == (decide (r2 < (0 : Int)))) else false) then ((decide (r0 > (0 : Int))) == (decide (r2 > (0 : Int)))) else false) = true → All [((bif (bif r5 then ((decide (r0 < (0 : Int))) == (decide (r2 < (0 : Int)))) else false) then ((decide (r0 > (0 : Int))) == (decide (r2 > (0 : Int)))) else false) = true → (bif (bif r5 then ((decide (r0 < (0 : Int))) == (decide (r2 < (0 : Int)))) else false) then ((decide (r0 > (0 : Int))) == (decide (r2 > (0 : Int)))) else false) = true), ((bif (bif r5 then ((decide (r0 < (0 : Int))) == (decide (r2 < (0 : Int)))) else false) then ((decide (r0 > (0 : Int))) == (decide (r2 > (0 : Int)))) else false) = true → (bif (bif r5 then ((decide (r0 < (0 : Int))) == (decide (r2 < (0 : Int)))) else false) then ((decide (r0 > (0 : Int))) == (decide (r2 > (0 : Int)))) else false) = true)]), ((true && (bif (bif r5 then ((decide (r0 < (0 : Int))) == (decide (r2 < (0 : Int)))) else false) then ((decide (r0 > (0 : Int))) == (decide (r2 > (0 : Int)))) else false)) = true → (bif (bif r5 then ((decide (r0 < (0 : Int))) == (decide (r2 < (0 : Int)))) else false) then ((decide (r0 > (0 : Int))) == (decide (r2 > (0 : Int)))) else false) = true), ((bif (bif (bif r5 then ((decide (r0 < (0 : Int))) == (decide (r2 < (0 : Int)))) else false) then ((decide (r0 > (0 : Int))) == (decide (r2 > (0 : Int)))) else false) then ((decide (r0 < (0 : Int))) == (decide (r1 > (0 : Int)))) else false) = true → All [((bif (bif (bif r5 then ((decide (r0 < (0 : Int))) == (decide (r2 < (0 : Int)))) else false) then ((decide (r0 > (0 : Int))) == (decide (r2 > (0 : Int)))) else false) then ((decide (r0 < (0 : Int))) == (decide (r1 > (0 : Int)))) else false) = true → (bif (bif (bif r5 then ((decide (r0 < (0 : Int))) == (decide (r2 < (0 : Int)))) else false) then ((decide (r0 > (0 : Int))) == (decide (r2 > (0 : Int)))) else false) then ((decide (r0 < (0 : Int))) == (decide (r1 > (0 : Int)))) else false) = true)]), ((bif (bif (bif r5 then ((decide (r0 < (0 : Int))) == (decide (r2 < (0 : Int)))) else false) then ((decide (r0 > (0 : Int))) == (decide (r2 > (0 : Int)))) else false) then ((decide (r0 < (0 : Int))) == (decide (r1 > (0 : Int)))) else false) = true → All [((bif (bif (bif r5 then ((decide (r0 < (0 : Int))) == (decide (r2 < (0 : Int)))) else false) then ((decide (r0 > (0 : Int))) == (decide (r2 > (0 : Int)))) else false) then ((decide (r0 < (0 : Int))) == (decide (r1 > (0 : Int)))) else false) = true → (bif (bif (bif r5 then ((decide (r0 < (0 : Int))) == (decide (r2 < (0 : Int)))) else false) then ((decide (r0 > (0 : Int))) == (decide (r2 > (0 : Int)))) else false) then ((decide (r0 < (0 : Int))) == (decide (r1 > (0 : Int)))) else false) = true), ((bif (bif (bif r5 then ((decide (r0 < (0 : Int))) == (decide (r2 < (0 : Int)))) else false) then ((decide (r0 > (0 : Int))) == (decide (r2 > (0 : Int)))) else false) then ((decide (r0 < (0 : Int))) == (decide (r1 > (0 : Int)))) else false) = true → (bif (bif (bif r5 then ((decide (r0 < (0 : Int))) == (decide (r2 < (0 : Int)))) else false) then ((decide (r0 > (0 : Int))) == (decide (r2 > (0 : Int)))) else false) then ((decide (r0 < (0 : Int))) == (decide (r1 > (0 : Int)))) else false) = true)]), ((bif (bif (bif r5 then ((decide (r0 < (0 : Int))) == (decide (r2 < (0 : Int)))) else false) then ((decide (r0 > (0 : Int))) == (decide (r2 > (0 : Int)))) else false) then ((decide (r0 < (0 : Int))) == (decide (r1 > (0 : Int)))) else false) = true → All [((bif (bif (bif r5 then ((decide (r0 < (0 : Int))) == (decide (r2 < (0 : Int)))) else false) then ((decide (r0 > (0 : Int))) == (decide (r2 > (0 : Int)))) else false) then ((decide (r0 < (0 : Int))) == (decide (r1 > (0 : Int)))) else false) = true → (bif (bif (bif r5 then ((decide (r0 < (0 : Int))) == (decide (r2 < (0 : Int)))) else false) then ((decide (r0 > (0 : Int))) == (decide (r2 > (0 : Int)))) else false) then ((decide (r0 < (0 : Int))) == (decide (r1 > (0 : Int)))) else false) = true), ((bif (bif (bif r5 then ((decide (r0 < (0 : Int))) == (decide (r2 < (0 : Int)))) else false) then ((decide (r0 > (0 : Int))) == (decide (r2 > (0 : Int)))) else false) then ((decide (r0 < (0 : Int))) == (decide (r1 > (0 : Int)))) else false) = true → (bif (bif (bif r5 then ((decide (r0 < (0 : Int))) == (decide (r2 < (0 : Int)))) else false) then ((decide (r0 > (0 : Int))) == (decide (r2 > (0 : Int)))) else false) then ((decide (r0 < (0 : Int))) == (decide (r1 > (0 : Int)))) else false) = true)]), ((true && (bif (bif (bif r5 then ((decide (r0 < (0 : Int))) == (decide (r2 < (0 : Int)))) else false) then ((decide (r0 > (0 : Int))) == (decide (r2 > (0 : Int)))) else false) then ((decide (r0 < (0 : Int))) == (decide (r1 > (0 : Int)))) else false)) = true → (bif (bif (bif r5 then ((decide (r0 < (0 : Int))) == (decide (r2 < (0 : Int)))) else false) then ((decide (r0 > (0 : Int))) == (decide (r2 > (0 : Int)))) else false) then ((decide (r0 < (0 : Int))) == (decide (r1 > (0 : Int)))) else false) = true), ((bif (bif (bif (bif r5 then ((decide (r0 < (0 : Int))) == (decide (r2 < (0 : Int)))) else false) then ((decide (r0 > (0 : Int))) == (decide (r2 > (0 : Int)))) else false) then ((decide (r0 < (0 : Int))) == (decide (r1 > (0 : Int)))) else false) then ((r0 == (0 : Int)) == (((List.range 12).all fun i => t0.f0 i == t1.f0 i) && (((List.range 12).all fun i => t0.f1 i == t1.f1 i) && true))) else false) = true → All [((bif (bif (bif (bif r5 then ((decide (r0 < (0 : Int))) == (decide (r2 < (0 : Int)))) else false) then ((decide (r0 > (0 : Int))) == (decide (r2 > (0 : Int)))) else false) then ((decide (r0 < (0 : Int))) == (decide (r1 > (0 : Int)))) else false) then ((r0 == (0 : Int)) == (((List.range 12).all fun i => t0.f0 i == t1.f0 i) && (((List.range 12).all fun i => t0.f1 i == t1.f1 i) && true))) else false) = true → (bif (bif (bif (bif r5 then ((decide (r0 < (0 : Int))) == (decide (r2 < (0 : Int)))) else false) then ((decide (r0 > (0 : Int))) == (decide (r2 > (0 : Int)))) else false) then ((decide (r0 < (0 : Int))) == (decide (r1 > (0 : Int)))) else false) then ((r0 == (0 : Int)) == (((List.range 12).all fun i => t0.f0 i == t1.f0 i) && (((List.range 12).all fun i => t0.f1 i == t1.f1 i) && true))) else false) = true), ((bif (bif (bif (bif r5 then ((decide (r0 < (0 : Int))) == (decide (r2 < (0 : Int)))) else false) then ((decide (r0 > (0 : Int))) == (decide (r2 > (0 : Int)))) else false) then ((decide (r0 < (0 : Int))) == (decide (r1 > (0 : Int)))) else false) then ((r0 == (0 : Int)) == (((List.range 12).all fun i => t0.f0 i == t1.f0 i) && (((List.range 12).all fun i => t0.f1 i == t1.f1 i) && true))) else false) = true → (bif (bif (bif (bif r5 then ((decide (r0 < (0 : Int))) == (decide (r2 < (0 : Int)))) else false) then ((decide (r0 > (0 : Int))) == (decide (r2 > (0 : Int)))) else false) then ((decide (r0 < (0 : Int))) == (decide (r1 > (0 : Int)))) else false) then ((r0 == (0 : Int)) == (((List.range 12).all fun i => t0.f0 i == t1.f0 i) && (((List.range 12).all fun i => t0.f1 i == t1.f1 i) && true))) else false) = true)]), ((true && (bif (bif (bif (bif r5 then ((decide (r0 < (0 : Int))) == (decide (r2 < (0 : Int)))) else false) then ((decide (r0 > (0 : Int))) == (decide (r2 > (0 : Int)))) else false) then ((decide (r0 < (0 : Int))) == (decide (r1 > (0 : Int)))) else false) then ((r0 == (0 : Int)) == (((List.range 12).all fun i => t0.f0 i == t1.f0 i) && (((List.range 12).all fun i => t0.f1 i == t1.f1 i) && true))) else false)) = true → (bif (bif (bif (bif r5 then ((decide (r0 < (0 : Int))) == (decide (r2 < (0 : Int)))) else false) then ((decide (r0 > (0 : Int))) == (decide (r2 > (0 : Int)))) else false) then ((decide (r0 < (0 : Int))) == (decide (r1 > (0 : Int)))) else false) then ((r0 == (0 : Int)) == (((List.range 12).all fun i => t0.f0 i == t1.f0 i) && (((List.range 12).all fun i => t0.f1 i == t1.f1 i) && true))) else false) = true)], [(4, (D.bool (bif (bif (bif (bif (bif r5 then ((decide (r0 < (0 : Int))) == (decide (r2 < (0 : Int)))) else false) then ((decide (r0 > (0 : Int))) == (decide (r2 > (0 : Int)))) else false) then ((decide (r0 < (0 : Int))) == (decide (r1 > (0 : Int)))) else false) then ((r0 == (0 : Int)) == (((List.range 12).all fun i => t0.f0 i == t1.f0 i) && (((List.range 12).all fun i => t0.f1 i == t1.f1 i) && true))) else false) then (((List.range 12).all fun i => r3.1.f0 i == r4.1.f0 i) && (((List.range 12).all fun i => r3.1.f1 i == r4.1.f1 i) && true)) else false)))], [some (.box (D.cons (D.ints .u64 12 t0.f0) (D.cons (D.ints .u64 12 t0.f1) D.nil))), some (.box (D.cons (D.ints .u64 12 t1.f0) (D.cons (D.ints .u64 12 t1.f1) D.nil))), some (.box (D.cons (D.ints .u64 12 r3.1.f0) (D.cons (D.ints .u64 12 r3.1.f1) D.nil))), some (.box (D.cons (D.ints .u64 12 r4.1.f0) (D.cons (D.ints .u64 12 r4.1.f1) D.nil)))])) rfl (by kernel_rfl) (And.intro (fc_cube_Compare fu t0 t1 cr0) (And.intro (And.intro (And.intro trivial (And.intro trivial trivial)) (And.intro (And.intro trivial (And.intro trivial trivial)) trivial)) (And.intro (fc_cube_Compare fu t1 t0 cr1) (And.intro (And.intro (And.intro trivial (And.intro trivial trivial)) (And.intro (And.intro trivial (And.intro trivial trivial)) trivial)) (And.intro (fc_ref01_Compare fu t0 t1 cr2) (And.intro (And.intro (And.intro trivial (And.intro trivial trivial)) (And.intro (And.intro trivial (And.intro trivial trivial)) trivial)) (And.intro (fc_cube_Meet fu t0 t1 cr3) (And.intro (And.intro (And.intro trivial (And.intro trivial trivial)) (And.intro (And.intro trivial (And.intro trivial trivial)) trivial)) (And.intro (fc_cube_Meet fu t1 t0 cr4) (And.intro (And.intro (And.intro trivial (And.intro trivial trivial)) (And.intro (And.intro trivial (And.intro trivial trivial)) trivial)) (And.intro (fc_law02_answers fu cr5) (And.intro trivial (And.intro (fun _ => (And.intro (by first | exact fun h => h | exact fun h => (Bool.and_eq_true_iff.1 h).1 | simp_all) trivial)) (And.intro (fun _ => (And.intro (by first | exact fun h => h | exact fun h => (Bool.and_eq_true_iff.1 h).1 | simp_all) trivial)) (And.intro (fun _ => (And.intro (by first | exact fun h => h | exact fun h => (Bool.and_eq_true_iff.1 h).1 | simp_all) (And.intro (by first | exact fun h => h | exact fun h => (Bool.and_eq_true_iff.1 h).1 | simp_all) trivial))) (And.intro (by first | exact fun h => h | exact fun h => (Bool.and_eq_true_iff.1 h).1 | simp_all) (And.intro (fun _ => (And.intro (by first | exact fun h => h | exact fun h => (Bool.and_eq_true_iff.1 h).1 | simp_all) trivial)) (And.intro (fun _ => (And.intro (by first | exact fun h => h | exact fun h => (Bool.and_eq_true_iff.1 h).1 | simp_all) trivial)) (And.intro (fun _ => (And.intro (by first | exact fun h => h | exact fun h => (Bool.and_eq_true_iff.1 h).1 | simp_all) (And.intro (by first | exact fun h => h | exact fun h => (Bool.and_eq_true_iff.1 h).1 | simp_all) trivial))) (And.intro (by first | exact fun h => h | exact fun h => (Bool.and_eq_true_iff.1 h).1 | simp_all) (And.intro (fun _ => (And.intro (by first | exact fun h => h | exact fun h => (Bool.and_eq_true_iff.1 h).1 | simp_all) trivial)) (And.intro (fun _ => (And.intro (by first | exact fun h => h | exact fun h => (Bool.and_eq_true_iff.1 h).1 | simp_all) trivial)) (And.intro (fun _ => (And.intro (by first | exact fun h => h | exact fun h => (Bool.and_eq_true_iff.1 h).1 | simp_all) (And.intro (by first | exact fun h => h | exact fun h => (Bool.and_eq_true_iff.1 h).1 | simp_all) trivial))) (And.intro (by first | exact fun h => h | exact fun h => (Bool.and_eq_true_iff.1 h).1 | simp_all) (And.intro (fun _ => (And.intro (by first | exact fun h => h | exact fun h => (Bool.and_eq_true_iff.1 h).1 | simp_all) trivial)) (And.intro (fun _ => (And.intro (by first | exact fun h => h | exact fun h => (Bool.and_eq_true_iff.1 h).1 | simp_all) (And.intro (by first | exact fun h => h | exact fun h => (Bool.and_eq_true_iff.1 h).1 | simp_all) trivial))) (And.intro (fun _ => (And.intro (by first | exact fun h => h | exact fun h => (Bool.and_eq_true_iff.1 h).1 | simp_all) (And.intro (by first | exact fun h => h | exact fun h => (Bool.and_eq_true_iff.1 h).1 | simp_all) trivial))) (And.intro (by first | exact fun h => h | exact fun h => (Bool.and_eq_true_iff.1 h).1 | simp_all) (And.intro (fun _ => (And.intro (by first | exact fun h => h | exact fun h => (Bool.and_eq_true_iff.1 h).1 | simp_all) (And.intro (by first | exact fun h => h | exact fun h => (Bool.and_eq_true_iff.1 h).1 | simp_all) trivial))) (And.intro (by first | exact fun h => h | exact fun h => (Bool.and_eq_true_iff.1 h).1 | simp_all) trivial)))))))))))))))))))))))))))))) ?_
  rw [← Option.some.inj h] at hk
  obtain rfl : d = (D.bool (bif (bif (bif (bif (bif r5 then ((decide (r0 < (0 : Int))) == (decide (r2 < (0 : Int)))) else false) then ((decide (r0 > (0 : Int))) == (decide (r2 > (0 : Int)))) else false) then ((decide (r0 < (0 : Int))) == (decide (r1 > (0 : Int)))) else false) then ((r0 == (0 : Int)) == (((List.range 12).all fun i => t0.f0 i == t1.f0 i) && (((List.range 12).all fun i => t0.f1 i == t1.f1 i) && true))) else false) then (((List.range 12).all fun i => r3.1.f0 i == r4.1.f0 i) && (((List.range 12).all fun i => r3.1.f1 i == r4.1.f1 i) && true)) else false)) := hk
  exact runs_ret (by kernel_rfl) trivial (Nat.le_refl 0) trivial trivial

theorem fc_law02_CubeOrder (fu : Nat) (t0 : S_api_Cube) (t1 : S_api_Cube) {r : Bool} (h : F_law02_CubeOrder fu t0 t1 = some r) : FC Try.prog 14 [(D.cons (D.ints .u64 12 t0.f0) (D.cons (D.ints .u64 12 t0.f1) D.nil)), (D.cons (D.ints .u64 12 t1.f0) (D.cons (D.ints .u64 12 t1.f1) D.nil))] [] (D.bool r) [] := by
  refine fc_of_runs (fn := Try.f14) (c := Try.f14.body.getD .skip) (by kernel_rfl) (by kernel_rfl) ?_
  refine runs_to (ts := [0, 1]) (T' := T_law02_CubeOrder) (env' := [(0, (D.cons (D.ints .u64 12 t0.f0) (D.cons (D.ints .u64 12 t0.f1) D.nil))), (1, (D.cons (D.ints .u64 12 t1.f0) (D.cons (D.ints .u64 12 t1.f1) D.nil)))]) (h2 := []) (by kernel_rfl) (by kernel_rfl) trivial (Nat.le_refl 0) trivial (And.intro (And.intro trivial (And.intro trivial trivial)) (And.intro (And.intro trivial (And.intro trivial trivial)) trivial)) ?_
  exact run_law02_CubeOrder fu t0 t1 h rfl

end Go.Proofs.Ytfhimlhpjbjfgaa
