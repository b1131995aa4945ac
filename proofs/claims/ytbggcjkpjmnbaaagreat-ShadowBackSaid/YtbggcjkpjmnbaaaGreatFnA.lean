/- What the functions compute, each proved to do so (printed by pgen.py). -/
import Derived.Test.YtbggcjkpjmnbaaaGreatProg
import Derived.Test.YtbggcjkpjmnbaaaGreatPodK
namespace Go.Proofs.YtbggcjkpjmnbaaaGreat
open Go Go.Pod Go.Proofs

structure S_api_Cube where
  f0 : (Nat → Int)
  f1 : (Nat → Int)

def S_api_Cube.d (x : S_api_Cube) : D := (D.cons (D.ints .u64 12 x.f0) (D.cons (D.ints .u64 12 x.f1) D.nil))
abbrev S_api_Cube.L (n : Nat) (g : Nat → S_api_Cube) : D := .lit n 24 fun i => S_api_Cube.d (g i)
abbrev S_api_Cube.A (n : Nat) (g : Nat → S_api_Cube) : D := .arr n 24 fun i => S_api_Cube.d (g i)
abbrev S_api_Cube.Q (e : TypeId) (n : Nat) (g : Nat → S_api_Cube) : Row := .seq e n 24 (S_api_Cube.A n g)
theorem S_api_Cube.inn {S : Nat → Prop} (x : S_api_Cube) : (S_api_Cube.d x).In S := by
  unfold S_api_Cube.d
  exact (And.intro trivial (And.intro trivial trivial))
theorem S_api_Cube.rnk {r0 r1 : Nat} (x : S_api_Cube) : rnOk r0 r1 (S_api_Cube.d x) := by
  unfold S_api_Cube.d
  exact (And.intro trivial (And.intro trivial trivial))
theorem S_api_Cube.tgt (x : S_api_Cube) : (S_api_Cube.d x).Tight := by
  unfold S_api_Cube.d
  exact (And.intro trivial (And.intro trivial trivial))
abbrev S_api_Cube.z : S_api_Cube := (S_api_Cube.mk (fun _ => 0) (fun _ => 0))

def S_api_Cube.wf (x : S_api_Cube) : Prop := (∀ i, i < 12 → (Lit.int .u64 (x.f0 i)).wf = true) ∧ (∀ i, i < 12 → (Lit.int .u64 (x.f1 i)).wf = true) ∧ True

structure S_api_Act where
  f0 : Int
  f1 : Int
  f2 : Int
  f3 : Int

def S_api_Act.d (x : S_api_Act) : D := (D.cons (D.int .i64 x.f0) (D.cons (D.int .i64 x.f1) (D.cons (D.int .i64 x.f2) (D.cons (D.int .u64 x.f3) D.nil))))
abbrev S_api_Act.L (n : Nat) (g : Nat → S_api_Act) : D := .lit n 4 fun i => S_api_Act.d (g i)
abbrev S_api_Act.A (n : Nat) (g : Nat → S_api_Act) : D := .arr n 4 fun i => S_api_Act.d (g i)
abbrev S_api_Act.Q (e : TypeId) (n : Nat) (g : Nat → S_api_Act) : Row := .seq e n 4 (S_api_Act.A n g)
theorem S_api_Act.inn {S : Nat → Prop} (x : S_api_Act) : (S_api_Act.d x).In S := by
  unfold S_api_Act.d
  exact (And.intro trivial (And.intro trivial (And.intro trivial (And.intro trivial trivial))))
theorem S_api_Act.rnk {r0 r1 : Nat} (x : S_api_Act) : rnOk r0 r1 (S_api_Act.d x) := by
  unfold S_api_Act.d
  exact (And.intro trivial (And.intro trivial (And.intro trivial (And.intro trivial trivial))))
theorem S_api_Act.tgt (x : S_api_Act) : (S_api_Act.d x).Tight := by
  unfold S_api_Act.d
  exact (And.intro trivial (And.intro trivial (And.intro trivial (And.intro trivial trivial))))
abbrev S_api_Act.z : S_api_Act := (S_api_Act.mk (0 : Int) (0 : Int) (0 : Int) (0 : Int))

def S_api_Act.wf (x : S_api_Act) : Prop := (Lit.int .i64 x.f0).wf = true ∧ (Lit.int .i64 x.f1).wf = true ∧ (Lit.int .i64 x.f2).wf = true ∧ (Lit.int .u64 x.f3).wf = true ∧ True

structure S_api_Rule where
  f0 : S_api_Cube
  f1 : Int
  f2 : (Nat × (Nat → S_api_Act))
  f3 : Int
  f4 : Int
  f5 : Int
  f6 : Int
  f7 : Int
  f8 : Int

def S_api_Rule.d (x : S_api_Rule) : D := (D.cons (S_api_Cube.d x.f0) (D.cons (D.int .i64 x.f1) (D.cons (S_api_Act.L x.f2.1 x.f2.2) (D.cons (D.int .i64 x.f3) (D.cons (D.int .i64 x.f4) (D.cons (D.int .i64 x.f5) (D.cons (D.int .i64 x.f6) (D.cons (D.int .i64 x.f7) (D.cons (D.int .i64 x.f8) D.nil)))))))))
abbrev S_api_Rule.L (n : Nat) (g : Nat → S_api_Rule) : D := .lit n 32 fun i => S_api_Rule.d (g i)
abbrev S_api_Rule.A (n : Nat) (g : Nat → S_api_Rule) : D := .arr n 32 fun i => S_api_Rule.d (g i)
abbrev S_api_Rule.Q (e : TypeId) (n : Nat) (g : Nat → S_api_Rule) : Row := .seq e n 32 (S_api_Rule.A n g)
theorem S_api_Rule.inn {S : Nat → Prop} (x : S_api_Rule) : (S_api_Rule.d x).In S := by
  unfold S_api_Rule.d
  exact (And.intro (S_api_Cube.inn _) (And.intro trivial (And.intro (fun _ _ => (S_api_Act.inn _)) (And.intro trivial (And.intro trivial (And.intro trivial (And.intro trivial (And.intro trivial (And.intro trivial trivial)))))))))
theorem S_api_Rule.rnk {r0 r1 : Nat} (x : S_api_Rule) : rnOk r0 r1 (S_api_Rule.d x) := by
  unfold S_api_Rule.d
  exact (And.intro (S_api_Cube.rnk _) (And.intro trivial (And.intro (fun _ _ => (S_api_Act.inn _)) (And.intro trivial (And.intro trivial (And.intro trivial (And.intro trivial (And.intro trivial (And.intro trivial trivial)))))))))
abbrev S_api_Rule.z : S_api_Rule := (S_api_Rule.mk S_api_Cube.z (0 : Int) (0, fun _ => S_api_Act.z) (0 : Int) (0 : Int) (0 : Int) (0 : Int) (0 : Int) (0 : Int))

def S_api_Rule.wf (x : S_api_Rule) : Prop := S_api_Cube.wf x.f0 ∧ (Lit.int .i64 x.f1).wf = true ∧ (x.f2.1 ≤ maxLen ∧ x.f2.1 * 32 ≤ reachBytes ∧ ∀ i, i < x.f2.1 → S_api_Act.wf (x.f2.2 i)) ∧ (Lit.int .i64 x.f3).wf = true ∧ (Lit.int .i64 x.f4).wf = true ∧ (Lit.int .i64 x.f5).wf = true ∧ (Lit.int .i64 x.f6).wf = true ∧ (Lit.int .i64 x.f7).wf = true ∧ (Lit.int .i64 x.f8).wf = true ∧ True

def K_slices_Delete_api_Rule (d : D) (hp : Heap) (r : (Nat × (Nat → S_api_Rule))) : Prop := d = (D.own 1) ∧ hp = [none, some (S_api_Rule.Q 52 r.1 r.2)]

noncomputable def T_slices_Delete_api_Rule : List Item := norm 200 [.code (Tryz.f33.body.getD .skip)]

/-- slices.Delete[[]podesta/api.Rule,podesta/api.Rule] -/
def F_slices_Delete_api_Rule (t0 : (Nat × (Nat → S_api_Rule))) (t1 : Int) (t2 : Int) : Option (Nat × (Nat → S_api_Rule)) :=
  chk (0 ≤ t1 ∧ t1 ≤ t2 ∧ t2 ≤ ((t0.1 : Nat) : Int) ∧ ((t0.1 : Nat) : Int) ≤ ((t0.1 : Nat) : Int)) <|
  ifs (t1 == t2) (
    some t0) (
    chk (0 ≤ (0 : Int) ∧ (0 : Int) ≤ t1 ∧ t1 ≤ ((t0.1 : Nat) : Int)) <|
    chk (0 ≤ t2 ∧ t2 ≤ ((t0.1 : Nat) : Int) ∧ ((t0.1 : Nat) : Int) ≤ ((t0.1 : Nat) : Int)) <|
    chk (((t1).toNat - ((0 : Int)).toNat) + ((((t0.1 : Nat) : Int)).toNat - (t2).toNat) ≤ t0.1 ∧ (t2).toNat + ((((t0.1 : Nat) : Int)).toNat - (t2).toNat) ≤ t0.1) <|
    chk (0 ≤ (((((t1).toNat - ((0 : Int)).toNat) + ((((t0.1 : Nat) : Int)).toNat - (t2).toNat)) : Nat) : Int) ∧ (((((t1).toNat - ((0 : Int)).toNat) + ((((t0.1 : Nat) : Int)).toNat - (t2).toNat)) : Nat) : Int) ≤ ((t0.1 : Nat) : Int) ∧ ((t0.1 : Nat) : Int) ≤ ((t0.1 : Nat) : Int)) <|
    chk (((((((t1).toNat - ((0 : Int)).toNat) + ((((t0.1 : Nat) : Int)).toNat - (t2).toNat)) : Nat) : Int)).toNat + ((((t0.1 : Nat) : Int)).toNat - ((((((t1).toNat - ((0 : Int)).toNat) + ((((t0.1 : Nat) : Int)).toNat - (t2).toNat)) : Nat) : Int)).toNat) ≤ t0.1) <|
    chk ((((t1).toNat - ((0 : Int)).toNat) + ((((t0.1 : Nat) : Int)).toNat - (t2).toNat)) ≤ t0.1) <|
    some ((((t1).toNat - ((0 : Int)).toNat) + ((((t0.1 : Nat) : Int)).toNat - (t2).toNat)), (fun i => if ((((((t1).toNat - ((0 : Int)).toNat) + ((((t0.1 : Nat) : Int)).toNat - (t2).toNat)) : Nat) : Int)).toNat ≤ i ∧ i < ((((((t1).toNat - ((0 : Int)).toNat) + ((((t0.1 : Nat) : Int)).toNat - (t2).toNat)) : Nat) : Int)).toNat + ((((t0.1 : Nat) : Int)).toNat - ((((((t1).toNat - ((0 : Int)).toNat) + ((((t0.1 : Nat) : Int)).toNat - (t2).toNat)) : Nat) : Int)).toNat) then S_api_Rule.z else (fun i => if ((t1).toNat - ((0 : Int)).toNat) ≤ i ∧ i < ((t1).toNat - ((0 : Int)).toNat) + ((((t0.1 : Nat) : Int)).toNat - (t2).toNat) then t0.2 ((t2).toNat + (i - ((t1).toNat - ((0 : Int)).toNat))) else t0.2 i) i)))

theorem run_slices_Delete_api_Rule (t0 : (Nat × (Nat → S_api_Rule))) (t1 : Int) (t2 : Int) {d : D} {hp : Heap} {r : (Nat × (Nat → S_api_Rule))} (h : F_slices_Delete_api_Rule t0 t1 t2 = some r) (hk : (K_slices_Delete_api_Rule d hp) r) : Runs Tryz.prog Tryz.f33 1 T_slices_Delete_api_Rule [(0, (D.own 0)), (1, (D.int .i64 t1)), (2, (D.int .i64 t2))] [some (S_api_Rule.Q 52 t0.1 t0.2)] d hp := by
  unfold F_slices_Delete_api_Rule at h
  obtain ⟨p0, h⟩ := chk_some h
  refine runs_regions 3 [([], [0, 1, 2]), ([], [0, 1, 2]), ([], [0, 1, 2, 16])] (z := ([(0 ≤ t1 ∧ t1 ≤ t2 ∧ t2 ≤ ((t0.1 : Nat) : Int) ∧ ((t0.1 : Nat) : Int) ≤ ((t0.1 : Nat) : Int))], [(0, (D.own 0)), (1, (D.int .i64 t1)), (2, (D.int .i64 t2)), (16, (D.bool (t1 == t2)))], [some (S_api_Rule.Q 52 t0.1 t0.2)])) rfl (by kernel_rfl) (And.intro p0 trivial) ?_
  refine runs_if (b := (t1 == t2)) (by kernel_rfl) (fun hb => ?_) (fun hb => ?_)
  · replace h := ifs_true h hb
    refine runs_regions 1 [([], [6])] (z := ([], [(6, (D.own 0))], [some (S_api_Rule.Q 52 t0.1 t0.2)])) rfl (by kernel_rfl) trivial ?_
    rw [← Option.some.inj h] at hk
    obtain ⟨rfl, rfl⟩ : d = (D.own 1) ∧ hp = [none, some (S_api_Rule.Q 52 t0.1 t0.2)] := hk
    refine runs_keep (ts := [6]) (env' := [(6, (D.own 0))]) (h2 := [some (S_api_Rule.Q 52 t0.1 t0.2)]) (by kernel_rfl) (And.intro (.inr rfl) trivial) (Nat.le_of_ble_eq_true rfl) (And.intro (fun _ _ => (S_api_Rule.inn _)) trivial) (And.intro (bel_of rfl) trivial) ?_
    refine runs_pad ?_
    refine runs_rename 1 0 (row := (S_api_Rule.Q 52 t0.1 t0.2)) (by decide) (by decide) rfl rfl (And.intro (fun _ _ => (S_api_Rule.inn _)) trivial) (And.intro (rn_own rfl) trivial) ?_
    refine runs_eq (env2 := [(6, (D.own 1))]) (h2 := [none, some (S_api_Rule.Q 52 t0.1 t0.2)]) (by kernel_rfl) (by kernel_rfl) ?_
    exact runs_ret (h2 := [none, some (S_api_Rule.Q 52 t0.1 t0.2)]) (by kernel_rfl) (And.intro (.inl rfl) (And.intro (.inr rfl) trivial)) (Nat.le_of_ble_eq_true rfl) (And.intro (fun _ _ => (S_api_Rule.inn _)) trivial) (bel_of rfl)
  · replace h := ifs_false h hb
    obtain ⟨p1, h⟩ := chk_some h
    obtain ⟨p2, h⟩ := chk_some h
    obtain ⟨p3, h⟩ := chk_some h
    obtain ⟨p4, h⟩ := chk_some h
    obtain ⟨p5, h⟩ := chk_some h
    refine runs_regions 4 [([], [0, 1, 2, 7]), ([(.d (S_api_Rule.A t0.1 (fun i => if ((t1).toNat - ((0 : Int)).toNat) ≤ i ∧ i < ((t1).toNat - ((0 : Int)).toNat) + ((((t0.1 : Nat) : Int)).toNat - (t2).toNat) then t0.2 ((t2).toNat + (i - ((t1).toNat - ((0 : Int)).toNat))) else t0.2 i)))], [0, 7]), ([(.d (S_api_Rule.A t0.1 (fun i => if ((((((t1).toNat - ((0 : Int)).toNat) + ((((t0.1 : Nat) : Int)).toNat - (t2).toNat)) : Nat) : Int)).toNat ≤ i ∧ i < ((((((t1).toNat - ((0 : Int)).toNat) + ((((t0.1 : Nat) : Int)).toNat - (t2).toNat)) : Nat) : Int)).toNat + ((((t0.1 : Nat) : Int)).toNat - ((((((t1).toNat - ((0 : Int)).toNat) + ((((t0.1 : Nat) : Int)).toNat - (t2).toNat)) : Nat) : Int)).toNat) then S_api_Rule.z else (fun i => if ((t1).toNat - ((0 : Int)).toNat) ≤ i ∧ i < ((t1).toNat - ((0 : Int)).toNat) + ((((t0.1 : Nat) : Int)).toNat - (t2).toNat) then t0.2 ((t2).toNat + (i - ((t1).toNat - ((0 : Int)).toNat))) else t0.2 i) i)))], [0]), ([], [6])] (z := ([(0 ≤ (0 : Int) ∧ (0 : Int) ≤ t1 ∧ t1 ≤ ((t0.1 : Nat) : Int)), (0 ≤ t2 ∧ t2 ≤ ((t0.1 : Nat) : Int) ∧ ((t0.1 : Nat) : Int) ≤ ((t0.1 : Nat) : Int)), (((t1).toNat - ((0 : Int)).toNat) + ((((t0.1 : Nat) : Int)).toNat - (t2).toNat) ≤ t0.1 ∧ (t2).toNat + ((((t0.1 : Nat) : Int)).toNat - (t2).toNat) ≤ t0.1), MoveOk t0.1 ((t1).toNat - ((0 : Int)).toNat) (t2).toNat ((((t0.1 : Nat) : Int)).toNat - (t2).toNat) 32 (S_api_Rule.A t0.1 t0.2) (S_api_Rule.A t0.1 (fun i => if ((t1).toNat - ((0 : Int)).toNat) ≤ i ∧ i < ((t1).toNat - ((0 : Int)).toNat) + ((((t0.1 : Nat) : Int)).toNat - (t2).toNat) then t0.2 ((t2).toNat + (i - ((t1).toNat - ((0 : Int)).toNat))) else t0.2 i)), (0 ≤ (((((t1).toNat - ((0 : Int)).toNat) + ((((t0.1 : Nat) : Int)).toNat - (t2).toNat)) : Nat) : Int) ∧ (((((t1).toNat - ((0 : Int)).toNat) + ((((t0.1 : Nat) : Int)).toNat - (t2).toNat)) : Nat) : Int) ≤ ((t0.1 : Nat) : Int) ∧ ((t0.1 : Nat) : Int) ≤ ((t0.1 : Nat) : Int)), (((((((t1).toNat - ((0 : Int)).toNat) + ((((t0.1 : Nat) : Int)).toNat - (t2).toNat)) : Nat) : Int)).toNat + ((((t0.1 : Nat) : Int)).toNat - ((((((t1).toNat - ((0 : Int)).toNat) + ((((t0.1 : Nat) : Int)).toNat - (t2).toNat)) : Nat) : Int)).toNat) ≤ t0.1), ClearOk t0.1 ((((((t1).toNat - ((0 : Int)).toNat) + ((((t0.1 : Nat) : Int)).toNat - (t2).toNat)) : Nat) : Int)).toNat ((((t0.1 : Nat) : Int)).toNat - ((((((t1).toNat - ((0 : Int)).toNat) + ((((t0.1 : Nat) : Int)).toNat - (t2).toNat)) : Nat) : Int)).toNat) 32 (D.cons (D.cons (D.ints .u64 12 (fun _ => 0)) (D.cons (D.ints .u64 12 (fun _ => 0)) D.nil)) (D.cons (D.int .i64 (0 : Int)) (D.cons D.nils (D.cons (D.int .i64 (0 : Int)) (D.cons (D.int .i64 (0 : Int)) (D.cons (D.int .i64 (0 : Int)) (D.cons (D.int .i64 (0 : Int)) (D.cons (D.int .i64 (0 : Int)) (D.cons (D.int .i64 (0 : Int)) D.nil))))))))) (S_api_Rule.A t0.1 (fun i => if ((t1).toNat - ((0 : Int)).toNat) ≤ i ∧ i < ((t1).toNat - ((0 : Int)).toNat) + ((((t0.1 : Nat) : Int)).toNat - (t2).toNat) then t0.2 ((t2).toNat + (i - ((t1).toNat - ((0 : Int)).toNat))) else t0.2 i)) (S_api_Rule.A t0.1 (fun i => if ((((((t1).toNat - ((0 : Int)).toNat) + ((((t0.1 : Nat) : Int)).toNat - (t2).toNat)) : Nat) : Int)).toNat ≤ i ∧ i < ((((((t1).toNat - ((0 : Int)).toNat) + ((((t0.1 : Nat) : Int)).toNat - (t2).toNat)) : Nat) : Int)).toNat + ((((t0.1 : Nat) : Int)).toNat - ((((((t1).toNat - ((0 : Int)).toNat) + ((((t0.1 : Nat) : Int)).toNat - (t2).toNat)) : Nat) : Int)).toNat) then S_api_Rule.z else (fun i => if ((t1).toNat - ((0 : Int)).toNat) ≤ i ∧ i < ((t1).toNat - ((0 : Int)).toNat) + ((((t0.1 : Nat) : Int)).toNat - (t2).toNat) then t0.2 ((t2).toNat + (i - ((t1).toNat - ((0 : Int)).toNat))) else t0.2 i) i))], [(6, (D.view 0 ((0 : Int)).toNat (((t1).toNat - ((0 : Int)).toNat) + ((((t0.1 : Nat) : Int)).toNat - (t2).toNat)) 32))], [some (S_api_Rule.Q 52 t0.1 (fun i => if ((((((t1).toNat - ((0 : Int)).toNat) + ((((t0.1 : Nat) : Int)).toNat - (t2).toNat)) : Nat) : Int)).toNat ≤ i ∧ i < ((((((t1).toNat - ((0 : Int)).toNat) + ((((t0.1 : Nat) : Int)).toNat - (t2).toNat)) : Nat) : Int)).toNat + ((((t0.1 : Nat) : Int)).toNat - ((((((t1).toNat - ((0 : Int)).toNat) + ((((t0.1 : Nat) : Int)).toNat - (t2).toNat)) : Nat) : Int)).toNat) then S_api_Rule.z else (fun i => if ((t1).toNat - ((0 : Int)).toNat) ≤ i ∧ i < ((t1).toNat - ((0 : Int)).toNat) + ((((t0.1 : Nat) : Int)).toNat - (t2).toNat) then t0.2 ((t2).toNat + (i - ((t1).toNat - ((0 : Int)).toNat))) else t0.2 i) i))])) rfl (by kernel_rfl) (And.intro p1 (And.intro p2 (And.intro p3 (And.intro (moveOk_arr fun i => (d_ite (f := fun x : S_api_Rule => (S_api_Rule.d x)) rfl rfl).symm) (And.intro p4 (And.intro p5 (And.intro (clearOk_sub rfl (dsub_cons dsub_refl (dsub_cons dsub_refl (dsub_cons dsub_nils dsub_refl))) fun i => (d_ite (f := fun x : S_api_Rule => (S_api_Rule.d x)) rfl rfl).symm) trivial))))))) ?_
    obtain ⟨p6, h⟩ := chk_some h
    rw [← Option.some.inj h] at hk
    obtain ⟨rfl, rfl⟩ : d = (D.own 1) ∧ hp = [none, some (S_api_Rule.Q 52 (((t1).toNat - ((0 : Int)).toNat) + ((((t0.1 : Nat) : Int)).toNat - (t2).toNat)) (fun i => if ((((((t1).toNat - ((0 : Int)).toNat) + ((((t0.1 : Nat) : Int)).toNat - (t2).toNat)) : Nat) : Int)).toNat ≤ i ∧ i < ((((((t1).toNat - ((0 : Int)).toNat) + ((((t0.1 : Nat) : Int)).toNat - (t2).toNat)) : Nat) : Int)).toNat + ((((t0.1 : Nat) : Int)).toNat - ((((((t1).toNat - ((0 : Int)).toNat) + ((((t0.1 : Nat) : Int)).toNat - (t2).toNat)) : Nat) : Int)).toNat) then S_api_Rule.z else (fun i => if ((t1).toNat - ((0 : Int)).toNat) ≤ i ∧ i < ((t1).toNat - ((0 : Int)).toNat) + ((((t0.1 : Nat) : Int)).toNat - (t2).toNat) then t0.2 ((t2).toNat + (i - ((t1).toNat - ((0 : Int)).toNat))) else t0.2 i) i))] := hk
    refine runs_keep (ts := [6]) (env' := [(6, (D.view 0 ((0 : Int)).toNat (((t1).toNat - ((0 : Int)).toNat) + ((((t0.1 : Nat) : Int)).toNat - (t2).toNat)) 32))]) (h2 := [some (S_api_Rule.Q 52 t0.1 (fun i => if ((((((t1).toNat - ((0 : Int)).toNat) + ((((t0.1 : Nat) : Int)).toNat - (t2).toNat)) : Nat) : Int)).toNat ≤ i ∧ i < ((((((t1).toNat - ((0 : Int)).toNat) + ((((t0.1 : Nat) : Int)).toNat - (t2).toNat)) : Nat) : Int)).toNat + ((((t0.1 : Nat) : Int)).toNat - ((((((t1).toNat - ((0 : Int)).toNat) + ((((t0.1 : Nat) : Int)).toNat - (t2).toNat)) : Nat) : Int)).toNat) then S_api_Rule.z else (fun i => if ((t1).toNat - ((0 : Int)).toNat) ≤ i ∧ i < ((t1).toNat - ((0 : Int)).toNat) + ((((t0.1 : Nat) : Int)).toNat - (t2).toNat) then t0.2 ((t2).toNat + (i - ((t1).toNat - ((0 : Int)).toNat))) else t0.2 i) i))]) (by kernel_rfl) (And.intro (.inr rfl) trivial) (Nat.le_of_ble_eq_true rfl) (And.intro (fun _ _ => (S_api_Rule.inn _)) trivial) (And.intro (bel_of rfl) trivial) ?_
    refine runs_trunc 6 0 (el := 52) (n := t0.1) (m := (((t1).toNat - ((0 : Int)).toNat) + ((((t0.1 : Nat) : Int)).toNat - (t2).toNat))) (sz := 32) (d := (S_api_Rule.A t0.1 (fun i => if ((((((t1).toNat - ((0 : Int)).toNat) + ((((t0.1 : Nat) : Int)).toNat - (t2).toNat)) : Nat) : Int)).toNat ≤ i ∧ i < ((((((t1).toNat - ((0 : Int)).toNat) + ((((t0.1 : Nat) : Int)).toNat - (t2).toNat)) : Nat) : Int)).toNat + ((((t0.1 : Nat) : Int)).toNat - ((((((t1).toNat - ((0 : Int)).toNat) + ((((t0.1 : Nat) : Int)).toNat - (t2).toNat)) : Nat) : Int)).toNat) then S_api_Rule.z else (fun i => if ((t1).toNat - ((0 : Int)).toNat) ≤ i ∧ i < ((t1).toNat - ((0 : Int)).toNat) + ((((t0.1 : Nat) : Int)).toNat - (t2).toNat) then t0.2 ((t2).toNat + (i - ((t1).toNat - ((0 : Int)).toNat))) else t0.2 i) i))) (d' := (S_api_Rule.A (((t1).toNat - ((0 : Int)).toNat) + ((((t0.1 : Nat) : Int)).toNat - (t2).toNat)) (fun i => if ((((((t1).toNat - ((0 : Int)).toNat) + ((((t0.1 : Nat) : Int)).toNat - (t2).toNat)) : Nat) : Int)).toNat ≤ i ∧ i < ((((((t1).toNat - ((0 : Int)).toNat) + ((((t0.1 : Nat) : Int)).toNat - (t2).toNat)) : Nat) : Int)).toNat + ((((t0.1 : Nat) : Int)).toNat - ((((((t1).toNat - ((0 : Int)).toNat) + ((((t0.1 : Nat) : Int)).toNat - (t2).toNat)) : Nat) : Int)).toNat) then S_api_Rule.z else (fun i => if ((t1).toNat - ((0 : Int)).toNat) ≤ i ∧ i < ((t1).toNat - ((0 : Int)).toNat) + ((((t0.1 : Nat) : Int)).toNat - (t2).toNat) then t0.2 ((t2).toNat + (i - ((t1).toNat - ((0 : Int)).toNat))) else t0.2 i) i))) (by kernel_rfl) rfl p6 (truncOk_arr p6) ?_
    exact runs_ret (h2 := [none, some (S_api_Rule.Q 52 (((t1).toNat - ((0 : Int)).toNat) + ((((t0.1 : Nat) : Int)).toNat - (t2).toNat)) (fun i => if ((((((t1).toNat - ((0 : Int)).toNat) + ((((t0.1 : Nat) : Int)).toNat - (t2).toNat)) : Nat) : Int)).toNat ≤ i ∧ i < ((((((t1).toNat - ((0 : Int)).toNat) + ((((t0.1 : Nat) : Int)).toNat - (t2).toNat)) : Nat) : Int)).toNat + ((((t0.1 : Nat) : Int)).toNat - ((((((t1).toNat - ((0 : Int)).toNat) + ((((t0.1 : Nat) : Int)).toNat - (t2).toNat)) : Nat) : Int)).toNat) then S_api_Rule.z else (fun i => if ((t1).toNat - ((0 : Int)).toNat) ≤ i ∧ i < ((t1).toNat - ((0 : Int)).toNat) + ((((t0.1 : Nat) : Int)).toNat - (t2).toNat) then t0.2 ((t2).toNat + (i - ((t1).toNat - ((0 : Int)).toNat))) else t0.2 i) i))]) (by kernel_rfl) (And.intro (.inl rfl) (And.intro (.inr rfl) trivial)) (Nat.le_of_ble_eq_true rfl) (And.intro (fun _ _ => (S_api_Rule.inn _)) trivial) (bel_of rfl)

theorem fc_slices_Delete_api_Rule (t0 : (Nat × (Nat → S_api_Rule))) (t1 : Int) (t2 : Int) {r : (Nat × (Nat → S_api_Rule))} (h : F_slices_Delete_api_Rule t0 t1 t2 = some r) : FC Tryz.prog 33 [(D.own 0), (D.int .i64 t1), (D.int .i64 t2)] [some (S_api_Rule.Q 52 t0.1 t0.2)] (D.own 1) [none, some (S_api_Rule.Q 52 r.1 r.2)] := by
  refine fc_of_runs (fn := Tryz.f33) (c := Tryz.f33.body.getD .skip) (by kernel_rfl) (by kernel_rfl) ?_
  refine runs_to (ts := [0, 1, 2]) (T' := T_slices_Delete_api_Rule) (env' := [(0, (D.own 0)), (1, (D.int .i64 t1)), (2, (D.int .i64 t2))]) (h2 := [some (S_api_Rule.Q 52 t0.1 t0.2)]) (by kernel_rfl) (by kernel_rfl) (And.intro (.inr rfl) trivial) (Nat.le_refl _) (And.intro (fun _ _ => (S_api_Rule.inn _)) trivial) (And.intro (bel_of rfl) (And.intro trivial (And.intro trivial trivial))) ?_
  exact run_slices_Delete_api_Rule t0 t1 t2 h ⟨rfl, rfl⟩

structure S_api_Mod where
  f0 : Int
  f1 : S_api_Cube
  f2 : Int
  f3 : (Nat × (Nat → S_api_Act))
  f4 : Int
  f5 : Int
  f6 : Int
  f7 : Bool

def S_api_Mod.d (x : S_api_Mod) : D := (D.cons (D.int .i64 x.f0) (D.cons (S_api_Cube.d x.f1) (D.cons (D.int .i64 x.f2) (D.cons (S_api_Act.L x.f3.1 x.f3.2) (D.cons (D.int .i64 x.f4) (D.cons (D.int .i64 x.f5) (D.cons (D.int .i64 x.f6) (D.cons (D.bool x.f7) D.nil))))))))
abbrev S_api_Mod.L (n : Nat) (g : Nat → S_api_Mod) : D := .lit n 31 fun i => S_api_Mod.d (g i)
abbrev S_api_Mod.A (n : Nat) (g : Nat → S_api_Mod) : D := .arr n 31 fun i => S_api_Mod.d (g i)
abbrev S_api_Mod.Q (e : TypeId) (n : Nat) (g : Nat → S_api_Mod) : Row := .seq e n 31 (S_api_Mod.A n g)
theorem S_api_Mod.inn {S : Nat → Prop} (x : S_api_Mod) : (S_api_Mod.d x).In S := by
  unfold S_api_Mod.d
  exact (And.intro trivial (And.intro (S_api_Cube.inn _) (And.intro trivial (And.intro (fun _ _ => (S_api_Act.inn _)) (And.intro trivial (And.intro trivial (And.intro trivial (And.intro trivial trivial))))))))
theorem S_api_Mod.rnk {r0 r1 : Nat} (x : S_api_Mod) : rnOk r0 r1 (S_api_Mod.d x) := by
  unfold S_api_Mod.d
  exact (And.intro trivial (And.intro (S_api_Cube.rnk _) (And.intro trivial (And.intro (fun _ _ => (S_api_Act.inn _)) (And.intro trivial (And.intro trivial (And.intro trivial (And.intro trivial trivial))))))))
abbrev S_api_Mod.z : S_api_Mod := (S_api_Mod.mk (0 : Int) S_api_Cube.z (0 : Int) (0, fun _ => S_api_Act.z) (0 : Int) (0 : Int) (0 : Int) false)

def S_api_Mod.wf (x : S_api_Mod) : Prop := (Lit.int .i64 x.f0).wf = true ∧ S_api_Cube.wf x.f1 ∧ (Lit.int .i64 x.f2).wf = true ∧ (x.f3.1 ≤ maxLen ∧ x.f3.1 * 32 ≤ reachBytes ∧ ∀ i, i < x.f3.1 → S_api_Act.wf (x.f3.2 i)) ∧ (Lit.int .i64 x.f4).wf = true ∧ (Lit.int .i64 x.f5).wf = true ∧ (Lit.int .i64 x.f6).wf = true ∧ True ∧ True

structure S_api_Change where
  f0 : Int
  f1 : S_api_Mod

def S_api_Change.d (x : S_api_Change) : D := (D.cons (D.int .i64 x.f0) (D.cons (S_api_Mod.d x.f1) D.nil))
abbrev S_api_Change.L (n : Nat) (g : Nat → S_api_Change) : D := .lit n 32 fun i => S_api_Change.d (g i)
abbrev S_api_Change.A (n : Nat) (g : Nat → S_api_Change) : D := .arr n 32 fun i => S_api_Change.d (g i)
abbrev S_api_Change.Q (e : TypeId) (n : Nat) (g : Nat → S_api_Change) : Row := .seq e n 32 (S_api_Change.A n g)
theorem S_api_Change.inn {S : Nat → Prop} (x : S_api_Change) : (S_api_Change.d x).In S := by
  unfold S_api_Change.d
  exact (And.intro trivial (And.intro (S_api_Mod.inn _) trivial))
theorem S_api_Change.rnk {r0 r1 : Nat} (x : S_api_Change) : rnOk r0 r1 (S_api_Change.d x) := by
  unfold S_api_Change.d
  exact (And.intro trivial (And.intro (S_api_Mod.rnk _) trivial))
abbrev S_api_Change.z : S_api_Change := (S_api_Change.mk (0 : Int) S_api_Mod.z)

def S_api_Change.wf (x : S_api_Change) : Prop := (Lit.int .i64 x.f0).wf = true ∧ S_api_Mod.wf x.f1 ∧ True

structure S_shadow_open where
  f0 : Int
  f1 : (Nat × (Nat → S_api_Change))

def S_shadow_open.d (x : S_shadow_open) : D := (D.cons (D.int .i64 x.f0) (D.cons (S_api_Change.L x.f1.1 x.f1.2) D.nil))
abbrev S_shadow_open.L (n : Nat) (g : Nat → S_shadow_open) : D := .lit n 2 fun i => S_shadow_open.d (g i)
abbrev S_shadow_open.A (n : Nat) (g : Nat → S_shadow_open) : D := .arr n 2 fun i => S_shadow_open.d (g i)
abbrev S_shadow_open.Q (e : TypeId) (n : Nat) (g : Nat → S_shadow_open) : Row := .seq e n 2 (S_shadow_open.A n g)
theorem S_shadow_open.inn {S : Nat → Prop} (x : S_shadow_open) : (S_shadow_open.d x).In S := by
  unfold S_shadow_open.d
  exact (And.intro trivial (And.intro (fun _ _ => (S_api_Change.inn _)) trivial))
theorem S_shadow_open.rnk {r0 r1 : Nat} (x : S_shadow_open) : rnOk r0 r1 (S_shadow_open.d x) := by
  unfold S_shadow_open.d
  exact (And.intro trivial (And.intro (fun _ _ => (S_api_Change.inn _)) trivial))
abbrev S_shadow_open.z : S_shadow_open := (S_shadow_open.mk (0 : Int) (0, fun _ => S_api_Change.z))

def S_shadow_open.wf (x : S_shadow_open) : Prop := (Lit.int .i64 x.f0).wf = true ∧ (x.f1.1 ≤ maxLen ∧ x.f1.1 * 272 ≤ reachBytes ∧ ∀ i, i < x.f1.1 → S_api_Change.wf (x.f1.2 i)) ∧ True

def K_slices_Delete_shadow_open (d : D) (hp : Heap) (r : (Nat × (Nat → S_shadow_open))) : Prop := d = (D.own 1) ∧ hp = [none, some (S_shadow_open.Q 72 r.1 r.2)]

noncomputable def T_slices_Delete_shadow_open : List Item := norm 200 [.code (Tryz.f42.body.getD .skip)]

/-- slices.Delete[[]podesta/shadow.open,podesta/shadow.open] -/
def F_slices_Delete_shadow_open (t0 : (Nat × (Nat → S_shadow_open))) (t1 : Int) (t2 : Int) : Option (Nat × (Nat → S_shadow_open)) :=
  chk (0 ≤ t1 ∧ t1 ≤ t2 ∧ t2 ≤ ((t0.1 : Nat) : Int) ∧ ((t0.1 : Nat) : Int) ≤ ((t0.1 : Nat) : Int)) <|
  ifs (t1 == t2) (
    some t0) (
    chk (0 ≤ (0 : Int) ∧ (0 : Int) ≤ t1 ∧ t1 ≤ ((t0.1 : Nat) : Int)) <|
    chk (0 ≤ t2 ∧ t2 ≤ ((t0.1 : Nat) : Int) ∧ ((t0.1 : Nat) : Int) ≤ ((t0.1 : Nat) : Int)) <|
    chk (((t1).toNat - ((0 : Int)).toNat) + ((((t0.1 : Nat) : Int)).toNat - (t2).toNat) ≤ t0.1 ∧ (t2).toNat + ((((t0.1 : Nat) : Int)).toNat - (t2).toNat) ≤ t0.1) <|
    chk (0 ≤ (((((t1).toNat - ((0 : Int)).toNat) + ((((t0.1 : Nat) : Int)).toNat - (t2).toNat)) : Nat) : Int) ∧ (((((t1).toNat - ((0 : Int)).toNat) + ((((t0.1 : Nat) : Int)).toNat - (t2).toNat)) : Nat) : Int) ≤ ((t0.1 : Nat) : Int) ∧ ((t0.1 : Nat) : Int) ≤ ((t0.1 : Nat) : Int)) <|
    chk (((((((t1).toNat - ((0 : Int)).toNat) + ((((t0.1 : Nat) : Int)).toNat - (t2).toNat)) : Nat) : Int)).toNat + ((((t0.1 : Nat) : Int)).toNat - ((((((t1).toNat - ((0 : Int)).toNat) + ((((t0.1 : Nat) : Int)).toNat - (t2).toNat)) : Nat) : Int)).toNat) ≤ t0.1) <|
    chk ((((t1).toNat - ((0 : Int)).toNat) + ((((t0.1 : Nat) : Int)).toNat - (t2).toNat)) ≤ t0.1) <|
    some ((((t1).toNat - ((0 : Int)).toNat) + ((((t0.1 : Nat) : Int)).toNat - (t2).toNat)), (fun i => if ((((((t1).toNat - ((0 : Int)).toNat) + ((((t0.1 : Nat) : Int)).toNat - (t2).toNat)) : Nat) : Int)).toNat ≤ i ∧ i < ((((((t1).toNat - ((0 : Int)).toNat) + ((((t0.1 : Nat) : Int)).toNat - (t2).toNat)) : Nat) : Int)).toNat + ((((t0.1 : Nat) : Int)).toNat - ((((((t1).toNat - ((0 : Int)).toNat) + ((((t0.1 : Nat) : Int)).toNat - (t2).toNat)) : Nat) : Int)).toNat) then S_shadow_open.z else (fun i => if ((t1).toNat - ((0 : Int)).toNat) ≤ i ∧ i < ((t1).toNat - ((0 : Int)).toNat) + ((((t0.1 : Nat) : Int)).toNat - (t2).toNat) then t0.2 ((t2).toNat + (i - ((t1).toNat - ((0 : Int)).toNat))) else t0.2 i) i)))

theorem run_slices_Delete_shadow_open (t0 : (Nat × (Nat → S_shadow_open))) (t1 : Int) (t2 : Int) {d : D} {hp : Heap} {r : (Nat × (Nat → S_shadow_open))} (h : F_slices_Delete_shadow_open t0 t1 t2 = some r) (hk : (K_slices_Delete_shadow_open d hp) r) : Runs Tryz.prog Tryz.f42 1 T_slices_Delete_shadow_open [(0, (D.own 0)), (1, (D.int .i64 t1)), (2, (D.int .i64 t2))] [some (S_shadow_open.Q 72 t0.1 t0.2)] d hp := by
  unfold F_slices_Delete_shadow_open at h
  obtain ⟨p0, h⟩ := chk_some h
  refine runs_regions 3 [([], [0, 1, 2]), ([], [0, 1, 2]), ([], [0, 1, 2, 16])] (z := ([(0 ≤ t1 ∧ t1 ≤ t2 ∧ t2 ≤ ((t0.1 : Nat) : Int) ∧ ((t0.1 : Nat) : Int) ≤ ((t0.1 : Nat) : Int))], [(0, (D.own 0)), (1, (D.int .i64 t1)), (2, (D.int .i64 t2)), (16, (D.bool (t1 == t2)))], [some (S_shadow_open.Q 72 t0.1 t0.2)])) rfl (by kernel_rfl) (And.intro p0 trivial) ?_
  refine runs_if (b := (t1 == t2)) (by kernel_rfl) (fun hb => ?_) (fun hb => ?_)
  · replace h := ifs_true h hb
    refine runs_regions 1 [([], [6])] (z := ([], [(6, (D.own 0))], [some (S_shadow_open.Q 72 t0.1 t0.2)])) rfl (by kernel_rfl) trivial ?_
    rw [← Option.some.inj h] at hk
    obtain ⟨rfl, rfl⟩ : d = (D.own 1) ∧ hp = [none, some (S_shadow_open.Q 72 t0.1 t0.2)] := hk
    refine runs_keep (ts := [6]) (env' := [(6, (D.own 0))]) (h2 := [some (S_shadow_open.Q 72 t0.1 t0.2)]) (by kernel_rfl) (And.intro (.inr rfl) trivial) (Nat.le_of_ble_eq_true rfl) (And.intro (fun _ _ => (S_shadow_open.inn _)) trivial) (And.intro (bel_of rfl) trivial) ?_
    refine runs_pad ?_
    refine runs_rename 1 0 (row := (S_shadow_open.Q 72 t0.1 t0.2)) (by decide) (by decide) rfl rfl (And.intro (fun _ _ => (S_shadow_open.inn _)) trivial) (And.intro (rn_own rfl) trivial) ?_
    refine runs_eq (env2 := [(6, (D.own 1))]) (h2 := [none, some (S_shadow_open.Q 72 t0.1 t0.2)]) (by kernel_rfl) (by kernel_rfl) ?_
    exact runs_ret (h2 := [none, some (S_shadow_open.Q 72 t0.1 t0.2)]) (by kernel_rfl) (And.intro (.inl rfl) (And.intro (.inr rfl) trivial)) (Nat.le_of_ble_eq_true rfl) (And.intro (fun _ _ => (S_shadow_open.inn _)) trivial) (bel_of rfl)
  · replace h := ifs_false h hb
    obtain ⟨p1, h⟩ := chk_some h
    obtain ⟨p2, h⟩ := chk_some h
    obtain ⟨p3, h⟩ := chk_some h
    obtain ⟨p4, h⟩ := chk_some h
    obtain ⟨p5, h⟩ := chk_some h
    refine runs_regions 4 [([], [0, 1, 2, 7]), ([(.d (S_shadow_open.A t0.1 (fun i => if ((t1).toNat - ((0 : Int)).toNat) ≤ i ∧ i < ((t1).toNat - ((0 : Int)).toNat) + ((((t0.1 : Nat) : Int)).toNat - (t2).toNat) then t0.2 ((t2).toNat + (i - ((t1).toNat - ((0 : Int)).toNat))) else t0.2 i)))], [0, 7]), ([(.d (S_shadow_open.A t0.1 (fun i => if ((((((t1).toNat - ((0 : Int)).toNat) + ((((t0.1 : Nat) : Int)).toNat - (t2).toNat)) : Nat) : Int)).toNat ≤ i ∧ i < ((((((t1).toNat - ((0 : Int)).toNat) + ((((t0.1 : Nat) : Int)).toNat - (t2).toNat)) : Nat) : Int)).toNat + ((((t0.1 : Nat) : Int)).toNat - ((((((t1).toNat - ((0 : Int)).toNat) + ((((t0.1 : Nat) : Int)).toNat - (t2).toNat)) : Nat) : Int)).toNat) then S_shadow_open.z else (fun i => if ((t1).toNat - ((0 : Int)).toNat) ≤ i ∧ i < ((t1).toNat - ((0 : Int)).toNat) + ((((t0.1 : Nat) : Int)).toNat - (t2).toNat) then t0.2 ((t2).toNat + (i - ((t1).toNat - ((0 : Int)).toNat))) else t0.2 i) i)))], [0]), ([], [6])] (z := ([(0 ≤ (0 : Int) ∧ (0 : Int) ≤ t1 ∧ t1 ≤ ((t0.1 : Nat) : Int)), (0 ≤ t2 ∧ t2 ≤ ((t0.1 : Nat) : Int) ∧ ((t0.1 : Nat) : Int) ≤ ((t0.1 : Nat) : Int)), (((t1).toNat - ((0 : Int)).toNat) + ((((t0.1 : Nat) : Int)).toNat - (t2).toNat) ≤ t0.1 ∧ (t2).toNat + ((((t0.1 : Nat) : Int)).toNat - (t2).toNat) ≤ t0.1), MoveOk t0.1 ((t1).toNat - ((0 : Int)).toNat) (t2).toNat ((((t0.1 : Nat) : Int)).toNat - (t2).toNat) 2 (S_shadow_open.A t0.1 t0.2) (S_shadow_open.A t0.1 (fun i => if ((t1).toNat - ((0 : Int)).toNat) ≤ i ∧ i < ((t1).toNat - ((0 : Int)).toNat) + ((((t0.1 : Nat) : Int)).toNat - (t2).toNat) then t0.2 ((t2).toNat + (i - ((t1).toNat - ((0 : Int)).toNat))) else t0.2 i)), (0 ≤ (((((t1).toNat - ((0 : Int)).toNat) + ((((t0.1 : Nat) : Int)).toNat - (t2).toNat)) : Nat) : Int) ∧ (((((t1).toNat - ((0 : Int)).toNat) + ((((t0.1 : Nat) : Int)).toNat - (t2).toNat)) : Nat) : Int) ≤ ((t0.1 : Nat) : Int) ∧ ((t0.1 : Nat) : Int) ≤ ((t0.1 : Nat) : Int)), (((((((t1).toNat - ((0 : Int)).toNat) + ((((t0.1 : Nat) : Int)).toNat - (t2).toNat)) : Nat) : Int)).toNat + ((((t0.1 : Nat) : Int)).toNat - ((((((t1).toNat - ((0 : Int)).toNat) + ((((t0.1 : Nat) : Int)).toNat - (t2).toNat)) : Nat) : Int)).toNat) ≤ t0.1), ClearOk t0.1 ((((((t1).toNat - ((0 : Int)).toNat) + ((((t0.1 : Nat) : Int)).toNat - (t2).toNat)) : Nat) : Int)).toNat ((((t0.1 : Nat) : Int)).toNat - ((((((t1).toNat - ((0 : Int)).toNat) + ((((t0.1 : Nat) : Int)).toNat - (t2).toNat)) : Nat) : Int)).toNat) 2 (D.cons (D.int .i64 (0 : Int)) (D.cons D.nils D.nil)) (S_shadow_open.A t0.1 (fun i => if ((t1).toNat - ((0 : Int)).toNat) ≤ i ∧ i < ((t1).toNat - ((0 : Int)).toNat) + ((((t0.1 : Nat) : Int)).toNat - (t2).toNat) then t0.2 ((t2).toNat + (i - ((t1).toNat - ((0 : Int)).toNat))) else t0.2 i)) (S_shadow_open.A t0.1 (fun i => if ((((((t1).toNat - ((0 : Int)).toNat) + ((((t0.1 : Nat) : Int)).toNat - (t2).toNat)) : Nat) : Int)).toNat ≤ i ∧ i < ((((((t1).toNat - ((0 : Int)).toNat) + ((((t0.1 : Nat) : Int)).toNat - (t2).toNat)) : Nat) : Int)).toNat + ((((t0.1 : Nat) : Int)).toNat - ((((((t1).toNat - ((0 : Int)).toNat) + ((((t0.1 : Nat) : Int)).toNat - (t2).toNat)) : Nat) : Int)).toNat) then S_shadow_open.z else (fun i => if ((t1).toNat - ((0 : Int)).toNat) ≤ i ∧ i < ((t1).toNat - ((0 : Int)).toNat) + ((((t0.1 : Nat) : Int)).toNat - (t2).toNat) then t0.2 ((t2).toNat + (i - ((t1).toNat - ((0 : Int)).toNat))) else t0.2 i) i))], [(6, (D.view 0 ((0 : Int)).toNat (((t1).toNat - ((0 : Int)).toNat) + ((((t0.1 : Nat) : Int)).toNat - (t2).toNat)) 2))], [some (S_shadow_open.Q 72 t0.1 (fun i => if ((((((t1).toNat - ((0 : Int)).toNat) + ((((t0.1 : Nat) : Int)).toNat - (t2).toNat)) : Nat) : Int)).toNat ≤ i ∧ i < ((((((t1).toNat - ((0 : Int)).toNat) + ((((t0.1 : Nat) : Int)).toNat - (t2).toNat)) : Nat) : Int)).toNat + ((((t0.1 : Nat) : Int)).toNat - ((((((t1).toNat - ((0 : Int)).toNat) + ((((t0.1 : Nat) : Int)).toNat - (t2).toNat)) : Nat) : Int)).toNat) then S_shadow_open.z else (fun i => if ((t1).toNat - ((0 : Int)).toNat) ≤ i ∧ i < ((t1).toNat - ((0 : Int)).toNat) + ((((t0.1 : Nat) : Int)).toNat - (t2).toNat) then t0.2 ((t2).toNat + (i - ((t1).toNat - ((0 : Int)).toNat))) else t0.2 i) i))])) rfl (by kernel_rfl) (And.intro p1 (And.intro p2 (And.intro p3 (And.intro (moveOk_arr fun i => (d_ite (f := fun x : S_shadow_open => (S_shadow_open.d x)) rfl rfl).symm) (And.intro p4 (And.intro p5 (And.intro (clearOk_sub rfl (dsub_cons dsub_refl (dsub_cons dsub_nils dsub_refl)) fun i => (d_ite (f := fun x : S_shadow_open => (S_shadow_open.d x)) rfl rfl).symm) trivial))))))) ?_
    obtain ⟨p6, h⟩ := chk_some h
    rw [← Option.some.inj h] at hk
    obtain ⟨rfl, rfl⟩ : d = (D.own 1) ∧ hp = [none, some (S_shadow_open.Q 72 (((t1).toNat - ((0 : Int)).toNat) + ((((t0.1 : Nat) : Int)).toNat - (t2).toNat)) (fun i => if ((((((t1).toNat - ((0 : Int)).toNat) + ((((t0.1 : Nat) : Int)).toNat - (t2).toNat)) : Nat) : Int)).toNat ≤ i ∧ i < ((((((t1).toNat - ((0 : Int)).toNat) + ((((t0.1 : Nat) : Int)).toNat - (t2).toNat)) : Nat) : Int)).toNat + ((((t0.1 : Nat) : Int)).toNat - ((((((t1).toNat - ((0 : Int)).toNat) + ((((t0.1 : Nat) : Int)).toNat - (t2).toNat)) : Nat) : Int)).toNat) then S_shadow_open.z else (fun i => if ((t1).toNat - ((0 : Int)).toNat) ≤ i ∧ i < ((t1).toNat - ((0 : Int)).toNat) + ((((t0.1 : Nat) : Int)).toNat - (t2).toNat) then t0.2 ((t2).toNat + (i - ((t1).toNat - ((0 : Int)).toNat))) else t0.2 i) i))] := hk
    refine runs_keep (ts := [6]) (env' := [(6, (D.view 0 ((0 : Int)).toNat (((t1).toNat - ((0 : Int)).toNat) + ((((t0.1 : Nat) : Int)).toNat - (t2).toNat)) 2))]) (h2 := [some (S_shadow_open.Q 72 t0.1 (fun i => if ((((((t1).toNat - ((0 : Int)).toNat) + ((((t0.1 : Nat) : Int)).toNat - (t2).toNat)) : Nat) : Int)).toNat ≤ i ∧ i < ((((((t1).toNat - ((0 : Int)).toNat) + ((((t0.1 : Nat) : Int)).toNat - (t2).toNat)) : Nat) : Int)).toNat + ((((t0.1 : Nat) : Int)).toNat - ((((((t1).toNat - ((0 : Int)).toNat) + ((((t0.1 : Nat) : Int)).toNat - (t2).toNat)) : Nat) : Int)).toNat) then S_shadow_open.z else (fun i => if ((t1).toNat - ((0 : Int)).toNat) ≤ i ∧ i < ((t1).toNat - ((0 : Int)).toNat) + ((((t0.1 : Nat) : Int)).toNat - (t2).toNat) then t0.2 ((t2).toNat + (i - ((t1).toNat - ((0 : Int)).toNat))) else t0.2 i) i))]) (by kernel_rfl) (And.intro (.inr rfl) trivial) (Nat.le_of_ble_eq_true rfl) (And.intro (fun _ _ => (S_shadow_open.inn _)) trivial) (And.intro (bel_of rfl) trivial) ?_
    refine runs_trunc 6 0 (el := 72) (n := t0.1) (m := (((t1).toNat - ((0 : Int)).toNat) + ((((t0.1 : Nat) : Int)).toNat - (t2).toNat))) (sz := 2) (d := (S_shadow_open.A t0.1 (fun i => if ((((((t1).toNat - ((0 : Int)).toNat) + ((((t0.1 : Nat) : Int)).toNat - (t2).toNat)) : Nat) : Int)).toNat ≤ i ∧ i < ((((((t1).toNat - ((0 : Int)).toNat) + ((((t0.1 : Nat) : Int)).toNat - (t2).toNat)) : Nat) : Int)).toNat + ((((t0.1 : Nat) : Int)).toNat - ((((((t1).toNat - ((0 : Int)).toNat) + ((((t0.1 : Nat) : Int)).toNat - (t2).toNat)) : Nat) : Int)).toNat) then S_shadow_open.z else (fun i => if ((t1).toNat - ((0 : Int)).toNat) ≤ i ∧ i < ((t1).toNat - ((0 : Int)).toNat) + ((((t0.1 : Nat) : Int)).toNat - (t2).toNat) then t0.2 ((t2).toNat + (i - ((t1).toNat - ((0 : Int)).toNat))) else t0.2 i) i))) (d' := (S_shadow_open.A (((t1).toNat - ((0 : Int)).toNat) + ((((t0.1 : Nat) : Int)).toNat - (t2).toNat)) (fun i => if ((((((t1).toNat - ((0 : Int)).toNat) + ((((t0.1 : Nat) : Int)).toNat - (t2).toNat)) : Nat) : Int)).toNat ≤ i ∧ i < ((((((t1).toNat - ((0 : Int)).toNat) + ((((t0.1 : Nat) : Int)).toNat - (t2).toNat)) : Nat) : Int)).toNat + ((((t0.1 : Nat) : Int)).toNat - ((((((t1).toNat - ((0 : Int)).toNat) + ((((t0.1 : Nat) : Int)).toNat - (t2).toNat)) : Nat) : Int)).toNat) then S_shadow_open.z else (fun i => if ((t1).toNat - ((0 : Int)).toNat) ≤ i ∧ i < ((t1).toNat - ((0 : Int)).toNat) + ((((t0.1 : Nat) : Int)).toNat - (t2).toNat) then t0.2 ((t2).toNat + (i - ((t1).toNat - ((0 : Int)).toNat))) else t0.2 i) i))) (by kernel_rfl) rfl p6 (truncOk_arr p6) ?_
    exact runs_ret (h2 := [none, some (S_shadow_open.Q 72 (((t1).toNat - ((0 : Int)).toNat) + ((((t0.1 : Nat) : Int)).toNat - (t2).toNat)) (fun i => if ((((((t1).toNat - ((0 : Int)).toNat) + ((((t0.1 : Nat) : Int)).toNat - (t2).toNat)) : Nat) : Int)).toNat ≤ i ∧ i < ((((((t1).toNat - ((0 : Int)).toNat) + ((((t0.1 : Nat) : Int)).toNat - (t2).toNat)) : Nat) : Int)).toNat + ((((t0.1 : Nat) : Int)).toNat - ((((((t1).toNat - ((0 : Int)).toNat) + ((((t0.1 : Nat) : Int)).toNat - (t2).toNat)) : Nat) : Int)).toNat) then S_shadow_open.z else (fun i => if ((t1).toNat - ((0 : Int)).toNat) ≤ i ∧ i < ((t1).toNat - ((0 : Int)).toNat) + ((((t0.1 : Nat) : Int)).toNat - (t2).toNat) then t0.2 ((t2).toNat + (i - ((t1).toNat - ((0 : Int)).toNat))) else t0.2 i) i))]) (by kernel_rfl) (And.intro (.inl rfl) (And.intro (.inr rfl) trivial)) (Nat.le_of_ble_eq_true rfl) (And.intro (fun _ _ => (S_shadow_open.inn _)) trivial) (bel_of rfl)

theorem fc_slices_Delete_shadow_open (t0 : (Nat × (Nat → S_shadow_open))) (t1 : Int) (t2 : Int) {r : (Nat × (Nat → S_shadow_open))} (h : F_slices_Delete_shadow_open t0 t1 t2 = some r) : FC Tryz.prog 42 [(D.own 0), (D.int .i64 t1), (D.int .i64 t2)] [some (S_shadow_open.Q 72 t0.1 t0.2)] (D.own 1) [none, some (S_shadow_open.Q 72 r.1 r.2)] := by
  refine fc_of_runs (fn := Tryz.f42) (c := Tryz.f42.body.getD .skip) (by kernel_rfl) (by kernel_rfl) ?_
  refine runs_to (ts := [0, 1, 2]) (T' := T_slices_Delete_shadow_open) (env' := [(0, (D.own 0)), (1, (D.int .i64 t1)), (2, (D.int .i64 t2))]) (h2 := [some (S_shadow_open.Q 72 t0.1 t0.2)]) (by kernel_rfl) (by kernel_rfl) (And.intro (.inr rfl) trivial) (Nat.le_refl _) (And.intro (fun _ _ => (S_shadow_open.inn _)) trivial) (And.intro (bel_of rfl) (And.intro trivial (And.intro trivial trivial))) ?_
  exact run_slices_Delete_shadow_open t0 t1 t2 h ⟨rfl, rfl⟩

structure S_shadow_Shadow where
  f0 : (Nat × (Nat → (Nat × (Nat → S_api_Rule))))
  f1 : (Nat × (Nat → S_shadow_open))

def S_shadow_Shadow.d (x : S_shadow_Shadow) : D := (D.cons (D.lit x.f0.1 1 fun i => (S_api_Rule.L (x.f0.2 i).1 (x.f0.2 i).2)) (D.cons (S_shadow_open.L x.f1.1 x.f1.2) D.nil))
abbrev S_shadow_Shadow.L (n : Nat) (g : Nat → S_shadow_Shadow) : D := .lit n 2 fun i => S_shadow_Shadow.d (g i)
abbrev S_shadow_Shadow.A (n : Nat) (g : Nat → S_shadow_Shadow) : D := .arr n 2 fun i => S_shadow_Shadow.d (g i)
abbrev S_shadow_Shadow.Q (e : TypeId) (n : Nat) (g : Nat → S_shadow_Shadow) : Row := .seq e n 2 (S_shadow_Shadow.A n g)
theorem S_shadow_Shadow.inn {S : Nat → Prop} (x : S_shadow_Shadow) : (S_shadow_Shadow.d x).In S := by
  unfold S_shadow_Shadow.d
  exact (And.intro (fun _ _ => (fun _ _ => (S_api_Rule.inn _))) (And.intro (fun _ _ => (S_shadow_open.inn _)) trivial))
theorem S_shadow_Shadow.rnk {r0 r1 : Nat} (x : S_shadow_Shadow) : rnOk r0 r1 (S_shadow_Shadow.d x) := by
  unfold S_shadow_Shadow.d
  exact (And.intro (fun _ _ => (fun _ _ => (S_api_Rule.inn _))) (And.intro (fun _ _ => (S_shadow_open.inn _)) trivial))
abbrev S_shadow_Shadow.z : S_shadow_Shadow := (S_shadow_Shadow.mk (0, fun _ => (0, fun _ => S_api_Rule.z)) (0, fun _ => S_shadow_open.z))

def S_shadow_Shadow.wf (x : S_shadow_Shadow) : Prop := (x.f0.1 ≤ maxLen ∧ x.f0.1 * 24 ≤ reachBytes ∧ ∀ i, i < x.f0.1 → ((x.f0.2 i).1 ≤ maxLen ∧ (x.f0.2 i).1 * 272 ≤ reachBytes ∧ ∀ i1, i1 < (x.f0.2 i).1 → S_api_Rule.wf ((x.f0.2 i).2 i1))) ∧ (x.f1.1 ≤ maxLen ∧ x.f1.1 * 32 ≤ reachBytes ∧ ∀ i, i < x.f1.1 → S_shadow_open.wf (x.f1.2 i)) ∧ True

def K_shadow_Shadow_find_1 (d : D) (r : Bool) : Prop := d = (D.bool r)

noncomputable def T_shadow_Shadow_find_1 : List Item := norm 200 [.code (Tryz.f35.body.getD .skip)]

/-- (*podesta/shadow.Shadow).find 1 -/
def F_shadow_Shadow_find_1 (t0 : S_shadow_open) (t1 : Int) : Option Bool :=
  some (t0.f0 == t1)

theorem run_shadow_Shadow_find_1 (t0 : S_shadow_open) (t1 : Int) {d : D} {r : Bool} (h : F_shadow_Shadow_find_1 t0 t1 = some r) (hk : (K_shadow_Shadow_find_1 d) r) : Runs Tryz.prog Tryz.f35 0 T_shadow_Shadow_find_1 [(0, (S_shadow_open.d t0)), (1, (D.lptr (D.int .i64 t1)))] [] d [] := by
  unfold F_shadow_Shadow_find_1 at h
  refine runs_regions 2 [([], [1, 2]), ([], [3])] (z := ([], [(3, (D.bool (t0.f0 == t1)))], [some (.box (S_shadow_open.d t0))])) rfl (by kernel_rfl) trivial ?_
  rw [← Option.some.inj h] at hk
  obtain rfl : d = (D.bool (t0.f0 == t1)) := hk
  exact runs_ret (by kernel_rfl) trivial (Nat.le_refl 0) trivial trivial

theorem fc_shadow_Shadow_find_1 (t0 : S_shadow_open) (t1 : Int) {r : Bool} (h : F_shadow_Shadow_find_1 t0 t1 = some r) : FC Tryz.prog 35 [(S_shadow_open.d t0), (D.lptr (D.int .i64 t1))] [] (D.bool r) [] := by
  refine fc_of_runs (fn := Tryz.f35) (c := Tryz.f35.body.getD .skip) (by kernel_rfl) (by kernel_rfl) ?_
  refine runs_to (ts := [0, 1]) (T' := T_shadow_Shadow_find_1) (env' := [(0, (S_shadow_open.d t0)), (1, (D.lptr (D.int .i64 t1)))]) (h2 := []) (by kernel_rfl) (by kernel_rfl) trivial (Nat.le_refl _) trivial (And.intro (S_shadow_open.inn _) (And.intro trivial trivial)) ?_
  exact run_shadow_Shadow_find_1 t0 t1 h rfl

def K_slices_IndexFunc_shadow_open_shadow_Shadow_find_1 (d : D) (r : Int) : Prop := d = (D.int .i64 r)

noncomputable def T_slices_IndexFunc_shadow_open_shadow_Shadow_find_1 : List Item := norm 200 [.code (Tryz.f34.body.getD .skip)]

noncomputable def T_slices_IndexFunc_shadow_open_shadow_Shadow_find_1_L1 : List Item := norm 200 (nxt (nxt T_slices_IndexFunc_shadow_open_shadow_Shadow_find_1))

noncomputable def X_slices_IndexFunc_shadow_open_shadow_Shadow_find_1_L1T : List Item := norm 200 (cndF (nxt (nxt (nxt T_slices_IndexFunc_shadow_open_shadow_Shadow_find_1))))

abbrev E_slices_IndexFunc_shadow_open_shadow_Shadow_find_1_L1 := Unit

def N_slices_IndexFunc_shadow_open_shadow_Shadow_find_1_L1 (_fu : Nat) (t0 : (Nat × (Nat → S_shadow_open))) (t1_0 : Int) (t7 : Int) (d : D) (s : Int) : Prop := Runs Tryz.prog Tryz.f34 0 T_slices_IndexFunc_shadow_open_shadow_Shadow_find_1_L1 [(0, (S_shadow_open.L t0.1 t0.2)), (1, (D.fn 35 (D.cons (D.lptr (D.int .i64 t1_0)) D.nil))), (7, (D.int .i64 t7)), (8, (D.int .i64 s))] [] d []

def X_slices_IndexFunc_shadow_open_shadow_Shadow_find_1_L1 (_fu : Nat) (_t0 : (Nat × (Nat → S_shadow_open))) (_t1_0 : Int) (_t7 : Int) (d : D) : E_slices_IndexFunc_shadow_open_shadow_Shadow_find_1_L1 ⊕ Int → Prop
  | .inl _ => Runs Tryz.prog Tryz.f34 0 X_slices_IndexFunc_shadow_open_shadow_Shadow_find_1_L1T [] [] d []
  | .inr o => (K_slices_IndexFunc_shadow_open_shadow_Shadow_find_1 d) o

def F_slices_IndexFunc_shadow_open_shadow_Shadow_find_1_L1 (_fu : Nat) (t0 : (Nat × (Nat → S_shadow_open))) (t1_0 : Int) (t7 : Int) (t8 : Int) : Option (Lo Int E_slices_IndexFunc_shadow_open_shadow_Shadow_find_1_L1 Int) :=
  ifs (decide (t8 < t7)) (
    chk (0 ≤ t8 ∧ t8 < ((t0.1 : Nat) : Int)) <|
    (F_shadow_Shadow_find_1 (t0.2 t8.toNat) t1_0).bind fun r0 =>
    ifs r0 (
      some (.ret t8)) (
      some (.next (IntKind.wrap .i64 (t8 + (1 : Int)))))) (
    some (.exit ()))

theorem run_slices_IndexFunc_shadow_open_shadow_Shadow_find_1_L1 (fu : Nat) (t0 : (Nat × (Nat → S_shadow_open))) (t1_0 : Int) (t7 : Int) (t8 : Int) {d : D} {o : (Lo Int E_slices_IndexFunc_shadow_open_shadow_Shadow_find_1_L1 Int)} (h : F_slices_IndexFunc_shadow_open_shadow_Shadow_find_1_L1 fu t0 t1_0 t7 t8 = some o) (hk : (Lo.post (N_slices_IndexFunc_shadow_open_shadow_Shadow_find_1_L1 fu t0 t1_0 t7 d) (X_slices_IndexFunc_shadow_open_shadow_Shadow_find_1_L1 fu t0 t1_0 t7 d)) o) : Runs Tryz.prog Tryz.f34 0 T_slices_IndexFunc_shadow_open_shadow_Shadow_find_1_L1 [(0, (S_shadow_open.L t0.1 t0.2)), (1, (D.fn 35 (D.cons (D.lptr (D.int .i64 t1_0)) D.nil))), (7, (D.int .i64 t7)), (8, (D.int .i64 t8))] [] d [] := by
  unfold F_slices_IndexFunc_shadow_open_shadow_Shadow_find_1_L1 at h
  refine runs_regions 1 [([], [0, 1, 7, 8, 9])] (z := ([], [(0, (S_shadow_open.L t0.1 t0.2)), (1, (D.fn 35 (D.cons (D.lptr (D.int .i64 t1_0)) D.nil))), (7, (D.int .i64 t7)), (8, (D.int .i64 t8)), (9, (D.bool (decide (t8 < t7))))], [])) rfl (by kernel_rfl) trivial ?_
  refine runs_if (b := (decide (t8 < t7))) (by kernel_rfl) (fun hb => ?_) (fun hb => ?_)
  · replace h := ifs_true h hb
    obtain ⟨p0, h⟩ := chk_some h
    obtain ⟨r0, cr0, h⟩ := Option.bind_eq_some_iff.1 h
    refine runs_regions 2 [([], [0, 1, 5, 7, 8]), ([(.d (D.bool r0))], [0, 1, 5, 7, 8, 16])] (z := ([(0 ≤ t8 ∧ t8 < ((t0.1 : Nat) : Int)), FC Tryz.prog 35 [(S_shadow_open.d (t0.2 t8.toNat)), (D.lptr (D.int .i64 t1_0))] [] (D.bool r0) [], All (List.map NoRow [(S_shadow_open.d (t0.2 t8.toNat)), (D.lptr (D.int .i64 t1_0))])], [(0, (S_shadow_open.L t0.1 t0.2)), (1, (D.fn 35 (D.cons (D.lptr (D.int .i64 t1_0)) D.nil))), (5, (D.int .i64 t8)), (7, (D.int .i64 t7)), (8, (D.int .i64 t8)), (16, (D.bool r0))], [])) rfl (by kernel_rfl) (And.intro p0 (And.intro (fc_shadow_Shadow_find_1 (t0.2 t8.toNat) t1_0 cr0) (And.intro (And.intro (S_shadow_open.inn _) (And.intro trivial trivial)) trivial))) ?_
    refine runs_if (b := r0) (by kernel_rfl) (fun hb => ?_) (fun hb => ?_)
    · replace h := ifs_true h hb
      refine runs_regions 1 [([], [4])] (z := ([], [(4, (D.int .i64 t8))], [])) rfl (by kernel_rfl) trivial ?_
      rw [← Option.some.inj h] at hk
      obtain rfl : d = (D.int .i64 t8) := hk
      exact runs_ret (by kernel_rfl) trivial (Nat.le_refl 0) trivial trivial
    · replace h := ifs_false h hb
      refine runs_regions 1 [([], [0, 1, 7, 8])] (z := ([], [(0, (S_shadow_open.L t0.1 t0.2)), (1, (D.fn 35 (D.cons (D.lptr (D.int .i64 t1_0)) D.nil))), (7, (D.int .i64 t7)), (8, (D.int .i64 (IntKind.wrap .i64 (t8 + (1 : Int)))))], [])) rfl (by kernel_rfl) trivial ?_
      rw [← Option.some.inj h] at hk
      refine runs_to (ts := [0, 1, 7, 8]) (T' := T_slices_IndexFunc_shadow_open_shadow_Shadow_find_1_L1) (env' := [(0, (S_shadow_open.L t0.1 t0.2)), (1, (D.fn 35 (D.cons (D.lptr (D.int .i64 t1_0)) D.nil))), (7, (D.int .i64 t7)), (8, (D.int .i64 (IntKind.wrap .i64 (t8 + (1 : Int)))))]) (h2 := []) (by kernel_rfl) (by kernel_rfl) trivial (Nat.zero_le _) trivial (And.intro (fun _ _ => (S_shadow_open.inn _)) (And.intro (And.intro trivial trivial) (And.intro trivial (And.intro trivial trivial)))) ?_
      exact hk
  · replace h := ifs_false h hb
    rw [← Option.some.inj h] at hk
    refine runs_to (ts := []) (T' := X_slices_IndexFunc_shadow_open_shadow_Shadow_find_1_L1T) (env' := []) (h2 := []) (by kernel_rfl) (by kernel_rfl) trivial (Nat.zero_le _) trivial trivial ?_
    exact hk

theorem iter_slices_IndexFunc_shadow_open_shadow_Shadow_find_1_L1 (fu : Nat) (t0 : (Nat × (Nat → S_shadow_open))) (t1_0 : Int) (t7 : Int) {d : D} (k : Nat) (s : Int) {o : E_slices_IndexFunc_shadow_open_shadow_Shadow_find_1_L1 ⊕ Int} (h : iter (fun s => F_slices_IndexFunc_shadow_open_shadow_Shadow_find_1_L1 fu t0 t1_0 t7 s) k s = some o) (hx : X_slices_IndexFunc_shadow_open_shadow_Shadow_find_1_L1 fu t0 t1_0 t7 d o) : N_slices_IndexFunc_shadow_open_shadow_Shadow_find_1_L1 fu t0 t1_0 t7 d s :=
  iter_post (K := N_slices_IndexFunc_shadow_open_shadow_Shadow_find_1_L1 fu t0 t1_0 t7 d) (X := X_slices_IndexFunc_shadow_open_shadow_Shadow_find_1_L1 fu t0 t1_0 t7 d) (fun s _ h hk => run_slices_IndexFunc_shadow_open_shadow_Shadow_find_1_L1 fu t0 t1_0 t7 s h hk) k s o h hx

/-- slices.IndexFunc[[]podesta/shadow.open,podesta/shadow.open] -/
def F_slices_IndexFunc_shadow_open_shadow_Shadow_find_1 (fu : Nat) (t0 : (Nat × (Nat → S_shadow_open))) (t1_0 : Int) : Option Int :=
  after (iter (fun s => F_slices_IndexFunc_shadow_open_shadow_Shadow_find_1_L1 fu t0 t1_0 ((t0.1 : Nat) : Int) s) fu (0 : Int)) fun _ =>
  some (-1 : Int)

theorem run_slices_IndexFunc_shadow_open_shadow_Shadow_find_1 (fu : Nat) (t0 : (Nat × (Nat → S_shadow_open))) (t1_0 : Int) {d : D} {r : Int} (h : F_slices_IndexFunc_shadow_open_shadow_Shadow_find_1 fu t0 t1_0 = some r) (hk : (K_slices_IndexFunc_shadow_open_shadow_Shadow_find_1 d) r) : Runs Tryz.prog Tryz.f34 0 T_slices_IndexFunc_shadow_open_shadow_Shadow_find_1 [(0, (S_shadow_open.L t0.1 t0.2)), (1, (D.fn 35 (D.cons (D.lptr (D.int .i64 t1_0)) D.nil)))] [] d [] := by
  unfold F_slices_IndexFunc_shadow_open_shadow_Shadow_find_1 at h
  refine runs_regions 2 [([], [0, 1]), ([], [0, 1, 7, 8])] (z := ([], [(0, (S_shadow_open.L t0.1 t0.2)), (1, (D.fn 35 (D.cons (D.lptr (D.int .i64 t1_0)) D.nil))), (7, (D.int .i64 ((t0.1 : Nat) : Int))), (8, (D.int .i64 (0 : Int)))], [])) rfl (by kernel_rfl) trivial ?_
  refine runs_to (ts := [0, 1, 7, 8]) (T' := T_slices_IndexFunc_shadow_open_shadow_Shadow_find_1_L1) (env' := [(0, (S_shadow_open.L t0.1 t0.2)), (1, (D.fn 35 (D.cons (D.lptr (D.int .i64 t1_0)) D.nil))), (7, (D.int .i64 ((t0.1 : Nat) : Int))), (8, (D.int .i64 (0 : Int)))]) (h2 := []) (by kernel_rfl) (by kernel_rfl) trivial (Nat.zero_le _) trivial (And.intro (fun _ _ => (S_shadow_open.inn _)) (And.intro (And.intro trivial trivial) (And.intro trivial (And.intro trivial trivial)))) ?_
  rcases after_some h with ⟨e2, hi, h⟩ | hi
  · refine iter_slices_IndexFunc_shadow_open_shadow_Shadow_find_1_L1 fu t0 t1_0 ((t0.1 : Nat) : Int) fu (0 : Int) hi ?_
    show Runs Tryz.prog Tryz.f34 0 X_slices_IndexFunc_shadow_open_shadow_Shadow_find_1_L1T [] [] d []
    refine runs_regions 1 [([], [4])] (z := ([], [(4, (D.int .i64 (-1 : Int)))], [])) rfl (by kernel_rfl) trivial ?_
    rw [← Option.some.inj h] at hk
    obtain rfl : d = (D.int .i64 (-1 : Int)) := hk
    exact runs_ret (by kernel_rfl) trivial (Nat.le_refl 0) trivial trivial
  · exact iter_slices_IndexFunc_shadow_open_shadow_Shadow_find_1_L1 fu t0 t1_0 ((t0.1 : Nat) : Int) fu (0 : Int) hi hk

theorem fc_slices_IndexFunc_shadow_open_shadow_Shadow_find_1 (fu : Nat) (t0 : (Nat × (Nat → S_shadow_open))) (t1_0 : Int) {r : Int} (h : F_slices_IndexFunc_shadow_open_shadow_Shadow_find_1 fu t0 t1_0 = some r) : FC Tryz.prog 34 [(S_shadow_open.L t0.1 t0.2), (D.fn 35 (D.cons (D.lptr (D.int .i64 t1_0)) D.nil))] [] (D.int .i64 r) [] := by
  refine fc_of_runs (fn := Tryz.f34) (c := Tryz.f34.body.getD .skip) (by kernel_rfl) (by kernel_rfl) ?_
  refine runs_to (ts := [0, 1]) (T' := T_slices_IndexFunc_shadow_open_shadow_Shadow_find_1) (env' := [(0, (S_shadow_open.L t0.1 t0.2)), (1, (D.fn 35 (D.cons (D.lptr (D.int .i64 t1_0)) D.nil)))]) (h2 := []) (by kernel_rfl) (by kernel_rfl) trivial (Nat.le_refl _) trivial (And.intro (fun _ _ => (S_shadow_open.inn _)) (And.intro (And.intro trivial trivial) trivial)) ?_
  exact run_slices_IndexFunc_shadow_open_shadow_Shadow_find_1 fu t0 t1_0 h rfl

def K_shadow_Shadow_find (t0 : S_shadow_Shadow) (d : D) (hp : Heap) (r : Int) : Prop := d = (D.int .i64 r) ∧ hp = [some (.box (D.cons (D.own 1) (D.cons (D.own 2) D.nil))), some (.seq 28 t0.f0.1 1 (D.arr t0.f0.1 1 fun i => (S_api_Rule.L (t0.f0.2 i).1 (t0.f0.2 i).2))), some (S_shadow_open.Q 72 t0.f1.1 t0.f1.2)]

noncomputable def T_shadow_Shadow_find : List Item := norm 200 [.code (Tryz.f19.body.getD .skip)]

/-- (*podesta/shadow.Shadow).find -/
def F_shadow_Shadow_find (fu : Nat) (t0 : S_shadow_Shadow) (t1 : Int) : Option Int :=
  (F_slices_IndexFunc_shadow_open_shadow_Shadow_find_1 fu t0.f1 t1).bind fun r0 =>
  some r0

theorem run_shadow_Shadow_find (fu : Nat) (t0 : S_shadow_Shadow) (t1 : Int) {d : D} {hp : Heap} {r : Int} (h : F_shadow_Shadow_find fu t0 t1 = some r) (hk : (K_shadow_Shadow_find t0 d hp) r) : Runs Tryz.prog Tryz.f19 3 T_shadow_Shadow_find [(0, (D.ptr 0 [])), (1, (D.int .i64 t1))] [some (.box (D.cons (D.own 1) (D.cons (D.own 2) D.nil))), some (.seq 28 t0.f0.1 1 (D.arr t0.f0.1 1 fun i => (S_api_Rule.L (t0.f0.2 i).1 (t0.f0.2 i).2))), some (S_shadow_open.Q 72 t0.f1.1 t0.f1.2)] d hp := by
  unfold F_shadow_Shadow_find at h
  refine runs_regions 1 [([], [0, 3])] (z := ([], [(0, (D.ptr 0 [])), (3, (D.ptr 3 []))], [some (.box (D.cons (D.own 1) (D.cons (D.own 2) D.nil))), some (.seq 28 t0.f0.1 1 (D.arr t0.f0.1 1 fun i => (S_api_Rule.L (t0.f0.2 i).1 (t0.f0.2 i).2))), some (S_shadow_open.Q 72 t0.f1.1 t0.f1.2), some (.box (D.int .i64 t1))])) rfl (by kernel_rfl) trivial ?_
  refine runs_freeze 3 (row := (.box (D.int .i64 t1))) rfl ?_
  obtain ⟨r0, cr0, h⟩ := Option.bind_eq_some_iff.1 h
  refine runs_regions 1 [([(.lend (D.int .i64 r0))], [4])] (z := ([FC Tryz.prog 34 [(S_shadow_open.L t0.f1.1 t0.f1.2), (D.fn 35 (D.cons (D.lptr (D.int .i64 t1)) D.nil))] [] (D.int .i64 r0) [], All (List.map NoRow [(S_shadow_open.L t0.f1.1 t0.f1.2), (D.fn 35 (D.cons (D.lptr (D.int .i64 t1)) D.nil))])], [(4, (D.int .i64 r0))], [some (.box (D.cons (D.own 1) (D.cons (D.own 2) D.nil))), some (.seq 28 t0.f0.1 1 (D.arr t0.f0.1 1 fun i => (S_api_Rule.L (t0.f0.2 i).1 (t0.f0.2 i).2))), some (S_shadow_open.Q 72 t0.f1.1 t0.f1.2), none])) rfl (by kernel_rfl) (And.intro (fc_slices_IndexFunc_shadow_open_shadow_Shadow_find_1 fu t0.f1 t1 cr0) (And.intro (And.intro (fun _ _ => (S_shadow_open.inn _)) (And.intro (And.intro trivial trivial) trivial)) trivial)) ?_
  rw [← Option.some.inj h] at hk
  obtain ⟨rfl, rfl⟩ : d = (D.int .i64 r0) ∧ hp = [some (.box (D.cons (D.own 1) (D.cons (D.own 2) D.nil))), some (.seq 28 t0.f0.1 1 (D.arr t0.f0.1 1 fun i => (S_api_Rule.L (t0.f0.2 i).1 (t0.f0.2 i).2))), some (S_shadow_open.Q 72 t0.f1.1 t0.f1.2)] := hk
  refine runs_keep (ts := [4]) (env' := [(4, (D.int .i64 r0))]) (h2 := [some (.box (D.cons (D.own 1) (D.cons (D.own 2) D.nil))), some (.seq 28 t0.f0.1 1 (D.arr t0.f0.1 1 fun i => (S_api_Rule.L (t0.f0.2 i).1 (t0.f0.2 i).2))), some (S_shadow_open.Q 72 t0.f1.1 t0.f1.2), none]) (by kernel_rfl) (And.intro (.inr rfl) (And.intro (.inr rfl) (And.intro (.inr rfl) (And.intro (.inl rfl) trivial)))) (Nat.le_of_ble_eq_true rfl) (And.intro (And.intro (bel_of rfl) (And.intro (bel_of rfl) trivial)) (And.intro (fun _ _ => (fun _ _ => (S_api_Rule.inn _))) (And.intro (fun _ _ => (S_shadow_open.inn _)) trivial))) (And.intro trivial trivial) ?_
  exact runs_ret (h2 := [some (.box (D.cons (D.own 1) (D.cons (D.own 2) D.nil))), some (.seq 28 t0.f0.1 1 (D.arr t0.f0.1 1 fun i => (S_api_Rule.L (t0.f0.2 i).1 (t0.f0.2 i).2))), some (S_shadow_open.Q 72 t0.f1.1 t0.f1.2)]) (by kernel_rfl) (And.intro (.inr rfl) (And.intro (.inr rfl) (And.intro (.inr rfl) trivial))) (Nat.le_of_ble_eq_true rfl) (And.intro (And.intro (bel_of rfl) (And.intro (bel_of rfl) trivial)) (And.intro (fun _ _ => (fun _ _ => (S_api_Rule.inn _))) (And.intro (fun _ _ => (S_shadow_open.inn _)) trivial))) trivial

theorem fc_shadow_Shadow_find (fu : Nat) (t0 : S_shadow_Shadow) (t1 : Int) {r : Int} (h : F_shadow_Shadow_find fu t0 t1 = some r) : FC Tryz.prog 19 [(D.ptr 0 []), (D.int .i64 t1)] [some (.box (D.cons (D.own 1) (D.cons (D.own 2) D.nil))), some (.seq 28 t0.f0.1 1 (D.arr t0.f0.1 1 fun i => (S_api_Rule.L (t0.f0.2 i).1 (t0.f0.2 i).2))), some (S_shadow_open.Q 72 t0.f1.1 t0.f1.2)] (D.int .i64 r) [some (.box (D.cons (D.own 1) (D.cons (D.own 2) D.nil))), some (.seq 28 t0.f0.1 1 (D.arr t0.f0.1 1 fun i => (S_api_Rule.L (t0.f0.2 i).1 (t0.f0.2 i).2))), some (S_shadow_open.Q 72 t0.f1.1 t0.f1.2)] := by
  refine fc_of_runs (fn := Tryz.f19) (c := Tryz.f19.body.getD .skip) (by kernel_rfl) (by kernel_rfl) ?_
  refine runs_to (ts := [0, 1]) (T' := T_shadow_Shadow_find) (env' := [(0, (D.ptr 0 [])), (1, (D.int .i64 t1))]) (h2 := [some (.box (D.cons (D.own 1) (D.cons (D.own 2) D.nil))), some (.seq 28 t0.f0.1 1 (D.arr t0.f0.1 1 fun i => (S_api_Rule.L (t0.f0.2 i).1 (t0.f0.2 i).2))), some (S_shadow_open.Q 72 t0.f1.1 t0.f1.2)]) (by kernel_rfl) (by kernel_rfl) (And.intro (.inr rfl) (And.intro (.inr rfl) (And.intro (.inr rfl) trivial))) (Nat.le_refl _) (And.intro (And.intro (bel_of rfl) (And.intro (bel_of rfl) trivial)) (And.intro (fun _ _ => (fun _ _ => (S_api_Rule.inn _))) (And.intro (fun _ _ => (S_shadow_open.inn _)) trivial))) (And.intro (bel_of rfl) (And.intro trivial trivial)) ?_
  exact run_shadow_Shadow_find fu t0 t1 h ⟨rfl, rfl⟩

def K_shadow_Shadow_end (d : D) (hp : Heap) (r : (S_shadow_open × Int × S_shadow_Shadow)) : Prop := d = (D.tup (D.cons (S_shadow_open.d r.1) (D.cons (D.int .i64 r.2.1) D.nil))) ∧ hp = [some (.box (D.cons (D.own 3) (D.cons (D.own 4) D.nil))), none, none, some (.seq 28 r.2.2.f0.1 1 (D.arr r.2.2.f0.1 1 fun i => (S_api_Rule.L (r.2.2.f0.2 i).1 (r.2.2.f0.2 i).2))), some (S_shadow_open.Q 72 r.2.2.f1.1 r.2.2.f1.2)]

noncomputable def T_shadow_Shadow_end : List Item := norm 200 [.code (Tryz.f26.body.getD .skip)]

/-- (*podesta/shadow.Shadow).end -/
def F_shadow_Shadow_end (fu : Nat) (t0 : S_shadow_Shadow) (t1 : Int) : Option (S_shadow_open × Int × S_shadow_Shadow) :=
  (F_shadow_Shadow_find fu t0 t1).bind fun r0 =>
  ifs (decide (r0 < (0 : Int))) (
    some ((S_shadow_open.mk (0 : Int) (0, (fun _ => S_api_Change.z))), (4 : Int), t0)) (
    chk (0 ≤ r0 ∧ r0 < ((t0.f1.1 : Nat) : Int)) <|
    chk (r0.toNat < t0.f1.1) <|
    (F_slices_Delete_shadow_open t0.f1 r0 (IntKind.wrap .i64 (r0 + (1 : Int)))).bind fun r1 =>
    some ((t0.f1.2 r0.toNat), (0 : Int), (S_shadow_Shadow.mk t0.f0 r1)))

theorem run_shadow_Shadow_end (fu : Nat) (t0 : S_shadow_Shadow) (t1 : Int) {d : D} {hp : Heap} {r : (S_shadow_open × Int × S_shadow_Shadow)} (h : F_shadow_Shadow_end fu t0 t1 = some r) (hk : (K_shadow_Shadow_end d hp) r) : Runs Tryz.prog Tryz.f26 3 T_shadow_Shadow_end [(0, (D.ptr 0 [])), (1, (D.int .i64 t1))] [some (.box (D.cons (D.own 1) (D.cons (D.own 2) D.nil))), some (.seq 28 t0.f0.1 1 (D.arr t0.f0.1 1 fun i => (S_api_Rule.L (t0.f0.2 i).1 (t0.f0.2 i).2))), some (S_shadow_open.Q 72 t0.f1.1 t0.f1.2)] d hp := by
  unfold F_shadow_Shadow_end at h
  refine runs_regions 2 [([], [0, 1, 4]), ([], [0, 1, 4, 9])] (z := ([], [(0, (D.ptr 0 [])), (1, (D.int .i64 t1)), (4, (D.ptr 3 [])), (9, (D.bool false))], [some (.box (D.cons (D.own 1) (D.cons (D.own 2) D.nil))), some (.seq 28 t0.f0.1 1 (D.arr t0.f0.1 1 fun i => (S_api_Rule.L (t0.f0.2 i).1 (t0.f0.2 i).2))), some (S_shadow_open.Q 72 t0.f1.1 t0.f1.2), some (.box (D.cons (D.int .i64 (0 : Int)) (D.cons D.nils D.nil)))])) rfl (by kernel_rfl) trivial ?_
  refine runs_if (b := false) (by kernel_rfl) (fun hb => by cases hb) (fun hb => ?_)
  obtain ⟨r0, cr0, h⟩ := Option.bind_eq_some_iff.1 h
  refine runs_regions 2 [([(.look ([0, 1, 2] : List Nat) [(D.ptr 0 []), (D.int .i64 t1)] ([(.box (D.cons (D.own 1) (D.cons (D.own 2) D.nil))), (.seq 28 t0.f0.1 1 (D.arr t0.f0.1 1 fun i => (S_api_Rule.L (t0.f0.2 i).1 (t0.f0.2 i).2))), (S_shadow_open.Q 72 t0.f1.1 t0.f1.2)] : List Row) (D.int .i64 r0))], [0, 4, 6]), ([], [0, 4, 6, 15])] (z := ([FC Tryz.prog 19 [(D.ptr 0 []), (D.int .i64 t1)] (List.map some ([(.box (D.cons (D.own 1) (D.cons (D.own 2) D.nil))), (.seq 28 t0.f0.1 1 (D.arr t0.f0.1 1 fun i => (S_api_Rule.L (t0.f0.2 i).1 (t0.f0.2 i).2))), (S_shadow_open.Q 72 t0.f1.1 t0.f1.2)] : List Row)) (D.int .i64 r0) (List.map some ([(.box (D.cons (D.own 1) (D.cons (D.own 2) D.nil))), (.seq 28 t0.f0.1 1 (D.arr t0.f0.1 1 fun i => (S_api_Rule.L (t0.f0.2 i).1 (t0.f0.2 i).2))), (S_shadow_open.Q 72 t0.f1.1 t0.f1.2)] : List Row)), [(D.ptr 0 []), (D.int .i64 t1)] = List.map (D.ren (fun i => List.getD ([0, 1, 2] : List Nat) i 0)) [(D.ptr 0 []), (D.int .i64 t1)], RowsAt (fun i => List.getD ([0, 1, 2] : List Nat) i 0) ([some (.box (D.cons (D.own 1) (D.cons (D.own 2) D.nil))), some (.seq 28 t0.f0.1 1 (D.arr t0.f0.1 1 fun i => (S_api_Rule.L (t0.f0.2 i).1 (t0.f0.2 i).2))), some (S_shadow_open.Q 72 t0.f1.1 t0.f1.2), some (.box (D.cons (D.int .i64 (0 : Int)) (D.cons D.nils D.nil)))] : Heap) ([0, 1, 2] : List Nat) ([(.box (D.cons (D.own 1) (D.cons (D.own 2) D.nil))), (.seq 28 t0.f0.1 1 (D.arr t0.f0.1 1 fun i => (S_api_Rule.L (t0.f0.2 i).1 (t0.f0.2 i).2))), (S_shadow_open.Q 72 t0.f1.1 t0.f1.2)] : List Row), HIn (Bel (List.length ([0, 1, 2] : List Nat))) (List.map some ([(.box (D.cons (D.own 1) (D.cons (D.own 2) D.nil))), (.seq 28 t0.f0.1 1 (D.arr t0.f0.1 1 fun i => (S_api_Rule.L (t0.f0.2 i).1 (t0.f0.2 i).2))), (S_shadow_open.Q 72 t0.f1.1 t0.f1.2)] : List Row)), AllIn (Bel (List.length ([0, 1, 2] : List Nat))) [(D.ptr 0 []), (D.int .i64 t1)], D.In (Bel (List.length ([0, 1, 2] : List Nat))) (D.int .i64 r0)], [(0, (D.ptr 0 [])), (4, (D.ptr 3 [])), (6, (D.int .i64 r0)), (15, (D.bool (decide (r0 < (0 : Int)))))], [some (.box (D.cons (D.own 1) (D.cons (D.own 2) D.nil))), some (.seq 28 t0.f0.1 1 (D.arr t0.f0.1 1 fun i => (S_api_Rule.L (t0.f0.2 i).1 (t0.f0.2 i).2))), some (S_shadow_open.Q 72 t0.f1.1 t0.f1.2), some (.box (D.cons (D.int .i64 (0 : Int)) (D.cons D.nils D.nil)))])) rfl (by kernel_rfl) (And.intro (fc_shadow_Shadow_find fu t0 t1 cr0) (And.intro rfl (And.intro (And.intro rfl (And.intro rfl (And.intro rfl trivial))) (And.intro (And.intro (And.intro (bel_of rfl) (And.intro (bel_of rfl) trivial)) (And.intro (fun _ _ => (fun _ _ => (S_api_Rule.inn _))) (And.intro (fun _ _ => (S_shadow_open.inn _)) trivial))) (And.intro (And.intro (bel_of rfl) (And.intro trivial trivial)) (And.intro trivial trivial)))))) ?_
  refine runs_if (b := (decide (r0 < (0 : Int)))) (by kernel_rfl) (fun hb => ?_) (fun hb => ?_)
  · replace h := ifs_true h hb
    refine runs_regions 1 [([], [4, 5])] (z := ([], [(4, (D.ptr 3 [])), (5, (D.int .i64 (4 : Int)))], [some (.box (D.cons (D.own 1) (D.cons (D.own 2) D.nil))), some (.seq 28 t0.f0.1 1 (D.arr t0.f0.1 1 fun i => (S_api_Rule.L (t0.f0.2 i).1 (t0.f0.2 i).2))), some (S_shadow_open.Q 72 t0.f1.1 t0.f1.2), some (.box (D.cons (D.int .i64 (0 : Int)) (D.cons D.nils D.nil)))])) rfl (by kernel_rfl) trivial ?_
    rw [← Option.some.inj h] at hk
    obtain ⟨rfl, rfl⟩ : d = (D.tup (D.cons (D.cons (D.int .i64 (0 : Int)) (D.cons (S_api_Change.L 0 (fun _ => S_api_Change.z)) D.nil)) (D.cons (D.int .i64 (4 : Int)) D.nil))) ∧ hp = [some (.box (D.cons (D.own 3) (D.cons (D.own 4) D.nil))), none, none, some (.seq 28 t0.f0.1 1 (D.arr t0.f0.1 1 fun i => (S_api_Rule.L (t0.f0.2 i).1 (t0.f0.2 i).2))), some (S_shadow_open.Q 72 t0.f1.1 t0.f1.2)] := hk
    refine runs_usub_box 3 (d1 := (D.cons (D.int .i64 (0 : Int)) (D.cons (S_api_Change.L 0 (fun _ => S_api_Change.z)) D.nil))) rfl (usub_cons (usub_refl _) (usub_cons usub_nils (usub_refl _))) ?_
    refine runs_keep (ts := [4, 5]) (env' := [(4, (D.ptr 3 [])), (5, (D.int .i64 (4 : Int)))]) (h2 := [some (.box (D.cons (D.own 1) (D.cons (D.own 2) D.nil))), some (.seq 28 t0.f0.1 1 (D.arr t0.f0.1 1 fun i => (S_api_Rule.L (t0.f0.2 i).1 (t0.f0.2 i).2))), some (S_shadow_open.Q 72 t0.f1.1 t0.f1.2), some (.box (D.cons (D.int .i64 (0 : Int)) (D.cons (S_api_Change.L 0 (fun _ => S_api_Change.z)) D.nil)))]) (by kernel_rfl) (And.intro (.inr rfl) (And.intro (.inr rfl) (And.intro (.inr rfl) (And.intro (.inr rfl) trivial)))) (Nat.le_of_ble_eq_true rfl) (And.intro (And.intro (bel_of rfl) (And.intro (bel_of rfl) trivial)) (And.intro (fun _ _ => (fun _ _ => (S_api_Rule.inn _))) (And.intro (fun _ _ => (S_shadow_open.inn _)) (And.intro (And.intro trivial (And.intro (fun _ _ => (S_api_Change.inn _)) trivial)) trivial)))) (And.intro (bel_of rfl) (And.intro trivial trivial)) ?_
    refine runs_pad ?_
    refine runs_rename 4 2 (row := (S_shadow_open.Q 72 t0.f1.1 t0.f1.2)) (by decide) (by decide) rfl rfl (And.intro (And.intro (rn_own rfl) (And.intro (rn_own rfl) trivial)) (And.intro (fun _ _ => (fun _ _ => (S_api_Rule.inn _))) (And.intro (fun _ _ => (S_shadow_open.inn _)) (And.intro (And.intro trivial (And.intro (fun _ _ => (S_api_Change.inn _)) trivial)) trivial)))) (And.intro (rn_ptr rfl) (And.intro trivial trivial)) ?_
    refine runs_eq (env2 := [(4, (D.ptr 3 [])), (5, (D.int .i64 (4 : Int)))]) (h2 := [some (.box (D.cons (D.own 1) (D.cons (D.own 4) D.nil))), some (.seq 28 t0.f0.1 1 (D.arr t0.f0.1 1 fun i => (S_api_Rule.L (t0.f0.2 i).1 (t0.f0.2 i).2))), none, some (.box (D.cons (D.int .i64 (0 : Int)) (D.cons (S_api_Change.L 0 (fun _ => S_api_Change.z)) D.nil))), some (S_shadow_open.Q 72 t0.f1.1 t0.f1.2)]) (by kernel_rfl) (by kernel_rfl) ?_
    refine runs_pad ?_
    refine runs_rename 5 3 (row := (.box (D.cons (D.int .i64 (0 : Int)) (D.cons (S_api_Change.L 0 (fun _ => S_api_Change.z)) D.nil)))) (by decide) (by decide) rfl rfl (And.intro (And.intro (rn_own rfl) (And.intro (rn_own rfl) trivial)) (And.intro (fun _ _ => (fun _ _ => (S_api_Rule.inn _))) (And.intro (And.intro trivial (And.intro (fun _ _ => (S_api_Change.inn _)) trivial)) (And.intro (fun _ _ => (S_shadow_open.inn _)) trivial)))) (And.intro (rn_ptr rfl) (And.intro trivial trivial)) ?_
    refine runs_eq (env2 := [(4, (D.ptr 5 [])), (5, (D.int .i64 (4 : Int)))]) (h2 := [some (.box (D.cons (D.own 1) (D.cons (D.own 4) D.nil))), some (.seq 28 t0.f0.1 1 (D.arr t0.f0.1 1 fun i => (S_api_Rule.L (t0.f0.2 i).1 (t0.f0.2 i).2))), none, none, some (S_shadow_open.Q 72 t0.f1.1 t0.f1.2), some (.box (D.cons (D.int .i64 (0 : Int)) (D.cons (S_api_Change.L 0 (fun _ => S_api_Change.z)) D.nil)))]) (by kernel_rfl) (by kernel_rfl) ?_
    refine runs_rename 3 1 (row := (.seq 28 t0.f0.1 1 (D.arr t0.f0.1 1 fun i => (S_api_Rule.L (t0.f0.2 i).1 (t0.f0.2 i).2)))) (by decide) (by decide) rfl rfl (And.intro (And.intro (rn_own rfl) (And.intro (rn_own rfl) trivial)) (And.intro (fun _ _ => (fun _ _ => (S_api_Rule.inn _))) (And.intro (fun _ _ => (S_shadow_open.inn _)) (And.intro (And.intro trivial (And.intro (fun _ _ => (S_api_Change.inn _)) trivial)) trivial)))) (And.intro (rn_ptr rfl) (And.intro trivial trivial)) ?_
    refine runs_eq (env2 := [(4, (D.ptr 5 [])), (5, (D.int .i64 (4 : Int)))]) (h2 := [some (.box (D.cons (D.own 3) (D.cons (D.own 4) D.nil))), none, none, some (.seq 28 t0.f0.1 1 (D.arr t0.f0.1 1 fun i => (S_api_Rule.L (t0.f0.2 i).1 (t0.f0.2 i).2))), some (S_shadow_open.Q 72 t0.f1.1 t0.f1.2), some (.box (D.cons (D.int .i64 (0 : Int)) (D.cons (S_api_Change.L 0 (fun _ => S_api_Change.z)) D.nil)))]) (by kernel_rfl) (by kernel_rfl) ?_
    exact runs_ret (h2 := [some (.box (D.cons (D.own 3) (D.cons (D.own 4) D.nil))), none, none, some (.seq 28 t0.f0.1 1 (D.arr t0.f0.1 1 fun i => (S_api_Rule.L (t0.f0.2 i).1 (t0.f0.2 i).2))), some (S_shadow_open.Q 72 t0.f1.1 t0.f1.2)]) (by kernel_rfl) (And.intro (.inr rfl) (And.intro (.inl rfl) (And.intro (.inl rfl) (And.intro (.inr rfl) (And.intro (.inr rfl) trivial))))) (Nat.le_of_ble_eq_true rfl) (And.intro (And.intro (bel_of rfl) (And.intro (bel_of rfl) trivial)) (And.intro (fun _ _ => (fun _ _ => (S_api_Rule.inn _))) (And.intro (fun _ _ => (S_shadow_open.inn _)) trivial))) (And.intro (And.intro trivial (And.intro (fun _ _ => (S_api_Change.inn _)) trivial)) (And.intro trivial trivial))
  · replace h := ifs_false h hb
    obtain ⟨p0, h⟩ := chk_some h
    obtain ⟨p1, h⟩ := chk_some h
    obtain ⟨r1, cr1, h⟩ := Option.bind_eq_some_iff.1 h
    refine runs_regions 3 [([], [0, 4, 6, 7]), ([(.rows ([2] : List Nat) [(D.own 0), (D.int .i64 r0), (D.int .i64 (IntKind.wrap .i64 (r0 + (1 : Int))))] ([(S_shadow_open.Q 72 t0.f1.1 t0.f1.2)] : List Row) ([none, some (S_shadow_open.Q 72 r1.1 r1.2)] : Heap) (D.own 1))], [4, 7]), ([], [4, 5])] (z := ([(0 ≤ r0 ∧ r0 < ((t0.f1.1 : Nat) : Int)), (r0.toNat < t0.f1.1), FC Tryz.prog 42 [(D.own 0), (D.int .i64 r0), (D.int .i64 (IntKind.wrap .i64 (r0 + (1 : Int))))] (List.map some ([(S_shadow_open.Q 72 t0.f1.1 t0.f1.2)] : List Row)) (D.own 1) ([none, some (S_shadow_open.Q 72 r1.1 r1.2)] : Heap), [(D.own 2), (D.int .i64 r0), (D.int .i64 (IntKind.wrap .i64 (r0 + (1 : Int))))] = List.map (D.ren (emb ([2] : List Nat) 5)) [(D.own 0), (D.int .i64 r0), (D.int .i64 (IntKind.wrap .i64 (r0 + (1 : Int))))], RowsAt (emb ([2] : List Nat) 5) ([some (.box (D.cons (D.own 1) (D.cons (D.own 2) D.nil))), some (.seq 28 t0.f0.1 1 (D.arr t0.f0.1 1 fun i => (S_api_Rule.L (t0.f0.2 i).1 (t0.f0.2 i).2))), some (S_shadow_open.Q 72 t0.f1.1 t0.f1.2), some (.box (D.cons (D.int .i64 (0 : Int)) (D.cons D.nils D.nil))), some (.box (S_shadow_open.d (t0.f1.2 r0.toNat)))] : Heap) ([2] : List Nat) ([(S_shadow_open.Q 72 t0.f1.1 t0.f1.2)] : List Row), HIn (Bel (List.length ([2] : List Nat))) (List.map some ([(S_shadow_open.Q 72 t0.f1.1 t0.f1.2)] : List Row)), AllIn (Bel (List.length ([2] : List Nat))) [(D.own 0), (D.int .i64 r0), (D.int .i64 (IntKind.wrap .i64 (r0 + (1 : Int))))], HIn (Bel (List.length ([none, some (S_shadow_open.Q 72 r1.1 r1.2)] : Heap))) ([none, some (S_shadow_open.Q 72 r1.1 r1.2)] : Heap), D.In (Bel (List.length ([none, some (S_shadow_open.Q 72 r1.1 r1.2)] : Heap))) (D.own 1)], [(4, (D.ptr 3 [])), (5, (D.int .i64 (0 : Int)))], [some (.box (D.cons (D.own 1) (D.cons (D.own 5) D.nil))), some (.seq 28 t0.f0.1 1 (D.arr t0.f0.1 1 fun i => (S_api_Rule.L (t0.f0.2 i).1 (t0.f0.2 i).2))), none, some (.box (S_shadow_open.d (t0.f1.2 r0.toNat))), some (.box (S_shadow_open.d (t0.f1.2 r0.toNat))), some (S_shadow_open.Q 72 r1.1 r1.2)])) rfl (by kernel_rfl) (And.intro p0 (And.intro p1 (And.intro (fc_slices_Delete_shadow_open t0.f1 r0 (IntKind.wrap .i64 (r0 + (1 : Int))) cr1) (And.intro rfl (And.intro (And.intro rfl trivial) (And.intro (And.intro (fun _ _ => (S_shadow_open.inn _)) trivial) (And.intro (And.intro (bel_of rfl) (And.intro trivial (And.intro trivial trivial))) (And.intro (And.intro (fun _ _ => (S_shadow_open.inn _)) trivial) (And.intro (bel_of rfl) trivial))))))))) ?_
    rw [← Option.some.inj h] at hk
    obtain ⟨rfl, rfl⟩ : d = (D.tup (D.cons (S_shadow_open.d (t0.f1.2 r0.toNat)) (D.cons (D.int .i64 (0 : Int)) D.nil))) ∧ hp = [some (.box (D.cons (D.own 3) (D.cons (D.own 4) D.nil))), none, none, some (.seq 28 t0.f0.1 1 (D.arr t0.f0.1 1 fun i => (S_api_Rule.L (t0.f0.2 i).1 (t0.f0.2 i).2))), some (S_shadow_open.Q 72 r1.1 r1.2)] := hk
    refine runs_keep (ts := [4, 5]) (env' := [(4, (D.ptr 3 [])), (5, (D.int .i64 (0 : Int)))]) (h2 := [some (.box (D.cons (D.own 1) (D.cons (D.own 5) D.nil))), some (.seq 28 t0.f0.1 1 (D.arr t0.f0.1 1 fun i => (S_api_Rule.L (t0.f0.2 i).1 (t0.f0.2 i).2))), none, some (.box (S_shadow_open.d (t0.f1.2 r0.toNat))), some (.box (S_shadow_open.d (t0.f1.2 r0.toNat))), some (S_shadow_open.Q 72 r1.1 r1.2)]) (by kernel_rfl) (And.intro (.inr rfl) (And.intro (.inr rfl) (And.intro (.inl rfl) (And.intro (.inr rfl) (And.intro (.inr rfl) (And.intro (.inr rfl) trivial)))))) (Nat.le_of_ble_eq_true rfl) (And.intro (And.intro (bel_of rfl) (And.intro (bel_of rfl) trivial)) (And.intro (fun _ _ => (fun _ _ => (S_api_Rule.inn _))) (And.intro (S_shadow_open.inn _) (And.intro (S_shadow_open.inn _) (And.intro (fun _ _ => (S_shadow_open.inn _)) trivial))))) (And.intro (bel_of rfl) (And.intro trivial trivial)) ?_
    refine runs_pad ?_
    refine runs_rename 6 3 (row := (.box (S_shadow_open.d (t0.f1.2 r0.toNat)))) (by decide) (by decide) rfl rfl (And.intro (And.intro (rn_own rfl) (And.intro (rn_own rfl) trivial)) (And.intro (fun _ _ => (fun _ _ => (S_api_Rule.inn _))) (And.intro (S_shadow_open.rnk _) (And.intro (S_shadow_open.rnk _) (And.intro (fun _ _ => (S_shadow_open.inn _)) trivial))))) (And.intro (rn_ptr rfl) (And.intro trivial trivial)) ?_
    refine runs_eq (env2 := [(4, (D.ptr 6 [])), (5, (D.int .i64 (0 : Int)))]) (h2 := [some (.box (D.cons (D.own 1) (D.cons (D.own 5) D.nil))), some (.seq 28 t0.f0.1 1 (D.arr t0.f0.1 1 fun i => (S_api_Rule.L (t0.f0.2 i).1 (t0.f0.2 i).2))), none, none, some (.box (S_shadow_open.d (t0.f1.2 r0.toNat))), some (S_shadow_open.Q 72 r1.1 r1.2), some (.box (S_shadow_open.d (t0.f1.2 r0.toNat)))]) (by kernel_rfl) (by kernel_rfl) ?_
    refine runs_rename 3 1 (row := (.seq 28 t0.f0.1 1 (D.arr t0.f0.1 1 fun i => (S_api_Rule.L (t0.f0.2 i).1 (t0.f0.2 i).2)))) (by decide) (by decide) rfl rfl (And.intro (And.intro (rn_own rfl) (And.intro (rn_own rfl) trivial)) (And.intro (fun _ _ => (fun _ _ => (S_api_Rule.inn _))) (And.intro (S_shadow_open.rnk _) (And.intro (fun _ _ => (S_shadow_open.inn _)) (And.intro (S_shadow_open.rnk _) trivial))))) (And.intro (rn_ptr rfl) (And.intro trivial trivial)) ?_
    refine runs_eq (env2 := [(4, (D.ptr 6 [])), (5, (D.int .i64 (0 : Int)))]) (h2 := [some (.box (D.cons (D.own 3) (D.cons (D.own 5) D.nil))), none, none, some (.seq 28 t0.f0.1 1 (D.arr t0.f0.1 1 fun i => (S_api_Rule.L (t0.f0.2 i).1 (t0.f0.2 i).2))), some (.box (S_shadow_open.d (t0.f1.2 r0.toNat))), some (S_shadow_open.Q 72 r1.1 r1.2), some (.box (S_shadow_open.d (t0.f1.2 r0.toNat)))]) (by kernel_rfl) (by kernel_rfl) ?_
    refine runs_pad ?_
    refine runs_rename 7 4 (row := (.box (S_shadow_open.d (t0.f1.2 r0.toNat)))) (by decide) (by decide) rfl rfl (And.intro (And.intro (rn_own rfl) (And.intro (rn_own rfl) trivial)) (And.intro (fun _ _ => (fun _ _ => (S_api_Rule.inn _))) (And.intro (S_shadow_open.rnk _) (And.intro (fun _ _ => (S_shadow_open.inn _)) (And.intro (S_shadow_open.rnk _) trivial))))) (And.intro (rn_ptr rfl) (And.intro trivial trivial)) ?_
    refine runs_eq (env2 := [(4, (D.ptr 6 [])), (5, (D.int .i64 (0 : Int)))]) (h2 := [some (.box (D.cons (D.own 3) (D.cons (D.own 5) D.nil))), none, none, some (.seq 28 t0.f0.1 1 (D.arr t0.f0.1 1 fun i => (S_api_Rule.L (t0.f0.2 i).1 (t0.f0.2 i).2))), none, some (S_shadow_open.Q 72 r1.1 r1.2), some (.box (S_shadow_open.d (t0.f1.2 r0.toNat))), some (.box (S_shadow_open.d (t0.f1.2 r0.toNat)))]) (by kernel_rfl) (by kernel_rfl) ?_
    refine runs_rename 4 5 (row := (S_shadow_open.Q 72 r1.1 r1.2)) (by decide) (by decide) rfl rfl (And.intro (And.intro (rn_own rfl) (And.intro (rn_own rfl) trivial)) (And.intro (fun _ _ => (fun _ _ => (S_api_Rule.inn _))) (And.intro (fun _ _ => (S_shadow_open.inn _)) (And.intro (S_shadow_open.rnk _) (And.intro (S_shadow_open.rnk _) trivial))))) (And.intro (rn_ptr rfl) (And.intro trivial trivial)) ?_
    refine runs_eq (env2 := [(4, (D.ptr 6 [])), (5, (D.int .i64 (0 : Int)))]) (h2 := [some (.box (D.cons (D.own 3) (D.cons (D.own 4) D.nil))), none, none, some (.seq 28 t0.f0.1 1 (D.arr t0.f0.1 1 fun i => (S_api_Rule.L (t0.f0.2 i).1 (t0.f0.2 i).2))), some (S_shadow_open.Q 72 r1.1 r1.2), none, some (.box (S_shadow_open.d (t0.f1.2 r0.toNat))), some (.box (S_shadow_open.d (t0.f1.2 r0.toNat)))]) (by kernel_rfl) (by kernel_rfl) ?_
    exact runs_ret (h2 := [some (.box (D.cons (D.own 3) (D.cons (D.own 4) D.nil))), none, none, some (.seq 28 t0.f0.1 1 (D.arr t0.f0.1 1 fun i => (S_api_Rule.L (t0.f0.2 i).1 (t0.f0.2 i).2))), some (S_shadow_open.Q 72 r1.1 r1.2)]) (by kernel_rfl) (And.intro (.inr rfl) (And.intro (.inl rfl) (And.intro (.inl rfl) (And.intro (.inr rfl) (And.intro (.inr rfl) trivial))))) (Nat.le_of_ble_eq_true rfl) (And.intro (And.intro (bel_of rfl) (And.intro (bel_of rfl) trivial)) (And.intro (fun _ _ => (fun _ _ => (S_api_Rule.inn _))) (And.intro (fun _ _ => (S_shadow_open.inn _)) trivial))) (And.intro (S_shadow_open.inn _) (And.intro trivial trivial))

theorem fc_shadow_Shadow_end (fu : Nat) (t0 : S_shadow_Shadow) (t1 : Int) {r : (S_shadow_open × Int × S_shadow_Shadow)} (h : F_shadow_Shadow_end fu t0 t1 = some r) : FC Tryz.prog 26 [(D.ptr 0 []), (D.int .i64 t1)] [some (.box (D.cons (D.own 1) (D.cons (D.own 2) D.nil))), some (.seq 28 t0.f0.1 1 (D.arr t0.f0.1 1 fun i => (S_api_Rule.L (t0.f0.2 i).1 (t0.f0.2 i).2))), some (S_shadow_open.Q 72 t0.f1.1 t0.f1.2)] (D.tup (D.cons (S_shadow_open.d r.1) (D.cons (D.int .i64 r.2.1) D.nil))) [some (.box (D.cons (D.own 3) (D.cons (D.own 4) D.nil))), none, none, some (.seq 28 r.2.2.f0.1 1 (D.arr r.2.2.f0.1 1 fun i => (S_api_Rule.L (r.2.2.f0.2 i).1 (r.2.2.f0.2 i).2))), some (S_shadow_open.Q 72 r.2.2.f1.1 r.2.2.f1.2)] := by
  refine fc_of_runs (fn := Tryz.f26) (c := Tryz.f26.body.getD .skip) (by kernel_rfl) (by kernel_rfl) ?_
  refine runs_to (ts := [0, 1]) (T' := T_shadow_Shadow_end) (env' := [(0, (D.ptr 0 [])), (1, (D.int .i64 t1))]) (h2 := [some (.box (D.cons (D.own 1) (D.cons (D.own 2) D.nil))), some (.seq 28 t0.f0.1 1 (D.arr t0.f0.1 1 fun i => (S_api_Rule.L (t0.f0.2 i).1 (t0.f0.2 i).2))), some (S_shadow_open.Q 72 t0.f1.1 t0.f1.2)]) (by kernel_rfl) (by kernel_rfl) (And.intro (.inr rfl) (And.intro (.inr rfl) (And.intro (.inr rfl) trivial))) (Nat.le_refl _) (And.intro (And.intro (bel_of rfl) (And.intro (bel_of rfl) trivial)) (And.intro (fun _ _ => (fun _ _ => (S_api_Rule.inn _))) (And.intro (fun _ _ => (S_shadow_open.inn _)) trivial))) (And.intro (bel_of rfl) (And.intro trivial trivial)) ?_
  exact run_shadow_Shadow_end fu t0 t1 h ⟨rfl, rfl⟩

def K_shadow_New (d : D) (hp : Heap) (r : S_shadow_Shadow) : Prop := d = (D.ptr 0 []) ∧ hp = [some (.box (D.cons (D.own 1) (D.cons (D.own 2) D.nil))), some (.seq 28 r.f0.1 1 (D.arr r.f0.1 1 fun i => (S_api_Rule.L (r.f0.2 i).1 (r.f0.2 i).2))), some (S_shadow_open.Q 72 r.f1.1 r.f1.2)]

noncomputable def T_shadow_New : List Item := norm 200 [.code (Tryz.f7.body.getD .skip)]

/-- podesta/shadow.New -/
def F_shadow_New (t0 : Int) : Option S_shadow_Shadow :=
  chk (0 ≤ (if (8 : Int) < (if (0 : Int) > t0 then (0 : Int) else t0) then (8 : Int) else (if (0 : Int) > t0 then (0 : Int) else t0))) <|
  chk (RoomOk ((if (8 : Int) < (if (0 : Int) > t0 then (0 : Int) else t0) then (8 : Int) else (if (0 : Int) > t0 then (0 : Int) else t0))).toNat 24) <|
  some (S_shadow_Shadow.mk (((if (8 : Int) < (if (0 : Int) > t0 then (0 : Int) else t0) then (8 : Int) else (if (0 : Int) > t0 then (0 : Int) else t0))).toNat, (fun _ => (((0, fun _ => S_api_Rule.z) : (Nat × (Nat → S_api_Rule))) : (Nat × (Nat → S_api_Rule))))) (0, (fun _ => S_shadow_open.z)))

theorem run_shadow_New (t0 : Int) {d : D} {hp : Heap} {r : S_shadow_Shadow} (h : F_shadow_New t0 = some r) (hk : (K_shadow_New d hp) r) : Runs Tryz.prog Tryz.f7 0 T_shadow_New [(0, (D.int .i64 t0))] [] d hp := by
  unfold F_shadow_New at h
  obtain ⟨p0, h⟩ := chk_some h
  obtain ⟨p1, h⟩ := chk_some h
  refine runs_regions 2 [([], [0]), ([(.own (D.arr ((if (8 : Int) < (if (0 : Int) > t0 then (0 : Int) else t0) then (8 : Int) else (if (0 : Int) > t0 then (0 : Int) else t0))).toNat 1 fun i => (S_api_Rule.L ((fun _ => (((0, fun _ => S_api_Rule.z) : (Nat × (Nat → S_api_Rule))) : (Nat × (Nat → S_api_Rule)))) i).1 ((fun _ => (((0, fun _ => S_api_Rule.z) : (Nat × (Nat → S_api_Rule))) : (Nat × (Nat → S_api_Rule)))) i).2)))], [2])] (z := ([((if (8 : Int) < (if (0 : Int) > t0 then (0 : Int) else t0) then (8 : Int) else (if (0 : Int) > t0 then (0 : Int) else t0)) = (if (8 : Int) < (if (0 : Int) > t0 then (0 : Int) else t0) then (8 : Int) else (if (0 : Int) > t0 then (0 : Int) else t0))), (0 ≤ (if (8 : Int) < (if (0 : Int) > t0 then (0 : Int) else t0) then (8 : Int) else (if (0 : Int) > t0 then (0 : Int) else t0))), (RoomOk ((if (8 : Int) < (if (0 : Int) > t0 then (0 : Int) else t0) then (8 : Int) else (if (0 : Int) > t0 then (0 : Int) else t0))).toNat 24), MakeOk ((if (8 : Int) < (if (0 : Int) > t0 then (0 : Int) else t0) then (8 : Int) else (if (0 : Int) > t0 then (0 : Int) else t0))).toNat 1 D.nils (D.arr ((if (8 : Int) < (if (0 : Int) > t0 then (0 : Int) else t0) then (8 : Int) else (if (0 : Int) > t0 then (0 : Int) else t0))).toNat 1 fun i => (S_api_Rule.L ((fun _ => (((0, fun _ => S_api_Rule.z) : (Nat × (Nat → S_api_Rule))) : (Nat × (Nat → S_api_Rule)))) i).1 ((fun _ => (((0, fun _ => S_api_Rule.z) : (Nat × (Nat → S_api_Rule))) : (Nat × (Nat → S_api_Rule)))) i).2))], [(2, (D.ptr 1 []))], [some (.seq 28 ((if (8 : Int) < (if (0 : Int) > t0 then (0 : Int) else t0) then (8 : Int) else (if (0 : Int) > t0 then (0 : Int) else t0))).toNat 1 (D.arr ((if (8 : Int) < (if (0 : Int) > t0 then (0 : Int) else t0) then (8 : Int) else (if (0 : Int) > t0 then (0 : Int) else t0))).toNat 1 fun i => (S_api_Rule.L ((fun _ => (((0, fun _ => S_api_Rule.z) : (Nat × (Nat → S_api_Rule))) : (Nat × (Nat → S_api_Rule)))) i).1 ((fun _ => (((0, fun _ => S_api_Rule.z) : (Nat × (Nat → S_api_Rule))) : (Nat × (Nat → S_api_Rule)))) i).2))), some (.box (D.cons (D.own 0) (D.cons D.nils D.nil)))])) rfl (by kernel_rfl) (And.intro rfl (And.intro p0 (And.intro p1 (And.intro (makeOk_sub dsub_nils) trivial)))) ?_
  refine runs_boxnil 1 [.fld 1 1] (d1 := (D.cons (D.own 0) (D.cons (D.own 2) D.nil))) (dd := (S_shadow_open.A 0 (fun _ => S_shadow_open.z))) 72 2 rfl rfl rfl emptyOk_arr ?_
  rw [← Option.some.inj h] at hk
  obtain ⟨rfl, rfl⟩ : d = (D.ptr 0 []) ∧ hp = [some (.box (D.cons (D.own 1) (D.cons (D.own 2) D.nil))), some (.seq 28 ((if (8 : Int) < (if (0 : Int) > t0 then (0 : Int) else t0) then (8 : Int) else (if (0 : Int) > t0 then (0 : Int) else t0))).toNat 1 (D.arr ((if (8 : Int) < (if (0 : Int) > t0 then (0 : Int) else t0) then (8 : Int) else (if (0 : Int) > t0 then (0 : Int) else t0))).toNat 1 fun i => (S_api_Rule.L ((fun _ => (((0, fun _ => S_api_Rule.z) : (Nat × (Nat → S_api_Rule))) : (Nat × (Nat → S_api_Rule)))) i).1 ((fun _ => (((0, fun _ => S_api_Rule.z) : (Nat × (Nat → S_api_Rule))) : (Nat × (Nat → S_api_Rule)))) i).2))), some (S_shadow_open.Q 72 0 (fun _ => S_shadow_open.z))] := hk
  refine runs_keep (ts := [2]) (env' := [(2, (D.ptr 1 []))]) (h2 := [some (.seq 28 ((if (8 : Int) < (if (0 : Int) > t0 then (0 : Int) else t0) then (8 : Int) else (if (0 : Int) > t0 then (0 : Int) else t0))).toNat 1 (D.arr ((if (8 : Int) < (if (0 : Int) > t0 then (0 : Int) else t0) then (8 : Int) else (if (0 : Int) > t0 then (0 : Int) else t0))).toNat 1 fun i => (S_api_Rule.L ((fun _ => (((0, fun _ => S_api_Rule.z) : (Nat × (Nat → S_api_Rule))) : (Nat × (Nat → S_api_Rule)))) i).1 ((fun _ => (((0, fun _ => S_api_Rule.z) : (Nat × (Nat → S_api_Rule))) : (Nat × (Nat → S_api_Rule)))) i).2))), some (.box (D.cons (D.own 0) (D.cons (D.own 2) D.nil))), some (S_shadow_open.Q 72 0 (fun _ => S_shadow_open.z))]) (by kernel_rfl) (And.intro (.inr rfl) (And.intro (.inr rfl) (And.intro (.inr rfl) trivial))) (Nat.zero_le _) (And.intro (fun _ _ => (fun _ _ => (S_api_Rule.inn _))) (And.intro (And.intro (bel_of rfl) (And.intro (bel_of rfl) trivial)) (And.intro (fun _ _ => (S_shadow_open.inn _)) trivial))) (And.intro (bel_of rfl) trivial) ?_
  refine runs_pad ?_
  refine runs_rename 3 0 (row := (.seq 28 ((if (8 : Int) < (if (0 : Int) > t0 then (0 : Int) else t0) then (8 : Int) else (if (0 : Int) > t0 then (0 : Int) else t0))).toNat 1 (D.arr ((if (8 : Int) < (if (0 : Int) > t0 then (0 : Int) else t0) then (8 : Int) else (if (0 : Int) > t0 then (0 : Int) else t0))).toNat 1 fun i => (S_api_Rule.L ((fun _ => (((0, fun _ => S_api_Rule.z) : (Nat × (Nat → S_api_Rule))) : (Nat × (Nat → S_api_Rule)))) i).1 ((fun _ => (((0, fun _ => S_api_Rule.z) : (Nat × (Nat → S_api_Rule))) : (Nat × (Nat → S_api_Rule)))) i).2)))) (by decide) (Nat.zero_le _) rfl rfl (And.intro (fun _ _ => (fun _ _ => (S_api_Rule.inn _))) (And.intro (And.intro (rn_own rfl) (And.intro (rn_own rfl) trivial)) (And.intro (fun _ _ => (S_shadow_open.inn _)) trivial))) (And.intro (rn_ptr rfl) trivial) ?_
  refine runs_eq (env2 := [(2, (D.ptr 1 []))]) (h2 := [none, some (.box (D.cons (D.own 3) (D.cons (D.own 2) D.nil))), some (S_shadow_open.Q 72 0 (fun _ => S_shadow_open.z)), some (.seq 28 ((if (8 : Int) < (if (0 : Int) > t0 then (0 : Int) else t0) then (8 : Int) else (if (0 : Int) > t0 then (0 : Int) else t0))).toNat 1 (D.arr ((if (8 : Int) < (if (0 : Int) > t0 then (0 : Int) else t0) then (8 : Int) else (if (0 : Int) > t0 then (0 : Int) else t0))).toNat 1 fun i => (S_api_Rule.L ((fun _ => (((0, fun _ => S_api_Rule.z) : (Nat × (Nat → S_api_Rule))) : (Nat × (Nat → S_api_Rule)))) i).1 ((fun _ => (((0, fun _ => S_api_Rule.z) : (Nat × (Nat → S_api_Rule))) : (Nat × (Nat → S_api_Rule)))) i).2)))]) (by kernel_rfl) (by kernel_rfl) ?_
  refine runs_rename 0 1 (row := (.box (D.cons (D.own 3) (D.cons (D.own 2) D.nil)))) (by decide) (Nat.zero_le _) rfl rfl (And.intro (And.intro (rn_own rfl) (And.intro (rn_own rfl) trivial)) (And.intro (fun _ _ => (S_shadow_open.inn _)) (And.intro (fun _ _ => (fun _ _ => (S_api_Rule.inn _))) trivial))) (And.intro (rn_ptr rfl) trivial) ?_
  refine runs_eq (env2 := [(2, (D.ptr 0 []))]) (h2 := [some (.box (D.cons (D.own 3) (D.cons (D.own 2) D.nil))), none, some (S_shadow_open.Q 72 0 (fun _ => S_shadow_open.z)), some (.seq 28 ((if (8 : Int) < (if (0 : Int) > t0 then (0 : Int) else t0) then (8 : Int) else (if (0 : Int) > t0 then (0 : Int) else t0))).toNat 1 (D.arr ((if (8 : Int) < (if (0 : Int) > t0 then (0 : Int) else t0) then (8 : Int) else (if (0 : Int) > t0 then (0 : Int) else t0))).toNat 1 fun i => (S_api_Rule.L ((fun _ => (((0, fun _ => S_api_Rule.z) : (Nat × (Nat → S_api_Rule))) : (Nat × (Nat → S_api_Rule)))) i).1 ((fun _ => (((0, fun _ => S_api_Rule.z) : (Nat × (Nat → S_api_Rule))) : (Nat × (Nat → S_api_Rule)))) i).2)))]) (by kernel_rfl) (by kernel_rfl) ?_
  refine runs_rename 1 3 (row := (.seq 28 ((if (8 : Int) < (if (0 : Int) > t0 then (0 : Int) else t0) then (8 : Int) else (if (0 : Int) > t0 then (0 : Int) else t0))).toNat 1 (D.arr ((if (8 : Int) < (if (0 : Int) > t0 then (0 : Int) else t0) then (8 : Int) else (if (0 : Int) > t0 then (0 : Int) else t0))).toNat 1 fun i => (S_api_Rule.L ((fun _ => (((0, fun _ => S_api_Rule.z) : (Nat × (Nat → S_api_Rule))) : (Nat × (Nat → S_api_Rule)))) i).1 ((fun _ => (((0, fun _ => S_api_Rule.z) : (Nat × (Nat → S_api_Rule))) : (Nat × (Nat → S_api_Rule)))) i).2)))) (by decide) (Nat.zero_le _) rfl rfl (And.intro (And.intro (rn_own rfl) (And.intro (rn_own rfl) trivial)) (And.intro (fun _ _ => (S_shadow_open.inn _)) (And.intro (fun _ _ => (fun _ _ => (S_api_Rule.inn _))) trivial))) (And.intro (rn_ptr rfl) trivial) ?_
  refine runs_eq (env2 := [(2, (D.ptr 0 []))]) (h2 := [some (.box (D.cons (D.own 1) (D.cons (D.own 2) D.nil))), some (.seq 28 ((if (8 : Int) < (if (0 : Int) > t0 then (0 : Int) else t0) then (8 : Int) else (if (0 : Int) > t0 then (0 : Int) else t0))).toNat 1 (D.arr ((if (8 : Int) < (if (0 : Int) > t0 then (0 : Int) else t0) then (8 : Int) else (if (0 : Int) > t0 then (0 : Int) else t0))).toNat 1 fun i => (S_api_Rule.L ((fun _ => (((0, fun _ => S_api_Rule.z) : (Nat × (Nat → S_api_Rule))) : (Nat × (Nat → S_api_Rule)))) i).1 ((fun _ => (((0, fun _ => S_api_Rule.z) : (Nat × (Nat → S_api_Rule))) : (Nat × (Nat → S_api_Rule)))) i).2))), some (S_shadow_open.Q 72 0 (fun _ => S_shadow_open.z)), none]) (by kernel_rfl) (by kernel_rfl) ?_
  exact runs_ret (h2 := [some (.box (D.cons (D.own 1) (D.cons (D.own 2) D.nil))), some (.seq 28 ((if (8 : Int) < (if (0 : Int) > t0 then (0 : Int) else t0) then (8 : Int) else (if (0 : Int) > t0 then (0 : Int) else t0))).toNat 1 (D.arr ((if (8 : Int) < (if (0 : Int) > t0 then (0 : Int) else t0) then (8 : Int) else (if (0 : Int) > t0 then (0 : Int) else t0))).toNat 1 fun i => (S_api_Rule.L ((fun _ => (((0, fun _ => S_api_Rule.z) : (Nat × (Nat → S_api_Rule))) : (Nat × (Nat → S_api_Rule)))) i).1 ((fun _ => (((0, fun _ => S_api_Rule.z) : (Nat × (Nat → S_api_Rule))) : (Nat × (Nat → S_api_Rule)))) i).2))), some (S_shadow_open.Q 72 0 (fun _ => S_shadow_open.z))]) (by kernel_rfl) (And.intro (.inr rfl) (And.intro (.inr rfl) (And.intro (.inr rfl) trivial))) (Nat.zero_le _) (And.intro (And.intro (bel_of rfl) (And.intro (bel_of rfl) trivial)) (And.intro (fun _ _ => (fun _ _ => (S_api_Rule.inn _))) (And.intro (fun _ _ => (S_shadow_open.inn _)) trivial))) (bel_of rfl)

theorem fc_shadow_New (t0 : Int) {r : S_shadow_Shadow} (h : F_shadow_New t0 = some r) : FC Tryz.prog 7 [(D.int .i64 t0)] [] (D.ptr 0 []) [some (.box (D.cons (D.own 1) (D.cons (D.own 2) D.nil))), some (.seq 28 r.f0.1 1 (D.arr r.f0.1 1 fun i => (S_api_Rule.L (r.f0.2 i).1 (r.f0.2 i).2))), some (S_shadow_open.Q 72 r.f1.1 r.f1.2)] := by
  refine fc_of_runs (fn := Tryz.f7) (c := Tryz.f7.body.getD .skip) (by kernel_rfl) (by kernel_rfl) ?_
  refine runs_to (ts := [0]) (T' := T_shadow_New) (env' := [(0, (D.int .i64 t0))]) (h2 := []) (by kernel_rfl) (by kernel_rfl) trivial (Nat.le_refl _) trivial (And.intro trivial trivial) ?_
  exact run_shadow_New t0 h ⟨rfl, rfl⟩

def K_head_there (d : D) (r : Bool) : Prop := d = (D.bool r)

noncomputable def T_head_there : List Item := norm 200 [.code (Tryz.f127.body.getD .skip)]

/-- podesta/head.there -/
def F_head_there (t0 : Int) : Option Bool :=
  some (bif (decide (t0 ≥ (0 : Int))) then (decide (t0 < (12 : Int))) else false)

theorem run_head_there (t0 : Int) {d : D} {r : Bool} (h : F_head_there t0 = some r) (hk : (K_head_there d) r) : Runs Tryz.prog Tryz.f127 0 T_head_there [(0, (D.int .i64 t0))] [] d [] := by
  unfold F_head_there at h
  refine runs_regions 2 [([], [0]), ([], [2])] (z := ([((decide (t0 ≥ (0 : Int))) = true → All [((decide (t0 ≥ (0 : Int))) = true → (decide (t0 ≥ (0 : Int))) = true)]), ((true && (decide (t0 ≥ (0 : Int)))) = true → (decide (t0 ≥ (0 : Int))) = true)], [(2, (D.bool (bif (decide (t0 ≥ (0 : Int))) then (decide (t0 < (12 : Int))) else false)))], [])) rfl (by kernel_rfl) (And.intro (fun _ => (And.intro (by first | exact fun h => h | exact fun h => (Bool.and_eq_true_iff.1 h).1 | simp_all) trivial)) (And.intro (by first | exact fun h => h | exact fun h => (Bool.and_eq_true_iff.1 h).1 | simp_all) trivial)) ?_
  rw [← Option.some.inj h] at hk
  obtain rfl : d = (D.bool (bif (decide (t0 ≥ (0 : Int))) then (decide (t0 < (12 : Int))) else false)) := hk
  exact runs_ret (by kernel_rfl) trivial (Nat.le_refl 0) trivial trivial

theorem fc_head_there (t0 : Int) {r : Bool} (h : F_head_there t0 = some r) : FC Tryz.prog 127 [(D.int .i64 t0)] [] (D.bool r) [] := by
  refine fc_of_runs (fn := Tryz.f127) (c := Tryz.f127.body.getD .skip) (by kernel_rfl) (by kernel_rfl) ?_
  refine runs_to (ts := [0]) (T' := T_head_there) (env' := [(0, (D.int .i64 t0))]) (h2 := []) (by kernel_rfl) (by kernel_rfl) trivial (Nat.le_refl _) trivial (And.intro trivial trivial) ?_
  exact run_head_there t0 h rfl

structure S_head_field where
  f0 : ByteArray
  f1 : Int

def S_head_field.d (x : S_head_field) : D := (D.cons (D.str x.f0) (D.cons (D.int .i64 x.f1) D.nil))
abbrev S_head_field.L (n : Nat) (g : Nat → S_head_field) : D := .lit n 2 fun i => S_head_field.d (g i)
abbrev S_head_field.A (n : Nat) (g : Nat → S_head_field) : D := .arr n 2 fun i => S_head_field.d (g i)
abbrev S_head_field.Q (e : TypeId) (n : Nat) (g : Nat → S_head_field) : Row := .seq e n 2 (S_head_field.A n g)
theorem S_head_field.inn {S : Nat → Prop} (x : S_head_field) : (S_head_field.d x).In S := by
  unfold S_head_field.d
  exact (And.intro trivial (And.intro trivial trivial))
theorem S_head_field.rnk {r0 r1 : Nat} (x : S_head_field) : rnOk r0 r1 (S_head_field.d x) := by
  unfold S_head_field.d
  exact (And.intro trivial (And.intro trivial trivial))
theorem S_head_field.tgt (x : S_head_field) : (S_head_field.d x).Tight := by
  unfold S_head_field.d
  exact (And.intro trivial (And.intro trivial trivial))
abbrev S_head_field.z : S_head_field := (S_head_field.mk (⟨#[]⟩ : ByteArray) (0 : Int))

def S_head_field.wf (x : S_head_field) : Prop := x.f0.size ≤ reachBytes ∧ (Lit.int .i64 x.f1).wf = true ∧ True

def K_head_fields (d : D) (r : (Nat → S_head_field)) : Prop := d = (S_head_field.A 12 r)

noncomputable def T_head_fields : List Item := norm 200 [.code (Tryz.f131.body.getD .skip)]

/-- podesta/head.fields -/
def F_head_fields : Option (Nat → S_head_field) :=
  some (fun j => if j = 11 then (S_head_field.mk (⟨#[100, 112, 111, 114, 116]⟩ : ByteArray) (12 : Int)) else (fun j => if j = 10 then (S_head_field.mk (⟨#[115, 112, 111, 114, 116]⟩ : ByteArray) (12 : Int)) else (fun j => if j = 9 then (S_head_field.mk (⟨#[116, 111, 115]⟩ : ByteArray) (8 : Int)) else (fun j => if j = 8 then (S_head_field.mk (⟨#[112, 114, 111, 116, 111]⟩ : ByteArray) (8 : Int)) else (fun j => if j = 7 then (S_head_field.mk (⟨#[100, 115, 116]⟩ : ByteArray) (32 : Int)) else (fun j => if j = 6 then (S_head_field.mk (⟨#[115, 114, 99]⟩ : ByteArray) (32 : Int)) else (fun j => if j = 5 then (S_head_field.mk (⟨#[112, 99, 112]⟩ : ByteArray) (4 : Int)) else (fun j => if j = 4 then (S_head_field.mk (⟨#[118, 108, 97, 110]⟩ : ByteArray) (12 : Int)) else (fun j => if j = 3 then (S_head_field.mk (⟨#[101, 116, 121, 112, 101]⟩ : ByteArray) (16 : Int)) else (fun j => if j = 2 then (S_head_field.mk (⟨#[101, 100, 115, 116]⟩ : ByteArray) (48 : Int)) else (fun j => if j = 1 then (S_head_field.mk (⟨#[101, 115, 114, 99]⟩ : ByteArray) (48 : Int)) else (fun j => if j = 0 then (S_head_field.mk (⟨#[105, 110]⟩ : ByteArray) (16 : Int)) else (fun _ => (S_head_field.mk (⟨#[]⟩ : ByteArray) (0 : Int))) j) j) j) j) j) j) j) j) j) j) j) j)

theorem run_head_fields {d : D} {r : (Nat → S_head_field)} (h : F_head_fields = some r) (hk : (K_head_fields d) r) : Runs Tryz.prog Tryz.f131 0 T_head_fields [] [] d [] := by
  unfold F_head_fields at h
  refine runs_regions 2 [([], [0]), ([], [0])] (z := ([(0 < 12), (1 < 12), (2 < 12), (3 < 12), (4 < 12), (5 < 12), (6 < 12), (7 < 12), (8 < 12), (9 < 12), (10 < 12), (11 < 12)], [(0, (D.ptr 0 []))], [some (.box (D.arr 12 2 fun j => (if j = 11 then (D.cons (D.str (⟨#[100, 112, 111, 114, 116]⟩ : ByteArray)) (D.cons (D.int .i64 (12 : Int)) D.nil)) else (if j = 10 then (D.cons (D.str (⟨#[115, 112, 111, 114, 116]⟩ : ByteArray)) (D.cons (D.int .i64 (12 : Int)) D.nil)) else (if j = 9 then (D.cons (D.str (⟨#[116, 111, 115]⟩ : ByteArray)) (D.cons (D.int .i64 (8 : Int)) D.nil)) else (if j = 8 then (D.cons (D.str (⟨#[112, 114, 111, 116, 111]⟩ : ByteArray)) (D.cons (D.int .i64 (8 : Int)) D.nil)) else (if j = 7 then (D.cons (D.str (⟨#[100, 115, 116]⟩ : ByteArray)) (D.cons (D.int .i64 (32 : Int)) D.nil)) else (if j = 6 then (D.cons (D.str (⟨#[115, 114, 99]⟩ : ByteArray)) (D.cons (D.int .i64 (32 : Int)) D.nil)) else (if j = 5 then (D.cons (D.str (⟨#[112, 99, 112]⟩ : ByteArray)) (D.cons (D.int .i64 (4 : Int)) D.nil)) else (if j = 4 then (D.cons (D.str (⟨#[118, 108, 97, 110]⟩ : ByteArray)) (D.cons (D.int .i64 (12 : Int)) D.nil)) else (if j = 3 then (D.cons (D.str (⟨#[101, 116, 121, 112, 101]⟩ : ByteArray)) (D.cons (D.int .i64 (16 : Int)) D.nil)) else (if j = 2 then (D.cons (D.str (⟨#[101, 100, 115, 116]⟩ : ByteArray)) (D.cons (D.int .i64 (48 : Int)) D.nil)) else (if j = 1 then (D.cons (D.str (⟨#[101, 115, 114, 99]⟩ : ByteArray)) (D.cons (D.int .i64 (48 : Int)) D.nil)) else (if j = 0 then (D.cons (D.str (⟨#[105, 110]⟩ : ByteArray)) (D.cons (D.int .i64 (16 : Int)) D.nil)) else (S_head_field.d ((fun _ => (S_head_field.mk (⟨#[]⟩ : ByteArray) (0 : Int))) j))))))))))))))))])) rfl (by kernel_rfl) (And.intro (by decide) (And.intro (by decide) (And.intro (by decide) (And.intro (by decide) (And.intro (by decide) (And.intro (by decide) (And.intro (by decide) (And.intro (by decide) (And.intro (by decide) (And.intro (by decide) (And.intro (by decide) (And.intro (by decide) trivial)))))))))))) ?_
  refine cast_fun (F := fun q => Runs Tryz.prog Tryz.f131 0 _ [(0, (D.ptr 0 []))] [some (.box (D.arr 12 2 q))] d []) (funext fun j => (show (if j = 11 then (D.cons (D.str (⟨#[100, 112, 111, 114, 116]⟩ : ByteArray)) (D.cons (D.int .i64 (12 : Int)) D.nil)) else (if j = 10 then (D.cons (D.str (⟨#[115, 112, 111, 114, 116]⟩ : ByteArray)) (D.cons (D.int .i64 (12 : Int)) D.nil)) else (if j = 9 then (D.cons (D.str (⟨#[116, 111, 115]⟩ : ByteArray)) (D.cons (D.int .i64 (8 : Int)) D.nil)) else (if j = 8 then (D.cons (D.str (⟨#[112, 114, 111, 116, 111]⟩ : ByteArray)) (D.cons (D.int .i64 (8 : Int)) D.nil)) else (if j = 7 then (D.cons (D.str (⟨#[100, 115, 116]⟩ : ByteArray)) (D.cons (D.int .i64 (32 : Int)) D.nil)) else (if j = 6 then (D.cons (D.str (⟨#[115, 114, 99]⟩ : ByteArray)) (D.cons (D.int .i64 (32 : Int)) D.nil)) else (if j = 5 then (D.cons (D.str (⟨#[112, 99, 112]⟩ : ByteArray)) (D.cons (D.int .i64 (4 : Int)) D.nil)) else (if j = 4 then (D.cons (D.str (⟨#[118, 108, 97, 110]⟩ : ByteArray)) (D.cons (D.int .i64 (12 : Int)) D.nil)) else (if j = 3 then (D.cons (D.str (⟨#[101, 116, 121, 112, 101]⟩ : ByteArray)) (D.cons (D.int .i64 (16 : Int)) D.nil)) else (if j = 2 then (D.cons (D.str (⟨#[101, 100, 115, 116]⟩ : ByteArray)) (D.cons (D.int .i64 (48 : Int)) D.nil)) else (if j = 1 then (D.cons (D.str (⟨#[101, 115, 114, 99]⟩ : ByteArray)) (D.cons (D.int .i64 (48 : Int)) D.nil)) else (if j = 0 then (D.cons (D.str (⟨#[105, 110]⟩ : ByteArray)) (D.cons (D.int .i64 (16 : Int)) D.nil)) else (S_head_field.d ((fun _ => (S_head_field.mk (⟨#[]⟩ : ByteArray) (0 : Int))) j)))))))))))))) = (fun x : S_head_field => (S_head_field.d x)) ((fun j => if j = 11 then (S_head_field.mk (⟨#[100, 112, 111, 114, 116]⟩ : ByteArray) (12 : Int)) else (fun j => if j = 10 then (S_head_field.mk (⟨#[115, 112, 111, 114, 116]⟩ : ByteArray) (12 : Int)) else (fun j => if j = 9 then (S_head_field.mk (⟨#[116, 111, 115]⟩ : ByteArray) (8 : Int)) else (fun j => if j = 8 then (S_head_field.mk (⟨#[112, 114, 111, 116, 111]⟩ : ByteArray) (8 : Int)) else (fun j => if j = 7 then (S_head_field.mk (⟨#[100, 115, 116]⟩ : ByteArray) (32 : Int)) else (fun j => if j = 6 then (S_head_field.mk (⟨#[115, 114, 99]⟩ : ByteArray) (32 : Int)) else (fun j => if j = 5 then (S_head_field.mk (⟨#[112, 99, 112]⟩ : ByteArray) (4 : Int)) else (fun j => if j = 4 then (S_head_field.mk (⟨#[118, 108, 97, 110]⟩ : ByteArray) (12 : Int)) else (fun j => if j = 3 then (S_head_field.mk (⟨#[101, 116, 121, 112, 101]⟩ : ByteArray) (16 : Int)) else (fun j => if j = 2 then (S_head_field.mk (⟨#[101, 100, 115, 116]⟩ : ByteArray) (48 : Int)) else (fun j => if j = 1 then (S_head_field.mk (⟨#[101, 115, 114, 99]⟩ : ByteArray) (48 : Int)) else (fun j => if j = 0 then (S_head_field.mk (⟨#[105, 110]⟩ : ByteArray) (16 : Int)) else (fun _ => (S_head_field.mk (⟨#[]⟩ : ByteArray) (0 : Int))) j) j) j) j) j) j) j) j) j) j) j) j) j) from (d_ite (f := fun x : S_head_field => (S_head_field.d x)) rfl (d_ite (f := fun x : S_head_field => (S_head_field.d x)) rfl (d_ite (f := fun x : S_head_field => (S_head_field.d x)) rfl (d_ite (f := fun x : S_head_field => (S_head_field.d x)) rfl (d_ite (f := fun x : S_head_field => (S_head_field.d x)) rfl (d_ite (f := fun x : S_head_field => (S_head_field.d x)) rfl (d_ite (f := fun x : S_head_field => (S_head_field.d x)) rfl (d_ite (f := fun x : S_head_field => (S_head_field.d x)) rfl (d_ite (f := fun x : S_head_field => (S_head_field.d x)) rfl (d_ite (f := fun x : S_head_field => (S_head_field.d x)) rfl (d_ite (f := fun x : S_head_field => (S_head_field.d x)) rfl (d_ite (f := fun x : S_head_field => (S_head_field.d x)) rfl rfl)))))))))))))) ?_
  rw [← Option.some.inj h] at hk
  obtain rfl : d = (S_head_field.A 12 (fun j => if j = 11 then (S_head_field.mk (⟨#[100, 112, 111, 114, 116]⟩ : ByteArray) (12 : Int)) else (fun j => if j = 10 then (S_head_field.mk (⟨#[115, 112, 111, 114, 116]⟩ : ByteArray) (12 : Int)) else (fun j => if j = 9 then (S_head_field.mk (⟨#[116, 111, 115]⟩ : ByteArray) (8 : Int)) else (fun j => if j = 8 then (S_head_field.mk (⟨#[112, 114, 111, 116, 111]⟩ : ByteArray) (8 : Int)) else (fun j => if j = 7 then (S_head_field.mk (⟨#[100, 115, 116]⟩ : ByteArray) (32 : Int)) else (fun j => if j = 6 then (S_head_field.mk (⟨#[115, 114, 99]⟩ : ByteArray) (32 : Int)) else (fun j => if j = 5 then (S_head_field.mk (⟨#[112, 99, 112]⟩ : ByteArray) (4 : Int)) else (fun j => if j = 4 then (S_head_field.mk (⟨#[118, 108, 97, 110]⟩ : ByteArray) (12 : Int)) else (fun j => if j = 3 then (S_head_field.mk (⟨#[101, 116, 121, 112, 101]⟩ : ByteArray) (16 : Int)) else (fun j => if j = 2 then (S_head_field.mk (⟨#[101, 100, 115, 116]⟩ : ByteArray) (48 : Int)) else (fun j => if j = 1 then (S_head_field.mk (⟨#[101, 115, 114, 99]⟩ : ByteArray) (48 : Int)) else (fun j => if j = 0 then (S_head_field.mk (⟨#[105, 110]⟩ : ByteArray) (16 : Int)) else (fun _ => (S_head_field.mk (⟨#[]⟩ : ByteArray) (0 : Int))) j) j) j) j) j) j) j) j) j) j) j) j)) := hk
  exact runs_ret (by kernel_rfl) trivial (Nat.le_refl 0) trivial (fun _ _ => (S_head_field.inn _))

theorem fc_head_fields {r : (Nat → S_head_field)} (h : F_head_fields = some r) : FC Tryz.prog 131 [] [] (S_head_field.A 12 r) [] := by
  refine fc_of_runs (fn := Tryz.f131) (c := Tryz.f131.body.getD .skip) (by kernel_rfl) (by kernel_rfl) ?_
  refine runs_to (ts := []) (T' := T_head_fields) (env' := []) (h2 := []) (by kernel_rfl) (by kernel_rfl) trivial (Nat.le_refl _) trivial trivial ?_
  exact run_head_fields h rfl

def K_head_Size (d : D) (r : Int) : Prop := d = (D.int .i64 r)

noncomputable def T_head_Size : List Item := norm 200 [.code (Tryz.f126.body.getD .skip)]

/-- podesta/head.Size -/
def F_head_Size (t0 : Int) : Option Int :=
  (F_head_there t0).bind fun r0 =>
  ifs (!r0) (
    some (0 : Int)) (
    (F_head_fields).bind fun r1 =>
    chk (0 ≤ t0 ∧ t0 < ((12 : Nat) : Int)) <|
    chk (t0.toNat < 12) <|
    some (r1 t0.toNat).f1)

theorem run_head_Size (t0 : Int) {d : D} {r : Int} (h : F_head_Size t0 = some r) (hk : (K_head_Size d) r) : Runs Tryz.prog Tryz.f126 0 T_head_Size [(0, (D.int .i64 t0))] [] d [] := by
  unfold F_head_Size at h
  obtain ⟨r0, cr0, h⟩ := Option.bind_eq_some_iff.1 h
  refine runs_regions 2 [([], [0]), ([(.d (D.bool r0))], [0, 5])] (z := ([FC Tryz.prog 127 [(D.int .i64 t0)] [] (D.bool r0) [], All (List.map NoRow [(D.int .i64 t0)])], [(0, (D.int .i64 t0)), (5, (D.bool (!r0)))], [])) rfl (by kernel_rfl) (And.intro (fc_head_there t0 cr0) (And.intro (And.intro trivial trivial) trivial)) ?_
  refine runs_if (b := (!r0)) (by kernel_rfl) (fun hb => ?_) (fun hb => ?_)
  · replace h := ifs_true h hb
    refine runs_regions 1 [([], [2])] (z := ([], [(2, (D.int .i64 (0 : Int)))], [])) rfl (by kernel_rfl) trivial ?_
    rw [← Option.some.inj h] at hk
    obtain rfl : d = (D.int .i64 (0 : Int)) := hk
    exact runs_ret (by kernel_rfl) trivial (Nat.le_refl 0) trivial trivial
  · replace h := ifs_false h hb
    obtain ⟨r1, cr1, h⟩ := Option.bind_eq_some_iff.1 h
    obtain ⟨p0, h⟩ := chk_some h
    obtain ⟨p1, h⟩ := chk_some h
    refine runs_regions 1 [([(.d (S_head_field.A 12 r1))], [2])] (z := ([FC Tryz.prog 131 [] [] (S_head_field.A 12 r1) [], All (List.map NoRow []), (0 ≤ t0 ∧ t0 < ((12 : Nat) : Int)), (t0.toNat < 12)], [(2, (D.int .i64 (r1 t0.toNat).f1))], [])) rfl (by kernel_rfl) (And.intro (fc_head_fields cr1) (And.intro trivial (And.intro p0 (And.intro p1 trivial)))) ?_
    rw [← Option.some.inj h] at hk
    obtain rfl : d = (D.int .i64 (r1 t0.toNat).f1) := hk
    exact runs_ret (by kernel_rfl) trivial (Nat.le_refl 0) trivial trivial

theorem fc_head_Size (t0 : Int) {r : Int} (h : F_head_Size t0 = some r) : FC Tryz.prog 126 [(D.int .i64 t0)] [] (D.int .i64 r) [] := by
  refine fc_of_runs (fn := Tryz.f126) (c := Tryz.f126.body.getD .skip) (by kernel_rfl) (by kernel_rfl) ?_
  refine runs_to (ts := [0]) (T' := T_head_Size) (env' := [(0, (D.int .i64 t0))]) (h2 := []) (by kernel_rfl) (by kernel_rfl) trivial (Nat.le_refl _) trivial (And.intro trivial trivial) ?_
  exact run_head_Size t0 h rfl

def K_head_fits (d : D) (r : Bool) : Prop := d = (D.bool r)

noncomputable def T_head_fits : List Item := norm 200 [.code (Tryz.f117.body.getD .skip)]

/-- podesta/head.fits -/
def F_head_fits (t0 : Int) (t1 : Int) : Option Bool :=
  (F_head_Size t0).bind fun r0 =>
  chk (0 ≤ r0) <|
  some ((ishr .u64 t1 r0) == (0 : Int))

theorem run_head_fits (t0 : Int) (t1 : Int) {d : D} {r : Bool} (h : F_head_fits t0 t1 = some r) (hk : (K_head_fits d) r) : Runs Tryz.prog Tryz.f117 0 T_head_fits [(0, (D.int .i64 t0)), (1, (D.int .u64 t1))] [] d [] := by
  unfold F_head_fits at h
  obtain ⟨r0, cr0, h⟩ := Option.bind_eq_some_iff.1 h
  obtain ⟨p0, h⟩ := chk_some h
  refine runs_regions 2 [([], [0, 1]), ([(.d (D.int .i64 r0))], [4])] (z := ([FC Tryz.prog 126 [(D.int .i64 t0)] [] (D.int .i64 r0) [], All (List.map NoRow [(D.int .i64 t0)]), (0 ≤ r0)], [(4, (D.bool ((ishr .u64 t1 r0) == (0 : Int))))], [])) rfl (by kernel_rfl) (And.intro (fc_head_Size t0 cr0) (And.intro (And.intro trivial trivial) (And.intro p0 trivial))) ?_
  rw [← Option.some.inj h] at hk
  obtain rfl : d = (D.bool ((ishr .u64 t1 r0) == (0 : Int))) := hk
  exact runs_ret (by kernel_rfl) trivial (Nat.le_refl 0) trivial trivial

theorem fc_head_fits (t0 : Int) (t1 : Int) {r : Bool} (h : F_head_fits t0 t1 = some r) : FC Tryz.prog 117 [(D.int .i64 t0), (D.int .u64 t1)] [] (D.bool r) [] := by
  refine fc_of_runs (fn := Tryz.f117) (c := Tryz.f117.body.getD .skip) (by kernel_rfl) (by kernel_rfl) ?_
  refine runs_to (ts := [0, 1]) (T' := T_head_fits) (env' := [(0, (D.int .i64 t0)), (1, (D.int .u64 t1))]) (h2 := []) (by kernel_rfl) (by kernel_rfl) trivial (Nat.le_refl _) trivial (And.intro trivial (And.intro trivial trivial)) ?_
  exact run_head_fits t0 t1 h rfl

def K_head_Sound (d : D) (r : Bool) : Prop := d = (D.bool r)

noncomputable def T_head_Sound : List Item := norm 200 [.code (Tryz.f108.body.getD .skip)]

noncomputable def T_head_Sound_L1 : List Item := norm 200 (nxt (nxt T_head_Sound))

noncomputable def X_head_Sound_L1T : List Item := norm 200 (cndF (nxt (nxt (nxt T_head_Sound))))

abbrev E_head_Sound_L1 := Unit

def N_head_Sound_L1 (_fu : Nat) (t5 : (Nat → Int)) (d : D) (s : Int) : Prop := Runs Tryz.prog Tryz.f108 0 T_head_Sound_L1 [(5, (D.ints .u64 12 t5)), (6, (D.int .i64 s))] [] d []

def X_head_Sound_L1 (_fu : Nat) (_t5 : (Nat → Int)) (d : D) : E_head_Sound_L1 ⊕ Bool → Prop
  | .inl _ => Runs Tryz.prog Tryz.f108 0 X_head_Sound_L1T [] [] d []
  | .inr o => (K_head_Sound d) o

def F_head_Sound_L1 (_fu : Nat) (t5 : (Nat → Int)) (t6 : Int) : Option (Lo Int E_head_Sound_L1 Bool) :=
  ifs (decide (t6 < (12 : Int))) (
    chk (0 ≤ t6 ∧ t6 < ((12 : Nat) : Int)) <|
    chk (t6.toNat < 12) <|
    (F_head_fits t6 (t5 t6.toNat)).bind fun r0 =>
    ifs (!r0) (
      some (.ret false)) (
      some (.next (IntKind.wrap .i64 (t6 + (1 : Int)))))) (
    some (.exit ()))

theorem run_head_Sound_L1 (fu : Nat) (t5 : (Nat → Int)) (t6 : Int) {d : D} {o : (Lo Int E_head_Sound_L1 Bool)} (h : F_head_Sound_L1 fu t5 t6 = some o) (hk : (Lo.post (N_head_Sound_L1 fu t5 d) (X_head_Sound_L1 fu t5 d)) o) : Runs Tryz.prog Tryz.f108 0 T_head_Sound_L1 [(5, (D.ints .u64 12 t5)), (6, (D.int .i64 t6))] [] d [] := by
  unfold F_head_Sound_L1 at h
  refine runs_regions 1 [([], [5, 6, 7])] (z := ([], [(5, (D.ints .u64 12 t5)), (6, (D.int .i64 t6)), (7, (D.bool (decide (t6 < (12 : Int)))))], [])) rfl (by kernel_rfl) trivial ?_
  refine runs_if (b := (decide (t6 < (12 : Int)))) (by kernel_rfl) (fun hb => ?_) (fun hb => ?_)
  · replace h := ifs_true h hb
    obtain ⟨p0, h⟩ := chk_some h
    obtain ⟨p1, h⟩ := chk_some h
    obtain ⟨r0, cr0, h⟩ := Option.bind_eq_some_iff.1 h
    refine runs_regions 2 [([], [3, 4, 5, 6]), ([(.d (D.bool r0))], [5, 6, 13])] (z := ([(0 ≤ t6 ∧ t6 < ((12 : Nat) : Int)), (t6.toNat < 12), FC Tryz.prog 117 [(D.int .i64 t6), (D.int .u64 (t5 t6.toNat))] [] (D.bool r0) [], All (List.map NoRow [(D.int .i64 t6), (D.int .u64 (t5 t6.toNat))])], [(5, (D.ints .u64 12 t5)), (6, (D.int .i64 t6)), (13, (D.bool (!r0)))], [])) rfl (by kernel_rfl) (And.intro p0 (And.intro p1 (And.intro (fc_head_fits t6 (t5 t6.toNat) cr0) (And.intro (And.intro trivial (And.intro trivial trivial)) trivial)))) ?_
    refine runs_if (b := (!r0)) (by kernel_rfl) (fun hb => ?_) (fun hb => ?_)
    · replace h := ifs_true h hb
      refine runs_regions 1 [([], [2])] (z := ([], [(2, (D.bool false))], [])) rfl (by kernel_rfl) trivial ?_
      rw [← Option.some.inj h] at hk
      obtain rfl : d = (D.bool false) := hk
      exact runs_ret (by kernel_rfl) trivial (Nat.le_refl 0) trivial trivial
    · replace h := ifs_false h hb
      refine runs_regions 1 [([], [5, 6])] (z := ([], [(5, (D.ints .u64 12 t5)), (6, (D.int .i64 (IntKind.wrap .i64 (t6 + (1 : Int)))))], [])) rfl (by kernel_rfl) trivial ?_
      rw [← Option.some.inj h] at hk
      refine runs_to (ts := [5, 6]) (T' := T_head_Sound_L1) (env' := [(5, (D.ints .u64 12 t5)), (6, (D.int .i64 (IntKind.wrap .i64 (t6 + (1 : Int)))))]) (h2 := []) (by kernel_rfl) (by kernel_rfl) trivial (Nat.zero_le _) trivial (And.intro trivial (And.intro trivial trivial)) ?_
      exact hk
  · replace h := ifs_false h hb
    rw [← Option.some.inj h] at hk
    refine runs_to (ts := []) (T' := X_head_Sound_L1T) (env' := []) (h2 := []) (by kernel_rfl) (by kernel_rfl) trivial (Nat.zero_le _) trivial trivial ?_
    exact hk

theorem iter_head_Sound_L1 (fu : Nat) (t5 : (Nat → Int)) {d : D} (k : Nat) (s : Int) {o : E_head_Sound_L1 ⊕ Bool} (h : iter (fun s => F_head_Sound_L1 fu t5 s) k s = some o) (hx : X_head_Sound_L1 fu t5 d o) : N_head_Sound_L1 fu t5 d s :=
  iter_post (K := N_head_Sound_L1 fu t5 d) (X := X_head_Sound_L1 fu t5 d) (fun s _ h hk => run_head_Sound_L1 fu t5 s h hk) k s o h hx

/-- podesta/head.Sound -/
def F_head_Sound (fu : Nat) (t0 : (Nat → Int)) : Option Bool :=
  after (iter (fun s => F_head_Sound_L1 fu t0 s) fu (0 : Int)) fun _ =>
  some true

theorem run_head_Sound (fu : Nat) (t0 : (Nat → Int)) {d : D} {r : Bool} (h : F_head_Sound fu t0 = some r) (hk : (K_head_Sound d) r) : Runs Tryz.prog Tryz.f108 0 T_head_Sound [(0, (D.ints .u64 12 t0))] [] d [] := by
  unfold F_head_Sound at h
  refine runs_regions 2 [([], [1]), ([], [5, 6])] (z := ([], [(5, (D.ints .u64 12 t0)), (6, (D.int .i64 (0 : Int)))], [some (.box (D.ints .u64 12 t0))])) rfl (by kernel_rfl) trivial ?_
  refine runs_to (ts := [5, 6]) (T' := T_head_Sound_L1) (env' := [(5, (D.ints .u64 12 t0)), (6, (D.int .i64 (0 : Int)))]) (h2 := []) (by kernel_rfl) (by kernel_rfl) trivial (Nat.zero_le _) trivial (And.intro trivial (And.intro trivial trivial)) ?_
  rcases after_some h with ⟨e3, hi, h⟩ | hi
  · refine iter_head_Sound_L1 fu t0 fu (0 : Int) hi ?_
    show Runs Tryz.prog Tryz.f108 0 X_head_Sound_L1T [] [] d []
    refine runs_regions 1 [([], [2])] (z := ([], [(2, (D.bool true))], [])) rfl (by kernel_rfl) trivial ?_
    rw [← Option.some.inj h] at hk
    obtain rfl : d = (D.bool true) := hk
    exact runs_ret (by kernel_rfl) trivial (Nat.le_refl 0) trivial trivial
  · exact iter_head_Sound_L1 fu t0 fu (0 : Int) hi hk

theorem fc_head_Sound (fu : Nat) (t0 : (Nat → Int)) {r : Bool} (h : F_head_Sound fu t0 = some r) : FC Tryz.prog 108 [(D.ints .u64 12 t0)] [] (D.bool r) [] := by
  refine fc_of_runs (fn := Tryz.f108) (c := Tryz.f108.body.getD .skip) (by kernel_rfl) (by kernel_rfl) ?_
  refine runs_to (ts := [0]) (T' := T_head_Sound) (env' := [(0, (D.ints .u64 12 t0))]) (h2 := []) (by kernel_rfl) (by kernel_rfl) trivial (Nat.le_refl _) trivial (And.intro trivial trivial) ?_
  exact run_head_Sound fu t0 h rfl

def K_cube_Sound (d : D) (r : Bool) : Prop := d = (D.bool r)

noncomputable def T_cube_Sound : List Item := norm 200 [.code (Tryz.f89.body.getD .skip)]

noncomputable def T_cube_Sound_L1 : List Item := norm 200 (nxt (cndF (nxt (nxt T_cube_Sound))))

noncomputable def X_cube_Sound_L1T : List Item := norm 200 (cndF (nxt (nxt (cndF (nxt (nxt T_cube_Sound))))))

abbrev E_cube_Sound_L1 := Unit

def N_cube_Sound_L1 (_fu : Nat) (t10 : (Nat → Int)) (m0 : S_api_Cube) (d : D) (s : Int) : Prop := Runs Tryz.prog Tryz.f89 0 T_cube_Sound_L1 [(1, (D.ptr 0 [])), (10, (D.ints .u64 12 t10)), (11, (D.int .i64 s))] [some (.box (S_api_Cube.d m0))] d []

def X_cube_Sound_L1 (_fu : Nat) (_t10 : (Nat → Int)) (_m0 : S_api_Cube) (d : D) : E_cube_Sound_L1 ⊕ Bool → Prop
  | .inl _ => Runs Tryz.prog Tryz.f89 0 X_cube_Sound_L1T [] [] d []
  | .inr o => (K_cube_Sound d) o

def F_cube_Sound_L1 (_fu : Nat) (t10 : (Nat → Int)) (m0 : S_api_Cube) (t11 : Int) : Option (Lo Int E_cube_Sound_L1 Bool) :=
  ifs (decide (t11 < (12 : Int))) (
    chk (0 ≤ t11 ∧ t11 < ((12 : Nat) : Int)) <|
    chk (t11.toNat < 12) <|
    chk (0 ≤ t11 ∧ t11 < ((12 : Nat) : Int)) <|
    chk (t11.toNat < 12) <|
    ifs ((iandn .u64 (t10 t11.toNat) (m0.f1 t11.toNat)) != (0 : Int)) (
      some (.ret false)) (
      some (.next (IntKind.wrap .i64 (t11 + (1 : Int)))))) (
    some (.exit ()))

theorem run_cube_Sound_L1 (fu : Nat) (t10 : (Nat → Int)) (m0 : S_api_Cube) (t11 : Int) {d : D} {o : (Lo Int E_cube_Sound_L1 Bool)} (h : F_cube_Sound_L1 fu t10 m0 t11 = some o) (hk : (Lo.post (N_cube_Sound_L1 fu t10 m0 d) (X_cube_Sound_L1 fu t10 m0 d)) o) : Runs Tryz.prog Tryz.f89 0 T_cube_Sound_L1 [(1, (D.ptr 0 [])), (10, (D.ints .u64 12 t10)), (11, (D.int .i64 t11))] [some (.box (S_api_Cube.d m0))] d [] := by
  unfold F_cube_Sound_L1 at h
  refine runs_regions 1 [([], [1, 10, 11, 12])] (z := ([], [(1, (D.ptr 0 [])), (10, (D.ints .u64 12 t10)), (11, (D.int .i64 t11)), (12, (D.bool (decide (t11 < (12 : Int)))))], [some (.box (S_api_Cube.d m0))])) rfl (by kernel_rfl) trivial ?_
  refine runs_if (b := (decide (t11 < (12 : Int)))) (by kernel_rfl) (fun hb => ?_) (fun hb => ?_)
  · replace h := ifs_true h hb
    obtain ⟨p0, h⟩ := chk_some h
    obtain ⟨p1, h⟩ := chk_some h
    obtain ⟨p2, h⟩ := chk_some h
    obtain ⟨p3, h⟩ := chk_some h
    refine runs_regions 2 [([], [1, 3, 4, 10, 11]), ([], [1, 10, 11, 21])] (z := ([(0 ≤ t11 ∧ t11 < ((12 : Nat) : Int)), (t11.toNat < 12), (0 ≤ t11 ∧ t11 < ((12 : Nat) : Int)), (t11.toNat < 12)], [(1, (D.ptr 0 [])), (10, (D.ints .u64 12 t10)), (11, (D.int .i64 t11)), (21, (D.bool ((iandn .u64 (t10 t11.toNat) (m0.f1 t11.toNat)) != (0 : Int))))], [some (.box (S_api_Cube.d m0))])) rfl (by kernel_rfl) (And.intro p0 (And.intro p1 (And.intro p2 (And.intro p3 trivial)))) ?_
    refine runs_if (b := ((iandn .u64 (t10 t11.toNat) (m0.f1 t11.toNat)) != (0 : Int))) (by kernel_rfl) (fun hb => ?_) (fun hb => ?_)
    · replace h := ifs_true h hb
      refine runs_regions 1 [([], [2])] (z := ([], [(2, (D.bool false))], [some (.box (S_api_Cube.d m0))])) rfl (by kernel_rfl) trivial ?_
      rw [← Option.some.inj h] at hk
      obtain rfl : d = (D.bool false) := hk
      exact runs_ret (by kernel_rfl) trivial (Nat.le_refl 0) trivial trivial
    · replace h := ifs_false h hb
      refine runs_regions 1 [([], [1, 10, 11])] (z := ([], [(1, (D.ptr 0 [])), (10, (D.ints .u64 12 t10)), (11, (D.int .i64 (IntKind.wrap .i64 (t11 + (1 : Int)))))], [some (.box (S_api_Cube.d m0))])) rfl (by kernel_rfl) trivial ?_
      rw [← Option.some.inj h] at hk
      refine runs_to (ts := [1, 10, 11]) (T' := T_cube_Sound_L1) (env' := [(1, (D.ptr 0 [])), (10, (D.ints .u64 12 t10)), (11, (D.int .i64 (IntKind.wrap .i64 (t11 + (1 : Int)))))]) (h2 := [some (.box (S_api_Cube.d m0))]) (by kernel_rfl) (by kernel_rfl) (And.intro (.inr rfl) trivial) (Nat.zero_le _) (And.intro (S_api_Cube.inn _) trivial) (And.intro (bel_of rfl) (And.intro trivial (And.intro trivial trivial))) ?_
      exact hk
  · replace h := ifs_false h hb
    rw [← Option.some.inj h] at hk
    refine runs_to (ts := []) (T' := X_cube_Sound_L1T) (env' := []) (h2 := []) (by kernel_rfl) (by kernel_rfl) trivial (Nat.zero_le _) trivial trivial ?_
    exact hk

theorem iter_cube_Sound_L1 (fu : Nat) (t10 : (Nat → Int)) (m0 : S_api_Cube) {d : D} (k : Nat) (s : Int) {o : E_cube_Sound_L1 ⊕ Bool} (h : iter (fun s => F_cube_Sound_L1 fu t10 m0 s) k s = some o) (hx : X_cube_Sound_L1 fu t10 m0 d o) : N_cube_Sound_L1 fu t10 m0 d s :=
  iter_post (K := N_cube_Sound_L1 fu t10 m0 d) (X := X_cube_Sound_L1 fu t10 m0 d) (fun s _ h hk => run_cube_Sound_L1 fu t10 m0 s h hk) k s o h hx

/-- podesta/cube.Sound -/
def F_cube_Sound (fu : Nat) (t0 : S_api_Cube) : Option Bool :=
  (F_head_Sound fu t0.f1).bind fun r0 =>
  ifs (!r0) (
    some false) (
    after (iter (fun s => F_cube_Sound_L1 fu t0.f0 t0 s) fu (0 : Int)) fun _ =>
    some true)

theorem run_cube_Sound (fu : Nat) (t0 : S_api_Cube) {d : D} {r : Bool} (h : F_cube_Sound fu t0 = some r) (hk : (K_cube_Sound d) r) : Runs Tryz.prog Tryz.f89 0 T_cube_Sound [(0, (S_api_Cube.d t0))] [] d [] := by
  unfold F_cube_Sound at h
  obtain ⟨r0, cr0, h⟩ := Option.bind_eq_some_iff.1 h
  refine runs_regions 2 [([], [1]), ([(.d (D.bool r0))], [1, 8])] (z := ([FC Tryz.prog 108 [(D.ints .u64 12 t0.f1)] [] (D.bool r0) [], All (List.map NoRow [(D.ints .u64 12 t0.f1)])], [(1, (D.ptr 0 [])), (8, (D.bool (!r0)))], [some (.box (S_api_Cube.d t0))])) rfl (by kernel_rfl) (And.intro (fc_head_Sound fu t0.f1 cr0) (And.intro (And.intro trivial trivial) trivial)) ?_
  refine runs_if (b := (!r0)) (by kernel_rfl) (fun hb => ?_) (fun hb => ?_)
  · replace h := ifs_true h hb
    refine runs_regions 1 [([], [2])] (z := ([], [(2, (D.bool false))], [some (.box (S_api_Cube.d t0))])) rfl (by kernel_rfl) trivial ?_
    rw [← Option.some.inj h] at hk
    obtain rfl : d = (D.bool false) := hk
    exact runs_ret (by kernel_rfl) trivial (Nat.le_refl 0) trivial trivial
  · replace h := ifs_false h hb
    refine runs_regions 1 [([], [1, 10, 11])] (z := ([], [(1, (D.ptr 0 [])), (10, (D.ints .u64 12 t0.f0)), (11, (D.int .i64 (0 : Int)))], [some (.box (S_api_Cube.d t0))])) rfl (by kernel_rfl) trivial ?_
    refine runs_to (ts := [1, 10, 11]) (T' := T_cube_Sound_L1) (env' := [(1, (D.ptr 0 [])), (10, (D.ints .u64 12 t0.f0)), (11, (D.int .i64 (0 : Int)))]) (h2 := [some (.box (S_api_Cube.d t0))]) (by kernel_rfl) (by kernel_rfl) (And.intro (.inr rfl) trivial) (Nat.zero_le _) (And.intro (S_api_Cube.inn _) trivial) (And.intro (bel_of rfl) (And.intro trivial (And.intro trivial trivial))) ?_
    rcases after_some h with ⟨e5, hi, h⟩ | hi
    · refine iter_cube_Sound_L1 fu t0.f0 t0 fu (0 : Int) hi ?_
      show Runs Tryz.prog Tryz.f89 0 X_cube_Sound_L1T [] [] d []
      refine runs_regions 1 [([], [2])] (z := ([], [(2, (D.bool true))], [])) rfl (by kernel_rfl) trivial ?_
      rw [← Option.some.inj h] at hk
      obtain rfl : d = (D.bool true) := hk
      exact runs_ret (by kernel_rfl) trivial (Nat.le_refl 0) trivial trivial
    · exact iter_cube_Sound_L1 fu t0.f0 t0 fu (0 : Int) hi hk

theorem fc_cube_Sound (fu : Nat) (t0 : S_api_Cube) {r : Bool} (h : F_cube_Sound fu t0 = some r) : FC Tryz.prog 89 [(S_api_Cube.d t0)] [] (D.bool r) [] := by
  refine fc_of_runs (fn := Tryz.f89) (c := Tryz.f89.body.getD .skip) (by kernel_rfl) (by kernel_rfl) ?_
  refine runs_to (ts := [0]) (T' := T_cube_Sound) (env' := [(0, (S_api_Cube.d t0))]) (h2 := []) (by kernel_rfl) (by kernel_rfl) trivial (Nat.le_refl _) trivial (And.intro (S_api_Cube.inn _) trivial) ?_
  exact run_cube_Sound fu t0 h rfl

def K_head_Set (d : D) (r : ((Nat → Int) × Int)) : Prop := d = (D.tup (D.cons (D.ints .u64 12 r.1) (D.cons (D.int .i64 r.2) D.nil)))

noncomputable def T_head_Set : List Item := norm 200 [.code (Tryz.f119.body.getD .skip)]

/-- podesta/head.Set -/
def F_head_Set (t0 : (Nat → Int)) (t1 : Int) (t2 : Int) : Option ((Nat → Int) × Int) :=
  (F_head_there t1).bind fun r0 =>
  ifs (!r0) (
    some ((fun _ => 0), (1 : Int))) (
    (F_head_fits t1 t2).bind fun r1 =>
    ifs (!r1) (
      some ((fun _ => 0), (13 : Int))) (
      chk (0 ≤ t1 ∧ t1 < ((12 : Nat) : Int)) <|
      chk (t1.toNat < 12) <|
      some ((fun j => if j = t1.toNat then t2 else t0 j), (0 : Int))))

theorem run_head_Set (t0 : (Nat → Int)) (t1 : Int) (t2 : Int) {d : D} {r : ((Nat → Int) × Int)} (h : F_head_Set t0 t1 t2 = some r) (hk : (K_head_Set d) r) : Runs Tryz.prog Tryz.f119 0 T_head_Set [(0, (D.ints .u64 12 t0)), (1, (D.int .i64 t1)), (2, (D.int .u64 t2))] [] d [] := by
  unfold F_head_Set at h
  obtain ⟨r0, cr0, h⟩ := Option.bind_eq_some_iff.1 h
  refine runs_regions 2 [([], [1, 2, 3, 6]), ([(.d (D.bool r0))], [1, 2, 3, 6, 8])] (z := ([FC Tryz.prog 127 [(D.int .i64 t1)] [] (D.bool r0) [], All (List.map NoRow [(D.int .i64 t1)])], [(1, (D.int .i64 t1)), (2, (D.int .u64 t2)), (3, (D.ptr 0 [])), (6, (D.ptr 1 [])), (8, (D.bool (!r0)))], [some (.box (D.ints .u64 12 t0)), some (.box (D.ints .u64 12 (fun _ => 0)))])) rfl (by kernel_rfl) (And.intro (fc_head_there t1 cr0) (And.intro (And.intro trivial trivial) trivial)) ?_
  refine runs_if (b := (!r0)) (by kernel_rfl) (fun hb => ?_) (fun hb => ?_)
  · replace h := ifs_true h hb
    refine runs_regions 1 [([], [6, 7])] (z := ([], [(6, (D.ptr 1 [])), (7, (D.int .i64 (1 : Int)))], [some (.box (D.ints .u64 12 t0)), some (.box (D.ints .u64 12 (fun _ => 0)))])) rfl (by kernel_rfl) trivial ?_
    rw [← Option.some.inj h] at hk
    obtain rfl : d = (D.tup (D.cons (D.ints .u64 12 (fun _ => 0)) (D.cons (D.int .i64 (1 : Int)) D.nil))) := hk
    exact runs_ret (by kernel_rfl) trivial (Nat.le_refl 0) trivial (And.intro trivial (And.intro trivial trivial))
  · replace h := ifs_false h hb
    obtain ⟨r1, cr1, h⟩ := Option.bind_eq_some_iff.1 h
    refine runs_regions 1 [([(.d (D.bool r1))], [1, 2, 3, 6, 13])] (z := ([FC Tryz.prog 117 [(D.int .i64 t1), (D.int .u64 t2)] [] (D.bool r1) [], All (List.map NoRow [(D.int .i64 t1), (D.int .u64 t2)])], [(1, (D.int .i64 t1)), (2, (D.int .u64 t2)), (3, (D.ptr 0 [])), (6, (D.ptr 1 [])), (13, (D.bool (!r1)))], [some (.box (D.ints .u64 12 t0)), some (.box (D.ints .u64 12 (fun _ => 0)))])) rfl (by kernel_rfl) (And.intro (fc_head_fits t1 t2 cr1) (And.intro (And.intro trivial (And.intro trivial trivial)) trivial)) ?_
    refine runs_if (b := (!r1)) (by kernel_rfl) (fun hb => ?_) (fun hb => ?_)
    · replace h := ifs_true h hb
      refine runs_regions 1 [([], [6, 7])] (z := ([], [(6, (D.ptr 1 [])), (7, (D.int .i64 (13 : Int)))], [some (.box (D.ints .u64 12 t0)), some (.box (D.ints .u64 12 (fun _ => 0)))])) rfl (by kernel_rfl) trivial ?_
      rw [← Option.some.inj h] at hk
      obtain rfl : d = (D.tup (D.cons (D.ints .u64 12 (fun _ => 0)) (D.cons (D.int .i64 (13 : Int)) D.nil))) := hk
      exact runs_ret (by kernel_rfl) trivial (Nat.le_refl 0) trivial (And.intro trivial (And.intro trivial trivial))
    · replace h := ifs_false h hb
      obtain ⟨p0, h⟩ := chk_some h
      obtain ⟨p1, h⟩ := chk_some h
      refine runs_regions 2 [([], [3, 6]), ([], [6, 7])] (z := ([(0 ≤ t1 ∧ t1 < ((12 : Nat) : Int)), (t1.toNat < 12)], [(6, (D.ptr 1 [])), (7, (D.int .i64 (0 : Int)))], [some (.box (D.ints .u64 12 (fun j => if j = t1.toNat then t2 else t0 j))), some (.box (D.ints .u64 12 (fun j => if j = t1.toNat then t2 else t0 j)))])) rfl (by kernel_rfl) (And.intro p0 (And.intro p1 trivial)) ?_
      rw [← Option.some.inj h] at hk
      obtain rfl : d = (D.tup (D.cons (D.ints .u64 12 (fun j => if j = t1.toNat then t2 else t0 j)) (D.cons (D.int .i64 (0 : Int)) D.nil))) := hk
      exact runs_ret (by kernel_rfl) trivial (Nat.le_refl 0) trivial (And.intro trivial (And.intro trivial trivial))

theorem fc_head_Set (t0 : (Nat → Int)) (t1 : Int) (t2 : Int) {r : ((Nat → Int) × Int)} (h : F_head_Set t0 t1 t2 = some r) : FC Tryz.prog 119 [(D.ints .u64 12 t0), (D.int .i64 t1), (D.int .u64 t2)] [] (D.tup (D.cons (D.ints .u64 12 r.1) (D.cons (D.int .i64 r.2) D.nil))) [] := by
  refine fc_of_runs (fn := Tryz.f119) (c := Tryz.f119.body.getD .skip) (by kernel_rfl) (by kernel_rfl) ?_
  refine runs_to (ts := [0, 1, 2]) (T' := T_head_Set) (env' := [(0, (D.ints .u64 12 t0)), (1, (D.int .i64 t1)), (2, (D.int .u64 t2))]) (h2 := []) (by kernel_rfl) (by kernel_rfl) trivial (Nat.le_refl _) trivial (And.intro trivial (And.intro trivial (And.intro trivial trivial))) ?_
  exact run_head_Set t0 t1 t2 h rfl

def K_act_sound (d : D) (r : Bool) : Prop := d = (D.bool r)

noncomputable def T_act_sound : List Item := norm 200 [.code (Tryz.f111.body.getD .skip)]

/-- podesta/act.sound -/
def F_act_sound (t0 : S_api_Act) : Option Bool :=
  ifs (t0.f0 == (1 : Int)) (
    some (bif (bif (bif (decide (t0.f1 ≥ (1 : Int))) then (decide (t0.f1 ≤ (16 : Int))) else false) then (t0.f2 == (0 : Int)) else false) then (t0.f3 == (0 : Int)) else false)) (
    ifs (t0.f0 == (2 : Int)) (
      (F_head_Set (fun _ => 0) t0.f2 t0.f3).bind fun r0 =>
      some (bif (r0.2 == (0 : Int)) then (t0.f1 == (0 : Int)) else false)) (
      some ((t0.f0 == (3 : Int)) && ((t0.f1 == (0 : Int)) && ((t0.f2 == (0 : Int)) && ((t0.f3 == (0 : Int)) && true))))))

theorem run_act_sound (t0 : S_api_Act) {d : D} {r : Bool} (h : F_act_sound t0 = some r) (hk : (K_act_sound d) r) : Runs Tryz.prog Tryz.f111 0 T_act_sound [(0, (S_api_Act.d t0))] [] d [] := by
  unfold F_act_sound at h
  refine runs_regions 3 [([], [1]), ([], [1, 6]), ([], [1, 6, 7])] (z := ([], [(1, (D.ptr 0 [])), (6, (D.int .i64 t0.f0)), (7, (D.bool (t0.f0 == (1 : Int))))], [some (.box (S_api_Act.d t0))])) rfl (by kernel_rfl) trivial ?_
  refine runs_if (b := (t0.f0 == (1 : Int))) (by kernel_rfl) (fun hb => ?_) (fun hb => ?_)
  · replace h := ifs_true h hb
    refine runs_regions 1 [([], [2])] (z := ([((decide (t0.f1 ≥ (1 : Int))) = true → All [((decide (t0.f1 ≥ (1 : Int))) = true → (decide (t0.f1 ≥ (1 : Int))) = true)]), ((decide (t0.f1 ≥ (1 : Int))) = true → All [((decide (t0.f1 ≥ (1 : Int))) = true → (decide (t0.f1 ≥ (1 : Int))) = true)]), ((true && (decide (t0.f1 ≥ (1 : Int)))) = true → (decide (t0.f1 ≥ (1 : Int))) = true), ((bif (decide (t0.f1 ≥ (1 : Int))) then (decide (t0.f1 ≤ (16 : Int))) else false) = true → All [((bif (decide (t0.f1 ≥ (1 : Int))) then (decide (t0.f1 ≤ (16 : Int))) else false) = true → (bif (decide (t0.f1 ≥ (1 : Int))) then (decide (t0.f1 ≤ (16 : Int))) else false) = true)]), ((bif (decide (t0.f1 ≥ (1 : Int))) then (decide (t0.f1 ≤ (16 : Int))) else false) = true → All [((bif (decide (t0.f1 ≥ (1 : Int))) then (decide (t0.f1 ≤ (16 : Int))) else false) = true → (bif (decide (t0.f1 ≥ (1 : Int))) then (decide (t0.f1 ≤ (16 : Int))) else false) = true)]), ((true && (bif (decide (t0.f1 ≥ (1 : Int))) then (decide (t0.f1 ≤ (16 : Int))) else false)) = true → (bif (decide (t0.f1 ≥ (1 : Int))) then (decide (t0.f1 ≤ (16 : Int))) else false) = true), ((bif (bif (decide (t0.f1 ≥ (1 : Int))) then (decide (t0.f1 ≤ (16 : Int))) else false) then (t0.f2 == (0 : Int)) else false) = true → All [((bif (bif (decide (t0.f1 ≥ (1 : Int))) then (decide (t0.f1 ≤ (16 : Int))) else false) then (t0.f2 == (0 : Int)) else false) = true → (bif (bif (decide (t0.f1 ≥ (1 : Int))) then (decide (t0.f1 ≤ (16 : Int))) else false) then (t0.f2 == (0 : Int)) else false) = true)]), ((bif (bif (decide (t0.f1 ≥ (1 : Int))) then (decide (t0.f1 ≤ (16 : Int))) else false) then (t0.f2 == (0 : Int)) else false) = true → All [((bif (bif (decide (t0.f1 ≥ (1 : Int))) then (decide (t0.f1 ≤ (16 : Int))) else false) then (t0.f2 == (0 : Int)) else false) = true → (bif (bif (decide (t0.f1 ≥ (1 : Int))) then (decide (t0.f1 ≤ (16 : Int))) else false) then (t0.f2 == (0 : Int)) else false) = true)]), ((true && (bif (bif (decide (t0.f1 ≥ (1 : Int))) then (decide (t0.f1 ≤ (16 : Int))) else false) then (t0.f2 == (0 : Int)) else false)) = true → (bif (bif (decide (t0.f1 ≥ (1 : Int))) then (decide (t0.f1 ≤ (16 : Int))) else false) then (t0.f2 == (0 : Int)) else false) = true)], [(2, (D.bool (bif (bif (bif (decide (t0.f1 ≥ (1 : Int))) then (decide (t0.f1 ≤ (16 : Int))) else false) then (t0.f2 == (0 : Int)) else false) then (t0.f3 == (0 : Int)) else false)))], [some (.box (S_api_Act.d t0))])) rfl (by kernel_rfl) (And.intro (fun _ => (And.intro (by first | exact fun h => h | exact fun h => (Bool.and_eq_true_iff.1 h).1 | simp_all) trivial)) (And.intro (fun _ => (And.intro (by first | exact fun h => h | exact fun h => (Bool.and_eq_true_iff.1 h).1 | simp_all) trivial)) (And.intro (by first | exact fun h => h | exact fun h => (Bool.and_eq_true_iff.1 h).1 | simp_all) (And.intro (fun _ => (And.intro (by first | exact fun h => h | exact fun h => (Bool.and_eq_true_iff.1 h).1 | simp_all) trivial)) (And.intro (fun _ => (And.intro (by first | exact fun h => h | exact fun h => (Bool.and_eq_true_iff.1 h).1 | simp_all) trivial)) (And.intro (by first | exact fun h => h | exact fun h => (Bool.and_eq_true_iff.1 h).1 | simp_all) (And.intro (fun _ => (And.intro (by first | exact fun h => h | exact fun h => (Bool.and_eq_true_iff.1 h).1 | simp_all) trivial)) (And.intro (fun _ => (And.intro (by first | exact fun h => h | exact fun h => (Bool.and_eq_true_iff.1 h).1 | simp_all) trivial)) (And.intro (by first | exact fun h => h | exact fun h => (Bool.and_eq_true_iff.1 h).1 | simp_all) trivial))))))))) ?_
    rw [← Option.some.inj h] at hk
    obtain rfl : d = (D.bool (bif (bif (bif (decide (t0.f1 ≥ (1 : Int))) then (decide (t0.f1 ≤ (16 : Int))) else false) then (t0.f2 == (0 : Int)) else false) then (t0.f3 == (0 : Int)) else false)) := hk
    exact runs_ret (by kernel_rfl) trivial (Nat.le_refl 0) trivial trivial
  · replace h := ifs_false h hb
    refine runs_regions 1 [([], [1, 27])] (z := ([], [(1, (D.ptr 0 [])), (27, (D.bool (t0.f0 == (2 : Int))))], [some (.box (S_api_Act.d t0))])) rfl (by kernel_rfl) trivial ?_
    refine runs_if (b := (t0.f0 == (2 : Int))) (by kernel_rfl) (fun hb => ?_) (fun hb => ?_)
    · replace h := ifs_true h hb
      obtain ⟨r0, cr0, h⟩ := Option.bind_eq_some_iff.1 h
      refine runs_regions 2 [([(.d (D.tup (D.cons (D.ints .u64 12 r0.1) (D.cons (D.int .i64 r0.2) D.nil))))], [1, 4]), ([], [2])] (z := ([FC Tryz.prog 119 [(D.ints .u64 12 (fun _ => 0)), (D.int .i64 t0.f2), (D.int .u64 t0.f3)] [] (D.tup (D.cons (D.ints .u64 12 r0.1) (D.cons (D.int .i64 r0.2) D.nil))) [], All (List.map NoRow [(D.ints .u64 12 (fun _ => 0)), (D.int .i64 t0.f2), (D.int .u64 t0.f3)]), ((r0.2 == (0 : Int)) = true → All [((r0.2 == (0 : Int)) = true → (r0.2 == (0 : Int)) = true)]), ((r0.2 == (0 : Int)) = true → All [((r0.2 == (0 : Int)) = true → (r0.2 == (0 : Int)) = true)]), ((true && (r0.2 == (0 : Int))) = true → (r0.2 == (0 : Int)) = true)], [(2, (D.bool (bif (r0.2 == (0 : Int)) then (t0.f1 == (0 : Int)) else false)))], [some (.box (S_api_Act.d t0)), some (.box (D.ints .u64 12 r0.1))])) rfl (by kernel_rfl) (And.intro (fc_head_Set (fun _ => 0) t0.f2 t0.f3 cr0) (And.intro (And.intro trivial (And.intro trivial (And.intro trivial trivial))) (And.intro (fun _ => (And.intro (by first | exact fun h => h | exact fun h => (Bool.and_eq_true_iff.1 h).1 | simp_all) trivial)) (And.intro (fun _ => (And.intro (by first | exact fun h => h | exact fun h => (Bool.and_eq_true_iff.1 h).1 | simp_all) trivial)) (And.intro (by first | exact fun h => h | exact fun h => (Bool.and_eq_true_iff.1 h).1 | simp_all) trivial))))) ?_
      rw [← Option.some.inj h] at hk
      obtain rfl : d = (D.bool (bif (r0.2 == (0 : Int)) then (t0.f1 == (0 : Int)) else false)) := hk
      exact runs_ret (by kernel_rfl) trivial (Nat.le_refl 0) trivial trivial
    · replace h := ifs_false h hb
      refine runs_regions 1 [([], [2])] (z := ([], [(2, (D.bool ((t0.f0 == (3 : Int)) && ((t0.f1 == (0 : Int)) && ((t0.f2 == (0 : Int)) && ((t0.f3 == (0 : Int)) && true))))))], [some (.box (S_api_Act.d t0))])) rfl (by kernel_rfl) trivial ?_
      rw [← Option.some.inj h] at hk
      obtain rfl : d = (D.bool ((t0.f0 == (3 : Int)) && ((t0.f1 == (0 : Int)) && ((t0.f2 == (0 : Int)) && ((t0.f3 == (0 : Int)) && true))))) := hk
      exact runs_ret (by kernel_rfl) trivial (Nat.le_refl 0) trivial trivial

theorem fc_act_sound (t0 : S_api_Act) {r : Bool} (h : F_act_sound t0 = some r) : FC Tryz.prog 111 [(S_api_Act.d t0)] [] (D.bool r) [] := by
  refine fc_of_runs (fn := Tryz.f111) (c := Tryz.f111.body.getD .skip) (by kernel_rfl) (by kernel_rfl) ?_
  refine runs_to (ts := [0]) (T' := T_act_sound) (env' := [(0, (S_api_Act.d t0))]) (h2 := []) (by kernel_rfl) (by kernel_rfl) trivial (Nat.le_refl _) trivial (And.intro (S_api_Act.inn _) trivial) ?_
  exact run_act_sound t0 h rfl

def K_act_Sound_1 (d : D) (r : Bool) : Prop := d = (D.bool r)

noncomputable def T_act_Sound_1 : List Item := norm 200 [.code (Tryz.f110.body.getD .skip)]

/-- podesta/act.Sound 1 -/
def F_act_Sound_1 (t0 : S_api_Act) : Option Bool :=
  (F_act_sound t0).bind fun r0 =>
  some (!r0)

theorem run_act_Sound_1 (t0 : S_api_Act) {d : D} {r : Bool} (h : F_act_Sound_1 t0 = some r) (hk : (K_act_Sound_1 d) r) : Runs Tryz.prog Tryz.f110 0 T_act_Sound_1 [(0, (S_api_Act.d t0))] [] d [] := by
  unfold F_act_Sound_1 at h
  obtain ⟨r0, cr0, h⟩ := Option.bind_eq_some_iff.1 h
  refine runs_regions 2 [([], [1]), ([(.d (D.bool r0))], [2])] (z := ([FC Tryz.prog 111 [(S_api_Act.d t0)] [] (D.bool r0) [], All (List.map NoRow [(S_api_Act.d t0)])], [(2, (D.bool (!r0)))], [some (.box (S_api_Act.d t0))])) rfl (by kernel_rfl) (And.intro (fc_act_sound t0 cr0) (And.intro (And.intro (S_api_Act.inn _) trivial) trivial)) ?_
  rw [← Option.some.inj h] at hk
  obtain rfl : d = (D.bool (!r0)) := hk
  exact runs_ret (by kernel_rfl) trivial (Nat.le_refl 0) trivial trivial

theorem fc_act_Sound_1 (t0 : S_api_Act) {r : Bool} (h : F_act_Sound_1 t0 = some r) : FC Tryz.prog 110 [(S_api_Act.d t0)] [] (D.bool r) [] := by
  refine fc_of_runs (fn := Tryz.f110) (c := Tryz.f110.body.getD .skip) (by kernel_rfl) (by kernel_rfl) ?_
  refine runs_to (ts := [0]) (T' := T_act_Sound_1) (env' := [(0, (S_api_Act.d t0))]) (h2 := []) (by kernel_rfl) (by kernel_rfl) trivial (Nat.le_refl _) trivial (And.intro (S_api_Act.inn _) trivial) ?_
  exact run_act_Sound_1 t0 h rfl

def K_slices_IndexFunc_api_Act_act_Sound_1 (d : D) (r : Int) : Prop := d = (D.int .i64 r)

noncomputable def T_slices_IndexFunc_api_Act_act_Sound_1 : List Item := norm 200 [.code (Tryz.f118.body.getD .skip)]

noncomputable def T_slices_IndexFunc_api_Act_act_Sound_1_L1 : List Item := norm 200 (nxt (nxt T_slices_IndexFunc_api_Act_act_Sound_1))

noncomputable def X_slices_IndexFunc_api_Act_act_Sound_1_L1T : List Item := norm 200 (cndF (nxt (nxt (nxt T_slices_IndexFunc_api_Act_act_Sound_1))))

abbrev E_slices_IndexFunc_api_Act_act_Sound_1_L1 := Unit

def N_slices_IndexFunc_api_Act_act_Sound_1_L1 (_fu : Nat) (t0 : (Nat × (Nat → S_api_Act))) (t7 : Int) (d : D) (s : Int) : Prop := Runs Tryz.prog Tryz.f118 0 T_slices_IndexFunc_api_Act_act_Sound_1_L1 [(0, (S_api_Act.L t0.1 t0.2)), (1, (D.fn 110 D.nil)), (7, (D.int .i64 t7)), (8, (D.int .i64 s))] [] d []

def X_slices_IndexFunc_api_Act_act_Sound_1_L1 (_fu : Nat) (_t0 : (Nat × (Nat → S_api_Act))) (_t7 : Int) (d : D) : E_slices_IndexFunc_api_Act_act_Sound_1_L1 ⊕ Int → Prop
  | .inl _ => Runs Tryz.prog Tryz.f118 0 X_slices_IndexFunc_api_Act_act_Sound_1_L1T [] [] d []
  | .inr o => (K_slices_IndexFunc_api_Act_act_Sound_1 d) o

def F_slices_IndexFunc_api_Act_act_Sound_1_L1 (_fu : Nat) (t0 : (Nat × (Nat → S_api_Act))) (t7 : Int) (t8 : Int) : Option (Lo Int E_slices_IndexFunc_api_Act_act_Sound_1_L1 Int) :=
  ifs (decide (t8 < t7)) (
    chk (0 ≤ t8 ∧ t8 < ((t0.1 : Nat) : Int)) <|
    (F_act_Sound_1 (t0.2 t8.toNat)).bind fun r0 =>
    ifs r0 (
      some (.ret t8)) (
      some (.next (IntKind.wrap .i64 (t8 + (1 : Int)))))) (
    some (.exit ()))

theorem run_slices_IndexFunc_api_Act_act_Sound_1_L1 (fu : Nat) (t0 : (Nat × (Nat → S_api_Act))) (t7 : Int) (t8 : Int) {d : D} {o : (Lo Int E_slices_IndexFunc_api_Act_act_Sound_1_L1 Int)} (h : F_slices_IndexFunc_api_Act_act_Sound_1_L1 fu t0 t7 t8 = some o) (hk : (Lo.post (N_slices_IndexFunc_api_Act_act_Sound_1_L1 fu t0 t7 d) (X_slices_IndexFunc_api_Act_act_Sound_1_L1 fu t0 t7 d)) o) : Runs Tryz.prog Tryz.f118 0 T_slices_IndexFunc_api_Act_act_Sound_1_L1 [(0, (S_api_Act.L t0.1 t0.2)), (1, (D.fn 110 D.nil)), (7, (D.int .i64 t7)), (8, (D.int .i64 t8))] [] d [] := by
  unfold F_slices_IndexFunc_api_Act_act_Sound_1_L1 at h
  refine runs_regions 1 [([], [0, 1, 7, 8, 9])] (z := ([], [(0, (S_api_Act.L t0.1 t0.2)), (1, (D.fn 110 D.nil)), (7, (D.int .i64 t7)), (8, (D.int .i64 t8)), (9, (D.bool (decide (t8 < t7))))], [])) rfl (by kernel_rfl) trivial ?_
  refine runs_if (b := (decide (t8 < t7))) (by kernel_rfl) (fun hb => ?_) (fun hb => ?_)
  · replace h := ifs_true h hb
    obtain ⟨p0, h⟩ := chk_some h
    obtain ⟨r0, cr0, h⟩ := Option.bind_eq_some_iff.1 h
    refine runs_regions 2 [([], [0, 1, 5, 7, 8]), ([(.d (D.bool r0))], [0, 1, 5, 7, 8, 16])] (z := ([(0 ≤ t8 ∧ t8 < ((t0.1 : Nat) : Int)), FC Tryz.prog 110 [(S_api_Act.d (t0.2 t8.toNat))] [] (D.bool r0) [], All (List.map NoRow [(S_api_Act.d (t0.2 t8.toNat))])], [(0, (S_api_Act.L t0.1 t0.2)), (1, (D.fn 110 D.nil)), (5, (D.int .i64 t8)), (7, (D.int .i64 t7)), (8, (D.int .i64 t8)), (16, (D.bool r0))], [])) rfl (by kernel_rfl) (And.intro p0 (And.intro (fc_act_Sound_1 (t0.2 t8.toNat) cr0) (And.intro (And.intro (S_api_Act.inn _) trivial) trivial))) ?_
    refine runs_if (b := r0) (by kernel_rfl) (fun hb => ?_) (fun hb => ?_)
    · replace h := ifs_true h hb
      refine runs_regions 1 [([], [4])] (z := ([], [(4, (D.int .i64 t8))], [])) rfl (by kernel_rfl) trivial ?_
      rw [← Option.some.inj h] at hk
      obtain rfl : d = (D.int .i64 t8) := hk
      exact runs_ret (by kernel_rfl) trivial (Nat.le_refl 0) trivial trivial
    · replace h := ifs_false h hb
      refine runs_regions 1 [([], [0, 1, 7, 8])] (z := ([], [(0, (S_api_Act.L t0.1 t0.2)), (1, (D.fn 110 D.nil)), (7, (D.int .i64 t7)), (8, (D.int .i64 (IntKind.wrap .i64 (t8 + (1 : Int)))))], [])) rfl (by kernel_rfl) trivial ?_
      rw [← Option.some.inj h] at hk
      refine runs_to (ts := [0, 1, 7, 8]) (T' := T_slices_IndexFunc_api_Act_act_Sound_1_L1) (env' := [(0, (S_api_Act.L t0.1 t0.2)), (1, (D.fn 110 D.nil)), (7, (D.int .i64 t7)), (8, (D.int .i64 (IntKind.wrap .i64 (t8 + (1 : Int)))))]) (h2 := []) (by kernel_rfl) (by kernel_rfl) trivial (Nat.zero_le _) trivial (And.intro (fun _ _ => (S_api_Act.inn _)) (And.intro trivial (And.intro trivial (And.intro trivial trivial)))) ?_
      exact hk
  · replace h := ifs_false h hb
    rw [← Option.some.inj h] at hk
    refine runs_to (ts := []) (T' := X_slices_IndexFunc_api_Act_act_Sound_1_L1T) (env' := []) (h2 := []) (by kernel_rfl) (by kernel_rfl) trivial (Nat.zero_le _) trivial trivial ?_
    exact hk

theorem iter_slices_IndexFunc_api_Act_act_Sound_1_L1 (fu : Nat) (t0 : (Nat × (Nat → S_api_Act))) (t7 : Int) {d : D} (k : Nat) (s : Int) {o : E_slices_IndexFunc_api_Act_act_Sound_1_L1 ⊕ Int} (h : iter (fun s => F_slices_IndexFunc_api_Act_act_Sound_1_L1 fu t0 t7 s) k s = some o) (hx : X_slices_IndexFunc_api_Act_act_Sound_1_L1 fu t0 t7 d o) : N_slices_IndexFunc_api_Act_act_Sound_1_L1 fu t0 t7 d s :=
  iter_post (K := N_slices_IndexFunc_api_Act_act_Sound_1_L1 fu t0 t7 d) (X := X_slices_IndexFunc_api_Act_act_Sound_1_L1 fu t0 t7 d) (fun s _ h hk => run_slices_IndexFunc_api_Act_act_Sound_1_L1 fu t0 t7 s h hk) k s o h hx

/-- slices.IndexFunc[[]podesta/api.Act,podesta/api.Act] -/
def F_slices_IndexFunc_api_Act_act_Sound_1 (fu : Nat) (t0 : (Nat × (Nat → S_api_Act))) : Option Int :=
  after (iter (fun s => F_slices_IndexFunc_api_Act_act_Sound_1_L1 fu t0 ((t0.1 : Nat) : Int) s) fu (0 : Int)) fun _ =>
  some (-1 : Int)

theorem run_slices_IndexFunc_api_Act_act_Sound_1 (fu : Nat) (t0 : (Nat × (Nat → S_api_Act))) {d : D} {r : Int} (h : F_slices_IndexFunc_api_Act_act_Sound_1 fu t0 = some r) (hk : (K_slices_IndexFunc_api_Act_act_Sound_1 d) r) : Runs Tryz.prog Tryz.f118 0 T_slices_IndexFunc_api_Act_act_Sound_1 [(0, (S_api_Act.L t0.1 t0.2)), (1, (D.fn 110 D.nil))] [] d [] := by
  unfold F_slices_IndexFunc_api_Act_act_Sound_1 at h
  refine runs_regions 2 [([], [0, 1]), ([], [0, 1, 7, 8])] (z := ([], [(0, (S_api_Act.L t0.1 t0.2)), (1, (D.fn 110 D.nil)), (7, (D.int .i64 ((t0.1 : Nat) : Int))), (8, (D.int .i64 (0 : Int)))], [])) rfl (by kernel_rfl) trivial ?_
  refine runs_to (ts := [0, 1, 7, 8]) (T' := T_slices_IndexFunc_api_Act_act_Sound_1_L1) (env' := [(0, (S_api_Act.L t0.1 t0.2)), (1, (D.fn 110 D.nil)), (7, (D.int .i64 ((t0.1 : Nat) : Int))), (8, (D.int .i64 (0 : Int)))]) (h2 := []) (by kernel_rfl) (by kernel_rfl) trivial (Nat.zero_le _) trivial (And.intro (fun _ _ => (S_api_Act.inn _)) (And.intro trivial (And.intro trivial (And.intro trivial trivial)))) ?_
  rcases after_some h with ⟨e2, hi, h⟩ | hi
  · refine iter_slices_IndexFunc_api_Act_act_Sound_1_L1 fu t0 ((t0.1 : Nat) : Int) fu (0 : Int) hi ?_
    show Runs Tryz.prog Tryz.f118 0 X_slices_IndexFunc_api_Act_act_Sound_1_L1T [] [] d []
    refine runs_regions 1 [([], [4])] (z := ([], [(4, (D.int .i64 (-1 : Int)))], [])) rfl (by kernel_rfl) trivial ?_
    rw [← Option.some.inj h] at hk
    obtain rfl : d = (D.int .i64 (-1 : Int)) := hk
    exact runs_ret (by kernel_rfl) trivial (Nat.le_refl 0) trivial trivial
  · exact iter_slices_IndexFunc_api_Act_act_Sound_1_L1 fu t0 ((t0.1 : Nat) : Int) fu (0 : Int) hi hk

theorem fc_slices_IndexFunc_api_Act_act_Sound_1 (fu : Nat) (t0 : (Nat × (Nat → S_api_Act))) {r : Int} (h : F_slices_IndexFunc_api_Act_act_Sound_1 fu t0 = some r) : FC Tryz.prog 118 [(S_api_Act.L t0.1 t0.2), (D.fn 110 D.nil)] [] (D.int .i64 r) [] := by
  refine fc_of_runs (fn := Tryz.f118) (c := Tryz.f118.body.getD .skip) (by kernel_rfl) (by kernel_rfl) ?_
  refine runs_to (ts := [0, 1]) (T' := T_slices_IndexFunc_api_Act_act_Sound_1) (env' := [(0, (S_api_Act.L t0.1 t0.2)), (1, (D.fn 110 D.nil))]) (h2 := []) (by kernel_rfl) (by kernel_rfl) trivial (Nat.le_refl _) trivial (And.intro (fun _ _ => (S_api_Act.inn _)) (And.intro trivial trivial)) ?_
  exact run_slices_IndexFunc_api_Act_act_Sound_1 fu t0 h rfl

def K_slices_ContainsFunc_api_Act_act_Sound_1 (d : D) (r : Bool) : Prop := d = (D.bool r)

noncomputable def T_slices_ContainsFunc_api_Act_act_Sound_1 : List Item := norm 200 [.code (Tryz.f109.body.getD .skip)]

/-- slices.ContainsFunc[[]podesta/api.Act,podesta/api.Act] -/
def F_slices_ContainsFunc_api_Act_act_Sound_1 (fu : Nat) (t0 : (Nat × (Nat → S_api_Act))) : Option Bool :=
  (F_slices_IndexFunc_api_Act_act_Sound_1 fu t0).bind fun r0 =>
  some (decide (r0 ≥ (0 : Int)))

theorem run_slices_ContainsFunc_api_Act_act_Sound_1 (fu : Nat) (t0 : (Nat × (Nat → S_api_Act))) {d : D} {r : Bool} (h : F_slices_ContainsFunc_api_Act_act_Sound_1 fu t0 = some r) (hk : (K_slices_ContainsFunc_api_Act_act_Sound_1 d) r) : Runs Tryz.prog Tryz.f109 0 T_slices_ContainsFunc_api_Act_act_Sound_1 [(0, (S_api_Act.L t0.1 t0.2)), (1, (D.fn 110 D.nil))] [] d [] := by
  unfold F_slices_ContainsFunc_api_Act_act_Sound_1 at h
  obtain ⟨r0, cr0, h⟩ := Option.bind_eq_some_iff.1 h
  refine runs_regions 2 [([], [0, 1]), ([(.d (D.int .i64 r0))], [4])] (z := ([FC Tryz.prog 118 [(S_api_Act.L t0.1 t0.2), (D.fn 110 D.nil)] [] (D.int .i64 r0) [], All (List.map NoRow [(S_api_Act.L t0.1 t0.2), (D.fn 110 D.nil)])], [(4, (D.bool (decide (r0 ≥ (0 : Int)))))], [])) rfl (by kernel_rfl) (And.intro (fc_slices_IndexFunc_api_Act_act_Sound_1 fu t0 cr0) (And.intro (And.intro (fun _ _ => (S_api_Act.inn _)) (And.intro trivial trivial)) trivial)) ?_
  rw [← Option.some.inj h] at hk
  obtain rfl : d = (D.bool (decide (r0 ≥ (0 : Int)))) := hk
  exact runs_ret (by kernel_rfl) trivial (Nat.le_refl 0) trivial trivial

theorem fc_slices_ContainsFunc_api_Act_act_Sound_1 (fu : Nat) (t0 : (Nat × (Nat → S_api_Act))) {r : Bool} (h : F_slices_ContainsFunc_api_Act_act_Sound_1 fu t0 = some r) : FC Tryz.prog 109 [(S_api_Act.L t0.1 t0.2), (D.fn 110 D.nil)] [] (D.bool r) [] := by
  refine fc_of_runs (fn := Tryz.f109) (c := Tryz.f109.body.getD .skip) (by kernel_rfl) (by kernel_rfl) ?_
  refine runs_to (ts := [0, 1]) (T' := T_slices_ContainsFunc_api_Act_act_Sound_1) (env' := [(0, (S_api_Act.L t0.1 t0.2)), (1, (D.fn 110 D.nil))]) (h2 := []) (by kernel_rfl) (by kernel_rfl) trivial (Nat.le_refl _) trivial (And.intro (fun _ _ => (S_api_Act.inn _)) (And.intro trivial trivial)) ?_
  exact run_slices_ContainsFunc_api_Act_act_Sound_1 fu t0 h rfl

def K_act_Sound (d : D) (r : Bool) : Prop := d = (D.bool r)

noncomputable def T_act_Sound : List Item := norm 200 [.code (Tryz.f90.body.getD .skip)]

/-- podesta/act.Sound -/
def F_act_Sound (fu : Nat) (t0 : (Nat × (Nat → S_api_Act))) : Option Bool :=
  (callIf (decide (((t0.1 : Nat) : Int) ≤ (8 : Int))) (F_slices_ContainsFunc_api_Act_act_Sound_1 fu t0) false).bind fun r0 =>
  some (bif (decide (((t0.1 : Nat) : Int) ≤ (8 : Int))) then (!r0) else false)

theorem run_act_Sound (fu : Nat) (t0 : (Nat × (Nat → S_api_Act))) {d : D} {r : Bool} (h : F_act_Sound fu t0 = some r) (hk : (K_act_Sound d) r) : Runs Tryz.prog Tryz.f90 0 T_act_Sound [(0, (S_api_Act.L t0.1 t0.2))] [] d [] := by
  unfold F_act_Sound at h
  obtain ⟨r0, cr0, h⟩ := Option.bind_eq_some_iff.1 h
  refine runs_regions 2 [([], [0]), ([(.d (D.bool r0))], [2])] (z := ([((decide (((t0.1 : Nat) : Int) ≤ (8 : Int))) = true → All [((decide (((t0.1 : Nat) : Int) ≤ (8 : Int))) = true → (decide (((t0.1 : Nat) : Int) ≤ (8 : Int))) = true), FC Tryz.prog 109 [(S_api_Act.L t0.1 t0.2), (D.fn 110 D.nil)] [] (D.bool r0) [], All (List.map NoRow [(S_api_Act.L t0.1 t0.2), (D.fn 110 D.nil)])]), ((decide (((t0.1 : Nat) : Int) ≤ (8 : Int))) = true → All [((decide (((t0.1 : Nat) : Int) ≤ (8 : Int))) = true → (decide (((t0.1 : Nat) : Int) ≤ (8 : Int))) = true)]), ((true && (decide (((t0.1 : Nat) : Int) ≤ (8 : Int)))) = true → (decide (((t0.1 : Nat) : Int) ≤ (8 : Int))) = true)], [(2, (D.bool (bif (decide (((t0.1 : Nat) : Int) ≤ (8 : Int))) then (!r0) else false)))], [])) rfl (by kernel_rfl) (And.intro (fun hg => (And.intro (by first | exact fun h => h | exact fun h => (Bool.and_eq_true_iff.1 h).1 | simp_all) (And.intro (fc_slices_ContainsFunc_api_Act_act_Sound_1 fu t0 (callIf_some cr0 hg)) (And.intro (And.intro (fun _ _ => (S_api_Act.inn _)) (And.intro trivial trivial)) trivial)))) (And.intro (fun _ => (And.intro (by first | exact fun h => h | exact fun h => (Bool.and_eq_true_iff.1 h).1 | simp_all) trivial)) (And.intro (by first | exact fun h => h | exact fun h => (Bool.and_eq_true_iff.1 h).1 | simp_all) trivial))) ?_
  rw [← Option.some.inj h] at hk
  obtain rfl : d = (D.bool (bif (decide (((t0.1 : Nat) : Int) ≤ (8 : Int))) then (!r0) else false)) := hk
  exact runs_ret (by kernel_rfl) trivial (Nat.le_refl 0) trivial trivial

theorem fc_act_Sound (fu : Nat) (t0 : (Nat × (Nat → S_api_Act))) {r : Bool} (h : F_act_Sound fu t0 = some r) : FC Tryz.prog 90 [(S_api_Act.L t0.1 t0.2)] [] (D.bool r) [] := by
  refine fc_of_runs (fn := Tryz.f90) (c := Tryz.f90.body.getD .skip) (by kernel_rfl) (by kernel_rfl) ?_
  refine runs_to (ts := [0]) (T' := T_act_Sound) (env' := [(0, (S_api_Act.L t0.1 t0.2))]) (h2 := []) (by kernel_rfl) (by kernel_rfl) trivial (Nat.le_refl _) trivial (And.intro (fun _ _ => (S_api_Act.inn _)) trivial) ?_
  exact run_act_Sound fu t0 h rfl

def K_rule_span (d : D) (r : Bool) : Prop := d = (D.bool r)

noncomputable def T_rule_span : List Item := norm 200 [.code (Tryz.f106.body.getD .skip)]

/-- podesta/rule.span -/
def F_rule_span (t0 : Int) (t1 : Int) : Option Bool :=
  some (bif (decide (t0 ≥ (0 : Int))) then (decide (t0 ≤ t1)) else false)

theorem run_rule_span (t0 : Int) (t1 : Int) {d : D} {r : Bool} (h : F_rule_span t0 t1 = some r) (hk : (K_rule_span d) r) : Runs Tryz.prog Tryz.f106 0 T_rule_span [(0, (D.int .i64 t0)), (1, (D.int .i64 t1))] [] d [] := by
  unfold F_rule_span at h
  refine runs_regions 2 [([], [0, 1]), ([], [4])] (z := ([((decide (t0 ≥ (0 : Int))) = true → All [((decide (t0 ≥ (0 : Int))) = true → (decide (t0 ≥ (0 : Int))) = true), ((decide (t0 ≥ (0 : Int))) = true → (decide (t0 ≥ (0 : Int))) = true)]), ((true && (decide (t0 ≥ (0 : Int)))) = true → (decide (t0 ≥ (0 : Int))) = true)], [(4, (D.bool (bif (decide (t0 ≥ (0 : Int))) then (decide (t0 ≤ t1)) else false)))], [])) rfl (by kernel_rfl) (And.intro (fun _ => (And.intro (by first | exact fun h => h | exact fun h => (Bool.and_eq_true_iff.1 h).1 | simp_all) (And.intro (by first | exact fun h => h | exact fun h => (Bool.and_eq_true_iff.1 h).1 | simp_all) trivial))) (And.intro (by first | exact fun h => h | exact fun h => (Bool.and_eq_true_iff.1 h).1 | simp_all) trivial)) ?_
  rw [← Option.some.inj h] at hk
  obtain rfl : d = (D.bool (bif (decide (t0 ≥ (0 : Int))) then (decide (t0 ≤ t1)) else false)) := hk
  exact runs_ret (by kernel_rfl) trivial (Nat.le_refl 0) trivial trivial

theorem fc_rule_span (t0 : Int) (t1 : Int) {r : Bool} (h : F_rule_span t0 t1 = some r) : FC Tryz.prog 106 [(D.int .i64 t0), (D.int .i64 t1)] [] (D.bool r) [] := by
  refine fc_of_runs (fn := Tryz.f106) (c := Tryz.f106.body.getD .skip) (by kernel_rfl) (by kernel_rfl) ?_
  refine runs_to (ts := [0, 1]) (T' := T_rule_span) (env' := [(0, (D.int .i64 t0)), (1, (D.int .i64 t1))]) (h2 := []) (by kernel_rfl) (by kernel_rfl) trivial (Nat.le_refl _) trivial (And.intro trivial (And.intro trivial trivial)) ?_
  exact run_rule_span t0 t1 h rfl

def K_rule_Sound (d : D) (r : Bool) : Prop := d = (D.bool r)

noncomputable def T_rule_Sound : List Item := norm 200 [.code (Tryz.f87.body.getD .skip)]

/-- podesta/rule.Sound -/
def F_rule_Sound (fu : Nat) (t0 : S_api_Rule) : Option Bool :=
  (F_cube_Sound fu t0.f0).bind fun r0 =>
  (callIf r0 (F_act_Sound fu t0.f2) false).bind fun r1 =>
  (callIf (bif r0 then r1 else false) (F_rule_span t0.f1 (65535 : Int)) false).bind fun r2 =>
  (callIf (bif (bif r0 then r1 else false) then r2 else false) (F_rule_span t0.f3 (1048576 : Int)) false).bind fun r3 =>
  (callIf (bif (bif (bif r0 then r1 else false) then r2 else false) then r3 else false) (F_rule_span t0.f4 (1048576 : Int)) false).bind fun r4 =>
  (callIf (bif (bif (bif (bif r0 then r1 else false) then r2 else false) then r3 else false) then r4 else false) (F_rule_span t0.f5 (255 : Int)) false).bind fun r5 =>
  some (bif (bif (bif (bif (bif (bif r0 then r1 else false) then r2 else false) then r3 else false) then r4 else false) then r5 else false) then (decide ((if t0.f8 < (if t0.f7 < t0.f6 then t0.f7 else t0.f6) then t0.f8 else (if t0.f7 < t0.f6 then t0.f7 else t0.f6)) ≥ (0 : Int))) else false)

theorem run_rule_Sound (fu : Nat) (t0 : S_api_Rule) {d : D} {r : Bool} (h : F_rule_Sound fu t0 = some r) (hk : (K_rule_Sound d) r) : Runs Tryz.prog Tryz.f87 0 T_rule_Sound [(0, (S_api_Rule.d t0))] [] d [] := by
  unfold F_rule_Sound at h
  obtain ⟨r0, cr0, h⟩ := Option.bind_eq_some_iff.1 h
  obtain ⟨r1, cr1, h⟩ := Option.bind_eq_some_iff.1 h
  obtain ⟨r2, cr2, h⟩ := Option.bind_eq_some_iff.1 h
  obtain ⟨r3, cr3, h⟩ := Option.bind_eq_some_iff.1 h
  obtain ⟨r4, cr4, h⟩ := Option.bind_eq_some_iff.1 h
  obtain ⟨r5, cr5, h⟩ := Option.bind_eq_some_iff.1 h
  refine runs_regions 2 [([], [1]), ([(.d (D.bool r0)), (.d (D.bool r1)), (.d (D.bool r2)), (.d (D.bool r3)), (.d (D.bool r4)), (.d (D.bool r5))], [2])] (z := ([FC Tryz.prog 89 [(S_api_Cube.d t0.f0)] [] (D.bool r0) [], All (List.map NoRow [(S_api_Cube.d t0.f0)]), (r0 = true → All [(r0 = true → r0 = true)]), (r0 = true → All [(r0 = true → r0 = true), FC Tryz.prog 90 [(S_api_Act.L t0.f2.1 t0.f2.2)] [] (D.bool r1) [], All (List.map NoRow [(S_api_Act.L t0.f2.1 t0.f2.2)])]), ((true && r0) = true → r0 = true), ((bif r0 then r1 else false) = true → All [((bif r0 then r1 else false) = true → (bif r0 then r1 else false) = true)]), ((bif r0 then r1 else false) = true → All [((bif r0 then r1 else false) = true → (bif r0 then r1 else false) = true), FC Tryz.prog 106 [(D.int .i64 t0.f1), (D.int .i64 (65535 : Int))] [] (D.bool r2) [], All (List.map NoRow [(D.int .i64 t0.f1), (D.int .i64 (65535 : Int))])]), ((true && (bif r0 then r1 else false)) = true → (bif r0 then r1 else false) = true), ((bif (bif r0 then r1 else false) then r2 else false) = true → All [((bif (bif r0 then r1 else false) then r2 else false) = true → (bif (bif r0 then r1 else false) then r2 else false) = true)]), ((bif (bif r0 then r1 else false) then r2 else false) = true → All [((bif (bif r0 then r1 else false) then r2 else false) = true → (bif (bif r0 then r1 else false) then r2 else false) = true), FC Tryz.prog 106 [(D.int .i64 t0.f3), (D.int .i64 (1048576 : Int))] [] (D.bool r3) [], All (List.map NoRow [(D.int .i64 t0.f3), (D.int .i64 (1048576 : Int))])]), ((true && (bif (bif r0 then r1 else false) then r2 else false)) = true → (bif (bif r0 then r1 else false) then r2 else false) = true), ((bif (bif (bif r0 then r1 else false) then r2 else false) then r3 else false) = true → All [((bif (bif (bif r0 then r1 else false) then r2 else false) then r3 else false) = true → (bif (bif (bif r0 then r1 else false) then r2 else false) then r3 else false) = true)]), ((bif (bif (bif r0 then r1 else false) then r2 else false) then r3 else false) = true → All [((bif (bif (bif r0 then r1 else false) then r2 else false) then r3 else false) = true → (bif (bif (bif r0 then r1 else false) then r2 else false) then r3 else false) = true), FC Tryz.prog 106 [(D.int .i64 t0.f4), (D.int .i64 (1048576 : Int))] [] (D.bool r4) [], All (List.map NoRow [(D.int .i64 t0.f4), (D.int .i64 (1048576 : Int))])]), ((true && (bif (bif (bif r0 then r1 else false) then r2 else false) then r3 else false)) = true → (bif (bif (bif r0 then r1 else false) then r2 else false) then r3 else false) = true), ((bif (bif (bif (bif r0 then r1 else false) then r2 else false) then r3 else false) then r4 else false) = true → All [((bif (bif (bif (bif r0 then r1 else false) then r2 else false) then r3 else false) then r4 else false) = true → (bif (bif (bif (bif r0 then r1 else false) then r2 else false) then r3 else false) then r4 else false) = true)]), ((bif (bif (bif (bif r0 then r1 else false) then r2 else false) then r3 else false) then r4 else false) = true → All [((bif (bif (bif (bif r0 then r1 else false) then r2 else false) then r3 else false) then r4 else false) = true → (bif (bif (bif (bif r0 then r1 else false) then r2 else false) then r3 else false) then r4 else false) = true), FC Tryz.prog 106 [(D.int .i64 t0.f5), (D.int .i64 (255 : Int))] [] (D.bool r5) [], All (List.map NoRow [(D.int .i64 t0.f5), (D.int .i64 (255 : Int))])]), ((true && (bif (bif (bif (bif r0 then r1 else false) then r2 else false) then r3 else false) then r4 else false)) = true → (bif (bif (bif (bif r0 then r1 else false) then r2 else false) then r3 else false) then r4 else false) = true), ((bif (bif (bif (bif (bif r0 then r1 else false) then r2 else false) then r3 else false) then r4 else false) then r5 else false) = true → All [((bif (bif (bif (bif (bif r0 then r1 else false) then r2 else false) then r3 else false) then r4 else false) then r5 else false) = true → (bif (bif (bif (bif (bif r0 then r1 else false) then r2 else false) then r3 else false) then r4 else false) then r5 else false) = true)]), ((bif (bif (bif (bif (bif r0 then r1 else false) then r2 else false) then r3 else false) then r4 else false) then r5 else false) = true → All [((bif (bif (bif (bif (bif r0 then r1 else false) then r2 else false) then r3 else false) then r4 else false) then r5 else false) = true → (bif (bif (bif (bif (bif r0 then r1 else false) then r2 else false) then r3 else false) then r4 else false) then r5 else false) = true)]), ((bif (bif (bif (bif (bif r0 then r1 else false) then r2 else false) then r3 else false) then r4 else false) then r5 else false) = true → All [((bif (bif (bif (bif (bif r0 then r1 else false) then r2 else false) then r3 else false) then r4 else false) then r5 else false) = true → (bif (bif (bif (bif (bif r0 then r1 else false) then r2 else false) then r3 else false) then r4 else false) then r5 else false) = true)]), ((bif (bif (bif (bif (bif r0 then r1 else false) then r2 else false) then r3 else false) then r4 else false) then r5 else false) = true → All [((bif (bif (bif (bif (bif r0 then r1 else false) then r2 else false) then r3 else false) then r4 else false) then r5 else false) = true → (bif (bif (bif (bif (bif r0 then r1 else false) then r2 else false) then r3 else false) then r4 else false) then r5 else false) = true), ((bif (bif (bif (bif (bif r0 then r1 else false) then r2 else false) then r3 else false) then r4 else false) then r5 else false) = true → (bif (bif (bif (bif (bif r0 then r1 else false) then r2 else false) then r3 else false) then r4 else false) then r5 else false) = true), ((bif (bif (bif (bif (bif r0 then r1 else false) then r2 else false) then r3 else false) then r4 else false) then r5 else false) = true → (bif (bif (bif (bif (bif r0 then r1 else false) then r2 else false) then r3 else false) then r4 else false) then r5 else false) = true)]), ((bif (bif (bif (bif (bif r0 then r1 else false) then r2 else false) then r3 else false) then r4 else false) then r5 else false) = true → All [((bif (bif (bif (bif (bif r0 then r1 else false) then r2 else false) then r3 else false) then r4 else false) then r5 else false) = true → (bif (bif (bif (bif (bif r0 then r1 else false) then r2 else false) then r3 else false) then r4 else false) then r5 else false) = true)]), ((true && (bif (bif (bif (bif (bif r0 then r1 else false) then r2 else false) then r3 else false) then r4 else false) then r5 else false)) = true → (bif (bif (bif (bif (bif r0 then r1 else false) then r2 else false) then r3 else false) then r4 else false) then r5 else false) = true)], [(2, (D.bool (bif (bif (bif (bif (bif (bif r0 then r1 else false) then r2 else false) then r3 else false) then r4 else false) then r5 else false) then (decide ((if t0.f8 < (if t0.f7 < t0.f6 then t0.f7 else t0.f6) then t0.f8 else (if t0.f7 < t0.f6 then t0.f7 else t0.f6)) ≥ (0 : Int))) else false)))], [some (.box (S_api_Rule.d t0))])) rfl (by kernel_rfl) (And.intro (fc_cube_Sound fu t0.f0 cr0) (And.intro (And.intro (S_api_Cube.inn _) trivial) (And.intro (fun _ => (And.intro (by first | exact fun h => h | exact fun h => (Bool.and_eq_true_iff.1 h).1 | simp_all) trivial)) (And.intro (fun hg => (And.intro (by first | exact fun h => h | exact fun h => (Bool.and_eq_true_iff.1 h).1 | simp_all) (And.intro (fc_act_Sound fu t0.f2 (callIf_some cr1 hg)) (And.intro (And.intro (fun _ _ => (S_api_Act.inn _)) trivial) trivial)))) (And.intro (by first | exact fun h => h | exact fun h => (Bool.and_eq_true_iff.1 h).1 | simp_all) (And.intro (fun _ => (And.intro (by first | exact fun h => h | exact fun h => (Bool.and_eq_true_iff.1 h).1 | simp_all) trivial)) (And.intro (fun hg => (And.intro (by first | exact fun h => h | exact fun h => (Bool.and_eq_true_iff.1 h).1 | simp_all) (And.intro (fc_rule_span t0.f1 (65535 : Int) (callIf_some cr2 hg)) (And.intro (And.intro trivial (And.intro trivial trivial)) trivial)))) (And.intro (by first | exact fun h => h | exact fun h => (Bool.and_eq_true_iff.1 h).1 | simp_all) (And.intro (fun _ => (And.intro (by first | exact fun h => h | exact fun h => (Bool.and_eq_true_iff.1 h).1 | simp_all) trivial)) (And.intro (fun hg => (And.intro (by first | exact fun h => h | exact fun h => (Bool.and_eq_true_iff.1 h).1 | simp_all) (And.intro (fc_rule_span t0.f3 (1048576 : Int) (callIf_some cr3 hg)) (And.intro (And.intro trivial (And.intro trivial trivial)) trivial)))) (And.intro (by first | exact fun h => h | exact fun h => (Bool.and_eq_true_iff.1 h).1 | simp_all) (And.intro (fun _ => (And.intro (by first | exact fun h => h | exact fun h => (Bool.and_eq_true_iff.1 h).1 | simp_all) trivial)) (And.intro (fun hg => (And.intro (by first | exact fun h => h | exact fun h => (Bool.and_eq_true_iff.1 h).1 | simp_all) (And.intro (fc_rule_span t0.f4 (1048576 : Int) (callIf_some cr4 hg)) (And.intro (And.intro trivial (And.intro trivial trivial)) trivial)))) (And.intro (by first | exact fun h => h | exact fun h => (Bool.and_eq_true_iff.1 h).1 | simp_all) (And.intro (fun _ => (And.intro (by first | exact fun h => h | exact fun h => (Bool.and_eq_true_iff.1 h).1 | simp_all) trivial)) (And.intro (fun hg => (And.intro (by first | exact fun h => h | exact fun h => (Bool.and_eq_true_iff.1 h).1 | simp_all) (And.intro (fc_rule_span t0.f5 (255 : Int) (callIf_some cr5 hg)) (And.intro (And.intro trivial (And.intro trivial trivial)) trivial)))) (And.intro (by first | exact fun h => h | exact fun h => (Bool.and_eq_true_iff.1 h).1 | simp_all) (And.intro (fun _ => (And.intro (by first | exact fun h => h | exact fun h => (Bool.and_eq_true_iff.1 h).1 | simp_all) trivial)) (And.intro (fun _ => (And.intro (by first | exact fun h => h | exact fun h => (Bool.and_eq_true_iff.1 h).1 | simp_all) trivial)) (And.intro (fun _ => (And.intro (by first | exact fun h => h | exact fun h => (Bool.and_eq_true_iff.1 h).1 | simp_all) trivial)) (And.intro (fun _ => (And.intro (by first | exact fun h => h | exact fun h => (Bool.and_eq_true_iff.1 h).1 | simp_all) (And.intro (by first | exact fun h => h | exact fun h => (Bool.and_eq_true_iff.1 h).1 | simp_all) (And.intro (by first | exact fun h => h | exact fun h => (Bool.and_eq_true_iff.1 h).1 | simp_all) trivial)))) (And.intro (fun _ => (And.intro (by first | exact fun h => h | exact fun h => (Bool.and_eq_true_iff.1 h).1 | simp_all) trivial)) (And.intro (by first | exact fun h => h | exact fun h => (Bool.and_eq_true_iff.1 h).1 | simp_all) trivial))))))))))))))))))))))) ?_
  rw [← Option.some.inj h] at hk
  obtain rfl : d = (D.bool (bif (bif (bif (bif (bif (bif r0 then r1 else false) then r2 else false) then r3 else false) then r4 else false) then r5 else false) then (decide ((if t0.f8 < (if t0.f7 < t0.f6 then t0.f7 else t0.f6) then t0.f8 else (if t0.f7 < t0.f6 then t0.f7 else t0.f6)) ≥ (0 : Int))) else false)) := hk
  exact runs_ret (by kernel_rfl) trivial (Nat.le_refl 0) trivial trivial

theorem fc_rule_Sound (fu : Nat) (t0 : S_api_Rule) {r : Bool} (h : F_rule_Sound fu t0 = some r) : FC Tryz.prog 87 [(S_api_Rule.d t0)] [] (D.bool r) [] := by
  refine fc_of_runs (fn := Tryz.f87) (c := Tryz.f87.body.getD .skip) (by kernel_rfl) (by kernel_rfl) ?_
  refine runs_to (ts := [0]) (T' := T_rule_Sound) (env' := [(0, (S_api_Rule.d t0))]) (h2 := []) (by kernel_rfl) (by kernel_rfl) trivial (Nat.le_refl _) trivial (And.intro (S_api_Rule.inn _) trivial) ?_
  exact run_rule_Sound fu t0 h rfl

def K_cmp_isNaN_uint64 (d : D) (r : Bool) : Prop := d = (D.bool r)

noncomputable def T_cmp_isNaN_uint64 : List Item := norm 200 [.code (Tryz.f133.body.getD .skip)]

/-- cmp.isNaN[uint64] -/
def F_cmp_isNaN_uint64 (t0 : Int) : Option Bool :=
  some (t0 != t0)

theorem run_cmp_isNaN_uint64 (t0 : Int) {d : D} {r : Bool} (h : F_cmp_isNaN_uint64 t0 = some r) (hk : (K_cmp_isNaN_uint64 d) r) : Runs Tryz.prog Tryz.f133 0 T_cmp_isNaN_uint64 [(0, (D.int .u64 t0))] [] d [] := by
  unfold F_cmp_isNaN_uint64 at h
  refine runs_regions 2 [([], [0]), ([], [2])] (z := ([], [(2, (D.bool (t0 != t0)))], [])) rfl (by kernel_rfl) trivial ?_
  rw [← Option.some.inj h] at hk
  obtain rfl : d = (D.bool (t0 != t0)) := hk
  exact runs_ret (by kernel_rfl) trivial (Nat.le_refl 0) trivial trivial

theorem fc_cmp_isNaN_uint64 (t0 : Int) {r : Bool} (h : F_cmp_isNaN_uint64 t0 = some r) : FC Tryz.prog 133 [(D.int .u64 t0)] [] (D.bool r) [] := by
  refine fc_of_runs (fn := Tryz.f133) (c := Tryz.f133.body.getD .skip) (by kernel_rfl) (by kernel_rfl) ?_
  refine runs_to (ts := [0]) (T' := T_cmp_isNaN_uint64) (env' := [(0, (D.int .u64 t0))]) (h2 := []) (by kernel_rfl) (by kernel_rfl) trivial (Nat.le_refl _) trivial (And.intro trivial trivial) ?_
  exact run_cmp_isNaN_uint64 t0 h rfl

def K_cmp_Compare_uint64 (d : D) (r : Int) : Prop := d = (D.int .i64 r)

noncomputable def T_cmp_Compare_uint64 : List Item := norm 200 [.code (Tryz.f130.body.getD .skip)]

/-- cmp.Compare[uint64] -/
def F_cmp_Compare_uint64 (t0 : Int) (t1 : Int) : Option Int :=
  (F_cmp_isNaN_uint64 t0).bind fun r0 =>
  (F_cmp_isNaN_uint64 t1).bind fun r1 =>
  ifs r0 (
    ifs r1 (
      some (0 : Int)) (
      some (-1 : Int))) (
    ifs r1 (
      some (1 : Int)) (
      ifs (decide (t0 < t1)) (
        some (-1 : Int)) (
        ifs (decide (t0 > t1)) (
          some (1 : Int)) (
          some (0 : Int)))))

theorem run_cmp_Compare_uint64 (t0 : Int) (t1 : Int) {d : D} {r : Int} (h : F_cmp_Compare_uint64 t0 t1 = some r) (hk : (K_cmp_Compare_uint64 d) r) : Runs Tryz.prog Tryz.f130 0 T_cmp_Compare_uint64 [(0, (D.int .u64 t0)), (1, (D.int .u64 t1))] [] d [] := by
  unfold F_cmp_Compare_uint64 at h
  obtain ⟨r0, cr0, h⟩ := Option.bind_eq_some_iff.1 h
  obtain ⟨r1, cr1, h⟩ := Option.bind_eq_some_iff.1 h
  refine runs_regions 4 [([], [0, 1]), ([(.d (D.bool r0))], [0, 1, 5]), ([(.d (D.bool r1))], [0, 1, 5, 6]), ([], [0, 1, 6, 11])] (z := ([FC Tryz.prog 133 [(D.int .u64 t0)] [] (D.bool r0) [], All (List.map NoRow [(D.int .u64 t0)]), FC Tryz.prog 133 [(D.int .u64 t1)] [] (D.bool r1) [], All (List.map NoRow [(D.int .u64 t1)])], [(0, (D.int .u64 t0)), (1, (D.int .u64 t1)), (6, (D.bool r1)), (11, (D.bool r0))], [])) rfl (by kernel_rfl) (And.intro (fc_cmp_isNaN_uint64 t0 cr0) (And.intro (And.intro trivial trivial) (And.intro (fc_cmp_isNaN_uint64 t1 cr1) (And.intro (And.intro trivial trivial) trivial)))) ?_
  refine runs_if (b := r0) (by kernel_rfl) (fun hb => ?_) (fun hb => ?_)
  · replace h := ifs_true h hb
    refine runs_regions 1 [([], [12])] (z := ([], [(12, (D.bool r1))], [])) rfl (by kernel_rfl) trivial ?_
    refine runs_if (b := r1) (by kernel_rfl) (fun hb => ?_) (fun hb => ?_)
    · replace h := ifs_true h hb
      refine runs_regions 1 [([], [4])] (z := ([], [(4, (D.int .i64 (0 : Int)))], [])) rfl (by kernel_rfl) trivial ?_
      rw [← Option.some.inj h] at hk
      obtain rfl : d = (D.int .i64 (0 : Int)) := hk
      exact runs_ret (by kernel_rfl) trivial (Nat.le_refl 0) trivial trivial
    · replace h := ifs_false h hb
      refine runs_regions 1 [([], [4])] (z := ([], [(4, (D.int .i64 (-1 : Int)))], [])) rfl (by kernel_rfl) trivial ?_
      rw [← Option.some.inj h] at hk
      obtain rfl : d = (D.int .i64 (-1 : Int)) := hk
      exact runs_ret (by kernel_rfl) trivial (Nat.le_refl 0) trivial trivial
  · replace h := ifs_false h hb
    refine runs_regions 1 [([], [0, 1, 13])] (z := ([], [(0, (D.int .u64 t0)), (1, (D.int .u64 t1)), (13, (D.bool r1))], [])) rfl (by kernel_rfl) trivial ?_
    refine runs_if (b := r1) (by kernel_rfl) (fun hb => ?_) (fun hb => ?_)
    · replace h := ifs_true h hb
      refine runs_regions 1 [([], [4])] (z := ([], [(4, (D.int .i64 (1 : Int)))], [])) rfl (by kernel_rfl) trivial ?_
      rw [← Option.some.inj h] at hk
      obtain rfl : d = (D.int .i64 (1 : Int)) := hk
      exact runs_ret (by kernel_rfl) trivial (Nat.le_refl 0) trivial trivial
    · replace h := ifs_false h hb
      refine runs_regions 1 [([], [0, 1, 16])] (z := ([], [(0, (D.int .u64 t0)), (1, (D.int .u64 t1)), (16, (D.bool (decide (t0 < t1))))], [])) rfl (by kernel_rfl) trivial ?_
      refine runs_if (b := (decide (t0 < t1))) (by kernel_rfl) (fun hb => ?_) (fun hb => ?_)
      · replace h := ifs_true h hb
        refine runs_regions 1 [([], [4])] (z := ([], [(4, (D.int .i64 (-1 : Int)))], [])) rfl (by kernel_rfl) trivial ?_
        rw [← Option.some.inj h] at hk
        obtain rfl : d = (D.int .i64 (-1 : Int)) := hk
        exact runs_ret (by kernel_rfl) trivial (Nat.le_refl 0) trivial trivial
      · replace h := ifs_false h hb
        refine runs_regions 1 [([], [19])] (z := ([], [(19, (D.bool (decide (t0 > t1))))], [])) rfl (by kernel_rfl) trivial ?_
        refine runs_if (b := (decide (t0 > t1))) (by kernel_rfl) (fun hb => ?_) (fun hb => ?_)
        · replace h := ifs_true h hb
          refine runs_regions 1 [([], [4])] (z := ([], [(4, (D.int .i64 (1 : Int)))], [])) rfl (by kernel_rfl) trivial ?_
          rw [← Option.some.inj h] at hk
          obtain rfl : d = (D.int .i64 (1 : Int)) := hk
          exact runs_ret (by kernel_rfl) trivial (Nat.le_refl 0) trivial trivial
        · replace h := ifs_false h hb
          refine runs_regions 1 [([], [4])] (z := ([], [(4, (D.int .i64 (0 : Int)))], [])) rfl (by kernel_rfl) trivial ?_
          rw [← Option.some.inj h] at hk
          obtain rfl : d = (D.int .i64 (0 : Int)) := hk
          exact runs_ret (by kernel_rfl) trivial (Nat.le_refl 0) trivial trivial

theorem fc_cmp_Compare_uint64 (t0 : Int) (t1 : Int) {r : Int} (h : F_cmp_Compare_uint64 t0 t1 = some r) : FC Tryz.prog 130 [(D.int .u64 t0), (D.int .u64 t1)] [] (D.int .i64 r) [] := by
  refine fc_of_runs (fn := Tryz.f130) (c := Tryz.f130.body.getD .skip) (by kernel_rfl) (by kernel_rfl) ?_
  refine runs_to (ts := [0, 1]) (T' := T_cmp_Compare_uint64) (env' := [(0, (D.int .u64 t0)), (1, (D.int .u64 t1))]) (h2 := []) (by kernel_rfl) (by kernel_rfl) trivial (Nat.le_refl _) trivial (And.intro trivial (And.intro trivial trivial)) ?_
  exact run_cmp_Compare_uint64 t0 t1 h rfl

def K_slices_CompareFunc_uint64_cmp_Compare_uint64 (d : D) (r : Int) : Prop := d = (D.int .i64 r)

noncomputable def T_slices_CompareFunc_uint64_cmp_Compare_uint64 : List Item := norm 200 [.code (Tryz.f129.body.getD .skip)]

noncomputable def T_slices_CompareFunc_uint64_cmp_Compare_uint64_L1 : List Item := norm 200 (nxt (nxt T_slices_CompareFunc_uint64_cmp_Compare_uint64))

noncomputable def X_slices_CompareFunc_uint64_cmp_Compare_uint64_L1T : List Item := norm 200 (cndF (nxt (nxt (nxt T_slices_CompareFunc_uint64_cmp_Compare_uint64))))

abbrev E_slices_CompareFunc_uint64_cmp_Compare_uint64_L1 := Unit

def N_slices_CompareFunc_uint64_cmp_Compare_uint64_L1 (_fu : Nat) (t0 : (Nat × (Nat → Int))) (t1 : (Nat × (Nat → Int))) (t11 : (Nat × (Nat → Int))) (t12 : Int) (d : D) (s : Int) : Prop := Runs Tryz.prog Tryz.f129 0 T_slices_CompareFunc_uint64_cmp_Compare_uint64_L1 [(0, (D.lit t0.1 1 fun i => (D.int .u64 (t0.2 i)))), (1, (D.lit t1.1 1 fun i => (D.int .u64 (t1.2 i)))), (2, (D.fn 130 D.nil)), (11, (D.lit t11.1 1 fun i => (D.int .u64 (t11.2 i)))), (12, (D.int .i64 t12)), (13, (D.int .i64 s))] [] d []

def X_slices_CompareFunc_uint64_cmp_Compare_uint64_L1 (_fu : Nat) (t0 : (Nat × (Nat → Int))) (t1 : (Nat × (Nat → Int))) (_t11 : (Nat × (Nat → Int))) (_t12 : Int) (d : D) : E_slices_CompareFunc_uint64_cmp_Compare_uint64_L1 ⊕ Int → Prop
  | .inl _ => Runs Tryz.prog Tryz.f129 0 X_slices_CompareFunc_uint64_cmp_Compare_uint64_L1T [(0, (D.lit t0.1 1 fun i => (D.int .u64 (t0.2 i)))), (1, (D.lit t1.1 1 fun i => (D.int .u64 (t1.2 i))))] [] d []
  | .inr o => (K_slices_CompareFunc_uint64_cmp_Compare_uint64 d) o

def F_slices_CompareFunc_uint64_cmp_Compare_uint64_L1 (_fu : Nat) (_t0 : (Nat × (Nat → Int))) (t1 : (Nat × (Nat → Int))) (t11 : (Nat × (Nat → Int))) (t12 : Int) (t13 : Int) : Option (Lo Int E_slices_CompareFunc_uint64_cmp_Compare_uint64_L1 Int) :=
  ifs (decide (t13 < t12)) (
    chk (0 ≤ t13 ∧ t13 < ((t11.1 : Nat) : Int)) <|
    ifs (decide (t13 ≥ ((t1.1 : Nat) : Int))) (
      some (.ret (1 : Int))) (
      chk (0 ≤ t13 ∧ t13 < ((t1.1 : Nat) : Int)) <|
      (F_cmp_Compare_uint64 (t11.2 t13.toNat) (t1.2 t13.toNat)).bind fun r0 =>
      ifs (r0 != (0 : Int)) (
        some (.ret r0)) (
        some (.next (IntKind.wrap .i64 (t13 + (1 : Int))))))) (
    some (.exit ()))

theorem run_slices_CompareFunc_uint64_cmp_Compare_uint64_L1 (fu : Nat) (t0 : (Nat × (Nat → Int))) (t1 : (Nat × (Nat → Int))) (t11 : (Nat × (Nat → Int))) (t12 : Int) (t13 : Int) {d : D} {o : (Lo Int E_slices_CompareFunc_uint64_cmp_Compare_uint64_L1 Int)} (h : F_slices_CompareFunc_uint64_cmp_Compare_uint64_L1 fu t0 t1 t11 t12 t13 = some o) (hk : (Lo.post (N_slices_CompareFunc_uint64_cmp_Compare_uint64_L1 fu t0 t1 t11 t12 d) (X_slices_CompareFunc_uint64_cmp_Compare_uint64_L1 fu t0 t1 t11 t12 d)) o) : Runs Tryz.prog Tryz.f129 0 T_slices_CompareFunc_uint64_cmp_Compare_uint64_L1 [(0, (D.lit t0.1 1 fun i => (D.int .u64 (t0.2 i)))), (1, (D.lit t1.1 1 fun i => (D.int .u64 (t1.2 i)))), (2, (D.fn 130 D.nil)), (11, (D.lit t11.1 1 fun i => (D.int .u64 (t11.2 i)))), (12, (D.int .i64 t12)), (13, (D.int .i64 t13))] [] d [] := by
  unfold F_slices_CompareFunc_uint64_cmp_Compare_uint64_L1 at h
  refine runs_regions 1 [([], [0, 1, 2, 11, 12, 13, 14])] (z := ([], [(0, (D.lit t0.1 1 fun i => (D.int .u64 (t0.2 i)))), (1, (D.lit t1.1 1 fun i => (D.int .u64 (t1.2 i)))), (2, (D.fn 130 D.nil)), (11, (D.lit t11.1 1 fun i => (D.int .u64 (t11.2 i)))), (12, (D.int .i64 t12)), (13, (D.int .i64 t13)), (14, (D.bool (decide (t13 < t12))))], [])) rfl (by kernel_rfl) trivial ?_
  refine runs_if (b := (decide (t13 < t12))) (by kernel_rfl) (fun hb => ?_) (fun hb => ?_)
  · replace h := ifs_true h hb
    obtain ⟨p0, h⟩ := chk_some h
    refine runs_regions 2 [([], [0, 1, 2, 7, 8, 11, 12, 13]), ([], [0, 1, 2, 7, 8, 11, 12, 13, 21])] (z := ([(0 ≤ t13 ∧ t13 < ((t11.1 : Nat) : Int))], [(0, (D.lit t0.1 1 fun i => (D.int .u64 (t0.2 i)))), (1, (D.lit t1.1 1 fun i => (D.int .u64 (t1.2 i)))), (2, (D.fn 130 D.nil)), (7, (D.int .i64 t13)), (8, (D.int .u64 (t11.2 t13.toNat))), (11, (D.lit t11.1 1 fun i => (D.int .u64 (t11.2 i)))), (12, (D.int .i64 t12)), (13, (D.int .i64 t13)), (21, (D.bool (decide (t13 ≥ ((t1.1 : Nat) : Int)))))], [])) rfl (by kernel_rfl) (And.intro p0 trivial) ?_
    refine runs_if (b := (decide (t13 ≥ ((t1.1 : Nat) : Int)))) (by kernel_rfl) (fun hb => ?_) (fun hb => ?_)
    · replace h := ifs_true h hb
      refine runs_regions 1 [([], [6])] (z := ([], [(6, (D.int .i64 (1 : Int)))], [])) rfl (by kernel_rfl) trivial ?_
      rw [← Option.some.inj h] at hk
      obtain rfl : d = (D.int .i64 (1 : Int)) := hk
      exact runs_ret (by kernel_rfl) trivial (Nat.le_refl 0) trivial trivial
    · replace h := ifs_false h hb
      obtain ⟨p1, h⟩ := chk_some h
      obtain ⟨r0, cr0, h⟩ := Option.bind_eq_some_iff.1 h
      refine runs_regions 3 [([], [0, 1, 2, 8, 9, 11, 12, 13]), ([(.d (D.int .i64 r0))], [0, 1, 2, 10, 11, 12, 13]), ([], [0, 1, 2, 10, 11, 12, 13, 31])] (z := ([(0 ≤ t13 ∧ t13 < ((t1.1 : Nat) : Int)), FC Tryz.prog 130 [(D.int .u64 (t11.2 t13.toNat)), (D.int .u64 (t1.2 t13.toNat))] [] (D.int .i64 r0) [], All (List.map NoRow [(D.int .u64 (t11.2 t13.toNat)), (D.int .u64 (t1.2 t13.toNat))])], [(0, (D.lit t0.1 1 fun i => (D.int .u64 (t0.2 i)))), (1, (D.lit t1.1 1 fun i => (D.int .u64 (t1.2 i)))), (2, (D.fn 130 D.nil)), (10, (D.int .i64 r0)), (11, (D.lit t11.1 1 fun i => (D.int .u64 (t11.2 i)))), (12, (D.int .i64 t12)), (13, (D.int .i64 t13)), (31, (D.bool (r0 != (0 : Int))))], [])) rfl (by kernel_rfl) (And.intro p1 (And.intro (fc_cmp_Compare_uint64 (t11.2 t13.toNat) (t1.2 t13.toNat) cr0) (And.intro (And.intro trivial (And.intro trivial trivial)) trivial))) ?_
      refine runs_if (b := (r0 != (0 : Int))) (by kernel_rfl) (fun hb => ?_) (fun hb => ?_)
      · replace h := ifs_true h hb
        refine runs_regions 1 [([], [6])] (z := ([], [(6, (D.int .i64 r0))], [])) rfl (by kernel_rfl) trivial ?_
        rw [← Option.some.inj h] at hk
        obtain rfl : d = (D.int .i64 r0) := hk
        exact runs_ret (by kernel_rfl) trivial (Nat.le_refl 0) trivial trivial
      · replace h := ifs_false h hb
        refine runs_regions 1 [([], [0, 1, 2, 11, 12, 13])] (z := ([], [(0, (D.lit t0.1 1 fun i => (D.int .u64 (t0.2 i)))), (1, (D.lit t1.1 1 fun i => (D.int .u64 (t1.2 i)))), (2, (D.fn 130 D.nil)), (11, (D.lit t11.1 1 fun i => (D.int .u64 (t11.2 i)))), (12, (D.int .i64 t12)), (13, (D.int .i64 (IntKind.wrap .i64 (t13 + (1 : Int)))))], [])) rfl (by kernel_rfl) trivial ?_
        rw [← Option.some.inj h] at hk
        refine runs_to (ts := [0, 1, 2, 11, 12, 13]) (T' := T_slices_CompareFunc_uint64_cmp_Compare_uint64_L1) (env' := [(0, (D.lit t0.1 1 fun i => (D.int .u64 (t0.2 i)))), (1, (D.lit t1.1 1 fun i => (D.int .u64 (t1.2 i)))), (2, (D.fn 130 D.nil)), (11, (D.lit t11.1 1 fun i => (D.int .u64 (t11.2 i)))), (12, (D.int .i64 t12)), (13, (D.int .i64 (IntKind.wrap .i64 (t13 + (1 : Int)))))]) (h2 := []) (by kernel_rfl) (by kernel_rfl) trivial (Nat.zero_le _) trivial (And.intro (fun _ _ => trivial) (And.intro (fun _ _ => trivial) (And.intro trivial (And.intro (fun _ _ => trivial) (And.intro trivial (And.intro trivial trivial)))))) ?_
        exact hk
  · replace h := ifs_false h hb
    rw [← Option.some.inj h] at hk
    refine runs_to (ts := [0, 1]) (T' := X_slices_CompareFunc_uint64_cmp_Compare_uint64_L1T) (env' := [(0, (D.lit t0.1 1 fun i => (D.int .u64 (t0.2 i)))), (1, (D.lit t1.1 1 fun i => (D.int .u64 (t1.2 i))))]) (h2 := []) (by kernel_rfl) (by kernel_rfl) trivial (Nat.zero_le _) trivial (And.intro (fun _ _ => trivial) (And.intro (fun _ _ => trivial) trivial)) ?_
    exact hk

theorem iter_slices_CompareFunc_uint64_cmp_Compare_uint64_L1 (fu : Nat) (t0 : (Nat × (Nat → Int))) (t1 : (Nat × (Nat → Int))) (t11 : (Nat × (Nat → Int))) (t12 : Int) {d : D} (k : Nat) (s : Int) {o : E_slices_CompareFunc_uint64_cmp_Compare_uint64_L1 ⊕ Int} (h : iter (fun s => F_slices_CompareFunc_uint64_cmp_Compare_uint64_L1 fu t0 t1 t11 t12 s) k s = some o) (hx : X_slices_CompareFunc_uint64_cmp_Compare_uint64_L1 fu t0 t1 t11 t12 d o) : N_slices_CompareFunc_uint64_cmp_Compare_uint64_L1 fu t0 t1 t11 t12 d s :=
  iter_post (K := N_slices_CompareFunc_uint64_cmp_Compare_uint64_L1 fu t0 t1 t11 t12 d) (X := X_slices_CompareFunc_uint64_cmp_Compare_uint64_L1 fu t0 t1 t11 t12 d) (fun s _ h hk => run_slices_CompareFunc_uint64_cmp_Compare_uint64_L1 fu t0 t1 t11 t12 s h hk) k s o h hx

/-- slices.CompareFunc[[]uint64,[]uint64,uint64,uint64] -/
def F_slices_CompareFunc_uint64_cmp_Compare_uint64 (fu : Nat) (t0 : (Nat × (Nat → Int))) (t1 : (Nat × (Nat → Int))) : Option Int :=
  after (iter (fun s => F_slices_CompareFunc_uint64_cmp_Compare_uint64_L1 fu t0 t1 t0 ((t0.1 : Nat) : Int) s) fu (0 : Int)) fun _ =>
  ifs (decide (((t0.1 : Nat) : Int) < ((t1.1 : Nat) : Int))) (
    some (-1 : Int)) (
    some (0 : Int))

theorem run_slices_CompareFunc_uint64_cmp_Compare_uint64 (fu : Nat) (t0 : (Nat × (Nat → Int))) (t1 : (Nat × (Nat → Int))) {d : D} {r : Int} (h : F_slices_CompareFunc_uint64_cmp_Compare_uint64 fu t0 t1 = some r) (hk : (K_slices_CompareFunc_uint64_cmp_Compare_uint64 d) r) : Runs Tryz.prog Tryz.f129 0 T_slices_CompareFunc_uint64_cmp_Compare_uint64 [(0, (D.lit t0.1 1 fun i => (D.int .u64 (t0.2 i)))), (1, (D.lit t1.1 1 fun i => (D.int .u64 (t1.2 i)))), (2, (D.fn 130 D.nil))] [] d [] := by
  unfold F_slices_CompareFunc_uint64_cmp_Compare_uint64 at h
  refine runs_regions 2 [([], [0, 1, 2]), ([], [0, 1, 2, 11, 12, 13])] (z := ([], [(0, (D.lit t0.1 1 fun i => (D.int .u64 (t0.2 i)))), (1, (D.lit t1.1 1 fun i => (D.int .u64 (t1.2 i)))), (2, (D.fn 130 D.nil)), (11, (D.lit t0.1 1 fun i => (D.int .u64 (t0.2 i)))), (12, (D.int .i64 ((t0.1 : Nat) : Int))), (13, (D.int .i64 (0 : Int)))], [])) rfl (by kernel_rfl) trivial ?_
  refine runs_to (ts := [0, 1, 2, 11, 12, 13]) (T' := T_slices_CompareFunc_uint64_cmp_Compare_uint64_L1) (env' := [(0, (D.lit t0.1 1 fun i => (D.int .u64 (t0.2 i)))), (1, (D.lit t1.1 1 fun i => (D.int .u64 (t1.2 i)))), (2, (D.fn 130 D.nil)), (11, (D.lit t0.1 1 fun i => (D.int .u64 (t0.2 i)))), (12, (D.int .i64 ((t0.1 : Nat) : Int))), (13, (D.int .i64 (0 : Int)))]) (h2 := []) (by kernel_rfl) (by kernel_rfl) trivial (Nat.zero_le _) trivial (And.intro (fun _ _ => trivial) (And.intro (fun _ _ => trivial) (And.intro trivial (And.intro (fun _ _ => trivial) (And.intro trivial (And.intro trivial trivial)))))) ?_
  rcases after_some h with ⟨e3, hi, h⟩ | hi
  · refine iter_slices_CompareFunc_uint64_cmp_Compare_uint64_L1 fu t0 t1 t0 ((t0.1 : Nat) : Int) fu (0 : Int) hi ?_
    show Runs Tryz.prog Tryz.f129 0 X_slices_CompareFunc_uint64_cmp_Compare_uint64_L1T [(0, (D.lit t0.1 1 fun i => (D.int .u64 (t0.2 i)))), (1, (D.lit t1.1 1 fun i => (D.int .u64 (t1.2 i))))] [] d []
    refine runs_regions 1 [([], [38])] (z := ([], [(38, (D.bool (decide (((t0.1 : Nat) : Int) < ((t1.1 : Nat) : Int)))))], [])) rfl (by kernel_rfl) trivial ?_
    refine runs_if (b := (decide (((t0.1 : Nat) : Int) < ((t1.1 : Nat) : Int)))) (by kernel_rfl) (fun hb => ?_) (fun hb => ?_)
    · replace h := ifs_true h hb
      refine runs_regions 1 [([], [6])] (z := ([], [(6, (D.int .i64 (-1 : Int)))], [])) rfl (by kernel_rfl) trivial ?_
      rw [← Option.some.inj h] at hk
      obtain rfl : d = (D.int .i64 (-1 : Int)) := hk
      exact runs_ret (by kernel_rfl) trivial (Nat.le_refl 0) trivial trivial
    · replace h := ifs_false h hb
      refine runs_regions 1 [([], [6])] (z := ([], [(6, (D.int .i64 (0 : Int)))], [])) rfl (by kernel_rfl) trivial ?_
      rw [← Option.some.inj h] at hk
      obtain rfl : d = (D.int .i64 (0 : Int)) := hk
      exact runs_ret (by kernel_rfl) trivial (Nat.le_refl 0) trivial trivial
  · exact iter_slices_CompareFunc_uint64_cmp_Compare_uint64_L1 fu t0 t1 t0 ((t0.1 : Nat) : Int) fu (0 : Int) hi hk

theorem fc_slices_CompareFunc_uint64_cmp_Compare_uint64 (fu : Nat) (t0 : (Nat × (Nat → Int))) (t1 : (Nat × (Nat → Int))) {r : Int} (h : F_slices_CompareFunc_uint64_cmp_Compare_uint64 fu t0 t1 = some r) : FC Tryz.prog 129 [(D.lit t0.1 1 fun i => (D.int .u64 (t0.2 i))), (D.lit t1.1 1 fun i => (D.int .u64 (t1.2 i))), (D.fn 130 D.nil)] [] (D.int .i64 r) [] := by
  refine fc_of_runs (fn := Tryz.f129) (c := Tryz.f129.body.getD .skip) (by kernel_rfl) (by kernel_rfl) ?_
  refine runs_to (ts := [0, 1, 2]) (T' := T_slices_CompareFunc_uint64_cmp_Compare_uint64) (env' := [(0, (D.lit t0.1 1 fun i => (D.int .u64 (t0.2 i)))), (1, (D.lit t1.1 1 fun i => (D.int .u64 (t1.2 i)))), (2, (D.fn 130 D.nil))]) (h2 := []) (by kernel_rfl) (by kernel_rfl) trivial (Nat.le_refl _) trivial (And.intro (fun _ _ => trivial) (And.intro (fun _ _ => trivial) (And.intro trivial trivial))) ?_
  exact run_slices_CompareFunc_uint64_cmp_Compare_uint64 fu t0 t1 h rfl

def K_head_Compare (d : D) (r : Int) : Prop := d = (D.int .i64 r)

noncomputable def T_head_Compare : List Item := norm 200 [.code (Tryz.f125.body.getD .skip)]

/-- podesta/head.Compare -/
def F_head_Compare (fu : Nat) (t0 : (Nat → Int)) (t1 : (Nat → Int)) : Option Int :=
  (F_slices_CompareFunc_uint64_cmp_Compare_uint64 fu (12, t0) (12, t1)).bind fun r0 =>
  some r0

theorem run_head_Compare (fu : Nat) (t0 : (Nat → Int)) (t1 : (Nat → Int)) {d : D} {r : Int} (h : F_head_Compare fu t0 t1 = some r) (hk : (K_head_Compare d) r) : Runs Tryz.prog Tryz.f125 0 T_head_Compare [(0, (D.ints .u64 12 t0)), (1, (D.ints .u64 12 t1))] [] d [] := by
  unfold F_head_Compare at h
  refine runs_regions 1 [([], [2, 3])] (z := ([], [(2, (D.ptr 0 [])), (3, (D.ptr 1 []))], [some (.box (D.ints .u64 12 t0)), some (.box (D.ints .u64 12 t1))])) rfl (by kernel_rfl) trivial ?_
  refine runs_freeze 0 (row := (.box (D.ints .u64 12 t0))) rfl ?_
  refine runs_freeze 1 (row := (.box (D.ints .u64 12 t1))) rfl ?_
  obtain ⟨r0, cr0, h⟩ := Option.bind_eq_some_iff.1 h
  refine runs_regions 1 [([(.d (D.int .i64 r0))], [4])] (z := ([FC Tryz.prog 129 [(D.lit 12 1 fun i => (D.int .u64 (t0 i))), (D.lit 12 1 fun i => (D.int .u64 (t1 i))), (D.fn 130 D.nil)] [] (D.int .i64 r0) [], All (List.map NoRow [(D.lit 12 1 fun i => (D.int .u64 (t0 i))), (D.lit 12 1 fun i => (D.int .u64 (t1 i))), (D.fn 130 D.nil)])], [(4, (D.int .i64 r0))], [none, none])) rfl (by kernel_rfl) (And.intro (fc_slices_CompareFunc_uint64_cmp_Compare_uint64 fu (12, t0) (12, t1) cr0) (And.intro (And.intro (fun _ _ => trivial) (And.intro (fun _ _ => trivial) (And.intro trivial trivial))) trivial)) ?_
  rw [← Option.some.inj h] at hk
  obtain rfl : d = (D.int .i64 r0) := hk
  exact runs_ret (by kernel_rfl) trivial (Nat.le_refl 0) trivial trivial

theorem fc_head_Compare (fu : Nat) (t0 : (Nat → Int)) (t1 : (Nat → Int)) {r : Int} (h : F_head_Compare fu t0 t1 = some r) : FC Tryz.prog 125 [(D.ints .u64 12 t0), (D.ints .u64 12 t1)] [] (D.int .i64 r) [] := by
  refine fc_of_runs (fn := Tryz.f125) (c := Tryz.f125.body.getD .skip) (by kernel_rfl) (by kernel_rfl) ?_
  refine runs_to (ts := [0, 1]) (T' := T_head_Compare) (env' := [(0, (D.ints .u64 12 t0)), (1, (D.ints .u64 12 t1))]) (h2 := []) (by kernel_rfl) (by kernel_rfl) trivial (Nat.le_refl _) trivial (And.intro trivial (And.intro trivial trivial)) ?_
  exact run_head_Compare fu t0 t1 h rfl

def K_cmp_Or_int (d : D) (r : Int) : Prop := d = (D.int .i64 r)

noncomputable def T_cmp_Or_int : List Item := norm 200 [.code (Tryz.f124.body.getD .skip)]

noncomputable def T_cmp_Or_int_L1 : List Item := norm 200 (nxt (nxt (nxt T_cmp_Or_int)))

noncomputable def X_cmp_Or_int_L1T : List Item := norm 200 (cndF (nxt (nxt (nxt (nxt T_cmp_Or_int)))))

abbrev E_cmp_Or_int_L1 := Unit

def N_cmp_Or_int_L1 (_fu : Nat) (t3 : Int) (t6 : (Nat × (Nat → Int))) (t7 : Int) (d : D) (s : Int) : Prop := Runs Tryz.prog Tryz.f124 0 T_cmp_Or_int_L1 [(3, (D.int .i64 t3)), (6, (D.lit t6.1 1 fun i => (D.int .i64 (t6.2 i)))), (7, (D.int .i64 t7)), (8, (D.int .i64 s))] [] d []

def X_cmp_Or_int_L1 (_fu : Nat) (t3 : Int) (_t6 : (Nat × (Nat → Int))) (_t7 : Int) (d : D) : E_cmp_Or_int_L1 ⊕ Int → Prop
  | .inl _ => Runs Tryz.prog Tryz.f124 0 X_cmp_Or_int_L1T [(3, (D.int .i64 t3))] [] d []
  | .inr o => (K_cmp_Or_int d) o

def F_cmp_Or_int_L1 (_fu : Nat) (t3 : Int) (t6 : (Nat × (Nat → Int))) (t7 : Int) (t8 : Int) : Option (Lo Int E_cmp_Or_int_L1 Int) :=
  ifs (decide (t8 < t7)) (
    chk (0 ≤ t8 ∧ t8 < ((t6.1 : Nat) : Int)) <|
    ifs ((t6.2 t8.toNat) != t3) (
      some (.ret (t6.2 t8.toNat))) (
      some (.next (IntKind.wrap .i64 (t8 + (1 : Int)))))) (
    some (.exit ()))

theorem run_cmp_Or_int_L1 (fu : Nat) (t3 : Int) (t6 : (Nat × (Nat → Int))) (t7 : Int) (t8 : Int) {d : D} {o : (Lo Int E_cmp_Or_int_L1 Int)} (h : F_cmp_Or_int_L1 fu t3 t6 t7 t8 = some o) (hk : (Lo.post (N_cmp_Or_int_L1 fu t3 t6 t7 d) (X_cmp_Or_int_L1 fu t3 t6 t7 d)) o) : Runs Tryz.prog Tryz.f124 0 T_cmp_Or_int_L1 [(3, (D.int .i64 t3)), (6, (D.lit t6.1 1 fun i => (D.int .i64 (t6.2 i)))), (7, (D.int .i64 t7)), (8, (D.int .i64 t8))] [] d [] := by
  unfold F_cmp_Or_int_L1 at h
  refine runs_regions 1 [([], [3, 6, 7, 8, 9])] (z := ([], [(3, (D.int .i64 t3)), (6, (D.lit t6.1 1 fun i => (D.int .i64 (t6.2 i)))), (7, (D.int .i64 t7)), (8, (D.int .i64 t8)), (9, (D.bool (decide (t8 < t7))))], [])) rfl (by kernel_rfl) trivial ?_
  refine runs_if (b := (decide (t8 < t7))) (by kernel_rfl) (fun hb => ?_) (fun hb => ?_)
  · replace h := ifs_true h hb
    obtain ⟨p0, h⟩ := chk_some h
    refine runs_regions 2 [([], [3, 5, 6, 7, 8]), ([], [3, 5, 6, 7, 8, 14])] (z := ([(0 ≤ t8 ∧ t8 < ((t6.1 : Nat) : Int))], [(3, (D.int .i64 t3)), (5, (D.int .i64 (t6.2 t8.toNat))), (6, (D.lit t6.1 1 fun i => (D.int .i64 (t6.2 i)))), (7, (D.int .i64 t7)), (8, (D.int .i64 t8)), (14, (D.bool ((t6.2 t8.toNat) != t3)))], [])) rfl (by kernel_rfl) (And.intro p0 trivial) ?_
    refine runs_if (b := ((t6.2 t8.toNat) != t3)) (by kernel_rfl) (fun hb => ?_) (fun hb => ?_)
    · replace h := ifs_true h hb
      refine runs_regions 1 [([], [2])] (z := ([], [(2, (D.int .i64 (t6.2 t8.toNat)))], [])) rfl (by kernel_rfl) trivial ?_
      rw [← Option.some.inj h] at hk
      obtain rfl : d = (D.int .i64 (t6.2 t8.toNat)) := hk
      exact runs_ret (by kernel_rfl) trivial (Nat.le_refl 0) trivial trivial
    · replace h := ifs_false h hb
      refine runs_regions 1 [([], [3, 6, 7, 8])] (z := ([], [(3, (D.int .i64 t3)), (6, (D.lit t6.1 1 fun i => (D.int .i64 (t6.2 i)))), (7, (D.int .i64 t7)), (8, (D.int .i64 (IntKind.wrap .i64 (t8 + (1 : Int)))))], [])) rfl (by kernel_rfl) trivial ?_
      rw [← Option.some.inj h] at hk
      refine runs_to (ts := [3, 6, 7, 8]) (T' := T_cmp_Or_int_L1) (env' := [(3, (D.int .i64 t3)), (6, (D.lit t6.1 1 fun i => (D.int .i64 (t6.2 i)))), (7, (D.int .i64 t7)), (8, (D.int .i64 (IntKind.wrap .i64 (t8 + (1 : Int)))))]) (h2 := []) (by kernel_rfl) (by kernel_rfl) trivial (Nat.zero_le _) trivial (And.intro trivial (And.intro (fun _ _ => trivial) (And.intro trivial (And.intro trivial trivial)))) ?_
      exact hk
  · replace h := ifs_false h hb
    rw [← Option.some.inj h] at hk
    refine runs_to (ts := [3]) (T' := X_cmp_Or_int_L1T) (env' := [(3, (D.int .i64 t3))]) (h2 := []) (by kernel_rfl) (by kernel_rfl) trivial (Nat.zero_le _) trivial (And.intro trivial trivial) ?_
    exact hk

theorem iter_cmp_Or_int_L1 (fu : Nat) (t3 : Int) (t6 : (Nat × (Nat → Int))) (t7 : Int) {d : D} (k : Nat) (s : Int) {o : E_cmp_Or_int_L1 ⊕ Int} (h : iter (fun s => F_cmp_Or_int_L1 fu t3 t6 t7 s) k s = some o) (hx : X_cmp_Or_int_L1 fu t3 t6 t7 d o) : N_cmp_Or_int_L1 fu t3 t6 t7 d s :=
  iter_post (K := N_cmp_Or_int_L1 fu t3 t6 t7 d) (X := X_cmp_Or_int_L1 fu t3 t6 t7 d) (fun s _ h hk => run_cmp_Or_int_L1 fu t3 t6 t7 s h hk) k s o h hx

/-- cmp.Or[int] -/
def F_cmp_Or_int (fu : Nat) (t0 : (Nat × (Nat → Int))) : Option Int :=
  after (iter (fun s => F_cmp_Or_int_L1 fu (0 : Int) t0 ((t0.1 : Nat) : Int) s) fu (0 : Int)) fun _ =>
  some (0 : Int)

theorem run_cmp_Or_int (fu : Nat) (t0 : (Nat × (Nat → Int))) {d : D} {r : Int} (h : F_cmp_Or_int fu t0 = some r) (hk : (K_cmp_Or_int d) r) : Runs Tryz.prog Tryz.f124 0 T_cmp_Or_int [(0, (D.lit t0.1 1 fun i => (D.int .i64 (t0.2 i))))] [] d [] := by
  unfold F_cmp_Or_int at h
  refine runs_regions 3 [([], [0]), ([], [0, 3]), ([], [3, 6, 7, 8])] (z := ([], [(3, (D.int .i64 (0 : Int))), (6, (D.lit t0.1 1 fun i => (D.int .i64 (t0.2 i)))), (7, (D.int .i64 ((t0.1 : Nat) : Int))), (8, (D.int .i64 (0 : Int)))], [])) rfl (by kernel_rfl) trivial ?_
  refine runs_to (ts := [3, 6, 7, 8]) (T' := T_cmp_Or_int_L1) (env' := [(3, (D.int .i64 (0 : Int))), (6, (D.lit t0.1 1 fun i => (D.int .i64 (t0.2 i)))), (7, (D.int .i64 ((t0.1 : Nat) : Int))), (8, (D.int .i64 (0 : Int)))]) (h2 := []) (by kernel_rfl) (by kernel_rfl) trivial (Nat.zero_le _) trivial (And.intro trivial (And.intro (fun _ _ => trivial) (And.intro trivial (And.intro trivial trivial)))) ?_
  rcases after_some h with ⟨e2, hi, h⟩ | hi
  · refine iter_cmp_Or_int_L1 fu (0 : Int) t0 ((t0.1 : Nat) : Int) fu (0 : Int) hi ?_
    show Runs Tryz.prog Tryz.f124 0 X_cmp_Or_int_L1T [(3, (D.int .i64 (0 : Int)))] [] d []
    refine runs_regions 1 [([], [2])] (z := ([], [(2, (D.int .i64 (0 : Int)))], [])) rfl (by kernel_rfl) trivial ?_
    rw [← Option.some.inj h] at hk
    obtain rfl : d = (D.int .i64 (0 : Int)) := hk
    exact runs_ret (by kernel_rfl) trivial (Nat.le_refl 0) trivial trivial
  · exact iter_cmp_Or_int_L1 fu (0 : Int) t0 ((t0.1 : Nat) : Int) fu (0 : Int) hi hk

theorem fc_cmp_Or_int (fu : Nat) (t0 : (Nat × (Nat → Int))) {r : Int} (h : F_cmp_Or_int fu t0 = some r) : FC Tryz.prog 124 [(D.lit t0.1 1 fun i => (D.int .i64 (t0.2 i)))] [] (D.int .i64 r) [] := by
  refine fc_of_runs (fn := Tryz.f124) (c := Tryz.f124.body.getD .skip) (by kernel_rfl) (by kernel_rfl) ?_
  refine runs_to (ts := [0]) (T' := T_cmp_Or_int) (env' := [(0, (D.lit t0.1 1 fun i => (D.int .i64 (t0.2 i))))]) (h2 := []) (by kernel_rfl) (by kernel_rfl) trivial (Nat.le_refl _) trivial (And.intro (fun _ _ => trivial) trivial) ?_
  exact run_cmp_Or_int fu t0 h rfl

def K_cube_Compare (d : D) (r : Int) : Prop := d = (D.int .i64 r)

noncomputable def T_cube_Compare : List Item := norm 200 [.code (Tryz.f116.body.getD .skip)]

/-- podesta/cube.Compare -/
def F_cube_Compare (fu : Nat) (t0 : S_api_Cube) (t1 : S_api_Cube) : Option Int :=
  (F_head_Compare fu t0.f1 t1.f1).bind fun r0 =>
  (F_head_Compare fu t0.f0 t1.f0).bind fun r1 =>
  (F_cmp_Or_int fu (2, (fun i => ([r0, r1] : List Int).getD i (0 : Int)))).bind fun r2 =>
  some r2

theorem run_cube_Compare (fu : Nat) (t0 : S_api_Cube) (t1 : S_api_Cube) {d : D} {r : Int} (h : F_cube_Compare fu t0 t1 = some r) (hk : (K_cube_Compare d) r) : Runs Tryz.prog Tryz.f116 0 T_cube_Compare [(0, (S_api_Cube.d t0)), (1, (S_api_Cube.d t1))] [] d [] := by
  unfold F_cube_Compare at h
  obtain ⟨r0, cr0, h⟩ := Option.bind_eq_some_iff.1 h
  obtain ⟨r1, cr1, h⟩ := Option.bind_eq_some_iff.1 h
  obtain ⟨r2, cr2, h⟩ := Option.bind_eq_some_iff.1 h
  refine runs_regions 2 [([], [2, 3]), ([(.d (D.int .i64 r0)), (.d (D.int .i64 r1)), (.lit fun i => (D.int .i64 ((fun i => ([r0, r1] : List Int).getD i (0 : Int)) i))), (.d (D.int .i64 r2))], [4])] (z := ([FC Tryz.prog 125 [(D.ints .u64 12 t0.f1), (D.ints .u64 12 t1.f1)] [] (D.int .i64 r0) [], All (List.map NoRow [(D.ints .u64 12 t0.f1), (D.ints .u64 12 t1.f1)]), FC Tryz.prog 125 [(D.ints .u64 12 t0.f0), (D.ints .u64 12 t1.f0)] [] (D.int .i64 r1) [], All (List.map NoRow [(D.ints .u64 12 t0.f0), (D.ints .u64 12 t1.f0)]), TabOk [(D.int .i64 r0), (D.int .i64 r1)] 1 (D.arr 2 1 fun i => (D.int .i64 ((fun i => ([r0, r1] : List Int).getD i (0 : Int)) i))), FC Tryz.prog 124 [(D.lit 2 1 fun i => (D.int .i64 ((fun i => ([r0, r1] : List Int).getD i (0 : Int)) i)))] [] (D.int .i64 r2) [], All (List.map NoRow [(D.lit 2 1 fun i => (D.int .i64 ((fun i => ([r0, r1] : List Int).getD i (0 : Int)) i)))])], [(4, (D.int .i64 r2))], [some (.box (S_api_Cube.d t0)), some (.box (S_api_Cube.d t1))])) rfl (by kernel_rfl) (And.intro (fc_head_Compare fu t0.f1 t1.f1 cr0) (And.intro (And.intro trivial (And.intro trivial trivial)) (And.intro (fc_head_Compare fu t0.f0 t1.f0 cr1) (And.intro (And.intro trivial (And.intro trivial trivial)) (And.intro (tabOk_arr rfl (And.intro rfl (And.intro rfl trivial))) (And.intro (fc_cmp_Or_int fu (2, (fun i => ([r0, r1] : List Int).getD i (0 : Int))) cr2) (And.intro (And.intro (fun _ _ => trivial) trivial) trivial))))))) ?_
  rw [← Option.some.inj h] at hk
  obtain rfl : d = (D.int .i64 r2) := hk
  exact runs_ret (by kernel_rfl) trivial (Nat.le_refl 0) trivial trivial

theorem fc_cube_Compare (fu : Nat) (t0 : S_api_Cube) (t1 : S_api_Cube) {r : Int} (h : F_cube_Compare fu t0 t1 = some r) : FC Tryz.prog 116 [(S_api_Cube.d t0), (S_api_Cube.d t1)] [] (D.int .i64 r) [] := by
  refine fc_of_runs (fn := Tryz.f116) (c := Tryz.f116.body.getD .skip) (by kernel_rfl) (by kernel_rfl) ?_
  refine runs_to (ts := [0, 1]) (T' := T_cube_Compare) (env' := [(0, (S_api_Cube.d t0)), (1, (S_api_Cube.d t1))]) (h2 := []) (by kernel_rfl) (by kernel_rfl) trivial (Nat.le_refl _) trivial (And.intro (S_api_Cube.inn _) (And.intro (S_api_Cube.inn _) trivial)) ?_
  exact run_cube_Compare fu t0 t1 h rfl

def K_rule_compare (d : D) (r : Int) : Prop := d = (D.int .i64 r)

noncomputable def T_rule_compare : List Item := norm 200 [.code (Tryz.f107.body.getD .skip)]

/-- podesta/rule.compare -/
def F_rule_compare (fu : Nat) (t0 : S_api_Rule) (t1 : S_api_Rule) : Option Int :=
  ifs (t0.f1 != t1.f1) (
    ifs (decide (t0.f1 > t1.f1)) (
      some (-1 : Int)) (
      some (1 : Int))) (
    (F_cube_Compare fu t0.f0 t1.f0).bind fun r0 =>
    some r0)

theorem run_rule_compare (fu : Nat) (t0 : S_api_Rule) (t1 : S_api_Rule) {d : D} {r : Int} (h : F_rule_compare fu t0 t1 = some r) (hk : (K_rule_compare d) r) : Runs Tryz.prog Tryz.f107 0 T_rule_compare [(0, (S_api_Rule.d t0)), (1, (S_api_Rule.d t1))] [] d [] := by
  unfold F_rule_compare at h
  refine runs_regions 2 [([], [2, 3]), ([], [2, 3, 9])] (z := ([], [(2, (D.ptr 0 [])), (3, (D.ptr 1 [])), (9, (D.bool (t0.f1 != t1.f1)))], [some (.box (S_api_Rule.d t0)), some (.box (S_api_Rule.d t1))])) rfl (by kernel_rfl) trivial ?_
  refine runs_if (b := (t0.f1 != t1.f1)) (by kernel_rfl) (fun hb => ?_) (fun hb => ?_)
  · replace h := ifs_true h hb
    refine runs_regions 1 [([], [14])] (z := ([], [(14, (D.bool (decide (t0.f1 > t1.f1))))], [some (.box (S_api_Rule.d t0)), some (.box (S_api_Rule.d t1))])) rfl (by kernel_rfl) trivial ?_
    refine runs_if (b := (decide (t0.f1 > t1.f1))) (by kernel_rfl) (fun hb => ?_) (fun hb => ?_)
    · replace h := ifs_true h hb
      refine runs_regions 1 [([], [4])] (z := ([], [(4, (D.int .i64 (-1 : Int)))], [some (.box (S_api_Rule.d t0)), some (.box (S_api_Rule.d t1))])) rfl (by kernel_rfl) trivial ?_
      rw [← Option.some.inj h] at hk
      obtain rfl : d = (D.int .i64 (-1 : Int)) := hk
      exact runs_ret (by kernel_rfl) trivial (Nat.le_refl 0) trivial trivial
    · replace h := ifs_false h hb
      refine runs_regions 1 [([], [4])] (z := ([], [(4, (D.int .i64 (1 : Int)))], [some (.box (S_api_Rule.d t0)), some (.box (S_api_Rule.d t1))])) rfl (by kernel_rfl) trivial ?_
      rw [← Option.some.inj h] at hk
      obtain rfl : d = (D.int .i64 (1 : Int)) := hk
      exact runs_ret (by kernel_rfl) trivial (Nat.le_refl 0) trivial trivial
  · replace h := ifs_false h hb
    obtain ⟨r0, cr0, h⟩ := Option.bind_eq_some_iff.1 h
    refine runs_regions 1 [([(.d (D.int .i64 r0))], [4])] (z := ([FC Tryz.prog 116 [(S_api_Cube.d t0.f0), (S_api_Cube.d t1.f0)] [] (D.int .i64 r0) [], All (List.map NoRow [(S_api_Cube.d t0.f0), (S_api_Cube.d t1.f0)])], [(4, (D.int .i64 r0))], [some (.box (S_api_Rule.d t0)), some (.box (S_api_Rule.d t1))])) rfl (by kernel_rfl) (And.intro (fc_cube_Compare fu t0.f0 t1.f0 cr0) (And.intro (And.intro (S_api_Cube.inn _) (And.intro (S_api_Cube.inn _) trivial)) trivial)) ?_
    rw [← Option.some.inj h] at hk
    obtain rfl : d = (D.int .i64 r0) := hk
    exact runs_ret (by kernel_rfl) trivial (Nat.le_refl 0) trivial trivial

theorem fc_rule_compare (fu : Nat) (t0 : S_api_Rule) (t1 : S_api_Rule) {r : Int} (h : F_rule_compare fu t0 t1 = some r) : FC Tryz.prog 107 [(S_api_Rule.d t0), (S_api_Rule.d t1)] [] (D.int .i64 r) [] := by
  refine fc_of_runs (fn := Tryz.f107) (c := Tryz.f107.body.getD .skip) (by kernel_rfl) (by kernel_rfl) ?_
  refine runs_to (ts := [0, 1]) (T' := T_rule_compare) (env' := [(0, (S_api_Rule.d t0)), (1, (S_api_Rule.d t1))]) (h2 := []) (by kernel_rfl) (by kernel_rfl) trivial (Nat.le_refl _) trivial (And.intro (S_api_Rule.inn _) (And.intro (S_api_Rule.inn _) trivial)) ?_
  exact run_rule_compare fu t0 t1 h rfl

def K_rule_Before (d : D) (r : Bool) : Prop := d = (D.bool r)

noncomputable def T_rule_Before : List Item := norm 200 [.code (Tryz.f88.body.getD .skip)]

/-- podesta/rule.Before -/
def F_rule_Before (fu : Nat) (t0 : S_api_Rule) (t1 : S_api_Rule) : Option Bool :=
  (F_rule_compare fu t0 t1).bind fun r0 =>
  some (decide (r0 < (0 : Int)))

theorem run_rule_Before (fu : Nat) (t0 : S_api_Rule) (t1 : S_api_Rule) {d : D} {r : Bool} (h : F_rule_Before fu t0 t1 = some r) (hk : (K_rule_Before d) r) : Runs Tryz.prog Tryz.f88 0 T_rule_Before [(0, (S_api_Rule.d t0)), (1, (S_api_Rule.d t1))] [] d [] := by
  unfold F_rule_Before at h
  obtain ⟨r0, cr0, h⟩ := Option.bind_eq_some_iff.1 h
  refine runs_regions 2 [([], [2, 3]), ([(.d (D.int .i64 r0))], [4])] (z := ([FC Tryz.prog 107 [(S_api_Rule.d t0), (S_api_Rule.d t1)] [] (D.int .i64 r0) [], All (List.map NoRow [(S_api_Rule.d t0), (S_api_Rule.d t1)])], [(4, (D.bool (decide (r0 < (0 : Int)))))], [some (.box (S_api_Rule.d t0)), some (.box (S_api_Rule.d t1))])) rfl (by kernel_rfl) (And.intro (fc_rule_compare fu t0 t1 cr0) (And.intro (And.intro (S_api_Rule.inn _) (And.intro (S_api_Rule.inn _) trivial)) trivial)) ?_
  rw [← Option.some.inj h] at hk
  obtain rfl : d = (D.bool (decide (r0 < (0 : Int)))) := hk
  exact runs_ret (by kernel_rfl) trivial (Nat.le_refl 0) trivial trivial

theorem fc_rule_Before (fu : Nat) (t0 : S_api_Rule) (t1 : S_api_Rule) {r : Bool} (h : F_rule_Before fu t0 t1 = some r) : FC Tryz.prog 88 [(S_api_Rule.d t0), (S_api_Rule.d t1)] [] (D.bool r) [] := by
  refine fc_of_runs (fn := Tryz.f88) (c := Tryz.f88.body.getD .skip) (by kernel_rfl) (by kernel_rfl) ?_
  refine runs_to (ts := [0, 1]) (T' := T_rule_Before) (env' := [(0, (S_api_Rule.d t0)), (1, (S_api_Rule.d t1))]) (h2 := []) (by kernel_rfl) (by kernel_rfl) trivial (Nat.le_refl _) trivial (And.intro (S_api_Rule.inn _) (And.intro (S_api_Rule.inn _) trivial)) ?_
  exact run_rule_Before fu t0 t1 h rfl

def K_rule_Table (d : D) (r : Bool) : Prop := d = (D.bool r)

noncomputable def T_rule_Table : List Item := norm 200 [.code (Tryz.f71.body.getD .skip)]

noncomputable def T_rule_Table_L1 : List Item := norm 200 (nxt (nxt T_rule_Table))

noncomputable def X_rule_Table_L1T : List Item := norm 200 (cndF (nxt (nxt (nxt T_rule_Table))))

abbrev E_rule_Table_L1 := Unit

def N_rule_Table_L1 (_fu : Nat) (t0 : (Nat × (Nat → S_api_Rule))) (t5 : (Nat × (Nat → S_api_Rule))) (t6 : Int) (d : D) (s : Int) : Prop := Runs Tryz.prog Tryz.f71 0 T_rule_Table_L1 [(0, (S_api_Rule.L t0.1 t0.2)), (5, (S_api_Rule.L t5.1 t5.2)), (6, (D.int .i64 t6)), (7, (D.int .i64 s))] [] d []

def X_rule_Table_L1 (_fu : Nat) (_t0 : (Nat × (Nat → S_api_Rule))) (_t5 : (Nat × (Nat → S_api_Rule))) (_t6 : Int) (d : D) : E_rule_Table_L1 ⊕ Bool → Prop
  | .inl _ => Runs Tryz.prog Tryz.f71 0 X_rule_Table_L1T [] [] d []
  | .inr o => (K_rule_Table d) o

def F_rule_Table_L1 (fu : Nat) (t0 : (Nat × (Nat → S_api_Rule))) (t5 : (Nat × (Nat → S_api_Rule))) (t6 : Int) (t7 : Int) : Option (Lo Int E_rule_Table_L1 Bool) :=
  ifs (decide (t7 < t6)) (
    chk (0 ≤ t7 ∧ t7 < ((t5.1 : Nat) : Int)) <|
    (F_rule_Sound fu (t5.2 t7.toNat)).bind fun r0 =>
    chk (((!(!r0)) && (decide (t7 > (0 : Int)))) = true → (0 ≤ (IntKind.wrap .i64 (t7 - (1 : Int))) ∧ (IntKind.wrap .i64 (t7 - (1 : Int))) < ((t0.1 : Nat) : Int))) <|
    (callIf ((!(!r0)) && (decide (t7 > (0 : Int)))) (F_rule_Before fu (t0.2 (IntKind.wrap .i64 (t7 - (1 : Int))).toNat) (t5.2 t7.toNat)) false).bind fun r1 =>
    ifs (bif (!r0) then true else (bif (decide (t7 > (0 : Int))) then (!r1) else false)) (
      some (.ret false)) (
      some (.next (IntKind.wrap .i64 (t7 + (1 : Int)))))) (
    some (.exit ()))

theorem run_rule_Table_L1 (fu : Nat) (t0 : (Nat × (Nat → S_api_Rule))) (t5 : (Nat × (Nat → S_api_Rule))) (t6 : Int) (t7 : Int) {d : D} {o : (Lo Int E_rule_Table_L1 Bool)} (h : F_rule_Table_L1 fu t0 t5 t6 t7 = some o) (hk : (Lo.post (N_rule_Table_L1 fu t0 t5 t6 d) (X_rule_Table_L1 fu t0 t5 t6 d)) o) : Runs Tryz.prog Tryz.f71 0 T_rule_Table_L1 [(0, (S_api_Rule.L t0.1 t0.2)), (5, (S_api_Rule.L t5.1 t5.2)), (6, (D.int .i64 t6)), (7, (D.int .i64 t7))] [] d [] := by
  unfold F_rule_Table_L1 at h
  refine runs_regions 1 [([], [0, 5, 6, 7, 8])] (z := ([], [(0, (S_api_Rule.L t0.1 t0.2)), (5, (S_api_Rule.L t5.1 t5.2)), (6, (D.int .i64 t6)), (7, (D.int .i64 t7)), (8, (D.bool (decide (t7 < t6))))], [])) rfl (by kernel_rfl) trivial ?_
  refine runs_if (b := (decide (t7 < t6))) (by kernel_rfl) (fun hb => ?_) (fun hb => ?_)
  · replace h := ifs_true h hb
    obtain ⟨p0, h⟩ := chk_some h
    obtain ⟨r0, cr0, h⟩ := Option.bind_eq_some_iff.1 h
    obtain ⟨p1, h⟩ := chk_some h
    obtain ⟨r1, cr1, h⟩ := Option.bind_eq_some_iff.1 h
    refine runs_regions 2 [([], [0, 3, 4, 5, 6, 7]), ([(.d (D.bool r0)), (.d (D.bool r1))], [0, 5, 6, 7, 28])] (z := ([(0 ≤ t7 ∧ t7 < ((t5.1 : Nat) : Int)), FC Tryz.prog 87 [(S_api_Rule.d (t5.2 t7.toNat))] [] (D.bool r0) [], All (List.map NoRow [(S_api_Rule.d (t5.2 t7.toNat))]), ((!(!r0)) = true → All [((!(!r0)) = true → (!(!r0)) = true)]), ((!(!r0)) = true → All [((!(!r0)) = true → (!(!r0)) = true)]), (((!(!r0)) && (decide (t7 > (0 : Int)))) = true → All [(((!(!r0)) && (decide (t7 > (0 : Int)))) = true → ((!(!r0)) && (decide (t7 > (0 : Int)))) = true)]), (((!(!r0)) && (decide (t7 > (0 : Int)))) = true → All [(((!(!r0)) && (decide (t7 > (0 : Int)))) = true → ((!(!r0)) && (decide (t7 > (0 : Int)))) = true), (((!(!r0)) && (decide (t7 > (0 : Int)))) = true → ((!(!r0)) && (decide (t7 > (0 : Int)))) = true), (0 ≤ (IntKind.wrap .i64 (t7 - (1 : Int))) ∧ (IntKind.wrap .i64 (t7 - (1 : Int))) < ((t0.1 : Nat) : Int))]), (((!(!r0)) && (decide (t7 > (0 : Int)))) = true → All [(((!(!r0)) && (decide (t7 > (0 : Int)))) = true → ((!(!r0)) && (decide (t7 > (0 : Int)))) = true)]), (((!(!r0)) && (decide (t7 > (0 : Int)))) = true → All [(((!(!r0)) && (decide (t7 > (0 : Int)))) = true → ((!(!r0)) && (decide (t7 > (0 : Int)))) = true), (((!(!r0)) && (decide (t7 > (0 : Int)))) = true → ((!(!r0)) && (decide (t7 > (0 : Int)))) = true), FC Tryz.prog 88 [(S_api_Rule.d (t0.2 (IntKind.wrap .i64 (t7 - (1 : Int))).toNat)), (S_api_Rule.d (t5.2 t7.toNat))] [] (D.bool r1) [], All (List.map NoRow [(S_api_Rule.d (t0.2 (IntKind.wrap .i64 (t7 - (1 : Int))).toNat)), (S_api_Rule.d (t5.2 t7.toNat))])]), (((!(!r0)) && (decide (t7 > (0 : Int)))) = true → All [(((!(!r0)) && (decide (t7 > (0 : Int)))) = true → ((!(!r0)) && (decide (t7 > (0 : Int)))) = true)]), ((!(!r0)) = true → All [((!(!r0)) = true → (!(!r0)) = true), (((!(!r0)) && (decide (t7 > (0 : Int)))) = true → ((!(!r0)) && (decide (t7 > (0 : Int)))) = true)]), ((true && !(!r0)) = true → (!(!r0)) = true)], [(0, (S_api_Rule.L t0.1 t0.2)), (5, (S_api_Rule.L t5.1 t5.2)), (6, (D.int .i64 t6)), (7, (D.int .i64 t7)), (28, (D.bool (bif (!r0) then true else (bif (decide (t7 > (0 : Int))) then (!r1) else false))))], [some (.box (S_api_Rule.d (t5.2 t7.toNat)))])) rfl (by kernel_rfl) (And.intro p0 (And.intro (fc_rule_Sound fu (t5.2 t7.toNat) cr0) (And.intro (And.intro (S_api_Rule.inn _) trivial) (And.intro (fun _ => (And.intro (by first | exact fun h => h | exact fun h => (Bool.and_eq_true_iff.1 h).1 | simp_all) trivial)) (And.intro (fun _ => (And.intro (by first | exact fun h => h | exact fun h => (Bool.and_eq_true_iff.1 h).1 | simp_all) trivial)) (And.intro (fun _ => (And.intro (by first | exact fun h => h | exact fun h => (Bool.and_eq_true_iff.1 h).1 | simp_all) trivial)) (And.intro (fun hg => (And.intro (by first | exact fun h => h | exact fun h => (Bool.and_eq_true_iff.1 h).1 | simp_all) (And.intro (by first | exact fun h => h | exact fun h => (Bool.and_eq_true_iff.1 h).1 | simp_all) (And.intro (p1 hg) trivial)))) (And.intro (fun _ => (And.intro (by first | exact fun h => h | exact fun h => (Bool.and_eq_true_iff.1 h).1 | simp_all) trivial)) (And.intro (fun hg => (And.intro (by first | exact fun h => h | exact fun h => (Bool.and_eq_true_iff.1 h).1 | simp_all) (And.intro (by first | exact fun h => h | exact fun h => (Bool.and_eq_true_iff.1 h).1 | simp_all) (And.intro (fc_rule_Before fu (t0.2 (IntKind.wrap .i64 (t7 - (1 : Int))).toNat) (t5.2 t7.toNat) (callIf_some cr1 hg)) (And.intro (And.intro (S_api_Rule.inn _) (And.intro (S_api_Rule.inn _) trivial)) trivial))))) (And.intro (fun _ => (And.intro (by first | exact fun h => h | exact fun h => (Bool.and_eq_true_iff.1 h).1 | simp_all) trivial)) (And.intro (fun _ => (And.intro (by first | exact fun h => h | exact fun h => (Bool.and_eq_true_iff.1 h).1 | simp_all) (And.intro (by first | exact fun h => h | exact fun h => (Bool.and_eq_true_iff.1 h).1 | simp_all) trivial))) (And.intro (by first | exact fun h => h | exact fun h => (Bool.and_eq_true_iff.1 h).1 | simp_all) trivial)))))))))))) ?_
    refine runs_if (b := (bif (!r0) then true else (bif (decide (t7 > (0 : Int))) then (!r1) else false))) (by kernel_rfl) (fun hb => ?_) (fun hb => ?_)
    · replace h := ifs_true h hb
      refine runs_regions 1 [([], [2])] (z := ([], [(2, (D.bool false))], [some (.box (S_api_Rule.d (t5.2 t7.toNat)))])) rfl (by kernel_rfl) trivial ?_
      rw [← Option.some.inj h] at hk
      obtain rfl : d = (D.bool false) := hk
      exact runs_ret (by kernel_rfl) trivial (Nat.le_refl 0) trivial trivial
    · replace h := ifs_false h hb
      refine runs_regions 1 [([], [0, 5, 6, 7])] (z := ([], [(0, (S_api_Rule.L t0.1 t0.2)), (5, (S_api_Rule.L t5.1 t5.2)), (6, (D.int .i64 t6)), (7, (D.int .i64 (IntKind.wrap .i64 (t7 + (1 : Int)))))], [some (.box (S_api_Rule.d (t5.2 t7.toNat)))])) rfl (by kernel_rfl) trivial ?_
      rw [← Option.some.inj h] at hk
      refine runs_to (ts := [0, 5, 6, 7]) (T' := T_rule_Table_L1) (env' := [(0, (S_api_Rule.L t0.1 t0.2)), (5, (S_api_Rule.L t5.1 t5.2)), (6, (D.int .i64 t6)), (7, (D.int .i64 (IntKind.wrap .i64 (t7 + (1 : Int)))))]) (h2 := []) (by kernel_rfl) (by kernel_rfl) trivial (Nat.zero_le _) trivial (And.intro (fun _ _ => (S_api_Rule.inn _)) (And.intro (fun _ _ => (S_api_Rule.inn _)) (And.intro trivial (And.intro trivial trivial)))) ?_
      exact hk
  · replace h := ifs_false h hb
    rw [← Option.some.inj h] at hk
    refine runs_to (ts := []) (T' := X_rule_Table_L1T) (env' := []) (h2 := []) (by kernel_rfl) (by kernel_rfl) trivial (Nat.zero_le _) trivial trivial ?_
    exact hk

theorem iter_rule_Table_L1 (fu : Nat) (t0 : (Nat × (Nat → S_api_Rule))) (t5 : (Nat × (Nat → S_api_Rule))) (t6 : Int) {d : D} (k : Nat) (s : Int) {o : E_rule_Table_L1 ⊕ Bool} (h : iter (fun s => F_rule_Table_L1 fu t0 t5 t6 s) k s = some o) (hx : X_rule_Table_L1 fu t0 t5 t6 d o) : N_rule_Table_L1 fu t0 t5 t6 d s :=
  iter_post (K := N_rule_Table_L1 fu t0 t5 t6 d) (X := X_rule_Table_L1 fu t0 t5 t6 d) (fun s _ h hk => run_rule_Table_L1 fu t0 t5 t6 s h hk) k s o h hx

/-- podesta/rule.Table -/
def F_rule_Table (fu : Nat) (t0 : (Nat × (Nat → S_api_Rule))) : Option Bool :=
  after (iter (fun s => F_rule_Table_L1 fu t0 t0 ((t0.1 : Nat) : Int) s) fu (0 : Int)) fun _ =>
  some true

theorem run_rule_Table (fu : Nat) (t0 : (Nat × (Nat → S_api_Rule))) {d : D} {r : Bool} (h : F_rule_Table fu t0 = some r) (hk : (K_rule_Table d) r) : Runs Tryz.prog Tryz.f71 0 T_rule_Table [(0, (S_api_Rule.L t0.1 t0.2))] [] d [] := by
  unfold F_rule_Table at h
  refine runs_regions 2 [([], [0]), ([], [0, 5, 6, 7])] (z := ([], [(0, (S_api_Rule.L t0.1 t0.2)), (5, (S_api_Rule.L t0.1 t0.2)), (6, (D.int .i64 ((t0.1 : Nat) : Int))), (7, (D.int .i64 (0 : Int)))], [])) rfl (by kernel_rfl) trivial ?_
  refine runs_to (ts := [0, 5, 6, 7]) (T' := T_rule_Table_L1) (env' := [(0, (S_api_Rule.L t0.1 t0.2)), (5, (S_api_Rule.L t0.1 t0.2)), (6, (D.int .i64 ((t0.1 : Nat) : Int))), (7, (D.int .i64 (0 : Int)))]) (h2 := []) (by kernel_rfl) (by kernel_rfl) trivial (Nat.zero_le _) trivial (And.intro (fun _ _ => (S_api_Rule.inn _)) (And.intro (fun _ _ => (S_api_Rule.inn _)) (And.intro trivial (And.intro trivial trivial)))) ?_
  rcases after_some h with ⟨e3, hi, h⟩ | hi
  · refine iter_rule_Table_L1 fu t0 t0 ((t0.1 : Nat) : Int) fu (0 : Int) hi ?_
    show Runs Tryz.prog Tryz.f71 0 X_rule_Table_L1T [] [] d []
    refine runs_regions 1 [([], [2])] (z := ([], [(2, (D.bool true))], [])) rfl (by kernel_rfl) trivial ?_
    rw [← Option.some.inj h] at hk
    obtain rfl : d = (D.bool true) := hk
    exact runs_ret (by kernel_rfl) trivial (Nat.le_refl 0) trivial trivial
  · exact iter_rule_Table_L1 fu t0 t0 ((t0.1 : Nat) : Int) fu (0 : Int) hi hk

theorem fc_rule_Table (fu : Nat) (t0 : (Nat × (Nat → S_api_Rule))) {r : Bool} (h : F_rule_Table fu t0 = some r) : FC Tryz.prog 71 [(S_api_Rule.L t0.1 t0.2)] [] (D.bool r) [] := by
  refine fc_of_runs (fn := Tryz.f71) (c := Tryz.f71.body.getD .skip) (by kernel_rfl) (by kernel_rfl) ?_
  refine runs_to (ts := [0]) (T' := T_rule_Table) (env' := [(0, (S_api_Rule.L t0.1 t0.2))]) (h2 := []) (by kernel_rfl) (by kernel_rfl) trivial (Nat.le_refl _) trivial (And.intro (fun _ _ => (S_api_Rule.inn _)) trivial) ?_
  exact run_rule_Table fu t0 h rfl

def K_mods_span (d : D) (r : Bool) : Prop := d = (D.bool r)

noncomputable def T_mods_span : List Item := norm 200 [.code (Tryz.f91.body.getD .skip)]

/-- podesta/mods.span -/
def F_mods_span (t0 : Int) (t1 : Int) : Option Bool :=
  some (bif (decide (t0 ≥ (0 : Int))) then (decide (t0 ≤ t1)) else false)

theorem run_mods_span (t0 : Int) (t1 : Int) {d : D} {r : Bool} (h : F_mods_span t0 t1 = some r) (hk : (K_mods_span d) r) : Runs Tryz.prog Tryz.f91 0 T_mods_span [(0, (D.int .i64 t0)), (1, (D.int .i64 t1))] [] d [] := by
  unfold F_mods_span at h
  refine runs_regions 2 [([], [0, 1]), ([], [4])] (z := ([((decide (t0 ≥ (0 : Int))) = true → All [((decide (t0 ≥ (0 : Int))) = true → (decide (t0 ≥ (0 : Int))) = true), ((decide (t0 ≥ (0 : Int))) = true → (decide (t0 ≥ (0 : Int))) = true)]), ((true && (decide (t0 ≥ (0 : Int)))) = true → (decide (t0 ≥ (0 : Int))) = true)], [(4, (D.bool (bif (decide (t0 ≥ (0 : Int))) then (decide (t0 ≤ t1)) else false)))], [])) rfl (by kernel_rfl) (And.intro (fun _ => (And.intro (by first | exact fun h => h | exact fun h => (Bool.and_eq_true_iff.1 h).1 | simp_all) (And.intro (by first | exact fun h => h | exact fun h => (Bool.and_eq_true_iff.1 h).1 | simp_all) trivial))) (And.intro (by first | exact fun h => h | exact fun h => (Bool.and_eq_true_iff.1 h).1 | simp_all) trivial)) ?_
  rw [← Option.some.inj h] at hk
  obtain rfl : d = (D.bool (bif (decide (t0 ≥ (0 : Int))) then (decide (t0 ≤ t1)) else false)) := hk
  exact runs_ret (by kernel_rfl) trivial (Nat.le_refl 0) trivial trivial

theorem fc_mods_span (t0 : Int) (t1 : Int) {r : Bool} (h : F_mods_span t0 t1 = some r) : FC Tryz.prog 91 [(D.int .i64 t0), (D.int .i64 t1)] [] (D.bool r) [] := by
  refine fc_of_runs (fn := Tryz.f91) (c := Tryz.f91.body.getD .skip) (by kernel_rfl) (by kernel_rfl) ?_
  refine runs_to (ts := [0, 1]) (T' := T_mods_span) (env' := [(0, (D.int .i64 t0)), (1, (D.int .i64 t1))]) (h2 := []) (by kernel_rfl) (by kernel_rfl) trivial (Nat.le_refl _) trivial (And.intro trivial (And.intro trivial trivial)) ?_
  exact run_mods_span t0 t1 h rfl

def K_mods_plain (d : D) (r : Bool) : Prop := d = (D.bool r)

noncomputable def T_mods_plain : List Item := norm 200 [.code (Tryz.f92.body.getD .skip)]

/-- podesta/mods.plain -/
def F_mods_plain (t0 : S_api_Mod) : Option Bool :=
  some (bif (bif (t0.f4 == (0 : Int)) then (t0.f5 == (0 : Int)) else false) then (!t0.f7) else false)

theorem run_mods_plain (t0 : S_api_Mod) {d : D} {r : Bool} (h : F_mods_plain t0 = some r) (hk : (K_mods_plain d) r) : Runs Tryz.prog Tryz.f92 0 T_mods_plain [(0, (S_api_Mod.d t0))] [] d [] := by
  unfold F_mods_plain at h
  refine runs_regions 2 [([], [1]), ([], [2])] (z := ([((t0.f4 == (0 : Int)) = true → All [((t0.f4 == (0 : Int)) = true → (t0.f4 == (0 : Int)) = true)]), ((t0.f4 == (0 : Int)) = true → All [((t0.f4 == (0 : Int)) = true → (t0.f4 == (0 : Int)) = true)]), ((true && (t0.f4 == (0 : Int))) = true → (t0.f4 == (0 : Int)) = true), ((bif (t0.f4 == (0 : Int)) then (t0.f5 == (0 : Int)) else false) = true → All [((bif (t0.f4 == (0 : Int)) then (t0.f5 == (0 : Int)) else false) = true → (bif (t0.f4 == (0 : Int)) then (t0.f5 == (0 : Int)) else false) = true)]), ((bif (t0.f4 == (0 : Int)) then (t0.f5 == (0 : Int)) else false) = true → All [((bif (t0.f4 == (0 : Int)) then (t0.f5 == (0 : Int)) else false) = true → (bif (t0.f4 == (0 : Int)) then (t0.f5 == (0 : Int)) else false) = true)]), ((true && (bif (t0.f4 == (0 : Int)) then (t0.f5 == (0 : Int)) else false)) = true → (bif (t0.f4 == (0 : Int)) then (t0.f5 == (0 : Int)) else false) = true)], [(2, (D.bool (bif (bif (t0.f4 == (0 : Int)) then (t0.f5 == (0 : Int)) else false) then (!t0.f7) else false)))], [some (.box (S_api_Mod.d t0))])) rfl (by kernel_rfl) (And.intro (fun _ => (And.intro (by first | exact fun h => h | exact fun h => (Bool.and_eq_true_iff.1 h).1 | simp_all) trivial)) (And.intro (fun _ => (And.intro (by first | exact fun h => h | exact fun h => (Bool.and_eq_true_iff.1 h).1 | simp_all) trivial)) (And.intro (by first | exact fun h => h | exact fun h => (Bool.and_eq_true_iff.1 h).1 | simp_all) (And.intro (fun _ => (And.intro (by first | exact fun h => h | exact fun h => (Bool.and_eq_true_iff.1 h).1 | simp_all) trivial)) (And.intro (fun _ => (And.intro (by first | exact fun h => h | exact fun h => (Bool.and_eq_true_iff.1 h).1 | simp_all) trivial)) (And.intro (by first | exact fun h => h | exact fun h => (Bool.and_eq_true_iff.1 h).1 | simp_all) trivial)))))) ?_
  rw [← Option.some.inj h] at hk
  obtain rfl : d = (D.bool (bif (bif (t0.f4 == (0 : Int)) then (t0.f5 == (0 : Int)) else false) then (!t0.f7) else false)) := hk
  exact runs_ret (by kernel_rfl) trivial (Nat.le_refl 0) trivial trivial

theorem fc_mods_plain (t0 : S_api_Mod) {r : Bool} (h : F_mods_plain t0 = some r) : FC Tryz.prog 92 [(S_api_Mod.d t0)] [] (D.bool r) [] := by
  refine fc_of_runs (fn := Tryz.f92) (c := Tryz.f92.body.getD .skip) (by kernel_rfl) (by kernel_rfl) ?_
  refine runs_to (ts := [0]) (T' := T_mods_plain) (env' := [(0, (S_api_Mod.d t0))]) (h2 := []) (by kernel_rfl) (by kernel_rfl) trivial (Nat.le_refl _) trivial (And.intro (S_api_Mod.inn _) trivial) ?_
  exact run_mods_plain t0 h rfl

def K_mods_Sound (d : D) (r : Bool) : Prop := d = (D.bool r)

noncomputable def T_mods_Sound : List Item := norm 200 [.code (Tryz.f72.body.getD .skip)]

/-- podesta/mods.Sound -/
def F_mods_Sound (fu : Nat) (t0 : S_api_Mod) : Option Bool :=
  (F_cube_Sound fu t0.f1).bind fun r0 =>
  (callIf (!(!r0)) (F_act_Sound fu t0.f3) false).bind fun r1 =>
  (callIf (!(bif (!r0) then true else (!r1))) (F_mods_span t0.f2 (65535 : Int)) false).bind fun r2 =>
  (callIf (!(bif (bif (!r0) then true else (!r1)) then true else (!r2))) (F_mods_span t0.f6 (255 : Int)) false).bind fun r3 =>
  ifs (bif (bif (bif (!r0) then true else (!r1)) then true else (!r2)) then true else (!r3)) (
    some false) (
    ifs (t0.f0 == (1 : Int)) (
      (F_mods_span t0.f4 (1048576 : Int)).bind fun r4 =>
      (callIf r4 (F_mods_span t0.f5 (1048576 : Int)) false).bind fun r5 =>
      some (bif r4 then r5 else false)) (
      ifs (t0.f0 == (2 : Int)) (
        (F_mods_plain t0).bind fun r6 =>
        some (bif r6 then (t0.f2 == (0 : Int)) else false)) (
        ifs (t0.f0 == (3 : Int)) (
          (F_mods_plain t0).bind fun r7 =>
          some (bif (bif r7 then (t0.f2 == (0 : Int)) else false) then (((t0.f3.1 : Nat) : Int) == (0 : Int)) else false)) (
          ifs (t0.f0 == (4 : Int)) (
            (F_mods_plain t0).bind fun r8 =>
            some r8) (
            ifs (t0.f0 == (5 : Int)) (
              (F_mods_plain t0).bind fun r9 =>
              some (bif r9 then (((t0.f3.1 : Nat) : Int) == (0 : Int)) else false)) (
              some false))))))

theorem run_mods_Sound (fu : Nat) (t0 : S_api_Mod) {d : D} {r : Bool} (h : F_mods_Sound fu t0 = some r) (hk : (K_mods_Sound d) r) : Runs Tryz.prog Tryz.f72 0 T_mods_Sound [(0, (S_api_Mod.d t0))] [] d [] := by
  unfold F_mods_Sound at h
  obtain ⟨r0, cr0, h⟩ := Option.bind_eq_some_iff.1 h
  obtain ⟨r1, cr1, h⟩ := Option.bind_eq_some_iff.1 h
  obtain ⟨r2, cr2, h⟩ := Option.bind_eq_some_iff.1 h
  obtain ⟨r3, cr3, h⟩ := Option.bind_eq_some_iff.1 h
  refine runs_regions 2 [([], [1]), ([(.d (D.bool r0)), (.d (D.bool r1)), (.d (D.bool r2)), (.d (D.bool r3))], [1, 24])] (z := ([FC Tryz.prog 89 [(S_api_Cube.d t0.f1)] [] (D.bool r0) [], All (List.map NoRow [(S_api_Cube.d t0.f1)]), ((!(!r0)) = true → All [((!(!r0)) = true → (!(!r0)) = true)]), ((!(!r0)) = true → All [((!(!r0)) = true → (!(!r0)) = true), FC Tryz.prog 90 [(S_api_Act.L t0.f3.1 t0.f3.2)] [] (D.bool r1) [], All (List.map NoRow [(S_api_Act.L t0.f3.1 t0.f3.2)])]), ((!(!r0)) = true → All [((!(!r0)) = true → (!(!r0)) = true)]), ((true && !(!r0)) = true → (!(!r0)) = true), ((!(bif (!r0) then true else (!r1))) = true → All [((!(bif (!r0) then true else (!r1))) = true → (!(bif (!r0) then true else (!r1))) = true)]), ((!(bif (!r0) then true else (!r1))) = true → All [((!(bif (!r0) then true else (!r1))) = true → (!(bif (!r0) then true else (!r1))) = true), FC Tryz.prog 91 [(D.int .i64 t0.f2), (D.int .i64 (65535 : Int))] [] (D.bool r2) [], All (List.map NoRow [(D.int .i64 t0.f2), (D.int .i64 (65535 : Int))])]), ((!(bif (!r0) then true else (!r1))) = true → All [((!(bif (!r0) then true else (!r1))) = true → (!(bif (!r0) then true else (!r1))) = true)]), ((true && !(bif (!r0) then true else (!r1))) = true → (!(bif (!r0) then true else (!r1))) = true), ((!(bif (bif (!r0) then true else (!r1)) then true else (!r2))) = true → All [((!(bif (bif (!r0) then true else (!r1)) then true else (!r2))) = true → (!(bif (bif (!r0) then true else (!r1)) then true else (!r2))) = true)]), ((!(bif (bif (!r0) then true else (!r1)) then true else (!r2))) = true → All [((!(bif (bif (!r0) then true else (!r1)) then true else (!r2))) = true → (!(bif (bif (!r0) then true else (!r1)) then true else (!r2))) = true), FC Tryz.prog 91 [(D.int .i64 t0.f6), (D.int .i64 (255 : Int))] [] (D.bool r3) [], All (List.map NoRow [(D.int .i64 t0.f6), (D.int .i64 (255 : Int))])]), ((!(bif (bif (!r0) then true else (!r1)) then true else (!r2))) = true → All [((!(bif (bif (!r0) then true else (!r1)) then true else (!r2))) = true → (!(bif (bif (!r0) then true else (!r1)) then true else (!r2))) = true)]), ((true && !(bif (bif (!r0) then true else (!r1)) then true else (!r2))) = true → (!(bif (bif (!r0) then true else (!r1)) then true else (!r2))) = true)], [(1, (D.ptr 0 [])), (24, (D.bool (bif (bif (bif (!r0) then true else (!r1)) then true else (!r2)) then true else (!r3))))], [some (.box (S_api_Mod.d t0))])) rfl (by kernel_rfl) (And.intro (fc_cube_Sound fu t0.f1 cr0) (And.intro (And.intro (S_api_Cube.inn _) trivial) (And.intro (fun _ => (And.intro (by first | exact fun h => h | exact fun h => (Bool.and_eq_true_iff.1 h).1 | simp_all) trivial)) (And.intro (fun hg => (And.intro (by first | exact fun h => h | exact fun h => (Bool.and_eq_true_iff.1 h).1 | simp_all) (And.intro (fc_act_Sound fu t0.f3 (callIf_some cr1 hg)) (And.intro (And.intro (fun _ _ => (S_api_Act.inn _)) trivial) trivial)))) (And.intro (fun _ => (And.intro (by first | exact fun h => h | exact fun h => (Bool.and_eq_true_iff.1 h).1 | simp_all) trivial)) (And.intro (by first | exact fun h => h | exact fun h => (Bool.and_eq_true_iff.1 h).1 | simp_all) (And.intro (fun _ => (And.intro (by first | exact fun h => h | exact fun h => (Bool.and_eq_true_iff.1 h).1 | simp_all) trivial)) (And.intro (fun hg => (And.intro (by first | exact fun h => h | exact fun h => (Bool.and_eq_true_iff.1 h).1 | simp_all) (And.intro (fc_mods_span t0.f2 (65535 : Int) (callIf_some cr2 hg)) (And.intro (And.intro trivial (And.intro trivial trivial)) trivial)))) (And.intro (fun _ => (And.intro (by first | exact fun h => h | exact fun h => (Bool.and_eq_true_iff.1 h).1 | simp_all) trivial)) (And.intro (by first | exact fun h => h | exact fun h => (Bool.and_eq_true_iff.1 h).1 | simp_all) (And.intro (fun _ => (And.intro (by first | exact fun h => h | exact fun h => (Bool.and_eq_true_iff.1 h).1 | simp_all) trivial)) (And.intro (fun hg => (And.intro (by first | exact fun h => h | exact fun h => (Bool.and_eq_true_iff.1 h).1 | simp_all) (And.intro (fc_mods_span t0.f6 (255 : Int) (callIf_some cr3 hg)) (And.intro (And.intro trivial (And.intro trivial trivial)) trivial)))) (And.intro (fun _ => (And.intro (by first | exact fun h => h | exact fun h => (Bool.and_eq_true_iff.1 h).1 | simp_all) trivial)) (And.intro (by first | exact fun h => h | exact fun h => (Bool.and_eq_true_iff.1 h).1 | simp_all) trivial)))))))))))))) ?_
  refine runs_if (b := (bif (bif (bif (!r0) then true else (!r1)) then true else (!r2)) then true else (!r3))) (by kernel_rfl) (fun hb => ?_) (fun hb => ?_)
  · replace h := ifs_true h hb
    refine runs_regions 1 [([], [2])] (z := ([], [(2, (D.bool false))], [some (.box (S_api_Mod.d t0))])) rfl (by kernel_rfl) trivial ?_
    rw [← Option.some.inj h] at hk
    obtain rfl : d = (D.bool false) := hk
    exact runs_ret (by kernel_rfl) trivial (Nat.le_refl 0) trivial trivial
  · replace h := ifs_false h hb
    refine runs_regions 2 [([], [1, 26]), ([], [1, 26, 27])] (z := ([], [(1, (D.ptr 0 [])), (26, (D.int .i64 t0.f0)), (27, (D.bool (t0.f0 == (1 : Int))))], [some (.box (S_api_Mod.d t0))])) rfl (by kernel_rfl) trivial ?_
    refine runs_if (b := (t0.f0 == (1 : Int))) (by kernel_rfl) (fun hb => ?_) (fun hb => ?_)
    · replace h := ifs_true h hb
      obtain ⟨r4, cr4, h⟩ := Option.bind_eq_some_iff.1 h
      obtain ⟨r5, cr5, h⟩ := Option.bind_eq_some_iff.1 h
      refine runs_regions 1 [([(.d (D.bool r4)), (.d (D.bool r5))], [2])] (z := ([FC Tryz.prog 91 [(D.int .i64 t0.f4), (D.int .i64 (1048576 : Int))] [] (D.bool r4) [], All (List.map NoRow [(D.int .i64 t0.f4), (D.int .i64 (1048576 : Int))]), (r4 = true → All [(r4 = true → r4 = true)]), (r4 = true → All [(r4 = true → r4 = true), FC Tryz.prog 91 [(D.int .i64 t0.f5), (D.int .i64 (1048576 : Int))] [] (D.bool r5) [], All (List.map NoRow [(D.int .i64 t0.f5), (D.int .i64 (1048576 : Int))])]), ((true && r4) = true → r4 = true)], [(2, (D.bool (bif r4 then r5 else false)))], [some (.box (S_api_Mod.d t0))])) rfl (by kernel_rfl) (And.intro (fc_mods_span t0.f4 (1048576 : Int) cr4) (And.intro (And.intro trivial (And.intro trivial trivial)) (And.intro (fun _ => (And.intro (by first | exact fun h => h | exact fun h => (Bool.and_eq_true_iff.1 h).1 | simp_all) trivial)) (And.intro (fun hg => (And.intro (by first | exact fun h => h | exact fun h => (Bool.and_eq_true_iff.1 h).1 | simp_all) (And.intro (fc_mods_span t0.f5 (1048576 : Int) (callIf_some cr5 hg)) (And.intro (And.intro trivial (And.intro trivial trivial)) trivial)))) (And.intro (by first | exact fun h => h | exact fun h => (Bool.and_eq_true_iff.1 h).1 | simp_all) trivial))))) ?_
      rw [← Option.some.inj h] at hk
      obtain rfl : d = (D.bool (bif r4 then r5 else false)) := hk
      exact runs_ret (by kernel_rfl) trivial (Nat.le_refl 0) trivial trivial
    · replace h := ifs_false h hb
      refine runs_regions 1 [([], [1, 26, 37])] (z := ([], [(1, (D.ptr 0 [])), (26, (D.int .i64 t0.f0)), (37, (D.bool (t0.f0 == (2 : Int))))], [some (.box (S_api_Mod.d t0))])) rfl (by kernel_rfl) trivial ?_
      refine runs_if (b := (t0.f0 == (2 : Int))) (by kernel_rfl) (fun hb => ?_) (fun hb => ?_)
      · replace h := ifs_true h hb
        obtain ⟨r6, cr6, h⟩ := Option.bind_eq_some_iff.1 h
        refine runs_regions 1 [([(.d (D.bool r6))], [2])] (z := ([FC Tryz.prog 92 [(S_api_Mod.d t0)] [] (D.bool r6) [], All (List.map NoRow [(S_api_Mod.d t0)]), (r6 = true → All [(r6 = true → r6 = true)]), (r6 = true → All [(r6 = true → r6 = true)]), ((true && r6) = true → r6 = true)], [(2, (D.bool (bif r6 then (t0.f2 == (0 : Int)) else false)))], [some (.box (S_api_Mod.d t0))])) rfl (by kernel_rfl) (And.intro (fc_mods_plain t0 cr6) (And.intro (And.intro (S_api_Mod.inn _) trivial) (And.intro (fun _ => (And.intro (by first | exact fun h => h | exact fun h => (Bool.and_eq_true_iff.1 h).1 | simp_all) trivial)) (And.intro (fun _ => (And.intro (by first | exact fun h => h | exact fun h => (Bool.and_eq_true_iff.1 h).1 | simp_all) trivial)) (And.intro (by first | exact fun h => h | exact fun h => (Bool.and_eq_true_iff.1 h).1 | simp_all) trivial))))) ?_
        rw [← Option.some.inj h] at hk
        obtain rfl : d = (D.bool (bif r6 then (t0.f2 == (0 : Int)) else false)) := hk
        exact runs_ret (by kernel_rfl) trivial (Nat.le_refl 0) trivial trivial
      · replace h := ifs_false h hb
        refine runs_regions 1 [([], [1, 26, 46])] (z := ([], [(1, (D.ptr 0 [])), (26, (D.int .i64 t0.f0)), (46, (D.bool (t0.f0 == (3 : Int))))], [some (.box (S_api_Mod.d t0))])) rfl (by kernel_rfl) trivial ?_
        refine runs_if (b := (t0.f0 == (3 : Int))) (by kernel_rfl) (fun hb => ?_) (fun hb => ?_)
        · replace h := ifs_true h hb
          obtain ⟨r7, cr7, h⟩ := Option.bind_eq_some_iff.1 h
          refine runs_regions 1 [([(.d (D.bool r7))], [2])] (z := ([FC Tryz.prog 92 [(S_api_Mod.d t0)] [] (D.bool r7) [], All (List.map NoRow [(S_api_Mod.d t0)]), (r7 = true → All [(r7 = true → r7 = true)]), (r7 = true → All [(r7 = true → r7 = true)]), ((true && r7) = true → r7 = true), ((bif r7 then (t0.f2 == (0 : Int)) else false) = true → All [((bif r7 then (t0.f2 == (0 : Int)) else false) = true → (bif r7 then (t0.f2 == (0 : Int)) else false) = true)]), ((bif r7 then (t0.f2 == (0 : Int)) else false) = true → All [((bif r7 then (t0.f2 == (0 : Int)) else false) = true → (bif r7 then (t0.f2 == (0 : Int)) else false) = true)]), ((bif r7 then (t0.f2 == (0 : Int)) else false) = true → All [((bif r7 then (t0.f2 == (0 : Int)) else false) = true → (bif r7 then (t0.f2 == (0 : Int)) else false) = true)]), ((true && (bif r7 then (t0.f2 == (0 : Int)) else false)) = true → (bif r7 then (t0.f2 == (0 : Int)) else false) = true)], [(2, (D.bool (bif (bif r7 then (t0.f2 == (0 : Int)) else false) then (((t0.f3.1 : Nat) : Int) == (0 : Int)) else false)))], [some (.box (S_api_Mod.d t0))])) rfl (by kernel_rfl) (And.intro (fc_mods_plain t0 cr7) (And.intro (And.intro (S_api_Mod.inn _) trivial) (And.intro (fun _ => (And.intro (by first | exact fun h => h | exact fun h => (Bool.and_eq_true_iff.1 h).1 | simp_all) trivial)) (And.intro (fun _ => (And.intro (by first | exact fun h => h | exact fun h => (Bool.and_eq_true_iff.1 h).1 | simp_all) trivial)) (And.intro (by first | exact fun h => h | exact fun h => (Bool.and_eq_true_iff.1 h).1 | simp_all) (And.intro (fun _ => (And.intro (by first | exact fun h => h | exact fun h => (Bool.and_eq_true_iff.1 h).1 | simp_all) trivial)) (And.intro (fun _ => (And.intro (by first | exact fun h => h | exact fun h => (Bool.and_eq_true_iff.1 h).1 | simp_all) trivial)) (And.intro (fun _ => (And.intro (by first | exact fun h => h | exact fun h => (Bool.and_eq_true_iff.1 h).1 | simp_all) trivial)) (And.intro (by first | exact fun h => h | exact fun h => (Bool.and_eq_true_iff.1 h).1 | simp_all) trivial))))))))) ?_
          rw [← Option.some.inj h] at hk
          obtain rfl : d = (D.bool (bif (bif r7 then (t0.f2 == (0 : Int)) else false) then (((t0.f3.1 : Nat) : Int) == (0 : Int)) else false)) := hk
          exact runs_ret (by kernel_rfl) trivial (Nat.le_refl 0) trivial trivial
        · replace h := ifs_false h hb
          refine runs_regions 1 [([], [1, 26, 61])] (z := ([], [(1, (D.ptr 0 [])), (26, (D.int .i64 t0.f0)), (61, (D.bool (t0.f0 == (4 : Int))))], [some (.box (S_api_Mod.d t0))])) rfl (by kernel_rfl) trivial ?_
          refine runs_if (b := (t0.f0 == (4 : Int))) (by kernel_rfl) (fun hb => ?_) (fun hb => ?_)
          · replace h := ifs_true h hb
            obtain ⟨r8, cr8, h⟩ := Option.bind_eq_some_iff.1 h
            refine runs_regions 1 [([(.d (D.bool r8))], [2])] (z := ([FC Tryz.prog 92 [(S_api_Mod.d t0)] [] (D.bool r8) [], All (List.map NoRow [(S_api_Mod.d t0)])], [(2, (D.bool r8))], [some (.box (S_api_Mod.d t0))])) rfl (by kernel_rfl) (And.intro (fc_mods_plain t0 cr8) (And.intro (And.intro (S_api_Mod.inn _) trivial) trivial)) ?_
            rw [← Option.some.inj h] at hk
            obtain rfl : d = (D.bool r8) := hk
            exact runs_ret (by kernel_rfl) trivial (Nat.le_refl 0) trivial trivial
          · replace h := ifs_false h hb
            refine runs_regions 1 [([], [1, 65])] (z := ([], [(1, (D.ptr 0 [])), (65, (D.bool (t0.f0 == (5 : Int))))], [some (.box (S_api_Mod.d t0))])) rfl (by kernel_rfl) trivial ?_
            refine runs_if (b := (t0.f0 == (5 : Int))) (by kernel_rfl) (fun hb => ?_) (fun hb => ?_)
            · replace h := ifs_true h hb
              obtain ⟨r9, cr9, h⟩ := Option.bind_eq_some_iff.1 h
              refine runs_regions 1 [([(.d (D.bool r9))], [2])] (z := ([FC Tryz.prog 92 [(S_api_Mod.d t0)] [] (D.bool r9) [], All (List.map NoRow [(S_api_Mod.d t0)]), (r9 = true → All [(r9 = true → r9 = true)]), (r9 = true → All [(r9 = true → r9 = true)]), (r9 = true → All [(r9 = true → r9 = true)]), ((true && r9) = true → r9 = true)], [(2, (D.bool (bif r9 then (((t0.f3.1 : Nat) : Int) == (0 : Int)) else false)))], [some (.box (S_api_Mod.d t0))])) rfl (by kernel_rfl) (And.intro (fc_mods_plain t0 cr9) (And.intro (And.intro (S_api_Mod.inn _) trivial) (And.intro (fun _ => (And.intro (by first | exact fun h => h | exact fun h => (Bool.and_eq_true_iff.1 h).1 | simp_all) trivial)) (And.intro (fun _ => (And.intro (by first | exact fun h => h | exact fun h => (Bool.and_eq_true_iff.1 h).1 | simp_all) trivial)) (And.intro (fun _ => (And.intro (by first | exact fun h => h | exact fun h => (Bool.and_eq_true_iff.1 h).1 | simp_all) trivial)) (And.intro (by first | exact fun h => h | exact fun h => (Bool.and_eq_true_iff.1 h).1 | simp_all) trivial)))))) ?_
              rw [← Option.some.inj h] at hk
              obtain rfl : d = (D.bool (bif r9 then (((t0.f3.1 : Nat) : Int) == (0 : Int)) else false)) := hk
              exact runs_ret (by kernel_rfl) trivial (Nat.le_refl 0) trivial trivial
            · replace h := ifs_false h hb
              refine runs_regions 1 [([], [2])] (z := ([], [(2, (D.bool false))], [some (.box (S_api_Mod.d t0))])) rfl (by kernel_rfl) trivial ?_
              rw [← Option.some.inj h] at hk
              obtain rfl : d = (D.bool false) := hk
              exact runs_ret (by kernel_rfl) trivial (Nat.le_refl 0) trivial trivial

theorem fc_mods_Sound (fu : Nat) (t0 : S_api_Mod) {r : Bool} (h : F_mods_Sound fu t0 = some r) : FC Tryz.prog 72 [(S_api_Mod.d t0)] [] (D.bool r) [] := by
  refine fc_of_runs (fn := Tryz.f72) (c := Tryz.f72.body.getD .skip) (by kernel_rfl) (by kernel_rfl) ?_
  refine runs_to (ts := [0]) (T' := T_mods_Sound) (env' := [(0, (S_api_Mod.d t0))]) (h2 := []) (by kernel_rfl) (by kernel_rfl) trivial (Nat.le_refl _) trivial (And.intro (S_api_Mod.inn _) trivial) ?_
  exact run_mods_Sound fu t0 h rfl

def K_rule_Key (d : D) (r : Bool) : Prop := d = (D.bool r)

noncomputable def T_rule_Key : List Item := norm 200 [.code (Tryz.f32.body.getD .skip)]

/-- podesta/rule.Key -/
def F_rule_Key (t0 : S_api_Rule) (t1 : S_api_Rule) : Option Bool :=
  some (bif (((List.range 12).all fun i => t0.f0.f0 i == t1.f0.f0 i) && (((List.range 12).all fun i => t0.f0.f1 i == t1.f0.f1 i) && true)) then (t0.f1 == t1.f1) else false)

theorem run_rule_Key (t0 : S_api_Rule) (t1 : S_api_Rule) {d : D} {r : Bool} (h : F_rule_Key t0 t1 = some r) (hk : (K_rule_Key d) r) : Runs Tryz.prog Tryz.f32 0 T_rule_Key [(0, (S_api_Rule.d t0)), (1, (S_api_Rule.d t1))] [] d [] := by
  unfold F_rule_Key at h
  refine runs_regions 2 [([], [2, 3]), ([], [4])] (z := ([((((List.range 12).all fun i => t0.f0.f0 i == t1.f0.f0 i) && (((List.range 12).all fun i => t0.f0.f1 i == t1.f0.f1 i) && true)) = true → All [((((List.range 12).all fun i => t0.f0.f0 i == t1.f0.f0 i) && (((List.range 12).all fun i => t0.f0.f1 i == t1.f0.f1 i) && true)) = true → (((List.range 12).all fun i => t0.f0.f0 i == t1.f0.f0 i) && (((List.range 12).all fun i => t0.f0.f1 i == t1.f0.f1 i) && true)) = true)]), ((((List.range 12).all fun i => t0.f0.f0 i == t1.f0.f0 i) && (((List.range 12).all fun i => t0.f0.f1 i == t1.f0.f1 i) && true)) = true → All [((((List.range 12).all fun i => t0.f0.f0 i == t1.f0.f0 i) && (((List.range 12).all fun i => t0.f0.f1 i == t1.f0.f1 i) && true)) = true → (((List.range 12).all fun i => t0.f0.f0 i == t1.f0.f0 i) && (((List.range 12).all fun i => t0.f0.f1 i == t1.f0.f1 i) && true)) = true)]), ((((List.range 12).all fun i => t0.f0.f0 i == t1.f0.f0 i) && (((List.range 12).all fun i => t0.f0.f1 i == t1.f0.f1 i) && true)) = true → All [((((List.range 12).all fun i => t0.f0.f0 i == t1.f0.f0 i) && (((List.range 12).all fun i => t0.f0.f1 i == t1.f0.f1 i) && true)) = true → (((List.range 12).all fun i => t0.f0.f0 i == t1.f0.f0 i) && (((List.range 12).all fun i => t0.f0.f1 i == t1.f0.f1 i) && true)) = true), ((((List.range 12).all fun i => t0.f0.f0 i == t1.f0.f0 i) && (((List.range 12).all fun i => t0.f0.f1 i == t1.f0.f1 i) && true)) = true → (((List.range 12).all fun i => t0.f0.f0 i == t1.f0.f0 i) && (((List.range 12).all fun i => t0.f0.f1 i == t1.f0.f1 i) && true)) = true)]), ((true && (((List.range 12).all fun i => t0.f0.f0 i == t1.f0.f0 i) && (((List.range 12).all fun i => t0.f0.f1 i == t1.f0.f1 i) && true))) = true → (((List.range 12).all fun i => t0.f0.f0 i == t1.f0.f0 i) && (((List.range 12).all fun i => t0.f0.f1 i == t1.f0.f1 i) && true)) = true)], [(4, (D.bool (bif (((List.range 12).all fun i => t0.f0.f0 i == t1.f0.f0 i) && (((List.range 12).all fun i => t0.f0.f1 i == t1.f0.f1 i) && true)) then (t0.f1 == t1.f1) else false)))], [some (.box (S_api_Rule.d t0)), some (.box (S_api_Rule.d t1))])) rfl (by kernel_rfl) (And.intro (fun _ => (And.intro (by first | exact fun h => h | exact fun h => (Bool.and_eq_true_iff.1 h).1 | simp_all) trivial)) (And.intro (fun _ => (And.intro (by first | exact fun h => h | exact fun h => (Bool.and_eq_true_iff.1 h).1 | simp_all) trivial)) (And.intro (fun _ => (And.intro (by first | exact fun h => h | exact fun h => (Bool.and_eq_true_iff.1 h).1 | simp_all) (And.intro (by first | exact fun h => h | exact fun h => (Bool.and_eq_true_iff.1 h).1 | simp_all) trivial))) (And.intro (by first | exact fun h => h | exact fun h => (Bool.and_eq_true_iff.1 h).1 | simp_all) trivial)))) ?_
  rw [← Option.some.inj h] at hk
  obtain rfl : d = (D.bool (bif (((List.range 12).all fun i => t0.f0.f0 i == t1.f0.f0 i) && (((List.range 12).all fun i => t0.f0.f1 i == t1.f0.f1 i) && true)) then (t0.f1 == t1.f1) else false)) := hk
  exact runs_ret (by kernel_rfl) trivial (Nat.le_refl 0) trivial trivial

theorem fc_rule_Key (t0 : S_api_Rule) (t1 : S_api_Rule) {r : Bool} (h : F_rule_Key t0 t1 = some r) : FC Tryz.prog 32 [(S_api_Rule.d t0), (S_api_Rule.d t1)] [] (D.bool r) [] := by
  refine fc_of_runs (fn := Tryz.f32) (c := Tryz.f32.body.getD .skip) (by kernel_rfl) (by kernel_rfl) ?_
  refine runs_to (ts := [0, 1]) (T' := T_rule_Key) (env' := [(0, (S_api_Rule.d t0)), (1, (S_api_Rule.d t1))]) (h2 := []) (by kernel_rfl) (by kernel_rfl) trivial (Nat.le_refl _) trivial (And.intro (S_api_Rule.inn _) (And.intro (S_api_Rule.inn _) trivial)) ?_
  exact run_rule_Key t0 t1 h rfl

end Go.Proofs.YtbggcjkpjmnbaaaGreat
