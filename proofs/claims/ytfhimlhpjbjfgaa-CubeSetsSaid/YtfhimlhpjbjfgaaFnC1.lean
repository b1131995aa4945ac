/- What the functions compute, each proved to do so (printed by pgen.py). -/
import Derived.Test.YtfhimlhpjbjfgaaProg
import Derived.Test.YtfhimlhpjbjfgaaPodK
namespace Go.Proofs.Ytfhimlhpjbjfgaa
open Go Go.Pod Go.Proofs

structure S_api_Cube where
  f0 : (Nat → Int)
  f1 : (Nat → Int)

def S_api_Cube.d (x : S_api_Cube) : D := (D.cons (D.ints .u64 12 x.f0) (D.cons (D.ints .u64 12 x.f1) D.nil))

def S_api_Cube.wf (x : S_api_Cube) : Prop := (∀ i, i < 12 → (Lit.int .u64 (x.f0 i)).wf = true) ∧ (∀ i, i < 12 → (Lit.int .u64 (x.f1 i)).wf = true) ∧ True

def K_head_there (d : D) (r : Bool) : Prop := d = (D.bool r)

noncomputable def T_head_there : List Item := norm 200 [.code (Try.f50.body.getD .skip)]

/-- podesta/head.there -/
def F_head_there (t0 : Int) : Option Bool :=
  some (bif (decide (t0 ≥ (0 : Int))) then (decide (t0 < (12 : Int))) else false)

theorem run_head_there (t0 : Int) {d : D} {r : Bool} (h : F_head_there t0 = some r) (hk : K_head_there d r) : Runs Try.prog Try.f50 0 T_head_there [(0, (D.int .i64 t0))] [] d [] := by
  unfold F_head_there at h
  refine runs_regions 2 [([], [0]), ([], [2])] (z := ([((decide (t0 ≥ (0 : Int))) = true → All [((decide (t0 ≥ (0 : Int))) = true → (decide (t0 ≥ (0 : Int))) = true)]), ((true && (decide (t0 ≥ (0 : Int)))) = true → (decide (t0 ≥ (0 : Int))) = true)], [(2, (D.bool (bif (decide (t0 ≥ (0 : Int))) then (decide (t0 < (12 : Int))) else false)))], [])) rfl (by kernel_rfl) (And.intro (fun _ => (And.intro (by first | exact fun h => h | exact fun h => (Bool.and_eq_true_iff.1 h).1 | simp_all) trivial)) (And.intro (by first | exact fun h => h | exact fun h => (Bool.and_eq_true_iff.1 h).1 | simp_all) trivial)) ?_
  rw [← Option.some.inj h] at hk
  obtain rfl : d = (D.bool (bif (decide (t0 ≥ (0 : Int))) then (decide (t0 < (12 : Int))) else false)) := hk
  exact runs_ret (by kernel_rfl) trivial (Nat.le_refl 0) trivial trivial

theorem fc_head_there (t0 : Int) {r : Bool} (h : F_head_there t0 = some r) : FC Try.prog 50 [(D.int .i64 t0)] [] (D.bool r) [] := by
  refine fc_of_runs (fn := Try.f50) (c := Try.f50.body.getD .skip) (by kernel_rfl) (by kernel_rfl) ?_
  refine runs_to (ts := [0]) (T' := T_head_there) (env' := [(0, (D.int .i64 t0))]) (h2 := []) (by kernel_rfl) (by kernel_rfl) trivial (Nat.le_refl 0) trivial (And.intro trivial trivial) ?_
  exact run_head_there t0 h rfl

structure S_head_field where
  f0 : ByteArray
  f1 : Int

def S_head_field.d (x : S_head_field) : D := (D.cons (D.str x.f0) (D.cons (D.int .i64 x.f1) D.nil))

def S_head_field.wf (x : S_head_field) : Prop := x.f0.size ≤ maxLen ∧ (Lit.int .i64 x.f1).wf = true ∧ True

def K_head_fields (d : D) (r : (Nat → S_head_field)) : Prop := d = (D.arr 12 2 fun i => (D.cons (D.str (r i).f0) (D.cons (D.int .i64 (r i).f1) D.nil)))

noncomputable def T_head_fields : List Item := norm 200 [.code (Try.f51.body.getD .skip)]

/-- podesta/head.fields -/
def F_head_fields : Option (Nat → S_head_field) :=
  some (fun j => if j = 11 then (S_head_field.mk (⟨#[100, 112, 111, 114, 116]⟩ : ByteArray) (12 : Int)) else (fun j => if j = 10 then (S_head_field.mk (⟨#[115, 112, 111, 114, 116]⟩ : ByteArray) (12 : Int)) else (fun j => if j = 9 then (S_head_field.mk (⟨#[116, 111, 115]⟩ : ByteArray) (8 : Int)) else (fun j => if j = 8 then (S_head_field.mk (⟨#[112, 114, 111, 116, 111]⟩ : ByteArray) (8 : Int)) else (fun j => if j = 7 then (S_head_field.mk (⟨#[100, 115, 116]⟩ : ByteArray) (32 : Int)) else (fun j => if j = 6 then (S_head_field.mk (⟨#[115, 114, 99]⟩ : ByteArray) (32 : Int)) else (fun j => if j = 5 then (S_head_field.mk (⟨#[112, 99, 112]⟩ : ByteArray) (4 : Int)) else (fun j => if j = 4 then (S_head_field.mk (⟨#[118, 108, 97, 110]⟩ : ByteArray) (12 : Int)) else (fun j => if j = 3 then (S_head_field.mk (⟨#[101, 116, 121, 112, 101]⟩ : ByteArray) (16 : Int)) else (fun j => if j = 2 then (S_head_field.mk (⟨#[101, 100, 115, 116]⟩ : ByteArray) (48 : Int)) else (fun j => if j = 1 then (S_head_field.mk (⟨#[101, 115, 114, 99]⟩ : ByteArray) (48 : Int)) else (fun j => if j = 0 then (S_head_field.mk (⟨#[105, 110]⟩ : ByteArray) (16 : Int)) else (fun _ => (S_head_field.mk (⟨#[]⟩ : ByteArray) (0 : Int))) j) j) j) j) j) j) j) j) j) j) j) j)

theorem run_head_fields {d : D} {r : (Nat → S_head_field)} (h : F_head_fields = some r) (hk : K_head_fields d r) : Runs Try.prog Try.f51 0 T_head_fields [] [] d [] := by
  unfold F_head_fields at h
  refine runs_regions 2 [([], [0]), ([], [0])] (z := ([(0 < 12), (1 < 12), (2 < 12), (3 < 12), (4 < 12), (5 < 12), (6 < 12), (7 < 12), (8 < 12), (9 < 12), (10 < 12), (11 < 12)], [(0, (D.ptr 0 []))], [some (.box (D.arr 12 2 fun j => (if j = 11 then (D.cons (D.str (⟨#[100, 112, 111, 114, 116]⟩ : ByteArray)) (D.cons (D.int .i64 (12 : Int)) D.nil)) else (if j = 10 then (D.cons (D.str (⟨#[115, 112, 111, 114, 116]⟩ : ByteArray)) (D.cons (D.int .i64 (12 : Int)) D.nil)) else (if j = 9 then (D.cons (D.str (⟨#[116, 111, 115]⟩ : ByteArray)) (D.cons (D.int .i64 (8 : Int)) D.nil)) else (if j = 8 then (D.cons (D.str (⟨#[112, 114, 111, 116, 111]⟩ : ByteArray)) (D.cons (D.int .i64 (8 : Int)) D.nil)) else (if j = 7 then (D.cons (D.str (⟨#[100, 115, 116]⟩ : ByteArray)) (D.cons (D.int .i64 (32 : Int)) D.nil)) else (if j = 6 then (D.cons (D.str (⟨#[115, 114, 99]⟩ : ByteArray)) (D.cons (D.int .i64 (32 : Int)) D.nil)) else (if j = 5 then (D.cons (D.str (⟨#[112, 99, 112]⟩ : ByteArray)) (D.cons (D.int .i64 (4 : Int)) D.nil)) else (if j = 4 then (D.cons (D.str (⟨#[118, 108, 97, 110]⟩ : ByteArray)) (D.cons (D.int .i64 (12 : Int)) D.nil)) else (if j = 3 then (D.cons (D.str (⟨#[101, 116, 121, 112, 101]⟩ : ByteArray)) (D.cons (D.int .i64 (16 : Int)) D.nil)) else (if j = 2 then (D.cons (D.str (⟨#[101, 100, 115, 116]⟩ : ByteArray)) (D.cons (D.int .i64 (48 : Int)) D.nil)) else (if j = 1 then (D.cons (D.str (⟨#[101, 115, 114, 99]⟩ : ByteArray)) (D.cons (D.int .i64 (48 : Int)) D.nil)) else (if j = 0 then (D.cons (D.str (⟨#[105, 110]⟩ : ByteArray)) (D.cons (D.int .i64 (16 : Int)) D.nil)) else (D.cons (D.str ((fun _ => (S_head_field.mk (⟨#[]⟩ : ByteArray) (0 : Int))) j).f0) (D.cons (D.int .i64 ((fun _ => (S_head_field.mk (⟨#[]⟩ : ByteArray) (0 : Int))) j).f1) D.nil))))))))))))))))])) rfl (by kernel_rfl) (And.intro (by decide) (And.intro (by decide) (And.intro (by decide) (And.intro (by decide) (And.intro (by decide) (And.intro (by decide) (And.intro (by decide) (And.intro (by decide) (And.intro (by decide) (And.intro (by decide) (And.intro (by decide) (And.intro (by decide) trivial)))))))))))) ?_
  refine cast_fun (F := fun q => Runs Try.prog Try.f51 0 _ [(0, (D.ptr 0 []))] [some (.box (D.arr 12 2 q))] d []) (funext fun j => (show (if j = 11 then (D.cons (D.str (⟨#[100, 112, 111, 114, 116]⟩ : ByteArray)) (D.cons (D.int .i64 (12 : Int)) D.nil)) else (if j = 10 then (D.cons (D.str (⟨#[115, 112, 111, 114, 116]⟩ : ByteArray)) (D.cons (D.int .i64 (12 : Int)) D.nil)) else (if j = 9 then (D.cons (D.str (⟨#[116, 111, 115]⟩ : ByteArray)) (D.cons (D.int .i64 (8 : Int)) D.nil)) else (if j = 8 then (D.cons (D.str (⟨#[112, 114, 111, 116, 111]⟩ : ByteArray)) (D.cons (D.int .i64 (8 : Int)) D.nil)) else (if j = 7 then (D.cons (D.str (⟨#[100, 115, 116]⟩ : ByteArray)) (D.cons (D.int .i64 (32 : Int)) D.nil)) else (if j = 6 then (D.cons (D.str (⟨#[115, 114, 99]⟩ : ByteArray)) (D.cons (D.int .i64 (32 : Int)) D.nil)) else (if j = 5 then (D.cons (D.str (⟨#[112, 99, 112]⟩ : ByteArray)) (D.cons (D.int .i64 (4 : Int)) D.nil)) else (if j = 4 then (D.cons (D.str (⟨#[118, 108, 97, 110]⟩ : ByteArray)) (D.cons (D.int .i64 (12 : Int)) D.nil)) else (if j = 3 then (D.cons (D.str (⟨#[101, 116, 121, 112, 101]⟩ : ByteArray)) (D.cons (D.int .i64 (16 : Int)) D.nil)) else (if j = 2 then (D.cons (D.str (⟨#[101, 100, 115, 116]⟩ : ByteArray)) (D.cons (D.int .i64 (48 : Int)) D.nil)) else (if j = 1 then (D.cons (D.str (⟨#[101, 115, 114, 99]⟩ : ByteArray)) (D.cons (D.int .i64 (48 : Int)) D.nil)) else (if j = 0 then (D.cons (D.str (⟨#[105, 110]⟩ : ByteArray)) (D.cons (D.int .i64 (16 : Int)) D.nil)) else (D.cons (D.str ((fun _ => (S_head_field.mk (⟨#[]⟩ : ByteArray) (0 : Int))) j).f0) (D.cons (D.int .i64 ((fun _ => (S_head_field.mk (⟨#[]⟩ : ByteArray) (0 : Int))) j).f1) D.nil)))))))))))))) = (fun x : S_head_field => (D.cons (D.str x.f0) (D.cons (D.int .i64 x.f1) D.nil))) ((fun j => if j = 11 then (S_head_field.mk (⟨#[100, 112, 111, 114, 116]⟩ : ByteArray) (12 : Int)) else (fun j => if j = 10 then (S_head_field.mk (⟨#[115, 112, 111, 114, 116]⟩ : ByteArray) (12 : Int)) else (fun j => if j = 9 then (S_head_field.mk (⟨#[116, 111, 115]⟩ : ByteArray) (8 : Int)) else (fun j => if j = 8 then (S_head_field.mk (⟨#[112, 114, 111, 116, 111]⟩ : ByteArray) (8 : Int)) else (fun j => if j = 7 then (S_head_field.mk (⟨#[100, 115, 116]⟩ : ByteArray) (32 : Int)) else (fun j => if j = 6 then (S_head_field.mk (⟨#[115, 114, 99]⟩ : ByteArray) (32 : Int)) else (fun j => if j = 5 then (S_head_field.mk (⟨#[112, 99, 112]⟩ : ByteArray) (4 : Int)) else (fun j => if j = 4 then (S_head_field.mk (⟨#[118, 108, 97, 110]⟩ : ByteArray) (12 : Int)) else (fun j => if j = 3 then (S_head_field.mk (⟨#[101, 116, 121, 112, 101]⟩ : ByteArray) (16 : Int)) else (fun j => if j = 2 then (S_head_field.mk (⟨#[101, 100, 115, 116]⟩ : ByteArray) (48 : Int)) else (fun j => if j = 1 then (S_head_field.mk (⟨#[101, 115, 114, 99]⟩ : ByteArray) (48 : Int)) else (fun j => if j = 0 then (S_head_field.mk (⟨#[105, 110]⟩ : ByteArray) (16 : Int)) else (fun _ => (S_head_field.mk (⟨#[]⟩ : ByteArray) (0 : Int))) j) j) j) j) j) j) j) j) j) j) j) j) j) from (d_ite (f := fun x : S_head_field => (D.cons (D.str x.f0) (D.cons (D.int .i64 x.f1) D.nil))) rfl (d_ite (f := fun x : S_head_field => (D.cons (D.str x.f0) (D.cons (D.int .i64 x.f1) D.nil))) rfl (d_ite (f := fun x : S_head_field => (D.cons (D.str x.f0) (D.cons (D.int .i64 x.f1) D.nil))) rfl (d_ite (f := fun x : S_head_field => (D.cons (D.str x.f0) (D.cons (D.int .i64 x.f1) D.nil))) rfl (d_ite (f := fun x : S_head_field => (D.cons (D.str x.f0) (D.cons (D.int .i64 x.f1) D.nil))) rfl (d_ite (f := fun x : S_head_field => (D.cons (D.str x.f0) (D.cons (D.int .i64 x.f1) D.nil))) rfl (d_ite (f := fun x : S_head_field => (D.cons (D.str x.f0) (D.cons (D.int .i64 x.f1) D.nil))) rfl (d_ite (f := fun x : S_head_field => (D.cons (D.str x.f0) (D.cons (D.int .i64 x.f1) D.nil))) rfl (d_ite (f := fun x : S_head_field => (D.cons (D.str x.f0) (D.cons (D.int .i64 x.f1) D.nil))) rfl (d_ite (f := fun x : S_head_field => (D.cons (D.str x.f0) (D.cons (D.int .i64 x.f1) D.nil))) rfl (d_ite (f := fun x : S_head_field => (D.cons (D.str x.f0) (D.cons (D.int .i64 x.f1) D.nil))) rfl (d_ite (f := fun x : S_head_field => (D.cons (D.str x.f0) (D.cons (D.int .i64 x.f1) D.nil))) rfl rfl)))))))))))))) ?_
  rw [← Option.some.inj h] at hk
  obtain rfl : d = (D.arr 12 2 fun i => (D.cons (D.str ((fun j => if j = 11 then (S_head_field.mk (⟨#[100, 112, 111, 114, 116]⟩ : ByteArray) (12 : Int)) else (fun j => if j = 10 then (S_head_field.mk (⟨#[115, 112, 111, 114, 116]⟩ : ByteArray) (12 : Int)) else (fun j => if j = 9 then (S_head_field.mk (⟨#[116, 111, 115]⟩ : ByteArray) (8 : Int)) else (fun j => if j = 8 then (S_head_field.mk (⟨#[112, 114, 111, 116, 111]⟩ : ByteArray) (8 : Int)) else (fun j => if j = 7 then (S_head_field.mk (⟨#[100, 115, 116]⟩ : ByteArray) (32 : Int)) else (fun j => if j = 6 then (S_head_field.mk (⟨#[115, 114, 99]⟩ : ByteArray) (32 : Int)) else (fun j => if j = 5 then (S_head_field.mk (⟨#[112, 99, 112]⟩ : ByteArray) (4 : Int)) else (fun j => if j = 4 then (S_head_field.mk (⟨#[118, 108, 97, 110]⟩ : ByteArray) (12 : Int)) else (fun j => if j = 3 then (S_head_field.mk (⟨#[101, 116, 121, 112, 101]⟩ : ByteArray) (16 : Int)) else (fun j => if j = 2 then (S_head_field.mk (⟨#[101, 100, 115, 116]⟩ : ByteArray) (48 : Int)) else (fun j => if j = 1 then (S_head_field.mk (⟨#[101, 115, 114, 99]⟩ : ByteArray) (48 : Int)) else (fun j => if j = 0 then (S_head_field.mk (⟨#[105, 110]⟩ : ByteArray) (16 : Int)) else (fun _ => (S_head_field.mk (⟨#[]⟩ : ByteArray) (0 : Int))) j) j) j) j) j) j) j) j) j) j) j) j) i).f0) (D.cons (D.int .i64 ((fun j => if j = 11 then (S_head_field.mk (⟨#[100, 112, 111, 114, 116]⟩ : ByteArray) (12 : Int)) else (fun j => if j = 10 then (S_head_field.mk (⟨#[115, 112, 111, 114, 116]⟩ : ByteArray) (12 : Int)) else (fun j => if j = 9 then (S_head_field.mk (⟨#[116, 111, 115]⟩ : ByteArray) (8 : Int)) else (fun j => if j = 8 then (S_head_field.mk (⟨#[112, 114, 111, 116, 111]⟩ : ByteArray) (8 : Int)) else (fun j => if j = 7 then (S_head_field.mk (⟨#[100, 115, 116]⟩ : ByteArray) (32 : Int)) else (fun j => if j = 6 then (S_head_field.mk (⟨#[115, 114, 99]⟩ : ByteArray) (32 : Int)) else (fun j => if j = 5 then (S_head_field.mk (⟨#[112, 99, 112]⟩ : ByteArray) (4 : Int)) else (fun j => if j = 4 then (S_head_field.mk (⟨#[118, 108, 97, 110]⟩ : ByteArray) (12 : Int)) else (fun j => if j = 3 then (S_head_field.mk (⟨#[101, 116, 121, 112, 101]⟩ : ByteArray) (16 : Int)) else (fun j => if j = 2 then (S_head_field.mk (⟨#[101, 100, 115, 116]⟩ : ByteArray) (48 : Int)) else (fun j => if j = 1 then (S_head_field.mk (⟨#[101, 115, 114, 99]⟩ : ByteArray) (48 : Int)) else (fun j => if j = 0 then (S_head_field.mk (⟨#[105, 110]⟩ : ByteArray) (16 : Int)) else (fun _ => (S_head_field.mk (⟨#[]⟩ : ByteArray) (0 : Int))) j) j) j) j) j) j) j) j) j) j) j) j) i).f1) D.nil))) := hk
  exact runs_ret (by kernel_rfl) trivial (Nat.le_refl 0) trivial (fun _ _ => (And.intro trivial (And.intro trivial trivial)))

theorem fc_head_fields {r : (Nat → S_head_field)} (h : F_head_fields = some r) : FC Try.prog 51 [] [] (D.arr 12 2 fun i => (D.cons (D.str (r i).f0) (D.cons (D.int .i64 (r i).f1) D.nil))) [] := by
  refine fc_of_runs (fn := Try.f51) (c := Try.f51.body.getD .skip) (by kernel_rfl) (by kernel_rfl) ?_
  refine runs_to (ts := []) (T' := T_head_fields) (env' := []) (h2 := []) (by kernel_rfl) (by kernel_rfl) trivial (Nat.le_refl 0) trivial trivial ?_
  exact run_head_fields h rfl

def K_head_Size (d : D) (r : Int) : Prop := d = (D.int .i64 r)

noncomputable def T_head_Size : List Item := norm 200 [.code (Try.f18.body.getD .skip)]

/-- podesta/head.Size -/
def F_head_Size (t0 : Int) : Option Int :=
  (F_head_there t0).bind fun r0 =>
  ifs (!r0) (
    some (0 : Int)) (
    (F_head_fields).bind fun r1 =>
    chk (0 ≤ t0 ∧ t0 < ((12 : Nat) : Int)) <|
    chk (t0.toNat < 12) <|
    some (r1 t0.toNat).f1)

theorem run_head_Size (t0 : Int) {d : D} {r : Int} (h : F_head_Size t0 = some r) (hk : K_head_Size d r) : Runs Try.prog Try.f18 0 T_head_Size [(0, (D.int .i64 t0))] [] d [] := by
  unfold F_head_Size at h
  obtain ⟨r0, cr0, h⟩ := Option.bind_eq_some_iff.1 h
  refine runs_regions 2 [([], [0]), ([(.d (D.bool r0))], [0, 5])] (z := ([FC Try.prog 50 [(D.int .i64 t0)] [] (D.bool r0) [], All (List.map NoRow [(D.int .i64 t0)])], [(0, (D.int .i64 t0)), (5, (D.bool (!r0)))], [])) rfl (by kernel_rfl) (And.intro (fc_head_there t0 cr0) (And.intro (And.intro trivial trivial) trivial)) ?_
  refine runs_if (b := (!r0)) (by kernel_rfl) (fun hb => ?_) (fun hb => ?_)
  · replace h := ifs_true h hb
    refine runs_regions 1 [([], [2])] (z := ([], [(2, (D.int .i64 (0 : Int)))], [])) rfl (by kernel_rfl) trivial ?_
    rw [← Option.some.inj h] at hk
    obtain rfl : d = (D.int .i64 (0 : Int)) := hk
    exact runs_ret (by kernel_rfl) trivial (Nat.le_refl 0) trivial trivial
  · replace h := ifs_false h hb
    obtain ⟨r1, cr1, h⟩ := Option.bind_eq_some_iff.1 h
    obtain ⟨p0, h⟩ := chk_some h
    obtain ⟨p1, h⟩ := chk_some h
    refine runs_regions 1 [([(.d (D.arr 12 2 fun i => (D.cons (D.str (r1 i).f0) (D.cons (D.int .i64 (r1 i).f1) D.nil))))], [2])] (z := ([FC Try.prog 51 [] [] (D.arr 12 2 fun i => (D.cons (D.str (r1 i).f0) (D.cons (D.int .i64 (r1 i).f1) D.nil))) [], All (List.map NoRow []), (0 ≤ t0 ∧ t0 < ((12 : Nat) : Int)), (t0.toNat < 12)], [(2, (D.int .i64 (r1 t0.toNat).f1))], [])) rfl (by kernel_rfl) (And.intro (fc_head_fields cr1) (And.intro trivial (And.intro p0 (And.intro p1 trivial)))) ?_
    rw [← Option.some.inj h] at hk
    obtain rfl : d = (D.int .i64 (r1 t0.toNat).f1) := hk
    exact runs_ret (by kernel_rfl) trivial (Nat.le_refl 0) trivial trivial

theorem fc_head_Size (t0 : Int) {r : Int} (h : F_head_Size t0 = some r) : FC Try.prog 18 [(D.int .i64 t0)] [] (D.int .i64 r) [] := by
  refine fc_of_runs (fn := Try.f18) (c := Try.f18.body.getD .skip) (by kernel_rfl) (by kernel_rfl) ?_
  refine runs_to (ts := [0]) (T' := T_head_Size) (env' := [(0, (D.int .i64 t0))]) (h2 := []) (by kernel_rfl) (by kernel_rfl) trivial (Nat.le_refl 0) trivial (And.intro trivial trivial) ?_
  exact run_head_Size t0 h rfl

def K_head_fits (d : D) (r : Bool) : Prop := d = (D.bool r)

noncomputable def T_head_fits : List Item := norm 200 [.code (Try.f52.body.getD .skip)]

/-- podesta/head.fits -/
def F_head_fits (t0 : Int) (t1 : Int) : Option Bool :=
  (F_head_Size t0).bind fun r0 =>
  chk (0 ≤ r0) <|
  some ((ishr .u64 t1 r0) == (0 : Int))

theorem run_head_fits (t0 : Int) (t1 : Int) {d : D} {r : Bool} (h : F_head_fits t0 t1 = some r) (hk : K_head_fits d r) : Runs Try.prog Try.f52 0 T_head_fits [(0, (D.int .i64 t0)), (1, (D.int .u64 t1))] [] d [] := by
  unfold F_head_fits at h
  obtain ⟨r0, cr0, h⟩ := Option.bind_eq_some_iff.1 h
  obtain ⟨p0, h⟩ := chk_some h
  refine runs_regions 2 [([], [0, 1]), ([(.d (D.int .i64 r0))], [4])] (z := ([FC Try.prog 18 [(D.int .i64 t0)] [] (D.int .i64 r0) [], All (List.map NoRow [(D.int .i64 t0)]), (0 ≤ r0)], [(4, (D.bool ((ishr .u64 t1 r0) == (0 : Int))))], [])) rfl (by kernel_rfl) (And.intro (fc_head_Size t0 cr0) (And.intro (And.intro trivial trivial) (And.intro p0 trivial))) ?_
  rw [← Option.some.inj h] at hk
  obtain rfl : d = (D.bool ((ishr .u64 t1 r0) == (0 : Int))) := hk
  exact runs_ret (by kernel_rfl) trivial (Nat.le_refl 0) trivial trivial

theorem fc_head_fits (t0 : Int) (t1 : Int) {r : Bool} (h : F_head_fits t0 t1 = some r) : FC Try.prog 52 [(D.int .i64 t0), (D.int .u64 t1)] [] (D.bool r) [] := by
  refine fc_of_runs (fn := Try.f52) (c := Try.f52.body.getD .skip) (by kernel_rfl) (by kernel_rfl) ?_
  refine runs_to (ts := [0, 1]) (T' := T_head_fits) (env' := [(0, (D.int .i64 t0)), (1, (D.int .u64 t1))]) (h2 := []) (by kernel_rfl) (by kernel_rfl) trivial (Nat.le_refl 0) trivial (And.intro trivial (And.intro trivial trivial)) ?_
  exact run_head_fits t0 t1 h rfl

def K_head_Sound (d : D) (r : Bool) : Prop := d = (D.bool r)

noncomputable def T_head_Sound : List Item := norm 200 [.code (Try.f26.body.getD .skip)]

noncomputable def T_head_Sound_L1 : List Item := norm 200 (nxt (nxt T_head_Sound))

noncomputable def X_head_Sound_L1T : List Item := norm 200 (cndF (nxt (nxt (nxt T_head_Sound))))

abbrev E_head_Sound_L1 := Unit

def N_head_Sound_L1 (_fu : Nat) (t5 : (Nat → Int)) (d : D) (s : Int) : Prop := Runs Try.prog Try.f26 0 T_head_Sound_L1 [(5, (D.ints .u64 12 t5)), (6, (D.int .i64 s))] [] d []

def X_head_Sound_L1 (_fu : Nat) (_t5 : (Nat → Int)) (d : D) : E_head_Sound_L1 ⊕ Bool → Prop
  | .inl _ => Runs Try.prog Try.f26 0 X_head_Sound_L1T [] [] d []
  | .inr o => (K_head_Sound d) o

def F_head_Sound_L1 (_fu : Nat) (t5 : (Nat → Int)) (t6 : Int) : Option (Lo Int E_head_Sound_L1 Bool) :=
  ifs (decide (t6 < (12 : Int))) (
    chk (0 ≤ t6 ∧ t6 < ((12 : Nat) : Int)) <|
    chk (t6.toNat < 12) <|
    (F_head_fits t6 (t5 t6.toNat)).bind fun r0 =>
    ifs (!r0) (
      some (.ret false)) (
      some (.next (IntKind.wrap .i64 (t6 + (1 : Int)))))) (
    some (.exit ()))

theorem run_head_Sound_L1 (fu : Nat) (t5 : (Nat → Int)) (t6 : Int) {d : D} {o : (Lo Int E_head_Sound_L1 Bool)} (h : F_head_Sound_L1 fu t5 t6 = some o) (hk : (Lo.post (N_head_Sound_L1 fu t5 d) (X_head_Sound_L1 fu t5 d)) o) : Runs Try.prog Try.f26 0 T_head_Sound_L1 [(5, (D.ints .u64 12 t5)), (6, (D.int .i64 t6))] [] d [] := by
  unfold F_head_Sound_L1 at h
  refine runs_regions 1 [([], [5, 6, 7])] (z := ([], [(5, (D.ints .u64 12 t5)), (6, (D.int .i64 t6)), (7, (D.bool (decide (t6 < (12 : Int)))))], [])) rfl (by kernel_rfl) trivial ?_
  refine runs_if (b := (decide (t6 < (12 : Int)))) (by kernel_rfl) (fun hb => ?_) (fun hb => ?_)
  · replace h := ifs_true h hb
    obtain ⟨p0, h⟩ := chk_some h
    obtain ⟨p1, h⟩ := chk_some h
    obtain ⟨r0, cr0, h⟩ := Option.bind_eq_some_iff.1 h
    refine runs_regions 2 [([], [3, 4, 5, 6]), ([(.d (D.bool r0))], [5, 6, 13])] (z := ([(0 ≤ t6 ∧ t6 < ((12 : Nat) : Int)), (t6.toNat < 12), FC Try.prog 52 [(D.int .i64 t6), (D.int .u64 (t5 t6.toNat))] [] (D.bool r0) [], All (List.map NoRow [(D.int .i64 t6), (D.int .u64 (t5 t6.toNat))])], [(5, (D.ints .u64 12 t5)), (6, (D.int .i64 t6)), (13, (D.bool (!r0)))], [])) rfl (by kernel_rfl) (And.intro p0 (And.intro p1 (And.intro (fc_head_fits t6 (t5 t6.toNat) cr0) (And.intro (And.intro trivial (And.intro trivial trivial)) trivial)))) ?_
    refine runs_if (b := (!r0)) (by kernel_rfl) (fun hb => ?_) (fun hb => ?_)
    · replace h := ifs_true h hb
      refine runs_regions 1 [([], [2])] (z := ([], [(2, (D.bool false))], [])) rfl (by kernel_rfl) trivial ?_
      rw [← Option.some.inj h] at hk
      obtain rfl : d = (D.bool false) := hk
      exact runs_ret (by kernel_rfl) trivial (Nat.le_refl 0) trivial trivial
    · replace h := ifs_false h hb
      refine runs_regions 1 [([], [5, 6])] (z := ([], [(5, (D.ints .u64 12 t5)), (6, (D.int .i64 (IntKind.wrap .i64 (t6 + (1 : Int)))))], [])) rfl (by kernel_rfl) trivial ?_
      rw [← Option.some.inj h] at hk
      refine runs_to (ts := [5, 6]) (T' := T_head_Sound_L1) (env' := [(5, (D.ints .u64 12 t5)), (6, (D.int .i64 (IntKind.wrap .i64 (t6 + (1 : Int)))))]) (h2 := []) (by kernel_rfl) (by kernel_rfl) trivial (Nat.zero_le _) trivial (And.intro trivial (And.intro trivial trivial)) ?_
      exact hk
  · replace h := ifs_false h hb
    rw [← Option.some.inj h] at hk
    refine runs_to (ts := []) (T' := X_head_Sound_L1T) (env' := []) (h2 := []) (by kernel_rfl) (by kernel_rfl) trivial (Nat.zero_le _) trivial trivial ?_
    exact hk

theorem iter_head_Sound_L1 (fu : Nat) (t5 : (Nat → Int)) {d : D} (k : Nat) (s : Int) {o : E_head_Sound_L1 ⊕ Bool} (h : iter (fun s => F_head_Sound_L1 fu t5 s) k s = some o) (hx : X_head_Sound_L1 fu t5 d o) : N_head_Sound_L1 fu t5 d s :=
  iter_post (K := N_head_Sound_L1 fu t5 d) (X := X_head_Sound_L1 fu t5 d) (fun s _ h hk => run_head_Sound_L1 fu t5 s h hk) k s o h hx

/-- podesta/head.Sound -/
def F_head_Sound (fu : Nat) (t0 : (Nat → Int)) : Option Bool :=
  after (iter (fun s => F_head_Sound_L1 fu t0 s) fu (0 : Int)) fun _ =>
  some true

theorem run_head_Sound (fu : Nat) (t0 : (Nat → Int)) {d : D} {r : Bool} (h : F_head_Sound fu t0 = some r) (hk : K_head_Sound d r) : Runs Try.prog Try.f26 0 T_head_Sound [(0, (D.ints .u64 12 t0))] [] d [] := by
  unfold F_head_Sound at h
  refine runs_regions 2 [([], [1]), ([], [5, 6])] (z := ([], [(5, (D.ints .u64 12 t0)), (6, (D.int .i64 (0 : Int)))], [some (.box (D.ints .u64 12 t0))])) rfl (by kernel_rfl) trivial ?_
  refine runs_to (ts := [5, 6]) (T' := T_head_Sound_L1) (env' := [(5, (D.ints .u64 12 t0)), (6, (D.int .i64 (0 : Int)))]) (h2 := []) (by kernel_rfl) (by kernel_rfl) trivial (Nat.zero_le _) trivial (And.intro trivial (And.intro trivial trivial)) ?_
  rcases after_some h with ⟨e3, hi, h⟩ | hi
  · refine iter_head_Sound_L1 fu t0 fu (0 : Int) hi ?_
    show Runs Try.prog Try.f26 0 X_head_Sound_L1T [] [] d []
    refine runs_regions 1 [([], [2])] (z := ([], [(2, (D.bool true))], [])) rfl (by kernel_rfl) trivial ?_
    rw [← Option.some.inj h] at hk
    obtain rfl : d = (D.bool true) := hk
    exact runs_ret (by kernel_rfl) trivial (Nat.le_refl 0) trivial trivial
  · exact iter_head_Sound_L1 fu t0 fu (0 : Int) hi hk

theorem fc_head_Sound (fu : Nat) (t0 : (Nat → Int)) {r : Bool} (h : F_head_Sound fu t0 = some r) : FC Try.prog 26 [(D.ints .u64 12 t0)] [] (D.bool r) [] := by
  refine fc_of_runs (fn := Try.f26) (c := Try.f26.body.getD .skip) (by kernel_rfl) (by kernel_rfl) ?_
  refine runs_to (ts := [0]) (T' := T_head_Sound) (env' := [(0, (D.ints .u64 12 t0))]) (h2 := []) (by kernel_rfl) (by kernel_rfl) trivial (Nat.le_refl 0) trivial (And.intro trivial trivial) ?_
  exact run_head_Sound fu t0 h rfl

def K_head_Mask (d : D) (r : (Int × Bool)) : Prop := d = (D.tup (D.cons (D.int .u64 r.1) (D.cons (D.bool r.2) D.nil)))

noncomputable def T_head_Mask : List Item := norm 200 [.code (Try.f15.body.getD .skip)]

/-- podesta/head.Mask -/
def F_head_Mask (t0 : Int) (t1 : Int) : Option (Int × Bool) :=
  (F_head_there t0).bind fun r0 =>
  (callIf (!(bif (!r0) then true else (decide (t1 < (0 : Int))))) (F_head_Size t0) (0 : Int)).bind fun r1 =>
  ifs (bif (bif (!r0) then true else (decide (t1 < (0 : Int)))) then true else (decide (t1 > r1))) (
    some ((0 : Int), false)) (
    chk (0 ≤ t1) <|
    (F_head_Size t0).bind fun r2 =>
    chk (0 ≤ (IntKind.wrap .i64 (r2 - t1))) <|
    some ((ishl .u64 (IntKind.wrap .u64 ((ishl .u64 (1 : Int) t1) - (1 : Int))) (IntKind.wrap .i64 (r2 - t1))), true))

theorem run_head_Mask (t0 : Int) (t1 : Int) {d : D} {r : (Int × Bool)} (h : F_head_Mask t0 t1 = some r) (hk : K_head_Mask d r) : Runs Try.prog Try.f15 0 T_head_Mask [(0, (D.int .i64 t0)), (1, (D.int .i64 t1))] [] d [] := by
  unfold F_head_Mask at h
  obtain ⟨r0, cr0, h⟩ := Option.bind_eq_some_iff.1 h
  obtain ⟨r1, cr1, h⟩ := Option.bind_eq_some_iff.1 h
  refine runs_regions 2 [([], [0, 1]), ([(.d (D.bool r0)), (.d (D.int .i64 r1))], [0, 1, 18])] (z := ([FC Try.prog 50 [(D.int .i64 t0)] [] (D.bool r0) [], All (List.map NoRow [(D.int .i64 t0)]), ((!(!r0)) = true → All [((!(!r0)) = true → (!(!r0)) = true)]), ((true && !(!r0)) = true → (!(!r0)) = true), ((!(bif (!r0) then true else (decide (t1 < (0 : Int))))) = true → All [((!(bif (!r0) then true else (decide (t1 < (0 : Int))))) = true → (!(bif (!r0) then true else (decide (t1 < (0 : Int))))) = true), FC Try.prog 18 [(D.int .i64 t0)] [] (D.int .i64 r1) [], All (List.map NoRow [(D.int .i64 t0)])]), ((!(bif (!r0) then true else (decide (t1 < (0 : Int))))) = true → All [((!(bif (!r0) then true else (decide (t1 < (0 : Int))))) = true → (!(bif (!r0) then true else (decide (t1 < (0 : Int))))) = true), ((!(bif (!r0) then true else (decide (t1 < (0 : Int))))) = true → (!(bif (!r0) then true else (decide (t1 < (0 : Int))))) = true)]), ((true && !(bif (!r0) then true else (decide (t1 < (0 : Int))))) = true → (!(bif (!r0) then true else (decide (t1 < (0 : Int))))) = true)], [(0, (D.int .i64 t0)), (1, (D.int .i64 t1)), (18, (D.bool (bif (bif (!r0) then true else (decide (t1 < (0 : Int)))) then true else (decide (t1 > r1)))))], [])) rfl (by kernel_rfl) (And.intro (fc_head_there t0 cr0) (And.intro (And.intro trivial trivial) (And.intro (fun _ => (And.intro (by first | exact fun h => h | exact fun h => (Bool.and_eq_true_iff.1 h).1 | simp_all) trivial)) (And.intro (by first | exact fun h => h | exact fun h => (Bool.and_eq_true_iff.1 h).1 | simp_all) (And.intro (fun hg => (And.intro (by first | exact fun h => h | exact fun h => (Bool.and_eq_true_iff.1 h).1 | simp_all) (And.intro (fc_head_Size t0 (callIf_some cr1 hg)) (And.intro (And.intro trivial trivial) trivial)))) (And.intro (fun _ => (And.intro (by first | exact fun h => h | exact fun h => (Bool.and_eq_true_iff.1 h).1 | simp_all) (And.intro (by first | exact fun h => h | exact fun h => (Bool.and_eq_true_iff.1 h).1 | simp_all) trivial))) (And.intro (by first | exact fun h => h | exact fun h => (Bool.and_eq_true_iff.1 h).1 | simp_all) trivial))))))) ?_
  refine runs_if (b := (bif (bif (!r0) then true else (decide (t1 < (0 : Int)))) then true else (decide (t1 > r1)))) (by kernel_rfl) (fun hb => ?_) (fun hb => ?_)
  · replace h := ifs_true h hb
    refine runs_regions 1 [([], [4, 5])] (z := ([], [(4, (D.int .u64 (0 : Int))), (5, (D.bool false))], [])) rfl (by kernel_rfl) trivial ?_
    rw [← Option.some.inj h] at hk
    obtain rfl : d = (D.tup (D.cons (D.int .u64 (0 : Int)) (D.cons (D.bool false) D.nil))) := hk
    exact runs_ret (by kernel_rfl) trivial (Nat.le_refl 0) trivial (And.intro trivial (And.intro trivial trivial))
  · replace h := ifs_false h hb
    obtain ⟨p0, h⟩ := chk_some h
    obtain ⟨r2, cr2, h⟩ := Option.bind_eq_some_iff.1 h
    obtain ⟨p1, h⟩ := chk_some h
    refine runs_regions 1 [([(.d (D.int .i64 r2))], [4, 5])] (z := ([(0 ≤ t1), FC Try.prog 18 [(D.int .i64 t0)] [] (D.int .i64 r2) [], All (List.map NoRow [(D.int .i64 t0)]), (0 ≤ (IntKind.wrap .i64 (r2 - t1)))], [(4, (D.int .u64 (ishl .u64 (IntKind.wrap .u64 ((ishl .u64 (1 : Int) t1) - (1 : Int))) (IntKind.wrap .i64 (r2 - t1))))), (5, (D.bool true))], [])) rfl (by kernel_rfl) (And.intro p0 (And.intro (fc_head_Size t0 cr2) (And.intro (And.intro trivial trivial) (And.intro p1 trivial)))) ?_
    rw [← Option.some.inj h] at hk
    obtain rfl : d = (D.tup (D.cons (D.int .u64 (ishl .u64 (IntKind.wrap .u64 ((ishl .u64 (1 : Int) t1) - (1 : Int))) (IntKind.wrap .i64 (r2 - t1)))) (D.cons (D.bool true) D.nil))) := hk
    exact runs_ret (by kernel_rfl) trivial (Nat.le_refl 0) trivial (And.intro trivial (And.intro trivial trivial))

theorem fc_head_Mask (t0 : Int) (t1 : Int) {r : (Int × Bool)} (h : F_head_Mask t0 t1 = some r) : FC Try.prog 15 [(D.int .i64 t0), (D.int .i64 t1)] [] (D.tup (D.cons (D.int .u64 r.1) (D.cons (D.bool r.2) D.nil))) [] := by
  refine fc_of_runs (fn := Try.f15) (c := Try.f15.body.getD .skip) (by kernel_rfl) (by kernel_rfl) ?_
  refine runs_to (ts := [0, 1]) (T' := T_head_Mask) (env' := [(0, (D.int .i64 t0)), (1, (D.int .i64 t1))]) (h2 := []) (by kernel_rfl) (by kernel_rfl) trivial (Nat.le_refl 0) trivial (And.intro trivial (And.intro trivial trivial)) ?_
  exact run_head_Mask t0 t1 h rfl

def K_cube_Exact (d : D) (r : (S_api_Cube × Bool)) : Prop := d = (D.tup (D.cons (D.cons (D.ints .u64 12 r.1.f0) (D.cons (D.ints .u64 12 r.1.f1) D.nil)) (D.cons (D.bool r.2) D.nil)))

noncomputable def T_cube_Exact : List Item := norm 200 [.code (Try.f31.body.getD .skip)]

noncomputable def T_cube_Exact_L1 : List Item := norm 200 (nxt (nxt (cndF (nxt (nxt T_cube_Exact)))))

noncomputable def X_cube_Exact_L1T : List Item := norm 200 (cndF (nxt (nxt (nxt (cndF (nxt (nxt T_cube_Exact)))))))

abbrev E_cube_Exact_L1 := S_api_Cube

def N_cube_Exact_L1 (_fu : Nat) (m1 : S_api_Cube) (d : D) (s : (Int × S_api_Cube)) : Prop := Runs Try.prog Try.f31 0 T_cube_Exact_L1 [(2, (D.ptr 1 [])), (4, (D.ptr 2 [])), (12, (D.int .i64 s.1))] [none, some (.box (D.cons (D.ints .u64 12 m1.f0) (D.cons (D.ints .u64 12 m1.f1) D.nil))), some (.box (D.cons (D.ints .u64 12 s.2.f0) (D.cons (D.ints .u64 12 s.2.f1) D.nil)))] d []

def X_cube_Exact_L1 (_fu : Nat) (m1 : S_api_Cube) (d : D) : E_cube_Exact_L1 ⊕ (S_api_Cube × Bool) → Prop
  | .inl e => Runs Try.prog Try.f31 0 X_cube_Exact_L1T [(2, (D.ptr 1 [])), (4, (D.ptr 2 []))] [none, some (.box (D.cons (D.ints .u64 12 m1.f0) (D.cons (D.ints .u64 12 m1.f1) D.nil))), some (.box (D.cons (D.ints .u64 12 e.f0) (D.cons (D.ints .u64 12 e.f1) D.nil)))] d []
  | .inr o => (K_cube_Exact d) o

def F_cube_Exact_L1 (_fu : Nat) (_m1 : S_api_Cube) (t12 : Int) (m2 : S_api_Cube) : Option (Lo (Int × S_api_Cube) E_cube_Exact_L1 (S_api_Cube × Bool)) :=
  ifs (decide (t12 < (12 : Int))) (
    (F_head_Size t12).bind fun r1 =>
    (F_head_Mask t12 r1).bind fun r2 =>
    chk (0 ≤ t12 ∧ t12 < ((12 : Nat) : Int)) <|
    chk (t12.toNat < 12) <|
    some (.next ((IntKind.wrap .i64 (t12 + (1 : Int))), (S_api_Cube.mk m2.f0 (fun j => if j = t12.toNat then r2.1 else m2.f1 j))))) (
    some (.exit m2))

theorem run_cube_Exact_L1 (fu : Nat) (m1 : S_api_Cube) (t12 : Int) (m2 : S_api_Cube) {d : D} {o : (Lo (Int × S_api_Cube) E_cube_Exact_L1 (S_api_Cube × Bool))} (h : F_cube_Exact_L1 fu m1 t12 m2 = some o) (hk : (Lo.post (N_cube_Exact_L1 fu m1 d) (X_cube_Exact_L1 fu m1 d)) o) : Runs Try.prog Try.f31 0 T_cube_Exact_L1 [(2, (D.ptr 1 [])), (4, (D.ptr 2 [])), (12, (D.int .i64 t12))] [none, some (.box (D.cons (D.ints .u64 12 m1.f0) (D.cons (D.ints .u64 12 m1.f1) D.nil))), some (.box (D.cons (D.ints .u64 12 m2.f0) (D.cons (D.ints .u64 12 m2.f1) D.nil)))] d [] := by
  unfold F_cube_Exact_L1 at h
  refine runs_regions 1 [([], [2, 4, 12, 13])] (z := ([], [(2, (D.ptr 1 [])), (4, (D.ptr 2 [])), (12, (D.int .i64 t12)), (13, (D.bool (decide (t12 < (12 : Int)))))], [none, some (.box (D.cons (D.ints .u64 12 m1.f0) (D.cons (D.ints .u64 12 m1.f1) D.nil))), some (.box (D.cons (D.ints .u64 12 m2.f0) (D.cons (D.ints .u64 12 m2.f1) D.nil)))])) rfl (by kernel_rfl) trivial ?_
  refine runs_if (b := (decide (t12 < (12 : Int)))) (by kernel_rfl) (fun hb => ?_) (fun hb => ?_)
  · replace h := ifs_true h hb
    obtain ⟨r1, cr1, h⟩ := Option.bind_eq_some_iff.1 h
    obtain ⟨r2, cr2, h⟩ := Option.bind_eq_some_iff.1 h
    obtain ⟨p0, h⟩ := chk_some h
    obtain ⟨p1, h⟩ := chk_some h
    refine runs_regions 3 [([], [2, 4, 5, 12]), ([(.d (D.int .i64 r1)), (.d (D.tup (D.cons (D.int .u64 r2.1) (D.cons (D.bool r2.2) D.nil))))], [2, 4, 12]), ([], [2, 4, 12])] (z := ([FC Try.prog 18 [(D.int .i64 t12)] [] (D.int .i64 r1) [], All (List.map NoRow [(D.int .i64 t12)]), FC Try.prog 15 [(D.int .i64 t12), (D.int .i64 r1)] [] (D.tup (D.cons (D.int .u64 r2.1) (D.cons (D.bool r2.2) D.nil))) [], All (List.map NoRow [(D.int .i64 t12), (D.int .i64 r1)]), (0 ≤ t12 ∧ t12 < ((12 : Nat) : Int)), (t12.toNat < 12)], [(2, (D.ptr 1 [])), (4, (D.ptr 2 [])), (12, (D.int .i64 (IntKind.wrap .i64 (t12 + (1 : Int)))))], [none, some (.box (D.cons (D.ints .u64 12 m1.f0) (D.cons (D.ints .u64 12 m1.f1) D.nil))), some (.box (D.cons (D.ints .u64 12 m2.f0) (D.cons (D.ints .u64 12 (fun j => if j = t12.toNat then r2.1 else m2.f1 j)) D.nil)))])) rfl (by kernel_rfl) (And.intro (fc_head_Size t12 cr1) (And.intro (And.intro trivial trivial) (And.intro (fc_head_Mask t12 r1 cr2) (And.intro (And.intro trivial (And.intro trivial trivial)) (And.intro p0 (And.intro p1 trivial)))))) ?_
    rw [← Option.some.inj h] at hk
    refine runs_to (ts := [2, 4, 12]) (T' := T_cube_Exact_L1) (env' := [(2, (D.ptr 1 [])), (4, (D.ptr 2 [])), (12, (D.int .i64 (IntKind.wrap .i64 (t12 + (1 : Int)))))]) (h2 := [none, some (.box (D.cons (D.ints .u64 12 m1.f0) (D.cons (D.ints .u64 12 m1.f1) D.nil))), some (.box (D.cons (D.ints .u64 12 m2.f0) (D.cons (D.ints .u64 12 (fun j => if j = t12.toNat then r2.1 else m2.f1 j)) D.nil)))]) (by kernel_rfl) (by kernel_rfl) (And.intro (.inl rfl) (And.intro (.inr rfl) (And.intro (.inr rfl) trivial))) (Nat.zero_le _) (And.intro (And.intro trivial (And.intro trivial trivial)) (And.intro (And.intro trivial (And.intro trivial trivial)) trivial)) (And.intro (bel_of rfl) (And.intro (bel_of rfl) (And.intro trivial trivial))) ?_
    exact hk
  · replace h := ifs_false h hb
    rw [← Option.some.inj h] at hk
    refine runs_to (ts := [2, 4]) (T' := X_cube_Exact_L1T) (env' := [(2, (D.ptr 1 [])), (4, (D.ptr 2 []))]) (h2 := [none, some (.box (D.cons (D.ints .u64 12 m1.f0) (D.cons (D.ints .u64 12 m1.f1) D.nil))), some (.box (D.cons (D.ints .u64 12 m2.f0) (D.cons (D.ints .u64 12 m2.f1) D.nil)))]) (by kernel_rfl) (by kernel_rfl) (And.intro (.inl rfl) (And.intro (.inr rfl) (And.intro (.inr rfl) trivial))) (Nat.zero_le _) (And.intro (And.intro trivial (And.intro trivial trivial)) (And.intro (And.intro trivial (And.intro trivial trivial)) trivial)) (And.intro (bel_of rfl) (And.intro (bel_of rfl) trivial)) ?_
    exact hk

theorem iter_cube_Exact_L1 (fu : Nat) (m1 : S_api_Cube) {d : D} (k : Nat) (s : (Int × S_api_Cube)) {o : E_cube_Exact_L1 ⊕ (S_api_Cube × Bool)} (h : iter (fun s => F_cube_Exact_L1 fu m1 s.1 s.2) k s = some o) (hx : X_cube_Exact_L1 fu m1 d o) : N_cube_Exact_L1 fu m1 d s :=
  iter_post (K := N_cube_Exact_L1 fu m1 d) (X := X_cube_Exact_L1 fu m1 d) (fun s _ h hk => run_cube_Exact_L1 fu m1 s.1 s.2 h hk) k s o h hx

/-- podesta/cube.Exact -/
def F_cube_Exact (fu : Nat) (t0 : (Nat → Int)) : Option (S_api_Cube × Bool) :=
  (F_head_Sound fu t0).bind fun r0 =>
  ifs (!r0) (
    some ((S_api_Cube.mk (fun _ => 0) (fun _ => 0)), false)) (
    after (iter (fun s => F_cube_Exact_L1 fu (S_api_Cube.mk (fun _ => 0) (fun _ => 0)) s.1 s.2) fu ((0 : Int), (S_api_Cube.mk t0 (fun _ => 0)))) fun e3 =>
    some (e3, true))

theorem run_cube_Exact (fu : Nat) (t0 : (Nat → Int)) {d : D} {r : (S_api_Cube × Bool)} (h : F_cube_Exact fu t0 = some r) (hk : K_cube_Exact d r) : Runs Try.prog Try.f31 0 T_cube_Exact [(0, (D.ints .u64 12 t0))] [] d [] := by
  unfold F_cube_Exact at h
  obtain ⟨r0, cr0, h⟩ := Option.bind_eq_some_iff.1 h
  refine runs_regions 2 [([], [1, 2]), ([(.d (D.bool r0))], [1, 2, 8])] (z := ([FC Try.prog 26 [(D.ints .u64 12 t0)] [] (D.bool r0) [], All (List.map NoRow [(D.ints .u64 12 t0)])], [(1, (D.ptr 0 [])), (2, (D.ptr 1 [])), (8, (D.bool (!r0)))], [some (.box (D.ints .u64 12 t0)), some (.box (D.cons (D.ints .u64 12 (fun _ => 0)) (D.cons (D.ints .u64 12 (fun _ => 0)) D.nil)))])) rfl (by kernel_rfl) (And.intro (fc_head_Sound fu t0 cr0) (And.intro (And.intro trivial trivial) trivial)) ?_
  refine runs_if (b := (!r0)) (by kernel_rfl) (fun hb => ?_) (fun hb => ?_)
  · replace h := ifs_true h hb
    refine runs_regions 1 [([], [2, 3])] (z := ([], [(2, (D.ptr 1 [])), (3, (D.bool false))], [some (.box (D.ints .u64 12 t0)), some (.box (D.cons (D.ints .u64 12 (fun _ => 0)) (D.cons (D.ints .u64 12 (fun _ => 0)) D.nil)))])) rfl (by kernel_rfl) trivial ?_
    rw [← Option.some.inj h] at hk
    obtain rfl : d = (D.tup (D.cons (D.cons (D.ints .u64 12 (fun _ => 0)) (D.cons (D.ints .u64 12 (fun _ => 0)) D.nil)) (D.cons (D.bool false) D.nil))) := hk
    exact runs_ret (by kernel_rfl) trivial (Nat.le_refl 0) trivial (And.intro (And.intro trivial (And.intro trivial trivial)) (And.intro trivial trivial))
  · replace h := ifs_false h hb
    refine runs_regions 2 [([], [2, 4]), ([], [2, 4, 12])] (z := ([], [(2, (D.ptr 1 [])), (4, (D.ptr 2 [])), (12, (D.int .i64 (0 : Int)))], [some (.box (D.ints .u64 12 t0)), some (.box (D.cons (D.ints .u64 12 (fun _ => 0)) (D.cons (D.ints .u64 12 (fun _ => 0)) D.nil))), some (.box (D.cons (D.ints .u64 12 t0) (D.cons (D.ints .u64 12 (fun _ => 0)) D.nil)))])) rfl (by kernel_rfl) trivial ?_
    refine runs_to (ts := [2, 4, 12]) (T' := T_cube_Exact_L1) (env' := [(2, (D.ptr 1 [])), (4, (D.ptr 2 [])), (12, (D.int .i64 (0 : Int)))]) (h2 := [none, some (.box (D.cons (D.ints .u64 12 (fun _ => 0)) (D.cons (D.ints .u64 12 (fun _ => 0)) D.nil))), some (.box (D.cons (D.ints .u64 12 t0) (D.cons (D.ints .u64 12 (fun _ => 0)) D.nil)))]) (by kernel_rfl) (by kernel_rfl) (And.intro (.inl rfl) (And.intro (.inr rfl) (And.intro (.inr rfl) trivial))) (Nat.zero_le _) (And.intro (And.intro trivial (And.intro trivial trivial)) (And.intro (And.intro trivial (And.intro trivial trivial)) trivial)) (And.intro (bel_of rfl) (And.intro (bel_of rfl) (And.intro trivial trivial))) ?_
    rcases after_some h with ⟨e3, hi, h⟩ | hi
    · refine iter_cube_Exact_L1 fu (S_api_Cube.mk (fun _ => 0) (fun _ => 0)) fu ((0 : Int), (S_api_Cube.mk t0 (fun _ => 0))) hi ?_
      show Runs Try.prog Try.f31 0 X_cube_Exact_L1T [(2, (D.ptr 1 [])), (4, (D.ptr 2 []))] [none, some (.box (D.cons (D.ints .u64 12 (fun _ => 0)) (D.cons (D.ints .u64 12 (fun _ => 0)) D.nil))), some (.box (D.cons (D.ints .u64 12 e3.f0) (D.cons (D.ints .u64 12 e3.f1) D.nil)))] d []
      refine runs_regions 1 [([], [2, 3])] (z := ([], [(2, (D.ptr 1 [])), (3, (D.bool true))], [none, some (.box (D.cons (D.ints .u64 12 e3.f0) (D.cons (D.ints .u64 12 e3.f1) D.nil))), some (.box (D.cons (D.ints .u64 12 e3.f0) (D.cons (D.ints .u64 12 e3.f1) D.nil)))])) rfl (by kernel_rfl) trivial ?_
      rw [← Option.some.inj h] at hk
      obtain rfl : d = (D.tup (D.cons (D.cons (D.ints .u64 12 e3.f0) (D.cons (D.ints .u64 12 e3.f1) D.nil)) (D.cons (D.bool true) D.nil))) := hk
      exact runs_ret (by kernel_rfl) trivial (Nat.le_refl 0) trivial (And.intro (And.intro trivial (And.intro trivial trivial)) (And.intro trivial trivial))
    · exact iter_cube_Exact_L1 fu (S_api_Cube.mk (fun _ => 0) (fun _ => 0)) fu ((0 : Int), (S_api_Cube.mk t0 (fun _ => 0))) hi hk

theorem fc_cube_Exact (fu : Nat) (t0 : (Nat → Int)) {r : (S_api_Cube × Bool)} (h : F_cube_Exact fu t0 = some r) : FC Try.prog 31 [(D.ints .u64 12 t0)] [] (D.tup (D.cons (D.cons (D.ints .u64 12 r.1.f0) (D.cons (D.ints .u64 12 r.1.f1) D.nil)) (D.cons (D.bool r.2) D.nil))) [] := by
  refine fc_of_runs (fn := Try.f31) (c := Try.f31.body.getD .skip) (by kernel_rfl) (by kernel_rfl) ?_
  refine runs_to (ts := [0]) (T' := T_cube_Exact) (env' := [(0, (D.ints .u64 12 t0))]) (h2 := []) (by kernel_rfl) (by kernel_rfl) trivial (Nat.le_refl 0) trivial (And.intro trivial trivial) ?_
  exact run_cube_Exact fu t0 h rfl

def K_cube_Sound (d : D) (r : Bool) : Prop := d = (D.bool r)

noncomputable def T_cube_Sound : List Item := norm 200 [.code (Try.f34.body.getD .skip)]

noncomputable def T_cube_Sound_L1 : List Item := norm 200 (nxt (cndF (nxt (nxt T_cube_Sound))))

noncomputable def X_cube_Sound_L1T : List Item := norm 200 (cndF (nxt (nxt (cndF (nxt (nxt T_cube_Sound))))))

abbrev E_cube_Sound_L1 := Unit

def N_cube_Sound_L1 (_fu : Nat) (t10 : (Nat → Int)) (m0 : S_api_Cube) (d : D) (s : Int) : Prop := Runs Try.prog Try.f34 0 T_cube_Sound_L1 [(1, (D.ptr 0 [])), (10, (D.ints .u64 12 t10)), (11, (D.int .i64 s))] [some (.box (D.cons (D.ints .u64 12 m0.f0) (D.cons (D.ints .u64 12 m0.f1) D.nil)))] d []

def X_cube_Sound_L1 (_fu : Nat) (_t10 : (Nat → Int)) (_m0 : S_api_Cube) (d : D) : E_cube_Sound_L1 ⊕ Bool → Prop
  | .inl _ => Runs Try.prog Try.f34 0 X_cube_Sound_L1T [] [] d []
  | .inr o => (K_cube_Sound d) o

def F_cube_Sound_L1 (_fu : Nat) (t10 : (Nat → Int)) (m0 : S_api_Cube) (t11 : Int) : Option (Lo Int E_cube_Sound_L1 Bool) :=
  ifs (decide (t11 < (12 : Int))) (
    chk (0 ≤ t11 ∧ t11 < ((12 : Nat) : Int)) <|
    chk (t11.toNat < 12) <|
    chk (0 ≤ t11 ∧ t11 < ((12 : Nat) : Int)) <|
    chk (t11.toNat < 12) <|
    ifs ((iandn .u64 (t10 t11.toNat) (m0.f1 t11.toNat)) != (0 : Int)) (
      some (.ret false)) (
      some (.next (IntKind.wrap .i64 (t11 + (1 : Int)))))) (
    some (.exit ()))

theorem run_cube_Sound_L1 (fu : Nat) (t10 : (Nat → Int)) (m0 : S_api_Cube) (t11 : Int) {d : D} {o : (Lo Int E_cube_Sound_L1 Bool)} (h : F_cube_Sound_L1 fu t10 m0 t11 = some o) (hk : (Lo.post (N_cube_Sound_L1 fu t10 m0 d) (X_cube_Sound_L1 fu t10 m0 d)) o) : Runs Try.prog Try.f34 0 T_cube_Sound_L1 [(1, (D.ptr 0 [])), (10, (D.ints .u64 12 t10)), (11, (D.int .i64 t11))] [some (.box (D.cons (D.ints .u64 12 m0.f0) (D.cons (D.ints .u64 12 m0.f1) D.nil)))] d [] := by
  unfold F_cube_Sound_L1 at h
  refine runs_regions 1 [([], [1, 10, 11, 12])] (z := ([], [(1, (D.ptr 0 [])), (10, (D.ints .u64 12 t10)), (11, (D.int .i64 t11)), (12, (D.bool (decide (t11 < (12 : Int)))))], [some (.box (D.cons (D.ints .u64 12 m0.f0) (D.cons (D.ints .u64 12 m0.f1) D.nil)))])) rfl (by kernel_rfl) trivial ?_
  refine runs_if (b := (decide (t11 < (12 : Int)))) (by kernel_rfl) (fun hb => ?_) (fun hb => ?_)
  · replace h := ifs_true h hb
    obtain ⟨p0, h⟩ := chk_some h
    obtain ⟨p1, h⟩ := chk_some h
    obtain ⟨p2, h⟩ := chk_some h
    obtain ⟨p3, h⟩ := chk_some h
    refine runs_regions 2 [([], [1, 3, 4, 10, 11]), ([], [1, 10, 11, 21])] (z := ([(0 ≤ t11 ∧ t11 < ((12 : Nat) : Int)), (t11.toNat < 12), (0 ≤ t11 ∧ t11 < ((12 : Nat) : Int)), (t11.toNat < 12)], [(1, (D.ptr 0 [])), (10, (D.ints .u64 12 t10)), (11, (D.int .i64 t11)), (21, (D.bool ((iandn .u64 (t10 t11.toNat) (m0.f1 t11.toNat)) != (0 : Int))))], [some (.box (D.cons (D.ints .u64 12 m0.f0) (D.cons (D.ints .u64 12 m0.f1) D.nil)))])) rfl (by kernel_rfl) (And.intro p0 (And.intro p1 (And.intro p2 (And.intro p3 trivial)))) ?_
    refine runs_if (b := ((iandn .u64 (t10 t11.toNat) (m0.f1 t11.toNat)) != (0 : Int))) (by kernel_rfl) (fun hb => ?_) (fun hb => ?_)
    · replace h := ifs_true h hb
      refine runs_regions 1 [([], [2])] (z := ([], [(2, (D.bool false))], [some (.box (D.cons (D.ints .u64 12 m0.f0) (D.cons (D.ints .u64 12 m0.f1) D.nil)))])) rfl (by kernel_rfl) trivial ?_
      rw [← Option.some.inj h] at hk
      obtain rfl : d = (D.bool false) := hk
      exact runs_ret (by kernel_rfl) trivial (Nat.le_refl 0) trivial trivial
    · replace h := ifs_false h hb
      refine runs_regions 1 [([], [1, 10, 11])] (z := ([], [(1, (D.ptr 0 [])), (10, (D.ints .u64 12 t10)), (11, (D.int .i64 (IntKind.wrap .i64 (t11 + (1 : Int)))))], [some (.box (D.cons (D.ints .u64 12 m0.f0) (D.cons (D.ints .u64 12 m0.f1) D.nil)))])) rfl (by kernel_rfl) trivial ?_
      rw [← Option.some.inj h] at hk
      refine runs_to (ts := [1, 10, 11]) (T' := T_cube_Sound_L1) (env' := [(1, (D.ptr 0 [])), (10, (D.ints .u64 12 t10)), (11, (D.int .i64 (IntKind.wrap .i64 (t11 + (1 : Int)))))]) (h2 := [some (.box (D.cons (D.ints .u64 12 m0.f0) (D.cons (D.ints .u64 12 m0.f1) D.nil)))]) (by kernel_rfl) (by kernel_rfl) (And.intro (.inr rfl) trivial) (Nat.zero_le _) (And.intro (And.intro trivial (And.intro trivial trivial)) trivial) (And.intro (bel_of rfl) (And.intro trivial (And.intro trivial trivial))) ?_
      exact hk
  · replace h := ifs_false h hb
    rw [← Option.some.inj h] at hk
    refine runs_to (ts := []) (T' := X_cube_Sound_L1T) (env' := []) (h2 := []) (by kernel_rfl) (by kernel_rfl) trivial (Nat.zero_le _) trivial trivial ?_
    exact hk

theorem iter_cube_Sound_L1 (fu : Nat) (t10 : (Nat → Int)) (m0 : S_api_Cube) {d : D} (k : Nat) (s : Int) {o : E_cube_Sound_L1 ⊕ Bool} (h : iter (fun s => F_cube_Sound_L1 fu t10 m0 s) k s = some o) (hx : X_cube_Sound_L1 fu t10 m0 d o) : N_cube_Sound_L1 fu t10 m0 d s :=
  iter_post (K := N_cube_Sound_L1 fu t10 m0 d) (X := X_cube_Sound_L1 fu t10 m0 d) (fun s _ h hk => run_cube_Sound_L1 fu t10 m0 s h hk) k s o h hx

/-- podesta/cube.Sound -/
def F_cube_Sound (fu : Nat) (t0 : S_api_Cube) : Option Bool :=
  (F_head_Sound fu t0.f1).bind fun r0 =>
  ifs (!r0) (
    some false) (
    after (iter (fun s => F_cube_Sound_L1 fu t0.f0 t0 s) fu (0 : Int)) fun _ =>
    some true)

theorem run_cube_Sound (fu : Nat) (t0 : S_api_Cube) {d : D} {r : Bool} (h : F_cube_Sound fu t0 = some r) (hk : K_cube_Sound d r) : Runs Try.prog Try.f34 0 T_cube_Sound [(0, (D.cons (D.ints .u64 12 t0.f0) (D.cons (D.ints .u64 12 t0.f1) D.nil)))] [] d [] := by
  unfold F_cube_Sound at h
  obtain ⟨r0, cr0, h⟩ := Option.bind_eq_some_iff.1 h
  refine runs_regions 2 [([], [1]), ([(.d (D.bool r0))], [1, 8])] (z := ([FC Try.prog 26 [(D.ints .u64 12 t0.f1)] [] (D.bool r0) [], All (List.map NoRow [(D.ints .u64 12 t0.f1)])], [(1, (D.ptr 0 [])), (8, (D.bool (!r0)))], [some (.box (D.cons (D.ints .u64 12 t0.f0) (D.cons (D.ints .u64 12 t0.f1) D.nil)))])) rfl (by kernel_rfl) (And.intro (fc_head_Sound fu t0.f1 cr0) (And.intro (And.intro trivial trivial) trivial)) ?_
  refine runs_if (b := (!r0)) (by kernel_rfl) (fun hb => ?_) (fun hb => ?_)
  · replace h := ifs_true h hb
    refine runs_regions 1 [([], [2])] (z := ([], [(2, (D.bool false))], [some (.box (D.cons (D.ints .u64 12 t0.f0) (D.cons (D.ints .u64 12 t0.f1) D.nil)))])) rfl (by kernel_rfl) trivial ?_
    rw [← Option.some.inj h] at hk
    obtain rfl : d = (D.bool false) := hk
    exact runs_ret (by kernel_rfl) trivial (Nat.le_refl 0) trivial trivial
  · replace h := ifs_false h hb
    refine runs_regions 1 [([], [1, 10, 11])] (z := ([], [(1, (D.ptr 0 [])), (10, (D.ints .u64 12 t0.f0)), (11, (D.int .i64 (0 : Int)))], [some (.box (D.cons (D.ints .u64 12 t0.f0) (D.cons (D.ints .u64 12 t0.f1) D.nil)))])) rfl (by kernel_rfl) trivial ?_
    refine runs_to (ts := [1, 10, 11]) (T' := T_cube_Sound_L1) (env' := [(1, (D.ptr 0 [])), (10, (D.ints .u64 12 t0.f0)), (11, (D.int .i64 (0 : Int)))]) (h2 := [some (.box (D.cons (D.ints .u64 12 t0.f0) (D.cons (D.ints .u64 12 t0.f1) D.nil)))]) (by kernel_rfl) (by kernel_rfl) (And.intro (.inr rfl) trivial) (Nat.zero_le _) (And.intro (And.intro trivial (And.intro trivial trivial)) trivial) (And.intro (bel_of rfl) (And.intro trivial (And.intro trivial trivial))) ?_
    rcases after_some h with ⟨e5, hi, h⟩ | hi
    · refine iter_cube_Sound_L1 fu t0.f0 t0 fu (0 : Int) hi ?_
      show Runs Try.prog Try.f34 0 X_cube_Sound_L1T [] [] d []
      refine runs_regions 1 [([], [2])] (z := ([], [(2, (D.bool true))], [])) rfl (by kernel_rfl) trivial ?_
      rw [← Option.some.inj h] at hk
      obtain rfl : d = (D.bool true) := hk
      exact runs_ret (by kernel_rfl) trivial (Nat.le_refl 0) trivial trivial
    · exact iter_cube_Sound_L1 fu t0.f0 t0 fu (0 : Int) hi hk

theorem fc_cube_Sound (fu : Nat) (t0 : S_api_Cube) {r : Bool} (h : F_cube_Sound fu t0 = some r) : FC Try.prog 34 [(D.cons (D.ints .u64 12 t0.f0) (D.cons (D.ints .u64 12 t0.f1) D.nil))] [] (D.bool r) [] := by
  refine fc_of_runs (fn := Try.f34) (c := Try.f34.body.getD .skip) (by kernel_rfl) (by kernel_rfl) ?_
  refine runs_to (ts := [0]) (T' := T_cube_Sound) (env' := [(0, (D.cons (D.ints .u64 12 t0.f0) (D.cons (D.ints .u64 12 t0.f1) D.nil)))]) (h2 := []) (by kernel_rfl) (by kernel_rfl) trivial (Nat.le_refl 0) trivial (And.intro (And.intro trivial (And.intro trivial trivial)) trivial) ?_
  exact run_cube_Sound fu t0 h rfl

def K_head_Set (d : D) (r : ((Nat → Int) × Int)) : Prop := d = (D.tup (D.cons (D.ints .u64 12 r.1) (D.cons (D.int .i64 r.2) D.nil)))

noncomputable def T_head_Set : List Item := norm 200 [.code (Try.f20.body.getD .skip)]

/-- podesta/head.Set -/
def F_head_Set (t0 : (Nat → Int)) (t1 : Int) (t2 : Int) : Option ((Nat → Int) × Int) :=
  (F_head_there t1).bind fun r0 =>
  ifs (!r0) (
    some ((fun _ => 0), (1 : Int))) (
    (F_head_fits t1 t2).bind fun r1 =>
    ifs (!r1) (
      some ((fun _ => 0), (13 : Int))) (
      chk (0 ≤ t1 ∧ t1 < ((12 : Nat) : Int)) <|
      chk (t1.toNat < 12) <|
      some ((fun j => if j = t1.toNat then t2 else t0 j), (0 : Int))))

theorem run_head_Set (t0 : (Nat → Int)) (t1 : Int) (t2 : Int) {d : D} {r : ((Nat → Int) × Int)} (h : F_head_Set t0 t1 t2 = some r) (hk : K_head_Set d r) : Runs Try.prog Try.f20 0 T_head_Set [(0, (D.ints .u64 12 t0)), (1, (D.int .i64 t1)), (2, (D.int .u64 t2))] [] d [] := by
  unfold F_head_Set at h
  obtain ⟨r0, cr0, h⟩ := Option.bind_eq_some_iff.1 h
  refine runs_regions 2 [([], [1, 2, 3, 6]), ([(.d (D.bool r0))], [1, 2, 3, 6, 8])] (z := ([FC Try.prog 50 [(D.int .i64 t1)] [] (D.bool r0) [], All (List.map NoRow [(D.int .i64 t1)])], [(1, (D.int .i64 t1)), (2, (D.int .u64 t2)), (3, (D.ptr 0 [])), (6, (D.ptr 1 [])), (8, (D.bool (!r0)))], [some (.box (D.ints .u64 12 t0)), some (.box (D.ints .u64 12 (fun _ => 0)))])) rfl (by kernel_rfl) (And.intro (fc_head_there t1 cr0) (And.intro (And.intro trivial trivial) trivial)) ?_
  refine runs_if (b := (!r0)) (by kernel_rfl) (fun hb => ?_) (fun hb => ?_)
  · replace h := ifs_true h hb
    refine runs_regions 1 [([], [6, 7])] (z := ([], [(6, (D.ptr 1 [])), (7, (D.int .i64 (1 : Int)))], [some (.box (D.ints .u64 12 t0)), some (.box (D.ints .u64 12 (fun _ => 0)))])) rfl (by kernel_rfl) trivial ?_
    rw [← Option.some.inj h] at hk
    obtain rfl : d = (D.tup (D.cons (D.ints .u64 12 (fun _ => 0)) (D.cons (D.int .i64 (1 : Int)) D.nil))) := hk
    exact runs_ret (by kernel_rfl) trivial (Nat.le_refl 0) trivial (And.intro trivial (And.intro trivial trivial))
  · replace h := ifs_false h hb
    obtain ⟨r1, cr1, h⟩ := Option.bind_eq_some_iff.1 h
    refine runs_regions 1 [([(.d (D.bool r1))], [1, 2, 3, 6, 13])] (z := ([FC Try.prog 52 [(D.int .i64 t1), (D.int .u64 t2)] [] (D.bool r1) [], All (List.map NoRow [(D.int .i64 t1), (D.int .u64 t2)])], [(1, (D.int .i64 t1)), (2, (D.int .u64 t2)), (3, (D.ptr 0 [])), (6, (D.ptr 1 [])), (13, (D.bool (!r1)))], [some (.box (D.ints .u64 12 t0)), some (.box (D.ints .u64 12 (fun _ => 0)))])) rfl (by kernel_rfl) (And.intro (fc_head_fits t1 t2 cr1) (And.intro (And.intro trivial (And.intro trivial trivial)) trivial)) ?_
    refine runs_if (b := (!r1)) (by kernel_rfl) (fun hb => ?_) (fun hb => ?_)
    · replace h := ifs_true h hb
      refine runs_regions 1 [([], [6, 7])] (z := ([], [(6, (D.ptr 1 [])), (7, (D.int .i64 (13 : Int)))], [some (.box (D.ints .u64 12 t0)), some (.box (D.ints .u64 12 (fun _ => 0)))])) rfl (by kernel_rfl) trivial ?_
      rw [← Option.some.inj h] at hk
      obtain rfl : d = (D.tup (D.cons (D.ints .u64 12 (fun _ => 0)) (D.cons (D.int .i64 (13 : Int)) D.nil))) := hk
      exact runs_ret (by kernel_rfl) trivial (Nat.le_refl 0) trivial (And.intro trivial (And.intro trivial trivial))
    · replace h := ifs_false h hb
      obtain ⟨p0, h⟩ := chk_some h
      obtain ⟨p1, h⟩ := chk_some h
      refine runs_regions 2 [([], [3, 6]), ([], [6, 7])] (z := ([(0 ≤ t1 ∧ t1 < ((12 : Nat) : Int)), (t1.toNat < 12)], [(6, (D.ptr 1 [])), (7, (D.int .i64 (0 : Int)))], [some (.box (D.ints .u64 12 (fun j => if j = t1.toNat then t2 else t0 j))), some (.box (D.ints .u64 12 (fun j => if j = t1.toNat then t2 else t0 j)))])) rfl (by kernel_rfl) (And.intro p0 (And.intro p1 trivial)) ?_
      rw [← Option.some.inj h] at hk
      obtain rfl : d = (D.tup (D.cons (D.ints .u64 12 (fun j => if j = t1.toNat then t2 else t0 j)) (D.cons (D.int .i64 (0 : Int)) D.nil))) := hk
      exact runs_ret (by kernel_rfl) trivial (Nat.le_refl 0) trivial (And.intro trivial (And.intro trivial trivial))

theorem fc_head_Set (t0 : (Nat → Int)) (t1 : Int) (t2 : Int) {r : ((Nat → Int) × Int)} (h : F_head_Set t0 t1 t2 = some r) : FC Try.prog 20 [(D.ints .u64 12 t0), (D.int .i64 t1), (D.int .u64 t2)] [] (D.tup (D.cons (D.ints .u64 12 r.1) (D.cons (D.int .i64 r.2) D.nil))) [] := by
  refine fc_of_runs (fn := Try.f20) (c := Try.f20.body.getD .skip) (by kernel_rfl) (by kernel_rfl) ?_
  refine runs_to (ts := [0, 1, 2]) (T' := T_head_Set) (env' := [(0, (D.ints .u64 12 t0)), (1, (D.int .i64 t1)), (2, (D.int .u64 t2))]) (h2 := []) (by kernel_rfl) (by kernel_rfl) trivial (Nat.le_refl 0) trivial (And.intro trivial (And.intro trivial (And.intro trivial trivial))) ?_
  exact run_head_Set t0 t1 t2 h rfl

def K_cube_With (d : D) (r : (S_api_Cube × Int)) : Prop := d = (D.tup (D.cons (D.cons (D.ints .u64 12 r.1.f0) (D.cons (D.ints .u64 12 r.1.f1) D.nil)) (D.cons (D.int .i64 r.2) D.nil)))

noncomputable def T_cube_With : List Item := norm 200 [.code (Try.f32.body.getD .skip)]

/-- podesta/cube.With -/
def F_cube_With (fu : Nat) (t0 : S_api_Cube) (t1 : Int) (t2 : Int) (t3 : Int) : Option (S_api_Cube × Int) :=
  (F_cube_Sound fu t0).bind fun r0 =>
  ifs (!r0) (
    some ((S_api_Cube.mk (fun _ => 0) (fun _ => 0)), (2 : Int))) (
    (F_head_Set t0.f0 t1 t2).bind fun r1 =>
    ifs (r1.2 != (0 : Int)) (
      some ((S_api_Cube.mk (fun _ => 0) (fun _ => 0)), r1.2)) (
      (F_head_Mask t1 t3).bind fun r2 =>
      ifs (!r2.2) (
        some ((S_api_Cube.mk (fun _ => 0) (fun _ => 0)), (13 : Int))) (
        chk (0 ≤ t1 ∧ t1 < ((12 : Nat) : Int)) <|
        chk (t1.toNat < 12) <|
        chk (0 ≤ t1 ∧ t1 < ((12 : Nat) : Int)) <|
        chk (t1.toNat < 12) <|
        some ((S_api_Cube.mk (fun j => if j = t1.toNat then (iand .u64 t2 r2.1) else t0.f0 j) (fun j => if j = t1.toNat then r2.1 else t0.f1 j)), (0 : Int)))))

theorem run_cube_With (fu : Nat) (t0 : S_api_Cube) (t1 : Int) (t2 : Int) (t3 : Int) {d : D} {r : (S_api_Cube × Int)} (h : F_cube_With fu t0 t1 t2 t3 = some r) (hk : K_cube_With d r) : Runs Try.prog Try.f32 0 T_cube_With [(0, (D.cons (D.ints .u64 12 t0.f0) (D.cons (D.ints .u64 12 t0.f1) D.nil))), (1, (D.int .i64 t1)), (2, (D.int .u64 t2)), (3, (D.int .i64 t3))] [] d [] := by
  unfold F_cube_With at h
  obtain ⟨r0, cr0, h⟩ := Option.bind_eq_some_iff.1 h
  refine runs_regions 2 [([], [1, 2, 3, 4, 8]), ([(.d (D.bool r0))], [1, 2, 3, 4, 8, 16])] (z := ([FC Try.prog 34 [(D.cons (D.ints .u64 12 t0.f0) (D.cons (D.ints .u64 12 t0.f1) D.nil))] [] (D.bool r0) [], All (List.map NoRow [(D.cons (D.ints .u64 12 t0.f0) (D.cons (D.ints .u64 12 t0.f1) D.nil))])], [(1, (D.int .i64 t1)), (2, (D.int .u64 t2)), (3, (D.int .i64 t3)), (4, (D.ptr 0 [])), (8, (D.ptr 1 [])), (16, (D.bool (!r0)))], [some (.box (D.cons (D.ints .u64 12 t0.f0) (D.cons (D.ints .u64 12 t0.f1) D.nil))), some (.box (D.cons (D.ints .u64 12 (fun _ => 0)) (D.cons (D.ints .u64 12 (fun _ => 0)) D.nil)))])) rfl (by kernel_rfl) (And.intro (fc_cube_Sound fu t0 cr0) (And.intro (And.intro (And.intro trivial (And.intro trivial trivial)) trivial) trivial)) ?_
  refine runs_if (b := (!r0)) (by kernel_rfl) (fun hb => ?_) (fun hb => ?_)
  · replace h := ifs_true h hb
    refine runs_regions 1 [([], [8, 9])] (z := ([], [(8, (D.ptr 1 [])), (9, (D.int .i64 (2 : Int)))], [some (.box (D.cons (D.ints .u64 12 t0.f0) (D.cons (D.ints .u64 12 t0.f1) D.nil))), some (.box (D.cons (D.ints .u64 12 (fun _ => 0)) (D.cons (D.ints .u64 12 (fun _ => 0)) D.nil)))])) rfl (by kernel_rfl) trivial ?_
    rw [← Option.some.inj h] at hk
    obtain rfl : d = (D.tup (D.cons (D.cons (D.ints .u64 12 (fun _ => 0)) (D.cons (D.ints .u64 12 (fun _ => 0)) D.nil)) (D.cons (D.int .i64 (2 : Int)) D.nil))) := hk
    exact runs_ret (by kernel_rfl) trivial (Nat.le_refl 0) trivial (And.intro (And.intro trivial (And.intro trivial trivial)) (And.intro trivial trivial))
  · replace h := ifs_false h hb
    obtain ⟨r1, cr1, h⟩ := Option.bind_eq_some_iff.1 h
    refine runs_regions 2 [([(.d (D.tup (D.cons (D.ints .u64 12 r1.1) (D.cons (D.int .i64 r1.2) D.nil))))], [1, 2, 3, 4, 8, 11]), ([], [1, 2, 3, 4, 8, 11, 27])] (z := ([FC Try.prog 20 [(D.ints .u64 12 t0.f0), (D.int .i64 t1), (D.int .u64 t2)] [] (D.tup (D.cons (D.ints .u64 12 r1.1) (D.cons (D.int .i64 r1.2) D.nil))) [], All (List.map NoRow [(D.ints .u64 12 t0.f0), (D.int .i64 t1), (D.int .u64 t2)])], [(1, (D.int .i64 t1)), (2, (D.int .u64 t2)), (3, (D.int .i64 t3)), (4, (D.ptr 0 [])), (8, (D.ptr 1 [])), (11, (D.int .i64 r1.2)), (27, (D.bool (r1.2 != (0 : Int))))], [some (.box (D.cons (D.ints .u64 12 t0.f0) (D.cons (D.ints .u64 12 t0.f1) D.nil))), some (.box (D.cons (D.ints .u64 12 (fun _ => 0)) (D.cons (D.ints .u64 12 (fun _ => 0)) D.nil))), some (.box (D.ints .u64 12 r1.1))])) rfl (by kernel_rfl) (And.intro (fc_head_Set t0.f0 t1 t2 cr1) (And.intro (And.intro trivial (And.intro trivial (And.intro trivial trivial))) trivial)) ?_
    refine runs_if (b := (r1.2 != (0 : Int))) (by kernel_rfl) (fun hb => ?_) (fun hb => ?_)
    · replace h := ifs_true h hb
      refine runs_regions 1 [([], [8, 9])] (z := ([], [(8, (D.ptr 1 [])), (9, (D.int .i64 r1.2))], [some (.box (D.cons (D.ints .u64 12 t0.f0) (D.cons (D.ints .u64 12 t0.f1) D.nil))), some (.box (D.cons (D.ints .u64 12 (fun _ => 0)) (D.cons (D.ints .u64 12 (fun _ => 0)) D.nil))), some (.box (D.ints .u64 12 r1.1))])) rfl (by kernel_rfl) trivial ?_
      rw [← Option.some.inj h] at hk
      obtain rfl : d = (D.tup (D.cons (D.cons (D.ints .u64 12 (fun _ => 0)) (D.cons (D.ints .u64 12 (fun _ => 0)) D.nil)) (D.cons (D.int .i64 r1.2) D.nil))) := hk
      exact runs_ret (by kernel_rfl) trivial (Nat.le_refl 0) trivial (And.intro (And.intro trivial (And.intro trivial trivial)) (And.intro trivial trivial))
    · replace h := ifs_false h hb
      obtain ⟨r2, cr2, h⟩ := Option.bind_eq_some_iff.1 h
      refine runs_regions 2 [([(.d (D.tup (D.cons (D.int .u64 r2.1) (D.cons (D.bool r2.2) D.nil))))], [1, 2, 4, 8, 12, 13]), ([], [1, 2, 4, 8, 12, 37])] (z := ([FC Try.prog 15 [(D.int .i64 t1), (D.int .i64 t3)] [] (D.tup (D.cons (D.int .u64 r2.1) (D.cons (D.bool r2.2) D.nil))) [], All (List.map NoRow [(D.int .i64 t1), (D.int .i64 t3)])], [(1, (D.int .i64 t1)), (2, (D.int .u64 t2)), (4, (D.ptr 0 [])), (8, (D.ptr 1 [])), (12, (D.int .u64 r2.1)), (37, (D.bool (!r2.2)))], [some (.box (D.cons (D.ints .u64 12 t0.f0) (D.cons (D.ints .u64 12 t0.f1) D.nil))), some (.box (D.cons (D.ints .u64 12 (fun _ => 0)) (D.cons (D.ints .u64 12 (fun _ => 0)) D.nil))), some (.box (D.ints .u64 12 r1.1))])) rfl (by kernel_rfl) (And.intro (fc_head_Mask t1 t3 cr2) (And.intro (And.intro trivial (And.intro trivial trivial)) trivial)) ?_
      refine runs_if (b := (!r2.2)) (by kernel_rfl) (fun hb => ?_) (fun hb => ?_)
      · replace h := ifs_true h hb
        refine runs_regions 1 [([], [8, 9])] (z := ([], [(8, (D.ptr 1 [])), (9, (D.int .i64 (13 : Int)))], [some (.box (D.cons (D.ints .u64 12 t0.f0) (D.cons (D.ints .u64 12 t0.f1) D.nil))), some (.box (D.cons (D.ints .u64 12 (fun _ => 0)) (D.cons (D.ints .u64 12 (fun _ => 0)) D.nil))), some (.box (D.ints .u64 12 r1.1))])) rfl (by kernel_rfl) trivial ?_
        rw [← Option.some.inj h] at hk
        obtain rfl : d = (D.tup (D.cons (D.cons (D.ints .u64 12 (fun _ => 0)) (D.cons (D.ints .u64 12 (fun _ => 0)) D.nil)) (D.cons (D.int .i64 (13 : Int)) D.nil))) := hk
        exact runs_ret (by kernel_rfl) trivial (Nat.le_refl 0) trivial (And.intro (And.intro trivial (And.intro trivial trivial)) (And.intro trivial trivial))
      · replace h := ifs_false h hb
        obtain ⟨p0, h⟩ := chk_some h
        obtain ⟨p1, h⟩ := chk_some h
        obtain ⟨p2, h⟩ := chk_some h
        obtain ⟨p3, h⟩ := chk_some h
        refine runs_regions 2 [([], [4, 8]), ([], [8, 9])] (z := ([(0 ≤ t1 ∧ t1 < ((12 : Nat) : Int)), (t1.toNat < 12), (0 ≤ t1 ∧ t1 < ((12 : Nat) : Int)), (t1.toNat < 12)], [(8, (D.ptr 1 [])), (9, (D.int .i64 (0 : Int)))], [some (.box (D.cons (D.ints .u64 12 (fun j => if j = t1.toNat then (iand .u64 t2 r2.1) else t0.f0 j)) (D.cons (D.ints .u64 12 (fun j => if j = t1.toNat then r2.1 else t0.f1 j)) D.nil))), some (.box (D.cons (D.ints .u64 12 (fun j => if j = t1.toNat then (iand .u64 t2 r2.1) else t0.f0 j)) (D.cons (D.ints .u64 12 (fun j => if j = t1.toNat then r2.1 else t0.f1 j)) D.nil))), some (.box (D.ints .u64 12 r1.1))])) rfl (by kernel_rfl) (And.intro p0 (And.intro p1 (And.intro p2 (And.intro p3 trivial)))) ?_
        rw [← Option.some.inj h] at hk
        obtain rfl : d = (D.tup (D.cons (D.cons (D.ints .u64 12 (fun j => if j = t1.toNat then (iand .u64 t2 r2.1) else t0.f0 j)) (D.cons (D.ints .u64 12 (fun j => if j = t1.toNat then r2.1 else t0.f1 j)) D.nil)) (D.cons (D.int .i64 (0 : Int)) D.nil))) := hk
        exact runs_ret (by kernel_rfl) trivial (Nat.le_refl 0) trivial (And.intro (And.intro trivial (And.intro trivial trivial)) (And.intro trivial trivial))

theorem fc_cube_With (fu : Nat) (t0 : S_api_Cube) (t1 : Int) (t2 : Int) (t3 : Int) {r : (S_api_Cube × Int)} (h : F_cube_With fu t0 t1 t2 t3 = some r) : FC Try.prog 32 [(D.cons (D.ints .u64 12 t0.f0) (D.cons (D.ints .u64 12 t0.f1) D.nil)), (D.int .i64 t1), (D.int .u64 t2), (D.int .i64 t3)] [] (D.tup (D.cons (D.cons (D.ints .u64 12 r.1.f0) (D.cons (D.ints .u64 12 r.1.f1) D.nil)) (D.cons (D.int .i64 r.2) D.nil))) [] := by
  refine fc_of_runs (fn := Try.f32) (c := Try.f32.body.getD .skip) (by kernel_rfl) (by kernel_rfl) ?_
  refine runs_to (ts := [0, 1, 2, 3]) (T' := T_cube_With) (env' := [(0, (D.cons (D.ints .u64 12 t0.f0) (D.cons (D.ints .u64 12 t0.f1) D.nil))), (1, (D.int .i64 t1)), (2, (D.int .u64 t2)), (3, (D.int .i64 t3))]) (h2 := []) (by kernel_rfl) (by kernel_rfl) trivial (Nat.le_refl 0) trivial (And.intro (And.intro trivial (And.intro trivial trivial)) (And.intro trivial (And.intro trivial (And.intro trivial trivial)))) ?_
  exact run_cube_With fu t0 t1 t2 t3 h rfl

def K_cube_All (d : D) (r : S_api_Cube) : Prop := d = (D.cons (D.ints .u64 12 r.f0) (D.cons (D.ints .u64 12 r.f1) D.nil))

noncomputable def T_cube_All : List Item := norm 200 [.code (Try.f36.body.getD .skip)]

/-- podesta/cube.All -/
def F_cube_All : Option S_api_Cube :=
  some (S_api_Cube.mk (fun _ => 0) (fun _ => 0))

theorem run_cube_All {d : D} {r : S_api_Cube} (h : F_cube_All = some r) (hk : K_cube_All d r) : Runs Try.prog Try.f36 0 T_cube_All [] [] d [] := by
  unfold F_cube_All at h
  refine runs_regions 2 [([], [0]), ([], [0])] (z := ([], [(0, (D.ptr 0 []))], [some (.box (D.cons (D.ints .u64 12 (fun _ => 0)) (D.cons (D.ints .u64 12 (fun _ => 0)) D.nil)))])) rfl (by kernel_rfl) trivial ?_
  rw [← Option.some.inj h] at hk
  obtain rfl : d = (D.cons (D.ints .u64 12 (fun _ => 0)) (D.cons (D.ints .u64 12 (fun _ => 0)) D.nil)) := hk
  exact runs_ret (by kernel_rfl) trivial (Nat.le_refl 0) trivial (And.intro trivial (And.intro trivial trivial))

theorem fc_cube_All {r : S_api_Cube} (h : F_cube_All = some r) : FC Try.prog 36 [] [] (D.cons (D.ints .u64 12 r.f0) (D.cons (D.ints .u64 12 r.f1) D.nil)) [] := by
  refine fc_of_runs (fn := Try.f36) (c := Try.f36.body.getD .skip) (by kernel_rfl) (by kernel_rfl) ?_
  refine runs_to (ts := []) (T' := T_cube_All) (env' := []) (h2 := []) (by kernel_rfl) (by kernel_rfl) trivial (Nat.le_refl 0) trivial trivial ?_
  exact run_cube_All h rfl

def K_cube_Has (d : D) (r : Bool) : Prop := d = (D.bool r)

noncomputable def T_cube_Has : List Item := norm 200 [.code (Try.f39.body.getD .skip)]

noncomputable def T_cube_Has_L1 : List Item := norm 200 (nxt (nxt T_cube_Has))

noncomputable def X_cube_Has_L1T : List Item := norm 200 (cndF (nxt (nxt (nxt T_cube_Has))))

abbrev E_cube_Has_L1 := Unit

def N_cube_Has_L1 (_fu : Nat) (t7 : (Nat → Int)) (m0 : S_api_Cube) (m1 : (Nat → Int)) (d : D) (s : Int) : Prop := Runs Try.prog Try.f39 0 T_cube_Has_L1 [(2, (D.ptr 0 [])), (3, (D.ptr 1 [])), (7, (D.ints .u64 12 t7)), (8, (D.int .i64 s))] [some (.box (D.cons (D.ints .u64 12 m0.f0) (D.cons (D.ints .u64 12 m0.f1) D.nil))), some (.box (D.ints .u64 12 m1))] d []

def X_cube_Has_L1 (_fu : Nat) (_t7 : (Nat → Int)) (m0 : S_api_Cube) (m1 : (Nat → Int)) (d : D) : E_cube_Has_L1 ⊕ Bool → Prop
  | .inl _ => Runs Try.prog Try.f39 0 X_cube_Has_L1T [(2, (D.ptr 0 [])), (3, (D.ptr 1 []))] [some (.box (D.cons (D.ints .u64 12 m0.f0) (D.cons (D.ints .u64 12 m0.f1) D.nil))), some (.box (D.ints .u64 12 m1))] d []
  | .inr o => (K_cube_Has d) o

def F_cube_Has_L1 (_fu : Nat) (t7 : (Nat → Int)) (m0 : S_api_Cube) (_m1 : (Nat → Int)) (t8 : Int) : Option (Lo Int E_cube_Has_L1 Bool) :=
  ifs (decide (t8 < (12 : Int))) (
    chk (0 ≤ t8 ∧ t8 < ((12 : Nat) : Int)) <|
    chk (t8.toNat < 12) <|
    chk (0 ≤ t8 ∧ t8 < ((12 : Nat) : Int)) <|
    chk (t8.toNat < 12) <|
    chk (0 ≤ t8 ∧ t8 < ((12 : Nat) : Int)) <|
    chk (t8.toNat < 12) <|
    ifs ((iand .u64 (t7 t8.toNat) (m0.f1 t8.toNat)) != (m0.f0 t8.toNat)) (
      some (.ret false)) (
      some (.next (IntKind.wrap .i64 (t8 + (1 : Int)))))) (
    some (.exit ()))

theorem run_cube_Has_L1 (fu : Nat) (t7 : (Nat → Int)) (m0 : S_api_Cube) (m1 : (Nat → Int)) (t8 : Int) {d : D} {o : (Lo Int E_cube_Has_L1 Bool)} (h : F_cube_Has_L1 fu t7 m0 m1 t8 = some o) (hk : (Lo.post (N_cube_Has_L1 fu t7 m0 m1 d) (X_cube_Has_L1 fu t7 m0 m1 d)) o) : Runs Try.prog Try.f39 0 T_cube_Has_L1 [(2, (D.ptr 0 [])), (3, (D.ptr 1 [])), (7, (D.ints .u64 12 t7)), (8, (D.int .i64 t8))] [some (.box (D.cons (D.ints .u64 12 m0.f0) (D.cons (D.ints .u64 12 m0.f1) D.nil))), some (.box (D.ints .u64 12 m1))] d [] := by
  unfold F_cube_Has_L1 at h
  refine runs_regions 1 [([], [2, 3, 7, 8, 9])] (z := ([], [(2, (D.ptr 0 [])), (3, (D.ptr 1 [])), (7, (D.ints .u64 12 t7)), (8, (D.int .i64 t8)), (9, (D.bool (decide (t8 < (12 : Int)))))], [some (.box (D.cons (D.ints .u64 12 m0.f0) (D.cons (D.ints .u64 12 m0.f1) D.nil))), some (.box (D.ints .u64 12 m1))])) rfl (by kernel_rfl) trivial ?_
  refine runs_if (b := (decide (t8 < (12 : Int)))) (by kernel_rfl) (fun hb => ?_) (fun hb => ?_)
  · replace h := ifs_true h hb
    obtain ⟨p0, h⟩ := chk_some h
    obtain ⟨p1, h⟩ := chk_some h
    obtain ⟨p2, h⟩ := chk_some h
    obtain ⟨p3, h⟩ := chk_some h
    obtain ⟨p4, h⟩ := chk_some h
    obtain ⟨p5, h⟩ := chk_some h
    refine runs_regions 2 [([], [2, 3, 5, 6, 7, 8]), ([], [2, 3, 7, 8, 22])] (z := ([(0 ≤ t8 ∧ t8 < ((12 : Nat) : Int)), (t8.toNat < 12), (0 ≤ t8 ∧ t8 < ((12 : Nat) : Int)), (t8.toNat < 12), (0 ≤ t8 ∧ t8 < ((12 : Nat) : Int)), (t8.toNat < 12)], [(2, (D.ptr 0 [])), (3, (D.ptr 1 [])), (7, (D.ints .u64 12 t7)), (8, (D.int .i64 t8)), (22, (D.bool ((iand .u64 (t7 t8.toNat) (m0.f1 t8.toNat)) != (m0.f0 t8.toNat))))], [some (.box (D.cons (D.ints .u64 12 m0.f0) (D.cons (D.ints .u64 12 m0.f1) D.nil))), some (.box (D.ints .u64 12 m1))])) rfl (by kernel_rfl) (And.intro p0 (And.intro p1 (And.intro p2 (And.intro p3 (And.intro p4 (And.intro p5 trivial)))))) ?_
    refine runs_if (b := ((iand .u64 (t7 t8.toNat) (m0.f1 t8.toNat)) != (m0.f0 t8.toNat))) (by kernel_rfl) (fun hb => ?_) (fun hb => ?_)
    · replace h := ifs_true h hb
      refine runs_regions 1 [([], [4])] (z := ([], [(4, (D.bool false))], [some (.box (D.cons (D.ints .u64 12 m0.f0) (D.cons (D.ints .u64 12 m0.f1) D.nil))), some (.box (D.ints .u64 12 m1))])) rfl (by kernel_rfl) trivial ?_
      rw [← Option.some.inj h] at hk
      obtain rfl : d = (D.bool false) := hk
      exact runs_ret (by kernel_rfl) trivial (Nat.le_refl 0) trivial trivial
    · replace h := ifs_false h hb
      refine runs_regions 1 [([], [2, 3, 7, 8])] (z := ([], [(2, (D.ptr 0 [])), (3, (D.ptr 1 [])), (7, (D.ints .u64 12 t7)), (8, (D.int .i64 (IntKind.wrap .i64 (t8 + (1 : Int)))))], [some (.box (D.cons (D.ints .u64 12 m0.f0) (D.cons (D.ints .u64 12 m0.f1) D.nil))), some (.box (D.ints .u64 12 m1))])) rfl (by kernel_rfl) trivial ?_
      rw [← Option.some.inj h] at hk
      refine runs_to (ts := [2, 3, 7, 8]) (T' := T_cube_Has_L1) (env' := [(2, (D.ptr 0 [])), (3, (D.ptr 1 [])), (7, (D.ints .u64 12 t7)), (8, (D.int .i64 (IntKind.wrap .i64 (t8 + (1 : Int)))))]) (h2 := [some (.box (D.cons (D.ints .u64 12 m0.f0) (D.cons (D.ints .u64 12 m0.f1) D.nil))), some (.box (D.ints .u64 12 m1))]) (by kernel_rfl) (by kernel_rfl) (And.intro (.inr rfl) (And.intro (.inr rfl) trivial)) (Nat.zero_le _) (And.intro (And.intro trivial (And.intro trivial trivial)) (And.intro trivial trivial)) (And.intro (bel_of rfl) (And.intro (bel_of rfl) (And.intro trivial (And.intro trivial trivial)))) ?_
      exact hk
  · replace h := ifs_false h hb
    rw [← Option.some.inj h] at hk
    refine runs_to (ts := [2, 3]) (T' := X_cube_Has_L1T) (env' := [(2, (D.ptr 0 [])), (3, (D.ptr 1 []))]) (h2 := [some (.box (D.cons (D.ints .u64 12 m0.f0) (D.cons (D.ints .u64 12 m0.f1) D.nil))), some (.box (D.ints .u64 12 m1))]) (by kernel_rfl) (by kernel_rfl) (And.intro (.inr rfl) (And.intro (.inr rfl) trivial)) (Nat.zero_le _) (And.intro (And.intro trivial (And.intro trivial trivial)) (And.intro trivial trivial)) (And.intro (bel_of rfl) (And.intro (bel_of rfl) trivial)) ?_
    exact hk

theorem iter_cube_Has_L1 (fu : Nat) (t7 : (Nat → Int)) (m0 : S_api_Cube) (m1 : (Nat → Int)) {d : D} (k : Nat) (s : Int) {o : E_cube_Has_L1 ⊕ Bool} (h : iter (fun s => F_cube_Has_L1 fu t7 m0 m1 s) k s = some o) (hx : X_cube_Has_L1 fu t7 m0 m1 d o) : N_cube_Has_L1 fu t7 m0 m1 d s :=
  iter_post (K := N_cube_Has_L1 fu t7 m0 m1 d) (X := X_cube_Has_L1 fu t7 m0 m1 d) (fun s _ h hk => run_cube_Has_L1 fu t7 m0 m1 s h hk) k s o h hx

/-- podesta/cube.Has -/
def F_cube_Has (fu : Nat) (t0 : S_api_Cube) (t1 : (Nat → Int)) : Option Bool :=
  after (iter (fun s => F_cube_Has_L1 fu t1 t0 t1 s) fu (0 : Int)) fun _ =>
  (F_cube_Sound fu t0).bind fun r0 =>
  (callIf r0 (F_head_Sound fu t1) false).bind fun r1 =>
  some (bif r0 then r1 else false)

theorem run_cube_Has (fu : Nat) (t0 : S_api_Cube) (t1 : (Nat → Int)) {d : D} {r : Bool} (h : F_cube_Has fu t0 t1 = some r) (hk : K_cube_Has d r) : Runs Try.prog Try.f39 0 T_cube_Has [(0, (D.cons (D.ints .u64 12 t0.f0) (D.cons (D.ints .u64 12 t0.f1) D.nil))), (1, (D.ints .u64 12 t1))] [] d [] := by
  unfold F_cube_Has at h
  refine runs_regions 2 [([], [2, 3]), ([], [2, 3, 7, 8])] (z := ([], [(2, (D.ptr 0 [])), (3, (D.ptr 1 [])), (7, (D.ints .u64 12 t1)), (8, (D.int .i64 (0 : Int)))], [some (.box (D.cons (D.ints .u64 12 t0.f0) (D.cons (D.ints .u64 12 t0.f1) D.nil))), some (.box (D.ints .u64 12 t1))])) rfl (by kernel_rfl) trivial ?_
  refine runs_to (ts := [2, 3, 7, 8]) (T' := T_cube_Has_L1) (env' := [(2, (D.ptr 0 [])), (3, (D.ptr 1 [])), (7, (D.ints .u64 12 t1)), (8, (D.int .i64 (0 : Int)))]) (h2 := [some (.box (D.cons (D.ints .u64 12 t0.f0) (D.cons (D.ints .u64 12 t0.f1) D.nil))), some (.box (D.ints .u64 12 t1))]) (by kernel_rfl) (by kernel_rfl) (And.intro (.inr rfl) (And.intro (.inr rfl) trivial)) (Nat.zero_le _) (And.intro (And.intro trivial (And.intro trivial trivial)) (And.intro trivial trivial)) (And.intro (bel_of rfl) (And.intro (bel_of rfl) (And.intro trivial (And.intro trivial trivial)))) ?_
  rcases after_some h with ⟨e7, hi, h⟩ | hi
  · refine iter_cube_Has_L1 fu t1 t0 t1 fu (0 : Int) hi ?_
    show Runs Try.prog Try.f39 0 X_cube_Has_L1T [(2, (D.ptr 0 [])), (3, (D.ptr 1 []))] [some (.box (D.cons (D.ints .u64 12 t0.f0) (D.cons (D.ints .u64 12 t0.f1) D.nil))), some (.box (D.ints .u64 12 t1))] d []
    obtain ⟨r0, cr0, h⟩ := Option.bind_eq_some_iff.1 h
    obtain ⟨r1, cr1, h⟩ := Option.bind_eq_some_iff.1 h
    refine runs_regions 1 [([(.d (D.bool r0)), (.d (D.bool r1))], [4])] (z := ([FC Try.prog 34 [(D.cons (D.ints .u64 12 t0.f0) (D.cons (D.ints .u64 12 t0.f1) D.nil))] [] (D.bool r0) [], All (List.map NoRow [(D.cons (D.ints .u64 12 t0.f0) (D.cons (D.ints .u64 12 t0.f1) D.nil))]), (r0 = true → All [(r0 = true → r0 = true), FC Try.prog 26 [(D.ints .u64 12 t1)] [] (D.bool r1) [], All (List.map NoRow [(D.ints .u64 12 t1)])]), ((true && r0) = true → r0 = true)], [(4, (D.bool (bif r0 then r1 else false)))], [some (.box (D.cons (D.ints .u64 12 t0.f0) (D.cons (D.ints .u64 12 t0.f1) D.nil))), some (.box (D.ints .u64 12 t1))])) rfl (by kernel_rfl) (And.intro (fc_cube_Sound fu t0 cr0) (And.intro (And.intro (And.intro trivial (And.intro trivial trivial)) trivial) (And.intro (fun hg => (And.intro (by first | exact fun h => h | exact fun h => (Bool.and_eq_true_iff.1 h).1 | simp_all) (And.intro (fc_head_Sound fu t1 (callIf_some cr1 hg)) (And.intro (And.intro trivial trivial) trivial)))) (And.intro (by first | exact fun h => h | exact fun h => (Bool.and_eq_true_iff.1 h).1 | simp_all) trivial)))) ?_
    rw [← Option.some.inj h] at hk
    obtain rfl : d = (D.bool (bif r0 then r1 else false)) := hk
    exact runs_ret (by kernel_rfl) trivial (Nat.le_refl 0) trivial trivial
  · exact iter_cube_Has_L1 fu t1 t0 t1 fu (0 : Int) hi hk

theorem fc_cube_Has (fu : Nat) (t0 : S_api_Cube) (t1 : (Nat → Int)) {r : Bool} (h : F_cube_Has fu t0 t1 = some r) : FC Try.prog 39 [(D.cons (D.ints .u64 12 t0.f0) (D.cons (D.ints .u64 12 t0.f1) D.nil)), (D.ints .u64 12 t1)] [] (D.bool r) [] := by
  refine fc_of_runs (fn := Try.f39) (c := Try.f39.body.getD .skip) (by kernel_rfl) (by kernel_rfl) ?_
  refine runs_to (ts := [0, 1]) (T' := T_cube_Has) (env' := [(0, (D.cons (D.ints .u64 12 t0.f0) (D.cons (D.ints .u64 12 t0.f1) D.nil))), (1, (D.ints .u64 12 t1))]) (h2 := []) (by kernel_rfl) (by kernel_rfl) trivial (Nat.le_refl 0) trivial (And.intro (And.intro trivial (And.intro trivial trivial)) (And.intro trivial trivial)) ?_
  exact run_cube_Has fu t0 t1 h rfl

def K_law02_answers (d : D) (r : Bool) : Prop := d = (D.bool r)

noncomputable def T_law02_answers : List Item := norm 200 [.code (Try.f33.body.getD .skip)]

/-- podesta/podestalaw02.answers -/
def F_law02_answers (fu : Nat) : Option Bool :=
  (F_cube_All).bind fun r0 =>
  (F_cube_With fu r0 (6 : Int) (167772160 : Int) (8 : Int)).bind fun r1 =>
  (callIf (r1.2 == (0 : Int)) (F_cube_Has fu r1.1 (fun j => if j = 6 then (167838211 : Int) else (fun _ => 0) j)) false).bind fun r2 =>
  (callIf (bif (r1.2 == (0 : Int)) then r2 else false) (F_cube_Has fu r1.1 (fun _ => 0)) false).bind fun r3 =>
  some (bif (bif (r1.2 == (0 : Int)) then r2 else false) then (!r3) else false)

theorem run_law02_answers (fu : Nat) {d : D} {r : Bool} (h : F_law02_answers fu = some r) (hk : K_law02_answers d r) : Runs Try.prog Try.f33 0 T_law02_answers [] [] d [] := by
  unfold F_law02_answers at h
  obtain ⟨r0, cr0, h⟩ := Option.bind_eq_some_iff.1 h
  obtain ⟨r1, cr1, h⟩ := Option.bind_eq_some_iff.1 h
  obtain ⟨r2, cr2, h⟩ := Option.bind_eq_some_iff.1 h
  obtain ⟨r3, cr3, h⟩ := Option.bind_eq_some_iff.1 h
  refine runs_regions 3 [([], []), ([(.d (D.cons (D.ints .u64 12 r0.f0) (D.cons (D.ints .u64 12 r0.f1) D.nil))), (.d (D.tup (D.cons (D.cons (D.ints .u64 12 r1.1.f0) (D.cons (D.ints .u64 12 r1.1.f1) D.nil)) (D.cons (D.int .i64 r1.2) D.nil))))], [1, 2]), ([(.d (D.bool r2)), (.d (D.bool r3))], [0])] (z := ([FC Try.prog 36 [] [] (D.cons (D.ints .u64 12 r0.f0) (D.cons (D.ints .u64 12 r0.f1) D.nil)) [], All (List.map NoRow []), FC Try.prog 32 [(D.cons (D.ints .u64 12 r0.f0) (D.cons (D.ints .u64 12 r0.f1) D.nil)), (D.int .i64 (6 : Int)), (D.int .u64 (167772160 : Int)), (D.int .i64 (8 : Int))] [] (D.tup (D.cons (D.cons (D.ints .u64 12 r1.1.f0) (D.cons (D.ints .u64 12 r1.1.f1) D.nil)) (D.cons (D.int .i64 r1.2) D.nil))) [], All (List.map NoRow [(D.cons (D.ints .u64 12 r0.f0) (D.cons (D.ints .u64 12 r0.f1) D.nil)), (D.int .i64 (6 : Int)), (D.int .u64 (167772160 : Int)), (D.int .i64 (8 : Int))]), ((r1.2 == (0 : Int)) = true → All [(6 < 12)]), ((r1.2 == (0 : Int)) = true → All [((r1.2 == (0 : Int)) = true → (r1.2 == (0 : Int)) = true), ((r1.2 == (0 : Int)) = true → (r1.2 == (0 : Int)) = true), FC Try.prog 39 [(D.cons (D.ints .u64 12 r1.1.f0) (D.cons (D.ints .u64 12 r1.1.f1) D.nil)), (D.ints .u64 12 (fun j => if j = 6 then (167838211 : Int) else (fun _ => 0) j))] [] (D.bool r2) [], All (List.map NoRow [(D.cons (D.ints .u64 12 r1.1.f0) (D.cons (D.ints .u64 12 r1.1.f1) D.nil)), (D.ints .u64 12 (fun j => if j = 6 then (167838211 : Int) else (fun _ => 0) j))])]), ((true && (r1.2 == (0 : Int))) = true → (r1.2 == (0 : Int)) = true), ((bif (r1.2 == (0 : Int)) then r2 else false) = true → All [((bif (r1.2 == (0 : Int)) then r2 else false) = true → (bif (r1.2 == (0 : Int)) then r2 else false) = true), ((bif (r1.2 == (0 : Int)) then r2 else false) = true → (bif (r1.2 == (0 : Int)) then r2 else false) = true), FC Try.prog 39 [(D.cons (D.ints .u64 12 r1.1.f0) (D.cons (D.ints .u64 12 r1.1.f1) D.nil)), (D.ints .u64 12 (fun _ => 0))] [] (D.bool r3) [], All (List.map NoRow [(D.cons (D.ints .u64 12 r1.1.f0) (D.cons (D.ints .u64 12 r1.1.f1) D.nil)), (D.ints .u64 12 (fun _ => 0))])]), ((bif (r1.2 == (0 : Int)) then r2 else false) = true → All [((bif (r1.2 == (0 : Int)) then r2 else false) = true → (bif (r1.2 == (0 : Int)) then r2 else false) = true)]), ((true && (bif (r1.2 == (0 : Int)) then r2 else false)) = true → (bif (r1.2 == (0 : Int)) then r2 else false) = true)], [(0, (D.bool (bif (bif (r1.2 == (0 : Int)) then r2 else false) then (!r3) else false)))], [some (.box (D.cons (D.ints .u64 12 r1.1.f0) (D.cons (D.ints .u64 12 r1.1.f1) D.nil)))])) rfl (by kernel_rfl) (And.intro (fc_cube_All cr0) (And.intro trivial (And.intro (fc_cube_With fu r0 (6 : Int) (167772160 : Int) (8 : Int) cr1) (And.intro (And.intro (And.intro trivial (And.intro trivial trivial)) (And.intro trivial (And.intro trivial (And.intro trivial trivial)))) (And.intro (fun _ => (And.intro (by decide) trivial)) (And.intro (fun hg => (And.intro (by first | exact fun h => h | exact fun h => (Bool.and_eq_true_iff.1 h).1 | simp_all) (And.intro (by first | exact fun h => h | exact fun h => (Bool.and_eq_true_iff.1 h).1 | simp_all) (And.intro (fc_cube_Has fu r1.1 (fun j => if j = 6 then (167838211 : Int) else (fun _ => 0) j) (callIf_some cr2 hg)) (And.intro (And.intro (And.intro trivial (And.intro trivial trivial)) (And.intro trivial trivial)) trivial))))) (And.intro (by first | exact fun h => h | exact fun h => (Bool.and_eq_true_iff.1 h).1 | simp_all) (And.intro (fun hg => (And.intro (by first | exact fun h => h | exact fun h => (Bool.and_eq_true_iff.1 h).1 | simp_all) (And.intro (by first | exact fun h => h | exact fun h => (Bool.and_eq_true_iff.1 h).1 | simp_all) (And.intro (fc_cube_Has fu r1.1 (fun _ => 0) (callIf_some cr3 hg)) (And.intro (And.intro (And.intro trivial (And.intro trivial trivial)) (And.intro trivial trivial)) trivial))))) (And.intro (fun _ => (And.intro (by first | exact fun h => h | exact fun h => (Bool.and_eq_true_iff.1 h).1 | simp_all) trivial)) (And.intro (by first | exact fun h => h | exact fun h => (Bool.and_eq_true_iff.1 h).1 | simp_all) trivial)))))))))) ?_
  rw [← Option.some.inj h] at hk
  obtain rfl : d = (D.bool (bif (bif (r1.2 == (0 : Int)) then r2 else false) then (!r3) else false)) := hk
  exact runs_ret (by kernel_rfl) trivial (Nat.le_refl 0) trivial trivial

theorem fc_law02_answers (fu : Nat) {r : Bool} (h : F_law02_answers fu = some r) : FC Try.prog 33 [] [] (D.bool r) [] := by
  refine fc_of_runs (fn := Try.f33) (c := Try.f33.body.getD .skip) (by kernel_rfl) (by kernel_rfl) ?_
  refine runs_to (ts := []) (T' := T_law02_answers) (env' := []) (h2 := []) (by kernel_rfl) (by kernel_rfl) trivial (Nat.le_refl 0) trivial trivial ?_
  exact run_law02_answers fu h rfl

def K_ref01_Size (d : D) (r : Int) : Prop := d = (D.int .i64 r)

noncomputable def T_ref01_Size : List Item := norm 200 [.code (Try.f19.body.getD .skip)]

/-- podesta/podestaref01.Size -/
def F_ref01_Size (t0 : Int) : Option Int :=
  ifs (bif (decide (t0 < (0 : Int))) then true else (decide (t0 > (11 : Int)))) (
    some (0 : Int)) (
    chk (0 ≤ t0 ∧ t0 < ((12 : Nat) : Int)) <|
    some ((fun i => ([(16 : Int), (48 : Int), (48 : Int), (16 : Int), (12 : Int), (4 : Int), (32 : Int), (32 : Int), (8 : Int), (8 : Int), (12 : Int), (12 : Int)] : List Int).getD i (0 : Int)) t0.toNat))

theorem run_ref01_Size (t0 : Int) {d : D} {r : Int} (h : F_ref01_Size t0 = some r) (hk : K_ref01_Size d r) : Runs Try.prog Try.f19 0 T_ref01_Size [(0, (D.int .i64 t0))] [] d [] := by
  unfold F_ref01_Size at h
  refine runs_regions 2 [([], [0]), ([], [0, 8])] (z := ([((!(decide (t0 < (0 : Int)))) = true → All [((!(decide (t0 < (0 : Int)))) = true → (!(decide (t0 < (0 : Int)))) = true)]), ((true && !(decide (t0 < (0 : Int)))) = true → (!(decide (t0 < (0 : Int)))) = true)], [(0, (D.int .i64 t0)), (8, (D.bool (bif (decide (t0 < (0 : Int))) then true else (decide (t0 > (11 : Int))))))], [])) rfl (by kernel_rfl) (And.intro (fun _ => (And.intro (by first | exact fun h => h | exact fun h => (Bool.and_eq_true_iff.1 h).1 | simp_all) trivial)) (And.intro (by first | exact fun h => h | exact fun h => (Bool.and_eq_true_iff.1 h).1 | simp_all) trivial)) ?_
  refine runs_if (b := (bif (decide (t0 < (0 : Int))) then true else (decide (t0 > (11 : Int))))) (by kernel_rfl) (fun hb => ?_) (fun hb => ?_)
  · replace h := ifs_true h hb
    refine runs_regions 1 [([], [2])] (z := ([], [(2, (D.int .i64 (0 : Int)))], [])) rfl (by kernel_rfl) trivial ?_
    rw [← Option.some.inj h] at hk
    obtain rfl : d = (D.int .i64 (0 : Int)) := hk
    exact runs_ret (by kernel_rfl) trivial (Nat.le_refl 0) trivial trivial
  · replace h := ifs_false h hb
    obtain ⟨p0, h⟩ := chk_some h
    refine runs_regions 1 [([(.lit fun i => (D.int .i64 ((fun i => ([(16 : Int), (48 : Int), (48 : Int), (16 : Int), (12 : Int), (4 : Int), (32 : Int), (32 : Int), (8 : Int), (8 : Int), (12 : Int), (12 : Int)] : List Int).getD i (0 : Int)) i)))], [2])] (z := ([TabOk [(D.int .i64 (16 : Int)), (D.int .i64 (48 : Int)), (D.int .i64 (48 : Int)), (D.int .i64 (16 : Int)), (D.int .i64 (12 : Int)), (D.int .i64 (4 : Int)), (D.int .i64 (32 : Int)), (D.int .i64 (32 : Int)), (D.int .i64 (8 : Int)), (D.int .i64 (8 : Int)), (D.int .i64 (12 : Int)), (D.int .i64 (12 : Int))] 1 (D.arr 12 1 fun i => (D.int .i64 ((fun i => ([(16 : Int), (48 : Int), (48 : Int), (16 : Int), (12 : Int), (4 : Int), (32 : Int), (32 : Int), (8 : Int), (8 : Int), (12 : Int), (12 : Int)] : List Int).getD i (0 : Int)) i))), (0 ≤ t0 ∧ t0 < ((12 : Nat) : Int))], [(2, (D.int .i64 ((fun i => ([(16 : Int), (48 : Int), (48 : Int), (16 : Int), (12 : Int), (4 : Int), (32 : Int), (32 : Int), (8 : Int), (8 : Int), (12 : Int), (12 : Int)] : List Int).getD i (0 : Int)) t0.toNat)))], [])) rfl (by kernel_rfl) (And.intro (tabOk_arr rfl (And.intro rfl (And.intro rfl (And.intro rfl (And.intro rfl (And.intro rfl (And.intro rfl (And.intro rfl (And.intro rfl (And.intro rfl (And.intro rfl (And.intro rfl (And.intro rfl trivial))))))))))))) (And.intro p0 trivial)) ?_
    rw [← Option.some.inj h] at hk
    obtain rfl : d = (D.int .i64 ((fun i => ([(16 : Int), (48 : Int), (48 : Int), (16 : Int), (12 : Int), (4 : Int), (32 : Int), (32 : Int), (8 : Int), (8 : Int), (12 : Int), (12 : Int)] : List Int).getD i (0 : Int)) t0.toNat)) := hk
    exact runs_ret (by kernel_rfl) trivial (Nat.le_refl 0) trivial trivial

theorem fc_ref01_Size (t0 : Int) {r : Int} (h : F_ref01_Size t0 = some r) : FC Try.prog 19 [(D.int .i64 t0)] [] (D.int .i64 r) [] := by
  refine fc_of_runs (fn := Try.f19) (c := Try.f19.body.getD .skip) (by kernel_rfl) (by kernel_rfl) ?_
  refine runs_to (ts := [0]) (T' := T_ref01_Size) (env' := [(0, (D.int .i64 t0))]) (h2 := []) (by kernel_rfl) (by kernel_rfl) trivial (Nat.le_refl 0) trivial (And.intro trivial trivial) ?_
  exact run_ref01_Size t0 h rfl

def K_ref01_Fits (d : D) (r : Bool) : Prop := d = (D.bool r)

noncomputable def T_ref01_Fits : List Item := norm 200 [.code (Try.f55.body.getD .skip)]

/-- podesta/podestaref01.Fits -/
def F_ref01_Fits (t0 : Int) (t1 : Int) : Option Bool :=
  chk (0 ≤ (IntKind.wrap .u64 t1)) <|
  some (decide (t0 < (ishl .u64 (1 : Int) (IntKind.wrap .u64 t1))))

theorem run_ref01_Fits (t0 : Int) (t1 : Int) {d : D} {r : Bool} (h : F_ref01_Fits t0 t1 = some r) (hk : K_ref01_Fits d r) : Runs Try.prog Try.f55 0 T_ref01_Fits [(0, (D.int .u64 t0)), (1, (D.int .i64 t1))] [] d [] := by
  unfold F_ref01_Fits at h
  obtain ⟨p0, h⟩ := chk_some h
  refine runs_regions 2 [([], [0, 1]), ([], [4])] (z := ([(0 ≤ (IntKind.wrap .u64 t1))], [(4, (D.bool (decide (t0 < (ishl .u64 (1 : Int) (IntKind.wrap .u64 t1))))))], [])) rfl (by kernel_rfl) (And.intro p0 trivial) ?_
  rw [← Option.some.inj h] at hk
  obtain rfl : d = (D.bool (decide (t0 < (ishl .u64 (1 : Int) (IntKind.wrap .u64 t1))))) := hk
  exact runs_ret (by kernel_rfl) trivial (Nat.le_refl 0) trivial trivial

theorem fc_ref01_Fits (t0 : Int) (t1 : Int) {r : Bool} (h : F_ref01_Fits t0 t1 = some r) : FC Try.prog 55 [(D.int .u64 t0), (D.int .i64 t1)] [] (D.bool r) [] := by
  refine fc_of_runs (fn := Try.f55) (c := Try.f55.body.getD .skip) (by kernel_rfl) (by kernel_rfl) ?_
  refine runs_to (ts := [0, 1]) (T' := T_ref01_Fits) (env' := [(0, (D.int .u64 t0)), (1, (D.int .i64 t1))]) (h2 := []) (by kernel_rfl) (by kernel_rfl) trivial (Nat.le_refl 0) trivial (And.intro trivial (And.intro trivial trivial)) ?_
  exact run_ref01_Fits t0 t1 h rfl

def K_ref01_Head (d : D) (r : Bool) : Prop := d = (D.bool r)

noncomputable def T_ref01_Head : List Item := norm 200 [.code (Try.f27.body.getD .skip)]

noncomputable def T_ref01_Head_L1 : List Item := norm 200 (nxt (nxt T_ref01_Head))

noncomputable def X_ref01_Head_L1T : List Item := norm 200 (cndF (nxt (nxt (nxt T_ref01_Head))))

abbrev E_ref01_Head_L1 := Unit

def N_ref01_Head_L1 (_fu : Nat) (m0 : (Nat → Int)) (d : D) (s : Int) : Prop := Runs Try.prog Try.f27 0 T_ref01_Head_L1 [(1, (D.ptr 0 [])), (3, (D.int .i64 s))] [some (.box (D.ints .u64 12 m0))] d []

def X_ref01_Head_L1 (_fu : Nat) (_m0 : (Nat → Int)) (d : D) : E_ref01_Head_L1 ⊕ Bool → Prop
  | .inl _ => Runs Try.prog Try.f27 0 X_ref01_Head_L1T [] [] d []
  | .inr o => (K_ref01_Head d) o

def F_ref01_Head_L1 (_fu : Nat) (m0 : (Nat → Int)) (t3 : Int) : Option (Lo Int E_ref01_Head_L1 Bool) :=
  ifs (decide (t3 < (12 : Int))) (
    chk (0 ≤ t3 ∧ t3 < ((12 : Nat) : Int)) <|
    chk (t3.toNat < 12) <|
    (F_ref01_Size t3).bind fun r0 =>
    (F_ref01_Fits (m0 t3.toNat) r0).bind fun r1 =>
    ifs (!r1) (
      some (.ret false)) (
      some (.next (IntKind.wrap .i64 (t3 + (1 : Int)))))) (
    some (.exit ()))

theorem run_ref01_Head_L1 (fu : Nat) (m0 : (Nat → Int)) (t3 : Int) {d : D} {o : (Lo Int E_ref01_Head_L1 Bool)} (h : F_ref01_Head_L1 fu m0 t3 = some o) (hk : (Lo.post (N_ref01_Head_L1 fu m0 d) (X_ref01_Head_L1 fu m0 d)) o) : Runs Try.prog Try.f27 0 T_ref01_Head_L1 [(1, (D.ptr 0 [])), (3, (D.int .i64 t3))] [some (.box (D.ints .u64 12 m0))] d [] := by
  unfold F_ref01_Head_L1 at h
  refine runs_regions 1 [([], [1, 3, 5])] (z := ([], [(1, (D.ptr 0 [])), (3, (D.int .i64 t3)), (5, (D.bool (decide (t3 < (12 : Int)))))], [some (.box (D.ints .u64 12 m0))])) rfl (by kernel_rfl) trivial ?_
  refine runs_if (b := (decide (t3 < (12 : Int)))) (by kernel_rfl) (fun hb => ?_) (fun hb => ?_)
  · replace h := ifs_true h hb
    obtain ⟨p0, h⟩ := chk_some h
    obtain ⟨p1, h⟩ := chk_some h
    obtain ⟨r0, cr0, h⟩ := Option.bind_eq_some_iff.1 h
    obtain ⟨r1, cr1, h⟩ := Option.bind_eq_some_iff.1 h
    refine runs_regions 1 [([(.d (D.int .i64 r0)), (.d (D.bool r1))], [1, 3, 14])] (z := ([(0 ≤ t3 ∧ t3 < ((12 : Nat) : Int)), (t3.toNat < 12), FC Try.prog 19 [(D.int .i64 t3)] [] (D.int .i64 r0) [], All (List.map NoRow [(D.int .i64 t3)]), FC Try.prog 55 [(D.int .u64 (m0 t3.toNat)), (D.int .i64 r0)] [] (D.bool r1) [], All (List.map NoRow [(D.int .u64 (m0 t3.toNat)), (D.int .i64 r0)])], [(1, (D.ptr 0 [])), (3, (D.int .i64 t3)), (14, (D.bool (!r1)))], [some (.box (D.ints .u64 12 m0))])) rfl (by kernel_rfl) (And.intro p0 (And.intro p1 (And.intro (fc_ref01_Size t3 cr0) (And.intro (And.intro trivial trivial) (And.intro (fc_ref01_Fits (m0 t3.toNat) r0 cr1) (And.intro (And.intro trivial (And.intro trivial trivial)) trivial)))))) ?_
    refine runs_if (b := (!r1)) (by kernel_rfl) (fun hb => ?_) (fun hb => ?_)
    · replace h := ifs_true h hb
      refine runs_regions 1 [([], [2])] (z := ([], [(2, (D.bool false))], [some (.box (D.ints .u64 12 m0))])) rfl (by kernel_rfl) trivial ?_
      rw [← Option.some.inj h] at hk
      obtain rfl : d = (D.bool false) := hk
      exact runs_ret (by kernel_rfl) trivial (Nat.le_refl 0) trivial trivial
    · replace h := ifs_false h hb
      refine runs_regions 1 [([], [1, 3])] (z := ([], [(1, (D.ptr 0 [])), (3, (D.int .i64 (IntKind.wrap .i64 (t3 + (1 : Int)))))], [some (.box (D.ints .u64 12 m0))])) rfl (by kernel_rfl) trivial ?_
      rw [← Option.some.inj h] at hk
      refine runs_to (ts := [1, 3]) (T' := T_ref01_Head_L1) (env' := [(1, (D.ptr 0 [])), (3, (D.int .i64 (IntKind.wrap .i64 (t3 + (1 : Int)))))]) (h2 := [some (.box (D.ints .u64 12 m0))]) (by kernel_rfl) (by kernel_rfl) (And.intro (.inr rfl) trivial) (Nat.zero_le _) (And.intro trivial trivial) (And.intro (bel_of rfl) (And.intro trivial trivial)) ?_
      exact hk
  · replace h := ifs_false h hb
    rw [← Option.some.inj h] at hk
    refine runs_to (ts := []) (T' := X_ref01_Head_L1T) (env' := []) (h2 := []) (by kernel_rfl) (by kernel_rfl) trivial (Nat.zero_le _) trivial trivial ?_
    exact hk

theorem iter_ref01_Head_L1 (fu : Nat) (m0 : (Nat → Int)) {d : D} (k : Nat) (s : Int) {o : E_ref01_Head_L1 ⊕ Bool} (h : iter (fun s => F_ref01_Head_L1 fu m0 s) k s = some o) (hx : X_ref01_Head_L1 fu m0 d o) : N_ref01_Head_L1 fu m0 d s :=
  iter_post (K := N_ref01_Head_L1 fu m0 d) (X := X_ref01_Head_L1 fu m0 d) (fun s _ h hk => run_ref01_Head_L1 fu m0 s h hk) k s o h hx

/-- podesta/podestaref01.Head -/
def F_ref01_Head (fu : Nat) (t0 : (Nat → Int)) : Option Bool :=
  after (iter (fun s => F_ref01_Head_L1 fu t0 s) fu (0 : Int)) fun _ =>
  some true

theorem run_ref01_Head (fu : Nat) (t0 : (Nat → Int)) {d : D} {r : Bool} (h : F_ref01_Head fu t0 = some r) (hk : K_ref01_Head d r) : Runs Try.prog Try.f27 0 T_ref01_Head [(0, (D.ints .u64 12 t0))] [] d [] := by
  unfold F_ref01_Head at h
  refine runs_regions 2 [([], [1]), ([], [1, 3])] (z := ([], [(1, (D.ptr 0 [])), (3, (D.int .i64 (0 : Int)))], [some (.box (D.ints .u64 12 t0))])) rfl (by kernel_rfl) trivial ?_
  refine runs_to (ts := [1, 3]) (T' := T_ref01_Head_L1) (env' := [(1, (D.ptr 0 [])), (3, (D.int .i64 (0 : Int)))]) (h2 := [some (.box (D.ints .u64 12 t0))]) (by kernel_rfl) (by kernel_rfl) (And.intro (.inr rfl) trivial) (Nat.zero_le _) (And.intro trivial trivial) (And.intro (bel_of rfl) (And.intro trivial trivial)) ?_
  rcases after_some h with ⟨e3, hi, h⟩ | hi
  · refine iter_ref01_Head_L1 fu t0 fu (0 : Int) hi ?_
    show Runs Try.prog Try.f27 0 X_ref01_Head_L1T [] [] d []
    refine runs_regions 1 [([], [2])] (z := ([], [(2, (D.bool true))], [])) rfl (by kernel_rfl) trivial ?_
    rw [← Option.some.inj h] at hk
    obtain rfl : d = (D.bool true) := hk
    exact runs_ret (by kernel_rfl) trivial (Nat.le_refl 0) trivial trivial
  · exact iter_ref01_Head_L1 fu t0 fu (0 : Int) hi hk

theorem fc_ref01_Head (fu : Nat) (t0 : (Nat → Int)) {r : Bool} (h : F_ref01_Head fu t0 = some r) : FC Try.prog 27 [(D.ints .u64 12 t0)] [] (D.bool r) [] := by
  refine fc_of_runs (fn := Try.f27) (c := Try.f27.body.getD .skip) (by kernel_rfl) (by kernel_rfl) ?_
  refine runs_to (ts := [0]) (T' := T_ref01_Head) (env' := [(0, (D.ints .u64 12 t0))]) (h2 := []) (by kernel_rfl) (by kernel_rfl) trivial (Nat.le_refl 0) trivial (And.intro trivial trivial) ?_
  exact run_ref01_Head fu t0 h rfl

def K_ref01_Bits (d : D) (r : (Nat × (Nat → Bool))) : Prop := d = (D.lit r.1 1 fun i => (D.bool (r.2 i)))

noncomputable def T_ref01_Bits : List Item := norm 200 [.code (Try.f58.body.getD .skip)]

noncomputable def T_ref01_Bits_L1 : List Item := norm 200 (nxt (nxt (nxt T_ref01_Bits)))

noncomputable def X_ref01_Bits_L1T : List Item := norm 200 (cndF (nxt (nxt (nxt (nxt T_ref01_Bits)))))

abbrev E_ref01_Bits_L1 := (Nat × (Nat → Bool))

def N_ref01_Bits_L1 (_fu : Nat) (t0 : Int) (d : D) (s : (Int × (Nat × (Nat → Bool)))) : Prop := Runs Try.prog Try.f58 0 T_ref01_Bits_L1 [(0, (D.int .u64 t0)), (5, (D.own 0)), (6, (D.int .i64 s.1))] [some (.seq 4 s.2.1 1 (D.arr s.2.1 1 fun i => (D.bool (s.2.2 i))))] d []

def X_ref01_Bits_L1 (_fu : Nat) (_t0 : Int) (d : D) : E_ref01_Bits_L1 ⊕ (Nat × (Nat → Bool)) → Prop
  | .inl e => Runs Try.prog Try.f58 0 X_ref01_Bits_L1T [(5, (D.own 0))] [some (.seq 4 e.1 1 (D.arr e.1 1 fun i => (D.bool (e.2 i))))] d []
  | .inr o => (K_ref01_Bits d) o

def F_ref01_Bits_L1 (_fu : Nat) (t0 : Int) (t6 : Int) (m0 : (Nat × (Nat → Bool))) : Option (Lo (Int × (Nat × (Nat → Bool))) E_ref01_Bits_L1 (Nat × (Nat → Bool))) :=
  ifs (decide (t6 ≥ (0 : Int))) (
    chk (0 ≤ (IntKind.wrap .u64 t6)) <|
    chk (RoomOk (m0.1 + 1) 1) <|
    some (.next ((IntKind.wrap .i64 (t6 - (1 : Int))), ((m0.1 + 1), (fun i => if i < m0.1 then m0.2 i else (fun i => ([((iand .u64 (ishr .u64 t0 (IntKind.wrap .u64 t6)) (1 : Int)) == (1 : Int))] : List Bool).getD i false) (i - m0.1)))))) (
    some (.exit m0))

theorem run_ref01_Bits_L1 (fu : Nat) (t0 : Int) (t6 : Int) (m0 : (Nat × (Nat → Bool))) {d : D} {o : (Lo (Int × (Nat × (Nat → Bool))) E_ref01_Bits_L1 (Nat × (Nat → Bool)))} (h : F_ref01_Bits_L1 fu t0 t6 m0 = some o) (hk : (Lo.post (N_ref01_Bits_L1 fu t0 d) (X_ref01_Bits_L1 fu t0 d)) o) : Runs Try.prog Try.f58 0 T_ref01_Bits_L1 [(0, (D.int .u64 t0)), (5, (D.own 0)), (6, (D.int .i64 t6))] [some (.seq 4 m0.1 1 (D.arr m0.1 1 fun i => (D.bool (m0.2 i))))] d [] := by
  unfold F_ref01_Bits_L1 at h
  refine runs_regions 1 [([], [0, 5, 6, 10])] (z := ([], [(0, (D.int .u64 t0)), (5, (D.own 0)), (6, (D.int .i64 t6)), (10, (D.bool (decide (t6 ≥ (0 : Int)))))], [some (.seq 4 m0.1 1 (D.arr m0.1 1 fun i => (D.bool (m0.2 i))))])) rfl (by kernel_rfl) trivial ?_
  refine runs_if (b := (decide (t6 ≥ (0 : Int)))) (by kernel_rfl) (fun hb => ?_) (fun hb => ?_)
  · replace h := ifs_true h hb
    obtain ⟨p0, h⟩ := chk_some h
    obtain ⟨p1, h⟩ := chk_some h
    refine runs_regions 2 [([(.lit fun i => (D.bool ((fun i => ([((iand .u64 (ishr .u64 t0 (IntKind.wrap .u64 t6)) (1 : Int)) == (1 : Int))] : List Bool).getD i false) i))), (.d (D.arr (m0.1 + 1) 1 fun i => (D.bool ((fun i => if i < m0.1 then m0.2 i else (fun i => ([((iand .u64 (ishr .u64 t0 (IntKind.wrap .u64 t6)) (1 : Int)) == (1 : Int))] : List Bool).getD i false) (i - m0.1)) i))))], [0, 5, 6]), ([], [0, 5, 6])] (z := ([(0 ≤ (IntKind.wrap .u64 t6)), TabOk [(D.bool ((iand .u64 (ishr .u64 t0 (IntKind.wrap .u64 t6)) (1 : Int)) == (1 : Int)))] 1 (D.arr 1 1 fun i => (D.bool ((fun i => ([((iand .u64 (ishr .u64 t0 (IntKind.wrap .u64 t6)) (1 : Int)) == (1 : Int))] : List Bool).getD i false) i))), (RoomOk (m0.1 + 1) 1), CatOk (D.arr m0.1 1 fun i => (D.bool (m0.2 i))) (D.arr 1 1 fun i => (D.bool ((fun i => ([((iand .u64 (ishr .u64 t0 (IntKind.wrap .u64 t6)) (1 : Int)) == (1 : Int))] : List Bool).getD i false) i))) (D.arr (m0.1 + 1) 1 fun i => (D.bool ((fun i => if i < m0.1 then m0.2 i else (fun i => ([((iand .u64 (ishr .u64 t0 (IntKind.wrap .u64 t6)) (1 : Int)) == (1 : Int))] : List Bool).getD i false) (i - m0.1)) i)))], [(0, (D.int .u64 t0)), (5, (D.own 1)), (6, (D.int .i64 (IntKind.wrap .i64 (t6 - (1 : Int)))))], [none, some (.seq 4 (m0.1 + 1) 1 (D.arr (m0.1 + 1) 1 fun i => (D.bool ((fun i => if i < m0.1 then m0.2 i else (fun i => ([((iand .u64 (ishr .u64 t0 (IntKind.wrap .u64 t6)) (1 : Int)) == (1 : Int))] : List Bool).getD i false) (i - m0.1)) i))))])) rfl (by kernel_rfl) (And.intro p0 (And.intro (tabOk_arr rfl (And.intro rfl trivial)) (And.intro p1 (And.intro (catOk_arr' rfl fun i => (d_ite (f := fun x : Bool => (D.bool x)) rfl rfl).symm) trivial)))) ?_
    rw [← Option.some.inj h] at hk
    refine runs_to (ts := [0, 5, 6]) (T' := T_ref01_Bits_L1) (env' := [(0, (D.int .u64 t0)), (5, (D.own 1)), (6, (D.int .i64 (IntKind.wrap .i64 (t6 - (1 : Int)))))]) (h2 := [none, some (.seq 4 (m0.1 + 1) 1 (D.arr (m0.1 + 1) 1 fun i => (D.bool ((fun i => if i < m0.1 then m0.2 i else (fun i => ([((iand .u64 (ishr .u64 t0 (IntKind.wrap .u64 t6)) (1 : Int)) == (1 : Int))] : List Bool).getD i false) (i - m0.1)) i))))]) (by kernel_rfl) (by kernel_rfl) (And.intro (.inl rfl) (And.intro (.inr rfl) trivial)) (Nat.zero_le _) (And.intro (fun _ _ => trivial) trivial) (And.intro trivial (And.intro (bel_of rfl) (And.intro trivial trivial))) ?_
    refine runs_rename 0 1 (row := (.seq 4 (m0.1 + 1) 1 (D.arr (m0.1 + 1) 1 fun i => (D.bool ((fun i => if i < m0.1 then m0.2 i else (fun i => ([((iand .u64 (ishr .u64 t0 (IntKind.wrap .u64 t6)) (1 : Int)) == (1 : Int))] : List Bool).getD i false) (i - m0.1)) i))))) (by decide) (Nat.zero_le _) rfl rfl (And.intro (fun _ _ => trivial) trivial) (And.intro trivial (And.intro (rn_own rfl) (And.intro trivial trivial))) ?_
    refine runs_to (ts := [0, 5, 6]) (T' := T_ref01_Bits_L1) (env' := [(0, (D.int .u64 t0)), (5, (D.own 0)), (6, (D.int .i64 (IntKind.wrap .i64 (t6 - (1 : Int)))))]) (h2 := [some (.seq 4 (m0.1 + 1) 1 (D.arr (m0.1 + 1) 1 fun i => (D.bool ((fun i => if i < m0.1 then m0.2 i else (fun i => ([((iand .u64 (ishr .u64 t0 (IntKind.wrap .u64 t6)) (1 : Int)) == (1 : Int))] : List Bool).getD i false) (i - m0.1)) i))))]) (by kernel_rfl) (by kernel_rfl) (And.intro (.inr rfl) trivial) (Nat.zero_le _) (And.intro (fun _ _ => trivial) trivial) (And.intro trivial (And.intro (bel_of rfl) (And.intro trivial trivial))) ?_
    exact hk
  · replace h := ifs_false h hb
    rw [← Option.some.inj h] at hk
    refine runs_to (ts := [5]) (T' := X_ref01_Bits_L1T) (env' := [(5, (D.own 0))]) (h2 := [some (.seq 4 m0.1 1 (D.arr m0.1 1 fun i => (D.bool (m0.2 i))))]) (by kernel_rfl) (by kernel_rfl) (And.intro (.inr rfl) trivial) (Nat.zero_le _) (And.intro (fun _ _ => trivial) trivial) (And.intro (bel_of rfl) trivial) ?_
    exact hk

theorem iter_ref01_Bits_L1 (fu : Nat) (t0 : Int) {d : D} (k : Nat) (s : (Int × (Nat × (Nat → Bool)))) {o : E_ref01_Bits_L1 ⊕ (Nat × (Nat → Bool))} (h : iter (fun s => F_ref01_Bits_L1 fu t0 s.1 s.2) k s = some o) (hx : X_ref01_Bits_L1 fu t0 d o) : N_ref01_Bits_L1 fu t0 d s :=
  iter_post (K := N_ref01_Bits_L1 fu t0 d) (X := X_ref01_Bits_L1 fu t0 d) (fun s _ h hk => run_ref01_Bits_L1 fu t0 s.1 s.2 h hk) k s o h hx

/-- podesta/podestaref01.Bits -/
def F_ref01_Bits (fu : Nat) (t0 : Int) (t1 : Int) : Option (Nat × (Nat → Bool)) :=
  after (iter (fun s => F_ref01_Bits_L1 fu t0 s.1 s.2) fu ((IntKind.wrap .i64 (t1 - (1 : Int))), (0, (fun _ => false)))) fun e3 =>
  some e3

theorem run_ref01_Bits (fu : Nat) (t0 : Int) (t1 : Int) {d : D} {r : (Nat × (Nat → Bool))} (h : F_ref01_Bits fu t0 t1 = some r) (hk : K_ref01_Bits d r) : Runs Try.prog Try.f58 0 T_ref01_Bits [(0, (D.int .u64 t0)), (1, (D.int .i64 t1))] [] d [] := by
  unfold F_ref01_Bits at h
  refine runs_regions 3 [([], [0, 1]), ([(.nil 4 1 (D.arr 0 1 fun i => (D.bool ((fun _ => false) i))))], [0, 1, 5]), ([], [0, 5, 6])] (z := ([EmptyOk (D.arr 0 1 fun i => (D.bool ((fun _ => false) i)))], [(0, (D.int .u64 t0)), (5, (D.own 0)), (6, (D.int .i64 (IntKind.wrap .i64 (t1 - (1 : Int)))))], [some (.seq 4 0 1 (D.arr 0 1 fun i => (D.bool ((fun _ => false) i))))])) rfl (by kernel_rfl) (And.intro emptyOk_arr trivial) ?_
  refine runs_to (ts := [0, 5, 6]) (T' := T_ref01_Bits_L1) (env' := [(0, (D.int .u64 t0)), (5, (D.own 0)), (6, (D.int .i64 (IntKind.wrap .i64 (t1 - (1 : Int)))))]) (h2 := [some (.seq 4 0 1 (D.arr 0 1 fun i => (D.bool ((fun _ => false) i))))]) (by kernel_rfl) (by kernel_rfl) (And.intro (.inr rfl) trivial) (Nat.zero_le _) (And.intro (fun _ _ => trivial) trivial) (And.intro trivial (And.intro (bel_of rfl) (And.intro trivial trivial))) ?_
  rcases after_some h with ⟨e3, hi, h⟩ | hi
  · refine iter_ref01_Bits_L1 fu t0 fu ((IntKind.wrap .i64 (t1 - (1 : Int))), (0, (fun _ => false))) hi ?_
    show Runs Try.prog Try.f58 0 X_ref01_Bits_L1T [(5, (D.own 0))] [some (.seq 4 e3.1 1 (D.arr e3.1 1 fun i => (D.bool (e3.2 i))))] d []
    refine runs_regions 1 [([], [4])] (z := ([], [(4, (D.own 0))], [some (.seq 4 e3.1 1 (D.arr e3.1 1 fun i => (D.bool (e3.2 i))))])) rfl (by kernel_rfl) trivial ?_
    rw [← Option.some.inj h] at hk
    obtain rfl : d = (D.lit e3.1 1 fun i => (D.bool (e3.2 i))) := hk
    refine runs_freeze 0 (row := (.seq 4 e3.1 1 (D.arr e3.1 1 fun i => (D.bool (e3.2 i))))) rfl ?_
    exact runs_ret (by kernel_rfl) trivial (Nat.le_refl 0) trivial (fun _ _ => trivial)
  · exact iter_ref01_Bits_L1 fu t0 fu ((IntKind.wrap .i64 (t1 - (1 : Int))), (0, (fun _ => false))) hi hk

theorem fc_ref01_Bits (fu : Nat) (t0 : Int) (t1 : Int) {r : (Nat × (Nat → Bool))} (h : F_ref01_Bits fu t0 t1 = some r) : FC Try.prog 58 [(D.int .u64 t0), (D.int .i64 t1)] [] (D.lit r.1 1 fun i => (D.bool (r.2 i))) [] := by
  refine fc_of_runs (fn := Try.f58) (c := Try.f58.body.getD .skip) (by kernel_rfl) (by kernel_rfl) ?_
  refine runs_to (ts := [0, 1]) (T' := T_ref01_Bits) (env' := [(0, (D.int .u64 t0)), (1, (D.int .i64 t1))]) (h2 := []) (by kernel_rfl) (by kernel_rfl) trivial (Nat.le_refl 0) trivial (And.intro trivial (And.intro trivial trivial)) ?_
  exact run_ref01_Bits fu t0 t1 h rfl

def K_ref01_Text (d : D) (r : (ByteArray × Bool)) : Prop := d = (D.tup (D.cons (D.str r.1) (D.cons (D.bool r.2) D.nil)))

noncomputable def T_ref01_Text : List Item := norm 200 [.code (Try.f37.body.getD .skip)]

noncomputable def T_ref01_Text_L2 : List Item := norm 200 (nxt (nxt (cndF (nxt (cndT (nxt (nxt (nxt (nxt (nxt T_ref01_Text))))))))))

noncomputable def X_ref01_Text_L2T : List Item := norm 200 (cndF (nxt (nxt (nxt (cndF (nxt (cndT (nxt (nxt (nxt (nxt (nxt T_ref01_Text))))))))))))

noncomputable def T_ref01_Text_J1 : List Item := norm 200 (cndF (nxt (cndT (nxt (nxt (nxt (nxt (nxt T_ref01_Text))))))))

noncomputable def T_ref01_Text_L1 : List Item := norm 200 (nxt (nxt (nxt (nxt T_ref01_Text))))

noncomputable def X_ref01_Text_L1T : List Item := norm 200 (cndF (nxt (nxt (nxt (nxt (nxt T_ref01_Text))))))

abbrev E_ref01_Text_L1 := (Bool × (Nat × (Nat → Int)))

def N_ref01_Text_L1 (_fu : Nat) (m0 : S_api_Cube) (d : D) (s : (Bool × Int × (Nat × (Nat → Int)))) : Prop := Runs Try.prog Try.f37 0 T_ref01_Text_L1 [(1, (D.ptr 0 [])), (4, (D.own 1)), (5, (D.bool s.1)), (6, (D.int .i64 s.2.1))] [some (.box (D.cons (D.ints .u64 12 m0.f0) (D.cons (D.ints .u64 12 m0.f1) D.nil))), some (.seq 5 s.2.2.1 1 (D.ints .u8 s.2.2.1 s.2.2.2))] d []

def X_ref01_Text_L1 (_fu : Nat) (_m0 : S_api_Cube) (d : D) : E_ref01_Text_L1 ⊕ (ByteArray × Bool) → Prop
  | .inl e => Runs Try.prog Try.f37 0 X_ref01_Text_L1T [(4, (D.own 1)), (5, (D.bool e.1))] [none, some (.seq 5 e.2.1 1 (D.ints .u8 e.2.1 e.2.2))] d []
  | .inr o => (K_ref01_Text d) o

abbrev E_ref01_Text_L2 := (Nat × (Nat → Int))

def N_ref01_Text_L2 (_fu : Nat) (m0 : S_api_Cube) (t5 : Bool) (t6 : Int) (t7 : (Nat × (Nat → Bool))) (t8 : (Nat × (Nat → Bool))) (d : D) (s : (Int × (Nat × (Nat → Int)))) : Prop := Runs Try.prog Try.f37 0 T_ref01_Text_L2 [(1, (D.ptr 0 [])), (4, (D.own 1)), (5, (D.bool t5)), (6, (D.int .i64 t6)), (7, (D.lit t7.1 1 fun i => (D.bool (t7.2 i)))), (8, (D.lit t8.1 1 fun i => (D.bool (t8.2 i)))), (9, (D.int .i64 s.1))] [some (.box (D.cons (D.ints .u64 12 m0.f0) (D.cons (D.ints .u64 12 m0.f1) D.nil))), some (.seq 5 s.2.1 1 (D.ints .u8 s.2.1 s.2.2))] d []

def X_ref01_Text_L2 (fu : Nat) (m0 : S_api_Cube) (t5 : Bool) (t6 : Int) (_t7 : (Nat × (Nat → Bool))) (_t8 : (Nat × (Nat → Bool))) (d : D) : E_ref01_Text_L2 ⊕ (Lo (Bool × Int × (Nat × (Nat → Int))) E_ref01_Text_L1 (ByteArray × Bool)) → Prop
  | .inl e => Runs Try.prog Try.f37 0 X_ref01_Text_L2T [(1, (D.ptr 0 [])), (4, (D.own 1)), (5, (D.bool t5)), (6, (D.int .i64 t6))] [some (.box (D.cons (D.ints .u64 12 m0.f0) (D.cons (D.ints .u64 12 m0.f1) D.nil))), some (.seq 5 e.1 1 (D.ints .u8 e.1 e.2))] d []
  | .inr o => (Lo.post (N_ref01_Text_L1 fu m0 d) (X_ref01_Text_L1 fu m0 d)) o

def F_ref01_Text_L2 (_fu : Nat) (_m0 : S_api_Cube) (_t5 : Bool) (_t6 : Int) (t7 : (Nat × (Nat → Bool))) (t8 : (Nat × (Nat → Bool))) (t9 : Int) (m1 : (Nat × (Nat → Int))) : Option (Lo (Int × (Nat × (Nat → Int))) E_ref01_Text_L2 (Lo (Bool × Int × (Nat × (Nat → Int))) E_ref01_Text_L1 (ByteArray × Bool))) :=
  ifs (decide (t9 < ((t7.1 : Nat) : Int))) (
    chk (0 ≤ t9 ∧ t9 < ((t8.1 : Nat) : Int)) <|
    ifs (!(t8.2 t9.toNat)) (
      chk (RoomOk (m1.1 + 1) 1) <|
      some (.next ((IntKind.wrap .i64 (t9 + (1 : Int))), ((m1.1 + 1), (fun i => if i < m1.1 then m1.2 i else (fun i => ([(120 : Int)] : List Int).getD i (0 : Int)) (i - m1.1)))))) (
      chk (0 ≤ t9 ∧ t9 < ((t7.1 : Nat) : Int)) <|
      ifs (t7.2 t9.toNat) (
        chk (RoomOk (m1.1 + 1) 1) <|
        some (.next ((IntKind.wrap .i64 (t9 + (1 : Int))), ((m1.1 + 1), (fun i => if i < m1.1 then m1.2 i else (fun i => ([(49 : Int)] : List Int).getD i (0 : Int)) (i - m1.1)))))) (
        chk (RoomOk (m1.1 + 1) 1) <|
        some (.next ((IntKind.wrap .i64 (t9 + (1 : Int))), ((m1.1 + 1), (fun i => if i < m1.1 then m1.2 i else (fun i => ([(48 : Int)] : List Int).getD i (0 : Int)) (i - m1.1)))))))) (
    some (.exit m1))

theorem run_ref01_Text_L2 (fu : Nat) (m0 : S_api_Cube) (t5 : Bool) (t6 : Int) (t7 : (Nat × (Nat → Bool))) (t8 : (Nat × (Nat → Bool))) (t9 : Int) (m1 : (Nat × (Nat → Int))) {d : D} {o : (Lo (Int × (Nat × (Nat → Int))) E_ref01_Text_L2 (Lo (Bool × Int × (Nat × (Nat → Int))) E_ref01_Text_L1 (ByteArray × Bool)))} (h : F_ref01_Text_L2 fu m0 t5 t6 t7 t8 t9 m1 = some o) (hk : (Lo.post (N_ref01_Text_L2 fu m0 t5 t6 t7 t8 d) (X_ref01_Text_L2 fu m0 t5 t6 t7 t8 d)) o) : Runs Try.prog Try.f37 0 T_ref01_Text_L2 [(1, (D.ptr 0 [])), (4, (D.own 1)), (5, (D.bool t5)), (6, (D.int .i64 t6)), (7, (D.lit t7.1 1 fun i => (D.bool (t7.2 i)))), (8, (D.lit t8.1 1 fun i => (D.bool (t8.2 i)))), (9, (D.int .i64 t9))] [some (.box (D.cons (D.ints .u64 12 m0.f0) (D.cons (D.ints .u64 12 m0.f1) D.nil))), some (.seq 5 m1.1 1 (D.ints .u8 m1.1 m1.2))] d [] := by
  unfold F_ref01_Text_L2 at h
  refine runs_regions 1 [([], [1, 4, 5, 6, 7, 8, 9, 44])] (z := ([], [(1, (D.ptr 0 [])), (4, (D.own 1)), (5, (D.bool t5)), (6, (D.int .i64 t6)), (7, (D.lit t7.1 1 fun i => (D.bool (t7.2 i)))), (8, (D.lit t8.1 1 fun i => (D.bool (t8.2 i)))), (9, (D.int .i64 t9)), (44, (D.bool (decide (t9 < ((t7.1 : Nat) : Int)))))], [some (.box (D.cons (D.ints .u64 12 m0.f0) (D.cons (D.ints .u64 12 m0.f1) D.nil))), some (.seq 5 m1.1 1 (D.ints .u8 m1.1 m1.2))])) rfl (by kernel_rfl) trivial ?_
  refine runs_if (b := (decide (t9 < ((t7.1 : Nat) : Int)))) (by kernel_rfl) (fun hb => ?_) (fun hb => ?_)
  · replace h := ifs_true h hb
    obtain ⟨p8, h⟩ := chk_some h
    refine runs_regions 1 [([], [1, 4, 5, 6, 7, 8, 9, 50])] (z := ([(0 ≤ t9 ∧ t9 < ((t8.1 : Nat) : Int))], [(1, (D.ptr 0 [])), (4, (D.own 1)), (5, (D.bool t5)), (6, (D.int .i64 t6)), (7, (D.lit t7.1 1 fun i => (D.bool (t7.2 i)))), (8, (D.lit t8.1 1 fun i => (D.bool (t8.2 i)))), (9, (D.int .i64 t9)), (50, (D.bool (!(t8.2 t9.toNat))))], [some (.box (D.cons (D.ints .u64 12 m0.f0) (D.cons (D.ints .u64 12 m0.f1) D.nil))), some (.seq 5 m1.1 1 (D.ints .u8 m1.1 m1.2))])) rfl (by kernel_rfl) (And.intro p8 trivial) ?_
    refine runs_if (b := (!(t8.2 t9.toNat))) (by kernel_rfl) (fun hb => ?_) (fun hb => ?_)
    · replace h := ifs_true h hb
      obtain ⟨p9, h⟩ := chk_some h
      refine runs_regions 2 [([(.lit fun i => (D.int .u8 ((fun i => ([(120 : Int)] : List Int).getD i (0 : Int)) i))), (.d (D.ints .u8 (m1.1 + 1) (fun i => if i < m1.1 then m1.2 i else (fun i => ([(120 : Int)] : List Int).getD i (0 : Int)) (i - m1.1))))], [1, 4, 5, 6, 7, 8, 9]), ([], [1, 4, 5, 6, 7, 8, 9])] (z := ([TabOk [(D.int .u8 (120 : Int))] 1 (D.arr 1 1 fun i => (D.int .u8 ((fun i => ([(120 : Int)] : List Int).getD i (0 : Int)) i))), (RoomOk (m1.1 + 1) 1), CatOk (D.ints .u8 m1.1 m1.2) (D.arr 1 1 fun i => (D.int .u8 ((fun i => ([(120 : Int)] : List Int).getD i (0 : Int)) i))) (D.ints .u8 (m1.1 + 1) (fun i => if i < m1.1 then m1.2 i else (fun i => ([(120 : Int)] : List Int).getD i (0 : Int)) (i - m1.1)))], [(1, (D.ptr 0 [])), (4, (D.own 2)), (5, (D.bool t5)), (6, (D.int .i64 t6)), (7, (D.lit t7.1 1 fun i => (D.bool (t7.2 i)))), (8, (D.lit t8.1 1 fun i => (D.bool (t8.2 i)))), (9, (D.int .i64 (IntKind.wrap .i64 (t9 + (1 : Int)))))], [some (.box (D.cons (D.ints .u64 12 m0.f0) (D.cons (D.ints .u64 12 m0.f1) D.nil))), none, some (.seq 5 (m1.1 + 1) 1 (D.ints .u8 (m1.1 + 1) (fun i => if i < m1.1 then m1.2 i else (fun i => ([(120 : Int)] : List Int).getD i (0 : Int)) (i - m1.1))))])) rfl (by kernel_rfl) (And.intro (tabOk_arr rfl (And.intro rfl trivial)) (And.intro p9 (And.intro (catOk_ints (f := (fun i => ([(120 : Int)] : List Int).getD i (0 : Int))) rfl) trivial))) ?_
      rw [← Option.some.inj h] at hk
      refine runs_to (ts := [1, 4, 5, 6, 7, 8, 9]) (T' := T_ref01_Text_L2) (env' := [(1, (D.ptr 0 [])), (4, (D.own 2)), (5, (D.bool t5)), (6, (D.int .i64 t6)), (7, (D.lit t7.1 1 fun i => (D.bool (t7.2 i)))), (8, (D.lit t8.1 1 fun i => (D.bool (t8.2 i)))), (9, (D.int .i64 (IntKind.wrap .i64 (t9 + (1 : Int)))))]) (h2 := [some (.box (D.cons (D.ints .u64 12 m0.f0) (D.cons (D.ints .u64 12 m0.f1) D.nil))), none, some (.seq 5 (m1.1 + 1) 1 (D.ints .u8 (m1.1 + 1) (fun i => if i < m1.1 then m1.2 i else (fun i => ([(120 : Int)] : List Int).getD i (0 : Int)) (i - m1.1))))]) (by kernel_rfl) (by kernel_rfl) (And.intro (.inr rfl) (And.intro (.inl rfl) (And.intro (.inr rfl) trivial))) (Nat.zero_le _) (And.intro (And.intro trivial (And.intro trivial trivial)) (And.intro trivial trivial)) (And.intro (bel_of rfl) (And.intro (bel_of rfl) (And.intro trivial (And.intro trivial (And.intro (fun _ _ => trivial) (And.intro (fun _ _ => trivial) (And.intro trivial trivial))))))) ?_
      refine runs_rename 1 2 (row := (.seq 5 (m1.1 + 1) 1 (D.ints .u8 (m1.1 + 1) (fun i => if i < m1.1 then m1.2 i else (fun i => ([(120 : Int)] : List Int).getD i (0 : Int)) (i - m1.1))))) (by decide) (Nat.zero_le _) rfl rfl (And.intro (And.intro trivial (And.intro trivial trivial)) (And.intro trivial trivial)) (And.intro (rn_ptr rfl) (And.intro (rn_own rfl) (And.intro trivial (And.intro trivial (And.intro (fun _ _ => trivial) (And.intro (fun _ _ => trivial) (And.intro trivial trivial))))))) ?_
      refine runs_to (ts := [1, 4, 5, 6, 7, 8, 9]) (T' := T_ref01_Text_L2) (env' := [(1, (D.ptr 0 [])), (4, (D.own 1)), (5, (D.bool t5)), (6, (D.int .i64 t6)), (7, (D.lit t7.1 1 fun i => (D.bool (t7.2 i)))), (8, (D.lit t8.1 1 fun i => (D.bool (t8.2 i)))), (9, (D.int .i64 (IntKind.wrap .i64 (t9 + (1 : Int)))))]) (h2 := [some (.box (D.cons (D.ints .u64 12 m0.f0) (D.cons (D.ints .u64 12 m0.f1) D.nil))), some (.seq 5 (m1.1 + 1) 1 (D.ints .u8 (m1.1 + 1) (fun i => if i < m1.1 then m1.2 i else (fun i => ([(120 : Int)] : List Int).getD i (0 : Int)) (i - m1.1))))]) (by kernel_rfl) (by kernel_rfl) (And.intro (.inr rfl) (And.intro (.inr rfl) trivial)) (Nat.zero_le _) (And.intro (And.intro trivial (And.intro trivial trivial)) (And.intro trivial trivial)) (And.intro (bel_of rfl) (And.intro (bel_of rfl) (And.intro trivial (And.intro trivial (And.intro (fun _ _ => trivial) (And.intro (fun _ _ => trivial) (And.intro trivial trivial))))))) ?_
      exact hk
    · replace h := ifs_false h hb
      obtain ⟨p10, h⟩ := chk_some h
      refine runs_regions 1 [([], [1, 4, 5, 6, 7, 8, 9, 59])] (z := ([(0 ≤ t9 ∧ t9 < ((t7.1 : Nat) : Int))], [(1, (D.ptr 0 [])), (4, (D.own 1)), (5, (D.bool t5)), (6, (D.int .i64 t6)), (7, (D.lit t7.1 1 fun i => (D.bool (t7.2 i)))), (8, (D.lit t8.1 1 fun i => (D.bool (t8.2 i)))), (9, (D.int .i64 t9)), (59, (D.bool (t7.2 t9.toNat)))], [some (.box (D.cons (D.ints .u64 12 m0.f0) (D.cons (D.ints .u64 12 m0.f1) D.nil))), some (.seq 5 m1.1 1 (D.ints .u8 m1.1 m1.2))])) rfl (by kernel_rfl) (And.intro p10 trivial) ?_
      refine runs_if (b := (t7.2 t9.toNat)) (by kernel_rfl) (fun hb => ?_) (fun hb => ?_)
      · replace h := ifs_true h hb
        obtain ⟨p11, h⟩ := chk_some h
        refine runs_regions 2 [([(.lit fun i => (D.int .u8 ((fun i => ([(49 : Int)] : List Int).getD i (0 : Int)) i))), (.d (D.ints .u8 (m1.1 + 1) (fun i => if i < m1.1 then m1.2 i else (fun i => ([(49 : Int)] : List Int).getD i (0 : Int)) (i - m1.1))))], [1, 4, 5, 6, 7, 8, 9]), ([], [1, 4, 5, 6, 7, 8, 9])] (z := ([TabOk [(D.int .u8 (49 : Int))] 1 (D.arr 1 1 fun i => (D.int .u8 ((fun i => ([(49 : Int)] : List Int).getD i (0 : Int)) i))), (RoomOk (m1.1 + 1) 1), CatOk (D.ints .u8 m1.1 m1.2) (D.arr 1 1 fun i => (D.int .u8 ((fun i => ([(49 : Int)] : List Int).getD i (0 : Int)) i))) (D.ints .u8 (m1.1 + 1) (fun i => if i < m1.1 then m1.2 i else (fun i => ([(49 : Int)] : List Int).getD i (0 : Int)) (i - m1.1)))], [(1, (D.ptr 0 [])), (4, (D.own 2)), (5, (D.bool t5)), (6, (D.int .i64 t6)), (7, (D.lit t7.1 1 fun i => (D.bool (t7.2 i)))), (8, (D.lit t8.1 1 fun i => (D.bool (t8.2 i)))), (9, (D.int .i64 (IntKind.wrap .i64 (t9 + (1 : Int)))))], [some (.box (D.cons (D.ints .u64 12 m0.f0) (D.cons (D.ints .u64 12 m0.f1) D.nil))), none, some (.seq 5 (m1.1 + 1) 1 (D.ints .u8 (m1.1 + 1) (fun i => if i < m1.1 then m1.2 i else (fun i => ([(49 : Int)] : List Int).getD i (0 : Int)) (i - m1.1))))])) rfl (by kernel_rfl) (And.intro (tabOk_arr rfl (And.intro rfl trivial)) (And.intro p11 (And.intro (catOk_ints (f := (fun i => ([(49 : Int)] : List Int).getD i (0 : Int))) rfl) trivial))) ?_
        rw [← Option.some.inj h] at hk
        refine runs_to (ts := [1, 4, 5, 6, 7, 8, 9]) (T' := T_ref01_Text_L2) (env' := [(1, (D.ptr 0 [])), (4, (D.own 2)), (5, (D.bool t5)), (6, (D.int .i64 t6)), (7, (D.lit t7.1 1 fun i => (D.bool (t7.2 i)))), (8, (D.lit t8.1 1 fun i => (D.bool (t8.2 i)))), (9, (D.int .i64 (IntKind.wrap .i64 (t9 + (1 : Int)))))]) (h2 := [some (.box (D.cons (D.ints .u64 12 m0.f0) (D.cons (D.ints .u64 12 m0.f1) D.nil))), none, some (.seq 5 (m1.1 + 1) 1 (D.ints .u8 (m1.1 + 1) (fun i => if i < m1.1 then m1.2 i else (fun i => ([(49 : Int)] : List Int).getD i (0 : Int)) (i - m1.1))))]) (by kernel_rfl) (by kernel_rfl) (And.intro (.inr rfl) (And.intro (.inl rfl) (And.intro (.inr rfl) trivial))) (Nat.zero_le _) (And.intro (And.intro trivial (And.intro trivial trivial)) (And.intro trivial trivial)) (And.intro (bel_of rfl) (And.intro (bel_of rfl) (And.intro trivial (And.intro trivial (And.intro (fun _ _ => trivial) (And.intro (fun _ _ => trivial) (And.intro trivial trivial))))))) ?_
        refine runs_rename 1 2 (row := (.seq 5 (m1.1 + 1) 1 (D.ints .u8 (m1.1 + 1) (fun i => if i < m1.1 then m1.2 i else (fun i => ([(49 : Int)] : List Int).getD i (0 : Int)) (i - m1.1))))) (by decide) (Nat.zero_le _) rfl rfl (And.intro (And.intro trivial (And.intro trivial trivial)) (And.intro trivial trivial)) (And.intro (rn_ptr rfl) (And.intro (rn_own rfl) (And.intro trivial (And.intro trivial (And.intro (fun _ _ => trivial) (And.intro (fun _ _ => trivial) (And.intro trivial trivial))))))) ?_
        refine runs_to (ts := [1, 4, 5, 6, 7, 8, 9]) (T' := T_ref01_Text_L2) (env' := [(1, (D.ptr 0 [])), (4, (D.own 1)), (5, (D.bool t5)), (6, (D.int .i64 t6)), (7, (D.lit t7.1 1 fun i => (D.bool (t7.2 i)))), (8, (D.lit t8.1 1 fun i => (D.bool (t8.2 i)))), (9, (D.int .i64 (IntKind.wrap .i64 (t9 + (1 : Int)))))]) (h2 := [some (.box (D.cons (D.ints .u64 12 m0.f0) (D.cons (D.ints .u64 12 m0.f1) D.nil))), some (.seq 5 (m1.1 + 1) 1 (D.ints .u8 (m1.1 + 1) (fun i => if i < m1.1 then m1.2 i else (fun i => ([(49 : Int)] : List Int).getD i (0 : Int)) (i - m1.1))))]) (by kernel_rfl) (by kernel_rfl) (And.intro (.inr rfl) (And.intro (.inr rfl) trivial)) (Nat.zero_le _) (And.intro (And.intro trivial (And.intro trivial trivial)) (And.intro trivial trivial)) (And.intro (bel_of rfl) (And.intro (bel_of rfl) (And.intro trivial (And.intro trivial (And.intro (fun _ _ => trivial) (And.intro (fun _ _ => trivial) (And.intro trivial trivial))))))) ?_
        exact hk
      · replace h := ifs_false h hb
        obtain ⟨p12, h⟩ := chk_some h
        refine runs_regions 2 [([(.lit fun i => (D.int .u8 ((fun i => ([(48 : Int)] : List Int).getD i (0 : Int)) i))), (.d (D.ints .u8 (m1.1 + 1) (fun i => if i < m1.1 then m1.2 i else (fun i => ([(48 : Int)] : List Int).getD i (0 : Int)) (i - m1.1))))], [1, 4, 5, 6, 7, 8, 9]), ([], [1, 4, 5, 6, 7, 8, 9])] (z := ([TabOk [(D.int .u8 (48 : Int))] 1 (D.arr 1 1 fun i => (D.int .u8 ((fun i => ([(48 : Int)] : List Int).getD i (0 : Int)) i))), (RoomOk (m1.1 + 1) 1), CatOk (D.ints .u8 m1.1 m1.2) (D.arr 1 1 fun i => (D.int .u8 ((fun i => ([(48 : Int)] : List Int).getD i (0 : Int)) i))) (D.ints .u8 (m1.1 + 1) (fun i => if i < m1.1 then m1.2 i else (fun i => ([(48 : Int)] : List Int).getD i (0 : Int)) (i - m1.1)))], [(1, (D.ptr 0 [])), (4, (D.own 2)), (5, (D.bool t5)), (6, (D.int .i64 t6)), (7, (D.lit t7.1 1 fun i => (D.bool (t7.2 i)))), (8, (D.lit t8.1 1 fun i => (D.bool (t8.2 i)))), (9, (D.int .i64 (IntKind.wrap .i64 (t9 + (1 : Int)))))], [some (.box (D.cons (D.ints .u64 12 m0.f0) (D.cons (D.ints .u64 12 m0.f1) D.nil))), none, some (.seq 5 (m1.1 + 1) 1 (D.ints .u8 (m1.1 + 1) (fun i => if i < m1.1 then m1.2 i else (fun i => ([(48 : Int)] : List Int).getD i (0 : Int)) (i - m1.1))))])) rfl (by kernel_rfl) (And.intro (tabOk_arr rfl (And.intro rfl trivial)) (And.intro p12 (And.intro (catOk_ints (f := (fun i => ([(48 : Int)] : List Int).getD i (0 : Int))) rfl) trivial))) ?_
        rw [← Option.some.inj h] at hk
        refine runs_to (ts := [1, 4, 5, 6, 7, 8, 9]) (T' := T_ref01_Text_L2) (env' := [(1, (D.ptr 0 [])), (4, (D.own 2)), (5, (D.bool t5)), (6, (D.int .i64 t6)), (7, (D.lit t7.1 1 fun i => (D.bool (t7.2 i)))), (8, (D.lit t8.1 1 fun i => (D.bool (t8.2 i)))), (9, (D.int .i64 (IntKind.wrap .i64 (t9 + (1 : Int)))))]) (h2 := [some (.box (D.cons (D.ints .u64 12 m0.f0) (D.cons (D.ints .u64 12 m0.f1) D.nil))), none, some (.seq 5 (m1.1 + 1) 1 (D.ints .u8 (m1.1 + 1) (fun i => if i < m1.1 then m1.2 i else (fun i => ([(48 : Int)] : List Int).getD i (0 : Int)) (i - m1.1))))]) (by kernel_rfl) (by kernel_rfl) (And.intro (.inr rfl) (And.intro (.inl rfl) (And.intro (.inr rfl) trivial))) (Nat.zero_le _) (And.intro (And.intro trivial (And.intro trivial trivial)) (And.intro trivial trivial)) (And.intro (bel_of rfl) (And.intro (bel_of rfl) (And.intro trivial (And.intro trivial (And.intro (fun _ _ => trivial) (And.intro (fun _ _ => trivial) (And.intro trivial trivial))))))) ?_
        refine runs_rename 1 2 (row := (.seq 5 (m1.1 + 1) 1 (D.ints .u8 (m1.1 + 1) (fun i => if i < m1.1 then m1.2 i else (fun i => ([(48 : Int)] : List Int).getD i (0 : Int)) (i - m1.1))))) (by decide) (Nat.zero_le _) rfl rfl (And.intro (And.intro trivial (And.intro trivial trivial)) (And.intro trivial trivial)) (And.intro (rn_ptr rfl) (And.intro (rn_own rfl) (And.intro trivial (And.intro trivial (And.intro (fun _ _ => trivial) (And.intro (fun _ _ => trivial) (And.intro trivial trivial))))))) ?_
        refine runs_to (ts := [1, 4, 5, 6, 7, 8, 9]) (T' := T_ref01_Text_L2) (env' := [(1, (D.ptr 0 [])), (4, (D.own 1)), (5, (D.bool t5)), (6, (D.int .i64 t6)), (7, (D.lit t7.1 1 fun i => (D.bool (t7.2 i)))), (8, (D.lit t8.1 1 fun i => (D.bool (t8.2 i)))), (9, (D.int .i64 (IntKind.wrap .i64 (t9 + (1 : Int)))))]) (h2 := [some (.box (D.cons (D.ints .u64 12 m0.f0) (D.cons (D.ints .u64 12 m0.f1) D.nil))), some (.seq 5 (m1.1 + 1) 1 (D.ints .u8 (m1.1 + 1) (fun i => if i < m1.1 then m1.2 i else (fun i => ([(48 : Int)] : List Int).getD i (0 : Int)) (i - m1.1))))]) (by kernel_rfl) (by kernel_rfl) (And.intro (.inr rfl) (And.intro (.inr rfl) trivial)) (Nat.zero_le _) (And.intro (And.intro trivial (And.intro trivial trivial)) (And.intro trivial trivial)) (And.intro (bel_of rfl) (And.intro (bel_of rfl) (And.intro trivial (And.intro trivial (And.intro (fun _ _ => trivial) (And.intro (fun _ _ => trivial) (And.intro trivial trivial))))))) ?_
        exact hk
  · replace h := ifs_false h hb
    rw [← Option.some.inj h] at hk
    refine runs_to (ts := [1, 4, 5, 6]) (T' := X_ref01_Text_L2T) (env' := [(1, (D.ptr 0 [])), (4, (D.own 1)), (5, (D.bool t5)), (6, (D.int .i64 t6))]) (h2 := [some (.box (D.cons (D.ints .u64 12 m0.f0) (D.cons (D.ints .u64 12 m0.f1) D.nil))), some (.seq 5 m1.1 1 (D.ints .u8 m1.1 m1.2))]) (by kernel_rfl) (by kernel_rfl) (And.intro (.inr rfl) (And.intro (.inr rfl) trivial)) (Nat.zero_le _) (And.intro (And.intro trivial (And.intro trivial trivial)) (And.intro trivial trivial)) (And.intro (bel_of rfl) (And.intro (bel_of rfl) (And.intro trivial (And.intro trivial trivial)))) ?_
    exact hk

theorem iter_ref01_Text_L2 (fu : Nat) (m0 : S_api_Cube) (t5 : Bool) (t6 : Int) (t7 : (Nat × (Nat → Bool))) (t8 : (Nat × (Nat → Bool))) {d : D} (k : Nat) (s : (Int × (Nat × (Nat → Int)))) {o : E_ref01_Text_L2 ⊕ (Lo (Bool × Int × (Nat × (Nat → Int))) E_ref01_Text_L1 (ByteArray × Bool))} (h : iter (fun s => F_ref01_Text_L2 fu m0 t5 t6 t7 t8 s.1 s.2) k s = some o) (hx : X_ref01_Text_L2 fu m0 t5 t6 t7 t8 d o) : N_ref01_Text_L2 fu m0 t5 t6 t7 t8 d s :=
  iter_post (K := N_ref01_Text_L2 fu m0 t5 t6 t7 t8 d) (X := X_ref01_Text_L2 fu m0 t5 t6 t7 t8 d) (fun s _ h hk => run_ref01_Text_L2 fu m0 t5 t6 t7 t8 s.1 s.2 h hk) k s o h hx

def F_ref01_Text_J1 (fu : Nat) (m0 : S_api_Cube) (t5 : Bool) (t6 : Int) (m1 : (Nat × (Nat → Int))) : Option (Lo (Bool × Int × (Nat × (Nat → Int))) E_ref01_Text_L1 (ByteArray × Bool)) :=
  chk (0 ≤ t6 ∧ t6 < ((12 : Nat) : Int)) <|
  chk (t6.toNat < 12) <|
  (F_ref01_Size t6).bind fun r1 =>
  (F_ref01_Bits fu (m0.f0 t6.toNat) r1).bind fun r2 =>
  chk (0 ≤ t6 ∧ t6 < ((12 : Nat) : Int)) <|
  chk (t6.toNat < 12) <|
  (F_ref01_Size t6).bind fun r3 =>
  (F_ref01_Bits fu (m0.f1 t6.toNat) r3).bind fun r4 =>
  after (iter (fun s => F_ref01_Text_L2 fu m0 t5 t6 r2 r4 s.1 s.2) fu ((0 : Int), m1)) fun e14 =>
  some (.next (t5, (IntKind.wrap .i64 (t6 + (1 : Int))), e14))

theorem run_ref01_Text_J1 (fu : Nat) (m0 : S_api_Cube) (t5 : Bool) (t6 : Int) (m1 : (Nat × (Nat → Int))) {d : D} {o : (Lo (Bool × Int × (Nat × (Nat → Int))) E_ref01_Text_L1 (ByteArray × Bool))} (h : F_ref01_Text_J1 fu m0 t5 t6 m1 = some o) (hk : (Lo.post (N_ref01_Text_L1 fu m0 d) (X_ref01_Text_L1 fu m0 d)) o) : Runs Try.prog Try.f37 0 T_ref01_Text_J1 [(1, (D.ptr 0 [])), (4, (D.own 1)), (5, (D.bool t5)), (6, (D.int .i64 t6))] [some (.box (D.cons (D.ints .u64 12 m0.f0) (D.cons (D.ints .u64 12 m0.f1) D.nil))), some (.seq 5 m1.1 1 (D.ints .u8 m1.1 m1.2))] d [] := by
  unfold F_ref01_Text_J1 at h
  obtain ⟨p4, h⟩ := chk_some h
  obtain ⟨p5, h⟩ := chk_some h
  obtain ⟨r1, cr1, h⟩ := Option.bind_eq_some_iff.1 h
  obtain ⟨r2, cr2, h⟩ := Option.bind_eq_some_iff.1 h
  obtain ⟨p6, h⟩ := chk_some h
  obtain ⟨p7, h⟩ := chk_some h
  obtain ⟨r3, cr3, h⟩ := Option.bind_eq_some_iff.1 h
  obtain ⟨r4, cr4, h⟩ := Option.bind_eq_some_iff.1 h
  refine runs_regions 2 [([(.d (D.int .i64 r1)), (.d (D.lit r2.1 1 fun i => (D.bool (r2.2 i)))), (.d (D.int .i64 r3)), (.d (D.lit r4.1 1 fun i => (D.bool (r4.2 i))))], [1, 4, 5, 6, 7, 8]), ([], [1, 4, 5, 6, 7, 8, 9])] (z := ([(0 ≤ t6 ∧ t6 < ((12 : Nat) : Int)), (t6.toNat < 12), FC Try.prog 19 [(D.int .i64 t6)] [] (D.int .i64 r1) [], All (List.map NoRow [(D.int .i64 t6)]), FC Try.prog 58 [(D.int .u64 (m0.f0 t6.toNat)), (D.int .i64 r1)] [] (D.lit r2.1 1 fun i => (D.bool (r2.2 i))) [], All (List.map NoRow [(D.int .u64 (m0.f0 t6.toNat)), (D.int .i64 r1)]), (0 ≤ t6 ∧ t6 < ((12 : Nat) : Int)), (t6.toNat < 12), FC Try.prog 19 [(D.int .i64 t6)] [] (D.int .i64 r3) [], All (List.map NoRow [(D.int .i64 t6)]), FC Try.prog 58 [(D.int .u64 (m0.f1 t6.toNat)), (D.int .i64 r3)] [] (D.lit r4.1 1 fun i => (D.bool (r4.2 i))) [], All (List.map NoRow [(D.int .u64 (m0.f1 t6.toNat)), (D.int .i64 r3)])], [(1, (D.ptr 0 [])), (4, (D.own 1)), (5, (D.bool t5)), (6, (D.int .i64 t6)), (7, (D.lit r2.1 1 fun i => (D.bool (r2.2 i)))), (8, (D.lit r4.1 1 fun i => (D.bool (r4.2 i)))), (9, (D.int .i64 (0 : Int)))], [some (.box (D.cons (D.ints .u64 12 m0.f0) (D.cons (D.ints .u64 12 m0.f1) D.nil))), some (.seq 5 m1.1 1 (D.ints .u8 m1.1 m1.2))])) rfl (by kernel_rfl) (And.intro p4 (And.intro p5 (And.intro (fc_ref01_Size t6 cr1) (And.intro (And.intro trivial trivial) (And.intro (fc_ref01_Bits fu (m0.f0 t6.toNat) r1 cr2) (And.intro (And.intro trivial (And.intro trivial trivial)) (And.intro p6 (And.intro p7 (And.intro (fc_ref01_Size t6 cr3) (And.intro (And.intro trivial trivial) (And.intro (fc_ref01_Bits fu (m0.f1 t6.toNat) r3 cr4) (And.intro (And.intro trivial (And.intro trivial trivial)) trivial)))))))))))) ?_
  refine runs_to (ts := [1, 4, 5, 6, 7, 8, 9]) (T' := T_ref01_Text_L2) (env' := [(1, (D.ptr 0 [])), (4, (D.own 1)), (5, (D.bool t5)), (6, (D.int .i64 t6)), (7, (D.lit r2.1 1 fun i => (D.bool (r2.2 i)))), (8, (D.lit r4.1 1 fun i => (D.bool (r4.2 i)))), (9, (D.int .i64 (0 : Int)))]) (h2 := [some (.box (D.cons (D.ints .u64 12 m0.f0) (D.cons (D.ints .u64 12 m0.f1) D.nil))), some (.seq 5 m1.1 1 (D.ints .u8 m1.1 m1.2))]) (by kernel_rfl) (by kernel_rfl) (And.intro (.inr rfl) (And.intro (.inr rfl) trivial)) (Nat.zero_le _) (And.intro (And.intro trivial (And.intro trivial trivial)) (And.intro trivial trivial)) (And.intro (bel_of rfl) (And.intro (bel_of rfl) (And.intro trivial (And.intro trivial (And.intro (fun _ _ => trivial) (And.intro (fun _ _ => trivial) (And.intro trivial trivial))))))) ?_
  rcases after_some h with ⟨e14, hi, h⟩ | hi
  · refine iter_ref01_Text_L2 fu m0 t5 t6 r2 r4 fu ((0 : Int), m1) hi ?_
    show Runs Try.prog Try.f37 0 X_ref01_Text_L2T [(1, (D.ptr 0 [])), (4, (D.own 1)), (5, (D.bool t5)), (6, (D.int .i64 t6))] [some (.box (D.cons (D.ints .u64 12 m0.f0) (D.cons (D.ints .u64 12 m0.f1) D.nil))), some (.seq 5 e14.1 1 (D.ints .u8 e14.1 e14.2))] d []
    refine runs_regions 1 [([], [1, 4, 5, 6])] (z := ([], [(1, (D.ptr 0 [])), (4, (D.own 1)), (5, (D.bool t5)), (6, (D.int .i64 (IntKind.wrap .i64 (t6 + (1 : Int)))))], [some (.box (D.cons (D.ints .u64 12 m0.f0) (D.cons (D.ints .u64 12 m0.f1) D.nil))), some (.seq 5 e14.1 1 (D.ints .u8 e14.1 e14.2))])) rfl (by kernel_rfl) trivial ?_
    rw [← Option.some.inj h] at hk
    refine runs_to (ts := [1, 4, 5, 6]) (T' := T_ref01_Text_L1) (env' := [(1, (D.ptr 0 [])), (4, (D.own 1)), (5, (D.bool t5)), (6, (D.int .i64 (IntKind.wrap .i64 (t6 + (1 : Int)))))]) (h2 := [some (.box (D.cons (D.ints .u64 12 m0.f0) (D.cons (D.ints .u64 12 m0.f1) D.nil))), some (.seq 5 e14.1 1 (D.ints .u8 e14.1 e14.2))]) (by kernel_rfl) (by kernel_rfl) (And.intro (.inr rfl) (And.intro (.inr rfl) trivial)) (Nat.zero_le _) (And.intro (And.intro trivial (And.intro trivial trivial)) (And.intro trivial trivial)) (And.intro (bel_of rfl) (And.intro (bel_of rfl) (And.intro trivial (And.intro trivial trivial)))) ?_
    exact hk
  · exact iter_ref01_Text_L2 fu m0 t5 t6 r2 r4 fu ((0 : Int), m1) hi hk

def F_ref01_Text_L1 (fu : Nat) (m0 : S_api_Cube) (t5 : Bool) (t6 : Int) (m1 : (Nat × (Nat → Int))) : Option (Lo (Bool × Int × (Nat × (Nat → Int))) E_ref01_Text_L1 (ByteArray × Bool)) :=
  ifs (decide (t6 < (12 : Int))) (
    chk (0 ≤ t6 ∧ t6 < ((12 : Nat) : Int)) <|
    chk (t6.toNat < 12) <|
    chk (0 ≤ t6 ∧ t6 < ((12 : Nat) : Int)) <|
    chk (t6.toNat < 12) <|
    ifs ((iandn .u64 (m0.f0 t6.toNat) (m0.f1 t6.toNat)) != (0 : Int)) (
      F_ref01_Text_J1 fu m0 false t6 m1) (
      F_ref01_Text_J1 fu m0 t5 t6 m1)) (
    some (.exit (t5, m1)))

theorem run_ref01_Text_L1 (fu : Nat) (m0 : S_api_Cube) (t5 : Bool) (t6 : Int) (m1 : (Nat × (Nat → Int))) {d : D} {o : (Lo (Bool × Int × (Nat × (Nat → Int))) E_ref01_Text_L1 (ByteArray × Bool))} (h : F_ref01_Text_L1 fu m0 t5 t6 m1 = some o) (hk : (Lo.post (N_ref01_Text_L1 fu m0 d) (X_ref01_Text_L1 fu m0 d)) o) : Runs Try.prog Try.f37 0 T_ref01_Text_L1 [(1, (D.ptr 0 [])), (4, (D.own 1)), (5, (D.bool t5)), (6, (D.int .i64 t6))] [some (.box (D.cons (D.ints .u64 12 m0.f0) (D.cons (D.ints .u64 12 m0.f1) D.nil))), some (.seq 5 m1.1 1 (D.ints .u8 m1.1 m1.2))] d [] := by
  unfold F_ref01_Text_L1 at h
  refine runs_regions 1 [([], [1, 4, 5, 6, 14])] (z := ([], [(1, (D.ptr 0 [])), (4, (D.own 1)), (5, (D.bool t5)), (6, (D.int .i64 t6)), (14, (D.bool (decide (t6 < (12 : Int)))))], [some (.box (D.cons (D.ints .u64 12 m0.f0) (D.cons (D.ints .u64 12 m0.f1) D.nil))), some (.seq 5 m1.1 1 (D.ints .u8 m1.1 m1.2))])) rfl (by kernel_rfl) trivial ?_
  refine runs_if (b := (decide (t6 < (12 : Int)))) (by kernel_rfl) (fun hb => ?_) (fun hb => ?_)
  · replace h := ifs_true h hb
    obtain ⟨p0, h⟩ := chk_some h
    obtain ⟨p1, h⟩ := chk_some h
    obtain ⟨p2, h⟩ := chk_some h
    obtain ⟨p3, h⟩ := chk_some h
    refine runs_regions 1 [([], [1, 4, 5, 6, 26])] (z := ([(0 ≤ t6 ∧ t6 < ((12 : Nat) : Int)), (t6.toNat < 12), (0 ≤ t6 ∧ t6 < ((12 : Nat) : Int)), (t6.toNat < 12)], [(1, (D.ptr 0 [])), (4, (D.own 1)), (5, (D.bool t5)), (6, (D.int .i64 t6)), (26, (D.bool ((iandn .u64 (m0.f0 t6.toNat) (m0.f1 t6.toNat)) != (0 : Int))))], [some (.box (D.cons (D.ints .u64 12 m0.f0) (D.cons (D.ints .u64 12 m0.f1) D.nil))), some (.seq 5 m1.1 1 (D.ints .u8 m1.1 m1.2))])) rfl (by kernel_rfl) (And.intro p0 (And.intro p1 (And.intro p2 (And.intro p3 trivial)))) ?_
    refine runs_if (b := ((iandn .u64 (m0.f0 t6.toNat) (m0.f1 t6.toNat)) != (0 : Int))) (by kernel_rfl) (fun hb => ?_) (fun hb => ?_)
    · replace h := ifs_true h hb
      refine runs_regions 1 [([], [1, 4, 5, 6])] (z := ([], [(1, (D.ptr 0 [])), (4, (D.own 1)), (5, (D.bool false)), (6, (D.int .i64 t6))], [some (.box (D.cons (D.ints .u64 12 m0.f0) (D.cons (D.ints .u64 12 m0.f1) D.nil))), some (.seq 5 m1.1 1 (D.ints .u8 m1.1 m1.2))])) rfl (by kernel_rfl) trivial ?_
      refine runs_to (ts := [1, 4, 5, 6]) (T' := T_ref01_Text_J1) (env' := [(1, (D.ptr 0 [])), (4, (D.own 1)), (5, (D.bool false)), (6, (D.int .i64 t6))]) (h2 := [some (.box (D.cons (D.ints .u64 12 m0.f0) (D.cons (D.ints .u64 12 m0.f1) D.nil))), some (.seq 5 m1.1 1 (D.ints .u8 m1.1 m1.2))]) (by kernel_rfl) (by kernel_rfl) (And.intro (.inr rfl) (And.intro (.inr rfl) trivial)) (Nat.zero_le _) (And.intro (And.intro trivial (And.intro trivial trivial)) (And.intro trivial trivial)) (And.intro (bel_of rfl) (And.intro (bel_of rfl) (And.intro trivial (And.intro trivial trivial)))) ?_
      exact run_ref01_Text_J1 fu m0 false t6 m1 h hk
    · replace h := ifs_false h hb
      refine runs_to (ts := [1, 4, 5, 6]) (T' := T_ref01_Text_J1) (env' := [(1, (D.ptr 0 [])), (4, (D.own 1)), (5, (D.bool t5)), (6, (D.int .i64 t6))]) (h2 := [some (.box (D.cons (D.ints .u64 12 m0.f0) (D.cons (D.ints .u64 12 m0.f1) D.nil))), some (.seq 5 m1.1 1 (D.ints .u8 m1.1 m1.2))]) (by kernel_rfl) (by kernel_rfl) (And.intro (.inr rfl) (And.intro (.inr rfl) trivial)) (Nat.zero_le _) (And.intro (And.intro trivial (And.intro trivial trivial)) (And.intro trivial trivial)) (And.intro (bel_of rfl) (And.intro (bel_of rfl) (And.intro trivial (And.intro trivial trivial)))) ?_
      exact run_ref01_Text_J1 fu m0 t5 t6 m1 h hk
  · replace h := ifs_false h hb
    rw [← Option.some.inj h] at hk
    refine runs_to (ts := [4, 5]) (T' := X_ref01_Text_L1T) (env' := [(4, (D.own 1)), (5, (D.bool t5))]) (h2 := [none, some (.seq 5 m1.1 1 (D.ints .u8 m1.1 m1.2))]) (by kernel_rfl) (by kernel_rfl) (And.intro (.inl rfl) (And.intro (.inr rfl) trivial)) (Nat.zero_le _) (And.intro trivial trivial) (And.intro (bel_of rfl) (And.intro trivial trivial)) ?_
    exact hk

theorem iter_ref01_Text_L1 (fu : Nat) (m0 : S_api_Cube) {d : D} (k : Nat) (s : (Bool × Int × (Nat × (Nat → Int)))) {o : E_ref01_Text_L1 ⊕ (ByteArray × Bool)} (h : iter (fun s => F_ref01_Text_L1 fu m0 s.1 s.2.1 s.2.2) k s = some o) (hx : X_ref01_Text_L1 fu m0 d o) : N_ref01_Text_L1 fu m0 d s :=
  iter_post (K := N_ref01_Text_L1 fu m0 d) (X := X_ref01_Text_L1 fu m0 d) (fun s _ h hk => run_ref01_Text_L1 fu m0 s.1 s.2.1 s.2.2 h hk) k s o h hx

/-- podesta/podestaref01.Text -/
def F_ref01_Text (fu : Nat) (t0 : S_api_Cube) : Option (ByteArray × Bool) :=
  (F_ref01_Head fu t0.f1).bind fun r0 =>
  after (iter (fun s => F_ref01_Text_L1 fu t0 s.1 s.2.1 s.2.2) fu (r0, (0 : Int), (0, (fun _ => 0)))) fun e15 =>
  some ((bytesOf e15.2.1 e15.2.2), e15.1)

theorem run_ref01_Text (fu : Nat) (t0 : S_api_Cube) {d : D} {r : (ByteArray × Bool)} (h : F_ref01_Text fu t0 = some r) (hk : K_ref01_Text d r) : Runs Try.prog Try.f37 0 T_ref01_Text [(0, (D.cons (D.ints .u64 12 t0.f0) (D.cons (D.ints .u64 12 t0.f1) D.nil)))] [] d [] := by
  unfold F_ref01_Text at h
  obtain ⟨r0, cr0, h⟩ := Option.bind_eq_some_iff.1 h
  refine runs_regions 4 [([], [1]), ([(.nil 5 1 (D.ints .u8 0 (fun _ => 0)))], [1, 4]), ([(.d (D.bool r0))], [1, 4, 5]), ([], [1, 4, 5, 6])] (z := ([EmptyOk (D.ints .u8 0 (fun _ => 0)), FC Try.prog 27 [(D.ints .u64 12 t0.f1)] [] (D.bool r0) [], All (List.map NoRow [(D.ints .u64 12 t0.f1)])], [(1, (D.ptr 0 [])), (4, (D.own 1)), (5, (D.bool r0)), (6, (D.int .i64 (0 : Int)))], [some (.box (D.cons (D.ints .u64 12 t0.f0) (D.cons (D.ints .u64 12 t0.f1) D.nil))), some (.seq 5 0 1 (D.ints .u8 0 (fun _ => 0)))])) rfl (by kernel_rfl) (And.intro emptyOk_ints (And.intro (fc_ref01_Head fu t0.f1 cr0) (And.intro (And.intro trivial trivial) trivial))) ?_
  refine runs_to (ts := [1, 4, 5, 6]) (T' := T_ref01_Text_L1) (env' := [(1, (D.ptr 0 [])), (4, (D.own 1)), (5, (D.bool r0)), (6, (D.int .i64 (0 : Int)))]) (h2 := [some (.box (D.cons (D.ints .u64 12 t0.f0) (D.cons (D.ints .u64 12 t0.f1) D.nil))), some (.seq 5 0 1 (D.ints .u8 0 (fun _ => 0)))]) (by kernel_rfl) (by kernel_rfl) (And.intro (.inr rfl) (And.intro (.inr rfl) trivial)) (Nat.zero_le _) (And.intro (And.intro trivial (And.intro trivial trivial)) (And.intro trivial trivial)) (And.intro (bel_of rfl) (And.intro (bel_of rfl) (And.intro trivial (And.intro trivial trivial)))) ?_
  rcases after_some h with ⟨e15, hi, h⟩ | hi
  · refine iter_ref01_Text_L1 fu t0 fu (r0, (0 : Int), (0, (fun _ => 0))) hi ?_
    show Runs Try.prog Try.f37 0 X_ref01_Text_L1T [(4, (D.own 1)), (5, (D.bool e15.1))] [none, some (.seq 5 e15.2.1 1 (D.ints .u8 e15.2.1 e15.2.2))] d []
    refine runs_regions 1 [([], [2, 3])] (z := ([], [(2, (D.str (bytesOf e15.2.1 e15.2.2))), (3, (D.bool e15.1))], [none, some (.seq 5 e15.2.1 1 (D.ints .u8 e15.2.1 e15.2.2))])) rfl (by kernel_rfl) trivial ?_
    rw [← Option.some.inj h] at hk
    obtain rfl : d = (D.tup (D.cons (D.str (bytesOf e15.2.1 e15.2.2)) (D.cons (D.bool e15.1) D.nil))) := hk
    exact runs_ret (by kernel_rfl) trivial (Nat.le_refl 0) trivial (And.intro trivial (And.intro trivial trivial))
  · exact iter_ref01_Text_L1 fu t0 fu (r0, (0 : Int), (0, (fun _ => 0))) hi hk

theorem fc_ref01_Text (fu : Nat) (t0 : S_api_Cube) {r : (ByteArray × Bool)} (h : F_ref01_Text fu t0 = some r) : FC Try.prog 37 [(D.cons (D.ints .u64 12 t0.f0) (D.cons (D.ints .u64 12 t0.f1) D.nil))] [] (D.tup (D.cons (D.str r.1) (D.cons (D.bool r.2) D.nil))) [] := by
  refine fc_of_runs (fn := Try.f37) (c := Try.f37.body.getD .skip) (by kernel_rfl) (by kernel_rfl) ?_
  refine runs_to (ts := [0]) (T' := T_ref01_Text) (env' := [(0, (D.cons (D.ints .u64 12 t0.f0) (D.cons (D.ints .u64 12 t0.f1) D.nil)))]) (h2 := []) (by kernel_rfl) (by kernel_rfl) trivial (Nat.le_refl 0) trivial (And.intro (And.intro trivial (And.intro trivial trivial)) trivial) ?_
  exact run_ref01_Text fu t0 h rfl

def K_ref01_Cube (d : D) (r : Bool) : Prop := d = (D.bool r)

noncomputable def T_ref01_Cube : List Item := norm 200 [.code (Try.f35.body.getD .skip)]

/-- podesta/podestaref01.Cube -/
def F_ref01_Cube (fu : Nat) (t0 : S_api_Cube) : Option Bool :=
  (F_ref01_Text fu t0).bind fun r0 =>
  some r0.2

theorem run_ref01_Cube (fu : Nat) (t0 : S_api_Cube) {d : D} {r : Bool} (h : F_ref01_Cube fu t0 = some r) (hk : K_ref01_Cube d r) : Runs Try.prog Try.f35 0 T_ref01_Cube [(0, (D.cons (D.ints .u64 12 t0.f0) (D.cons (D.ints .u64 12 t0.f1) D.nil)))] [] d [] := by
  unfold F_ref01_Cube at h
  obtain ⟨r0, cr0, h⟩ := Option.bind_eq_some_iff.1 h
  refine runs_regions 3 [([], [1]), ([(.d (D.tup (D.cons (D.str r0.1) (D.cons (D.bool r0.2) D.nil))))], [4]), ([], [2])] (z := ([FC Try.prog 37 [(D.cons (D.ints .u64 12 t0.f0) (D.cons (D.ints .u64 12 t0.f1) D.nil))] [] (D.tup (D.cons (D.str r0.1) (D.cons (D.bool r0.2) D.nil))) [], All (List.map NoRow [(D.cons (D.ints .u64 12 t0.f0) (D.cons (D.ints .u64 12 t0.f1) D.nil))])], [(2, (D.bool r0.2))], [some (.box (D.cons (D.ints .u64 12 t0.f0) (D.cons (D.ints .u64 12 t0.f1) D.nil)))])) rfl (by kernel_rfl) (And.intro (fc_ref01_Text fu t0 cr0) (And.intro (And.intro (And.intro trivial (And.intro trivial trivial)) trivial) trivial)) ?_
  rw [← Option.some.inj h] at hk
  obtain rfl : d = (D.bool r0.2) := hk
  exact runs_ret (by kernel_rfl) trivial (Nat.le_refl 0) trivial trivial

theorem fc_ref01_Cube (fu : Nat) (t0 : S_api_Cube) {r : Bool} (h : F_ref01_Cube fu t0 = some r) : FC Try.prog 35 [(D.cons (D.ints .u64 12 t0.f0) (D.cons (D.ints .u64 12 t0.f1) D.nil))] [] (D.bool r) [] := by
  refine fc_of_runs (fn := Try.f35) (c := Try.f35.body.getD .skip) (by kernel_rfl) (by kernel_rfl) ?_
  refine runs_to (ts := [0]) (T' := T_ref01_Cube) (env' := [(0, (D.cons (D.ints .u64 12 t0.f0) (D.cons (D.ints .u64 12 t0.f1) D.nil)))]) (h2 := []) (by kernel_rfl) (by kernel_rfl) trivial (Nat.le_refl 0) trivial (And.intro (And.intro trivial (And.intro trivial trivial)) trivial) ?_
  exact run_ref01_Cube fu t0 h rfl

def K_ref01_Whole (d : D) (r : ByteArray) : Prop := d = (D.str r)

noncomputable def T_ref01_Whole : List Item := norm 200 [.code (Try.f38.body.getD .skip)]

noncomputable def T_ref01_Whole_L2 : List Item := norm 200 (nxt (nxt (cndT (nxt (nxt (nxt (nxt T_ref01_Whole)))))))

noncomputable def X_ref01_Whole_L2T : List Item := norm 200 (cndF (nxt (nxt (nxt (cndT (nxt (nxt (nxt (nxt T_ref01_Whole)))))))))

noncomputable def T_ref01_Whole_L1 : List Item := norm 200 (nxt (nxt (nxt T_ref01_Whole)))

noncomputable def X_ref01_Whole_L1T : List Item := norm 200 (cndF (nxt (nxt (nxt (nxt T_ref01_Whole)))))

abbrev E_ref01_Whole_L1 := (Nat × (Nat → Int))

def N_ref01_Whole_L1 (_fu : Nat) (m0 : (Nat → Int)) (d : D) (s : (Int × (Nat × (Nat → Int)))) : Prop := Runs Try.prog Try.f38 0 T_ref01_Whole_L1 [(1, (D.ptr 0 [])), (3, (D.own 1)), (4, (D.int .i64 s.1))] [some (.box (D.ints .u64 12 m0)), some (.seq 5 s.2.1 1 (D.ints .u8 s.2.1 s.2.2))] d []

def X_ref01_Whole_L1 (_fu : Nat) (_m0 : (Nat → Int)) (d : D) : E_ref01_Whole_L1 ⊕ ByteArray → Prop
  | .inl e => Runs Try.prog Try.f38 0 X_ref01_Whole_L1T [(3, (D.own 1))] [none, some (.seq 5 e.1 1 (D.ints .u8 e.1 e.2))] d []
  | .inr o => (K_ref01_Whole d) o

abbrev E_ref01_Whole_L2 := (Nat × (Nat → Int))

def N_ref01_Whole_L2 (_fu : Nat) (m0 : (Nat → Int)) (t4 : Int) (t5 : (Nat × (Nat → Bool))) (d : D) (s : (Int × (Nat × (Nat → Int)))) : Prop := Runs Try.prog Try.f38 0 T_ref01_Whole_L2 [(1, (D.ptr 0 [])), (3, (D.own 1)), (4, (D.int .i64 t4)), (5, (D.lit t5.1 1 fun i => (D.bool (t5.2 i)))), (6, (D.int .i64 s.1))] [some (.box (D.ints .u64 12 m0)), some (.seq 5 s.2.1 1 (D.ints .u8 s.2.1 s.2.2))] d []

def X_ref01_Whole_L2 (fu : Nat) (m0 : (Nat → Int)) (t4 : Int) (_t5 : (Nat × (Nat → Bool))) (d : D) : E_ref01_Whole_L2 ⊕ (Lo (Int × (Nat × (Nat → Int))) E_ref01_Whole_L1 ByteArray) → Prop
  | .inl e => Runs Try.prog Try.f38 0 X_ref01_Whole_L2T [(1, (D.ptr 0 [])), (3, (D.own 1)), (4, (D.int .i64 t4))] [some (.box (D.ints .u64 12 m0)), some (.seq 5 e.1 1 (D.ints .u8 e.1 e.2))] d []
  | .inr o => (Lo.post (N_ref01_Whole_L1 fu m0 d) (X_ref01_Whole_L1 fu m0 d)) o

def F_ref01_Whole_L2 (_fu : Nat) (_m0 : (Nat → Int)) (_t4 : Int) (t5 : (Nat × (Nat → Bool))) (t6 : Int) (m1 : (Nat × (Nat → Int))) : Option (Lo (Int × (Nat × (Nat → Int))) E_ref01_Whole_L2 (Lo (Int × (Nat × (Nat → Int))) E_ref01_Whole_L1 ByteArray)) :=
  ifs (decide (t6 < ((t5.1 : Nat) : Int))) (
    chk (0 ≤ t6 ∧ t6 < ((t5.1 : Nat) : Int)) <|
    ifs (t5.2 t6.toNat) (
      chk (RoomOk (m1.1 + 1) 1) <|
      some (.next ((IntKind.wrap .i64 (t6 + (1 : Int))), ((m1.1 + 1), (fun i => if i < m1.1 then m1.2 i else (fun i => ([(49 : Int)] : List Int).getD i (0 : Int)) (i - m1.1)))))) (
      chk (RoomOk (m1.1 + 1) 1) <|
      some (.next ((IntKind.wrap .i64 (t6 + (1 : Int))), ((m1.1 + 1), (fun i => if i < m1.1 then m1.2 i else (fun i => ([(48 : Int)] : List Int).getD i (0 : Int)) (i - m1.1))))))) (
    some (.exit m1))

theorem run_ref01_Whole_L2 (fu : Nat) (m0 : (Nat → Int)) (t4 : Int) (t5 : (Nat × (Nat → Bool))) (t6 : Int) (m1 : (Nat × (Nat → Int))) {d : D} {o : (Lo (Int × (Nat × (Nat → Int))) E_ref01_Whole_L2 (Lo (Int × (Nat × (Nat → Int))) E_ref01_Whole_L1 ByteArray))} (h : F_ref01_Whole_L2 fu m0 t4 t5 t6 m1 = some o) (hk : (Lo.post (N_ref01_Whole_L2 fu m0 t4 t5 d) (X_ref01_Whole_L2 fu m0 t4 t5 d)) o) : Runs Try.prog Try.f38 0 T_ref01_Whole_L2 [(1, (D.ptr 0 [])), (3, (D.own 1)), (4, (D.int .i64 t4)), (5, (D.lit t5.1 1 fun i => (D.bool (t5.2 i)))), (6, (D.int .i64 t6))] [some (.box (D.ints .u64 12 m0)), some (.seq 5 m1.1 1 (D.ints .u8 m1.1 m1.2))] d [] := by
  unfold F_ref01_Whole_L2 at h
  refine runs_regions 1 [([], [1, 3, 4, 5, 6, 20])] (z := ([], [(1, (D.ptr 0 [])), (3, (D.own 1)), (4, (D.int .i64 t4)), (5, (D.lit t5.1 1 fun i => (D.bool (t5.2 i)))), (6, (D.int .i64 t6)), (20, (D.bool (decide (t6 < ((t5.1 : Nat) : Int)))))], [some (.box (D.ints .u64 12 m0)), some (.seq 5 m1.1 1 (D.ints .u8 m1.1 m1.2))])) rfl (by kernel_rfl) trivial ?_
  refine runs_if (b := (decide (t6 < ((t5.1 : Nat) : Int)))) (by kernel_rfl) (fun hb => ?_) (fun hb => ?_)
  · replace h := ifs_true h hb
    obtain ⟨p2, h⟩ := chk_some h
    refine runs_regions 1 [([], [1, 3, 4, 5, 6, 26])] (z := ([(0 ≤ t6 ∧ t6 < ((t5.1 : Nat) : Int))], [(1, (D.ptr 0 [])), (3, (D.own 1)), (4, (D.int .i64 t4)), (5, (D.lit t5.1 1 fun i => (D.bool (t5.2 i)))), (6, (D.int .i64 t6)), (26, (D.bool (t5.2 t6.toNat)))], [some (.box (D.ints .u64 12 m0)), some (.seq 5 m1.1 1 (D.ints .u8 m1.1 m1.2))])) rfl (by kernel_rfl) (And.intro p2 trivial) ?_
    refine runs_if (b := (t5.2 t6.toNat)) (by kernel_rfl) (fun hb => ?_) (fun hb => ?_)
    · replace h := ifs_true h hb
      obtain ⟨p3, h⟩ := chk_some h
      refine runs_regions 2 [([(.lit fun i => (D.int .u8 ((fun i => ([(49 : Int)] : List Int).getD i (0 : Int)) i))), (.d (D.ints .u8 (m1.1 + 1) (fun i => if i < m1.1 then m1.2 i else (fun i => ([(49 : Int)] : List Int).getD i (0 : Int)) (i - m1.1))))], [1, 3, 4, 5, 6]), ([], [1, 3, 4, 5, 6])] (z := ([TabOk [(D.int .u8 (49 : Int))] 1 (D.arr 1 1 fun i => (D.int .u8 ((fun i => ([(49 : Int)] : List Int).getD i (0 : Int)) i))), (RoomOk (m1.1 + 1) 1), CatOk (D.ints .u8 m1.1 m1.2) (D.arr 1 1 fun i => (D.int .u8 ((fun i => ([(49 : Int)] : List Int).getD i (0 : Int)) i))) (D.ints .u8 (m1.1 + 1) (fun i => if i < m1.1 then m1.2 i else (fun i => ([(49 : Int)] : List Int).getD i (0 : Int)) (i - m1.1)))], [(1, (D.ptr 0 [])), (3, (D.own 2)), (4, (D.int .i64 t4)), (5, (D.lit t5.1 1 fun i => (D.bool (t5.2 i)))), (6, (D.int .i64 (IntKind.wrap .i64 (t6 + (1 : Int)))))], [some (.box (D.ints .u64 12 m0)), none, some (.seq 5 (m1.1 + 1) 1 (D.ints .u8 (m1.1 + 1) (fun i => if i < m1.1 then m1.2 i else (fun i => ([(49 : Int)] : List Int).getD i (0 : Int)) (i - m1.1))))])) rfl (by kernel_rfl) (And.intro (tabOk_arr rfl (And.intro rfl trivial)) (And.intro p3 (And.intro (catOk_ints (f := (fun i => ([(49 : Int)] : List Int).getD i (0 : Int))) rfl) trivial))) ?_
      rw [← Option.some.inj h] at hk
      refine runs_to (ts := [1, 3, 4, 5, 6]) (T' := T_ref01_Whole_L2) (env' := [(1, (D.ptr 0 [])), (3, (D.own 2)), (4, (D.int .i64 t4)), (5, (D.lit t5.1 1 fun i => (D.bool (t5.2 i)))), (6, (D.int .i64 (IntKind.wrap .i64 (t6 + (1 : Int)))))]) (h2 := [some (.box (D.ints .u64 12 m0)), none, some (.seq 5 (m1.1 + 1) 1 (D.ints .u8 (m1.1 + 1) (fun i => if i < m1.1 then m1.2 i else (fun i => ([(49 : Int)] : List Int).getD i (0 : Int)) (i - m1.1))))]) (by kernel_rfl) (by kernel_rfl) (And.intro (.inr rfl) (And.intro (.inl rfl) (And.intro (.inr rfl) trivial))) (Nat.zero_le _) (And.intro trivial (And.intro trivial trivial)) (And.intro (bel_of rfl) (And.intro (bel_of rfl) (And.intro trivial (And.intro (fun _ _ => trivial) (And.intro trivial trivial))))) ?_
      refine runs_rename 1 2 (row := (.seq 5 (m1.1 + 1) 1 (D.ints .u8 (m1.1 + 1) (fun i => if i < m1.1 then m1.2 i else (fun i => ([(49 : Int)] : List Int).getD i (0 : Int)) (i - m1.1))))) (by decide) (Nat.zero_le _) rfl rfl (And.intro trivial (And.intro trivial trivial)) (And.intro (rn_ptr rfl) (And.intro (rn_own rfl) (And.intro trivial (And.intro (fun _ _ => trivial) (And.intro trivial trivial))))) ?_
      refine runs_to (ts := [1, 3, 4, 5, 6]) (T' := T_ref01_Whole_L2) (env' := [(1, (D.ptr 0 [])), (3, (D.own 1)), (4, (D.int .i64 t4)), (5, (D.lit t5.1 1 fun i => (D.bool (t5.2 i)))), (6, (D.int .i64 (IntKind.wrap .i64 (t6 + (1 : Int)))))]) (h2 := [some (.box (D.ints .u64 12 m0)), some (.seq 5 (m1.1 + 1) 1 (D.ints .u8 (m1.1 + 1) (fun i => if i < m1.1 then m1.2 i else (fun i => ([(49 : Int)] : List Int).getD i (0 : Int)) (i - m1.1))))]) (by kernel_rfl) (by kernel_rfl) (And.intro (.inr rfl) (And.intro (.inr rfl) trivial)) (Nat.zero_le _) (And.intro trivial (And.intro trivial trivial)) (And.intro (bel_of rfl) (And.intro (bel_of rfl) (And.intro trivial (And.intro (fun _ _ => trivial) (And.intro trivial trivial))))) ?_
      exact hk
    · replace h := ifs_false h hb
      obtain ⟨p4, h⟩ := chk_some h
      refine runs_regions 2 [([(.lit fun i => (D.int .u8 ((fun i => ([(48 : Int)] : List Int).getD i (0 : Int)) i))), (.d (D.ints .u8 (m1.1 + 1) (fun i => if i < m1.1 then m1.2 i else (fun i => ([(48 : Int)] : List Int).getD i (0 : Int)) (i - m1.1))))], [1, 3, 4, 5, 6]), ([], [1, 3, 4, 5, 6])] (z := ([TabOk [(D.int .u8 (48 : Int))] 1 (D.arr 1 1 fun i => (D.int .u8 ((fun i => ([(48 : Int)] : List Int).getD i (0 : Int)) i))), (RoomOk (m1.1 + 1) 1), CatOk (D.ints .u8 m1.1 m1.2) (D.arr 1 1 fun i => (D.int .u8 ((fun i => ([(48 : Int)] : List Int).getD i (0 : Int)) i))) (D.ints .u8 (m1.1 + 1) (fun i => if i < m1.1 then m1.2 i else (fun i => ([(48 : Int)] : List Int).getD i (0 : Int)) (i - m1.1)))], [(1, (D.ptr 0 [])), (3, (D.own 2)), (4, (D.int .i64 t4)), (5, (D.lit t5.1 1 fun i => (D.bool (t5.2 i)))), (6, (D.int .i64 (IntKind.wrap .i64 (t6 + (1 : Int)))))], [some (.box (D.ints .u64 12 m0)), none, some (.seq 5 (m1.1 + 1) 1 (D.ints .u8 (m1.1 + 1) (fun i => if i < m1.1 then m1.2 i else (fun i => ([(48 : Int)] : List Int).getD i (0 : Int)) (i - m1.1))))])) rfl (by kernel_rfl) (And.intro (tabOk_arr rfl (And.intro rfl trivial)) (And.intro p4 (And.intro (catOk_ints (f := (fun i => ([(48 : Int)] : List Int).getD i (0 : Int))) rfl) trivial))) ?_
      rw [← Option.some.inj h] at hk
      refine runs_to (ts := [1, 3, 4, 5, 6]) (T' := T_ref01_Whole_L2) (env' := [(1, (D.ptr 0 [])), (3, (D.own 2)), (4, (D.int .i64 t4)), (5, (D.lit t5.1 1 fun i => (D.bool (t5.2 i)))), (6, (D.int .i64 (IntKind.wrap .i64 (t6 + (1 : Int)))))]) (h2 := [some (.box (D.ints .u64 12 m0)), none, some (.seq 5 (m1.1 + 1) 1 (D.ints .u8 (m1.1 + 1) (fun i => if i < m1.1 then m1.2 i else (fun i => ([(48 : Int)] : List Int).getD i (0 : Int)) (i - m1.1))))]) (by kernel_rfl) (by kernel_rfl) (And.intro (.inr rfl) (And.intro (.inl rfl) (And.intro (.inr rfl) trivial))) (Nat.zero_le _) (And.intro trivial (And.intro trivial trivial)) (And.intro (bel_of rfl) (And.intro (bel_of rfl) (And.intro trivial (And.intro (fun _ _ => trivial) (And.intro trivial trivial))))) ?_
      refine runs_rename 1 2 (row := (.seq 5 (m1.1 + 1) 1 (D.ints .u8 (m1.1 + 1) (fun i => if i < m1.1 then m1.2 i else (fun i => ([(48 : Int)] : List Int).getD i (0 : Int)) (i - m1.1))))) (by decide) (Nat.zero_le _) rfl rfl (And.intro trivial (And.intro trivial trivial)) (And.intro (rn_ptr rfl) (And.intro (rn_own rfl) (And.intro trivial (And.intro (fun _ _ => trivial) (And.intro trivial trivial))))) ?_
      refine runs_to (ts := [1, 3, 4, 5, 6]) (T' := T_ref01_Whole_L2) (env' := [(1, (D.ptr 0 [])), (3, (D.own 1)), (4, (D.int .i64 t4)), (5, (D.lit t5.1 1 fun i => (D.bool (t5.2 i)))), (6, (D.int .i64 (IntKind.wrap .i64 (t6 + (1 : Int)))))]) (h2 := [some (.box (D.ints .u64 12 m0)), some (.seq 5 (m1.1 + 1) 1 (D.ints .u8 (m1.1 + 1) (fun i => if i < m1.1 then m1.2 i else (fun i => ([(48 : Int)] : List Int).getD i (0 : Int)) (i - m1.1))))]) (by kernel_rfl) (by kernel_rfl) (And.intro (.inr rfl) (And.intro (.inr rfl) trivial)) (Nat.zero_le _) (And.intro trivial (And.intro trivial trivial)) (And.intro (bel_of rfl) (And.intro (bel_of rfl) (And.intro trivial (And.intro (fun _ _ => trivial) (And.intro trivial trivial))))) ?_
      exact hk
  · replace h := ifs_false h hb
    rw [← Option.some.inj h] at hk
    refine runs_to (ts := [1, 3, 4]) (T' := X_ref01_Whole_L2T) (env' := [(1, (D.ptr 0 [])), (3, (D.own 1)), (4, (D.int .i64 t4))]) (h2 := [some (.box (D.ints .u64 12 m0)), some (.seq 5 m1.1 1 (D.ints .u8 m1.1 m1.2))]) (by kernel_rfl) (by kernel_rfl) (And.intro (.inr rfl) (And.intro (.inr rfl) trivial)) (Nat.zero_le _) (And.intro trivial (And.intro trivial trivial)) (And.intro (bel_of rfl) (And.intro (bel_of rfl) (And.intro trivial trivial))) ?_
    exact hk

theorem iter_ref01_Whole_L2 (fu : Nat) (m0 : (Nat → Int)) (t4 : Int) (t5 : (Nat × (Nat → Bool))) {d : D} (k : Nat) (s : (Int × (Nat × (Nat → Int)))) {o : E_ref01_Whole_L2 ⊕ (Lo (Int × (Nat × (Nat → Int))) E_ref01_Whole_L1 ByteArray)} (h : iter (fun s => F_ref01_Whole_L2 fu m0 t4 t5 s.1 s.2) k s = some o) (hx : X_ref01_Whole_L2 fu m0 t4 t5 d o) : N_ref01_Whole_L2 fu m0 t4 t5 d s :=
  iter_post (K := N_ref01_Whole_L2 fu m0 t4 t5 d) (X := X_ref01_Whole_L2 fu m0 t4 t5 d) (fun s _ h hk => run_ref01_Whole_L2 fu m0 t4 t5 s.1 s.2 h hk) k s o h hx

def F_ref01_Whole_L1 (fu : Nat) (m0 : (Nat → Int)) (t4 : Int) (m1 : (Nat × (Nat → Int))) : Option (Lo (Int × (Nat × (Nat → Int))) E_ref01_Whole_L1 ByteArray) :=
  ifs (decide (t4 < (12 : Int))) (
    chk (0 ≤ t4 ∧ t4 < ((12 : Nat) : Int)) <|
    chk (t4.toNat < 12) <|
    (F_ref01_Size t4).bind fun r0 =>
    (F_ref01_Bits fu (m0 t4.toNat) r0).bind fun r1 =>
    after (iter (fun s => F_ref01_Whole_L2 fu m0 t4 r1 s.1 s.2) fu ((0 : Int), m1)) fun e6 =>
    some (.next ((IntKind.wrap .i64 (t4 + (1 : Int))), e6))) (
    some (.exit m1))

theorem run_ref01_Whole_L1 (fu : Nat) (m0 : (Nat → Int)) (t4 : Int) (m1 : (Nat × (Nat → Int))) {d : D} {o : (Lo (Int × (Nat × (Nat → Int))) E_ref01_Whole_L1 ByteArray)} (h : F_ref01_Whole_L1 fu m0 t4 m1 = some o) (hk : (Lo.post (N_ref01_Whole_L1 fu m0 d) (X_ref01_Whole_L1 fu m0 d)) o) : Runs Try.prog Try.f38 0 T_ref01_Whole_L1 [(1, (D.ptr 0 [])), (3, (D.own 1)), (4, (D.int .i64 t4))] [some (.box (D.ints .u64 12 m0)), some (.seq 5 m1.1 1 (D.ints .u8 m1.1 m1.2))] d [] := by
  unfold F_ref01_Whole_L1 at h
  refine runs_regions 1 [([], [1, 3, 4, 8])] (z := ([], [(1, (D.ptr 0 [])), (3, (D.own 1)), (4, (D.int .i64 t4)), (8, (D.bool (decide (t4 < (12 : Int)))))], [some (.box (D.ints .u64 12 m0)), some (.seq 5 m1.1 1 (D.ints .u8 m1.1 m1.2))])) rfl (by kernel_rfl) trivial ?_
  refine runs_if (b := (decide (t4 < (12 : Int)))) (by kernel_rfl) (fun hb => ?_) (fun hb => ?_)
  · replace h := ifs_true h hb
    obtain ⟨p0, h⟩ := chk_some h
    obtain ⟨p1, h⟩ := chk_some h
    obtain ⟨r0, cr0, h⟩ := Option.bind_eq_some_iff.1 h
    obtain ⟨r1, cr1, h⟩ := Option.bind_eq_some_iff.1 h
    refine runs_regions 2 [([(.d (D.int .i64 r0)), (.d (D.lit r1.1 1 fun i => (D.bool (r1.2 i))))], [1, 3, 4, 5]), ([], [1, 3, 4, 5, 6])] (z := ([(0 ≤ t4 ∧ t4 < ((12 : Nat) : Int)), (t4.toNat < 12), FC Try.prog 19 [(D.int .i64 t4)] [] (D.int .i64 r0) [], All (List.map NoRow [(D.int .i64 t4)]), FC Try.prog 58 [(D.int .u64 (m0 t4.toNat)), (D.int .i64 r0)] [] (D.lit r1.1 1 fun i => (D.bool (r1.2 i))) [], All (List.map NoRow [(D.int .u64 (m0 t4.toNat)), (D.int .i64 r0)])], [(1, (D.ptr 0 [])), (3, (D.own 1)), (4, (D.int .i64 t4)), (5, (D.lit r1.1 1 fun i => (D.bool (r1.2 i)))), (6, (D.int .i64 (0 : Int)))], [some (.box (D.ints .u64 12 m0)), some (.seq 5 m1.1 1 (D.ints .u8 m1.1 m1.2))])) rfl (by kernel_rfl) (And.intro p0 (And.intro p1 (And.intro (fc_ref01_Size t4 cr0) (And.intro (And.intro trivial trivial) (And.intro (fc_ref01_Bits fu (m0 t4.toNat) r0 cr1) (And.intro (And.intro trivial (And.intro trivial trivial)) trivial)))))) ?_
    refine runs_to (ts := [1, 3, 4, 5, 6]) (T' := T_ref01_Whole_L2) (env' := [(1, (D.ptr 0 [])), (3, (D.own 1)), (4, (D.int .i64 t4)), (5, (D.lit r1.1 1 fun i => (D.bool (r1.2 i)))), (6, (D.int .i64 (0 : Int)))]) (h2 := [some (.box (D.ints .u64 12 m0)), some (.seq 5 m1.1 1 (D.ints .u8 m1.1 m1.2))]) (by kernel_rfl) (by kernel_rfl) (And.intro (.inr rfl) (And.intro (.inr rfl) trivial)) (Nat.zero_le _) (And.intro trivial (And.intro trivial trivial)) (And.intro (bel_of rfl) (And.intro (bel_of rfl) (And.intro trivial (And.intro (fun _ _ => trivial) (And.intro trivial trivial))))) ?_
    rcases after_some h with ⟨e6, hi, h⟩ | hi
    · refine iter_ref01_Whole_L2 fu m0 t4 r1 fu ((0 : Int), m1) hi ?_
      show Runs Try.prog Try.f38 0 X_ref01_Whole_L2T [(1, (D.ptr 0 [])), (3, (D.own 1)), (4, (D.int .i64 t4))] [some (.box (D.ints .u64 12 m0)), some (.seq 5 e6.1 1 (D.ints .u8 e6.1 e6.2))] d []
      refine runs_regions 1 [([], [1, 3, 4])] (z := ([], [(1, (D.ptr 0 [])), (3, (D.own 1)), (4, (D.int .i64 (IntKind.wrap .i64 (t4 + (1 : Int)))))], [some (.box (D.ints .u64 12 m0)), some (.seq 5 e6.1 1 (D.ints .u8 e6.1 e6.2))])) rfl (by kernel_rfl) trivial ?_
      rw [← Option.some.inj h] at hk
      refine runs_to (ts := [1, 3, 4]) (T' := T_ref01_Whole_L1) (env' := [(1, (D.ptr 0 [])), (3, (D.own 1)), (4, (D.int .i64 (IntKind.wrap .i64 (t4 + (1 : Int)))))]) (h2 := [some (.box (D.ints .u64 12 m0)), some (.seq 5 e6.1 1 (D.ints .u8 e6.1 e6.2))]) (by kernel_rfl) (by kernel_rfl) (And.intro (.inr rfl) (And.intro (.inr rfl) trivial)) (Nat.zero_le _) (And.intro trivial (And.intro trivial trivial)) (And.intro (bel_of rfl) (And.intro (bel_of rfl) (And.intro trivial trivial))) ?_
      exact hk
    · exact iter_ref01_Whole_L2 fu m0 t4 r1 fu ((0 : Int), m1) hi hk
  · replace h := ifs_false h hb
    rw [← Option.some.inj h] at hk
    refine runs_to (ts := [3]) (T' := X_ref01_Whole_L1T) (env' := [(3, (D.own 1))]) (h2 := [none, some (.seq 5 m1.1 1 (D.ints .u8 m1.1 m1.2))]) (by kernel_rfl) (by kernel_rfl) (And.intro (.inl rfl) (And.intro (.inr rfl) trivial)) (Nat.zero_le _) (And.intro trivial trivial) (And.intro (bel_of rfl) trivial) ?_
    exact hk

theorem iter_ref01_Whole_L1 (fu : Nat) (m0 : (Nat → Int)) {d : D} (k : Nat) (s : (Int × (Nat × (Nat → Int)))) {o : E_ref01_Whole_L1 ⊕ ByteArray} (h : iter (fun s => F_ref01_Whole_L1 fu m0 s.1 s.2) k s = some o) (hx : X_ref01_Whole_L1 fu m0 d o) : N_ref01_Whole_L1 fu m0 d s :=
  iter_post (K := N_ref01_Whole_L1 fu m0 d) (X := X_ref01_Whole_L1 fu m0 d) (fun s _ h hk => run_ref01_Whole_L1 fu m0 s.1 s.2 h hk) k s o h hx

/-- podesta/podestaref01.Whole -/
def F_ref01_Whole (fu : Nat) (t0 : (Nat → Int)) : Option ByteArray :=
  after (iter (fun s => F_ref01_Whole_L1 fu t0 s.1 s.2) fu ((0 : Int), (0, (fun _ => 0)))) fun e7 =>
  some (bytesOf e7.1 e7.2)

theorem run_ref01_Whole (fu : Nat) (t0 : (Nat → Int)) {d : D} {r : ByteArray} (h : F_ref01_Whole fu t0 = some r) (hk : K_ref01_Whole d r) : Runs Try.prog Try.f38 0 T_ref01_Whole [(0, (D.ints .u64 12 t0))] [] d [] := by
  unfold F_ref01_Whole at h
  refine runs_regions 3 [([], [1]), ([(.nil 5 1 (D.ints .u8 0 (fun _ => 0)))], [1, 3]), ([], [1, 3, 4])] (z := ([EmptyOk (D.ints .u8 0 (fun _ => 0))], [(1, (D.ptr 0 [])), (3, (D.own 1)), (4, (D.int .i64 (0 : Int)))], [some (.box (D.ints .u64 12 t0)), some (.seq 5 0 1 (D.ints .u8 0 (fun _ => 0)))])) rfl (by kernel_rfl) (And.intro emptyOk_ints trivial) ?_
  refine runs_to (ts := [1, 3, 4]) (T' := T_ref01_Whole_L1) (env' := [(1, (D.ptr 0 [])), (3, (D.own 1)), (4, (D.int .i64 (0 : Int)))]) (h2 := [some (.box (D.ints .u64 12 t0)), some (.seq 5 0 1 (D.ints .u8 0 (fun _ => 0)))]) (by kernel_rfl) (by kernel_rfl) (And.intro (.inr rfl) (And.intro (.inr rfl) trivial)) (Nat.zero_le _) (And.intro trivial (And.intro trivial trivial)) (And.intro (bel_of rfl) (And.intro (bel_of rfl) (And.intro trivial trivial))) ?_
  rcases after_some h with ⟨e7, hi, h⟩ | hi
  · refine iter_ref01_Whole_L1 fu t0 fu ((0 : Int), (0, (fun _ => 0))) hi ?_
    show Runs Try.prog Try.f38 0 X_ref01_Whole_L1T [(3, (D.own 1))] [none, some (.seq 5 e7.1 1 (D.ints .u8 e7.1 e7.2))] d []
    refine runs_regions 1 [([], [2])] (z := ([], [(2, (D.str (bytesOf e7.1 e7.2)))], [none, some (.seq 5 e7.1 1 (D.ints .u8 e7.1 e7.2))])) rfl (by kernel_rfl) trivial ?_
    rw [← Option.some.inj h] at hk
    obtain rfl : d = (D.str (bytesOf e7.1 e7.2)) := hk
    exact runs_ret (by kernel_rfl) trivial (Nat.le_refl 0) trivial trivial
  · exact iter_ref01_Whole_L1 fu t0 fu ((0 : Int), (0, (fun _ => 0))) hi hk

theorem fc_ref01_Whole (fu : Nat) (t0 : (Nat → Int)) {r : ByteArray} (h : F_ref01_Whole fu t0 = some r) : FC Try.prog 38 [(D.ints .u64 12 t0)] [] (D.str r) [] := by
  refine fc_of_runs (fn := Try.f38) (c := Try.f38.body.getD .skip) (by kernel_rfl) (by kernel_rfl) ?_
  refine runs_to (ts := [0]) (T' := T_ref01_Whole) (env' := [(0, (D.ints .u64 12 t0))]) (h2 := []) (by kernel_rfl) (by kernel_rfl) trivial (Nat.le_refl 0) trivial (And.intro trivial trivial) ?_
  exact run_ref01_Whole fu t0 h rfl

def K_ref01_Set (d : D) (r : ((Nat → Int) × Int)) : Prop := d = (D.tup (D.cons (D.ints .u64 12 r.1) (D.cons (D.int .i64 r.2) D.nil)))

noncomputable def T_ref01_Set : List Item := norm 200 [.code (Try.f25.body.getD .skip)]

/-- podesta/podestaref01.Set -/
def F_ref01_Set (t0 : (Nat → Int)) (t1 : Int) (t2 : Int) : Option ((Nat → Int) × Int) :=
  ifs (bif (decide (t1 < (0 : Int))) then true else (decide (t1 > (11 : Int)))) (
    some ((fun _ => 0), (1 : Int))) (
    (F_ref01_Size t1).bind fun r0 =>
    (F_ref01_Fits t2 r0).bind fun r1 =>
    ifs (!r1) (
      some ((fun _ => 0), (13 : Int))) (
      chk (0 ≤ t1 ∧ t1 < ((12 : Nat) : Int)) <|
      chk (t1.toNat < 12) <|
      some ((fun j => if j = t1.toNat then t2 else t0 j), (0 : Int))))

theorem run_ref01_Set (t0 : (Nat → Int)) (t1 : Int) (t2 : Int) {d : D} {r : ((Nat → Int) × Int)} (h : F_ref01_Set t0 t1 t2 = some r) (hk : K_ref01_Set d r) : Runs Try.prog Try.f25 0 T_ref01_Set [(0, (D.ints .u64 12 t0)), (1, (D.int .i64 t1)), (2, (D.int .u64 t2))] [] d [] := by
  unfold F_ref01_Set at h
  refine runs_regions 2 [([], [1, 2, 3, 6]), ([], [1, 2, 3, 6, 13])] (z := ([((!(decide (t1 < (0 : Int)))) = true → All [((!(decide (t1 < (0 : Int)))) = true → (!(decide (t1 < (0 : Int)))) = true)]), ((true && !(decide (t1 < (0 : Int)))) = true → (!(decide (t1 < (0 : Int)))) = true)], [(1, (D.int .i64 t1)), (2, (D.int .u64 t2)), (3, (D.ptr 0 [])), (6, (D.ptr 1 [])), (13, (D.bool (bif (decide (t1 < (0 : Int))) then true else (decide (t1 > (11 : Int))))))], [some (.box (D.ints .u64 12 t0)), some (.box (D.ints .u64 12 (fun _ => 0)))])) rfl (by kernel_rfl) (And.intro (fun _ => (And.intro (by first | exact fun h => h | exact fun h => (Bool.and_eq_true_iff.1 h).1 | simp_all) trivial)) (And.intro (by first | exact fun h => h | exact fun h => (Bool.and_eq_true_iff.1 h).1 | simp_all) trivial)) ?_
  refine runs_if (b := (bif (decide (t1 < (0 : Int))) then true else (decide (t1 > (11 : Int))))) (by kernel_rfl) (fun hb => ?_) (fun hb => ?_)
  · replace h := ifs_true h hb
    refine runs_regions 1 [([], [6, 7])] (z := ([], [(6, (D.ptr 1 [])), (7, (D.int .i64 (1 : Int)))], [some (.box (D.ints .u64 12 t0)), some (.box (D.ints .u64 12 (fun _ => 0)))])) rfl (by kernel_rfl) trivial ?_
    rw [← Option.some.inj h] at hk
    obtain rfl : d = (D.tup (D.cons (D.ints .u64 12 (fun _ => 0)) (D.cons (D.int .i64 (1 : Int)) D.nil))) := hk
    exact runs_ret (by kernel_rfl) trivial (Nat.le_refl 0) trivial (And.intro trivial (And.intro trivial trivial))
  · replace h := ifs_false h hb
    obtain ⟨r0, cr0, h⟩ := Option.bind_eq_some_iff.1 h
    obtain ⟨r1, cr1, h⟩ := Option.bind_eq_some_iff.1 h
    refine runs_regions 1 [([(.d (D.int .i64 r0)), (.d (D.bool r1))], [1, 2, 3, 6, 19])] (z := ([FC Try.prog 19 [(D.int .i64 t1)] [] (D.int .i64 r0) [], All (List.map NoRow [(D.int .i64 t1)]), FC Try.prog 55 [(D.int .u64 t2), (D.int .i64 r0)] [] (D.bool r1) [], All (List.map NoRow [(D.int .u64 t2), (D.int .i64 r0)])], [(1, (D.int .i64 t1)), (2, (D.int .u64 t2)), (3, (D.ptr 0 [])), (6, (D.ptr 1 [])), (19, (D.bool (!r1)))], [some (.box (D.ints .u64 12 t0)), some (.box (D.ints .u64 12 (fun _ => 0)))])) rfl (by kernel_rfl) (And.intro (fc_ref01_Size t1 cr0) (And.intro (And.intro trivial trivial) (And.intro (fc_ref01_Fits t2 r0 cr1) (And.intro (And.intro trivial (And.intro trivial trivial)) trivial)))) ?_
    refine runs_if (b := (!r1)) (by kernel_rfl) (fun hb => ?_) (fun hb => ?_)
    · replace h := ifs_true h hb
      refine runs_regions 1 [([], [6, 7])] (z := ([], [(6, (D.ptr 1 [])), (7, (D.int .i64 (13 : Int)))], [some (.box (D.ints .u64 12 t0)), some (.box (D.ints .u64 12 (fun _ => 0)))])) rfl (by kernel_rfl) trivial ?_
      rw [← Option.some.inj h] at hk
      obtain rfl : d = (D.tup (D.cons (D.ints .u64 12 (fun _ => 0)) (D.cons (D.int .i64 (13 : Int)) D.nil))) := hk
      exact runs_ret (by kernel_rfl) trivial (Nat.le_refl 0) trivial (And.intro trivial (And.intro trivial trivial))
    · replace h := ifs_false h hb
      obtain ⟨p0, h⟩ := chk_some h
      obtain ⟨p1, h⟩ := chk_some h
      refine runs_regions 2 [([], [3, 6]), ([], [6, 7])] (z := ([(0 ≤ t1 ∧ t1 < ((12 : Nat) : Int)), (t1.toNat < 12)], [(6, (D.ptr 1 [])), (7, (D.int .i64 (0 : Int)))], [some (.box (D.ints .u64 12 (fun j => if j = t1.toNat then t2 else t0 j))), some (.box (D.ints .u64 12 (fun j => if j = t1.toNat then t2 else t0 j)))])) rfl (by kernel_rfl) (And.intro p0 (And.intro p1 trivial)) ?_
      rw [← Option.some.inj h] at hk
      obtain rfl : d = (D.tup (D.cons (D.ints .u64 12 (fun j => if j = t1.toNat then t2 else t0 j)) (D.cons (D.int .i64 (0 : Int)) D.nil))) := hk
      exact runs_ret (by kernel_rfl) trivial (Nat.le_refl 0) trivial (And.intro trivial (And.intro trivial trivial))

theorem fc_ref01_Set (t0 : (Nat → Int)) (t1 : Int) (t2 : Int) {r : ((Nat → Int) × Int)} (h : F_ref01_Set t0 t1 t2 = some r) : FC Try.prog 25 [(D.ints .u64 12 t0), (D.int .i64 t1), (D.int .u64 t2)] [] (D.tup (D.cons (D.ints .u64 12 r.1) (D.cons (D.int .i64 r.2) D.nil))) [] := by
  refine fc_of_runs (fn := Try.f25) (c := Try.f25.body.getD .skip) (by kernel_rfl) (by kernel_rfl) ?_
  refine runs_to (ts := [0, 1, 2]) (T' := T_ref01_Set) (env' := [(0, (D.ints .u64 12 t0)), (1, (D.int .i64 t1)), (2, (D.int .u64 t2))]) (h2 := []) (by kernel_rfl) (by kernel_rfl) trivial (Nat.le_refl 0) trivial (And.intro trivial (And.intro trivial (And.intro trivial trivial))) ?_
  exact run_ref01_Set t0 t1 t2 h rfl

def K_ref01_Mask (d : D) (r : (Int × Bool)) : Prop := d = (D.tup (D.cons (D.int .u64 r.1) (D.cons (D.bool r.2) D.nil)))

noncomputable def T_ref01_Mask : List Item := norm 200 [.code (Try.f16.body.getD .skip)]

noncomputable def T_ref01_Mask_L1 : List Item := norm 200 (nxt (nxt (cndF (nxt (nxt T_ref01_Mask)))))

noncomputable def X_ref01_Mask_L1T : List Item := norm 200 (cndF (nxt (nxt (nxt (cndF (nxt (nxt T_ref01_Mask)))))))

abbrev E_ref01_Mask_L1 := Int

def N_ref01_Mask_L1 (_fu : Nat) (t0 : Int) (t1 : Int) (d : D) (s : (Int × Int)) : Prop := Runs Try.prog Try.f16 0 T_ref01_Mask_L1 [(0, (D.int .i64 t0)), (1, (D.int .i64 t1)), (6, (D.int .u64 s.1)), (7, (D.int .i64 s.2))] [] d []

def X_ref01_Mask_L1 (_fu : Nat) (_t0 : Int) (_t1 : Int) (d : D) : E_ref01_Mask_L1 ⊕ (Int × Bool) → Prop
  | .inl e => Runs Try.prog Try.f16 0 X_ref01_Mask_L1T [(6, (D.int .u64 e))] [] d []
  | .inr o => (K_ref01_Mask d) o

def F_ref01_Mask_L1 (_fu : Nat) (t0 : Int) (t1 : Int) (t6 : Int) (t7 : Int) : Option (Lo (Int × Int) E_ref01_Mask_L1 (Int × Bool)) :=
  (F_ref01_Size t0).bind fun r1 =>
  ifs (decide (t7 < r1)) (
    ifs (decide (t7 < t1)) (
      some (.next ((IntKind.wrap .u64 ((IntKind.wrap .u64 (t6 * (2 : Int))) + (1 : Int))), (IntKind.wrap .i64 (t7 + (1 : Int)))))) (
      some (.next ((IntKind.wrap .u64 (t6 * (2 : Int))), (IntKind.wrap .i64 (t7 + (1 : Int))))))) (
    some (.exit t6))

theorem run_ref01_Mask_L1 (fu : Nat) (t0 : Int) (t1 : Int) (t6 : Int) (t7 : Int) {d : D} {o : (Lo (Int × Int) E_ref01_Mask_L1 (Int × Bool))} (h : F_ref01_Mask_L1 fu t0 t1 t6 t7 = some o) (hk : (Lo.post (N_ref01_Mask_L1 fu t0 t1 d) (X_ref01_Mask_L1 fu t0 t1 d)) o) : Runs Try.prog Try.f16 0 T_ref01_Mask_L1 [(0, (D.int .i64 t0)), (1, (D.int .i64 t1)), (6, (D.int .u64 t6)), (7, (D.int .i64 t7))] [] d [] := by
  unfold F_ref01_Mask_L1 at h
  obtain ⟨r1, cr1, h⟩ := Option.bind_eq_some_iff.1 h
  refine runs_regions 1 [([(.d (D.int .i64 r1))], [0, 1, 6, 7, 27])] (z := ([FC Try.prog 19 [(D.int .i64 t0)] [] (D.int .i64 r1) [], All (List.map NoRow [(D.int .i64 t0)])], [(0, (D.int .i64 t0)), (1, (D.int .i64 t1)), (6, (D.int .u64 t6)), (7, (D.int .i64 t7)), (27, (D.bool (decide (t7 < r1))))], [])) rfl (by kernel_rfl) (And.intro (fc_ref01_Size t0 cr1) (And.intro (And.intro trivial trivial) trivial)) ?_
  refine runs_if (b := (decide (t7 < r1))) (by kernel_rfl) (fun hb => ?_) (fun hb => ?_)
  · replace h := ifs_true h hb
    refine runs_regions 2 [([], [0, 1, 6, 7]), ([], [0, 1, 6, 7, 34])] (z := ([], [(0, (D.int .i64 t0)), (1, (D.int .i64 t1)), (6, (D.int .u64 (IntKind.wrap .u64 (t6 * (2 : Int))))), (7, (D.int .i64 t7)), (34, (D.bool (decide (t7 < t1))))], [])) rfl (by kernel_rfl) trivial ?_
    refine runs_if (b := (decide (t7 < t1))) (by kernel_rfl) (fun hb => ?_) (fun hb => ?_)
    · replace h := ifs_true h hb
      refine runs_regions 2 [([], [0, 1, 6, 7]), ([], [0, 1, 6, 7])] (z := ([], [(0, (D.int .i64 t0)), (1, (D.int .i64 t1)), (6, (D.int .u64 (IntKind.wrap .u64 ((IntKind.wrap .u64 (t6 * (2 : Int))) + (1 : Int))))), (7, (D.int .i64 (IntKind.wrap .i64 (t7 + (1 : Int)))))], [])) rfl (by kernel_rfl) trivial ?_
      rw [← Option.some.inj h] at hk
      refine runs_to (ts := [0, 1, 6, 7]) (T' := T_ref01_Mask_L1) (env' := [(0, (D.int .i64 t0)), (1, (D.int .i64 t1)), (6, (D.int .u64 (IntKind.wrap .u64 ((IntKind.wrap .u64 (t6 * (2 : Int))) + (1 : Int))))), (7, (D.int .i64 (IntKind.wrap .i64 (t7 + (1 : Int)))))]) (h2 := []) (by kernel_rfl) (by kernel_rfl) trivial (Nat.zero_le _) trivial (And.intro trivial (And.intro trivial (And.intro trivial (And.intro trivial trivial)))) ?_
      exact hk
    · replace h := ifs_false h hb
      refine runs_regions 1 [([], [0, 1, 6, 7])] (z := ([], [(0, (D.int .i64 t0)), (1, (D.int .i64 t1)), (6, (D.int .u64 (IntKind.wrap .u64 (t6 * (2 : Int))))), (7, (D.int .i64 (IntKind.wrap .i64 (t7 + (1 : Int)))))], [])) rfl (by kernel_rfl) trivial ?_
      rw [← Option.some.inj h] at hk
      refine runs_to (ts := [0, 1, 6, 7]) (T' := T_ref01_Mask_L1) (env' := [(0, (D.int .i64 t0)), (1, (D.int .i64 t1)), (6, (D.int .u64 (IntKind.wrap .u64 (t6 * (2 : Int))))), (7, (D.int .i64 (IntKind.wrap .i64 (t7 + (1 : Int)))))]) (h2 := []) (by kernel_rfl) (by kernel_rfl) trivial (Nat.zero_le _) trivial (And.intro trivial (And.intro trivial (And.intro trivial (And.intro trivial trivial)))) ?_
      exact hk
  · replace h := ifs_false h hb
    rw [← Option.some.inj h] at hk
    refine runs_to (ts := [6]) (T' := X_ref01_Mask_L1T) (env' := [(6, (D.int .u64 t6))]) (h2 := []) (by kernel_rfl) (by kernel_rfl) trivial (Nat.zero_le _) trivial (And.intro trivial trivial) ?_
    exact hk

theorem iter_ref01_Mask_L1 (fu : Nat) (t0 : Int) (t1 : Int) {d : D} (k : Nat) (s : (Int × Int)) {o : E_ref01_Mask_L1 ⊕ (Int × Bool)} (h : iter (fun s => F_ref01_Mask_L1 fu t0 t1 s.1 s.2) k s = some o) (hx : X_ref01_Mask_L1 fu t0 t1 d o) : N_ref01_Mask_L1 fu t0 t1 d s :=
  iter_post (K := N_ref01_Mask_L1 fu t0 t1 d) (X := X_ref01_Mask_L1 fu t0 t1 d) (fun s _ h hk => run_ref01_Mask_L1 fu t0 t1 s.1 s.2 h hk) k s o h hx

/-- podesta/podestaref01.Mask -/
def F_ref01_Mask (fu : Nat) (t0 : Int) (t1 : Int) : Option (Int × Bool) :=
  (callIf (!(bif (bif (decide (t0 < (0 : Int))) then true else (decide (t0 > (11 : Int)))) then true else (decide (t1 < (0 : Int))))) (F_ref01_Size t0) (0 : Int)).bind fun r0 =>
  ifs (bif (bif (bif (decide (t0 < (0 : Int))) then true else (decide (t0 > (11 : Int)))) then true else (decide (t1 < (0 : Int)))) then true else (decide (t1 > r0))) (
    some ((0 : Int), false)) (
    after (iter (fun s => F_ref01_Mask_L1 fu t0 t1 s.1 s.2) fu ((0 : Int), (0 : Int))) fun e1 =>
    some (e1, true))

theorem run_ref01_Mask (fu : Nat) (t0 : Int) (t1 : Int) {d : D} {r : (Int × Bool)} (h : F_ref01_Mask fu t0 t1 = some r) (hk : K_ref01_Mask d r) : Runs Try.prog Try.f16 0 T_ref01_Mask [(0, (D.int .i64 t0)), (1, (D.int .i64 t1))] [] d [] := by
  unfold F_ref01_Mask at h
  obtain ⟨r0, cr0, h⟩ := Option.bind_eq_some_iff.1 h
  refine runs_regions 2 [([], [0, 1]), ([(.d (D.int .i64 r0))], [0, 1, 23])] (z := ([((!(decide (t0 < (0 : Int)))) = true → All [((!(decide (t0 < (0 : Int)))) = true → (!(decide (t0 < (0 : Int)))) = true)]), ((true && !(decide (t0 < (0 : Int)))) = true → (!(decide (t0 < (0 : Int)))) = true), ((!(bif (decide (t0 < (0 : Int))) then true else (decide (t0 > (11 : Int))))) = true → All [((!(bif (decide (t0 < (0 : Int))) then true else (decide (t0 > (11 : Int))))) = true → (!(bif (decide (t0 < (0 : Int))) then true else (decide (t0 > (11 : Int))))) = true)]), ((true && !(bif (decide (t0 < (0 : Int))) then true else (decide (t0 > (11 : Int))))) = true → (!(bif (decide (t0 < (0 : Int))) then true else (decide (t0 > (11 : Int))))) = true), ((!(bif (bif (decide (t0 < (0 : Int))) then true else (decide (t0 > (11 : Int)))) then true else (decide (t1 < (0 : Int))))) = true → All [((!(bif (bif (decide (t0 < (0 : Int))) then true else (decide (t0 > (11 : Int)))) then true else (decide (t1 < (0 : Int))))) = true → (!(bif (bif (decide (t0 < (0 : Int))) then true else (decide (t0 > (11 : Int)))) then true else (decide (t1 < (0 : Int))))) = true), FC Try.prog 19 [(D.int .i64 t0)] [] (D.int .i64 r0) [], All (List.map NoRow [(D.int .i64 t0)])]), ((!(bif (bif (decide (t0 < (0 : Int))) then true else (decide (t0 > (11 : Int)))) then true else (decide (t1 < (0 : Int))))) = true → All [((!(bif (bif (decide (t0 < (0 : Int))) then true else (decide (t0 > (11 : Int)))) then true else (decide (t1 < (0 : Int))))) = true → (!(bif (bif (decide (t0 < (0 : Int))) then true else (decide (t0 > (11 : Int)))) then true else (decide (t1 < (0 : Int))))) = true), ((!(bif (bif (decide (t0 < (0 : Int))) then true else (decide (t0 > (11 : Int)))) then true else (decide (t1 < (0 : Int))))) = true → (!(bif (bif (decide (t0 < (0 : Int))) then true else (decide (t0 > (11 : Int)))) then true else (decide (t1 < (0 : Int))))) = true)]), ((true && !(bif (bif (decide (t0 < (0 : Int))) then true else (decide (t0 > (11 : Int)))) then true else (decide (t1 < (0 : Int))))) = true → (!(bif (bif (decide (t0 < (0 : Int))) then true else (decide (t0 > (11 : Int)))) then true else (decide (t1 < (0 : Int))))) = true)], [(0, (D.int .i64 t0)), (1, (D.int .i64 t1)), (23, (D.bool (bif (bif (bif (decide (t0 < (0 : Int))) then true else (decide (t0 > (11 : Int)))) then true else (decide (t1 < (0 : Int)))) then true else (decide (t1 > r0)))))], [])) rfl (by kernel_rfl) (And.intro (fun _ => (And.intro (by first | exact fun h => h | exact fun h => (Bool.and_eq_true_iff.1 h).1 | simp_all) trivial)) (And.intro (by first | exact fun h => h | exact fun h => (Bool.and_eq_true_iff.1 h).1 | simp_all) (And.intro (fun _ => (And.intro (by first | exact fun h => h | exact fun h => (Bool.and_eq_true_iff.1 h).1 | simp_all) trivial)) (And.intro (by first | exact fun h => h | exact fun h => (Bool.and_eq_true_iff.1 h).1 | simp_all) (And.intro (fun hg => (And.intro (by first | exact fun h => h | exact fun h => (Bool.and_eq_true_iff.1 h).1 | simp_all) (And.intro (fc_ref01_Size t0 (callIf_some cr0 hg)) (And.intro (And.intro trivial trivial) trivial)))) (And.intro (fun _ => (And.intro (by first | exact fun h => h | exact fun h => (Bool.and_eq_true_iff.1 h).1 | simp_all) (And.intro (by first | exact fun h => h | exact fun h => (Bool.and_eq_true_iff.1 h).1 | simp_all) trivial))) (And.intro (by first | exact fun h => h | exact fun h => (Bool.and_eq_true_iff.1 h).1 | simp_all) trivial))))))) ?_
  refine runs_if (b := (bif (bif (bif (decide (t0 < (0 : Int))) then true else (decide (t0 > (11 : Int)))) then true else (decide (t1 < (0 : Int)))) then true else (decide (t1 > r0)))) (by kernel_rfl) (fun hb => ?_) (fun hb => ?_)
  · replace h := ifs_true h hb
    refine runs_regions 1 [([], [4, 5])] (z := ([], [(4, (D.int .u64 (0 : Int))), (5, (D.bool false))], [])) rfl (by kernel_rfl) trivial ?_
    rw [← Option.some.inj h] at hk
    obtain rfl : d = (D.tup (D.cons (D.int .u64 (0 : Int)) (D.cons (D.bool false) D.nil))) := hk
    exact runs_ret (by kernel_rfl) trivial (Nat.le_refl 0) trivial (And.intro trivial (And.intro trivial trivial))
  · replace h := ifs_false h hb
    refine runs_regions 2 [([], [0, 1, 6]), ([], [0, 1, 6, 7])] (z := ([], [(0, (D.int .i64 t0)), (1, (D.int .i64 t1)), (6, (D.int .u64 (0 : Int))), (7, (D.int .i64 (0 : Int)))], [])) rfl (by kernel_rfl) trivial ?_
    refine runs_to (ts := [0, 1, 6, 7]) (T' := T_ref01_Mask_L1) (env' := [(0, (D.int .i64 t0)), (1, (D.int .i64 t1)), (6, (D.int .u64 (0 : Int))), (7, (D.int .i64 (0 : Int)))]) (h2 := []) (by kernel_rfl) (by kernel_rfl) trivial (Nat.zero_le _) trivial (And.intro trivial (And.intro trivial (And.intro trivial (And.intro trivial trivial)))) ?_
    rcases after_some h with ⟨e1, hi, h⟩ | hi
    · refine iter_ref01_Mask_L1 fu t0 t1 fu ((0 : Int), (0 : Int)) hi ?_
      show Runs Try.prog Try.f16 0 X_ref01_Mask_L1T [(6, (D.int .u64 e1))] [] d []
      refine runs_regions 1 [([], [4, 5])] (z := ([], [(4, (D.int .u64 e1)), (5, (D.bool true))], [])) rfl (by kernel_rfl) trivial ?_
      rw [← Option.some.inj h] at hk
      obtain rfl : d = (D.tup (D.cons (D.int .u64 e1) (D.cons (D.bool true) D.nil))) := hk
      exact runs_ret (by kernel_rfl) trivial (Nat.le_refl 0) trivial (And.intro trivial (And.intro trivial trivial))
    · exact iter_ref01_Mask_L1 fu t0 t1 fu ((0 : Int), (0 : Int)) hi hk

theorem fc_ref01_Mask (fu : Nat) (t0 : Int) (t1 : Int) {r : (Int × Bool)} (h : F_ref01_Mask fu t0 t1 = some r) : FC Try.prog 16 [(D.int .i64 t0), (D.int .i64 t1)] [] (D.tup (D.cons (D.int .u64 r.1) (D.cons (D.bool r.2) D.nil))) [] := by
  refine fc_of_runs (fn := Try.f16) (c := Try.f16.body.getD .skip) (by kernel_rfl) (by kernel_rfl) ?_
  refine runs_to (ts := [0, 1]) (T' := T_ref01_Mask) (env' := [(0, (D.int .i64 t0)), (1, (D.int .i64 t1))]) (h2 := []) (by kernel_rfl) (by kernel_rfl) trivial (Nat.le_refl 0) trivial (And.intro trivial (And.intro trivial trivial)) ?_
  exact run_ref01_Mask fu t0 t1 h rfl

def K_law02_CubeMakes (d : D) (r : Bool) : Prop := d = (D.bool r)

noncomputable def T_law02_CubeMakes : List Item := norm 200 [.code (Try.f9.body.getD .skip)]

noncomputable def T_law02_CubeMakes_J3 : List Item := norm 200 (cndF (nxt (nxt (cndT (nxt (nxt (nxt (nxt (cndF (nxt (cndF (nxt (nxt (nxt (nxt T_law02_CubeMakes)))))))))))))))

noncomputable def T_law02_CubeMakes_J2 : List Item := norm 200 (nxt (cndT (nxt (nxt (nxt (nxt (cndF (nxt (cndF (nxt (nxt (nxt (nxt T_law02_CubeMakes)))))))))))))

noncomputable def T_law02_CubeMakes_J1 : List Item := norm 200 (cndF (nxt (cndF (nxt (nxt (nxt (nxt T_law02_CubeMakes)))))))

def F_law02_CubeMakes_J3 (_fu : Nat) (t12 : Bool) (t14 : Int) (t18 : Int) (m2 : S_api_Cube) (m3 : S_api_Cube) (m5 : S_api_Cube) : Option Bool :=
  some (bif (bif (t14 == t18) then (((List.range 12).all fun i => m3.f0 i == m5.f0 i) && (((List.range 12).all fun i => m3.f1 i == m5.f1 i) && true)) else false) then (bif t12 then true else (((List.range 12).all fun i => m2.f0 i == (fun _ => 0) i) && (((List.range 12).all fun i => m2.f1 i == (fun _ => 0) i) && true))) else false)

theorem run_law02_CubeMakes_J3 (fu : Nat) (t12 : Bool) (t14 : Int) (t18 : Int) (m2 : S_api_Cube) (m3 : S_api_Cube) (m5 : S_api_Cube) {d : D} {o : Bool} (h : F_law02_CubeMakes_J3 fu t12 t14 t18 m2 m3 m5 = some o) (hk : (K_law02_CubeMakes d) o) : Runs Try.prog Try.f9 0 T_law02_CubeMakes_J3 [(11, (D.ptr 2 [])), (12, (D.bool t12)), (13, (D.ptr 3 [])), (14, (D.int .i64 t14)), (18, (D.int .i64 t18)), (21, (D.ptr 5 []))] [none, none, some (.box (D.cons (D.ints .u64 12 m2.f0) (D.cons (D.ints .u64 12 m2.f1) D.nil))), some (.box (D.cons (D.ints .u64 12 m3.f0) (D.cons (D.ints .u64 12 m3.f1) D.nil))), none, some (.box (D.cons (D.ints .u64 12 m5.f0) (D.cons (D.ints .u64 12 m5.f1) D.nil)))] d [] := by
  unfold F_law02_CubeMakes_J3 at h
  refine runs_regions 1 [([], [10])] (z := ([((t14 == t18) = true → All [((t14 == t18) = true → (t14 == t18) = true), ((t14 == t18) = true → (t14 == t18) = true)]), ((true && (t14 == t18)) = true → (t14 == t18) = true), ((bif (t14 == t18) then (((List.range 12).all fun i => m3.f0 i == m5.f0 i) && (((List.range 12).all fun i => m3.f1 i == m5.f1 i) && true)) else false) = true → All [((bif (t14 == t18) then (((List.range 12).all fun i => m3.f0 i == m5.f0 i) && (((List.range 12).all fun i => m3.f1 i == m5.f1 i) && true)) else false) = true → (bif (t14 == t18) then (((List.range 12).all fun i => m3.f0 i == m5.f0 i) && (((List.range 12).all fun i => m3.f1 i == m5.f1 i) && true)) else false) = true)]), (((bif (t14 == t18) then (((List.range 12).all fun i => m3.f0 i == m5.f0 i) && (((List.range 12).all fun i => m3.f1 i == m5.f1 i) && true)) else false) && (!t12)) = true → All [(((bif (t14 == t18) then (((List.range 12).all fun i => m3.f0 i == m5.f0 i) && (((List.range 12).all fun i => m3.f1 i == m5.f1 i) && true)) else false) && (!t12)) = true → ((bif (t14 == t18) then (((List.range 12).all fun i => m3.f0 i == m5.f0 i) && (((List.range 12).all fun i => m3.f1 i == m5.f1 i) && true)) else false) && (!t12)) = true), (((bif (t14 == t18) then (((List.range 12).all fun i => m3.f0 i == m5.f0 i) && (((List.range 12).all fun i => m3.f1 i == m5.f1 i) && true)) else false) && (!t12)) = true → ((bif (t14 == t18) then (((List.range 12).all fun i => m3.f0 i == m5.f0 i) && (((List.range 12).all fun i => m3.f1 i == m5.f1 i) && true)) else false) && (!t12)) = true)]), ((bif (t14 == t18) then (((List.range 12).all fun i => m3.f0 i == m5.f0 i) && (((List.range 12).all fun i => m3.f1 i == m5.f1 i) && true)) else false) = true → All [((bif (t14 == t18) then (((List.range 12).all fun i => m3.f0 i == m5.f0 i) && (((List.range 12).all fun i => m3.f1 i == m5.f1 i) && true)) else false) = true → (bif (t14 == t18) then (((List.range 12).all fun i => m3.f0 i == m5.f0 i) && (((List.range 12).all fun i => m3.f1 i == m5.f1 i) && true)) else false) = true), (((bif (t14 == t18) then (((List.range 12).all fun i => m3.f0 i == m5.f0 i) && (((List.range 12).all fun i => m3.f1 i == m5.f1 i) && true)) else false) && !t12) = true → ((bif (t14 == t18) then (((List.range 12).all fun i => m3.f0 i == m5.f0 i) && (((List.range 12).all fun i => m3.f1 i == m5.f1 i) && true)) else false) && (!t12)) = true)]), ((true && (bif (t14 == t18) then (((List.range 12).all fun i => m3.f0 i == m5.f0 i) && (((List.range 12).all fun i => m3.f1 i == m5.f1 i) && true)) else false)) = true → (bif (t14 == t18) then (((List.range 12).all fun i => m3.f0 i == m5.f0 i) && (((List.range 12).all fun i => m3.f1 i == m5.f1 i) && true)) else false) = true)], [(10, (D.bool (bif (bif (t14 == t18) then (((List.range 12).all fun i => m3.f0 i == m5.f0 i) && (((List.range 12).all fun i => m3.f1 i == m5.f1 i) && true)) else false) then (bif t12 then true else (((List.range 12).all fun i => m2.f0 i == (fun _ => 0) i) && (((List.range 12).all fun i => m2.f1 i == (fun _ => 0) i) && true))) else false)))], [none, none, some (.box (D.cons (D.ints .u64 12 m2.f0) (D.cons (D.ints .u64 12 m2.f1) D.nil))), some (.box (D.cons (D.ints .u64 12 m3.f0) (D.cons (D.ints .u64 12 m3.f1) D.nil))), none, some (.box (D.cons (D.ints .u64 12 m5.f0) (D.cons (D.ints .u64 12 m5.f1) D.nil)))])) rfl (by kernel_rfl) (And.intro (fun _ => (And.intro (by first | exact fun h => h | exact fun h => (Bool.and_eq_true_iff.1 h).1 | simp_all) (And.intro (by first | exact fun h => h | exact fun h => (Bool.and_eq_true_iff.1 h).1 | simp_all) trivial))) (And.intro (by first | exact fun h => h | exact fun h => (Bool.and_eq_true_iff.1 h).1 | simp_all) (And.intro (fun _ => (And.intro (by first | exact fun h => h | exact fun h => (Bool.and_eq_true_iff.1 h).1 | simp_all) trivial)) (And.intro (fun _ => (And.intro (by first | exact fun h => h | exact fun h => (Bool.and_eq_true_iff.1 h).1 | simp_all) (And.intro (by first | exact fun h => h | exact fun h => (Bool.and_eq_true_iff.1 h).1 | simp_all) trivial))) (And.intro (fun _ => (And.intro (by first | exact fun h => h | exact fun h => (Bool.and_eq_true_iff.1 h).1 | simp_all) (And.intro (by first | exact fun h => h | exact fun h => (Bool.and_eq_true_iff.1 h).1 | simp_all) trivial))) (And.intro (by first | exact fun h => h | exact fun h => (Bool.and_eq_true_iff.1 h).1 | simp_all) trivial)))))) ?_
  rw [← Option.some.inj h] at hk
  obtain rfl : d = (D.bool (bif (bif (t14 == t18) then (((List.range 12).all fun i => m3.f0 i == m5.f0 i) && (((List.range 12).all fun i => m3.f1 i == m5.f1 i) && true)) else false) then (bif t12 then true else (((List.range 12).all fun i => m2.f0 i == (fun _ => 0) i) && (((List.range 12).all fun i => m2.f1 i == (fun _ => 0) i) && true))) else false)) := hk
  exact runs_ret (by kernel_rfl) trivial (Nat.le_refl 0) trivial trivial

def F_law02_CubeMakes_J2 (fu : Nat) (t12 : Bool) (t14 : Int) (t18 : Int) (m2 : S_api_Cube) (m3 : S_api_Cube) (m5 : S_api_Cube) : Option Bool :=
  ifs (t18 != (0 : Int)) (
    F_law02_CubeMakes_J3 fu t12 t14 t18 m2 m3 (S_api_Cube.mk (fun _ => 0) (fun _ => 0))) (
    F_law02_CubeMakes_J3 fu t12 t14 t18 m2 m3 m5)

theorem run_law02_CubeMakes_J2 (fu : Nat) (t12 : Bool) (t14 : Int) (t18 : Int) (m2 : S_api_Cube) (m3 : S_api_Cube) (m5 : S_api_Cube) {d : D} {o : Bool} (h : F_law02_CubeMakes_J2 fu t12 t14 t18 m2 m3 m5 = some o) (hk : (K_law02_CubeMakes d) o) : Runs Try.prog Try.f9 0 T_law02_CubeMakes_J2 [(11, (D.ptr 2 [])), (12, (D.bool t12)), (13, (D.ptr 3 [])), (14, (D.int .i64 t14)), (18, (D.int .i64 t18)), (21, (D.ptr 5 []))] [none, none, some (.box (D.cons (D.ints .u64 12 m2.f0) (D.cons (D.ints .u64 12 m2.f1) D.nil))), some (.box (D.cons (D.ints .u64 12 m3.f0) (D.cons (D.ints .u64 12 m3.f1) D.nil))), none, some (.box (D.cons (D.ints .u64 12 m5.f0) (D.cons (D.ints .u64 12 m5.f1) D.nil)))] d [] := by
  unfold F_law02_CubeMakes_J2 at h
  refine runs_regions 1 [([], [11, 12, 13, 14, 18, 21, 110])] (z := ([], [(11, (D.ptr 2 [])), (12, (D.bool t12)), (13, (D.ptr 3 [])), (14, (D.int .i64 t14)), (18, (D.int .i64 t18)), (21, (D.ptr 5 [])), (110, (D.bool (t18 != (0 : Int))))], [none, none, some (.box (D.cons (D.ints .u64 12 m2.f0) (D.cons (D.ints .u64 12 m2.f1) D.nil))), some (.box (D.cons (D.ints .u64 12 m3.f0) (D.cons (D.ints .u64 12 m3.f1) D.nil))), none, some (.box (D.cons (D.ints .u64 12 m5.f0) (D.cons (D.ints .u64 12 m5.f1) D.nil)))])) rfl (by kernel_rfl) trivial ?_
  refine runs_if (b := (t18 != (0 : Int))) (by kernel_rfl) (fun hb => ?_) (fun hb => ?_)
  · replace h := ifs_true h hb
    refine runs_regions 1 [([], [11, 12, 13, 14, 18, 21])] (z := ([], [(11, (D.ptr 2 [])), (12, (D.bool t12)), (13, (D.ptr 3 [])), (14, (D.int .i64 t14)), (18, (D.int .i64 t18)), (21, (D.ptr 5 []))], [none, none, some (.box (D.cons (D.ints .u64 12 m2.f0) (D.cons (D.ints .u64 12 m2.f1) D.nil))), some (.box (D.cons (D.ints .u64 12 m3.f0) (D.cons (D.ints .u64 12 m3.f1) D.nil))), none, some (.box (D.cons (D.ints .u64 12 (fun _ => 0)) (D.cons (D.ints .u64 12 (fun _ => 0)) D.nil)))])) rfl (by kernel_rfl) trivial ?_
    refine runs_to (ts := [11, 12, 13, 14, 18, 21]) (T' := T_law02_CubeMakes_J3) (env' := [(11, (D.ptr 2 [])), (12, (D.bool t12)), (13, (D.ptr 3 [])), (14, (D.int .i64 t14)), (18, (D.int .i64 t18)), (21, (D.ptr 5 []))]) (h2 := [none, none, some (.box (D.cons (D.ints .u64 12 m2.f0) (D.cons (D.ints .u64 12 m2.f1) D.nil))), some (.box (D.cons (D.ints .u64 12 m3.f0) (D.cons (D.ints .u64 12 m3.f1) D.nil))), none, some (.box (D.cons (D.ints .u64 12 (fun _ => 0)) (D.cons (D.ints .u64 12 (fun _ => 0)) D.nil)))]) (by kernel_rfl) (by kernel_rfl) (And.intro (.inl rfl) (And.intro (.inl rfl) (And.intro (.inr rfl) (And.intro (.inr rfl) (And.intro (.inl rfl) (And.intro (.inr rfl) trivial)))))) (Nat.zero_le _) (And.intro (And.intro trivial (And.intro trivial trivial)) (And.intro (And.intro trivial (And.intro trivial trivial)) (And.intro (And.intro trivial (And.intro trivial trivial)) trivial))) (And.intro (bel_of rfl) (And.intro trivial (And.intro (bel_of rfl) (And.intro trivial (And.intro trivial (And.intro (bel_of rfl) trivial)))))) ?_
    exact run_law02_CubeMakes_J3 fu t12 t14 t18 m2 m3 (S_api_Cube.mk (fun _ => 0) (fun _ => 0)) h hk
  · replace h := ifs_false h hb
    refine runs_to (ts := [11, 12, 13, 14, 18, 21]) (T' := T_law02_CubeMakes_J3) (env' := [(11, (D.ptr 2 [])), (12, (D.bool t12)), (13, (D.ptr 3 [])), (14, (D.int .i64 t14)), (18, (D.int .i64 t18)), (21, (D.ptr 5 []))]) (h2 := [none, none, some (.box (D.cons (D.ints .u64 12 m2.f0) (D.cons (D.ints .u64 12 m2.f1) D.nil))), some (.box (D.cons (D.ints .u64 12 m3.f0) (D.cons (D.ints .u64 12 m3.f1) D.nil))), none, some (.box (D.cons (D.ints .u64 12 m5.f0) (D.cons (D.ints .u64 12 m5.f1) D.nil)))]) (by kernel_rfl) (by kernel_rfl) (And.intro (.inl rfl) (And.intro (.inl rfl) (And.intro (.inr rfl) (And.intro (.inr rfl) (And.intro (.inl rfl) (And.intro (.inr rfl) trivial)))))) (Nat.zero_le _) (And.intro (And.intro trivial (And.intro trivial trivial)) (And.intro (And.intro trivial (And.intro trivial trivial)) (And.intro (And.intro trivial (And.intro trivial trivial)) trivial))) (And.intro (bel_of rfl) (And.intro trivial (And.intro (bel_of rfl) (And.intro trivial (And.intro trivial (And.intro (bel_of rfl) trivial)))))) ?_
    exact run_law02_CubeMakes_J3 fu t12 t14 t18 m2 m3 m5 h hk

def F_law02_CubeMakes_J1 (fu : Nat) (t2 : Int) (t3 : Int) (t4 : Int) (t12 : Bool) (t14 : Int) (m1 : S_api_Cube) (m2 : S_api_Cube) (m3 : S_api_Cube) : Option Bool :=
  (F_ref01_Set (fun _ => 0) t2 t3).bind fun r10 =>
  (F_ref01_Mask fu t2 t4).bind fun r11 =>
  (F_ref01_Cube fu m1).bind fun r12 =>
  ifs (!r12) (
    F_law02_CubeMakes_J2 fu t12 t14 (2 : Int) m2 m3 m1) (
    ifs (bif (r10.2 == (0 : Int)) then (!r11.2) else false) (
      F_law02_CubeMakes_J2 fu t12 t14 (13 : Int) m2 m3 m1) (
      ifs (r10.2 == (0 : Int)) (
        chk (0 ≤ t2 ∧ t2 < ((12 : Nat) : Int)) <|
        chk (t2.toNat < 12) <|
        chk (0 ≤ t2 ∧ t2 < ((12 : Nat) : Int)) <|
        chk (t2.toNat < 12) <|
        F_law02_CubeMakes_J2 fu t12 t14 r10.2 m2 m3 (S_api_Cube.mk (fun j => if j = t2.toNat then (iand .u64 t3 r11.1) else m1.f0 j) (fun j => if j = t2.toNat then r11.1 else m1.f1 j))) (
        F_law02_CubeMakes_J2 fu t12 t14 r10.2 m2 m3 m1)))

theorem run_law02_CubeMakes_J1 (fu : Nat) (t2 : Int) (t3 : Int) (t4 : Int) (t12 : Bool) (t14 : Int) (m1 : S_api_Cube) (m2 : S_api_Cube) (m3 : S_api_Cube) {d : D} {o : Bool} (h : F_law02_CubeMakes_J1 fu t2 t3 t4 t12 t14 m1 m2 m3 = some o) (hk : (K_law02_CubeMakes d) o) : Runs Try.prog Try.f9 0 T_law02_CubeMakes_J1 [(2, (D.int .i64 t2)), (3, (D.int .u64 t3)), (4, (D.int .i64 t4)), (6, (D.ptr 1 [])), (11, (D.ptr 2 [])), (12, (D.bool t12)), (13, (D.ptr 3 [])), (14, (D.int .i64 t14))] [none, some (.box (D.cons (D.ints .u64 12 m1.f0) (D.cons (D.ints .u64 12 m1.f1) D.nil))), some (.box (D.cons (D.ints .u64 12 m2.f0) (D.cons (D.ints .u64 12 m2.f1) D.nil))), some (.box (D.cons (D.ints .u64 12 m3.f0) (D.cons (D.ints .u64 12 m3.f1) D.nil)))] d [] := by
  unfold F_law02_CubeMakes_J1 at h
  obtain ⟨r10, cr10, h⟩ := Option.bind_eq_some_iff.1 h
  obtain ⟨r11, cr11, h⟩ := Option.bind_eq_some_iff.1 h
  obtain ⟨r12, cr12, h⟩ := Option.bind_eq_some_iff.1 h
  refine runs_regions 4 [([(.d (D.tup (D.cons (D.ints .u64 12 r10.1) (D.cons (D.int .i64 r10.2) D.nil))))], [2, 3, 4, 6, 11, 12, 13, 14, 18]), ([(.d (D.tup (D.cons (D.int .u64 r11.1) (D.cons (D.bool r11.2) D.nil))))], [2, 3, 6, 11, 12, 13, 14, 18, 19, 20]), ([], [2, 3, 6, 11, 12, 13, 14, 18, 19, 20, 21]), ([(.d (D.bool r12))], [2, 3, 11, 12, 13, 14, 18, 19, 20, 21, 85])] (z := ([FC Try.prog 25 [(D.ints .u64 12 (fun _ => 0)), (D.int .i64 t2), (D.int .u64 t3)] [] (D.tup (D.cons (D.ints .u64 12 r10.1) (D.cons (D.int .i64 r10.2) D.nil))) [], All (List.map NoRow [(D.ints .u64 12 (fun _ => 0)), (D.int .i64 t2), (D.int .u64 t3)]), FC Try.prog 16 [(D.int .i64 t2), (D.int .i64 t4)] [] (D.tup (D.cons (D.int .u64 r11.1) (D.cons (D.bool r11.2) D.nil))) [], All (List.map NoRow [(D.int .i64 t2), (D.int .i64 t4)]), FC Try.prog 35 [(D.cons (D.ints .u64 12 m1.f0) (D.cons (D.ints .u64 12 m1.f1) D.nil))] [] (D.bool r12) [], All (List.map NoRow [(D.cons (D.ints .u64 12 m1.f0) (D.cons (D.ints .u64 12 m1.f1) D.nil))])], [(2, (D.int .i64 t2)), (3, (D.int .u64 t3)), (11, (D.ptr 2 [])), (12, (D.bool t12)), (13, (D.ptr 3 [])), (14, (D.int .i64 t14)), (18, (D.int .i64 r10.2)), (19, (D.int .u64 r11.1)), (20, (D.bool r11.2)), (21, (D.ptr 5 [])), (85, (D.bool (!r12)))], [none, some (.box (D.cons (D.ints .u64 12 m1.f0) (D.cons (D.ints .u64 12 m1.f1) D.nil))), some (.box (D.cons (D.ints .u64 12 m2.f0) (D.cons (D.ints .u64 12 m2.f1) D.nil))), some (.box (D.cons (D.ints .u64 12 m3.f0) (D.cons (D.ints .u64 12 m3.f1) D.nil))), some (.box (D.ints .u64 12 r10.1)), some (.box (D.cons (D.ints .u64 12 m1.f0) (D.cons (D.ints .u64 12 m1.f1) D.nil)))])) rfl (by kernel_rfl) (And.intro (fc_ref01_Set (fun _ => 0) t2 t3 cr10) (And.intro (And.intro trivial (And.intro trivial (And.intro trivial trivial))) (And.intro (fc_ref01_Mask fu t2 t4 cr11) (And.intro (And.intro trivial (And.intro trivial trivial)) (And.intro (fc_ref01_Cube fu m1 cr12) (And.intro (And.intro (And.intro trivial (And.intro trivial trivial)) trivial) trivial)))))) ?_
  refine runs_if (b := (!r12)) (by kernel_rfl) (fun hb => ?_) (fun hb => ?_)
  · replace h := ifs_true h hb
    refine runs_regions 1 [([], [11, 12, 13, 14, 18, 21])] (z := ([], [(11, (D.ptr 2 [])), (12, (D.bool t12)), (13, (D.ptr 3 [])), (14, (D.int .i64 t14)), (18, (D.int .i64 (2 : Int))), (21, (D.ptr 5 []))], [none, some (.box (D.cons (D.ints .u64 12 m1.f0) (D.cons (D.ints .u64 12 m1.f1) D.nil))), some (.box (D.cons (D.ints .u64 12 m2.f0) (D.cons (D.ints .u64 12 m2.f1) D.nil))), some (.box (D.cons (D.ints .u64 12 m3.f0) (D.cons (D.ints .u64 12 m3.f1) D.nil))), some (.box (D.ints .u64 12 r10.1)), some (.box (D.cons (D.ints .u64 12 m1.f0) (D.cons (D.ints .u64 12 m1.f1) D.nil)))])) rfl (by kernel_rfl) trivial ?_
    refine runs_to (ts := [11, 12, 13, 14, 18, 21]) (T' := T_law02_CubeMakes_J2) (env' := [(11, (D.ptr 2 [])), (12, (D.bool t12)), (13, (D.ptr 3 [])), (14, (D.int .i64 t14)), (18, (D.int .i64 (2 : Int))), (21, (D.ptr 5 []))]) (h2 := [none, none, some (.box (D.cons (D.ints .u64 12 m2.f0) (D.cons (D.ints .u64 12 m2.f1) D.nil))), some (.box (D.cons (D.ints .u64 12 m3.f0) (D.cons (D.ints .u64 12 m3.f1) D.nil))), none, some (.box (D.cons (D.ints .u64 12 m1.f0) (D.cons (D.ints .u64 12 m1.f1) D.nil)))]) (by kernel_rfl) (by kernel_rfl) (And.intro (.inl rfl) (And.intro (.inl rfl) (And.intro (.inr rfl) (And.intro (.inr rfl) (And.intro (.inl rfl) (And.intro (.inr rfl) trivial)))))) (Nat.zero_le _) (And.intro (And.intro trivial (And.intro trivial trivial)) (And.intro (And.intro trivial (And.intro trivial trivial)) (And.intro (And.intro trivial (And.intro trivial trivial)) trivial))) (And.intro (bel_of rfl) (And.intro trivial (And.intro (bel_of rfl) (And.intro trivial (And.intro trivial (And.intro (bel_of rfl) trivial)))))) ?_
    exact run_law02_CubeMakes_J2 fu t12 t14 (2 : Int) m2 m3 m1 h hk
  · replace h := ifs_false h hb
    refine runs_regions 1 [([], [2, 3, 11, 12, 13, 14, 18, 19, 21, 89])] (z := ([((r10.2 == (0 : Int)) = true → All [((r10.2 == (0 : Int)) = true → (r10.2 == (0 : Int)) = true)]), ((true && (r10.2 == (0 : Int))) = true → (r10.2 == (0 : Int)) = true)], [(2, (D.int .i64 t2)), (3, (D.int .u64 t3)), (11, (D.ptr 2 [])), (12, (D.bool t12)), (13, (D.ptr 3 [])), (14, (D.int .i64 t14)), (18, (D.int .i64 r10.2)), (19, (D.int .u64 r11.1)), (21, (D.ptr 5 [])), (89, (D.bool (bif (r10.2 == (0 : Int)) then (!r11.2) else false)))], [none, some (.box (D.cons (D.ints .u64 12 m1.f0) (D.cons (D.ints .u64 12 m1.f1) D.nil))), some (.box (D.cons (D.ints .u64 12 m2.f0) (D.cons (D.ints .u64 12 m2.f1) D.nil))), some (.box (D.cons (D.ints .u64 12 m3.f0) (D.cons (D.ints .u64 12 m3.f1) D.nil))), some (.box (D.ints .u64 12 r10.1)), some (.box (D.cons (D.ints .u64 12 m1.f0) (D.cons (D.ints .u64 12 m1.f1) D.nil)))])) rfl (by kernel_rfl) (And.intro (fun _ => (And.intro (by first | exact fun h => h | exact fun h => (Bool.and_eq_true_iff.1 h).1 | simp_all) trivial)) (And.intro (by first | exact fun h => h | exact fun h => (Bool.and_eq_true_iff.1 h).1 | simp_all) trivial)) ?_
    refine runs_if (b := (bif (r10.2 == (0 : Int)) then (!r11.2) else false)) (by kernel_rfl) (fun hb => ?_) (fun hb => ?_)
    · replace h := ifs_true h hb
      refine runs_regions 1 [([], [11, 12, 13, 14, 18, 21])] (z := ([], [(11, (D.ptr 2 [])), (12, (D.bool t12)), (13, (D.ptr 3 [])), (14, (D.int .i64 t14)), (18, (D.int .i64 (13 : Int))), (21, (D.ptr 5 []))], [none, some (.box (D.cons (D.ints .u64 12 m1.f0) (D.cons (D.ints .u64 12 m1.f1) D.nil))), some (.box (D.cons (D.ints .u64 12 m2.f0) (D.cons (D.ints .u64 12 m2.f1) D.nil))), some (.box (D.cons (D.ints .u64 12 m3.f0) (D.cons (D.ints .u64 12 m3.f1) D.nil))), some (.box (D.ints .u64 12 r10.1)), some (.box (D.cons (D.ints .u64 12 m1.f0) (D.cons (D.ints .u64 12 m1.f1) D.nil)))])) rfl (by kernel_rfl) trivial ?_
      refine runs_to (ts := [11, 12, 13, 14, 18, 21]) (T' := T_law02_CubeMakes_J2) (env' := [(11, (D.ptr 2 [])), (12, (D.bool t12)), (13, (D.ptr 3 [])), (14, (D.int .i64 t14)), (18, (D.int .i64 (13 : Int))), (21, (D.ptr 5 []))]) (h2 := [none, none, some (.box (D.cons (D.ints .u64 12 m2.f0) (D.cons (D.ints .u64 12 m2.f1) D.nil))), some (.box (D.cons (D.ints .u64 12 m3.f0) (D.cons (D.ints .u64 12 m3.f1) D.nil))), none, some (.box (D.cons (D.ints .u64 12 m1.f0) (D.cons (D.ints .u64 12 m1.f1) D.nil)))]) (by kernel_rfl) (by kernel_rfl) (And.intro (.inl rfl) (And.intro (.inl rfl) (And.intro (.inr rfl) (And.intro (.inr rfl) (And.intro (.inl rfl) (And.intro (.inr rfl) trivial)))))) (Nat.zero_le _) (And.intro (And.intro trivial (And.intro trivial trivial)) (And.intro (And.intro trivial (And.intro trivial trivial)) (And.intro (And.intro trivial (And.intro trivial trivial)) trivial))) (And.intro (bel_of rfl) (And.intro trivial (And.intro (bel_of rfl) (And.intro trivial (And.intro trivial (And.intro (bel_of rfl) trivial)))))) ?_
      exact run_law02_CubeMakes_J2 fu t12 t14 (13 : Int) m2 m3 m1 h hk
    · replace h := ifs_false h hb
      refine runs_regions 1 [([], [2, 3, 11, 12, 13, 14, 18, 19, 21, 96])] (z := ([], [(2, (D.int .i64 t2)), (3, (D.int .u64 t3)), (11, (D.ptr 2 [])), (12, (D.bool t12)), (13, (D.ptr 3 [])), (14, (D.int .i64 t14)), (18, (D.int .i64 r10.2)), (19, (D.int .u64 r11.1)), (21, (D.ptr 5 [])), (96, (D.bool (r10.2 == (0 : Int))))], [none, some (.box (D.cons (D.ints .u64 12 m1.f0) (D.cons (D.ints .u64 12 m1.f1) D.nil))), some (.box (D.cons (D.ints .u64 12 m2.f0) (D.cons (D.ints .u64 12 m2.f1) D.nil))), some (.box (D.cons (D.ints .u64 12 m3.f0) (D.cons (D.ints .u64 12 m3.f1) D.nil))), some (.box (D.ints .u64 12 r10.1)), some (.box (D.cons (D.ints .u64 12 m1.f0) (D.cons (D.ints .u64 12 m1.f1) D.nil)))])) rfl (by kernel_rfl) trivial ?_
      refine runs_if (b := (r10.2 == (0 : Int))) (by kernel_rfl) (fun hb => ?_) (fun hb => ?_)
      · replace h := ifs_true h hb
        obtain ⟨p0, h⟩ := chk_some h
        obtain ⟨p1, h⟩ := chk_some h
        obtain ⟨p2, h⟩ := chk_some h
        obtain ⟨p3, h⟩ := chk_some h
        refine runs_regions 2 [([], [2, 3, 11, 12, 13, 14, 18, 19, 21]), ([], [11, 12, 13, 14, 18, 21])] (z := ([(0 ≤ t2 ∧ t2 < ((12 : Nat) : Int)), (t2.toNat < 12), (0 ≤ t2 ∧ t2 < ((12 : Nat) : Int)), (t2.toNat < 12)], [(11, (D.ptr 2 [])), (12, (D.bool t12)), (13, (D.ptr 3 [])), (14, (D.int .i64 t14)), (18, (D.int .i64 r10.2)), (21, (D.ptr 5 []))], [none, some (.box (D.cons (D.ints .u64 12 m1.f0) (D.cons (D.ints .u64 12 m1.f1) D.nil))), some (.box (D.cons (D.ints .u64 12 m2.f0) (D.cons (D.ints .u64 12 m2.f1) D.nil))), some (.box (D.cons (D.ints .u64 12 m3.f0) (D.cons (D.ints .u64 12 m3.f1) D.nil))), some (.box (D.ints .u64 12 r10.1)), some (.box (D.cons (D.ints .u64 12 (fun j => if j = t2.toNat then (iand .u64 t3 r11.1) else m1.f0 j)) (D.cons (D.ints .u64 12 (fun j => if j = t2.toNat then r11.1 else m1.f1 j)) D.nil)))])) rfl (by kernel_rfl) (And.intro p0 (And.intro p1 (And.intro p2 (And.intro p3 trivial)))) ?_
        refine runs_to (ts := [11, 12, 13, 14, 18, 21]) (T' := T_law02_CubeMakes_J2) (env' := [(11, (D.ptr 2 [])), (12, (D.bool t12)), (13, (D.ptr 3 [])), (14, (D.int .i64 t14)), (18, (D.int .i64 r10.2)), (21, (D.ptr 5 []))]) (h2 := [none, none, some (.box (D.cons (D.ints .u64 12 m2.f0) (D.cons (D.ints .u64 12 m2.f1) D.nil))), some (.box (D.cons (D.ints .u64 12 m3.f0) (D.cons (D.ints .u64 12 m3.f1) D.nil))), none, some (.box (D.cons (D.ints .u64 12 (fun j => if j = t2.toNat then (iand .u64 t3 r11.1) else m1.f0 j)) (D.cons (D.ints .u64 12 (fun j => if j = t2.toNat then r11.1 else m1.f1 j)) D.nil)))]) (by kernel_rfl) (by kernel_rfl) (And.intro (.inl rfl) (And.intro (.inl rfl) (And.intro (.inr rfl) (And.intro (.inr rfl) (And.intro (.inl rfl) (And.intro (.inr rfl) trivial)))))) (Nat.zero_le _) (And.intro (And.intro trivial (And.intro trivial trivial)) (And.intro (And.intro trivial (And.intro trivial trivial)) (And.intro (And.intro trivial (And.intro trivial trivial)) trivial))) (And.intro (bel_of rfl) (And.intro trivial (And.intro (bel_of rfl) (And.intro trivial (And.intro trivial (And.intro (bel_of rfl) trivial)))))) ?_
        exact run_law02_CubeMakes_J2 fu t12 t14 r10.2 m2 m3 (S_api_Cube.mk (fun j => if j = t2.toNat then (iand .u64 t3 r11.1) else m1.f0 j) (fun j => if j = t2.toNat then r11.1 else m1.f1 j)) h hk
      · replace h := ifs_false h hb
        refine runs_to (ts := [11, 12, 13, 14, 18, 21]) (T' := T_law02_CubeMakes_J2) (env' := [(11, (D.ptr 2 [])), (12, (D.bool t12)), (13, (D.ptr 3 [])), (14, (D.int .i64 t14)), (18, (D.int .i64 r10.2)), (21, (D.ptr 5 []))]) (h2 := [none, none, some (.box (D.cons (D.ints .u64 12 m2.f0) (D.cons (D.ints .u64 12 m2.f1) D.nil))), some (.box (D.cons (D.ints .u64 12 m3.f0) (D.cons (D.ints .u64 12 m3.f1) D.nil))), none, some (.box (D.cons (D.ints .u64 12 m1.f0) (D.cons (D.ints .u64 12 m1.f1) D.nil)))]) (by kernel_rfl) (by kernel_rfl) (And.intro (.inl rfl) (And.intro (.inl rfl) (And.intro (.inr rfl) (And.intro (.inr rfl) (And.intro (.inl rfl) (And.intro (.inr rfl) trivial)))))) (Nat.zero_le _) (And.intro (And.intro trivial (And.intro trivial trivial)) (And.intro (And.intro trivial (And.intro trivial trivial)) (And.intro (And.intro trivial (And.intro trivial trivial)) trivial))) (And.intro (bel_of rfl) (And.intro trivial (And.intro (bel_of rfl) (And.intro trivial (And.intro trivial (And.intro (bel_of rfl) trivial)))))) ?_
        exact run_law02_CubeMakes_J2 fu t12 t14 r10.2 m2 m3 m1 h hk

/-- podesta/podestalaw02.CubeMakes -/
def F_law02_CubeMakes (fu : Nat) (t0 : (Nat → Int)) (t1 : S_api_Cube) (t2 : Int) (t3 : Int) (t4 : Int) : Option Bool :=
  (F_cube_Exact fu t0).bind fun r0 =>
  (F_cube_With fu t1 t2 t3 t4).bind fun r1 =>
  (F_law02_answers fu).bind fun r2 =>
  (callIf (!(!r2)) (F_ref01_Head fu t0) false).bind fun r3 =>
  (callIf (!(bif (!r2) then true else (!(r0.2 == r3)))) (F_cube_Sound fu t1) false).bind fun r4 =>
  (callIf (!(bif (!r2) then true else (!(r0.2 == r3)))) (F_ref01_Cube fu t1) false).bind fun r5 =>
  (callIf (!(bif (bif (!r2) then true else (!(r0.2 == r3))) then true else (!(r4 == r5)))) (F_cube_All) (S_api_Cube.mk (fun _ => 0) (fun _ => 0))).bind fun r6 =>
  ifs (bif (bif (bif (!r2) then true else (!(r0.2 == r3))) then true else (!(r4 == r5))) then true else (!(((List.range 12).all fun i => r6.f0 i == (fun _ => 0) i) && (((List.range 12).all fun i => r6.f1 i == (fun _ => 0) i) && true)))) (
    some false) (
    ifs r0.2 (
      (F_ref01_Text fu r0.1).bind fun r7 =>
      (F_ref01_Whole fu t0).bind fun r8 =>
      (callIf (!(!(r7.1.toList == r8.toList))) (F_cube_Has fu r0.1 t0) false).bind fun r9 =>
      ifs (bif (!(r7.1.toList == r8.toList)) then true else (!r9)) (
        some false) (
        F_law02_CubeMakes_J1 fu t2 t3 t4 r0.2 r1.2 t1 r0.1 r1.1)) (
      F_law02_CubeMakes_J1 fu t2 t3 t4 r0.2 r1.2 t1 r0.1 r1.1))

theorem run_law02_CubeMakes (fu : Nat) (t0 : (Nat → Int)) (t1 : S_api_Cube) (t2 : Int) (t3 : Int) (t4 : Int) {d : D} {r : Bool} (h : F_law02_CubeMakes fu t0 t1 t2 t3 t4 = some r) (hk : K_law02_CubeMakes d r) : Runs Try.prog Try.f9 0 T_law02_CubeMakes [(0, (D.ints .u64 12 t0)), (1, (D.cons (D.ints .u64 12 t1.f0) (D.cons (D.ints .u64 12 t1.f1) D.nil))), (2, (D.int .i64 t2)), (3, (D.int .u64 t3)), (4, (D.int .i64 t4))] [] d [] := by
  unfold F_law02_CubeMakes at h
  obtain ⟨r0, cr0, h⟩ := Option.bind_eq_some_iff.1 h
  obtain ⟨r1, cr1, h⟩ := Option.bind_eq_some_iff.1 h
  obtain ⟨r2, cr2, h⟩ := Option.bind_eq_some_iff.1 h
  obtain ⟨r3, cr3, h⟩ := Option.bind_eq_some_iff.1 h
  obtain ⟨r4, cr4, h⟩ := Option.bind_eq_some_iff.1 h
  obtain ⟨r5, cr5, h⟩ := Option.bind_eq_some_iff.1 h
  obtain ⟨r6, cr6, h⟩ := Option.bind_eq_some_iff.1 h
  refine runs_regions 4 [([], [2, 3, 4, 5, 6]), ([(.d (D.tup (D.cons (D.cons (D.ints .u64 12 r0.1.f0) (D.cons (D.ints .u64 12 r0.1.f1) D.nil)) (D.cons (D.bool r0.2) D.nil))))], [2, 3, 4, 5, 6, 11, 12]), ([(.d (D.tup (D.cons (D.cons (D.ints .u64 12 r1.1.f0) (D.cons (D.ints .u64 12 r1.1.f1) D.nil)) (D.cons (D.int .i64 r1.2) D.nil))))], [2, 3, 4, 5, 6, 11, 12, 13, 14]), ([(.d (D.bool r2)), (.d (D.bool r3)), (.d (D.bool r4)), (.d (D.bool r5)), (.d (D.cons (D.ints .u64 12 r6.f0) (D.cons (D.ints .u64 12 r6.f1) D.nil)))], [2, 3, 4, 5, 6, 11, 12, 13, 14, 54])] (z := ([FC Try.prog 31 [(D.ints .u64 12 t0)] [] (D.tup (D.cons (D.cons (D.ints .u64 12 r0.1.f0) (D.cons (D.ints .u64 12 r0.1.f1) D.nil)) (D.cons (D.bool r0.2) D.nil))) [], All (List.map NoRow [(D.ints .u64 12 t0)]), FC Try.prog 32 [(D.cons (D.ints .u64 12 t1.f0) (D.cons (D.ints .u64 12 t1.f1) D.nil)), (D.int .i64 t2), (D.int .u64 t3), (D.int .i64 t4)] [] (D.tup (D.cons (D.cons (D.ints .u64 12 r1.1.f0) (D.cons (D.ints .u64 12 r1.1.f1) D.nil)) (D.cons (D.int .i64 r1.2) D.nil))) [], All (List.map NoRow [(D.cons (D.ints .u64 12 t1.f0) (D.cons (D.ints .u64 12 t1.f1) D.nil)), (D.int .i64 t2), (D.int .u64 t3), (D.int .i64 t4)]), FC Try.prog 33 [] [] (D.bool r2) [], All (List.map NoRow []), ((!(!r2)) = true → All [((!(!r2)) = true → (!(!r2)) = true), FC Try.prog 27 [(D.ints .u64 12 t0)] [] (D.bool r3) [], All (List.map NoRow [(D.ints .u64 12 t0)])]), ((!(!r2)) = true → All [((!(!r2)) = true → (!(!r2)) = true), ((!(!r2)) = true → (!(!r2)) = true)]), ((true && !(!r2)) = true → (!(!r2)) = true), ((!(bif (!r2) then true else (!(r0.2 == r3)))) = true → All [((!(bif (!r2) then true else (!(r0.2 == r3)))) = true → (!(bif (!r2) then true else (!(r0.2 == r3)))) = true), FC Try.prog 34 [(D.cons (D.ints .u64 12 t1.f0) (D.cons (D.ints .u64 12 t1.f1) D.nil))] [] (D.bool r4) [], All (List.map NoRow [(D.cons (D.ints .u64 12 t1.f0) (D.cons (D.ints .u64 12 t1.f1) D.nil))])]), ((!(bif (!r2) then true else (!(r0.2 == r3)))) = true → All [((!(bif (!r2) then true else (!(r0.2 == r3)))) = true → (!(bif (!r2) then true else (!(r0.2 == r3)))) = true), FC Try.prog 35 [(D.cons (D.ints .u64 12 t1.f0) (D.cons (D.ints .u64 12 t1.f1) D.nil))] [] (D.bool r5) [], All (List.map NoRow [(D.cons (D.ints .u64 12 t1.f0) (D.cons (D.ints .u64 12 t1.f1) D.nil))])]), ((!(bif (!r2) then true else (!(r0.2 == r3)))) = true → All [((!(bif (!r2) then true else (!(r0.2 == r3)))) = true → (!(bif (!r2) then true else (!(r0.2 == r3)))) = true), ((!(bif (!r2) then true else (!(r0.2 == r3)))) = true → (!(bif (!r2) then true else (!(r0.2 == r3)))) = true)]), ((true && !(bif (!r2) then true else (!(r0.2 == r3)))) = true → (!(bif (!r2) then true else (!(r0.2 == r3)))) = true), ((!(bif (bif (!r2) then true else (!(r0.2 == r3))) then true else (!(r4 == r5)))) = true → All [FC Try.prog 36 [] [] (D.cons (D.ints .u64 12 r6.f0) (D.cons (D.ints .u64 12 r6.f1) D.nil)) [], All (List.map NoRow [])]), ((!(bif (bif (!r2) then true else (!(r0.2 == r3))) then true else (!(r4 == r5)))) = true → All [((!(bif (bif (!r2) then true else (!(r0.2 == r3))) then true else (!(r4 == r5)))) = true → (!(bif (bif (!r2) then true else (!(r0.2 == r3))) then true else (!(r4 == r5)))) = true), ((!(bif (bif (!r2) then true else (!(r0.2 == r3))) then true else (!(r4 == r5)))) = true → (!(bif (bif (!r2) then true else (!(r0.2 == r3))) then true else (!(r4 == r5)))) = true)]), ((true && !(bif (bif (!r2) then true else (!(r0.2 == r3))) then true else (!(r4 == r5)))) = true → (!(bif (bif (!r2) then true else (!(r0.2 == r3))) then true else (!(r4 == r5)))) = true)], [(2, (D.int .i64 t2)), (3, (D.int .u64 t3)), (4, (D.int .i64 t4)), (5, (D.ptr 0 [])), (6, (D.ptr 1 [])), (11, (D.ptr 2 [])), (12, (D.bool r0.2)), (13, (D.ptr 3 [])), (14, (D.int .i64 r1.2)), (54, (D.bool (bif (bif (bif (!r2) then true else (!(r0.2 == r3))) then true else (!(r4 == r5))) then true else (!(((List.range 12).all fun i => r6.f0 i == (fun _ => 0) i) && (((List.range 12).all fun i => r6.f1 i == (fun _ => 0) i) && true))))))], [some (.box (D.ints .u64 12 t0)), some (.box (D.cons (D.ints .u64 12 t1.f0) (D.cons (D.ints .u64 12 t1.f1) D.nil))), some (.box (D.cons (D.ints .u64 12 r0.1.f0) (D.cons (D.ints .u64 12 r0.1.f1) D.nil))), some (.box (D.cons (D.ints .u64 12 r1.1.f0) (D.cons (D.ints .u64 12 r1.1.f1) D.nil)))])) rfl (by kernel_rfl) (And.intro (fc_cube_Exact fu t0 cr0) (And.intro (And.intro trivial trivial) (And.intro (fc_cube_With fu t1 t2 t3 t4 cr1) (And.intro (And.intro (And.intro trivial (And.intro trivial trivial)) (And.intro trivial (And.intro trivial (And.intro trivial trivial)))) (And.intro (fc_law02_answers fu cr2) (And.intro trivial (And.intro (fun hg => (And.intro (by first | exact fun h => h | exact fun h => (Bool.and_eq_true_iff.1 h).1 | simp_all) (And.intro (fc_ref01_Head fu t0 (callIf_some cr3 hg)) (And.intro (And.intro trivial trivial) trivial)))) (And.intro (fun _ => (And.intro (by first | exact fun h => h | exact fun h => (Bool.and_eq_true_iff.1 h).1 | simp_all) (And.intro (by first | exact fun h => h | exact fun h => (Bool.and_eq_true_iff.1 h).1 | simp_all) trivial))) (And.intro (by first | exact fun h => h | exact fun h => (Bool.and_eq_true_iff.1 h).1 | simp_all) (And.intro (fun hg => (And.intro (by first | exact fun h => h | exact fun h => (Bool.and_eq_true_iff.1 h).1 | simp_all) (And.intro (fc_cube_Sound fu t1 (callIf_some cr4 hg)) (And.intro (And.intro (And.intro trivial (And.intro trivial trivial)) trivial) trivial)))) (And.intro (fun hg => (And.intro (by first | exact fun h => h | exact fun h => (Bool.and_eq_true_iff.1 h).1 | simp_all) (And.intro (fc_ref01_Cube fu t1 (callIf_some cr5 hg)) (And.intro (And.intro (And.intro trivial (And.intro trivial trivial)) trivial) trivial)))) (And.intro (fun _ => (And.intro (by first | exact fun h => h | exact fun h => (Bool.and_eq_true_iff.1 h).1 | simp_all) (And.intro (by first | exact fun h => h | exact fun h => (Bool.and_eq_true_iff.1 h).1 | simp_all) trivial))) (And.intro (by first | exact fun h => h | exact fun h => (Bool.and_eq_true_iff.1 h).1 | simp_all) (And.intro (fun hg => (And.intro (fc_cube_All (callIf_some cr6 hg)) (And.intro trivial trivial))) (And.intro (fun _ => (And.intro (by first | exact fun h => h | exact fun h => (Bool.and_eq_true_iff.1 h).1 | simp_all) (And.intro (by first | exact fun h => h | exact fun h => (Bool.and_eq_true_iff.1 h).1 | simp_all) trivial))) (And.intro (by first | exact fun h => h | exact fun h => (Bool.and_eq_true_iff.1 h).1 | simp_all) trivial)))))))))))))))) ?_
  refine runs_if (b := (bif (bif (bif (!r2) then true else (!(r0.2 == r3))) then true else (!(r4 == r5))) then true else (!(((List.range 12).all fun i => r6.f0 i == (fun _ => 0) i) && (((List.range 12).all fun i => r6.f1 i == (fun _ => 0) i) && true))))) (by kernel_rfl) (fun hb => ?_) (fun hb => ?_)
  · replace h := ifs_true h hb
    refine runs_regions 1 [([], [10])] (z := ([], [(10, (D.bool false))], [some (.box (D.ints .u64 12 t0)), some (.box (D.cons (D.ints .u64 12 t1.f0) (D.cons (D.ints .u64 12 t1.f1) D.nil))), some (.box (D.cons (D.ints .u64 12 r0.1.f0) (D.cons (D.ints .u64 12 r0.1.f1) D.nil))), some (.box (D.cons (D.ints .u64 12 r1.1.f0) (D.cons (D.ints .u64 12 r1.1.f1) D.nil)))])) rfl (by kernel_rfl) trivial ?_
    rw [← Option.some.inj h] at hk
    obtain rfl : d = (D.bool false) := hk
    exact runs_ret (by kernel_rfl) trivial (Nat.le_refl 0) trivial trivial
  · replace h := ifs_false h hb
    refine runs_regions 1 [([], [2, 3, 4, 5, 6, 11, 12, 13, 14, 55])] (z := ([], [(2, (D.int .i64 t2)), (3, (D.int .u64 t3)), (4, (D.int .i64 t4)), (5, (D.ptr 0 [])), (6, (D.ptr 1 [])), (11, (D.ptr 2 [])), (12, (D.bool r0.2)), (13, (D.ptr 3 [])), (14, (D.int .i64 r1.2)), (55, (D.bool r0.2))], [some (.box (D.ints .u64 12 t0)), some (.box (D.cons (D.ints .u64 12 t1.f0) (D.cons (D.ints .u64 12 t1.f1) D.nil))), some (.box (D.cons (D.ints .u64 12 r0.1.f0) (D.cons (D.ints .u64 12 r0.1.f1) D.nil))), some (.box (D.cons (D.ints .u64 12 r1.1.f0) (D.cons (D.ints .u64 12 r1.1.f1) D.nil)))])) rfl (by kernel_rfl) trivial ?_
    refine runs_if (b := r0.2) (by kernel_rfl) (fun hb => ?_) (fun hb => ?_)
    · replace h := ifs_true h hb
      obtain ⟨r7, cr7, h⟩ := Option.bind_eq_some_iff.1 h
      obtain ⟨r8, cr8, h⟩ := Option.bind_eq_some_iff.1 h
      obtain ⟨r9, cr9, h⟩ := Option.bind_eq_some_iff.1 h
      refine runs_regions 2 [([(.d (D.tup (D.cons (D.str r7.1) (D.cons (D.bool r7.2) D.nil))))], [2, 3, 4, 5, 6, 11, 12, 13, 14, 15]), ([(.d (D.str r8)), (.d (D.bool r9))], [2, 3, 4, 6, 11, 12, 13, 14, 70])] (z := ([FC Try.prog 37 [(D.cons (D.ints .u64 12 r0.1.f0) (D.cons (D.ints .u64 12 r0.1.f1) D.nil))] [] (D.tup (D.cons (D.str r7.1) (D.cons (D.bool r7.2) D.nil))) [], All (List.map NoRow [(D.cons (D.ints .u64 12 r0.1.f0) (D.cons (D.ints .u64 12 r0.1.f1) D.nil))]), FC Try.prog 38 [(D.ints .u64 12 t0)] [] (D.str r8) [], All (List.map NoRow [(D.ints .u64 12 t0)]), ((!(!(r7.1.toList == r8.toList))) = true → All [((!(!(r7.1.toList == r8.toList))) = true → (!(!(r7.1.toList == r8.toList))) = true), ((!(!(r7.1.toList == r8.toList))) = true → (!(!(r7.1.toList == r8.toList))) = true), FC Try.prog 39 [(D.cons (D.ints .u64 12 r0.1.f0) (D.cons (D.ints .u64 12 r0.1.f1) D.nil)), (D.ints .u64 12 t0)] [] (D.bool r9) [], All (List.map NoRow [(D.cons (D.ints .u64 12 r0.1.f0) (D.cons (D.ints .u64 12 r0.1.f1) D.nil)), (D.ints .u64 12 t0)])]), ((!(!(r7.1.toList == r8.toList))) = true → All [((!(!(r7.1.toList == r8.toList))) = true → (!(!(r7.1.toList == r8.toList))) = true)]), ((true && !(!(r7.1.toList == r8.toList))) = true → (!(!(r7.1.toList == r8.toList))) = true)], [(2, (D.int .i64 t2)), (3, (D.int .u64 t3)), (4, (D.int .i64 t4)), (6, (D.ptr 1 [])), (11, (D.ptr 2 [])), (12, (D.bool r0.2)), (13, (D.ptr 3 [])), (14, (D.int .i64 r1.2)), (70, (D.bool (bif (!(r7.1.toList == r8.toList)) then true else (!r9))))], [some (.box (D.ints .u64 12 t0)), some (.box (D.cons (D.ints .u64 12 t1.f0) (D.cons (D.ints .u64 12 t1.f1) D.nil))), some (.box (D.cons (D.ints .u64 12 r0.1.f0) (D.cons (D.ints .u64 12 r0.1.f1) D.nil))), some (.box (D.cons (D.ints .u64 12 r1.1.f0) (D.cons (D.ints .u64 12 r1.1.f1) D.nil)))])) rfl (by kernel_rfl) (And.intro (fc_ref01_Text fu r0.1 cr7) (And.intro (And.intro (And.intro trivial (And.intro trivial trivial)) trivial) (And.intro (fc_ref01_Whole fu t0 cr8) (And.intro (And.intro trivial trivial) (And.intro (fun hg => (And.intro (by first | exact fun h => h | exact fun h => (Bool.and_eq_true_iff.1 h).1 | simp_all) (And.intro (by first | exact fun h => h | exact fun h => (Bool.and_eq_true_iff.1 h).1 | simp_all) (And.intro (fc_cube_Has fu r0.1 t0 (callIf_some cr9 hg)) (And.intro (And.intro (And.intro trivial (And.intro trivial trivial)) (And.intro trivial trivial)) trivial))))) (And.intro (fun _ => (And.intro (by first | exact fun h => h | exact fun h => (Bool.and_eq_true_iff.1 h).1 | simp_all) trivial)) (And.intro (by first | exact fun h => h | exact fun h => (Bool.and_eq_true_iff.1 h).1 | simp_all) trivial))))))) ?_
      refine runs_if (b := (bif (!(r7.1.toList == r8.toList)) then true else (!r9))) (by kernel_rfl) (fun hb => ?_) (fun hb => ?_)
      · replace h := ifs_true h hb
        refine runs_regions 1 [([], [10])] (z := ([], [(10, (D.bool false))], [some (.box (D.ints .u64 12 t0)), some (.box (D.cons (D.ints .u64 12 t1.f0) (D.cons (D.ints .u64 12 t1.f1) D.nil))), some (.box (D.cons (D.ints .u64 12 r0.1.f0) (D.cons (D.ints .u64 12 r0.1.f1) D.nil))), some (.box (D.cons (D.ints .u64 12 r1.1.f0) (D.cons (D.ints .u64 12 r1.1.f1) D.nil)))])) rfl (by kernel_rfl) trivial ?_
        rw [← Option.some.inj h] at hk
        obtain rfl : d = (D.bool false) := hk
        exact runs_ret (by kernel_rfl) trivial (Nat.le_refl 0) trivial trivial
      · replace h := ifs_false h hb
        refine runs_to (ts := [2, 3, 4, 6, 11, 12, 13, 14]) (T' := T_law02_CubeMakes_J1) (env' := [(2, (D.int .i64 t2)), (3, (D.int .u64 t3)), (4, (D.int .i64 t4)), (6, (D.ptr 1 [])), (11, (D.ptr 2 [])), (12, (D.bool r0.2)), (13, (D.ptr 3 [])), (14, (D.int .i64 r1.2))]) (h2 := [none, some (.box (D.cons (D.ints .u64 12 t1.f0) (D.cons (D.ints .u64 12 t1.f1) D.nil))), some (.box (D.cons (D.ints .u64 12 r0.1.f0) (D.cons (D.ints .u64 12 r0.1.f1) D.nil))), some (.box (D.cons (D.ints .u64 12 r1.1.f0) (D.cons (D.ints .u64 12 r1.1.f1) D.nil)))]) (by kernel_rfl) (by kernel_rfl) (And.intro (.inl rfl) (And.intro (.inr rfl) (And.intro (.inr rfl) (And.intro (.inr rfl) trivial)))) (Nat.zero_le _) (And.intro (And.intro trivial (And.intro trivial trivial)) (And.intro (And.intro trivial (And.intro trivial trivial)) (And.intro (And.intro trivial (And.intro trivial trivial)) trivial))) (And.intro trivial (And.intro trivial (And.intro trivial (And.intro (bel_of rfl) (And.intro (bel_of rfl) (And.intro trivial (And.intro (bel_of rfl) (And.intro trivial trivial)))))))) ?_
        exact run_law02_CubeMakes_J1 fu t2 t3 t4 r0.2 r1.2 t1 r0.1 r1.1 h hk
    · replace h := ifs_false h hb
      refine runs_to (ts := [2, 3, 4, 6, 11, 12, 13, 14]) (T' := T_law02_CubeMakes_J1) (env' := [(2, (D.int .i64 t2)), (3, (D.int .u64 t3)), (4, (D.int .i64 t4)), (6, (D.ptr 1 [])), (11, (D.ptr 2 [])), (12, (D.bool r0.2)), (13, (D.ptr 3 [])), (14, (D.int .i64 r1.2))]) (h2 := [none, some (.box (D.cons (D.ints .u64 12 t1.f0) (D.cons (D.ints .u64 12 t1.f1) D.nil))), some (.box (D.cons (D.ints .u64 12 r0.1.f0) (D.cons (D.ints .u64 12 r0.1.f1) D.nil))), some (.box (D.cons (D.ints .u64 12 r1.1.f0) (D.cons (D.ints .u64 12 r1.1.f1) D.nil)))]) (by kernel_rfl) (by kernel_rfl) (And.intro (.inl rfl) (And.intro (.inr rfl) (And.intro (.inr rfl) (And.intro (.inr rfl) trivial)))) (Nat.zero_le _) (And.intro (And.intro trivial (And.intro trivial trivial)) (And.intro (And.intro trivial (And.intro trivial trivial)) (And.intro (And.intro trivial (And.intro trivial trivial)) trivial))) (And.intro trivial (And.intro trivial (And.intro trivial (And.intro (bel_of rfl) (And.intro (bel_of rfl) (And.intro trivial (And.intro (bel_of rfl) (And.intro trivial trivial)))))))) ?_
      exact run_law02_CubeMakes_J1 fu t2 t3 t4 r0.2 r1.2 t1 r0.1 r1.1 h hk

theorem fc_law02_CubeMakes (fu : Nat) (t0 : (Nat → Int)) (t1 : S_api_Cube) (t2 : Int) (t3 : Int) (t4 : Int) {r : Bool} (h : F_law02_CubeMakes fu t0 t1 t2 t3 t4 = some r) : FC Try.prog 9 [(D.ints .u64 12 t0), (D.cons (D.ints .u64 12 t1.f0) (D.cons (D.ints .u64 12 t1.f1) D.nil)), (D.int .i64 t2), (D.int .u64 t3), (D.int .i64 t4)] [] (D.bool r) [] := by
  refine fc_of_runs (fn := Try.f9) (c := Try.f9.body.getD .skip) (by kernel_rfl) (by kernel_rfl) ?_
  refine runs_to (ts := [0, 1, 2, 3, 4]) (T' := T_law02_CubeMakes) (env' := [(0, (D.ints .u64 12 t0)), (1, (D.cons (D.ints .u64 12 t1.f0) (D.cons (D.ints .u64 12 t1.f1) D.nil))), (2, (D.int .i64 t2)), (3, (D.int .u64 t3)), (4, (D.int .i64 t4))]) (h2 := []) (by kernel_rfl) (by kernel_rfl) trivial (Nat.le_refl 0) trivial (And.intro trivial (And.intro (And.intro trivial (And.intro trivial trivial)) (And.intro trivial (And.intro trivial (And.intro trivial trivial))))) ?_
  exact run_law02_CubeMakes fu t0 t1 t2 t3 t4 h rfl

def K_cube_both (d : D) (r : Bool) : Prop := d = (D.bool r)

noncomputable def T_cube_both : List Item := norm 200 [.code (Try.f59.body.getD .skip)]

/-- podesta/cube.both -/
def F_cube_both (fu : Nat) (t0 : S_api_Cube) (t1 : S_api_Cube) : Option Bool :=
  (F_cube_Sound fu t0).bind fun r0 =>
  (callIf r0 (F_cube_Sound fu t1) false).bind fun r1 =>
  some (bif r0 then r1 else false)

theorem run_cube_both (fu : Nat) (t0 : S_api_Cube) (t1 : S_api_Cube) {d : D} {r : Bool} (h : F_cube_both fu t0 t1 = some r) (hk : K_cube_both d r) : Runs Try.prog Try.f59 0 T_cube_both [(0, (D.cons (D.ints .u64 12 t0.f0) (D.cons (D.ints .u64 12 t0.f1) D.nil))), (1, (D.cons (D.ints .u64 12 t1.f0) (D.cons (D.ints .u64 12 t1.f1) D.nil)))] [] d [] := by
  unfold F_cube_both at h
  obtain ⟨r0, cr0, h⟩ := Option.bind_eq_some_iff.1 h
  obtain ⟨r1, cr1, h⟩ := Option.bind_eq_some_iff.1 h
  refine runs_regions 2 [([], [2, 3]), ([(.d (D.bool r0)), (.d (D.bool r1))], [4])] (z := ([FC Try.prog 34 [(D.cons (D.ints .u64 12 t0.f0) (D.cons (D.ints .u64 12 t0.f1) D.nil))] [] (D.bool r0) [], All (List.map NoRow [(D.cons (D.ints .u64 12 t0.f0) (D.cons (D.ints .u64 12 t0.f1) D.nil))]), (r0 = true → All [(r0 = true → r0 = true), FC Try.prog 34 [(D.cons (D.ints .u64 12 t1.f0) (D.cons (D.ints .u64 12 t1.f1) D.nil))] [] (D.bool r1) [], All (List.map NoRow [(D.cons (D.ints .u64 12 t1.f0) (D.cons (D.ints .u64 12 t1.f1) D.nil))])]), ((true && r0) = true → r0 = true)], [(4, (D.bool (bif r0 then r1 else false)))], [some (.box (D.cons (D.ints .u64 12 t0.f0) (D.cons (D.ints .u64 12 t0.f1) D.nil))), some (.box (D.cons (D.ints .u64 12 t1.f0) (D.cons (D.ints .u64 12 t1.f1) D.nil)))])) rfl (by kernel_rfl) (And.intro (fc_cube_Sound fu t0 cr0) (And.intro (And.intro (And.intro trivial (And.intro trivial trivial)) trivial) (And.intro (fun hg => (And.intro (by first | exact fun h => h | exact fun h => (Bool.and_eq_true_iff.1 h).1 | simp_all) (And.intro (fc_cube_Sound fu t1 (callIf_some cr1 hg)) (And.intro (And.intro (And.intro trivial (And.intro trivial trivial)) trivial) trivial)))) (And.intro (by first | exact fun h => h | exact fun h => (Bool.and_eq_true_iff.1 h).1 | simp_all) trivial)))) ?_
  rw [← Option.some.inj h] at hk
  obtain rfl : d = (D.bool (bif r0 then r1 else false)) := hk
  exact runs_ret (by kernel_rfl) trivial (Nat.le_refl 0) trivial trivial

theorem fc_cube_both (fu : Nat) (t0 : S_api_Cube) (t1 : S_api_Cube) {r : Bool} (h : F_cube_both fu t0 t1 = some r) : FC Try.prog 59 [(D.cons (D.ints .u64 12 t0.f0) (D.cons (D.ints .u64 12 t0.f1) D.nil)), (D.cons (D.ints .u64 12 t1.f0) (D.cons (D.ints .u64 12 t1.f1) D.nil))] [] (D.bool r) [] := by
  refine fc_of_runs (fn := Try.f59) (c := Try.f59.body.getD .skip) (by kernel_rfl) (by kernel_rfl) ?_
  refine runs_to (ts := [0, 1]) (T' := T_cube_both) (env' := [(0, (D.cons (D.ints .u64 12 t0.f0) (D.cons (D.ints .u64 12 t0.f1) D.nil))), (1, (D.cons (D.ints .u64 12 t1.f0) (D.cons (D.ints .u64 12 t1.f1) D.nil)))]) (h2 := []) (by kernel_rfl) (by kernel_rfl) trivial (Nat.le_refl 0) trivial (And.intro (And.intro trivial (And.intro trivial trivial)) (And.intro (And.intro trivial (And.intro trivial trivial)) trivial)) ?_
  exact run_cube_both fu t0 t1 h rfl

def K_cube_Meet (d : D) (r : (S_api_Cube × Bool)) : Prop := d = (D.tup (D.cons (D.cons (D.ints .u64 12 r.1.f0) (D.cons (D.ints .u64 12 r.1.f1) D.nil)) (D.cons (D.bool r.2) D.nil)))

noncomputable def T_cube_Meet : List Item := norm 200 [.code (Try.f40.body.getD .skip)]

noncomputable def T_cube_Meet_L1 : List Item := norm 200 (nxt (cndF (nxt (nxt T_cube_Meet))))

noncomputable def X_cube_Meet_L1T : List Item := norm 200 (cndF (nxt (nxt (cndF (nxt (nxt T_cube_Meet))))))

abbrev E_cube_Meet_L1 := S_api_Cube

def N_cube_Meet_L1 (_fu : Nat) (m1 : S_api_Cube) (m2 : S_api_Cube) (d : D) (s : (Int × S_api_Cube)) : Prop := Runs Try.prog Try.f40 0 T_cube_Meet_L1 [(2, (D.ptr 0 [])), (3, (D.ptr 1 [])), (4, (D.ptr 2 [])), (12, (D.int .i64 s.1))] [some (.box (D.cons (D.ints .u64 12 s.2.f0) (D.cons (D.ints .u64 12 s.2.f1) D.nil))), some (.box (D.cons (D.ints .u64 12 m1.f0) (D.cons (D.ints .u64 12 m1.f1) D.nil))), some (.box (D.cons (D.ints .u64 12 m2.f0) (D.cons (D.ints .u64 12 m2.f1) D.nil)))] d []

def X_cube_Meet_L1 (_fu : Nat) (_m1 : S_api_Cube) (m2 : S_api_Cube) (d : D) : E_cube_Meet_L1 ⊕ (S_api_Cube × Bool) → Prop
  | .inl e => Runs Try.prog Try.f40 0 X_cube_Meet_L1T [(2, (D.ptr 0 [])), (4, (D.ptr 2 []))] [some (.box (D.cons (D.ints .u64 12 e.f0) (D.cons (D.ints .u64 12 e.f1) D.nil))), none, some (.box (D.cons (D.ints .u64 12 m2.f0) (D.cons (D.ints .u64 12 m2.f1) D.nil)))] d []
  | .inr o => (K_cube_Meet d) o

def F_cube_Meet_L1 (_fu : Nat) (m1 : S_api_Cube) (_m2 : S_api_Cube) (t12 : Int) (m0 : S_api_Cube) : Option (Lo (Int × S_api_Cube) E_cube_Meet_L1 (S_api_Cube × Bool)) :=
  ifs (decide (t12 < (12 : Int))) (
    chk (0 ≤ t12 ∧ t12 < ((12 : Nat) : Int)) <|
    chk (t12.toNat < 12) <|
    chk (0 ≤ t12 ∧ t12 < ((12 : Nat) : Int)) <|
    chk (t12.toNat < 12) <|
    chk (0 ≤ t12 ∧ t12 < ((12 : Nat) : Int)) <|
    chk (t12.toNat < 12) <|
    chk (0 ≤ t12 ∧ t12 < ((12 : Nat) : Int)) <|
    chk (t12.toNat < 12) <|
    ifs ((iand .u64 (iand .u64 (ixor .u64 (m0.f0 t12.toNat) (m1.f0 t12.toNat)) (m0.f1 t12.toNat)) (m1.f1 t12.toNat)) != (0 : Int)) (
      some (.ret ((S_api_Cube.mk (fun _ => 0) (fun _ => 0)), false))) (
      chk (0 ≤ t12 ∧ t12 < ((12 : Nat) : Int)) <|
      chk (t12.toNat < 12) <|
      chk (0 ≤ t12 ∧ t12 < ((12 : Nat) : Int)) <|
      chk (t12.toNat < 12) <|
      chk (0 ≤ t12 ∧ t12 < ((12 : Nat) : Int)) <|
      chk (t12.toNat < 12) <|
      chk (0 ≤ t12 ∧ t12 < ((12 : Nat) : Int)) <|
      chk (t12.toNat < 12) <|
      chk (0 ≤ t12 ∧ t12 < ((12 : Nat) : Int)) <|
      chk (t12.toNat < 12) <|
      chk (0 ≤ t12 ∧ t12 < ((12 : Nat) : Int)) <|
      chk (t12.toNat < 12) <|
      some (.next ((IntKind.wrap .i64 (t12 + (1 : Int))), (S_api_Cube.mk (fun j => if j = t12.toNat then (ior .u64 (m0.f0 t12.toNat) (m1.f0 t12.toNat)) else m0.f0 j) (fun j => if j = t12.toNat then (ior .u64 (m0.f1 t12.toNat) (m1.f1 t12.toNat)) else m0.f1 j)))))) (
    some (.exit m0))

theorem run_cube_Meet_L1 (fu : Nat) (m1 : S_api_Cube) (m2 : S_api_Cube) (t12 : Int) (m0 : S_api_Cube) {d : D} {o : (Lo (Int × S_api_Cube) E_cube_Meet_L1 (S_api_Cube × Bool))} (h : F_cube_Meet_L1 fu m1 m2 t12 m0 = some o) (hk : (Lo.post (N_cube_Meet_L1 fu m1 m2 d) (X_cube_Meet_L1 fu m1 m2 d)) o) : Runs Try.prog Try.f40 0 T_cube_Meet_L1 [(2, (D.ptr 0 [])), (3, (D.ptr 1 [])), (4, (D.ptr 2 [])), (12, (D.int .i64 t12))] [some (.box (D.cons (D.ints .u64 12 m0.f0) (D.cons (D.ints .u64 12 m0.f1) D.nil))), some (.box (D.cons (D.ints .u64 12 m1.f0) (D.cons (D.ints .u64 12 m1.f1) D.nil))), some (.box (D.cons (D.ints .u64 12 m2.f0) (D.cons (D.ints .u64 12 m2.f1) D.nil)))] d [] := by
  unfold F_cube_Meet_L1 at h
  refine runs_regions 1 [([], [2, 3, 4, 12, 13])] (z := ([], [(2, (D.ptr 0 [])), (3, (D.ptr 1 [])), (4, (D.ptr 2 [])), (12, (D.int .i64 t12)), (13, (D.bool (decide (t12 < (12 : Int)))))], [some (.box (D.cons (D.ints .u64 12 m0.f0) (D.cons (D.ints .u64 12 m0.f1) D.nil))), some (.box (D.cons (D.ints .u64 12 m1.f0) (D.cons (D.ints .u64 12 m1.f1) D.nil))), some (.box (D.cons (D.ints .u64 12 m2.f0) (D.cons (D.ints .u64 12 m2.f1) D.nil)))])) rfl (by kernel_rfl) trivial ?_
  refine runs_if (b := (decide (t12 < (12 : Int)))) (by kernel_rfl) (fun hb => ?_) (fun hb => ?_)
  · replace h := ifs_true h hb
    obtain ⟨p0, h⟩ := chk_some h
    obtain ⟨p1, h⟩ := chk_some h
    obtain ⟨p2, h⟩ := chk_some h
    obtain ⟨p3, h⟩ := chk_some h
    obtain ⟨p4, h⟩ := chk_some h
    obtain ⟨p5, h⟩ := chk_some h
    obtain ⟨p6, h⟩ := chk_some h
    obtain ⟨p7, h⟩ := chk_some h
    refine runs_regions 2 [([], [2, 3, 4, 6, 12]), ([], [2, 3, 4, 6, 12, 34])] (z := ([(0 ≤ t12 ∧ t12 < ((12 : Nat) : Int)), (t12.toNat < 12), (0 ≤ t12 ∧ t12 < ((12 : Nat) : Int)), (t12.toNat < 12), (0 ≤ t12 ∧ t12 < ((12 : Nat) : Int)), (t12.toNat < 12), (0 ≤ t12 ∧ t12 < ((12 : Nat) : Int)), (t12.toNat < 12)], [(2, (D.ptr 0 [])), (3, (D.ptr 1 [])), (4, (D.ptr 2 [])), (6, (D.int .i64 t12)), (12, (D.int .i64 t12)), (34, (D.bool ((iand .u64 (iand .u64 (ixor .u64 (m0.f0 t12.toNat) (m1.f0 t12.toNat)) (m0.f1 t12.toNat)) (m1.f1 t12.toNat)) != (0 : Int))))], [some (.box (D.cons (D.ints .u64 12 m0.f0) (D.cons (D.ints .u64 12 m0.f1) D.nil))), some (.box (D.cons (D.ints .u64 12 m1.f0) (D.cons (D.ints .u64 12 m1.f1) D.nil))), some (.box (D.cons (D.ints .u64 12 m2.f0) (D.cons (D.ints .u64 12 m2.f1) D.nil)))])) rfl (by kernel_rfl) (And.intro p0 (And.intro p1 (And.intro p2 (And.intro p3 (And.intro p4 (And.intro p5 (And.intro p6 (And.intro p7 trivial)))))))) ?_
    refine runs_if (b := ((iand .u64 (iand .u64 (ixor .u64 (m0.f0 t12.toNat) (m1.f0 t12.toNat)) (m0.f1 t12.toNat)) (m1.f1 t12.toNat)) != (0 : Int))) (by kernel_rfl) (fun hb => ?_) (fun hb => ?_)
    · replace h := ifs_true h hb
      refine runs_regions 1 [([], [4, 5])] (z := ([], [(4, (D.ptr 2 [])), (5, (D.bool false))], [some (.box (D.cons (D.ints .u64 12 m0.f0) (D.cons (D.ints .u64 12 m0.f1) D.nil))), some (.box (D.cons (D.ints .u64 12 m1.f0) (D.cons (D.ints .u64 12 m1.f1) D.nil))), some (.box (D.cons (D.ints .u64 12 (fun _ => 0)) (D.cons (D.ints .u64 12 (fun _ => 0)) D.nil)))])) rfl (by kernel_rfl) trivial ?_
      rw [← Option.some.inj h] at hk
      obtain rfl : d = (D.tup (D.cons (D.cons (D.ints .u64 12 (fun _ => 0)) (D.cons (D.ints .u64 12 (fun _ => 0)) D.nil)) (D.cons (D.bool false) D.nil))) := hk
      exact runs_ret (by kernel_rfl) trivial (Nat.le_refl 0) trivial (And.intro (And.intro trivial (And.intro trivial trivial)) (And.intro trivial trivial))
    · replace h := ifs_false h hb
      obtain ⟨p8, h⟩ := chk_some h
      obtain ⟨p9, h⟩ := chk_some h
      obtain ⟨p10, h⟩ := chk_some h
      obtain ⟨p11, h⟩ := chk_some h
      obtain ⟨p12, h⟩ := chk_some h
      obtain ⟨p13, h⟩ := chk_some h
      obtain ⟨p14, h⟩ := chk_some h
      obtain ⟨p15, h⟩ := chk_some h
      obtain ⟨p16, h⟩ := chk_some h
      obtain ⟨p17, h⟩ := chk_some h
      obtain ⟨p18, h⟩ := chk_some h
      obtain ⟨p19, h⟩ := chk_some h
      refine runs_regions 3 [([], [2, 3, 4, 6, 12]), ([], [2, 3, 4, 12]), ([], [2, 3, 4, 12])] (z := ([(0 ≤ t12 ∧ t12 < ((12 : Nat) : Int)), (t12.toNat < 12), (0 ≤ t12 ∧ t12 < ((12 : Nat) : Int)), (t12.toNat < 12), (0 ≤ t12 ∧ t12 < ((12 : Nat) : Int)), (t12.toNat < 12), (0 ≤ t12 ∧ t12 < ((12 : Nat) : Int)), (t12.toNat < 12), (0 ≤ t12 ∧ t12 < ((12 : Nat) : Int)), (t12.toNat < 12), (0 ≤ t12 ∧ t12 < ((12 : Nat) : Int)), (t12.toNat < 12)], [(2, (D.ptr 0 [])), (3, (D.ptr 1 [])), (4, (D.ptr 2 [])), (12, (D.int .i64 (IntKind.wrap .i64 (t12 + (1 : Int)))))], [some (.box (D.cons (D.ints .u64 12 (fun j => if j = t12.toNat then (ior .u64 (m0.f0 t12.toNat) (m1.f0 t12.toNat)) else m0.f0 j)) (D.cons (D.ints .u64 12 (fun j => if j = t12.toNat then (ior .u64 (m0.f1 t12.toNat) (m1.f1 t12.toNat)) else m0.f1 j)) D.nil))), some (.box (D.cons (D.ints .u64 12 m1.f0) (D.cons (D.ints .u64 12 m1.f1) D.nil))), some (.box (D.cons (D.ints .u64 12 m2.f0) (D.cons (D.ints .u64 12 m2.f1) D.nil)))])) rfl (by kernel_rfl) (And.intro p8 (And.intro p9 (And.intro p10 (And.intro p11 (And.intro p12 (And.intro p13 (And.intro p14 (And.intro p15 (And.intro p16 (And.intro p17 (And.intro p18 (And.intro p19 trivial)))))))))))) ?_
      rw [← Option.some.inj h] at hk
      refine runs_to (ts := [2, 3, 4, 12]) (T' := T_cube_Meet_L1) (env' := [(2, (D.ptr 0 [])), (3, (D.ptr 1 [])), (4, (D.ptr 2 [])), (12, (D.int .i64 (IntKind.wrap .i64 (t12 + (1 : Int)))))]) (h2 := [some (.box (D.cons (D.ints .u64 12 (fun j => if j = t12.toNat then (ior .u64 (m0.f0 t12.toNat) (m1.f0 t12.toNat)) else m0.f0 j)) (D.cons (D.ints .u64 12 (fun j => if j = t12.toNat then (ior .u64 (m0.f1 t12.toNat) (m1.f1 t12.toNat)) else m0.f1 j)) D.nil))), some (.box (D.cons (D.ints .u64 12 m1.f0) (D.cons (D.ints .u64 12 m1.f1) D.nil))), some (.box (D.cons (D.ints .u64 12 m2.f0) (D.cons (D.ints .u64 12 m2.f1) D.nil)))]) (by kernel_rfl) (by kernel_rfl) (And.intro (.inr rfl) (And.intro (.inr rfl) (And.intro (.inr rfl) trivial))) (Nat.zero_le _) (And.intro (And.intro trivial (And.intro trivial trivial)) (And.intro (And.intro trivial (And.intro trivial trivial)) (And.intro (And.intro trivial (And.intro trivial trivial)) trivial))) (And.intro (bel_of rfl) (And.intro (bel_of rfl) (And.intro (bel_of rfl) (And.intro trivial trivial)))) ?_
      exact hk
  · replace h := ifs_false h hb
    rw [← Option.some.inj h] at hk
    refine runs_to (ts := [2, 4]) (T' := X_cube_Meet_L1T) (env' := [(2, (D.ptr 0 [])), (4, (D.ptr 2 []))]) (h2 := [some (.box (D.cons (D.ints .u64 12 m0.f0) (D.cons (D.ints .u64 12 m0.f1) D.nil))), none, some (.box (D.cons (D.ints .u64 12 m2.f0) (D.cons (D.ints .u64 12 m2.f1) D.nil)))]) (by kernel_rfl) (by kernel_rfl) (And.intro (.inr rfl) (And.intro (.inl rfl) (And.intro (.inr rfl) trivial))) (Nat.zero_le _) (And.intro (And.intro trivial (And.intro trivial trivial)) (And.intro (And.intro trivial (And.intro trivial trivial)) trivial)) (And.intro (bel_of rfl) (And.intro (bel_of rfl) trivial)) ?_
    exact hk

theorem iter_cube_Meet_L1 (fu : Nat) (m1 : S_api_Cube) (m2 : S_api_Cube) {d : D} (k : Nat) (s : (Int × S_api_Cube)) {o : E_cube_Meet_L1 ⊕ (S_api_Cube × Bool)} (h : iter (fun s => F_cube_Meet_L1 fu m1 m2 s.1 s.2) k s = some o) (hx : X_cube_Meet_L1 fu m1 m2 d o) : N_cube_Meet_L1 fu m1 m2 d s :=
  iter_post (K := N_cube_Meet_L1 fu m1 m2 d) (X := X_cube_Meet_L1 fu m1 m2 d) (fun s _ h hk => run_cube_Meet_L1 fu m1 m2 s.1 s.2 h hk) k s o h hx

/-- podesta/cube.Meet -/
def F_cube_Meet (fu : Nat) (t0 : S_api_Cube) (t1 : S_api_Cube) : Option (S_api_Cube × Bool) :=
  (F_cube_both fu t0 t1).bind fun r0 =>
  ifs (!r0) (
    some ((S_api_Cube.mk (fun _ => 0) (fun _ => 0)), false)) (
    after (iter (fun s => F_cube_Meet_L1 fu t1 (S_api_Cube.mk (fun _ => 0) (fun _ => 0)) s.1 s.2) fu ((0 : Int), t0)) fun e21 =>
    some (e21, true))

theorem run_cube_Meet (fu : Nat) (t0 : S_api_Cube) (t1 : S_api_Cube) {d : D} {r : (S_api_Cube × Bool)} (h : F_cube_Meet fu t0 t1 = some r) (hk : K_cube_Meet d r) : Runs Try.prog Try.f40 0 T_cube_Meet [(0, (D.cons (D.ints .u64 12 t0.f0) (D.cons (D.ints .u64 12 t0.f1) D.nil))), (1, (D.cons (D.ints .u64 12 t1.f0) (D.cons (D.ints .u64 12 t1.f1) D.nil)))] [] d [] := by
  unfold F_cube_Meet at h
  obtain ⟨r0, cr0, h⟩ := Option.bind_eq_some_iff.1 h
  refine runs_regions 2 [([], [2, 3, 4]), ([(.d (D.bool r0))], [2, 3, 4, 10])] (z := ([FC Try.prog 59 [(D.cons (D.ints .u64 12 t0.f0) (D.cons (D.ints .u64 12 t0.f1) D.nil)), (D.cons (D.ints .u64 12 t1.f0) (D.cons (D.ints .u64 12 t1.f1) D.nil))] [] (D.bool r0) [], All (List.map NoRow [(D.cons (D.ints .u64 12 t0.f0) (D.cons (D.ints .u64 12 t0.f1) D.nil)), (D.cons (D.ints .u64 12 t1.f0) (D.cons (D.ints .u64 12 t1.f1) D.nil))])], [(2, (D.ptr 0 [])), (3, (D.ptr 1 [])), (4, (D.ptr 2 [])), (10, (D.bool (!r0)))], [some (.box (D.cons (D.ints .u64 12 t0.f0) (D.cons (D.ints .u64 12 t0.f1) D.nil))), some (.box (D.cons (D.ints .u64 12 t1.f0) (D.cons (D.ints .u64 12 t1.f1) D.nil))), some (.box (D.cons (D.ints .u64 12 (fun _ => 0)) (D.cons (D.ints .u64 12 (fun _ => 0)) D.nil)))])) rfl (by kernel_rfl) (And.intro (fc_cube_both fu t0 t1 cr0) (And.intro (And.intro (And.intro trivial (And.intro trivial trivial)) (And.intro (And.intro trivial (And.intro trivial trivial)) trivial)) trivial)) ?_
  refine runs_if (b := (!r0)) (by kernel_rfl) (fun hb => ?_) (fun hb => ?_)
  · replace h := ifs_true h hb
    refine runs_regions 1 [([], [4, 5])] (z := ([], [(4, (D.ptr 2 [])), (5, (D.bool false))], [some (.box (D.cons (D.ints .u64 12 t0.f0) (D.cons (D.ints .u64 12 t0.f1) D.nil))), some (.box (D.cons (D.ints .u64 12 t1.f0) (D.cons (D.ints .u64 12 t1.f1) D.nil))), some (.box (D.cons (D.ints .u64 12 (fun _ => 0)) (D.cons (D.ints .u64 12 (fun _ => 0)) D.nil)))])) rfl (by kernel_rfl) trivial ?_
    rw [← Option.some.inj h] at hk
    obtain rfl : d = (D.tup (D.cons (D.cons (D.ints .u64 12 (fun _ => 0)) (D.cons (D.ints .u64 12 (fun _ => 0)) D.nil)) (D.cons (D.bool false) D.nil))) := hk
    exact runs_ret (by kernel_rfl) trivial (Nat.le_refl 0) trivial (And.intro (And.intro trivial (And.intro trivial trivial)) (And.intro trivial trivial))
  · replace h := ifs_false h hb
    refine runs_regions 1 [([], [2, 3, 4, 12])] (z := ([], [(2, (D.ptr 0 [])), (3, (D.ptr 1 [])), (4, (D.ptr 2 [])), (12, (D.int .i64 (0 : Int)))], [some (.box (D.cons (D.ints .u64 12 t0.f0) (D.cons (D.ints .u64 12 t0.f1) D.nil))), some (.box (D.cons (D.ints .u64 12 t1.f0) (D.cons (D.ints .u64 12 t1.f1) D.nil))), some (.box (D.cons (D.ints .u64 12 (fun _ => 0)) (D.cons (D.ints .u64 12 (fun _ => 0)) D.nil)))])) rfl (by kernel_rfl) trivial ?_
    refine runs_to (ts := [2, 3, 4, 12]) (T' := T_cube_Meet_L1) (env' := [(2, (D.ptr 0 [])), (3, (D.ptr 1 [])), (4, (D.ptr 2 [])), (12, (D.int .i64 (0 : Int)))]) (h2 := [some (.box (D.cons (D.ints .u64 12 t0.f0) (D.cons (D.ints .u64 12 t0.f1) D.nil))), some (.box (D.cons (D.ints .u64 12 t1.f0) (D.cons (D.ints .u64 12 t1.f1) D.nil))), some (.box (D.cons (D.ints .u64 12 (fun _ => 0)) (D.cons (D.ints .u64 12 (fun _ => 0)) D.nil)))]) (by kernel_rfl) (by kernel_rfl) (And.intro (.inr rfl) (And.intro (.inr rfl) (And.intro (.inr rfl) trivial))) (Nat.zero_le _) (And.intro (And.intro trivial (And.intro trivial trivial)) (And.intro (And.intro trivial (And.intro trivial trivial)) (And.intro (And.intro trivial (And.intro trivial trivial)) trivial))) (And.intro (bel_of rfl) (And.intro (bel_of rfl) (And.intro (bel_of rfl) (And.intro trivial trivial)))) ?_
    rcases after_some h with ⟨e21, hi, h⟩ | hi
    · refine iter_cube_Meet_L1 fu t1 (S_api_Cube.mk (fun _ => 0) (fun _ => 0)) fu ((0 : Int), t0) hi ?_
      show Runs Try.prog Try.f40 0 X_cube_Meet_L1T [(2, (D.ptr 0 [])), (4, (D.ptr 2 []))] [some (.box (D.cons (D.ints .u64 12 e21.f0) (D.cons (D.ints .u64 12 e21.f1) D.nil))), none, some (.box (D.cons (D.ints .u64 12 (fun _ => 0)) (D.cons (D.ints .u64 12 (fun _ => 0)) D.nil)))] d []
      refine runs_regions 1 [([], [4, 5])] (z := ([], [(4, (D.ptr 2 [])), (5, (D.bool true))], [some (.box (D.cons (D.ints .u64 12 e21.f0) (D.cons (D.ints .u64 12 e21.f1) D.nil))), none, some (.box (D.cons (D.ints .u64 12 e21.f0) (D.cons (D.ints .u64 12 e21.f1) D.nil)))])) rfl (by kernel_rfl) trivial ?_
      rw [← Option.some.inj h] at hk
      obtain rfl : d = (D.tup (D.cons (D.cons (D.ints .u64 12 e21.f0) (D.cons (D.ints .u64 12 e21.f1) D.nil)) (D.cons (D.bool true) D.nil))) := hk
      exact runs_ret (by kernel_rfl) trivial (Nat.le_refl 0) trivial (And.intro (And.intro trivial (And.intro trivial trivial)) (And.intro trivial trivial))
    · exact iter_cube_Meet_L1 fu t1 (S_api_Cube.mk (fun _ => 0) (fun _ => 0)) fu ((0 : Int), t0) hi hk

theorem fc_cube_Meet (fu : Nat) (t0 : S_api_Cube) (t1 : S_api_Cube) {r : (S_api_Cube × Bool)} (h : F_cube_Meet fu t0 t1 = some r) : FC Try.prog 40 [(D.cons (D.ints .u64 12 t0.f0) (D.cons (D.ints .u64 12 t0.f1) D.nil)), (D.cons (D.ints .u64 12 t1.f0) (D.cons (D.ints .u64 12 t1.f1) D.nil))] [] (D.tup (D.cons (D.cons (D.ints .u64 12 r.1.f0) (D.cons (D.ints .u64 12 r.1.f1) D.nil)) (D.cons (D.bool r.2) D.nil))) [] := by
  refine fc_of_runs (fn := Try.f40) (c := Try.f40.body.getD .skip) (by kernel_rfl) (by kernel_rfl) ?_
  refine runs_to (ts := [0, 1]) (T' := T_cube_Meet) (env' := [(0, (D.cons (D.ints .u64 12 t0.f0) (D.cons (D.ints .u64 12 t0.f1) D.nil))), (1, (D.cons (D.ints .u64 12 t1.f0) (D.cons (D.ints .u64 12 t1.f1) D.nil)))]) (h2 := []) (by kernel_rfl) (by kernel_rfl) trivial (Nat.le_refl 0) trivial (And.intro (And.intro trivial (And.intro trivial trivial)) (And.intro (And.intro trivial (And.intro trivial trivial)) trivial)) ?_
  exact run_cube_Meet fu t0 t1 h rfl

def K_law02_CubeThree (d : D) (r : Bool) : Prop := d = (D.bool r)

noncomputable def T_law02_CubeThree : List Item := norm 200 [.code (Try.f10.body.getD .skip)]

/-- podesta/podestalaw02.CubeThree -/
def F_law02_CubeThree (fu : Nat) (t0 : S_api_Cube) (t1 : S_api_Cube) (t2 : S_api_Cube) : Option Bool :=
  (F_cube_Meet fu t0 t1).bind fun r0 =>
  (F_cube_Meet fu r0.1 t2).bind fun r1 =>
  (F_cube_Meet fu t1 t2).bind fun r2 =>
  (F_cube_Meet fu t0 r2.1).bind fun r3 =>
  (F_law02_answers fu).bind fun r4 =>
  some (bif (bif r4 then ((bif r0.2 then r1.2 else false) == (bif r2.2 then r3.2 else false)) else false) then (bif (bif (!r0.2) then true else (!r1.2)) then true else (((List.range 12).all fun i => r1.1.f0 i == r3.1.f0 i) && (((List.range 12).all fun i => r1.1.f1 i == r3.1.f1 i) && true))) else false)

theorem run_law02_CubeThree (fu : Nat) (t0 : S_api_Cube) (t1 : S_api_Cube) (t2 : S_api_Cube) {d : D} {r : Bool} (h : F_law02_CubeThree fu t0 t1 t2 = some r) (hk : K_law02_CubeThree d r) : Runs Try.prog Try.f10 0 T_law02_CubeThree [(0, (D.cons (D.ints .u64 12 t0.f0) (D.cons (D.ints .u64 12 t0.f1) D.nil))), (1, (D.cons (D.ints .u64 12 t1.f0) (D.cons (D.ints .u64 12 t1.f1) D.nil))), (2, (D.cons (D.ints .u64 12 t2.f0) (D.cons (D.ints .u64 12 t2.f1) D.nil)))] [] d [] := by
  unfold F_law02_CubeThree at h
  obtain ⟨r0, cr0, h⟩ := Option.bind_eq_some_iff.1 h
  obtain ⟨r1, cr1, h⟩ := Option.bind_eq_some_iff.1 h
  obtain ⟨r2, cr2, h⟩ := Option.bind_eq_some_iff.1 h
  obtain ⟨r3, cr3, h⟩ := Option.bind_eq_some_iff.1 h
  obtain ⟨r4, cr4, h⟩ := Option.bind_eq_some_iff.1 h
  refine runs_regions 6 [([], [3, 4, 5]), ([(.d (D.tup (D.cons (D.cons (D.ints .u64 12 r0.1.f0) (D.cons (D.ints .u64 12 r0.1.f1) D.nil)) (D.cons (D.bool r0.2) D.nil))))], [3, 4, 5, 7, 8]), ([(.d (D.tup (D.cons (D.cons (D.ints .u64 12 r1.1.f0) (D.cons (D.ints .u64 12 r1.1.f1) D.nil)) (D.cons (D.bool r1.2) D.nil))))], [3, 4, 5, 8, 9, 10]), ([(.d (D.tup (D.cons (D.cons (D.ints .u64 12 r2.1.f0) (D.cons (D.ints .u64 12 r2.1.f1) D.nil)) (D.cons (D.bool r2.2) D.nil))))], [3, 8, 9, 10, 11, 12]), ([(.d (D.tup (D.cons (D.cons (D.ints .u64 12 r3.1.f0) (D.cons (D.ints .u64 12 r3.1.f1) D.nil)) (D.cons (D.bool r3.2) D.nil))))], [8, 9, 10, 12, 13, 14]), ([(.d (D.bool r4))], [6])] (z := ([FC Try.prog 40 [(D.cons (D.ints .u64 12 t0.f0) (D.cons (D.ints .u64 12 t0.f1) D.nil)), (D.cons (D.ints .u64 12 t1.f0) (D.cons (D.ints .u64 12 t1.f1) D.nil))] [] (D.tup (D.cons (D.cons (D.ints .u64 12 r0.1.f0) (D.cons (D.ints .u64 12 r0.1.f1) D.nil)) (D.cons (D.bool r0.2) D.nil))) [], All (List.map NoRow [(D.cons (D.ints .u64 12 t0.f0) (D.cons (D.ints .u64 12 t0.f1) D.nil)), (D.cons (D.ints .u64 12 t1.f0) (D.cons (D.ints .u64 12 t1.f1) D.nil))]), FC Try.prog 40 [(D.cons (D.ints .u64 12 r0.1.f0) (D.cons (D.ints .u64 12 r0.1.f1) D.nil)), (D.cons (D.ints .u64 12 t2.f0) (D.cons (D.ints .u64 12 t2.f1) D.nil))] [] (D.tup (D.cons (D.cons (D.ints .u64 12 r1.1.f0) (D.cons (D.ints .u64 12 r1.1.f1) D.nil)) (D.cons (D.bool r1.2) D.nil))) [], All (List.map NoRow [(D.cons (D.ints .u64 12 r0.1.f0) (D.cons (D.ints .u64 12 r0.1.f1) D.nil)), (D.cons (D.ints .u64 12 t2.f0) (D.cons (D.ints .u64 12 t2.f1) D.nil))]), FC Try.prog 40 [(D.cons (D.ints .u64 12 t1.f0) (D.cons (D.ints .u64 12 t1.f1) D.nil)), (D.cons (D.ints .u64 12 t2.f0) (D.cons (D.ints .u64 12 t2.f1) D.nil))] [] (D.tup (D.cons (D.cons (D.ints .u64 12 r2.1.f0) (D.cons (D.ints .u64 12 r2.1.f1) D.nil)) (D.cons (D.bool r2.2) D.nil))) [], All (List.map NoRow [(D.cons (D.ints .u64 12 t1.f0) (D.cons (D.ints .u64 12 t1.f1) D.nil)), (D.cons (D.ints .u64 12 t2.f0) (D.cons (D.ints .u64 12 t2.f1) D.nil))]), FC Try.prog 40 [(D.cons (D.ints .u64 12 t0.f0) (D.cons (D.ints .u64 12 t0.f1) D.nil)), (D.cons (D.ints .u64 12 r2.1.f0) (D.cons (D.ints .u64 12 r2.1.f1) D.nil))] [] (D.tup (D.cons (D.cons (D.ints .u64 12 r3.1.f0) (D.cons (D.ints .u64 12 r3.1.f1) D.nil)) (D.cons (D.bool r3.2) D.nil))) [], All (List.map NoRow [(D.cons (D.ints .u64 12 t0.f0) (D.cons (D.ints .u64 12 t0.f1) D.nil)), (D.cons (D.ints .u64 12 r2.1.f0) (D.cons (D.ints .u64 12 r2.1.f1) D.nil))]), FC Try.prog 33 [] [] (D.bool r4) [], All (List.map NoRow []), (r4 = true → All [(r4 = true → r4 = true)]), (r4 = true → All [(r4 = true → r4 = true), ((r4 && r0.2) = true → (r4 && r0.2) = true)]), (r4 = true → All [(r4 = true → r4 = true)]), (r4 = true → All [(r4 = true → r4 = true), ((r4 && r2.2) = true → (r4 && r2.2) = true)]), (r4 = true → All [(r4 = true → r4 = true), (r4 = true → r4 = true)]), ((true && r4) = true → r4 = true), ((bif r4 then ((bif r0.2 then r1.2 else false) == (bif r2.2 then r3.2 else false)) else false) = true → All [((bif r4 then ((bif r0.2 then r1.2 else false) == (bif r2.2 then r3.2 else false)) else false) = true → (bif r4 then ((bif r0.2 then r1.2 else false) == (bif r2.2 then r3.2 else false)) else false) = true)]), ((bif r4 then ((bif r0.2 then r1.2 else false) == (bif r2.2 then r3.2 else false)) else false) = true → All [((bif r4 then ((bif r0.2 then r1.2 else false) == (bif r2.2 then r3.2 else false)) else false) = true → (bif r4 then ((bif r0.2 then r1.2 else false) == (bif r2.2 then r3.2 else false)) else false) = true)]), (((bif r4 then ((bif r0.2 then r1.2 else false) == (bif r2.2 then r3.2 else false)) else false) && (!(!r0.2))) = true → All [(((bif r4 then ((bif r0.2 then r1.2 else false) == (bif r2.2 then r3.2 else false)) else false) && (!(!r0.2))) = true → ((bif r4 then ((bif r0.2 then r1.2 else false) == (bif r2.2 then r3.2 else false)) else false) && (!(!r0.2))) = true)]), ((bif r4 then ((bif r0.2 then r1.2 else false) == (bif r2.2 then r3.2 else false)) else false) = true → All [((bif r4 then ((bif r0.2 then r1.2 else false) == (bif r2.2 then r3.2 else false)) else false) = true → (bif r4 then ((bif r0.2 then r1.2 else false) == (bif r2.2 then r3.2 else false)) else false) = true), (((bif r4 then ((bif r0.2 then r1.2 else false) == (bif r2.2 then r3.2 else false)) else false) && !(!r0.2)) = true → ((bif r4 then ((bif r0.2 then r1.2 else false) == (bif r2.2 then r3.2 else false)) else false) && (!(!r0.2))) = true)]), ((bif r4 then ((bif r0.2 then r1.2 else false) == (bif r2.2 then r3.2 else false)) else false) = true → All [((bif r4 then ((bif r0.2 then r1.2 else false) == (bif r2.2 then r3.2 else false)) else false) = true → (bif r4 then ((bif r0.2 then r1.2 else false) == (bif r2.2 then r3.2 else false)) else false) = true)]), (((bif r4 then ((bif r0.2 then r1.2 else false) == (bif r2.2 then r3.2 else false)) else false) && (!(bif (!r0.2) then true else (!r1.2)))) = true → All [(((bif r4 then ((bif r0.2 then r1.2 else false) == (bif r2.2 then r3.2 else false)) else false) && (!(bif (!r0.2) then true else (!r1.2)))) = true → ((bif r4 then ((bif r0.2 then r1.2 else false) == (bif r2.2 then r3.2 else false)) else false) && (!(bif (!r0.2) then true else (!r1.2)))) = true), (((bif r4 then ((bif r0.2 then r1.2 else false) == (bif r2.2 then r3.2 else false)) else false) && (!(bif (!r0.2) then true else (!r1.2)))) = true → ((bif r4 then ((bif r0.2 then r1.2 else false) == (bif r2.2 then r3.2 else false)) else false) && (!(bif (!r0.2) then true else (!r1.2)))) = true)]), ((bif r4 then ((bif r0.2 then r1.2 else false) == (bif r2.2 then r3.2 else false)) else false) = true → All [((bif r4 then ((bif r0.2 then r1.2 else false) == (bif r2.2 then r3.2 else false)) else false) = true → (bif r4 then ((bif r0.2 then r1.2 else false) == (bif r2.2 then r3.2 else false)) else false) = true), (((bif r4 then ((bif r0.2 then r1.2 else false) == (bif r2.2 then r3.2 else false)) else false) && !(bif (!r0.2) then true else (!r1.2))) = true → ((bif r4 then ((bif r0.2 then r1.2 else false) == (bif r2.2 then r3.2 else false)) else false) && (!(bif (!r0.2) then true else (!r1.2)))) = true)]), ((true && (bif r4 then ((bif r0.2 then r1.2 else false) == (bif r2.2 then r3.2 else false)) else false)) = true → (bif r4 then ((bif r0.2 then r1.2 else false) == (bif r2.2 then r3.2 else false)) else false) = true)], [(6, (D.bool (bif (bif r4 then ((bif r0.2 then r1.2 else false) == (bif r2.2 then r3.2 else false)) else false) then (bif (bif (!r0.2) then true else (!r1.2)) then true else (((List.range 12).all fun i => r1.1.f0 i == r3.1.f0 i) && (((List.range 12).all fun i => r1.1.f1 i == r3.1.f1 i) && true))) else false)))], [some (.box (D.cons (D.ints .u64 12 t0.f0) (D.cons (D.ints .u64 12 t0.f1) D.nil))), some (.box (D.cons (D.ints .u64 12 t1.f0) (D.cons (D.ints .u64 12 t1.f1) D.nil))), some (.box (D.cons (D.ints .u64 12 t2.f0) (D.cons (D.ints .u64 12 t2.f1) D.nil))), some (.box (D.cons (D.ints .u64 12 r0.1.f0) (D.cons (D.ints .u64 12 r0.1.f1) D.nil))), some (.box (D.cons (D.ints .u64 12 r1.1.f0) (D.cons (D.ints .u64 12 r1.1.f1) D.nil))), some (.box (D.cons (D.ints .u64 12 r2.1.f0) (D.cons (D.ints .u64 12 r2.1.f1) D.nil))), some (.box (D.cons (D.ints .u64 12 r3.1.f0) (D.cons (D.ints .u64 12 r3.1.f1) D.nil)))])) rfl (by kernel_rfl) (And.intro (fc_cube_Meet fu t0 t1 cr0) (And.intro (And.intro (And.intro trivial (And.intro trivial trivial)) (And.intro (And.intro trivial (And.intro trivial trivial)) trivial)) (And.intro (fc_cube_Meet fu r0.1 t2 cr1) (And.intro (And.intro (And.intro trivial (And.intro trivial trivial)) (And.intro (And.intro trivial (And.intro trivial trivial)) trivial)) (And.intro (fc_cube_Meet fu t1 t2 cr2) (And.intro (And.intro (And.intro trivial (And.intro trivial trivial)) (And.intro (And.intro trivial (And.intro trivial trivial)) trivial)) (And.intro (fc_cube_Meet fu t0 r2.1 cr3) (And.intro (And.intro (And.intro trivial (And.intro trivial trivial)) (And.intro (And.intro trivial (And.intro trivial trivial)) trivial)) (And.intro (fc_law02_answers fu cr4) (And.intro trivial (And.intro (fun _ => (And.intro (by first | exact fun h => h | exact fun h => (Bool.and_eq_true_iff.1 h).1 | simp_all) trivial)) (And.intro (fun _ => (And.intro (by first | exact fun h => h | exact fun h => (Bool.and_eq_true_iff.1 h).1 | simp_all) (And.intro (by first | exact fun h => h | exact fun h => (Bool.and_eq_true_iff.1 h).1 | simp_all) trivial))) (And.intro (fun _ => (And.intro (by first | exact fun h => h | exact fun h => (Bool.and_eq_true_iff.1 h).1 | simp_all) trivial)) (And.intro (fun _ => (And.intro (by first | exact fun h => h | exact fun h => (Bool.and_eq_true_iff.1 h).1 | simp_all) (And.intro (by first | exact fun h => h | exact fun h => (Bool.and_eq_true_iff.1 h).1 | simp_all) trivial))) (And.intro (fun _ => (And.intro (by first | exact fun h => h | exact fun h => (Bool.and_eq_true_iff.1 h).1 | simp_all) (And.intro (by first | exact fun h => h | exact fun h => (Bool.and_eq_true_iff.1 h).1 | simp_all) trivial))) (And.intro (by first | exact fun h => h | exact fun h => (Bool.and_eq_true_iff.1 h).1 | simp_all) (And.intro (fun _ => (And.intro (by first | exact fun h => h | exact fun h => (Bool.and_eq_true_iff.1 h).1 | simp_all) trivial)) (And.intro (fun _ => (And.intro (by first | exact fun h => h | exact fun h => (Bool.and_eq_true_iff.1 h).1 | simp_all) trivial)) (And.intro (fun _ => (And.intro (by first | exact fun h => h | exact fun h => (Bool.and_eq_true_iff.1 h).1 | simp_all) trivial)) (And.intro (fun _ => (And.intro (by first | exact fun h => h | exact fun h => (Bool.and_eq_true_iff.1 h).1 | simp_all) (And.intro (by first | exact fun h => h | exact fun h => (Bool.and_eq_true_iff.1 h).1 | simp_all) trivial))) (And.intro (fun _ => (And.intro (by first | exact fun h => h | exact fun h => (Bool.and_eq_true_iff.1 h).1 | simp_all) trivial)) (And.intro (fun _ => (And.intro (by first | exact fun h => h | exact fun h => (Bool.and_eq_true_iff.1 h).1 | simp_all) (And.intro (by first | exact fun h => h | exact fun h => (Bool.and_eq_true_iff.1 h).1 | simp_all) trivial))) (And.intro (fun _ => (And.intro (by first | exact fun h => h | exact fun h => (Bool.and_eq_true_iff.1 h).1 | simp_all) (And.intro (by first | exact fun h => h | exact fun h => (Bool.and_eq_true_iff.1 h).1 | simp_all) trivial))) (And.intro (by first | exact fun h => h | exact fun h => (Bool.and_eq_true_iff.1 h).1 | simp_all) trivial)))))))))))))))))))))))) ?_
  rw [← Option.some.inj h] at hk
  obtain rfl : d = (D.bool (bif (bif r4 then ((bif r0.2 then r1.2 else false) == (bif r2.2 then r3.2 else false)) else false) then (bif (bif (!r0.2) then true else (!r1.2)) then true else (((List.range 12).all fun i => r1.1.f0 i == r3.1.f0 i) && (((List.range 12).all fun i => r1.1.f1 i == r3.1.f1 i) && true))) else false)) := hk
  exact runs_ret (by kernel_rfl) trivial (Nat.le_refl 0) trivial trivial

end Go.Proofs.Ytfhimlhpjbjfgaa
