/- What the functions compute, each proved to do so (printed by pgen.py). -/
import Derived.Test.YtfhimlhpjbjfgaaProg
import Derived.Test.YtfhimlhpjbjfgaaPodK
namespace Go.Proofs.Ytfhimlhpjbjfgaa
open Go Go.Pod Go.Proofs

def K50 (d : D) (r : Bool) : Prop := d = (D.bool r)

noncomputable def T50 : List Item := norm 200 [.code (Try.f50.body.getD .skip)]

/-- podesta/head.there -/
def F50 (t0 : Int) : Option Bool :=
  some (bif (decide (t0 ≥ (0 : Int))) then (decide (t0 < (12 : Int))) else false)

theorem run50 (t0 : Int) {d : D} {r : Bool} (h : F50 t0 = some r) (hk : K50 d r) : Runs Try.prog Try.f50 0 T50 [(0, (D.int .i64 t0))] [] d [] := by
  unfold F50 at h
  refine runs_regions 2 [([], [0]), ([], [2])] (z := ([((decide (t0 ≥ (0 : Int))) = true → All [((decide (t0 ≥ (0 : Int))) = true → (decide (t0 ≥ (0 : Int))) = true)]), ((true && (decide (t0 ≥ (0 : Int)))) = true → (decide (t0 ≥ (0 : Int))) = true)], [(2, (D.bool (bif (decide (t0 ≥ (0 : Int))) then (decide (t0 < (12 : Int))) else false)))], [])) rfl (by kernel_rfl) (And.intro (fun _ => (And.intro (by first | exact fun h => h | exact fun h => (Bool.and_eq_true_iff.1 h).1 | simp_all) trivial)) (And.intro (by first | exact fun h => h | exact fun h => (Bool.and_eq_true_iff.1 h).1 | simp_all) trivial)) ?_
  rw [← Option.some.inj h] at hk
  obtain rfl : d = (D.bool (bif (decide (t0 ≥ (0 : Int))) then (decide (t0 < (12 : Int))) else false)) := hk
  exact runs_ret (by kernel_rfl) trivial (Nat.le_refl 0) trivial trivial

theorem fc50 (t0 : Int) {r : Bool} (h : F50 t0 = some r) : FC Try.prog 50 [(D.int .i64 t0)] [] (D.bool r) [] := by
  refine fc_of_runs (fn := Try.f50) (c := Try.f50.body.getD .skip) (by kernel_rfl) (by kernel_rfl) ?_
  refine runs_to (ts := [0]) (T' := T50) (env' := [(0, (D.int .i64 t0))]) (h2 := []) (by kernel_rfl) (by kernel_rfl) trivial (Nat.le_refl 0) trivial (And.intro trivial trivial) ?_
  exact run50 t0 h rfl

structure S67 where
  f0 : ByteArray
  f1 : Int

def S67.d (x : S67) : D := (D.cons (D.str x.f0) (D.cons (D.int .i64 x.f1) D.nil))

def K51 (d : D) (r : (Nat → S67)) : Prop := d = (D.arr 12 2 fun i => (D.cons (D.str (r i).f0) (D.cons (D.int .i64 (r i).f1) D.nil)))

noncomputable def T51 : List Item := norm 200 [.code (Try.f51.body.getD .skip)]

/-- podesta/head.fields -/
def F51 : Option (Nat → S67) :=
  some (fun j => if j = 11 then (S67.mk (⟨#[100, 112, 111, 114, 116]⟩ : ByteArray) (12 : Int)) else (fun j => if j = 10 then (S67.mk (⟨#[115, 112, 111, 114, 116]⟩ : ByteArray) (12 : Int)) else (fun j => if j = 9 then (S67.mk (⟨#[116, 111, 115]⟩ : ByteArray) (8 : Int)) else (fun j => if j = 8 then (S67.mk (⟨#[112, 114, 111, 116, 111]⟩ : ByteArray) (8 : Int)) else (fun j => if j = 7 then (S67.mk (⟨#[100, 115, 116]⟩ : ByteArray) (32 : Int)) else (fun j => if j = 6 then (S67.mk (⟨#[115, 114, 99]⟩ : ByteArray) (32 : Int)) else (fun j => if j = 5 then (S67.mk (⟨#[112, 99, 112]⟩ : ByteArray) (4 : Int)) else (fun j => if j = 4 then (S67.mk (⟨#[118, 108, 97, 110]⟩ : ByteArray) (12 : Int)) else (fun j => if j = 3 then (S67.mk (⟨#[101, 116, 121, 112, 101]⟩ : ByteArray) (16 : Int)) else (fun j => if j = 2 then (S67.mk (⟨#[101, 100, 115, 116]⟩ : ByteArray) (48 : Int)) else (fun j => if j = 1 then (S67.mk (⟨#[101, 115, 114, 99]⟩ : ByteArray) (48 : Int)) else (fun j => if j = 0 then (S67.mk (⟨#[105, 110]⟩ : ByteArray) (16 : Int)) else (fun _ => (S67.mk (⟨#[]⟩ : ByteArray) (0 : Int))) j) j) j) j) j) j) j) j) j) j) j) j)

theorem run51 {d : D} {r : (Nat → S67)} (h : F51 = some r) (hk : K51 d r) : Runs Try.prog Try.f51 0 T51 [] [] d [] := by
  unfold F51 at h
  refine runs_regions 2 [([], [0]), ([], [0])] (z := ([(0 < 12), (1 < 12), (2 < 12), (3 < 12), (4 < 12), (5 < 12), (6 < 12), (7 < 12), (8 < 12), (9 < 12), (10 < 12), (11 < 12)], [(0, (D.ptr 0 []))], [some (.box (D.arr 12 2 fun j => (if j = 11 then (D.cons (D.str (⟨#[100, 112, 111, 114, 116]⟩ : ByteArray)) (D.cons (D.int .i64 (12 : Int)) D.nil)) else (if j = 10 then (D.cons (D.str (⟨#[115, 112, 111, 114, 116]⟩ : ByteArray)) (D.cons (D.int .i64 (12 : Int)) D.nil)) else (if j = 9 then (D.cons (D.str (⟨#[116, 111, 115]⟩ : ByteArray)) (D.cons (D.int .i64 (8 : Int)) D.nil)) else (if j = 8 then (D.cons (D.str (⟨#[112, 114, 111, 116, 111]⟩ : ByteArray)) (D.cons (D.int .i64 (8 : Int)) D.nil)) else (if j = 7 then (D.cons (D.str (⟨#[100, 115, 116]⟩ : ByteArray)) (D.cons (D.int .i64 (32 : Int)) D.nil)) else (if j = 6 then (D.cons (D.str (⟨#[115, 114, 99]⟩ : ByteArray)) (D.cons (D.int .i64 (32 : Int)) D.nil)) else (if j = 5 then (D.cons (D.str (⟨#[112, 99, 112]⟩ : ByteArray)) (D.cons (D.int .i64 (4 : Int)) D.nil)) else (if j = 4 then (D.cons (D.str (⟨#[118, 108, 97, 110]⟩ : ByteArray)) (D.cons (D.int .i64 (12 : Int)) D.nil)) else (if j = 3 then (D.cons (D.str (⟨#[101, 116, 121, 112, 101]⟩ : ByteArray)) (D.cons (D.int .i64 (16 : Int)) D.nil)) else (if j = 2 then (D.cons (D.str (⟨#[101, 100, 115, 116]⟩ : ByteArray)) (D.cons (D.int .i64 (48 : Int)) D.nil)) else (if j = 1 then (D.cons (D.str (⟨#[101, 115, 114, 99]⟩ : ByteArray)) (D.cons (D.int .i64 (48 : Int)) D.nil)) else (if j = 0 then (D.cons (D.str (⟨#[105, 110]⟩ : ByteArray)) (D.cons (D.int .i64 (16 : Int)) D.nil)) else (D.cons (D.str ((fun _ => (S67.mk (⟨#[]⟩ : ByteArray) (0 : Int))) j).f0) (D.cons (D.int .i64 ((fun _ => (S67.mk (⟨#[]⟩ : ByteArray) (0 : Int))) j).f1) D.nil))))))))))))))))])) rfl (by kernel_rfl) (And.intro (by decide) (And.intro (by decide) (And.intro (by decide) (And.intro (by decide) (And.intro (by decide) (And.intro (by decide) (And.intro (by decide) (And.intro (by decide) (And.intro (by decide) (And.intro (by decide) (And.intro (by decide) (And.intro (by decide) trivial)))))))))))) ?_
  refine cast_fun (F := fun q => Runs Try.prog Try.f51 0 _ [(0, (D.ptr 0 []))] [some (.box (D.arr 12 2 q))] d []) (funext fun j => (show (if j = 11 then (D.cons (D.str (⟨#[100, 112, 111, 114, 116]⟩ : ByteArray)) (D.cons (D.int .i64 (12 : Int)) D.nil)) else (if j = 10 then (D.cons (D.str (⟨#[115, 112, 111, 114, 116]⟩ : ByteArray)) (D.cons (D.int .i64 (12 : Int)) D.nil)) else (if j = 9 then (D.cons (D.str (⟨#[116, 111, 115]⟩ : ByteArray)) (D.cons (D.int .i64 (8 : Int)) D.nil)) else (if j = 8 then (D.cons (D.str (⟨#[112, 114, 111, 116, 111]⟩ : ByteArray)) (D.cons (D.int .i64 (8 : Int)) D.nil)) else (if j = 7 then (D.cons (D.str (⟨#[100, 115, 116]⟩ : ByteArray)) (D.cons (D.int .i64 (32 : Int)) D.nil)) else (if j = 6 then (D.cons (D.str (⟨#[115, 114, 99]⟩ : ByteArray)) (D.cons (D.int .i64 (32 : Int)) D.nil)) else (if j = 5 then (D.cons (D.str (⟨#[112, 99, 112]⟩ : ByteArray)) (D.cons (D.int .i64 (4 : Int)) D.nil)) else (if j = 4 then (D.cons (D.str (⟨#[118, 108, 97, 110]⟩ : ByteArray)) (D.cons (D.int .i64 (12 : Int)) D.nil)) else (if j = 3 then (D.cons (D.str (⟨#[101, 116, 121, 112, 101]⟩ : ByteArray)) (D.cons (D.int .i64 (16 : Int)) D.nil)) else (if j = 2 then (D.cons (D.str (⟨#[101, 100, 115, 116]⟩ : ByteArray)) (D.cons (D.int .i64 (48 : Int)) D.nil)) else (if j = 1 then (D.cons (D.str (⟨#[101, 115, 114, 99]⟩ : ByteArray)) (D.cons (D.int .i64 (48 : Int)) D.nil)) else (if j = 0 then (D.cons (D.str (⟨#[105, 110]⟩ : ByteArray)) (D.cons (D.int .i64 (16 : Int)) D.nil)) else (D.cons (D.str ((fun _ => (S67.mk (⟨#[]⟩ : ByteArray) (0 : Int))) j).f0) (D.cons (D.int .i64 ((fun _ => (S67.mk (⟨#[]⟩ : ByteArray) (0 : Int))) j).f1) D.nil)))))))))))))) = (fun x : S67 => (D.cons (D.str x.f0) (D.cons (D.int .i64 x.f1) D.nil))) ((fun j => if j = 11 then (S67.mk (⟨#[100, 112, 111, 114, 116]⟩ : ByteArray) (12 : Int)) else (fun j => if j = 10 then (S67.mk (⟨#[115, 112, 111, 114, 116]⟩ : ByteArray) (12 : Int)) else (fun j => if j = 9 then (S67.mk (⟨#[116, 111, 115]⟩ : ByteArray) (8 : Int)) else (fun j => if j = 8 then (S67.mk (⟨#[112, 114, 111, 116, 111]⟩ : ByteArray) (8 : Int)) else (fun j => if j = 7 then (S67.mk (⟨#[100, 115, 116]⟩ : ByteArray) (32 : Int)) else (fun j => if j = 6 then (S67.mk (⟨#[115, 114, 99]⟩ : ByteArray) (32 : Int)) else (fun j => if j = 5 then (S67.mk (⟨#[112, 99, 112]⟩ : ByteArray) (4 : Int)) else (fun j => if j = 4 then (S67.mk (⟨#[118, 108, 97, 110]⟩ : ByteArray) (12 : Int)) else (fun j => if j = 3 then (S67.mk (⟨#[101, 116, 121, 112, 101]⟩ : ByteArray) (16 : Int)) else (fun j => if j = 2 then (S67.mk (⟨#[101, 100, 115, 116]⟩ : ByteArray) (48 : Int)) else (fun j => if j = 1 then (S67.mk (⟨#[101, 115, 114, 99]⟩ : ByteArray) (48 : Int)) else (fun j => if j = 0 then (S67.mk (⟨#[105, 110]⟩ : ByteArray) (16 : Int)) else (fun _ => (S67.mk (⟨#[]⟩ : ByteArray) (0 : Int))) j) j) j) j) j) j) j) j) j) j) j) j) j) from (d_ite (f := fun x : S67 => (D.cons (D.str x.f0) (D.cons (D.int .i64 x.f1) D.nil))) rfl (d_ite (f := fun x : S67 => (D.cons (D.str x.f0) (D.cons (D.int .i64 x.f1) D.nil))) rfl (d_ite (f := fun x : S67 => (D.cons (D.str x.f0) (D.cons (D.int .i64 x.f1) D.nil))) rfl (d_ite (f := fun x : S67 => (D.cons (D.str x.f0) (D.cons (D.int .i64 x.f1) D.nil))) rfl (d_ite (f := fun x : S67 => (D.cons (D.str x.f0) (D.cons (D.int .i64 x.f1) D.nil))) rfl (d_ite (f := fun x : S67 => (D.cons (D.str x.f0) (D.cons (D.int .i64 x.f1) D.nil))) rfl (d_ite (f := fun x : S67 => (D.cons (D.str x.f0) (D.cons (D.int .i64 x.f1) D.nil))) rfl (d_ite (f := fun x : S67 => (D.cons (D.str x.f0) (D.cons (D.int .i64 x.f1) D.nil))) rfl (d_ite (f := fun x : S67 => (D.cons (D.str x.f0) (D.cons (D.int .i64 x.f1) D.nil))) rfl (d_ite (f := fun x : S67 => (D.cons (D.str x.f0) (D.cons (D.int .i64 x.f1) D.nil))) rfl (d_ite (f := fun x : S67 => (D.cons (D.str x.f0) (D.cons (D.int .i64 x.f1) D.nil))) rfl (d_ite (f := fun x : S67 => (D.cons (D.str x.f0) (D.cons (D.int .i64 x.f1) D.nil))) rfl rfl)))))))))))))) ?_
  rw [← Option.some.inj h] at hk
  obtain rfl : d = (D.arr 12 2 fun i => (D.cons (D.str ((fun j => if j = 11 then (S67.mk (⟨#[100, 112, 111, 114, 116]⟩ : ByteArray) (12 : Int)) else (fun j => if j = 10 then (S67.mk (⟨#[115, 112, 111, 114, 116]⟩ : ByteArray) (12 : Int)) else (fun j => if j = 9 then (S67.mk (⟨#[116, 111, 115]⟩ : ByteArray) (8 : Int)) else (fun j => if j = 8 then (S67.mk (⟨#[112, 114, 111, 116, 111]⟩ : ByteArray) (8 : Int)) else (fun j => if j = 7 then (S67.mk (⟨#[100, 115, 116]⟩ : ByteArray) (32 : Int)) else (fun j => if j = 6 then (S67.mk (⟨#[115, 114, 99]⟩ : ByteArray) (32 : Int)) else (fun j => if j = 5 then (S67.mk (⟨#[112, 99, 112]⟩ : ByteArray) (4 : Int)) else (fun j => if j = 4 then (S67.mk (⟨#[118, 108, 97, 110]⟩ : ByteArray) (12 : Int)) else (fun j => if j = 3 then (S67.mk (⟨#[101, 116, 121, 112, 101]⟩ : ByteArray) (16 : Int)) else (fun j => if j = 2 then (S67.mk (⟨#[101, 100, 115, 116]⟩ : ByteArray) (48 : Int)) else (fun j => if j = 1 then (S67.mk (⟨#[101, 115, 114, 99]⟩ : ByteArray) (48 : Int)) else (fun j => if j = 0 then (S67.mk (⟨#[105, 110]⟩ : ByteArray) (16 : Int)) else (fun _ => (S67.mk (⟨#[]⟩ : ByteArray) (0 : Int))) j) j) j) j) j) j) j) j) j) j) j) j) i).f0) (D.cons (D.int .i64 ((fun j => if j = 11 then (S67.mk (⟨#[100, 112, 111, 114, 116]⟩ : ByteArray) (12 : Int)) else (fun j => if j = 10 then (S67.mk (⟨#[115, 112, 111, 114, 116]⟩ : ByteArray) (12 : Int)) else (fun j => if j = 9 then (S67.mk (⟨#[116, 111, 115]⟩ : ByteArray) (8 : Int)) else (fun j => if j = 8 then (S67.mk (⟨#[112, 114, 111, 116, 111]⟩ : ByteArray) (8 : Int)) else (fun j => if j = 7 then (S67.mk (⟨#[100, 115, 116]⟩ : ByteArray) (32 : Int)) else (fun j => if j = 6 then (S67.mk (⟨#[115, 114, 99]⟩ : ByteArray) (32 : Int)) else (fun j => if j = 5 then (S67.mk (⟨#[112, 99, 112]⟩ : ByteArray) (4 : Int)) else (fun j => if j = 4 then (S67.mk (⟨#[118, 108, 97, 110]⟩ : ByteArray) (12 : Int)) else (fun j => if j = 3 then (S67.mk (⟨#[101, 116, 121, 112, 101]⟩ : ByteArray) (16 : Int)) else (fun j => if j = 2 then (S67.mk (⟨#[101, 100, 115, 116]⟩ : ByteArray) (48 : Int)) else (fun j => if j = 1 then (S67.mk (⟨#[101, 115, 114, 99]⟩ : ByteArray) (48 : Int)) else (fun j => if j = 0 then (S67.mk (⟨#[105, 110]⟩ : ByteArray) (16 : Int)) else (fun _ => (S67.mk (⟨#[]⟩ : ByteArray) (0 : Int))) j) j) j) j) j) j) j) j) j) j) j) j) i).f1) D.nil))) := hk
  exact runs_ret (by kernel_rfl) trivial (Nat.le_refl 0) trivial (fun _ _ => (And.intro trivial (And.intro trivial trivial)))

theorem fc51 {r : (Nat → S67)} (h : F51 = some r) : FC Try.prog 51 [] [] (D.arr 12 2 fun i => (D.cons (D.str (r i).f0) (D.cons (D.int .i64 (r i).f1) D.nil))) [] := by
  refine fc_of_runs (fn := Try.f51) (c := Try.f51.body.getD .skip) (by kernel_rfl) (by kernel_rfl) ?_
  refine runs_to (ts := []) (T' := T51) (env' := []) (h2 := []) (by kernel_rfl) (by kernel_rfl) trivial (Nat.le_refl 0) trivial trivial ?_
  exact run51 h rfl

def K18 (d : D) (r : Int) : Prop := d = (D.int .i64 r)

noncomputable def T18 : List Item := norm 200 [.code (Try.f18.body.getD .skip)]

/-- podesta/head.Size -/
def F18 (t0 : Int) : Option Int :=
  (F50 t0).bind fun r0 =>
  ifs (!r0) (
    some (0 : Int)) (
    (F51).bind fun r1 =>
    chk (0 ≤ t0 ∧ t0 < ((12 : Nat) : Int)) <|
    chk (t0.toNat < 12) <|
    some (r1 t0.toNat).f1)

theorem run18 (t0 : Int) {d : D} {r : Int} (h : F18 t0 = some r) (hk : K18 d r) : Runs Try.prog Try.f18 0 T18 [(0, (D.int .i64 t0))] [] d [] := by
  unfold F18 at h
  obtain ⟨r0, cr0, h⟩ := Option.bind_eq_some_iff.1 h
  refine runs_regions 2 [([], [0]), ([(D.bool r0)], [0, 5])] (z := ([FC Try.prog 50 [(D.int .i64 t0)] [] (D.bool r0) [], All (List.map NoRow [(D.int .i64 t0)])], [(0, (D.int .i64 t0)), (5, (D.bool (!r0)))], [])) rfl (by kernel_rfl) (And.intro (fc50 t0 cr0) (And.intro (And.intro trivial trivial) trivial)) ?_
  refine runs_if (b := (!r0)) (by kernel_rfl) (fun hb => ?_) (fun hb => ?_)
  · replace h := ifs_true h hb
    refine runs_regions 1 [([], [2])] (z := ([], [(2, (D.int .i64 (0 : Int)))], [])) rfl (by kernel_rfl) trivial ?_
    rw [← Option.some.inj h] at hk
    obtain rfl : d = (D.int .i64 (0 : Int)) := hk
    exact runs_ret (by kernel_rfl) trivial (Nat.le_refl 0) trivial trivial
  · replace h := ifs_false h hb
    obtain ⟨r1, cr1, h⟩ := Option.bind_eq_some_iff.1 h
    obtain ⟨p0, h⟩ := chk_some h
    obtain ⟨p1, h⟩ := chk_some h
    refine runs_regions 1 [([(D.arr 12 2 fun i => (D.cons (D.str (r1 i).f0) (D.cons (D.int .i64 (r1 i).f1) D.nil)))], [2])] (z := ([FC Try.prog 51 [] [] (D.arr 12 2 fun i => (D.cons (D.str (r1 i).f0) (D.cons (D.int .i64 (r1 i).f1) D.nil))) [], All (List.map NoRow []), (0 ≤ t0 ∧ t0 < ((12 : Nat) : Int)), (t0.toNat < 12)], [(2, (D.int .i64 (r1 t0.toNat).f1))], [])) rfl (by kernel_rfl) (And.intro (fc51 cr1) (And.intro trivial (And.intro p0 (And.intro p1 trivial)))) ?_
    rw [← Option.some.inj h] at hk
    obtain rfl : d = (D.int .i64 (r1 t0.toNat).f1) := hk
    exact runs_ret (by kernel_rfl) trivial (Nat.le_refl 0) trivial trivial

theorem fc18 (t0 : Int) {r : Int} (h : F18 t0 = some r) : FC Try.prog 18 [(D.int .i64 t0)] [] (D.int .i64 r) [] := by
  refine fc_of_runs (fn := Try.f18) (c := Try.f18.body.getD .skip) (by kernel_rfl) (by kernel_rfl) ?_
  refine runs_to (ts := [0]) (T' := T18) (env' := [(0, (D.int .i64 t0))]) (h2 := []) (by kernel_rfl) (by kernel_rfl) trivial (Nat.le_refl 0) trivial (And.intro trivial trivial) ?_
  exact run18 t0 h rfl

def K15 (d : D) (r : (Int × Bool)) : Prop := d = (D.tup (D.cons (D.int .u64 r.1) (D.cons (D.bool r.2) D.nil)))

noncomputable def T15 : List Item := norm 200 [.code (Try.f15.body.getD .skip)]

/-- podesta/head.Mask -/
def F15 (t0 : Int) (t1 : Int) : Option (Int × Bool) :=
  (F50 t0).bind fun r0 =>
  (callIf (!(bif (!r0) then true else (decide (t1 < (0 : Int))))) (F18 t0) (0 : Int)).bind fun r1 =>
  ifs (bif (bif (!r0) then true else (decide (t1 < (0 : Int)))) then true else (decide (t1 > r1))) (
    some ((0 : Int), false)) (
    chk (0 ≤ t1) <|
    (F18 t0).bind fun r2 =>
    chk (0 ≤ (IntKind.wrap .i64 (r2 - t1))) <|
    some ((ishl .u64 (IntKind.wrap .u64 ((ishl .u64 (1 : Int) t1) - (1 : Int))) (IntKind.wrap .i64 (r2 - t1))), true))

theorem run15 (t0 : Int) (t1 : Int) {d : D} {r : (Int × Bool)} (h : F15 t0 t1 = some r) (hk : K15 d r) : Runs Try.prog Try.f15 0 T15 [(0, (D.int .i64 t0)), (1, (D.int .i64 t1))] [] d [] := by
  unfold F15 at h
  obtain ⟨r0, cr0, h⟩ := Option.bind_eq_some_iff.1 h
  obtain ⟨r1, cr1, h⟩ := Option.bind_eq_some_iff.1 h
  refine runs_regions 2 [([], [0, 1]), ([(D.bool r0), (D.int .i64 r1)], [0, 1, 18])] (z := ([FC Try.prog 50 [(D.int .i64 t0)] [] (D.bool r0) [], All (List.map NoRow [(D.int .i64 t0)]), ((!(!r0)) = true → All [((!(!r0)) = true → (!(!r0)) = true)]), ((true && !(!r0)) = true → (!(!r0)) = true), ((!(bif (!r0) then true else (decide (t1 < (0 : Int))))) = true → All [((!(bif (!r0) then true else (decide (t1 < (0 : Int))))) = true → (!(bif (!r0) then true else (decide (t1 < (0 : Int))))) = true), FC Try.prog 18 [(D.int .i64 t0)] [] (D.int .i64 r1) [], All (List.map NoRow [(D.int .i64 t0)])]), ((!(bif (!r0) then true else (decide (t1 < (0 : Int))))) = true → All [((!(bif (!r0) then true else (decide (t1 < (0 : Int))))) = true → (!(bif (!r0) then true else (decide (t1 < (0 : Int))))) = true), ((!(bif (!r0) then true else (decide (t1 < (0 : Int))))) = true → (!(bif (!r0) then true else (decide (t1 < (0 : Int))))) = true)]), ((true && !(bif (!r0) then true else (decide (t1 < (0 : Int))))) = true → (!(bif (!r0) then true else (decide (t1 < (0 : Int))))) = true)], [(0, (D.int .i64 t0)), (1, (D.int .i64 t1)), (18, (D.bool (bif (bif (!r0) then true else (decide (t1 < (0 : Int)))) then true else (decide (t1 > r1)))))], [])) rfl (by kernel_rfl) (And.intro (fc50 t0 cr0) (And.intro (And.intro trivial trivial) (And.intro (fun _ => (And.intro (by first | exact fun h => h | exact fun h => (Bool.and_eq_true_iff.1 h).1 | simp_all) trivial)) (And.intro (by first | exact fun h => h | exact fun h => (Bool.and_eq_true_iff.1 h).1 | simp_all) (And.intro (fun hg => (And.intro (by first | exact fun h => h | exact fun h => (Bool.and_eq_true_iff.1 h).1 | simp_all) (And.intro (fc18 t0 (callIf_some cr1 hg)) (And.intro (And.intro trivial trivial) trivial)))) (And.intro (fun _ => (And.intro (by first | exact fun h => h | exact fun h => (Bool.and_eq_true_iff.1 h).1 | simp_all) (And.intro (by first | exact fun h => h | exact fun h => (Bool.and_eq_true_iff.1 h).1 | simp_all) trivial))) (And.intro (by first | exact fun h => h | exact fun h => (Bool.and_eq_true_iff.1 h).1 | simp_all) trivial))))))) ?_
  refine runs_if (b := (bif (bif (!r0) then true else (decide (t1 < (0 : Int)))) then true else (decide (t1 > r1)))) (by kernel_rfl) (fun hb => ?_) (fun hb => ?_)
  · replace h := ifs_true h hb
    refine runs_regions 1 [([], [4, 5])] (z := ([], [(4, (D.int .u64 (0 : Int))), (5, (D.bool false))], [])) rfl (by kernel_rfl) trivial ?_
    rw [← Option.some.inj h] at hk
    obtain rfl : d = (D.tup (D.cons (D.int .u64 (0 : Int)) (D.cons (D.bool false) D.nil))) := hk
    exact runs_ret (by kernel_rfl) trivial (Nat.le_refl 0) trivial (And.intro trivial (And.intro trivial trivial))
  · replace h := ifs_false h hb
    obtain ⟨p0, h⟩ := chk_some h
    obtain ⟨r2, cr2, h⟩ := Option.bind_eq_some_iff.1 h
    obtain ⟨p1, h⟩ := chk_some h
    refine runs_regions 1 [([(D.int .i64 r2)], [4, 5])] (z := ([(0 ≤ t1), FC Try.prog 18 [(D.int .i64 t0)] [] (D.int .i64 r2) [], All (List.map NoRow [(D.int .i64 t0)]), (0 ≤ (IntKind.wrap .i64 (r2 - t1)))], [(4, (D.int .u64 (ishl .u64 (IntKind.wrap .u64 ((ishl .u64 (1 : Int) t1) - (1 : Int))) (IntKind.wrap .i64 (r2 - t1))))), (5, (D.bool true))], [])) rfl (by kernel_rfl) (And.intro p0 (And.intro (fc18 t0 cr2) (And.intro (And.intro trivial trivial) (And.intro p1 trivial)))) ?_
    rw [← Option.some.inj h] at hk
    obtain rfl : d = (D.tup (D.cons (D.int .u64 (ishl .u64 (IntKind.wrap .u64 ((ishl .u64 (1 : Int) t1) - (1 : Int))) (IntKind.wrap .i64 (r2 - t1)))) (D.cons (D.bool true) D.nil))) := hk
    exact runs_ret (by kernel_rfl) trivial (Nat.le_refl 0) trivial (And.intro trivial (And.intro trivial trivial))

theorem fc15 (t0 : Int) (t1 : Int) {r : (Int × Bool)} (h : F15 t0 t1 = some r) : FC Try.prog 15 [(D.int .i64 t0), (D.int .i64 t1)] [] (D.tup (D.cons (D.int .u64 r.1) (D.cons (D.bool r.2) D.nil))) [] := by
  refine fc_of_runs (fn := Try.f15) (c := Try.f15.body.getD .skip) (by kernel_rfl) (by kernel_rfl) ?_
  refine runs_to (ts := [0, 1]) (T' := T15) (env' := [(0, (D.int .i64 t0)), (1, (D.int .i64 t1))]) (h2 := []) (by kernel_rfl) (by kernel_rfl) trivial (Nat.le_refl 0) trivial (And.intro trivial (And.intro trivial trivial)) ?_
  exact run15 t0 t1 h rfl

def K19 (d : D) (r : Int) : Prop := d = (D.int .i64 r)

noncomputable def T19 : List Item := norm 200 [.code (Try.f19.body.getD .skip)]

/-- podesta/podestaref01.Size -/
def F19 (t0 : Int) : Option Int :=
  ifs (bif (decide (t0 < (0 : Int))) then true else (decide (t0 > (11 : Int)))) (
    some (0 : Int)) (
    chk (0 ≤ t0 ∧ t0 < ((12 : Nat) : Int)) <|
    some ((fun i => ([(16 : Int), (48 : Int), (48 : Int), (16 : Int), (12 : Int), (4 : Int), (32 : Int), (32 : Int), (8 : Int), (8 : Int), (12 : Int), (12 : Int)] : List Int).getD i (0 : Int)) t0.toNat))

theorem run19 (t0 : Int) {d : D} {r : Int} (h : F19 t0 = some r) (hk : K19 d r) : Runs Try.prog Try.f19 0 T19 [(0, (D.int .i64 t0))] [] d [] := by
  unfold F19 at h
  refine runs_regions 2 [([], [0]), ([], [0, 8])] (z := ([((!(decide (t0 < (0 : Int)))) = true → All [((!(decide (t0 < (0 : Int)))) = true → (!(decide (t0 < (0 : Int)))) = true)]), ((true && !(decide (t0 < (0 : Int)))) = true → (!(decide (t0 < (0 : Int)))) = true)], [(0, (D.int .i64 t0)), (8, (D.bool (bif (decide (t0 < (0 : Int))) then true else (decide (t0 > (11 : Int))))))], [])) rfl (by kernel_rfl) (And.intro (fun _ => (And.intro (by first | exact fun h => h | exact fun h => (Bool.and_eq_true_iff.1 h).1 | simp_all) trivial)) (And.intro (by first | exact fun h => h | exact fun h => (Bool.and_eq_true_iff.1 h).1 | simp_all) trivial)) ?_
  refine runs_if (b := (bif (decide (t0 < (0 : Int))) then true else (decide (t0 > (11 : Int))))) (by kernel_rfl) (fun hb => ?_) (fun hb => ?_)
  · replace h := ifs_true h hb
    refine runs_regions 1 [([], [2])] (z := ([], [(2, (D.int .i64 (0 : Int)))], [])) rfl (by kernel_rfl) trivial ?_
    rw [← Option.some.inj h] at hk
    obtain rfl : d = (D.int .i64 (0 : Int)) := hk
    exact runs_ret (by kernel_rfl) trivial (Nat.le_refl 0) trivial trivial
  · replace h := ifs_false h hb
    obtain ⟨p0, h⟩ := chk_some h
    refine runs_regions 1 [([(D.gd false (D.lit 12 1 fun i => (D.int .i64 ((fun i => ([(16 : Int), (48 : Int), (48 : Int), (16 : Int), (12 : Int), (4 : Int), (32 : Int), (32 : Int), (8 : Int), (8 : Int), (12 : Int), (12 : Int)] : List Int).getD i (0 : Int)) i))))], [2])] (z := ([TabOk [(D.int .i64 (16 : Int)), (D.int .i64 (48 : Int)), (D.int .i64 (48 : Int)), (D.int .i64 (16 : Int)), (D.int .i64 (12 : Int)), (D.int .i64 (4 : Int)), (D.int .i64 (32 : Int)), (D.int .i64 (32 : Int)), (D.int .i64 (8 : Int)), (D.int .i64 (8 : Int)), (D.int .i64 (12 : Int)), (D.int .i64 (12 : Int))] 1 (D.arr 12 1 fun i => (D.int .i64 ((fun i => ([(16 : Int), (48 : Int), (48 : Int), (16 : Int), (12 : Int), (4 : Int), (32 : Int), (32 : Int), (8 : Int), (8 : Int), (12 : Int), (12 : Int)] : List Int).getD i (0 : Int)) i))), (0 ≤ t0 ∧ t0 < ((12 : Nat) : Int))], [(2, (D.int .i64 ((fun i => ([(16 : Int), (48 : Int), (48 : Int), (16 : Int), (12 : Int), (4 : Int), (32 : Int), (32 : Int), (8 : Int), (8 : Int), (12 : Int), (12 : Int)] : List Int).getD i (0 : Int)) t0.toNat)))], [])) rfl (by kernel_rfl) (And.intro (tabOk_arr rfl (And.intro rfl (And.intro rfl (And.intro rfl (And.intro rfl (And.intro rfl (And.intro rfl (And.intro rfl (And.intro rfl (And.intro rfl (And.intro rfl (And.intro rfl (And.intro rfl trivial))))))))))))) (And.intro p0 trivial)) ?_
    rw [← Option.some.inj h] at hk
    obtain rfl : d = (D.int .i64 ((fun i => ([(16 : Int), (48 : Int), (48 : Int), (16 : Int), (12 : Int), (4 : Int), (32 : Int), (32 : Int), (8 : Int), (8 : Int), (12 : Int), (12 : Int)] : List Int).getD i (0 : Int)) t0.toNat)) := hk
    exact runs_ret (by kernel_rfl) trivial (Nat.le_refl 0) trivial trivial

theorem fc19 (t0 : Int) {r : Int} (h : F19 t0 = some r) : FC Try.prog 19 [(D.int .i64 t0)] [] (D.int .i64 r) [] := by
  refine fc_of_runs (fn := Try.f19) (c := Try.f19.body.getD .skip) (by kernel_rfl) (by kernel_rfl) ?_
  refine runs_to (ts := [0]) (T' := T19) (env' := [(0, (D.int .i64 t0))]) (h2 := []) (by kernel_rfl) (by kernel_rfl) trivial (Nat.le_refl 0) trivial (And.intro trivial trivial) ?_
  exact run19 t0 h rfl

def K16 (d : D) (r : (Int × Bool)) : Prop := d = (D.tup (D.cons (D.int .u64 r.1) (D.cons (D.bool r.2) D.nil)))

noncomputable def T16 : List Item := norm 200 [.code (Try.f16.body.getD .skip)]

noncomputable def T16_L1 : List Item := norm 200 (nxt (nxt (cndF (nxt (nxt T16)))))

noncomputable def X16_L1T : List Item := norm 200 (cndF (nxt (nxt (nxt (cndF (nxt (nxt T16)))))))

abbrev E16_L1 := Int

def N16_L1 (_fu : Nat) (t0 : Int) (t1 : Int) (d : D) (s : (Int × Int)) : Prop := Runs Try.prog Try.f16 0 T16_L1 [(0, (D.int .i64 t0)), (1, (D.int .i64 t1)), (6, (D.int .u64 s.1)), (7, (D.int .i64 s.2))] [] d []

def X16_L1 (_fu : Nat) (_t0 : Int) (_t1 : Int) (d : D) : E16_L1 ⊕ (Int × Bool) → Prop
  | .inl e => Runs Try.prog Try.f16 0 X16_L1T [(6, (D.int .u64 e))] [] d []
  | .inr o => (K16 d) o

def F16_L1 (_fu : Nat) (t0 : Int) (t1 : Int) (t6 : Int) (t7 : Int) : Option (Lo (Int × Int) E16_L1 (Int × Bool)) :=
  (F19 t0).bind fun r1 =>
  ifs (decide (t7 < r1)) (
    ifs (decide (t7 < t1)) (
      some (.next ((IntKind.wrap .u64 ((IntKind.wrap .u64 (t6 * (2 : Int))) + (1 : Int))), (IntKind.wrap .i64 (t7 + (1 : Int)))))) (
      some (.next ((IntKind.wrap .u64 (t6 * (2 : Int))), (IntKind.wrap .i64 (t7 + (1 : Int))))))) (
    some (.exit t6))

theorem run16_L1 (fu : Nat) (t0 : Int) (t1 : Int) (t6 : Int) (t7 : Int) {d : D} {o : (Lo (Int × Int) E16_L1 (Int × Bool))} (h : F16_L1 fu t0 t1 t6 t7 = some o) (hk : (Lo.post (N16_L1 fu t0 t1 d) (X16_L1 fu t0 t1 d)) o) : Runs Try.prog Try.f16 0 T16_L1 [(0, (D.int .i64 t0)), (1, (D.int .i64 t1)), (6, (D.int .u64 t6)), (7, (D.int .i64 t7))] [] d [] := by
  unfold F16_L1 at h
  obtain ⟨r1, cr1, h⟩ := Option.bind_eq_some_iff.1 h
  refine runs_regions 1 [([(D.int .i64 r1)], [0, 1, 6, 7, 27])] (z := ([FC Try.prog 19 [(D.int .i64 t0)] [] (D.int .i64 r1) [], All (List.map NoRow [(D.int .i64 t0)])], [(0, (D.int .i64 t0)), (1, (D.int .i64 t1)), (6, (D.int .u64 t6)), (7, (D.int .i64 t7)), (27, (D.bool (decide (t7 < r1))))], [])) rfl (by kernel_rfl) (And.intro (fc19 t0 cr1) (And.intro (And.intro trivial trivial) trivial)) ?_
  refine runs_if (b := (decide (t7 < r1))) (by kernel_rfl) (fun hb => ?_) (fun hb => ?_)
  · replace h := ifs_true h hb
    refine runs_regions 2 [([], [0, 1, 6, 7]), ([], [0, 1, 6, 7, 34])] (z := ([], [(0, (D.int .i64 t0)), (1, (D.int .i64 t1)), (6, (D.int .u64 (IntKind.wrap .u64 (t6 * (2 : Int))))), (7, (D.int .i64 t7)), (34, (D.bool (decide (t7 < t1))))], [])) rfl (by kernel_rfl) trivial ?_
    refine runs_if (b := (decide (t7 < t1))) (by kernel_rfl) (fun hb => ?_) (fun hb => ?_)
    · replace h := ifs_true h hb
      refine runs_regions 2 [([], [0, 1, 6, 7]), ([], [0, 1, 6, 7])] (z := ([], [(0, (D.int .i64 t0)), (1, (D.int .i64 t1)), (6, (D.int .u64 (IntKind.wrap .u64 ((IntKind.wrap .u64 (t6 * (2 : Int))) + (1 : Int))))), (7, (D.int .i64 (IntKind.wrap .i64 (t7 + (1 : Int)))))], [])) rfl (by kernel_rfl) trivial ?_
      rw [← Option.some.inj h] at hk
      refine runs_to (ts := [0, 1, 6, 7]) (T' := T16_L1) (env' := [(0, (D.int .i64 t0)), (1, (D.int .i64 t1)), (6, (D.int .u64 (IntKind.wrap .u64 ((IntKind.wrap .u64 (t6 * (2 : Int))) + (1 : Int))))), (7, (D.int .i64 (IntKind.wrap .i64 (t7 + (1 : Int)))))]) (h2 := []) (by kernel_rfl) (by kernel_rfl) trivial (Nat.zero_le _) trivial (And.intro trivial (And.intro trivial (And.intro trivial (And.intro trivial trivial)))) ?_
      exact hk
    · replace h := ifs_false h hb
      refine runs_regions 1 [([], [0, 1, 6, 7])] (z := ([], [(0, (D.int .i64 t0)), (1, (D.int .i64 t1)), (6, (D.int .u64 (IntKind.wrap .u64 (t6 * (2 : Int))))), (7, (D.int .i64 (IntKind.wrap .i64 (t7 + (1 : Int)))))], [])) rfl (by kernel_rfl) trivial ?_
      rw [← Option.some.inj h] at hk
      refine runs_to (ts := [0, 1, 6, 7]) (T' := T16_L1) (env' := [(0, (D.int .i64 t0)), (1, (D.int .i64 t1)), (6, (D.int .u64 (IntKind.wrap .u64 (t6 * (2 : Int))))), (7, (D.int .i64 (IntKind.wrap .i64 (t7 + (1 : Int)))))]) (h2 := []) (by kernel_rfl) (by kernel_rfl) trivial (Nat.zero_le _) trivial (And.intro trivial (And.intro trivial (And.intro trivial (And.intro trivial trivial)))) ?_
      exact hk
  · replace h := ifs_false h hb
    rw [← Option.some.inj h] at hk
    refine runs_to (ts := [6]) (T' := X16_L1T) (env' := [(6, (D.int .u64 t6))]) (h2 := []) (by kernel_rfl) (by kernel_rfl) trivial (Nat.zero_le _) trivial (And.intro trivial trivial) ?_
    exact hk

theorem iter16_L1 (fu : Nat) (t0 : Int) (t1 : Int) {d : D} (k : Nat) (s : (Int × Int)) {o : E16_L1 ⊕ (Int × Bool)} (h : iter (fun s => F16_L1 fu t0 t1 s.1 s.2) k s = some o) (hx : X16_L1 fu t0 t1 d o) : N16_L1 fu t0 t1 d s :=
  iter_post (K := N16_L1 fu t0 t1 d) (X := X16_L1 fu t0 t1 d) (fun s _ h hk => run16_L1 fu t0 t1 s.1 s.2 h hk) k s o h hx

/-- podesta/podestaref01.Mask -/
def F16 (fu : Nat) (t0 : Int) (t1 : Int) : Option (Int × Bool) :=
  (callIf (!(bif (bif (decide (t0 < (0 : Int))) then true else (decide (t0 > (11 : Int)))) then true else (decide (t1 < (0 : Int))))) (F19 t0) (0 : Int)).bind fun r0 =>
  ifs (bif (bif (bif (decide (t0 < (0 : Int))) then true else (decide (t0 > (11 : Int)))) then true else (decide (t1 < (0 : Int)))) then true else (decide (t1 > r0))) (
    some ((0 : Int), false)) (
    after (iter (fun s => F16_L1 fu t0 t1 s.1 s.2) fu ((0 : Int), (0 : Int))) fun e1 =>
    some (e1, true))

theorem run16 (fu : Nat) (t0 : Int) (t1 : Int) {d : D} {r : (Int × Bool)} (h : F16 fu t0 t1 = some r) (hk : K16 d r) : Runs Try.prog Try.f16 0 T16 [(0, (D.int .i64 t0)), (1, (D.int .i64 t1))] [] d [] := by
  unfold F16 at h
  obtain ⟨r0, cr0, h⟩ := Option.bind_eq_some_iff.1 h
  refine runs_regions 2 [([], [0, 1]), ([(D.int .i64 r0)], [0, 1, 23])] (z := ([((!(decide (t0 < (0 : Int)))) = true → All [((!(decide (t0 < (0 : Int)))) = true → (!(decide (t0 < (0 : Int)))) = true)]), ((true && !(decide (t0 < (0 : Int)))) = true → (!(decide (t0 < (0 : Int)))) = true), ((!(bif (decide (t0 < (0 : Int))) then true else (decide (t0 > (11 : Int))))) = true → All [((!(bif (decide (t0 < (0 : Int))) then true else (decide (t0 > (11 : Int))))) = true → (!(bif (decide (t0 < (0 : Int))) then true else (decide (t0 > (11 : Int))))) = true)]), ((true && !(bif (decide (t0 < (0 : Int))) then true else (decide (t0 > (11 : Int))))) = true → (!(bif (decide (t0 < (0 : Int))) then true else (decide (t0 > (11 : Int))))) = true), ((!(bif (bif (decide (t0 < (0 : Int))) then true else (decide (t0 > (11 : Int)))) then true else (decide (t1 < (0 : Int))))) = true → All [((!(bif (bif (decide (t0 < (0 : Int))) then true else (decide (t0 > (11 : Int)))) then true else (decide (t1 < (0 : Int))))) = true → (!(bif (bif (decide (t0 < (0 : Int))) then true else (decide (t0 > (11 : Int)))) then true else (decide (t1 < (0 : Int))))) = true), FC Try.prog 19 [(D.int .i64 t0)] [] (D.int .i64 r0) [], All (List.map NoRow [(D.int .i64 t0)])]), ((!(bif (bif (decide (t0 < (0 : Int))) then true else (decide (t0 > (11 : Int)))) then true else (decide (t1 < (0 : Int))))) = true → All [((!(bif (bif (decide (t0 < (0 : Int))) then true else (decide (t0 > (11 : Int)))) then true else (decide (t1 < (0 : Int))))) = true → (!(bif (bif (decide (t0 < (0 : Int))) then true else (decide (t0 > (11 : Int)))) then true else (decide (t1 < (0 : Int))))) = true), ((!(bif (bif (decide (t0 < (0 : Int))) then true else (decide (t0 > (11 : Int)))) then true else (decide (t1 < (0 : Int))))) = true → (!(bif (bif (decide (t0 < (0 : Int))) then true else (decide (t0 > (11 : Int)))) then true else (decide (t1 < (0 : Int))))) = true)]), ((true && !(bif (bif (decide (t0 < (0 : Int))) then true else (decide (t0 > (11 : Int)))) then true else (decide (t1 < (0 : Int))))) = true → (!(bif (bif (decide (t0 < (0 : Int))) then true else (decide (t0 > (11 : Int)))) then true else (decide (t1 < (0 : Int))))) = true)], [(0, (D.int .i64 t0)), (1, (D.int .i64 t1)), (23, (D.bool (bif (bif (bif (decide (t0 < (0 : Int))) then true else (decide (t0 > (11 : Int)))) then true else (decide (t1 < (0 : Int)))) then true else (decide (t1 > r0)))))], [])) rfl (by kernel_rfl) (And.intro (fun _ => (And.intro (by first | exact fun h => h | exact fun h => (Bool.and_eq_true_iff.1 h).1 | simp_all) trivial)) (And.intro (by first | exact fun h => h | exact fun h => (Bool.and_eq_true_iff.1 h).1 | simp_all) (And.intro (fun _ => (And.intro (by first | exact fun h => h | exact fun h => (Bool.and_eq_true_iff.1 h).1 | simp_all) trivial)) (And.intro (by first | exact fun h => h | exact fun h => (Bool.and_eq_true_iff.1 h).1 | simp_all) (And.intro (fun hg => (And.intro (by first | exact fun h => h | exact fun h => (Bool.and_eq_true_iff.1 h).1 | simp_all) (And.intro (fc19 t0 (callIf_some cr0 hg)) (And.intro (And.intro trivial trivial) trivial)))) (And.intro (fun _ => (And.intro (by first | exact fun h => h | exact fun h => (Bool.and_eq_true_iff.1 h).1 | simp_all) (And.intro (by first | exact fun h => h | exact fun h => (Bool.and_eq_true_iff.1 h).1 | simp_all) trivial))) (And.intro (by first | exact fun h => h | exact fun h => (Bool.and_eq_true_iff.1 h).1 | simp_all) trivial))))))) ?_
  refine runs_if (b := (bif (bif (bif (decide (t0 < (0 : Int))) then true else (decide (t0 > (11 : Int)))) then true else (decide (t1 < (0 : Int)))) then true else (decide (t1 > r0)))) (by kernel_rfl) (fun hb => ?_) (fun hb => ?_)
  · replace h := ifs_true h hb
    refine runs_regions 1 [([], [4, 5])] (z := ([], [(4, (D.int .u64 (0 : Int))), (5, (D.bool false))], [])) rfl (by kernel_rfl) trivial ?_
    rw [← Option.some.inj h] at hk
    obtain rfl : d = (D.tup (D.cons (D.int .u64 (0 : Int)) (D.cons (D.bool false) D.nil))) := hk
    exact runs_ret (by kernel_rfl) trivial (Nat.le_refl 0) trivial (And.intro trivial (And.intro trivial trivial))
  · replace h := ifs_false h hb
    refine runs_regions 2 [([], [0, 1, 6]), ([], [0, 1, 6, 7])] (z := ([], [(0, (D.int .i64 t0)), (1, (D.int .i64 t1)), (6, (D.int .u64 (0 : Int))), (7, (D.int .i64 (0 : Int)))], [])) rfl (by kernel_rfl) trivial ?_
    refine runs_to (ts := [0, 1, 6, 7]) (T' := T16_L1) (env' := [(0, (D.int .i64 t0)), (1, (D.int .i64 t1)), (6, (D.int .u64 (0 : Int))), (7, (D.int .i64 (0 : Int)))]) (h2 := []) (by kernel_rfl) (by kernel_rfl) trivial (Nat.zero_le _) trivial (And.intro trivial (And.intro trivial (And.intro trivial (And.intro trivial trivial)))) ?_
    rcases after_some h with ⟨e1, hi, h⟩ | hi
    · refine iter16_L1 fu t0 t1 fu ((0 : Int), (0 : Int)) hi ?_
      show Runs Try.prog Try.f16 0 X16_L1T [(6, (D.int .u64 e1))] [] d []
      refine runs_regions 1 [([], [4, 5])] (z := ([], [(4, (D.int .u64 e1)), (5, (D.bool true))], [])) rfl (by kernel_rfl) trivial ?_
      rw [← Option.some.inj h] at hk
      obtain rfl : d = (D.tup (D.cons (D.int .u64 e1) (D.cons (D.bool true) D.nil))) := hk
      exact runs_ret (by kernel_rfl) trivial (Nat.le_refl 0) trivial (And.intro trivial (And.intro trivial trivial))
    · exact iter16_L1 fu t0 t1 fu ((0 : Int), (0 : Int)) hi hk

theorem fc16 (fu : Nat) (t0 : Int) (t1 : Int) {r : (Int × Bool)} (h : F16 fu t0 t1 = some r) : FC Try.prog 16 [(D.int .i64 t0), (D.int .i64 t1)] [] (D.tup (D.cons (D.int .u64 r.1) (D.cons (D.bool r.2) D.nil))) [] := by
  refine fc_of_runs (fn := Try.f16) (c := Try.f16.body.getD .skip) (by kernel_rfl) (by kernel_rfl) ?_
  refine runs_to (ts := [0, 1]) (T' := T16) (env' := [(0, (D.int .i64 t0)), (1, (D.int .i64 t1))]) (h2 := []) (by kernel_rfl) (by kernel_rfl) trivial (Nat.le_refl 0) trivial (And.intro trivial (And.intro trivial trivial)) ?_
  exact run16 fu t0 t1 h rfl

def K23 (d : D) (r : ByteArray) : Prop := d = (D.str r)

noncomputable def T23 : List Item := norm 200 [.code (Try.f23.body.getD .skip)]

/-- podesta/head.Name -/
def F23 (t0 : Int) : Option ByteArray :=
  (F50 t0).bind fun r0 =>
  ifs (!r0) (
    some (⟨#[]⟩ : ByteArray)) (
    (F51).bind fun r1 =>
    chk (0 ≤ t0 ∧ t0 < ((12 : Nat) : Int)) <|
    chk (t0.toNat < 12) <|
    some (r1 t0.toNat).f0)

theorem run23 (t0 : Int) {d : D} {r : ByteArray} (h : F23 t0 = some r) (hk : K23 d r) : Runs Try.prog Try.f23 0 T23 [(0, (D.int .i64 t0))] [] d [] := by
  unfold F23 at h
  obtain ⟨r0, cr0, h⟩ := Option.bind_eq_some_iff.1 h
  refine runs_regions 2 [([], [0]), ([(D.bool r0)], [0, 5])] (z := ([FC Try.prog 50 [(D.int .i64 t0)] [] (D.bool r0) [], All (List.map NoRow [(D.int .i64 t0)])], [(0, (D.int .i64 t0)), (5, (D.bool (!r0)))], [])) rfl (by kernel_rfl) (And.intro (fc50 t0 cr0) (And.intro (And.intro trivial trivial) trivial)) ?_
  refine runs_if (b := (!r0)) (by kernel_rfl) (fun hb => ?_) (fun hb => ?_)
  · replace h := ifs_true h hb
    refine runs_regions 1 [([], [2])] (z := ([], [(2, (D.str (⟨#[]⟩ : ByteArray)))], [])) rfl (by kernel_rfl) trivial ?_
    rw [← Option.some.inj h] at hk
    obtain rfl : d = (D.str (⟨#[]⟩ : ByteArray)) := hk
    exact runs_ret (by kernel_rfl) trivial (Nat.le_refl 0) trivial trivial
  · replace h := ifs_false h hb
    obtain ⟨r1, cr1, h⟩ := Option.bind_eq_some_iff.1 h
    obtain ⟨p0, h⟩ := chk_some h
    obtain ⟨p1, h⟩ := chk_some h
    refine runs_regions 1 [([(D.arr 12 2 fun i => (D.cons (D.str (r1 i).f0) (D.cons (D.int .i64 (r1 i).f1) D.nil)))], [2])] (z := ([FC Try.prog 51 [] [] (D.arr 12 2 fun i => (D.cons (D.str (r1 i).f0) (D.cons (D.int .i64 (r1 i).f1) D.nil))) [], All (List.map NoRow []), (0 ≤ t0 ∧ t0 < ((12 : Nat) : Int)), (t0.toNat < 12)], [(2, (D.str (r1 t0.toNat).f0))], [])) rfl (by kernel_rfl) (And.intro (fc51 cr1) (And.intro trivial (And.intro p0 (And.intro p1 trivial)))) ?_
    rw [← Option.some.inj h] at hk
    obtain rfl : d = (D.str (r1 t0.toNat).f0) := hk
    exact runs_ret (by kernel_rfl) trivial (Nat.le_refl 0) trivial trivial

theorem fc23 (t0 : Int) {r : ByteArray} (h : F23 t0 = some r) : FC Try.prog 23 [(D.int .i64 t0)] [] (D.str r) [] := by
  refine fc_of_runs (fn := Try.f23) (c := Try.f23.body.getD .skip) (by kernel_rfl) (by kernel_rfl) ?_
  refine runs_to (ts := [0]) (T' := T23) (env' := [(0, (D.int .i64 t0))]) (h2 := []) (by kernel_rfl) (by kernel_rfl) trivial (Nat.le_refl 0) trivial (And.intro trivial trivial) ?_
  exact run23 t0 h rfl

def K17 (d : D) (r : Bool) : Prop := d = (D.bool r)

noncomputable def T17 : List Item := norm 200 [.code (Try.f17.body.getD .skip)]

/-- podesta/podestalaw01.answers -/
def F17 : Option Bool :=
  (F15 (6 : Int) (8 : Int)).bind fun r0 =>
  (callIf (bif r0.2 then (r0.1 == (4278190080 : Int)) else false) (F23 (9 : Int)) (⟨#[]⟩ : ByteArray)).bind fun r1 =>
  some (bif (bif r0.2 then (r0.1 == (4278190080 : Int)) else false) then (r1.toList == (⟨#[116, 111, 115]⟩ : ByteArray).toList) else false)

theorem run17 {d : D} {r : Bool} (h : F17 = some r) (hk : K17 d r) : Runs Try.prog Try.f17 0 T17 [] [] d [] := by
  unfold F17 at h
  obtain ⟨r0, cr0, h⟩ := Option.bind_eq_some_iff.1 h
  obtain ⟨r1, cr1, h⟩ := Option.bind_eq_some_iff.1 h
  refine runs_regions 3 [([], []), ([(D.tup (D.cons (D.int .u64 r0.1) (D.cons (D.bool r0.2) D.nil)))], [1, 2]), ([(D.str r1)], [0])] (z := ([FC Try.prog 15 [(D.int .i64 (6 : Int)), (D.int .i64 (8 : Int))] [] (D.tup (D.cons (D.int .u64 r0.1) (D.cons (D.bool r0.2) D.nil))) [], All (List.map NoRow [(D.int .i64 (6 : Int)), (D.int .i64 (8 : Int))]), (r0.2 = true → All [(r0.2 = true → r0.2 = true)]), ((true && r0.2) = true → r0.2 = true), ((bif r0.2 then (r0.1 == (4278190080 : Int)) else false) = true → All [FC Try.prog 23 [(D.int .i64 (9 : Int))] [] (D.str r1) [], All (List.map NoRow [(D.int .i64 (9 : Int))])]), ((bif r0.2 then (r0.1 == (4278190080 : Int)) else false) = true → All [((bif r0.2 then (r0.1 == (4278190080 : Int)) else false) = true → (bif r0.2 then (r0.1 == (4278190080 : Int)) else false) = true)]), ((true && (bif r0.2 then (r0.1 == (4278190080 : Int)) else false)) = true → (bif r0.2 then (r0.1 == (4278190080 : Int)) else false) = true)], [(0, (D.bool (bif (bif r0.2 then (r0.1 == (4278190080 : Int)) else false) then (r1.toList == (⟨#[116, 111, 115]⟩ : ByteArray).toList) else false)))], [])) rfl (by kernel_rfl) (And.intro (fc15 (6 : Int) (8 : Int) cr0) (And.intro (And.intro trivial (And.intro trivial trivial)) (And.intro (fun _ => (And.intro (by first | exact fun h => h | exact fun h => (Bool.and_eq_true_iff.1 h).1 | simp_all) trivial)) (And.intro (by first | exact fun h => h | exact fun h => (Bool.and_eq_true_iff.1 h).1 | simp_all) (And.intro (fun hg => (And.intro (fc23 (9 : Int) (callIf_some cr1 hg)) (And.intro (And.intro trivial trivial) trivial))) (And.intro (fun _ => (And.intro (by first | exact fun h => h | exact fun h => (Bool.and_eq_true_iff.1 h).1 | simp_all) trivial)) (And.intro (by first | exact fun h => h | exact fun h => (Bool.and_eq_true_iff.1 h).1 | simp_all) trivial))))))) ?_
  rw [← Option.some.inj h] at hk
  obtain rfl : d = (D.bool (bif (bif r0.2 then (r0.1 == (4278190080 : Int)) else false) then (r1.toList == (⟨#[116, 111, 115]⟩ : ByteArray).toList) else false)) := hk
  exact runs_ret (by kernel_rfl) trivial (Nat.le_refl 0) trivial trivial

theorem fc17 {r : Bool} (h : F17 = some r) : FC Try.prog 17 [] [] (D.bool r) [] := by
  refine fc_of_runs (fn := Try.f17) (c := Try.f17.body.getD .skip) (by kernel_rfl) (by kernel_rfl) ?_
  refine runs_to (ts := []) (T' := T17) (env' := []) (h2 := []) (by kernel_rfl) (by kernel_rfl) trivial (Nat.le_refl 0) trivial trivial ?_
  exact run17 h rfl

def K3 (d : D) (r : Bool) : Prop := d = (D.bool r)

noncomputable def T3 : List Item := norm 200 [.code (Try.f3.body.getD .skip)]

/-- podesta/podestalaw01.HeadMasks -/
def F3 (fu : Nat) (t0 : Int) (t1 : Int) : Option Bool :=
  (F15 t0 t1).bind fun r0 =>
  (F16 fu t0 t1).bind fun r1 =>
  (F17).bind fun r2 =>
  some (bif (bif r2 then (r0.1 == r1.1) else false) then (r0.2 == r1.2) else false)

theorem run3 (fu : Nat) (t0 : Int) (t1 : Int) {d : D} {r : Bool} (h : F3 fu t0 t1 = some r) (hk : K3 d r) : Runs Try.prog Try.f3 0 T3 [(0, (D.int .i64 t0)), (1, (D.int .i64 t1))] [] d [] := by
  unfold F3 at h
  obtain ⟨r0, cr0, h⟩ := Option.bind_eq_some_iff.1 h
  obtain ⟨r1, cr1, h⟩ := Option.bind_eq_some_iff.1 h
  obtain ⟨r2, cr2, h⟩ := Option.bind_eq_some_iff.1 h
  refine runs_regions 4 [([], [0, 1]), ([(D.tup (D.cons (D.int .u64 r0.1) (D.cons (D.bool r0.2) D.nil)))], [0, 1, 5, 6]), ([(D.tup (D.cons (D.int .u64 r1.1) (D.cons (D.bool r1.2) D.nil)))], [5, 6, 7, 8]), ([(D.bool r2)], [4])] (z := ([FC Try.prog 15 [(D.int .i64 t0), (D.int .i64 t1)] [] (D.tup (D.cons (D.int .u64 r0.1) (D.cons (D.bool r0.2) D.nil))) [], All (List.map NoRow [(D.int .i64 t0), (D.int .i64 t1)]), FC Try.prog 16 [(D.int .i64 t0), (D.int .i64 t1)] [] (D.tup (D.cons (D.int .u64 r1.1) (D.cons (D.bool r1.2) D.nil))) [], All (List.map NoRow [(D.int .i64 t0), (D.int .i64 t1)]), FC Try.prog 17 [] [] (D.bool r2) [], All (List.map NoRow []), (r2 = true → All [(r2 = true → r2 = true), (r2 = true → r2 = true)]), ((true && r2) = true → r2 = true), ((bif r2 then (r0.1 == r1.1) else false) = true → All [((bif r2 then (r0.1 == r1.1) else false) = true → (bif r2 then (r0.1 == r1.1) else false) = true), ((bif r2 then (r0.1 == r1.1) else false) = true → (bif r2 then (r0.1 == r1.1) else false) = true)]), ((true && (bif r2 then (r0.1 == r1.1) else false)) = true → (bif r2 then (r0.1 == r1.1) else false) = true)], [(4, (D.bool (bif (bif r2 then (r0.1 == r1.1) else false) then (r0.2 == r1.2) else false)))], [])) rfl (by kernel_rfl) (And.intro (fc15 t0 t1 cr0) (And.intro (And.intro trivial (And.intro trivial trivial)) (And.intro (fc16 fu t0 t1 cr1) (And.intro (And.intro trivial (And.intro trivial trivial)) (And.intro (fc17 cr2) (And.intro trivial (And.intro (fun _ => (And.intro (by first | exact fun h => h | exact fun h => (Bool.and_eq_true_iff.1 h).1 | simp_all) (And.intro (by first | exact fun h => h | exact fun h => (Bool.and_eq_true_iff.1 h).1 | simp_all) trivial))) (And.intro (by first | exact fun h => h | exact fun h => (Bool.and_eq_true_iff.1 h).1 | simp_all) (And.intro (fun _ => (And.intro (by first | exact fun h => h | exact fun h => (Bool.and_eq_true_iff.1 h).1 | simp_all) (And.intro (by first | exact fun h => h | exact fun h => (Bool.and_eq_true_iff.1 h).1 | simp_all) trivial))) (And.intro (by first | exact fun h => h | exact fun h => (Bool.and_eq_true_iff.1 h).1 | simp_all) trivial)))))))))) ?_
  rw [← Option.some.inj h] at hk
  obtain rfl : d = (D.bool (bif (bif r2 then (r0.1 == r1.1) else false) then (r0.2 == r1.2) else false)) := hk
  exact runs_ret (by kernel_rfl) trivial (Nat.le_refl 0) trivial trivial

theorem fc3 (fu : Nat) (t0 : Int) (t1 : Int) {r : Bool} (h : F3 fu t0 t1 = some r) : FC Try.prog 3 [(D.int .i64 t0), (D.int .i64 t1)] [] (D.bool r) [] := by
  refine fc_of_runs (fn := Try.f3) (c := Try.f3.body.getD .skip) (by kernel_rfl) (by kernel_rfl) ?_
  refine runs_to (ts := [0, 1]) (T' := T3) (env' := [(0, (D.int .i64 t0)), (1, (D.int .i64 t1))]) (h2 := []) (by kernel_rfl) (by kernel_rfl) trivial (Nat.le_refl 0) trivial (And.intro trivial (And.intro trivial trivial)) ?_
  exact run3 fu t0 t1 h rfl

end Go.Proofs.Ytfhimlhpjbjfgaa