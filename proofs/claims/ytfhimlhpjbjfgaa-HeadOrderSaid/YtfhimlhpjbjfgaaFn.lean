/- What the functions compute, each proved to do so (printed by pgen.py). -/
import Derived.Test.YtfhimlhpjbjfgaaProg
import Derived.Test.YtfhimlhpjbjfgaaPodK
namespace Go.Proofs.Ytfhimlhpjbjfgaa
open Go Go.Pod Go.Proofs

def K50 (d : D) (r : Bool) : Prop := d = (D.bool r)

noncomputable def T50 : List Item := norm 200 [.code (Try.f50.body.getD .skip)]

/-- podesta/head.there -/
def F50 (t0 : Int) : Option Bool :=
  some (bif (decide (t0 ≥ (0 : Int))) then (decide (t0 < (12 : Int))) else false)

theorem run50 (t0 : Int) {d : D} {r : Bool} (h : F50 t0 = some r) (hk : K50 d r) : Runs Try.prog Try.f50 0 T50 [(0, (D.int .i64 t0))] [] d [] := by
  unfold F50 at h
  refine runs_regions 2 [([], [0]), ([], [2])] (z := ([((decide (t0 ≥ (0 : Int))) = true → All [((decide (t0 ≥ (0 : Int))) = true → (decide (t0 ≥ (0 : Int))) = true)]), ((true && (decide (t0 ≥ (0 : Int)))) = true → (decide (t0 ≥ (0 : Int))) = true)], [(2, (D.bool (bif (decide (t0 ≥ (0 : Int))) then (decide (t0 < (12 : Int))) else false)))], [])) rfl (by kernel_rfl) (And.intro (fun _ => (And.intro (by first | exact fun h => h | exact fun h => (Bool.and_eq_true_iff.1 h).1 | simp_all) trivial)) (And.intro (by first | exact fun h => h | exact fun h => (Bool.and_eq_true_iff.1 h).1 | simp_all) trivial)) ?_
  rw [← Option.some.inj h] at hk
  obtain rfl : d = (D.bool (bif (decide (t0 ≥ (0 : Int))) then (decide (t0 < (12 : Int))) else false)) := hk
  exact runs_ret (by kernel_rfl) trivial (Nat.le_refl 0) trivial trivial

theorem fc50 (t0 : Int) {r : Bool} (h : F50 t0 = some r) : FC Try.prog 50 [(D.int .i64 t0)] [] (D.bool r) [] := by
  refine fc_of_runs (fn := Try.f50) (c := Try.f50.body.getD .skip) (by kernel_rfl) (by kernel_rfl) ?_
  refine runs_to (ts := [0]) (T' := T50) (env' := [(0, (D.int .i64 t0))]) (h2 := []) (by kernel_rfl) (by kernel_rfl) trivial (Nat.le_refl 0) trivial (And.intro trivial trivial) ?_
  exact run50 t0 h rfl

structure S67 where
  f0 : ByteArray
  f1 : Int

def S67.d (x : S67) : D := (D.cons (D.str x.f0) (D.cons (D.int .i64 x.f1) D.nil))

def K51 (d : D) (r : (Nat → S67)) : Prop := d = (D.arr 12 2 fun i => (D.cons (D.str (r i).f0) (D.cons (D.int .i64 (r i).f1) D.nil)))

noncomputable def T51 : List Item := norm 200 [.code (Try.f51.body.getD .skip)]

/-- podesta/head.fields -/
def F51 : Option (Nat → S67) :=
  some (fun j => if j = 11 then (S67.mk (⟨#[100, 112, 111, 114, 116]⟩ : ByteArray) (12 : Int)) else (fun j => if j = 10 then (S67.mk (⟨#[115, 112, 111, 114, 116]⟩ : ByteArray) (12 : Int)) else (fun j => if j = 9 then (S67.mk (⟨#[116, 111, 115]⟩ : ByteArray) (8 : Int)) else (fun j => if j = 8 then (S67.mk (⟨#[112, 114, 111, 116, 111]⟩ : ByteArray) (8 : Int)) else (fun j => if j = 7 then (S67.mk (⟨#[100, 115, 116]⟩ : ByteArray) (32 : Int)) else (fun j => if j = 6 then (S67.mk (⟨#[115, 114, 99]⟩ : ByteArray) (32 : Int)) else (fun j => if j = 5 then (S67.mk (⟨#[112, 99, 112]⟩ : ByteArray) (4 : Int)) else (fun j => if j = 4 then (S67.mk (⟨#[118, 108, 97, 110]⟩ : ByteArray) (12 : Int)) else (fun j => if j = 3 then (S67.mk (⟨#[101, 116, 121, 112, 101]⟩ : ByteArray) (16 : Int)) else (fun j => if j = 2 then (S67.mk (⟨#[101, 100, 115, 116]⟩ : ByteArray) (48 : Int)) else (fun j => if j = 1 then (S67.mk (⟨#[101, 115, 114, 99]⟩ : ByteArray) (48 : Int)) else (fun j => if j = 0 then (S67.mk (⟨#[105, 110]⟩ : ByteArray) (16 : Int)) else (fun _ => (S67.mk (⟨#[]⟩ : ByteArray) (0 : Int))) j) j) j) j) j) j) j) j) j) j) j) j)

theorem run51 {d : D} {r : (Nat → S67)} (h : F51 = some r) (hk : K51 d r) : Runs Try.prog Try.f51 0 T51 [] [] d [] := by
  unfold F51 at h
  refine runs_regions 2 [([], [0]), ([], [0])] (z := ([(0 < 12), (1 < 12), (2 < 12), (3 < 12), (4 < 12), (5 < 12), (6 < 12), (7 < 12), (8 < 12), (9 < 12), (10 < 12), (11 < 12)], [(0, (D.ptr 0 []))], [some (.box (D.arr 12 2 fun j => (if j = 11 then (D.cons (D.str (⟨#[100, 112, 111, 114, 116]⟩ : ByteArray)) (D.cons (D.int .i64 (12 : Int)) D.nil)) else (if j = 10 then (D.cons (D.str (⟨#[115, 112, 111, 114, 116]⟩ : ByteArray)) (D.cons (D.int .i64 (12 : Int)) D.nil)) else (if j = 9 then (D.cons (D.str (⟨#[116, 111, 115]⟩ : ByteArray)) (D.cons (D.int .i64 (8 : Int)) D.nil)) else (if j = 8 then (D.cons (D.str (⟨#[112, 114, 111, 116, 111]⟩ : ByteArray)) (D.cons (D.int .i64 (8 : Int)) D.nil)) else (if j = 7 then (D.cons (D.str (⟨#[100, 115, 116]⟩ : ByteArray)) (D.cons (D.int .i64 (32 : Int)) D.nil)) else (if j = 6 then (D.cons (D.str (⟨#[115, 114, 99]⟩ : ByteArray)) (D.cons (D.int .i64 (32 : Int)) D.nil)) else (if j = 5 then (D.cons (D.str (⟨#[112, 99, 112]⟩ : ByteArray)) (D.cons (D.int .i64 (4 : Int)) D.nil)) else (if j = 4 then (D.cons (D.str (⟨#[118, 108, 97, 110]⟩ : ByteArray)) (D.cons (D.int .i64 (12 : Int)) D.nil)) else (if j = 3 then (D.cons (D.str (⟨#[101, 116, 121, 112, 101]⟩ : ByteArray)) (D.cons (D.int .i64 (16 : Int)) D.nil)) else (if j = 2 then (D.cons (D.str (⟨#[101, 100, 115, 116]⟩ : ByteArray)) (D.cons (D.int .i64 (48 : Int)) D.nil)) else (if j = 1 then (D.cons (D.str (⟨#[101, 115, 114, 99]⟩ : ByteArray)) (D.cons (D.int .i64 (48 : Int)) D.nil)) else (if j = 0 then (D.cons (D.str (⟨#[105, 110]⟩ : ByteArray)) (D.cons (D.int .i64 (16 : Int)) D.nil)) else (D.cons (D.str ((fun _ => (S67.mk (⟨#[]⟩ : ByteArray) (0 : Int))) j).f0) (D.cons (D.int .i64 ((fun _ => (S67.mk (⟨#[]⟩ : ByteArray) (0 : Int))) j).f1) D.nil))))))))))))))))])) rfl (by kernel_rfl) (And.intro (by decide) (And.intro (by decide) (And.intro (by decide) (And.intro (by decide) (And.intro (by decide) (And.intro (by decide) (And.intro (by decide) (And.intro (by decide) (And.intro (by decide) (And.intro (by decide) (And.intro (by decide) (And.intro (by decide) trivial)))))))))))) ?_
  refine cast_fun (F := fun q => Runs Try.prog Try.f51 0 _ [(0, (D.ptr 0 []))] [some (.box (D.arr 12 2 q))] d []) (funext fun j => (show (if j = 11 then (D.cons (D.str (⟨#[100, 112, 111, 114, 116]⟩ : ByteArray)) (D.cons (D.int .i64 (12 : Int)) D.nil)) else (if j = 10 then (D.cons (D.str (⟨#[115, 112, 111, 114, 116]⟩ : ByteArray)) (D.cons (D.int .i64 (12 : Int)) D.nil)) else (if j = 9 then (D.cons (D.str (⟨#[116, 111, 115]⟩ : ByteArray)) (D.cons (D.int .i64 (8 : Int)) D.nil)) else (if j = 8 then (D.cons (D.str (⟨#[112, 114, 111, 116, 111]⟩ : ByteArray)) (D.cons (D.int .i64 (8 : Int)) D.nil)) else (if j = 7 then (D.cons (D.str (⟨#[100, 115, 116]⟩ : ByteArray)) (D.cons (D.int .i64 (32 : Int)) D.nil)) else (if j = 6 then (D.cons (D.str (⟨#[115, 114, 99]⟩ : ByteArray)) (D.cons (D.int .i64 (32 : Int)) D.nil)) else (if j = 5 then (D.cons (D.str (⟨#[112, 99, 112]⟩ : ByteArray)) (D.cons (D.int .i64 (4 : Int)) D.nil)) else (if j = 4 then (D.cons (D.str (⟨#[118, 108, 97, 110]⟩ : ByteArray)) (D.cons (D.int .i64 (12 : Int)) D.nil)) else (if j = 3 then (D.cons (D.str (⟨#[101, 116, 121, 112, 101]⟩ : ByteArray)) (D.cons (D.int .i64 (16 : Int)) D.nil)) else (if j = 2 then (D.cons (D.str (⟨#[101, 100, 115, 116]⟩ : ByteArray)) (D.cons (D.int .i64 (48 : Int)) D.nil)) else (if j = 1 then (D.cons (D.str (⟨#[101, 115, 114, 99]⟩ : ByteArray)) (D.cons (D.int .i64 (48 : Int)) D.nil)) else (if j = 0 then (D.cons (D.str (⟨#[105, 110]⟩ : ByteArray)) (D.cons (D.int .i64 (16 : Int)) D.nil)) else (D.cons (D.str ((fun _ => (S67.mk (⟨#[]⟩ : ByteArray) (0 : Int))) j).f0) (D.cons (D.int .i64 ((fun _ => (S67.mk (⟨#[]⟩ : ByteArray) (0 : Int))) j).f1) D.nil)))))))))))))) = (fun x : S67 => (D.cons (D.str x.f0) (D.cons (D.int .i64 x.f1) D.nil))) ((fun j => if j = 11 then (S67.mk (⟨#[100, 112, 111, 114, 116]⟩ : ByteArray) (12 : Int)) else (fun j => if j = 10 then (S67.mk (⟨#[115, 112, 111, 114, 116]⟩ : ByteArray) (12 : Int)) else (fun j => if j = 9 then (S67.mk (⟨#[116, 111, 115]⟩ : ByteArray) (8 : Int)) else (fun j => if j = 8 then (S67.mk (⟨#[112, 114, 111, 116, 111]⟩ : ByteArray) (8 : Int)) else (fun j => if j = 7 then (S67.mk (⟨#[100, 115, 116]⟩ : ByteArray) (32 : Int)) else (fun j => if j = 6 then (S67.mk (⟨#[115, 114, 99]⟩ : ByteArray) (32 : Int)) else (fun j => if j = 5 then (S67.mk (⟨#[112, 99, 112]⟩ : ByteArray) (4 : Int)) else (fun j => if j = 4 then (S67.mk (⟨#[118, 108, 97, 110]⟩ : ByteArray) (12 : Int)) else (fun j => if j = 3 then (S67.mk (⟨#[101, 116, 121, 112, 101]⟩ : ByteArray) (16 : Int)) else (fun j => if j = 2 then (S67.mk (⟨#[101, 100, 115, 116]⟩ : ByteArray) (48 : Int)) else (fun j => if j = 1 then (S67.mk (⟨#[101, 115, 114, 99]⟩ : ByteArray) (48 : Int)) else (fun j => if j = 0 then (S67.mk (⟨#[105, 110]⟩ : ByteArray) (16 : Int)) else (fun _ => (S67.mk (⟨#[]⟩ : ByteArray) (0 : Int))) j) j) j) j) j) j) j) j) j) j) j) j) j) from (d_ite (f := fun x : S67 => (D.cons (D.str x.f0) (D.cons (D.int .i64 x.f1) D.nil))) rfl (d_ite (f := fun x : S67 => (D.cons (D.str x.f0) (D.cons (D.int .i64 x.f1) D.nil))) rfl (d_ite (f := fun x : S67 => (D.cons (D.str x.f0) (D.cons (D.int .i64 x.f1) D.nil))) rfl (d_ite (f := fun x : S67 => (D.cons (D.str x.f0) (D.cons (D.int .i64 x.f1) D.nil))) rfl (d_ite (f := fun x : S67 => (D.cons (D.str x.f0) (D.cons (D.int .i64 x.f1) D.nil))) rfl (d_ite (f := fun x : S67 => (D.cons (D.str x.f0) (D.cons (D.int .i64 x.f1) D.nil))) rfl (d_ite (f := fun x : S67 => (D.cons (D.str x.f0) (D.cons (D.int .i64 x.f1) D.nil))) rfl (d_ite (f := fun x : S67 => (D.cons (D.str x.f0) (D.cons (D.int .i64 x.f1) D.nil))) rfl (d_ite (f := fun x : S67 => (D.cons (D.str x.f0) (D.cons (D.int .i64 x.f1) D.nil))) rfl (d_ite (f := fun x : S67 => (D.cons (D.str x.f0) (D.cons (D.int .i64 x.f1) D.nil))) rfl (d_ite (f := fun x : S67 => (D.cons (D.str x.f0) (D.cons (D.int .i64 x.f1) D.nil))) rfl (d_ite (f := fun x : S67 => (D.cons (D.str x.f0) (D.cons (D.int .i64 x.f1) D.nil))) rfl rfl)))))))))))))) ?_
  rw [← Option.some.inj h] at hk
  obtain rfl : d = (D.arr 12 2 fun i => (D.cons (D.str ((fun j => if j = 11 then (S67.mk (⟨#[100, 112, 111, 114, 116]⟩ : ByteArray) (12 : Int)) else (fun j => if j = 10 then (S67.mk (⟨#[115, 112, 111, 114, 116]⟩ : ByteArray) (12 : Int)) else (fun j => if j = 9 then (S67.mk (⟨#[116, 111, 115]⟩ : ByteArray) (8 : Int)) else (fun j => if j = 8 then (S67.mk (⟨#[112, 114, 111, 116, 111]⟩ : ByteArray) (8 : Int)) else (fun j => if j = 7 then (S67.mk (⟨#[100, 115, 116]⟩ : ByteArray) (32 : Int)) else (fun j => if j = 6 then (S67.mk (⟨#[115, 114, 99]⟩ : ByteArray) (32 : Int)) else (fun j => if j = 5 then (S67.mk (⟨#[112, 99, 112]⟩ : ByteArray) (4 : Int)) else (fun j => if j = 4 then (S67.mk (⟨#[118, 108, 97, 110]⟩ : ByteArray) (12 : Int)) else (fun j => if j = 3 then (S67.mk (⟨#[101, 116, 121, 112, 101]⟩ : ByteArray) (16 : Int)) else (fun j => if j = 2 then (S67.mk (⟨#[101, 100, 115, 116]⟩ : ByteArray) (48 : Int)) else (fun j => if j = 1 then (S67.mk (⟨#[101, 115, 114, 99]⟩ : ByteArray) (48 : Int)) else (fun j => if j = 0 then (S67.mk (⟨#[105, 110]⟩ : ByteArray) (16 : Int)) else (fun _ => (S67.mk (⟨#[]⟩ : ByteArray) (0 : Int))) j) j) j) j) j) j) j) j) j) j) j) j) i).f0) (D.cons (D.int .i64 ((fun j => if j = 11 then (S67.mk (⟨#[100, 112, 111, 114, 116]⟩ : ByteArray) (12 : Int)) else (fun j => if j = 10 then (S67.mk (⟨#[115, 112, 111, 114, 116]⟩ : ByteArray) (12 : Int)) else (fun j => if j = 9 then (S67.mk (⟨#[116, 111, 115]⟩ : ByteArray) (8 : Int)) else (fun j => if j = 8 then (S67.mk (⟨#[112, 114, 111, 116, 111]⟩ : ByteArray) (8 : Int)) else (fun j => if j = 7 then (S67.mk (⟨#[100, 115, 116]⟩ : ByteArray) (32 : Int)) else (fun j => if j = 6 then (S67.mk (⟨#[115, 114, 99]⟩ : ByteArray) (32 : Int)) else (fun j => if j = 5 then (S67.mk (⟨#[112, 99, 112]⟩ : ByteArray) (4 : Int)) else (fun j => if j = 4 then (S67.mk (⟨#[118, 108, 97, 110]⟩ : ByteArray) (12 : Int)) else (fun j => if j = 3 then (S67.mk (⟨#[101, 116, 121, 112, 101]⟩ : ByteArray) (16 : Int)) else (fun j => if j = 2 then (S67.mk (⟨#[101, 100, 115, 116]⟩ : ByteArray) (48 : Int)) else (fun j => if j = 1 then (S67.mk (⟨#[101, 115, 114, 99]⟩ : ByteArray) (48 : Int)) else (fun j => if j = 0 then (S67.mk (⟨#[105, 110]⟩ : ByteArray) (16 : Int)) else (fun _ => (S67.mk (⟨#[]⟩ : ByteArray) (0 : Int))) j) j) j) j) j) j) j) j) j) j) j) j) i).f1) D.nil))) := hk
  exact runs_ret (by kernel_rfl) trivial (Nat.le_refl 0) trivial (fun _ _ => (And.intro trivial (And.intro trivial trivial)))

theorem fc51 {r : (Nat → S67)} (h : F51 = some r) : FC Try.prog 51 [] [] (D.arr 12 2 fun i => (D.cons (D.str (r i).f0) (D.cons (D.int .i64 (r i).f1) D.nil))) [] := by
  refine fc_of_runs (fn := Try.f51) (c := Try.f51.body.getD .skip) (by kernel_rfl) (by kernel_rfl) ?_
  refine runs_to (ts := []) (T' := T51) (env' := []) (h2 := []) (by kernel_rfl) (by kernel_rfl) trivial (Nat.le_refl 0) trivial trivial ?_
  exact run51 h rfl

def K18 (d : D) (r : Int) : Prop := d = (D.int .i64 r)

noncomputable def T18 : List Item := norm 200 [.code (Try.f18.body.getD .skip)]

/-- podesta/head.Size -/
def F18 (t0 : Int) : Option Int :=
  (F50 t0).bind fun r0 =>
  ifs (!r0) (
    some (0 : Int)) (
    (F51).bind fun r1 =>
    chk (0 ≤ t0 ∧ t0 < ((12 : Nat) : Int)) <|
    chk (t0.toNat < 12) <|
    some (r1 t0.toNat).f1)

theorem run18 (t0 : Int) {d : D} {r : Int} (h : F18 t0 = some r) (hk : K18 d r) : Runs Try.prog Try.f18 0 T18 [(0, (D.int .i64 t0))] [] d [] := by
  unfold F18 at h
  obtain ⟨r0, cr0, h⟩ := Option.bind_eq_some_iff.1 h
  refine runs_regions 2 [([], [0]), ([(D.bool r0)], [0, 5])] (z := ([FC Try.prog 50 [(D.int .i64 t0)] [] (D.bool r0) [], All (List.map NoRow [(D.int .i64 t0)])], [(0, (D.int .i64 t0)), (5, (D.bool (!r0)))], [])) rfl (by kernel_rfl) (And.intro (fc50 t0 cr0) (And.intro (And.intro trivial trivial) trivial)) ?_
  refine runs_if (b := (!r0)) (by kernel_rfl) (fun hb => ?_) (fun hb => ?_)
  · replace h := ifs_true h hb
    refine runs_regions 1 [([], [2])] (z := ([], [(2, (D.int .i64 (0 : Int)))], [])) rfl (by kernel_rfl) trivial ?_
    rw [← Option.some.inj h] at hk
    obtain rfl : d = (D.int .i64 (0 : Int)) := hk
    exact runs_ret (by kernel_rfl) trivial (Nat.le_refl 0) trivial trivial
  · replace h := ifs_false h hb
    obtain ⟨r1, cr1, h⟩ := Option.bind_eq_some_iff.1 h
    obtain ⟨p0, h⟩ := chk_some h
    obtain ⟨p1, h⟩ := chk_some h
    refine runs_regions 1 [([(D.arr 12 2 fun i => (D.cons (D.str (r1 i).f0) (D.cons (D.int .i64 (r1 i).f1) D.nil)))], [2])] (z := ([FC Try.prog 51 [] [] (D.arr 12 2 fun i => (D.cons (D.str (r1 i).f0) (D.cons (D.int .i64 (r1 i).f1) D.nil))) [], All (List.map NoRow []), (0 ≤ t0 ∧ t0 < ((12 : Nat) : Int)), (t0.toNat < 12)], [(2, (D.int .i64 (r1 t0.toNat).f1))], [])) rfl (by kernel_rfl) (And.intro (fc51 cr1) (And.intro trivial (And.intro p0 (And.intro p1 trivial)))) ?_
    rw [← Option.some.inj h] at hk
    obtain rfl : d = (D.int .i64 (r1 t0.toNat).f1) := hk
    exact runs_ret (by kernel_rfl) trivial (Nat.le_refl 0) trivial trivial

theorem fc18 (t0 : Int) {r : Int} (h : F18 t0 = some r) : FC Try.prog 18 [(D.int .i64 t0)] [] (D.int .i64 r) [] := by
  refine fc_of_runs (fn := Try.f18) (c := Try.f18.body.getD .skip) (by kernel_rfl) (by kernel_rfl) ?_
  refine runs_to (ts := [0]) (T' := T18) (env' := [(0, (D.int .i64 t0))]) (h2 := []) (by kernel_rfl) (by kernel_rfl) trivial (Nat.le_refl 0) trivial (And.intro trivial trivial) ?_
  exact run18 t0 h rfl

def K15 (d : D) (r : (Int × Bool)) : Prop := d = (D.tup (D.cons (D.int .u64 r.1) (D.cons (D.bool r.2) D.nil)))

noncomputable def T15 : List Item := norm 200 [.code (Try.f15.body.getD .skip)]

/-- podesta/head.Mask -/
def F15 (t0 : Int) (t1 : Int) : Option (Int × Bool) :=
  (F50 t0).bind fun r0 =>
  (callIf (!(bif (!r0) then true else (decide (t1 < (0 : Int))))) (F18 t0) (0 : Int)).bind fun r1 =>
  ifs (bif (bif (!r0) then true else (decide (t1 < (0 : Int)))) then true else (decide (t1 > r1))) (
    some ((0 : Int), false)) (
    chk (0 ≤ t1) <|
    (F18 t0).bind fun r2 =>
    chk (0 ≤ (IntKind.wrap .i64 (r2 - t1))) <|
    some ((ishl .u64 (IntKind.wrap .u64 ((ishl .u64 (1 : Int) t1) - (1 : Int))) (IntKind.wrap .i64 (r2 - t1))), true))

theorem run15 (t0 : Int) (t1 : Int) {d : D} {r : (Int × Bool)} (h : F15 t0 t1 = some r) (hk : K15 d r) : Runs Try.prog Try.f15 0 T15 [(0, (D.int .i64 t0)), (1, (D.int .i64 t1))] [] d [] := by
  unfold F15 at h
  obtain ⟨r0, cr0, h⟩ := Option.bind_eq_some_iff.1 h
  obtain ⟨r1, cr1, h⟩ := Option.bind_eq_some_iff.1 h
  refine runs_regions 2 [([], [0, 1]), ([(D.bool r0), (D.int .i64 r1)], [0, 1, 18])] (z := ([FC Try.prog 50 [(D.int .i64 t0)] [] (D.bool r0) [], All (List.map NoRow [(D.int .i64 t0)]), ((!(!r0)) = true → All [((!(!r0)) = true → (!(!r0)) = true)]), ((true && !(!r0)) = true → (!(!r0)) = true), ((!(bif (!r0) then true else (decide (t1 < (0 : Int))))) = true → All [((!(bif (!r0) then true else (decide (t1 < (0 : Int))))) = true → (!(bif (!r0) then true else (decide (t1 < (0 : Int))))) = true), FC Try.prog 18 [(D.int .i64 t0)] [] (D.int .i64 r1) [], All (List.map NoRow [(D.int .i64 t0)])]), ((!(bif (!r0) then true else (decide (t1 < (0 : Int))))) = true → All [((!(bif (!r0) then true else (decide (t1 < (0 : Int))))) = true → (!(bif (!r0) then true else (decide (t1 < (0 : Int))))) = true), ((!(bif (!r0) then true else (decide (t1 < (0 : Int))))) = true → (!(bif (!r0) then true else (decide (t1 < (0 : Int))))) = true)]), ((true && !(bif (!r0) then true else (decide (t1 < (0 : Int))))) = true → (!(bif (!r0) then true else (decide (t1 < (0 : Int))))) = true)], [(0, (D.int .i64 t0)), (1, (D.int .i64 t1)), (18, (D.bool (bif (bif (!r0) then true else (decide (t1 < (0 : Int)))) then true else (decide (t1 > r1)))))], [])) rfl (by kernel_rfl) (And.intro (fc50 t0 cr0) (And.intro (And.intro trivial trivial) (And.intro (fun _ => (And.intro (by first | exact fun h => h | exact fun h => (Bool.and_eq_true_iff.1 h).1 | simp_all) trivial)) (And.intro (by first | exact fun h => h | exact fun h => (Bool.and_eq_true_iff.1 h).1 | simp_all) (And.intro (fun hg => (And.intro (by first | exact fun h => h | exact fun h => (Bool.and_eq_true_iff.1 h).1 | simp_all) (And.intro (fc18 t0 (callIf_some cr1 hg)) (And.intro (And.intro trivial trivial) trivial)))) (And.intro (fun _ => (And.intro (by first | exact fun h => h | exact fun h => (Bool.and_eq_true_iff.1 h).1 | simp_all) (And.intro (by first | exact fun h => h | exact fun h => (Bool.and_eq_true_iff.1 h).1 | simp_all) trivial))) (And.intro (by first | exact fun h => h | exact fun h => (Bool.and_eq_true_iff.1 h).1 | simp_all) trivial))))))) ?_
  refine runs_if (b := (bif (bif (!r0) then true else (decide (t1 < (0 : Int)))) then true else (decide (t1 > r1)))) (by kernel_rfl) (fun hb => ?_) (fun hb => ?_)
  · replace h := ifs_true h hb
    refine runs_regions 1 [([], [4, 5])] (z := ([], [(4, (D.int .u64 (0 : Int))), (5, (D.bool false))], [])) rfl (by kernel_rfl) trivial ?_
    rw [← Option.some.inj h] at hk
    obtain rfl : d = (D.tup (D.cons (D.int .u64 (0 : Int)) (D.cons (D.bool false) D.nil))) := hk
    exact runs_ret (by kernel_rfl) trivial (Nat.le_refl 0) trivial (And.intro trivial (And.intro trivial trivial))
  · replace h := ifs_false h hb
    obtain ⟨p0, h⟩ := chk_some h
    obtain ⟨r2, cr2, h⟩ := Option.bind_eq_some_iff.1 h
    obtain ⟨p1, h⟩ := chk_some h
    refine runs_regions 1 [([(D.int .i64 r2)], [4, 5])] (z := ([(0 ≤ t1), FC Try.prog 18 [(D.int .i64 t0)] [] (D.int .i64 r2) [], All (List.map NoRow [(D.int .i64 t0)]), (0 ≤ (IntKind.wrap .i64 (r2 - t1)))], [(4, (D.int .u64 (ishl .u64 (IntKind.wrap .u64 ((ishl .u64 (1 : Int) t1) - (1 : Int))) (IntKind.wrap .i64 (r2 - t1))))), (5, (D.bool true))], [])) rfl (by kernel_rfl) (And.intro p0 (And.intro (fc18 t0 cr2) (And.intro (And.intro trivial trivial) (And.intro p1 trivial)))) ?_
    rw [← Option.some.inj h] at hk
    obtain rfl : d = (D.tup (D.cons (D.int .u64 (ishl .u64 (IntKind.wrap .u64 ((ishl .u64 (1 : Int) t1) - (1 : Int))) (IntKind.wrap .i64 (r2 - t1)))) (D.cons (D.bool true) D.nil))) := hk
    exact runs_ret (by kernel_rfl) trivial (Nat.le_refl 0) trivial (And.intro trivial (And.intro trivial trivial))

theorem fc15 (t0 : Int) (t1 : Int) {r : (Int × Bool)} (h : F15 t0 t1 = some r) : FC Try.prog 15 [(D.int .i64 t0), (D.int .i64 t1)] [] (D.tup (D.cons (D.int .u64 r.1) (D.cons (D.bool r.2) D.nil))) [] := by
  refine fc_of_runs (fn := Try.f15) (c := Try.f15.body.getD .skip) (by kernel_rfl) (by kernel_rfl) ?_
  refine runs_to (ts := [0, 1]) (T' := T15) (env' := [(0, (D.int .i64 t0)), (1, (D.int .i64 t1))]) (h2 := []) (by kernel_rfl) (by kernel_rfl) trivial (Nat.le_refl 0) trivial (And.intro trivial (And.intro trivial trivial)) ?_
  exact run15 t0 t1 h rfl

def K19 (d : D) (r : Int) : Prop := d = (D.int .i64 r)

noncomputable def T19 : List Item := norm 200 [.code (Try.f19.body.getD .skip)]

/-- podesta/podestaref01.Size -/
def F19 (t0 : Int) : Option Int :=
  ifs (bif (decide (t0 < (0 : Int))) then true else (decide (t0 > (11 : Int)))) (
    some (0 : Int)) (
    chk (0 ≤ t0 ∧ t0 < ((12 : Nat) : Int)) <|
    some ((fun i => ([(16 : Int), (48 : Int), (48 : Int), (16 : Int), (12 : Int), (4 : Int), (32 : Int), (32 : Int), (8 : Int), (8 : Int), (12 : Int), (12 : Int)] : List Int).getD i (0 : Int)) t0.toNat))

theorem run19 (t0 : Int) {d : D} {r : Int} (h : F19 t0 = some r) (hk : K19 d r) : Runs Try.prog Try.f19 0 T19 [(0, (D.int .i64 t0))] [] d [] := by
  unfold F19 at h
  refine runs_regions 2 [([], [0]), ([], [0, 8])] (z := ([((!(decide (t0 < (0 : Int)))) = true → All [((!(decide (t0 < (0 : Int)))) = true → (!(decide (t0 < (0 : Int)))) = true)]), ((true && !(decide (t0 < (0 : Int)))) = true → (!(decide (t0 < (0 : Int)))) = true)], [(0, (D.int .i64 t0)), (8, (D.bool (bif (decide (t0 < (0 : Int))) then true else (decide (t0 > (11 : Int))))))], [])) rfl (by kernel_rfl) (And.intro (fun _ => (And.intro (by first | exact fun h => h | exact fun h => (Bool.and_eq_true_iff.1 h).1 | simp_all) trivial)) (And.intro (by first | exact fun h => h | exact fun h => (Bool.and_eq_true_iff.1 h).1 | simp_all) trivial)) ?_
  refine runs_if (b := (bif (decide (t0 < (0 : Int))) then true else (decide (t0 > (11 : Int))))) (by kernel_rfl) (fun hb => ?_) (fun hb => ?_)
  · replace h := ifs_true h hb
    refine runs_regions 1 [([], [2])] (z := ([], [(2, (D.int .i64 (0 : Int)))], [])) rfl (by kernel_rfl) trivial ?_
    rw [← Option.some.inj h] at hk
    obtain rfl : d = (D.int .i64 (0 : Int)) := hk
    exact runs_ret (by kernel_rfl) trivial (Nat.le_refl 0) trivial trivial
  · replace h := ifs_false h hb
    obtain ⟨p0, h⟩ := chk_some h
    refine runs_regions 1 [([(D.gd false (D.lit 12 1 fun i => (D.int .i64 ((fun i => ([(16 : Int), (48 : Int), (48 : Int), (16 : Int), (12 : Int), (4 : Int), (32 : Int), (32 : Int), (8 : Int), (8 : Int), (12 : Int), (12 : Int)] : List Int).getD i (0 : Int)) i))))], [2])] (z := ([TabOk [(D.int .i64 (16 : Int)), (D.int .i64 (48 : Int)), (D.int .i64 (48 : Int)), (D.int .i64 (16 : Int)), (D.int .i64 (12 : Int)), (D.int .i64 (4 : Int)), (D.int .i64 (32 : Int)), (D.int .i64 (32 : Int)), (D.int .i64 (8 : Int)), (D.int .i64 (8 : Int)), (D.int .i64 (12 : Int)), (D.int .i64 (12 : Int))] 1 (D.arr 12 1 fun i => (D.int .i64 ((fun i => ([(16 : Int), (48 : Int), (48 : Int), (16 : Int), (12 : Int), (4 : Int), (32 : Int), (32 : Int), (8 : Int), (8 : Int), (12 : Int), (12 : Int)] : List Int).getD i (0 : Int)) i))), (0 ≤ t0 ∧ t0 < ((12 : Nat) : Int))], [(2, (D.int .i64 ((fun i => ([(16 : Int), (48 : Int), (48 : Int), (16 : Int), (12 : Int), (4 : Int), (32 : Int), (32 : Int), (8 : Int), (8 : Int), (12 : Int), (12 : Int)] : List Int).getD i (0 : Int)) t0.toNat)))], [])) rfl (by kernel_rfl) (And.intro (tabOk_arr rfl (And.intro rfl (And.intro rfl (And.intro rfl (And.intro rfl (And.intro rfl (And.intro rfl (And.intro rfl (And.intro rfl (And.intro rfl (And.intro rfl (And.intro rfl (And.intro rfl trivial))))))))))))) (And.intro p0 trivial)) ?_
    rw [← Option.some.inj h] at hk
    obtain rfl : d = (D.int .i64 ((fun i => ([(16 : Int), (48 : Int), (48 : Int), (16 : Int), (12 : Int), (4 : Int), (32 : Int), (32 : Int), (8 : Int), (8 : Int), (12 : Int), (12 : Int)] : List Int).getD i (0 : Int)) t0.toNat)) := hk
    exact runs_ret (by kernel_rfl) trivial (Nat.le_refl 0) trivial trivial

theorem fc19 (t0 : Int) {r : Int} (h : F19 t0 = some r) : FC Try.prog 19 [(D.int .i64 t0)] [] (D.int .i64 r) [] := by
  refine fc_of_runs (fn := Try.f19) (c := Try.f19.body.getD .skip) (by kernel_rfl) (by kernel_rfl) ?_
  refine runs_to (ts := [0]) (T' := T19) (env' := [(0, (D.int .i64 t0))]) (h2 := []) (by kernel_rfl) (by kernel_rfl) trivial (Nat.le_refl 0) trivial (And.intro trivial trivial) ?_
  exact run19 t0 h rfl

def K16 (d : D) (r : (Int × Bool)) : Prop := d = (D.tup (D.cons (D.int .u64 r.1) (D.cons (D.bool r.2) D.nil)))

noncomputable def T16 : List Item := norm 200 [.code (Try.f16.body.getD .skip)]

noncomputable def T16_L1 : List Item := norm 200 (nxt (nxt (cndF (nxt (nxt T16)))))

noncomputable def X16_L1T : List Item := norm 200 (cndF (nxt (nxt (nxt (cndF (nxt (nxt T16)))))))

abbrev E16_L1 := Int

def N16_L1 (_fu : Nat) (t0 : Int) (t1 : Int) (d : D) (s : (Int × Int)) : Prop := Runs Try.prog Try.f16 0 T16_L1 [(0, (D.int .i64 t0)), (1, (D.int .i64 t1)), (6, (D.int .u64 s.1)), (7, (D.int .i64 s.2))] [] d []

def X16_L1 (_fu : Nat) (_t0 : Int) (_t1 : Int) (d : D) : E16_L1 ⊕ (Int × Bool) → Prop
  | .inl e => Runs Try.prog Try.f16 0 X16_L1T [(6, (D.int .u64 e))] [] d []
  | .inr o => (K16 d) o

def F16_L1 (_fu : Nat) (t0 : Int) (t1 : Int) (t6 : Int) (t7 : Int) : Option (Lo (Int × Int) E16_L1 (Int × Bool)) :=
  (F19 t0).bind fun r1 =>
  ifs (decide (t7 < r1)) (
    ifs (decide (t7 < t1)) (
      some (.next ((IntKind.wrap .u64 ((IntKind.wrap .u64 (t6 * (2 : Int))) + (1 : Int))), (IntKind.wrap .i64 (t7 + (1 : Int)))))) (
      some (.next ((IntKind.wrap .u64 (t6 * (2 : Int))), (IntKind.wrap .i64 (t7 + (1 : Int))))))) (
    some (.exit t6))

theorem run16_L1 (fu : Nat) (t0 : Int) (t1 : Int) (t6 : Int) (t7 : Int) {d : D} {o : (Lo (Int × Int) E16_L1 (Int × Bool))} (h : F16_L1 fu t0 t1 t6 t7 = some o) (hk : (Lo.post (N16_L1 fu t0 t1 d) (X16_L1 fu t0 t1 d)) o) : Runs Try.prog Try.f16 0 T16_L1 [(0, (D.int .i64 t0)), (1, (D.int .i64 t1)), (6, (D.int .u64 t6)), (7, (D.int .i64 t7))] [] d [] := by
  unfold F16_L1 at h
  obtain ⟨r1, cr1, h⟩ := Option.bind_eq_some_iff.1 h
  refine runs_regions 1 [([(D.int .i64 r1)], [0, 1, 6, 7, 27])] (z := ([FC Try.prog 19 [(D.int .i64 t0)] [] (D.int .i64 r1) [], All (List.map NoRow [(D.int .i64 t0)])], [(0, (D.int .i64 t0)), (1, (D.int .i64 t1)), (6, (D.int .u64 t6)), (7, (D.int .i64 t7)), (27, (D.bool (decide (t7 < r1))))], [])) rfl (by kernel_rfl) (And.intro (fc19 t0 cr1) (And.intro (And.intro trivial trivial) trivial)) ?_
  refine runs_if (b := (decide (t7 < r1))) (by kernel_rfl) (fun hb => ?_) (fun hb => ?_)
  · replace h := ifs_true h hb
    refine runs_regions 2 [([], [0, 1, 6, 7]), ([], [0, 1, 6, 7, 34])] (z := ([], [(0, (D.int .i64 t0)), (1, (D.int .i64 t1)), (6, (D.int .u64 (IntKind.wrap .u64 (t6 * (2 : Int))))), (7, (D.int .i64 t7)), (34, (D.bool (decide (t7 < t1))))], [])) rfl (by kernel_rfl) trivial ?_
    refine runs_if (b := (decide (t7 < t1))) (by kernel_rfl) (fun hb => ?_) (fun hb => ?_)
    · replace h := ifs_true h hb
      refine runs_regions 2 [([], [0, 1, 6, 7]), ([], [0, 1, 6, 7])] (z := ([], [(0, (D.int .i64 t0)), (1, (D.int .i64 t1)), (6, (D.int .u64 (IntKind.wrap .u64 ((IntKind.wrap .u64 (t6 * (2 : Int))) + (1 : Int))))), (7, (D.int .i64 (IntKind.wrap .i64 (t7 + (1 : Int)))))], [])) rfl (by kernel_rfl) trivial ?_
      rw [← Option.some.inj h] at hk
      refine runs_to (ts := [0, 1, 6, 7]) (T' := T16_L1) (env' := [(0, (D.int .i64 t0)), (1, (D.int .i64 t1)), (6, (D.int .u64 (IntKind.wrap .u64 ((IntKind.wrap .u64 (t6 * (2 : Int))) + (1 : Int))))), (7, (D.int .i64 (IntKind.wrap .i64 (t7 + (1 : Int)))))]) (h2 := []) (by kernel_rfl) (by kernel_rfl) trivial (Nat.zero_le _) trivial (And.intro trivial (And.intro trivial (And.intro trivial (And.intro trivial trivial)))) ?_
      exact hk
    · replace h := ifs_false h hb
      refine runs_regions 1 [([], [0, 1, 6, 7])] (z := ([], [(0, (D.int .i64 t0)), (1, (D.int .i64 t1)), (6, (D.int .u64 (IntKind.wrap .u64 (t6 * (2 : Int))))), (7, (D.int .i64 (IntKind.wrap .i64 (t7 + (1 : Int)))))], [])) rfl (by kernel_rfl) trivial ?_
      rw [← Option.some.inj h] at hk
      refine runs_to (ts := [0, 1, 6, 7]) (T' := T16_L1) (env' := [(0, (D.int .i64 t0)), (1, (D.int .i64 t1)), (6, (D.int .u64 (IntKind.wrap .u64 (t6 * (2 : Int))))), (7, (D.int .i64 (IntKind.wrap .i64 (t7 + (1 : Int)))))]) (h2 := []) (by kernel_rfl) (by kernel_rfl) trivial (Nat.zero_le _) trivial (And.intro trivial (And.intro trivial (And.intro trivial (And.intro trivial trivial)))) ?_
      exact hk
  · replace h := ifs_false h hb
    rw [← Option.some.inj h] at hk
    refine runs_to (ts := [6]) (T' := X16_L1T) (env' := [(6, (D.int .u64 t6))]) (h2 := []) (by kernel_rfl) (by kernel_rfl) trivial (Nat.zero_le _) trivial (And.intro trivial trivial) ?_
    exact hk

theorem iter16_L1 (fu : Nat) (t0 : Int) (t1 : Int) {d : D} (k : Nat) (s : (Int × Int)) {o : E16_L1 ⊕ (Int × Bool)} (h : iter (fun s => F16_L1 fu t0 t1 s.1 s.2) k s = some o) (hx : X16_L1 fu t0 t1 d o) : N16_L1 fu t0 t1 d s :=
  iter_post (K := N16_L1 fu t0 t1 d) (X := X16_L1 fu t0 t1 d) (fun s _ h hk => run16_L1 fu t0 t1 s.1 s.2 h hk) k s o h hx

/-- podesta/podestaref01.Mask -/
def F16 (fu : Nat) (t0 : Int) (t1 : Int) : Option (Int × Bool) :=
  (callIf (!(bif (bif (decide (t0 < (0 : Int))) then true else (decide (t0 > (11 : Int)))) then true else (decide (t1 < (0 : Int))))) (F19 t0) (0 : Int)).bind fun r0 =>
  ifs (bif (bif (bif (decide (t0 < (0 : Int))) then true else (decide (t0 > (11 : Int)))) then true else (decide (t1 < (0 : Int)))) then true else (decide (t1 > r0))) (
    some ((0 : Int), false)) (
    after (iter (fun s => F16_L1 fu t0 t1 s.1 s.2) fu ((0 : Int), (0 : Int))) fun e1 =>
    some (e1, true))

theorem run16 (fu : Nat) (t0 : Int) (t1 : Int) {d : D} {r : (Int × Bool)} (h : F16 fu t0 t1 = some r) (hk : K16 d r) : Runs Try.prog Try.f16 0 T16 [(0, (D.int .i64 t0)), (1, (D.int .i64 t1))] [] d [] := by
  unfold F16 at h
  obtain ⟨r0, cr0, h⟩ := Option.bind_eq_some_iff.1 h
  refine runs_regions 2 [([], [0, 1]), ([(D.int .i64 r0)], [0, 1, 23])] (z := ([((!(decide (t0 < (0 : Int)))) = true → All [((!(decide (t0 < (0 : Int)))) = true → (!(decide (t0 < (0 : Int)))) = true)]), ((true && !(decide (t0 < (0 : Int)))) = true → (!(decide (t0 < (0 : Int)))) = true), ((!(bif (decide (t0 < (0 : Int))) then true else (decide (t0 > (11 : Int))))) = true → All [((!(bif (decide (t0 < (0 : Int))) then true else (decide (t0 > (11 : Int))))) = true → (!(bif (decide (t0 < (0 : Int))) then true else (decide (t0 > (11 : Int))))) = true)]), ((true && !(bif (decide (t0 < (0 : Int))) then true else (decide (t0 > (11 : Int))))) = true → (!(bif (decide (t0 < (0 : Int))) then true else (decide (t0 > (11 : Int))))) = true), ((!(bif (bif (decide (t0 < (0 : Int))) then true else (decide (t0 > (11 : Int)))) then true else (decide (t1 < (0 : Int))))) = true → All [((!(bif (bif (decide (t0 < (0 : Int))) then true else (decide (t0 > (11 : Int)))) then true else (decide (t1 < (0 : Int))))) = true → (!(bif (bif (decide (t0 < (0 : Int))) then true else (decide (t0 > (11 : Int)))) then true else (decide (t1 < (0 : Int))))) = true), FC Try.prog 19 [(D.int .i64 t0)] [] (D.int .i64 r0) [], All (List.map NoRow [(D.int .i64 t0)])]), ((!(bif (bif (decide (t0 < (0 : Int))) then true else (decide (t0 > (11 : Int)))) then true else (decide (t1 < (0 : Int))))) = true → All [((!(bif (bif (decide (t0 < (0 : Int))) then true else (decide (t0 > (11 : Int)))) then true else (decide (t1 < (0 : Int))))) = true → (!(bif (bif (decide (t0 < (0 : Int))) then true else (decide (t0 > (11 : Int)))) then true else (decide (t1 < (0 : Int))))) = true), ((!(bif (bif (decide (t0 < (0 : Int))) then true else (decide (t0 > (11 : Int)))) then true else (decide (t1 < (0 : Int))))) = true → (!(bif (bif (decide (t0 < (0 : Int))) then true else (decide (t0 > (11 : Int)))) then true else (decide (t1 < (0 : Int))))) = true)]), ((true && !(bif (bif (decide (t0 < (0 : Int))) then true else (decide (t0 > (11 : Int)))) then true else (decide (t1 < (0 : Int))))) = true → (!(bif (bif (decide (t0 < (0 : Int))) then true else (decide (t0 > (11 : Int)))) then true else (decide (t1 < (0 : Int))))) = true)], [(0, (D.int .i64 t0)), (1, (D.int .i64 t1)), (23, (D.bool (bif (bif (bif (decide (t0 < (0 : Int))) then true else (decide (t0 > (11 : Int)))) then true else (decide (t1 < (0 : Int)))) then true else (decide (t1 > r0)))))], [])) rfl (by kernel_rfl) (And.intro (fun _ => (And.intro (by first | exact fun h => h | exact fun h => (Bool.and_eq_true_iff.1 h).1 | simp_all) trivial)) (And.intro (by first | exact fun h => h | exact fun h => (Bool.and_eq_true_iff.1 h).1 | simp_all) (And.intro (fun _ => (And.intro (by first | exact fun h => h | exact fun h => (Bool.and_eq_true_iff.1 h).1 | simp_all) trivial)) (And.intro (by first | exact fun h => h | exact fun h => (Bool.and_eq_true_iff.1 h).1 | simp_all) (And.intro (fun hg => (And.intro (by first | exact fun h => h | exact fun h => (Bool.and_eq_true_iff.1 h).1 | simp_all) (And.intro (fc19 t0 (callIf_some cr0 hg)) (And.intro (And.intro trivial trivial) trivial)))) (And.intro (fun _ => (And.intro (by first | exact fun h => h | exact fun h => (Bool.and_eq_true_iff.1 h).1 | simp_all) (And.intro (by first | exact fun h => h | exact fun h => (Bool.and_eq_true_iff.1 h).1 | simp_all) trivial))) (And.intro (by first | exact fun h => h | exact fun h => (Bool.and_eq_true_iff.1 h).1 | simp_all) trivial))))))) ?_
  refine runs_if (b := (bif (bif (bif (decide (t0 < (0 : Int))) then true else (decide (t0 > (11 : Int)))) then true else (decide (t1 < (0 : Int)))) then true else (decide (t1 > r0)))) (by kernel_rfl) (fun hb => ?_) (fun hb => ?_)
  · replace h := ifs_true h hb
    refine runs_regions 1 [([], [4, 5])] (z := ([], [(4, (D.int .u64 (0 : Int))), (5, (D.bool false))], [])) rfl (by kernel_rfl) trivial ?_
    rw [← Option.some.inj h] at hk
    obtain rfl : d = (D.tup (D.cons (D.int .u64 (0 : Int)) (D.cons (D.bool false) D.nil))) := hk
    exact runs_ret (by kernel_rfl) trivial (Nat.le_refl 0) trivial (And.intro trivial (And.intro trivial trivial))
  · replace h := ifs_false h hb
    refine runs_regions 2 [([], [0, 1, 6]), ([], [0, 1, 6, 7])] (z := ([], [(0, (D.int .i64 t0)), (1, (D.int .i64 t1)), (6, (D.int .u64 (0 : Int))), (7, (D.int .i64 (0 : Int)))], [])) rfl (by kernel_rfl) trivial ?_
    refine runs_to (ts := [0, 1, 6, 7]) (T' := T16_L1) (env' := [(0, (D.int .i64 t0)), (1, (D.int .i64 t1)), (6, (D.int .u64 (0 : Int))), (7, (D.int .i64 (0 : Int)))]) (h2 := []) (by kernel_rfl) (by kernel_rfl) trivial (Nat.zero_le _) trivial (And.intro trivial (And.intro trivial (And.intro trivial (And.intro trivial trivial)))) ?_
    rcases after_some h with ⟨e1, hi, h⟩ | hi
    · refine iter16_L1 fu t0 t1 fu ((0 : Int), (0 : Int)) hi ?_
      show Runs Try.prog Try.f16 0 X16_L1T [(6, (D.int .u64 e1))] [] d []
      refine runs_regions 1 [([], [4, 5])] (z := ([], [(4, (D.int .u64 e1)), (5, (D.bool true))], [])) rfl (by kernel_rfl) trivial ?_
      rw [← Option.some.inj h] at hk
      obtain rfl : d = (D.tup (D.cons (D.int .u64 e1) (D.cons (D.bool true) D.nil))) := hk
      exact runs_ret (by kernel_rfl) trivial (Nat.le_refl 0) trivial (And.intro trivial (And.intro trivial trivial))
    · exact iter16_L1 fu t0 t1 fu ((0 : Int), (0 : Int)) hi hk

theorem fc16 (fu : Nat) (t0 : Int) (t1 : Int) {r : (Int × Bool)} (h : F16 fu t0 t1 = some r) : FC Try.prog 16 [(D.int .i64 t0), (D.int .i64 t1)] [] (D.tup (D.cons (D.int .u64 r.1) (D.cons (D.bool r.2) D.nil))) [] := by
  refine fc_of_runs (fn := Try.f16) (c := Try.f16.body.getD .skip) (by kernel_rfl) (by kernel_rfl) ?_
  refine runs_to (ts := [0, 1]) (T' := T16) (env' := [(0, (D.int .i64 t0)), (1, (D.int .i64 t1))]) (h2 := []) (by kernel_rfl) (by kernel_rfl) trivial (Nat.le_refl 0) trivial (And.intro trivial (And.intro trivial trivial)) ?_
  exact run16 fu t0 t1 h rfl

def K23 (d : D) (r : ByteArray) : Prop := d = (D.str r)

noncomputable def T23 : List Item := norm 200 [.code (Try.f23.body.getD .skip)]

/-- podesta/head.Name -/
def F23 (t0 : Int) : Option ByteArray :=
  (F50 t0).bind fun r0 =>
  ifs (!r0) (
    some (⟨#[]⟩ : ByteArray)) (
    (F51).bind fun r1 =>
    chk (0 ≤ t0 ∧ t0 < ((12 : Nat) : Int)) <|
    chk (t0.toNat < 12) <|
    some (r1 t0.toNat).f0)

theorem run23 (t0 : Int) {d : D} {r : ByteArray} (h : F23 t0 = some r) (hk : K23 d r) : Runs Try.prog Try.f23 0 T23 [(0, (D.int .i64 t0))] [] d [] := by
  unfold F23 at h
  obtain ⟨r0, cr0, h⟩ := Option.bind_eq_some_iff.1 h
  refine runs_regions 2 [([], [0]), ([(D.bool r0)], [0, 5])] (z := ([FC Try.prog 50 [(D.int .i64 t0)] [] (D.bool r0) [], All (List.map NoRow [(D.int .i64 t0)])], [(0, (D.int .i64 t0)), (5, (D.bool (!r0)))], [])) rfl (by kernel_rfl) (And.intro (fc50 t0 cr0) (And.intro (And.intro trivial trivial) trivial)) ?_
  refine runs_if (b := (!r0)) (by kernel_rfl) (fun hb => ?_) (fun hb => ?_)
  · replace h := ifs_true h hb
    refine runs_regions 1 [([], [2])] (z := ([], [(2, (D.str (⟨#[]⟩ : ByteArray)))], [])) rfl (by kernel_rfl) trivial ?_
    rw [← Option.some.inj h] at hk
    obtain rfl : d = (D.str (⟨#[]⟩ : ByteArray)) := hk
    exact runs_ret (by kernel_rfl) trivial (Nat.le_refl 0) trivial trivial
  · replace h := ifs_false h hb
    obtain ⟨r1, cr1, h⟩ := Option.bind_eq_some_iff.1 h
    obtain ⟨p0, h⟩ := chk_some h
    obtain ⟨p1, h⟩ := chk_some h
    refine runs_regions 1 [([(D.arr 12 2 fun i => (D.cons (D.str (r1 i).f0) (D.cons (D.int .i64 (r1 i).f1) D.nil)))], [2])] (z := ([FC Try.prog 51 [] [] (D.arr 12 2 fun i => (D.cons (D.str (r1 i).f0) (D.cons (D.int .i64 (r1 i).f1) D.nil))) [], All (List.map NoRow []), (0 ≤ t0 ∧ t0 < ((12 : Nat) : Int)), (t0.toNat < 12)], [(2, (D.str (r1 t0.toNat).f0))], [])) rfl (by kernel_rfl) (And.intro (fc51 cr1) (And.intro trivial (And.intro p0 (And.intro p1 trivial)))) ?_
    rw [← Option.some.inj h] at hk
    obtain rfl : d = (D.str (r1 t0.toNat).f0) := hk
    exact runs_ret (by kernel_rfl) trivial (Nat.le_refl 0) trivial trivial

theorem fc23 (t0 : Int) {r : ByteArray} (h : F23 t0 = some r) : FC Try.prog 23 [(D.int .i64 t0)] [] (D.str r) [] := by
  refine fc_of_runs (fn := Try.f23) (c := Try.f23.body.getD .skip) (by kernel_rfl) (by kernel_rfl) ?_
  refine runs_to (ts := [0]) (T' := T23) (env' := [(0, (D.int .i64 t0))]) (h2 := []) (by kernel_rfl) (by kernel_rfl) trivial (Nat.le_refl 0) trivial (And.intro trivial trivial) ?_
  exact run23 t0 h rfl

def K17 (d : D) (r : Bool) : Prop := d = (D.bool r)

noncomputable def T17 : List Item := norm 200 [.code (Try.f17.body.getD .skip)]

/-- podesta/podestalaw01.answers -/
def F17 : Option Bool :=
  (F15 (6 : Int) (8 : Int)).bind fun r0 =>
  (callIf (bif r0.2 then (r0.1 == (4278190080 : Int)) else false) (F23 (9 : Int)) (⟨#[]⟩ : ByteArray)).bind fun r1 =>
  some (bif (bif r0.2 then (r0.1 == (4278190080 : Int)) else false) then (r1.toList == (⟨#[116, 111, 115]⟩ : ByteArray).toList) else false)

theorem run17 {d : D} {r : Bool} (h : F17 = some r) (hk : K17 d r) : Runs Try.prog Try.f17 0 T17 [] [] d [] := by
  unfold F17 at h
  obtain ⟨r0, cr0, h⟩ := Option.bind_eq_some_iff.1 h
  obtain ⟨r1, cr1, h⟩ := Option.bind_eq_some_iff.1 h
  refine runs_regions 3 [([], []), ([(D.tup (D.cons (D.int .u64 r0.1) (D.cons (D.bool r0.2) D.nil)))], [1, 2]), ([(D.str r1)], [0])] (z := ([FC Try.prog 15 [(D.int .i64 (6 : Int)), (D.int .i64 (8 : Int))] [] (D.tup (D.cons (D.int .u64 r0.1) (D.cons (D.bool r0.2) D.nil))) [], All (List.map NoRow [(D.int .i64 (6 : Int)), (D.int .i64 (8 : Int))]), (r0.2 = true → All [(r0.2 = true → r0.2 = true)]), ((true && r0.2) = true → r0.2 = true), ((bif r0.2 then (r0.1 == (4278190080 : Int)) else false) = true → All [FC Try.prog 23 [(D.int .i64 (9 : Int))] [] (D.str r1) [], All (List.map NoRow [(D.int .i64 (9 : Int))])]), ((bif r0.2 then (r0.1 == (4278190080 : Int)) else false) = true → All [((bif r0.2 then (r0.1 == (4278190080 : Int)) else false) = true → (bif r0.2 then (r0.1 == (4278190080 : Int)) else false) = true)]), ((true && (bif r0.2 then (r0.1 == (4278190080 : Int)) else false)) = true → (bif r0.2 then (r0.1 == (4278190080 : Int)) else false) = true)], [(0, (D.bool (bif (bif r0.2 then (r0.1 == (4278190080 : Int)) else false) then (r1.toList == (⟨#[116, 111, 115]⟩ : ByteArray).toList) else false)))], [])) rfl (by kernel_rfl) (And.intro (fc15 (6 : Int) (8 : Int) cr0) (And.intro (And.intro trivial (And.intro trivial trivial)) (And.intro (fun _ => (And.intro (by first | exact fun h => h | exact fun h => (Bool.and_eq_true_iff.1 h).1 | simp_all) trivial)) (And.intro (by first | exact fun h => h | exact fun h => (Bool.and_eq_true_iff.1 h).1 | simp_all) (And.intro (fun hg => (And.intro (fc23 (9 : Int) (callIf_some cr1 hg)) (And.intro (And.intro trivial trivial) trivial))) (And.intro (fun _ => (And.intro (by first | exact fun h => h | exact fun h => (Bool.and_eq_true_iff.1 h).1 | simp_all) trivial)) (And.intro (by first | exact fun h => h | exact fun h => (Bool.and_eq_true_iff.1 h).1 | simp_all) trivial))))))) ?_
  rw [← Option.some.inj h] at hk
  obtain rfl : d = (D.bool (bif (bif r0.2 then (r0.1 == (4278190080 : Int)) else false) then (r1.toList == (⟨#[116, 111, 115]⟩ : ByteArray).toList) else false)) := hk
  exact runs_ret (by kernel_rfl) trivial (Nat.le_refl 0) trivial trivial

theorem fc17 {r : Bool} (h : F17 = some r) : FC Try.prog 17 [] [] (D.bool r) [] := by
  refine fc_of_runs (fn := Try.f17) (c := Try.f17.body.getD .skip) (by kernel_rfl) (by kernel_rfl) ?_
  refine runs_to (ts := []) (T' := T17) (env' := []) (h2 := []) (by kernel_rfl) (by kernel_rfl) trivial (Nat.le_refl 0) trivial trivial ?_
  exact run17 h rfl

def K3 (d : D) (r : Bool) : Prop := d = (D.bool r)

noncomputable def T3 : List Item := norm 200 [.code (Try.f3.body.getD .skip)]

/-- podesta/podestalaw01.HeadMasks -/
def F3 (fu : Nat) (t0 : Int) (t1 : Int) : Option Bool :=
  (F15 t0 t1).bind fun r0 =>
  (F16 fu t0 t1).bind fun r1 =>
  (F17).bind fun r2 =>
  some (bif (bif r2 then (r0.1 == r1.1) else false) then (r0.2 == r1.2) else false)

theorem run3 (fu : Nat) (t0 : Int) (t1 : Int) {d : D} {r : Bool} (h : F3 fu t0 t1 = some r) (hk : K3 d r) : Runs Try.prog Try.f3 0 T3 [(0, (D.int .i64 t0)), (1, (D.int .i64 t1))] [] d [] := by
  unfold F3 at h
  obtain ⟨r0, cr0, h⟩ := Option.bind_eq_some_iff.1 h
  obtain ⟨r1, cr1, h⟩ := Option.bind_eq_some_iff.1 h
  obtain ⟨r2, cr2, h⟩ := Option.bind_eq_some_iff.1 h
  refine runs_regions 4 [([], [0, 1]), ([(D.tup (D.cons (D.int .u64 r0.1) (D.cons (D.bool r0.2) D.nil)))], [0, 1, 5, 6]), ([(D.tup (D.cons (D.int .u64 r1.1) (D.cons (D.bool r1.2) D.nil)))], [5, 6, 7, 8]), ([(D.bool r2)], [4])] (z := ([FC Try.prog 15 [(D.int .i64 t0), (D.int .i64 t1)] [] (D.tup (D.cons (D.int .u64 r0.1) (D.cons (D.bool r0.2) D.nil))) [], All (List.map NoRow [(D.int .i64 t0), (D.int .i64 t1)]), FC Try.prog 16 [(D.int .i64 t0), (D.int .i64 t1)] [] (D.tup (D.cons (D.int .u64 r1.1) (D.cons (D.bool r1.2) D.nil))) [], All (List.map NoRow [(D.int .i64 t0), (D.int .i64 t1)]), FC Try.prog 17 [] [] (D.bool r2) [], All (List.map NoRow []), (r2 = true → All [(r2 = true → r2 = true), (r2 = true → r2 = true)]), ((true && r2) = true → r2 = true), ((bif r2 then (r0.1 == r1.1) else false) = true → All [((bif r2 then (r0.1 == r1.1) else false) = true → (bif r2 then (r0.1 == r1.1) else false) = true), ((bif r2 then (r0.1 == r1.1) else false) = true → (bif r2 then (r0.1 == r1.1) else false) = true)]), ((true && (bif r2 then (r0.1 == r1.1) else false)) = true → (bif r2 then (r0.1 == r1.1) else false) = true)], [(4, (D.bool (bif (bif r2 then (r0.1 == r1.1) else false) then (r0.2 == r1.2) else false)))], [])) rfl (by kernel_rfl) (And.intro (fc15 t0 t1 cr0) (And.intro (And.intro trivial (And.intro trivial trivial)) (And.intro (fc16 fu t0 t1 cr1) (And.intro (And.intro trivial (And.intro trivial trivial)) (And.intro (fc17 cr2) (And.intro trivial (And.intro (fun _ => (And.intro (by first | exact fun h => h | exact fun h => (Bool.and_eq_true_iff.1 h).1 | simp_all) (And.intro (by first | exact fun h => h | exact fun h => (Bool.and_eq_true_iff.1 h).1 | simp_all) trivial))) (And.intro (by first | exact fun h => h | exact fun h => (Bool.and_eq_true_iff.1 h).1 | simp_all) (And.intro (fun _ => (And.intro (by first | exact fun h => h | exact fun h => (Bool.and_eq_true_iff.1 h).1 | simp_all) (And.intro (by first | exact fun h => h | exact fun h => (Bool.and_eq_true_iff.1 h).1 | simp_all) trivial))) (And.intro (by first | exact fun h => h | exact fun h => (Bool.and_eq_true_iff.1 h).1 | simp_all) trivial)))))))))) ?_
  rw [← Option.some.inj h] at hk
  obtain rfl : d = (D.bool (bif (bif r2 then (r0.1 == r1.1) else false) then (r0.2 == r1.2) else false)) := hk
  exact runs_ret (by kernel_rfl) trivial (Nat.le_refl 0) trivial trivial

theorem fc3 (fu : Nat) (t0 : Int) (t1 : Int) {r : Bool} (h : F3 fu t0 t1 = some r) : FC Try.prog 3 [(D.int .i64 t0), (D.int .i64 t1)] [] (D.bool r) [] := by
  refine fc_of_runs (fn := Try.f3) (c := Try.f3.body.getD .skip) (by kernel_rfl) (by kernel_rfl) ?_
  refine runs_to (ts := [0, 1]) (T' := T3) (env' := [(0, (D.int .i64 t0)), (1, (D.int .i64 t1))]) (h2 := []) (by kernel_rfl) (by kernel_rfl) trivial (Nat.le_refl 0) trivial (And.intro trivial (And.intro trivial trivial)) ?_
  exact run3 fu t0 t1 h rfl

def K4 (d : D) (r : Bool) : Prop := d = (D.bool r)

noncomputable def T4 : List Item := norm 200 [.code (Try.f4.body.getD .skip)]

noncomputable def T4_L1 : List Item := norm 200 (nxt (nxt (nxt (nxt (nxt (nxt T4))))))

noncomputable def X4_L1T : List Item := norm 200 (cndF (nxt (nxt (nxt (nxt (nxt (nxt (nxt T4))))))))

abbrev E4_L1 := Int

def N4_L1 (_fu : Nat) (t5 : Int) (t6 : Int) (t7 : Int) (t8 : Bool) (d : D) (s : (Int × Int)) : Prop := Runs Try.prog Try.f4 0 T4_L1 [(5, (D.int .i64 t5)), (6, (D.int .i64 t6)), (7, (D.int .u64 t7)), (8, (D.bool t8)), (9, (D.int .i64 s.1)), (10, (D.int .i64 s.2))] [] d []

def X4_L1 (_fu : Nat) (_t5 : Int) (t6 : Int) (_t7 : Int) (t8 : Bool) (d : D) : E4_L1 ⊕ Bool → Prop
  | .inl e => Runs Try.prog Try.f4 0 X4_L1T [(6, (D.int .i64 t6)), (8, (D.bool t8)), (9, (D.int .i64 e))] [] d []
  | .inr o => (K4 d) o

def F4_L1 (_fu : Nat) (t5 : Int) (t6 : Int) (t7 : Int) (_t8 : Bool) (t9 : Int) (t10 : Int) : Option (Lo (Int × Int) E4_L1 Bool) :=
  ifs (decide (t10 < (64 : Int))) (
    chk (0 ≤ (IntKind.wrap .u64 t10)) <|
    ifs ((iand .u64 (ishr .u64 t7 (IntKind.wrap .u64 t10)) (1 : Int)) == (1 : Int)) (
      (F19 t5).bind fun r2 =>
      (callIf (!(decide (t10 < (IntKind.wrap .i64 (r2 - t6))))) (F19 t5) (0 : Int)).bind fun r3 =>
      ifs (bif (decide (t10 < (IntKind.wrap .i64 (r2 - t6)))) then true else (decide (t10 ≥ r3))) (
        some (.ret false)) (
        some (.next ((IntKind.wrap .i64 (t9 + (1 : Int))), (IntKind.wrap .i64 (t10 + (1 : Int))))))) (
      some (.next (t9, (IntKind.wrap .i64 (t10 + (1 : Int))))))) (
    some (.exit t9))

theorem run4_L1 (fu : Nat) (t5 : Int) (t6 : Int) (t7 : Int) (t8 : Bool) (t9 : Int) (t10 : Int) {d : D} {o : (Lo (Int × Int) E4_L1 Bool)} (h : F4_L1 fu t5 t6 t7 t8 t9 t10 = some o) (hk : (Lo.post (N4_L1 fu t5 t6 t7 t8 d) (X4_L1 fu t5 t6 t7 t8 d)) o) : Runs Try.prog Try.f4 0 T4_L1 [(5, (D.int .i64 t5)), (6, (D.int .i64 t6)), (7, (D.int .u64 t7)), (8, (D.bool t8)), (9, (D.int .i64 t9)), (10, (D.int .i64 t10))] [] d [] := by
  unfold F4_L1 at h
  refine runs_regions 1 [([], [5, 6, 7, 8, 9, 10, 27])] (z := ([], [(5, (D.int .i64 t5)), (6, (D.int .i64 t6)), (7, (D.int .u64 t7)), (8, (D.bool t8)), (9, (D.int .i64 t9)), (10, (D.int .i64 t10)), (27, (D.bool (decide (t10 < (64 : Int)))))], [])) rfl (by kernel_rfl) trivial ?_
  refine runs_if (b := (decide (t10 < (64 : Int)))) (by kernel_rfl) (fun hb => ?_) (fun hb => ?_)
  · replace h := ifs_true h hb
    obtain ⟨p2, h⟩ := chk_some h
    refine runs_regions 1 [([], [5, 6, 7, 8, 9, 10, 35])] (z := ([(0 ≤ (IntKind.wrap .u64 t10))], [(5, (D.int .i64 t5)), (6, (D.int .i64 t6)), (7, (D.int .u64 t7)), (8, (D.bool t8)), (9, (D.int .i64 t9)), (10, (D.int .i64 t10)), (35, (D.bool ((iand .u64 (ishr .u64 t7 (IntKind.wrap .u64 t10)) (1 : Int)) == (1 : Int))))], [])) rfl (by kernel_rfl) (And.intro p2 trivial) ?_
    refine runs_if (b := ((iand .u64 (ishr .u64 t7 (IntKind.wrap .u64 t10)) (1 : Int)) == (1 : Int))) (by kernel_rfl) (fun hb => ?_) (fun hb => ?_)
    · replace h := ifs_true h hb
      obtain ⟨r2, cr2, h⟩ := Option.bind_eq_some_iff.1 h
      obtain ⟨r3, cr3, h⟩ := Option.bind_eq_some_iff.1 h
      refine runs_regions 2 [([], [5, 6, 7, 8, 9, 10]), ([(D.int .i64 r2), (D.int .i64 r3)], [5, 6, 7, 8, 9, 10, 49])] (z := ([FC Try.prog 19 [(D.int .i64 t5)] [] (D.int .i64 r2) [], All (List.map NoRow [(D.int .i64 t5)]), ((!(decide (t10 < (IntKind.wrap .i64 (r2 - t6))))) = true → All [((!(decide (t10 < (IntKind.wrap .i64 (r2 - t6))))) = true → (!(decide (t10 < (IntKind.wrap .i64 (r2 - t6))))) = true), FC Try.prog 19 [(D.int .i64 t5)] [] (D.int .i64 r3) [], All (List.map NoRow [(D.int .i64 t5)])]), ((!(decide (t10 < (IntKind.wrap .i64 (r2 - t6))))) = true → All [((!(decide (t10 < (IntKind.wrap .i64 (r2 - t6))))) = true → (!(decide (t10 < (IntKind.wrap .i64 (r2 - t6))))) = true), ((!(decide (t10 < (IntKind.wrap .i64 (r2 - t6))))) = true → (!(decide (t10 < (IntKind.wrap .i64 (r2 - t6))))) = true)]), ((true && !(decide (t10 < (IntKind.wrap .i64 (r2 - t6))))) = true → (!(decide (t10 < (IntKind.wrap .i64 (r2 - t6))))) = true)], [(5, (D.int .i64 t5)), (6, (D.int .i64 t6)), (7, (D.int .u64 t7)), (8, (D.bool t8)), (9, (D.int .i64 (IntKind.wrap .i64 (t9 + (1 : Int))))), (10, (D.int .i64 t10)), (49, (D.bool (bif (decide (t10 < (IntKind.wrap .i64 (r2 - t6)))) then true else (decide (t10 ≥ r3)))))], [])) rfl (by kernel_rfl) (And.intro (fc19 t5 cr2) (And.intro (And.intro trivial trivial) (And.intro (fun hg => (And.intro (by first | exact fun h => h | exact fun h => (Bool.and_eq_true_iff.1 h).1 | simp_all) (And.intro (fc19 t5 (callIf_some cr3 hg)) (And.intro (And.intro trivial trivial) trivial)))) (And.intro (fun _ => (And.intro (by first | exact fun h => h | exact fun h => (Bool.and_eq_true_iff.1 h).1 | simp_all) (And.intro (by first | exact fun h => h | exact fun h => (Bool.and_eq_true_iff.1 h).1 | simp_all) trivial))) (And.intro (by first | exact fun h => h | exact fun h => (Bool.and_eq_true_iff.1 h).1 | simp_all) trivial))))) ?_
      refine runs_if (b := (bif (decide (t10 < (IntKind.wrap .i64 (r2 - t6)))) then true else (decide (t10 ≥ r3)))) (by kernel_rfl) (fun hb => ?_) (fun hb => ?_)
      · replace h := ifs_true h hb
        refine runs_regions 1 [([], [4])] (z := ([], [(4, (D.bool false))], [])) rfl (by kernel_rfl) trivial ?_
        rw [← Option.some.inj h] at hk
        obtain rfl : d = (D.bool false) := hk
        exact runs_ret (by kernel_rfl) trivial (Nat.le_refl 0) trivial trivial
      · replace h := ifs_false h hb
        refine runs_regions 1 [([], [5, 6, 7, 8, 9, 10])] (z := ([], [(5, (D.int .i64 t5)), (6, (D.int .i64 t6)), (7, (D.int .u64 t7)), (8, (D.bool t8)), (9, (D.int .i64 (IntKind.wrap .i64 (t9 + (1 : Int))))), (10, (D.int .i64 (IntKind.wrap .i64 (t10 + (1 : Int)))))], [])) rfl (by kernel_rfl) trivial ?_
        rw [← Option.some.inj h] at hk
        refine runs_to (ts := [5, 6, 7, 8, 9, 10]) (T' := T4_L1) (env' := [(5, (D.int .i64 t5)), (6, (D.int .i64 t6)), (7, (D.int .u64 t7)), (8, (D.bool t8)), (9, (D.int .i64 (IntKind.wrap .i64 (t9 + (1 : Int))))), (10, (D.int .i64 (IntKind.wrap .i64 (t10 + (1 : Int)))))]) (h2 := []) (by kernel_rfl) (by kernel_rfl) trivial (Nat.zero_le _) trivial (And.intro trivial (And.intro trivial (And.intro trivial (And.intro trivial (And.intro trivial (And.intro trivial trivial)))))) ?_
        exact hk
    · replace h := ifs_false h hb
      refine runs_regions 1 [([], [5, 6, 7, 8, 9, 10])] (z := ([], [(5, (D.int .i64 t5)), (6, (D.int .i64 t6)), (7, (D.int .u64 t7)), (8, (D.bool t8)), (9, (D.int .i64 t9)), (10, (D.int .i64 (IntKind.wrap .i64 (t10 + (1 : Int)))))], [])) rfl (by kernel_rfl) trivial ?_
      rw [← Option.some.inj h] at hk
      refine runs_to (ts := [5, 6, 7, 8, 9, 10]) (T' := T4_L1) (env' := [(5, (D.int .i64 t5)), (6, (D.int .i64 t6)), (7, (D.int .u64 t7)), (8, (D.bool t8)), (9, (D.int .i64 t9)), (10, (D.int .i64 (IntKind.wrap .i64 (t10 + (1 : Int)))))]) (h2 := []) (by kernel_rfl) (by kernel_rfl) trivial (Nat.zero_le _) trivial (And.intro trivial (And.intro trivial (And.intro trivial (And.intro trivial (And.intro trivial (And.intro trivial trivial)))))) ?_
      exact hk
  · replace h := ifs_false h hb
    rw [← Option.some.inj h] at hk
    refine runs_to (ts := [6, 8, 9]) (T' := X4_L1T) (env' := [(6, (D.int .i64 t6)), (8, (D.bool t8)), (9, (D.int .i64 t9))]) (h2 := []) (by kernel_rfl) (by kernel_rfl) trivial (Nat.zero_le _) trivial (And.intro trivial (And.intro trivial (And.intro trivial trivial))) ?_
    exact hk

theorem iter4_L1 (fu : Nat) (t5 : Int) (t6 : Int) (t7 : Int) (t8 : Bool) {d : D} (k : Nat) (s : (Int × Int)) {o : E4_L1 ⊕ Bool} (h : iter (fun s => F4_L1 fu t5 t6 t7 t8 s.1 s.2) k s = some o) (hx : X4_L1 fu t5 t6 t7 t8 d o) : N4_L1 fu t5 t6 t7 t8 d s :=
  iter_post (K := N4_L1 fu t5 t6 t7 t8 d) (X := X4_L1 fu t5 t6 t7 t8 d) (fun s _ h hk => run4_L1 fu t5 t6 t7 t8 s.1 s.2 h hk) k s o h hx

/-- podesta/podestalaw01.HeadMaskSums -/
def F4 (fu : Nat) (t0 : Int) (t1 : Int) : Option Bool :=
  chk ((12 : Int) ≠ 0) <|
  (F18 (IntKind.wrap .i64 (Int.tmod t0 (12 : Int)))).bind fun r0 =>
  chk ((IntKind.wrap .i64 (r0 + (1 : Int))) ≠ 0) <|
  (F15 (IntKind.wrap .i64 (Int.tmod t0 (12 : Int))) (Int.tmod (IntKind.wrap .i64 t1) (IntKind.wrap .i64 (r0 + (1 : Int))))).bind fun r1 =>
  after (iter (fun s => F4_L1 fu (IntKind.wrap .i64 (Int.tmod t0 (12 : Int))) (Int.tmod (IntKind.wrap .i64 t1) (IntKind.wrap .i64 (r0 + (1 : Int)))) r1.1 r1.2 s.1 s.2) fu ((0 : Int), (0 : Int))) fun e4 =>
  (F17).bind fun r4 =>
  some (bif (bif r4 then r1.2 else false) then (e4 == (Int.tmod (IntKind.wrap .i64 t1) (IntKind.wrap .i64 (r0 + (1 : Int))))) else false)

theorem run4 (fu : Nat) (t0 : Int) (t1 : Int) {d : D} {r : Bool} (h : F4 fu t0 t1 = some r) (hk : K4 d r) : Runs Try.prog Try.f4 0 T4 [(0, (D.int .u8 t0)), (1, (D.int .u8 t1))] [] d [] := by
  unfold F4 at h
  obtain ⟨p0, h⟩ := chk_some h
  obtain ⟨r0, cr0, h⟩ := Option.bind_eq_some_iff.1 h
  obtain ⟨p1, h⟩ := chk_some h
  obtain ⟨r1, cr1, h⟩ := Option.bind_eq_some_iff.1 h
  refine runs_regions 6 [([], [0, 1]), ([], [1, 5]), ([(D.int .i64 r0)], [5, 6]), ([(D.tup (D.cons (D.int .u64 r1.1) (D.cons (D.bool r1.2) D.nil)))], [5, 6, 7, 8]), ([], [5, 6, 7, 8, 9]), ([], [5, 6, 7, 8, 9, 10])] (z := ([((12 : Int) ≠ 0), FC Try.prog 18 [(D.int .i64 (IntKind.wrap .i64 (Int.tmod t0 (12 : Int))))] [] (D.int .i64 r0) [], All (List.map NoRow [(D.int .i64 (IntKind.wrap .i64 (Int.tmod t0 (12 : Int))))]), ((IntKind.wrap .i64 (r0 + (1 : Int))) ≠ 0), FC Try.prog 15 [(D.int .i64 (IntKind.wrap .i64 (Int.tmod t0 (12 : Int)))), (D.int .i64 (Int.tmod (IntKind.wrap .i64 t1) (IntKind.wrap .i64 (r0 + (1 : Int)))))] [] (D.tup (D.cons (D.int .u64 r1.1) (D.cons (D.bool r1.2) D.nil))) [], All (List.map NoRow [(D.int .i64 (IntKind.wrap .i64 (Int.tmod t0 (12 : Int)))), (D.int .i64 (Int.tmod (IntKind.wrap .i64 t1) (IntKind.wrap .i64 (r0 + (1 : Int)))))])], [(5, (D.int .i64 (IntKind.wrap .i64 (Int.tmod t0 (12 : Int))))), (6, (D.int .i64 (Int.tmod (IntKind.wrap .i64 t1) (IntKind.wrap .i64 (r0 + (1 : Int)))))), (7, (D.int .u64 r1.1)), (8, (D.bool r1.2)), (9, (D.int .i64 (0 : Int))), (10, (D.int .i64 (0 : Int)))], [])) rfl (by kernel_rfl) (And.intro p0 (And.intro (fc18 (IntKind.wrap .i64 (Int.tmod t0 (12 : Int))) cr0) (And.intro (And.intro trivial trivial) (And.intro p1 (And.intro (fc15 (IntKind.wrap .i64 (Int.tmod t0 (12 : Int))) (Int.tmod (IntKind.wrap .i64 t1) (IntKind.wrap .i64 (r0 + (1 : Int)))) cr1) (And.intro (And.intro trivial (And.intro trivial trivial)) trivial)))))) ?_
  refine runs_to (ts := [5, 6, 7, 8, 9, 10]) (T' := T4_L1) (env' := [(5, (D.int .i64 (IntKind.wrap .i64 (Int.tmod t0 (12 : Int))))), (6, (D.int .i64 (Int.tmod (IntKind.wrap .i64 t1) (IntKind.wrap .i64 (r0 + (1 : Int)))))), (7, (D.int .u64 r1.1)), (8, (D.bool r1.2)), (9, (D.int .i64 (0 : Int))), (10, (D.int .i64 (0 : Int)))]) (h2 := []) (by kernel_rfl) (by kernel_rfl) trivial (Nat.zero_le _) trivial (And.intro trivial (And.intro trivial (And.intro trivial (And.intro trivial (And.intro trivial (And.intro trivial trivial)))))) ?_
  rcases after_some h with ⟨e4, hi, h⟩ | hi
  · refine iter4_L1 fu (IntKind.wrap .i64 (Int.tmod t0 (12 : Int))) (Int.tmod (IntKind.wrap .i64 t1) (IntKind.wrap .i64 (r0 + (1 : Int)))) r1.1 r1.2 fu ((0 : Int), (0 : Int)) hi ?_
    show Runs Try.prog Try.f4 0 X4_L1T [(6, (D.int .i64 (Int.tmod (IntKind.wrap .i64 t1) (IntKind.wrap .i64 (r0 + (1 : Int)))))), (8, (D.bool r1.2)), (9, (D.int .i64 e4))] [] d []
    obtain ⟨r4, cr4, h⟩ := Option.bind_eq_some_iff.1 h
    refine runs_regions 1 [([(D.bool r4)], [4])] (z := ([FC Try.prog 17 [] [] (D.bool r4) [], All (List.map NoRow []), ((true && r4) = true → r4 = true), ((bif r4 then r1.2 else false) = true → All [((bif r4 then r1.2 else false) = true → (bif r4 then r1.2 else false) = true), ((bif r4 then r1.2 else false) = true → (bif r4 then r1.2 else false) = true)]), ((true && (bif r4 then r1.2 else false)) = true → (bif r4 then r1.2 else false) = true)], [(4, (D.bool (bif (bif r4 then r1.2 else false) then (e4 == (Int.tmod (IntKind.wrap .i64 t1) (IntKind.wrap .i64 (r0 + (1 : Int))))) else false)))], [])) rfl (by kernel_rfl) (And.intro (fc17 cr4) (And.intro trivial (And.intro (by first | exact fun h => h | exact fun h => (Bool.and_eq_true_iff.1 h).1 | simp_all) (And.intro (fun _ => (And.intro (by first | exact fun h => h | exact fun h => (Bool.and_eq_true_iff.1 h).1 | simp_all) (And.intro (by first | exact fun h => h | exact fun h => (Bool.and_eq_true_iff.1 h).1 | simp_all) trivial))) (And.intro (by first | exact fun h => h | exact fun h => (Bool.and_eq_true_iff.1 h).1 | simp_all) trivial))))) ?_
    rw [← Option.some.inj h] at hk
    obtain rfl : d = (D.bool (bif (bif r4 then r1.2 else false) then (e4 == (Int.tmod (IntKind.wrap .i64 t1) (IntKind.wrap .i64 (r0 + (1 : Int))))) else false)) := hk
    exact runs_ret (by kernel_rfl) trivial (Nat.le_refl 0) trivial trivial
  · exact iter4_L1 fu (IntKind.wrap .i64 (Int.tmod t0 (12 : Int))) (Int.tmod (IntKind.wrap .i64 t1) (IntKind.wrap .i64 (r0 + (1 : Int)))) r1.1 r1.2 fu ((0 : Int), (0 : Int)) hi hk

theorem fc4 (fu : Nat) (t0 : Int) (t1 : Int) {r : Bool} (h : F4 fu t0 t1 = some r) : FC Try.prog 4 [(D.int .u8 t0), (D.int .u8 t1)] [] (D.bool r) [] := by
  refine fc_of_runs (fn := Try.f4) (c := Try.f4.body.getD .skip) (by kernel_rfl) (by kernel_rfl) ?_
  refine runs_to (ts := [0, 1]) (T' := T4) (env' := [(0, (D.int .u8 t0)), (1, (D.int .u8 t1))]) (h2 := []) (by kernel_rfl) (by kernel_rfl) trivial (Nat.le_refl 0) trivial (And.intro trivial (And.intro trivial trivial)) ?_
  exact run4 fu t0 t1 h rfl

def K52 (d : D) (r : Bool) : Prop := d = (D.bool r)

noncomputable def T52 : List Item := norm 200 [.code (Try.f52.body.getD .skip)]

/-- podesta/head.fits -/
def F52 (t0 : Int) (t1 : Int) : Option Bool :=
  (F18 t0).bind fun r0 =>
  chk (0 ≤ r0) <|
  some ((ishr .u64 t1 r0) == (0 : Int))

theorem run52 (t0 : Int) (t1 : Int) {d : D} {r : Bool} (h : F52 t0 t1 = some r) (hk : K52 d r) : Runs Try.prog Try.f52 0 T52 [(0, (D.int .i64 t0)), (1, (D.int .u64 t1))] [] d [] := by
  unfold F52 at h
  obtain ⟨r0, cr0, h⟩ := Option.bind_eq_some_iff.1 h
  obtain ⟨p0, h⟩ := chk_some h
  refine runs_regions 2 [([], [0, 1]), ([(D.int .i64 r0)], [4])] (z := ([FC Try.prog 18 [(D.int .i64 t0)] [] (D.int .i64 r0) [], All (List.map NoRow [(D.int .i64 t0)]), (0 ≤ r0)], [(4, (D.bool ((ishr .u64 t1 r0) == (0 : Int))))], [])) rfl (by kernel_rfl) (And.intro (fc18 t0 cr0) (And.intro (And.intro trivial trivial) (And.intro p0 trivial))) ?_
  rw [← Option.some.inj h] at hk
  obtain rfl : d = (D.bool ((ishr .u64 t1 r0) == (0 : Int))) := hk
  exact runs_ret (by kernel_rfl) trivial (Nat.le_refl 0) trivial trivial

theorem fc52 (t0 : Int) (t1 : Int) {r : Bool} (h : F52 t0 t1 = some r) : FC Try.prog 52 [(D.int .i64 t0), (D.int .u64 t1)] [] (D.bool r) [] := by
  refine fc_of_runs (fn := Try.f52) (c := Try.f52.body.getD .skip) (by kernel_rfl) (by kernel_rfl) ?_
  refine runs_to (ts := [0, 1]) (T' := T52) (env' := [(0, (D.int .i64 t0)), (1, (D.int .u64 t1))]) (h2 := []) (by kernel_rfl) (by kernel_rfl) trivial (Nat.le_refl 0) trivial (And.intro trivial (And.intro trivial trivial)) ?_
  exact run52 t0 t1 h rfl

def K20 (d : D) (r : ((Nat → Int) × Int)) : Prop := d = (D.tup (D.cons (D.ints .u64 12 r.1) (D.cons (D.int .i64 r.2) D.nil)))

noncomputable def T20 : List Item := norm 200 [.code (Try.f20.body.getD .skip)]

/-- podesta/head.Set -/
def F20 (t0 : (Nat → Int)) (t1 : Int) (t2 : Int) : Option ((Nat → Int) × Int) :=
  (F50 t1).bind fun r0 =>
  ifs (!r0) (
    some ((fun _ => 0), (1 : Int))) (
    (F52 t1 t2).bind fun r1 =>
    ifs (!r1) (
      some ((fun _ => 0), (13 : Int))) (
      chk (0 ≤ t1 ∧ t1 < ((12 : Nat) : Int)) <|
      chk (t1.toNat < 12) <|
      some ((fun j => if j = t1.toNat then t2 else t0 j), (0 : Int))))

theorem run20 (t0 : (Nat → Int)) (t1 : Int) (t2 : Int) {d : D} {r : ((Nat → Int) × Int)} (h : F20 t0 t1 t2 = some r) (hk : K20 d r) : Runs Try.prog Try.f20 0 T20 [(0, (D.ints .u64 12 t0)), (1, (D.int .i64 t1)), (2, (D.int .u64 t2))] [] d [] := by
  unfold F20 at h
  obtain ⟨r0, cr0, h⟩ := Option.bind_eq_some_iff.1 h
  refine runs_regions 2 [([], [1, 2, 3, 6]), ([(D.bool r0)], [1, 2, 3, 6, 8])] (z := ([FC Try.prog 50 [(D.int .i64 t1)] [] (D.bool r0) [], All (List.map NoRow [(D.int .i64 t1)])], [(1, (D.int .i64 t1)), (2, (D.int .u64 t2)), (3, (D.ptr 0 [])), (6, (D.ptr 1 [])), (8, (D.bool (!r0)))], [some (.box (D.ints .u64 12 t0)), some (.box (D.ints .u64 12 (fun _ => 0)))])) rfl (by kernel_rfl) (And.intro (fc50 t1 cr0) (And.intro (And.intro trivial trivial) trivial)) ?_
  refine runs_if (b := (!r0)) (by kernel_rfl) (fun hb => ?_) (fun hb => ?_)
  · replace h := ifs_true h hb
    refine runs_regions 1 [([], [6, 7])] (z := ([], [(6, (D.ptr 1 [])), (7, (D.int .i64 (1 : Int)))], [some (.box (D.ints .u64 12 t0)), some (.box (D.ints .u64 12 (fun _ => 0)))])) rfl (by kernel_rfl) trivial ?_
    rw [← Option.some.inj h] at hk
    obtain rfl : d = (D.tup (D.cons (D.ints .u64 12 (fun _ => 0)) (D.cons (D.int .i64 (1 : Int)) D.nil))) := hk
    exact runs_ret (by kernel_rfl) trivial (Nat.le_refl 0) trivial (And.intro trivial (And.intro trivial trivial))
  · replace h := ifs_false h hb
    obtain ⟨r1, cr1, h⟩ := Option.bind_eq_some_iff.1 h
    refine runs_regions 1 [([(D.bool r1)], [1, 2, 3, 6, 13])] (z := ([FC Try.prog 52 [(D.int .i64 t1), (D.int .u64 t2)] [] (D.bool r1) [], All (List.map NoRow [(D.int .i64 t1), (D.int .u64 t2)])], [(1, (D.int .i64 t1)), (2, (D.int .u64 t2)), (3, (D.ptr 0 [])), (6, (D.ptr 1 [])), (13, (D.bool (!r1)))], [some (.box (D.ints .u64 12 t0)), some (.box (D.ints .u64 12 (fun _ => 0)))])) rfl (by kernel_rfl) (And.intro (fc52 t1 t2 cr1) (And.intro (And.intro trivial (And.intro trivial trivial)) trivial)) ?_
    refine runs_if (b := (!r1)) (by kernel_rfl) (fun hb => ?_) (fun hb => ?_)
    · replace h := ifs_true h hb
      refine runs_regions 1 [([], [6, 7])] (z := ([], [(6, (D.ptr 1 [])), (7, (D.int .i64 (13 : Int)))], [some (.box (D.ints .u64 12 t0)), some (.box (D.ints .u64 12 (fun _ => 0)))])) rfl (by kernel_rfl) trivial ?_
      rw [← Option.some.inj h] at hk
      obtain rfl : d = (D.tup (D.cons (D.ints .u64 12 (fun _ => 0)) (D.cons (D.int .i64 (13 : Int)) D.nil))) := hk
      exact runs_ret (by kernel_rfl) trivial (Nat.le_refl 0) trivial (And.intro trivial (And.intro trivial trivial))
    · replace h := ifs_false h hb
      obtain ⟨p0, h⟩ := chk_some h
      obtain ⟨p1, h⟩ := chk_some h
      refine runs_regions 2 [([], [3, 6]), ([], [6, 7])] (z := ([(0 ≤ t1 ∧ t1 < ((12 : Nat) : Int)), (t1.toNat < 12)], [(6, (D.ptr 1 [])), (7, (D.int .i64 (0 : Int)))], [some (.box (D.ints .u64 12 (fun j => if j = t1.toNat then t2 else t0 j))), some (.box (D.ints .u64 12 (fun j => if j = t1.toNat then t2 else t0 j)))])) rfl (by kernel_rfl) (And.intro p0 (And.intro p1 trivial)) ?_
      rw [← Option.some.inj h] at hk
      obtain rfl : d = (D.tup (D.cons (D.ints .u64 12 (fun j => if j = t1.toNat then t2 else t0 j)) (D.cons (D.int .i64 (0 : Int)) D.nil))) := hk
      exact runs_ret (by kernel_rfl) trivial (Nat.le_refl 0) trivial (And.intro trivial (And.intro trivial trivial))

theorem fc20 (t0 : (Nat → Int)) (t1 : Int) (t2 : Int) {r : ((Nat → Int) × Int)} (h : F20 t0 t1 t2 = some r) : FC Try.prog 20 [(D.ints .u64 12 t0), (D.int .i64 t1), (D.int .u64 t2)] [] (D.tup (D.cons (D.ints .u64 12 r.1) (D.cons (D.int .i64 r.2) D.nil))) [] := by
  refine fc_of_runs (fn := Try.f20) (c := Try.f20.body.getD .skip) (by kernel_rfl) (by kernel_rfl) ?_
  refine runs_to (ts := [0, 1, 2]) (T' := T20) (env' := [(0, (D.ints .u64 12 t0)), (1, (D.int .i64 t1)), (2, (D.int .u64 t2))]) (h2 := []) (by kernel_rfl) (by kernel_rfl) trivial (Nat.le_refl 0) trivial (And.intro trivial (And.intro trivial (And.intro trivial trivial))) ?_
  exact run20 t0 t1 t2 h rfl

def K5 (d : D) (r : Bool) : Prop := d = (D.bool r)

noncomputable def T5 : List Item := norm 200 [.code (Try.f5.body.getD .skip)]

/-- podesta/podestalaw01.HeadTwice -/
def F5 (t0 : (Nat → Int)) (t1 : Int) (t2 : Int) (t3 : Int) (t4 : Int) : Option Bool :=
  (F20 t0 t1 t3).bind fun r0 =>
  (F20 t0 t2 t4).bind fun r1 =>
  (F20 r0.1 t2 t4).bind fun r2 =>
  (F20 r1.1 t1 t3).bind fun r3 =>
  ifs (bif (r0.2 != (0 : Int)) then true else (r1.2 != (0 : Int))) (
    (F17).bind fun r4 =>
    some r4) (
    (F17).bind fun r5 =>
    chk ((bif (bif r5 then (r2.2 == (0 : Int)) else false) then (r3.2 == (0 : Int)) else false) = true → (0 ≤ t2 ∧ t2 < ((12 : Nat) : Int))) <|
    chk ((bif (bif r5 then (r2.2 == (0 : Int)) else false) then (r3.2 == (0 : Int)) else false) = true → (t2.toNat < 12)) <|
    chk ((((bif (bif (bif r5 then (r2.2 == (0 : Int)) else false) then (r3.2 == (0 : Int)) else false) then ((r2.1 t2.toNat) == t4) else false) && (!(t1 == t2))) && ((List.range 12).all fun i => r2.1 i == r3.1 i)) = true → (0 ≤ t1 ∧ t1 < ((12 : Nat) : Int))) <|
    chk ((((bif (bif (bif r5 then (r2.2 == (0 : Int)) else false) then (r3.2 == (0 : Int)) else false) then ((r2.1 t2.toNat) == t4) else false) && (!(t1 == t2))) && ((List.range 12).all fun i => r2.1 i == r3.1 i)) = true → (t1.toNat < 12)) <|
    some (bif (bif (bif (bif r5 then (r2.2 == (0 : Int)) else false) then (r3.2 == (0 : Int)) else false) then ((r2.1 t2.toNat) == t4) else false) then (bif (t1 == t2) then true else (bif ((List.range 12).all fun i => r2.1 i == r3.1 i) then ((r2.1 t1.toNat) == t3) else false)) else false))

theorem run5 (t0 : (Nat → Int)) (t1 : Int) (t2 : Int) (t3 : Int) (t4 : Int) {d : D} {r : Bool} (h : F5 t0 t1 t2 t3 t4 = some r) (hk : K5 d r) : Runs Try.prog Try.f5 0 T5 [(0, (D.ints .u64 12 t0)), (1, (D.int .i64 t1)), (2, (D.int .i64 t2)), (3, (D.int .u64 t3)), (4, (D.int .u64 t4))] [] d [] := by
  unfold F5 at h
  obtain ⟨r0, cr0, h⟩ := Option.bind_eq_some_iff.1 h
  obtain ⟨r1, cr1, h⟩ := Option.bind_eq_some_iff.1 h
  obtain ⟨r2, cr2, h⟩ := Option.bind_eq_some_iff.1 h
  obtain ⟨r3, cr3, h⟩ := Option.bind_eq_some_iff.1 h
  refine runs_regions 6 [([], [1, 2, 3, 4, 5]), ([(D.tup (D.cons (D.ints .u64 12 r0.1) (D.cons (D.int .i64 r0.2) D.nil)))], [1, 2, 3, 4, 5, 11, 12]), ([(D.tup (D.cons (D.ints .u64 12 r1.1) (D.cons (D.int .i64 r1.2) D.nil)))], [1, 2, 3, 4, 11, 12, 13, 14]), ([(D.tup (D.cons (D.ints .u64 12 r2.1) (D.cons (D.int .i64 r2.2) D.nil)))], [1, 2, 3, 4, 12, 13, 14, 15, 16]), ([(D.tup (D.cons (D.ints .u64 12 r3.1) (D.cons (D.int .i64 r3.2) D.nil)))], [1, 2, 3, 4, 12, 14, 15, 16, 17, 18]), ([], [1, 2, 3, 4, 15, 16, 17, 18, 52])] (z := ([FC Try.prog 20 [(D.ints .u64 12 t0), (D.int .i64 t1), (D.int .u64 t3)] [] (D.tup (D.cons (D.ints .u64 12 r0.1) (D.cons (D.int .i64 r0.2) D.nil))) [], All (List.map NoRow [(D.ints .u64 12 t0), (D.int .i64 t1), (D.int .u64 t3)]), FC Try.prog 20 [(D.ints .u64 12 t0), (D.int .i64 t2), (D.int .u64 t4)] [] (D.tup (D.cons (D.ints .u64 12 r1.1) (D.cons (D.int .i64 r1.2) D.nil))) [], All (List.map NoRow [(D.ints .u64 12 t0), (D.int .i64 t2), (D.int .u64 t4)]), FC Try.prog 20 [(D.ints .u64 12 r0.1), (D.int .i64 t2), (D.int .u64 t4)] [] (D.tup (D.cons (D.ints .u64 12 r2.1) (D.cons (D.int .i64 r2.2) D.nil))) [], All (List.map NoRow [(D.ints .u64 12 r0.1), (D.int .i64 t2), (D.int .u64 t4)]), FC Try.prog 20 [(D.ints .u64 12 r1.1), (D.int .i64 t1), (D.int .u64 t3)] [] (D.tup (D.cons (D.ints .u64 12 r3.1) (D.cons (D.int .i64 r3.2) D.nil))) [], All (List.map NoRow [(D.ints .u64 12 r1.1), (D.int .i64 t1), (D.int .u64 t3)]), ((!(r0.2 != (0 : Int))) = true → All [((!(r0.2 != (0 : Int))) = true → (!(r0.2 != (0 : Int))) = true)]), ((true && !(r0.2 != (0 : Int))) = true → (!(r0.2 != (0 : Int))) = true)], [(1, (D.int .i64 t1)), (2, (D.int .i64 t2)), (3, (D.int .u64 t3)), (4, (D.int .u64 t4)), (15, (D.ptr 3 [])), (16, (D.int .i64 r2.2)), (17, (D.ptr 4 [])), (18, (D.int .i64 r3.2)), (52, (D.bool (bif (r0.2 != (0 : Int)) then true else (r1.2 != (0 : Int)))))], [some (.box (D.ints .u64 12 t0)), some (.box (D.ints .u64 12 r0.1)), some (.box (D.ints .u64 12 r1.1)), some (.box (D.ints .u64 12 r2.1)), some (.box (D.ints .u64 12 r3.1))])) rfl (by kernel_rfl) (And.intro (fc20 t0 t1 t3 cr0) (And.intro (And.intro trivial (And.intro trivial (And.intro trivial trivial))) (And.intro (fc20 t0 t2 t4 cr1) (And.intro (And.intro trivial (And.intro trivial (And.intro trivial trivial))) (And.intro (fc20 r0.1 t2 t4 cr2) (And.intro (And.intro trivial (And.intro trivial (And.intro trivial trivial))) (And.intro (fc20 r1.1 t1 t3 cr3) (And.intro (And.intro trivial (And.intro trivial (And.intro trivial trivial))) (And.intro (fun _ => (And.intro (by first | exact fun h => h | exact fun h => (Bool.and_eq_true_iff.1 h).1 | simp_all) trivial)) (And.intro (by first | exact fun h => h | exact fun h => (Bool.and_eq_true_iff.1 h).1 | simp_all) trivial)))))))))) ?_
  refine runs_if (b := (bif (r0.2 != (0 : Int)) then true else (r1.2 != (0 : Int)))) (by kernel_rfl) (fun hb => ?_) (fun hb => ?_)
  · replace h := ifs_true h hb
    obtain ⟨r4, cr4, h⟩ := Option.bind_eq_some_iff.1 h
    refine runs_regions 1 [([(D.bool r4)], [10])] (z := ([FC Try.prog 17 [] [] (D.bool r4) [], All (List.map NoRow [])], [(10, (D.bool r4))], [some (.box (D.ints .u64 12 t0)), some (.box (D.ints .u64 12 r0.1)), some (.box (D.ints .u64 12 r1.1)), some (.box (D.ints .u64 12 r2.1)), some (.box (D.ints .u64 12 r3.1))])) rfl (by kernel_rfl) (And.intro (fc17 cr4) (And.intro trivial trivial)) ?_
    rw [← Option.some.inj h] at hk
    obtain rfl : d = (D.bool r4) := hk
    exact runs_ret (by kernel_rfl) trivial (Nat.le_refl 0) trivial trivial
  · replace h := ifs_false h hb
    obtain ⟨r5, cr5, h⟩ := Option.bind_eq_some_iff.1 h
    obtain ⟨p0, h⟩ := chk_some h
    obtain ⟨p1, h⟩ := chk_some h
    obtain ⟨p2, h⟩ := chk_some h
    obtain ⟨p3, h⟩ := chk_some h
    refine runs_regions 1 [([(D.bool r5)], [10])] (z := ([FC Try.prog 17 [] [] (D.bool r5) [], All (List.map NoRow []), (r5 = true → All [(r5 = true → r5 = true)]), ((true && r5) = true → r5 = true), ((bif r5 then (r2.2 == (0 : Int)) else false) = true → All [((bif r5 then (r2.2 == (0 : Int)) else false) = true → (bif r5 then (r2.2 == (0 : Int)) else false) = true)]), ((true && (bif r5 then (r2.2 == (0 : Int)) else false)) = true → (bif r5 then (r2.2 == (0 : Int)) else false) = true), ((bif (bif r5 then (r2.2 == (0 : Int)) else false) then (r3.2 == (0 : Int)) else false) = true → All [((bif (bif r5 then (r2.2 == (0 : Int)) else false) then (r3.2 == (0 : Int)) else false) = true → (bif (bif r5 then (r2.2 == (0 : Int)) else false) then (r3.2 == (0 : Int)) else false) = true), (0 ≤ t2 ∧ t2 < ((12 : Nat) : Int))]), ((bif (bif r5 then (r2.2 == (0 : Int)) else false) then (r3.2 == (0 : Int)) else false) = true → All [((bif (bif r5 then (r2.2 == (0 : Int)) else false) then (r3.2 == (0 : Int)) else false) = true → (bif (bif r5 then (r2.2 == (0 : Int)) else false) then (r3.2 == (0 : Int)) else false) = true), (t2.toNat < 12)]), ((bif (bif r5 then (r2.2 == (0 : Int)) else false) then (r3.2 == (0 : Int)) else false) = true → All [((bif (bif r5 then (r2.2 == (0 : Int)) else false) then (r3.2 == (0 : Int)) else false) = true → (bif (bif r5 then (r2.2 == (0 : Int)) else false) then (r3.2 == (0 : Int)) else false) = true), ((bif (bif r5 then (r2.2 == (0 : Int)) else false) then (r3.2 == (0 : Int)) else false) = true → (bif (bif r5 then (r2.2 == (0 : Int)) else false) then (r3.2 == (0 : Int)) else false) = true)]), ((true && (bif (bif r5 then (r2.2 == (0 : Int)) else false) then (r3.2 == (0 : Int)) else false)) = true → (bif (bif r5 then (r2.2 == (0 : Int)) else false) then (r3.2 == (0 : Int)) else false) = true), ((bif (bif (bif r5 then (r2.2 == (0 : Int)) else false) then (r3.2 == (0 : Int)) else false) then ((r2.1 t2.toNat) == t4) else false) = true → All [((bif (bif (bif r5 then (r2.2 == (0 : Int)) else false) then (r3.2 == (0 : Int)) else false) then ((r2.1 t2.toNat) == t4) else false) = true → (bif (bif (bif r5 then (r2.2 == (0 : Int)) else false) then (r3.2 == (0 : Int)) else false) then ((r2.1 t2.toNat) == t4) else false) = true), ((bif (bif (bif r5 then (r2.2 == (0 : Int)) else false) then (r3.2 == (0 : Int)) else false) then ((r2.1 t2.toNat) == t4) else false) = true → (bif (bif (bif r5 then (r2.2 == (0 : Int)) else false) then (r3.2 == (0 : Int)) else false) then ((r2.1 t2.toNat) == t4) else false) = true)]), ((bif (bif (bif r5 then (r2.2 == (0 : Int)) else false) then (r3.2 == (0 : Int)) else false) then ((r2.1 t2.toNat) == t4) else false) = true → All [((bif (bif (bif r5 then (r2.2 == (0 : Int)) else false) then (r3.2 == (0 : Int)) else false) then ((r2.1 t2.toNat) == t4) else false) = true → (bif (bif (bif r5 then (r2.2 == (0 : Int)) else false) then (r3.2 == (0 : Int)) else false) then ((r2.1 t2.toNat) == t4) else false) = true)]), (((bif (bif (bif r5 then (r2.2 == (0 : Int)) else false) then (r3.2 == (0 : Int)) else false) then ((r2.1 t2.toNat) == t4) else false) && (!(t1 == t2))) = true → All [(((bif (bif (bif r5 then (r2.2 == (0 : Int)) else false) then (r3.2 == (0 : Int)) else false) then ((r2.1 t2.toNat) == t4) else false) && (!(t1 == t2))) = true → ((bif (bif (bif r5 then (r2.2 == (0 : Int)) else false) then (r3.2 == (0 : Int)) else false) then ((r2.1 t2.toNat) == t4) else false) && (!(t1 == t2))) = true), (((bif (bif (bif r5 then (r2.2 == (0 : Int)) else false) then (r3.2 == (0 : Int)) else false) then ((r2.1 t2.toNat) == t4) else false) && (!(t1 == t2))) = true → ((bif (bif (bif r5 then (r2.2 == (0 : Int)) else false) then (r3.2 == (0 : Int)) else false) then ((r2.1 t2.toNat) == t4) else false) && (!(t1 == t2))) = true)]), (((bif (bif (bif r5 then (r2.2 == (0 : Int)) else false) then (r3.2 == (0 : Int)) else false) then ((r2.1 t2.toNat) == t4) else false) && (!(t1 == t2))) = true → All [(((bif (bif (bif r5 then (r2.2 == (0 : Int)) else false) then (r3.2 == (0 : Int)) else false) then ((r2.1 t2.toNat) == t4) else false) && (!(t1 == t2))) = true → ((bif (bif (bif r5 then (r2.2 == (0 : Int)) else false) then (r3.2 == (0 : Int)) else false) then ((r2.1 t2.toNat) == t4) else false) && (!(t1 == t2))) = true)]), ((((bif (bif (bif r5 then (r2.2 == (0 : Int)) else false) then (r3.2 == (0 : Int)) else false) then ((r2.1 t2.toNat) == t4) else false) && (!(t1 == t2))) && ((List.range 12).all fun i => r2.1 i == r3.1 i)) = true → All [((((bif (bif (bif r5 then (r2.2 == (0 : Int)) else false) then (r3.2 == (0 : Int)) else false) then ((r2.1 t2.toNat) == t4) else false) && (!(t1 == t2))) && ((List.range 12).all fun i => r2.1 i == r3.1 i)) = true → (((bif (bif (bif r5 then (r2.2 == (0 : Int)) else false) then (r3.2 == (0 : Int)) else false) then ((r2.1 t2.toNat) == t4) else false) && (!(t1 == t2))) && ((List.range 12).all fun i => r2.1 i == r3.1 i)) = true), (0 ≤ t1 ∧ t1 < ((12 : Nat) : Int))]), ((((bif (bif (bif r5 then (r2.2 == (0 : Int)) else false) then (r3.2 == (0 : Int)) else false) then ((r2.1 t2.toNat) == t4) else false) && (!(t1 == t2))) && ((List.range 12).all fun i => r2.1 i == r3.1 i)) = true → All [((((bif (bif (bif r5 then (r2.2 == (0 : Int)) else false) then (r3.2 == (0 : Int)) else false) then ((r2.1 t2.toNat) == t4) else false) && (!(t1 == t2))) && ((List.range 12).all fun i => r2.1 i == r3.1 i)) = true → (((bif (bif (bif r5 then (r2.2 == (0 : Int)) else false) then (r3.2 == (0 : Int)) else false) then ((r2.1 t2.toNat) == t4) else false) && (!(t1 == t2))) && ((List.range 12).all fun i => r2.1 i == r3.1 i)) = true), (t1.toNat < 12)]), ((((bif (bif (bif r5 then (r2.2 == (0 : Int)) else false) then (r3.2 == (0 : Int)) else false) then ((r2.1 t2.toNat) == t4) else false) && (!(t1 == t2))) && ((List.range 12).all fun i => r2.1 i == r3.1 i)) = true → All [((((bif (bif (bif r5 then (r2.2 == (0 : Int)) else false) then (r3.2 == (0 : Int)) else false) then ((r2.1 t2.toNat) == t4) else false) && (!(t1 == t2))) && ((List.range 12).all fun i => r2.1 i == r3.1 i)) = true → (((bif (bif (bif r5 then (r2.2 == (0 : Int)) else false) then (r3.2 == (0 : Int)) else false) then ((r2.1 t2.toNat) == t4) else false) && (!(t1 == t2))) && ((List.range 12).all fun i => r2.1 i == r3.1 i)) = true), ((((bif (bif (bif r5 then (r2.2 == (0 : Int)) else false) then (r3.2 == (0 : Int)) else false) then ((r2.1 t2.toNat) == t4) else false) && (!(t1 == t2))) && ((List.range 12).all fun i => r2.1 i == r3.1 i)) = true → (((bif (bif (bif r5 then (r2.2 == (0 : Int)) else false) then (r3.2 == (0 : Int)) else false) then ((r2.1 t2.toNat) == t4) else false) && (!(t1 == t2))) && ((List.range 12).all fun i => r2.1 i == r3.1 i)) = true)]), (((bif (bif (bif r5 then (r2.2 == (0 : Int)) else false) then (r3.2 == (0 : Int)) else false) then ((r2.1 t2.toNat) == t4) else false) && (!(t1 == t2))) = true → All [(((bif (bif (bif r5 then (r2.2 == (0 : Int)) else false) then (r3.2 == (0 : Int)) else false) then ((r2.1 t2.toNat) == t4) else false) && (!(t1 == t2))) = true → ((bif (bif (bif r5 then (r2.2 == (0 : Int)) else false) then (r3.2 == (0 : Int)) else false) then ((r2.1 t2.toNat) == t4) else false) && (!(t1 == t2))) = true), ((((bif (bif (bif r5 then (r2.2 == (0 : Int)) else false) then (r3.2 == (0 : Int)) else false) then ((r2.1 t2.toNat) == t4) else false) && (!(t1 == t2))) && ((List.range 12).all fun i => r2.1 i == r3.1 i)) = true → (((bif (bif (bif r5 then (r2.2 == (0 : Int)) else false) then (r3.2 == (0 : Int)) else false) then ((r2.1 t2.toNat) == t4) else false) && (!(t1 == t2))) && ((List.range 12).all fun i => r2.1 i == r3.1 i)) = true)]), ((bif (bif (bif r5 then (r2.2 == (0 : Int)) else false) then (r3.2 == (0 : Int)) else false) then ((r2.1 t2.toNat) == t4) else false) = true → All [((bif (bif (bif r5 then (r2.2 == (0 : Int)) else false) then (r3.2 == (0 : Int)) else false) then ((r2.1 t2.toNat) == t4) else false) = true → (bif (bif (bif r5 then (r2.2 == (0 : Int)) else false) then (r3.2 == (0 : Int)) else false) then ((r2.1 t2.toNat) == t4) else false) = true), (((bif (bif (bif r5 then (r2.2 == (0 : Int)) else false) then (r3.2 == (0 : Int)) else false) then ((r2.1 t2.toNat) == t4) else false) && !(t1 == t2)) = true → ((bif (bif (bif r5 then (r2.2 == (0 : Int)) else false) then (r3.2 == (0 : Int)) else false) then ((r2.1 t2.toNat) == t4) else false) && (!(t1 == t2))) = true)]), ((true && (bif (bif (bif r5 then (r2.2 == (0 : Int)) else false) then (r3.2 == (0 : Int)) else false) then ((r2.1 t2.toNat) == t4) else false)) = true → (bif (bif (bif r5 then (r2.2 == (0 : Int)) else false) then (r3.2 == (0 : Int)) else false) then ((r2.1 t2.toNat) == t4) else false) = true)], [(10, (D.bool (bif (bif (bif (bif r5 then (r2.2 == (0 : Int)) else false) then (r3.2 == (0 : Int)) else false) then ((r2.1 t2.toNat) == t4) else false) then (bif (t1 == t2) then true else (bif ((List.range 12).all fun i => r2.1 i == r3.1 i) then ((r2.1 t1.toNat) == t3) else false)) else false)))], [some (.box (D.ints .u64 12 t0)), some (.box (D.ints .u64 12 r0.1)), some (.box (D.ints .u64 12 r1.1)), some (.box (D.ints .u64 12 r2.1)), some (.box (D.ints .u64 12 r3.1))])) rfl (by kernel_rfl) (And.intro (fc17 cr5) (And.intro trivial (And.intro (fun _ => (And.intro (by first | exact fun h => h | exact fun h => (Bool.and_eq_true_iff.1 h).1 | simp_all) trivial)) (And.intro (by first | exact fun h => h | exact fun h => (Bool.and_eq_true_iff.1 h).1 | simp_all) (And.intro (fun _ => (And.intro (by first | exact fun h => h | exact fun h => (Bool.and_eq_true_iff.1 h).1 | simp_all) trivial)) (And.intro (by first | exact fun h => h | exact fun h => (Bool.and_eq_true_iff.1 h).1 | simp_all) (And.intro (fun hg => (And.intro (by first | exact fun h => h | exact fun h => (Bool.and_eq_true_iff.1 h).1 | simp_all) (And.intro (p0 hg) trivial))) (And.intro (fun hg => (And.intro (by first | exact fun h => h | exact fun h => (Bool.and_eq_true_iff.1 h).1 | simp_all) (And.intro (p1 hg) trivial))) (And.intro (fun _ => (And.intro (by first | exact fun h => h | exact fun h => (Bool.and_eq_true_iff.1 h).1 | simp_all) (And.intro (by first | exact fun h => h | exact fun h => (Bool.and_eq_true_iff.1 h).1 | simp_all) trivial))) (And.intro (by first | exact fun h => h | exact fun h => (Bool.and_eq_true_iff.1 h).1 | simp_all) (And.intro (fun _ => (And.intro (by first | exact fun h => h | exact fun h => (Bool.and_eq_true_iff.1 h).1 | simp_all) (And.intro (by first | exact fun h => h | exact fun h => (Bool.and_eq_true_iff.1 h).1 | simp_all) trivial))) (And.intro (fun _ => (And.intro (by first | exact fun h => h | exact fun h => (Bool.and_eq_true_iff.1 h).1 | simp_all) trivial)) (And.intro (fun _ => (And.intro (by first | exact fun h => h | exact fun h => (Bool.and_eq_true_iff.1 h).1 | simp_all) (And.intro (by first | exact fun h => h | exact fun h => (Bool.and_eq_true_iff.1 h).1 | simp_all) trivial))) (And.intro (fun _ => (And.intro (by first | exact fun h => h | exact fun h => (Bool.and_eq_true_iff.1 h).1 | simp_all) trivial)) (And.intro (fun hg => (And.intro (by first | exact fun h => h | exact fun h => (Bool.and_eq_true_iff.1 h).1 | simp_all) (And.intro (p2 hg) trivial))) (And.intro (fun hg => (And.intro (by first | exact fun h => h | exact fun h => (Bool.and_eq_true_iff.1 h).1 | simp_all) (And.intro (p3 hg) trivial))) (And.intro (fun _ => (And.intro (by first | exact fun h => h | exact fun h => (Bool.and_eq_true_iff.1 h).1 | simp_all) (And.intro (by first | exact fun h => h | exact fun h => (Bool.and_eq_true_iff.1 h).1 | simp_all) trivial))) (And.intro (fun _ => (And.intro (by first | exact fun h => h | exact fun h => (Bool.and_eq_true_iff.1 h).1 | simp_all) (And.intro (by first | exact fun h => h | exact fun h => (Bool.and_eq_true_iff.1 h).1 | simp_all) trivial))) (And.intro (fun _ => (And.intro (by first | exact fun h => h | exact fun h => (Bool.and_eq_true_iff.1 h).1 | simp_all) (And.intro (by first | exact fun h => h | exact fun h => (Bool.and_eq_true_iff.1 h).1 | simp_all) trivial))) (And.intro (by first | exact fun h => h | exact fun h => (Bool.and_eq_true_iff.1 h).1 | simp_all) trivial)))))))))))))))))))) ?_
    rw [← Option.some.inj h] at hk
    obtain rfl : d = (D.bool (bif (bif (bif (bif r5 then (r2.2 == (0 : Int)) else false) then (r3.2 == (0 : Int)) else false) then ((r2.1 t2.toNat) == t4) else false) then (bif (t1 == t2) then true else (bif ((List.range 12).all fun i => r2.1 i == r3.1 i) then ((r2.1 t1.toNat) == t3) else false)) else false)) := hk
    exact runs_ret (by kernel_rfl) trivial (Nat.le_refl 0) trivial trivial

theorem fc5 (t0 : (Nat → Int)) (t1 : Int) (t2 : Int) (t3 : Int) (t4 : Int) {r : Bool} (h : F5 t0 t1 t2 t3 t4 = some r) : FC Try.prog 5 [(D.ints .u64 12 t0), (D.int .i64 t1), (D.int .i64 t2), (D.int .u64 t3), (D.int .u64 t4)] [] (D.bool r) [] := by
  refine fc_of_runs (fn := Try.f5) (c := Try.f5.body.getD .skip) (by kernel_rfl) (by kernel_rfl) ?_
  refine runs_to (ts := [0, 1, 2, 3, 4]) (T' := T5) (env' := [(0, (D.ints .u64 12 t0)), (1, (D.int .i64 t1)), (2, (D.int .i64 t2)), (3, (D.int .u64 t3)), (4, (D.int .u64 t4))]) (h2 := []) (by kernel_rfl) (by kernel_rfl) trivial (Nat.le_refl 0) trivial (And.intro trivial (And.intro trivial (And.intro trivial (And.intro trivial (And.intro trivial trivial))))) ?_
  exact run5 t0 t1 t2 t3 t4 h rfl

def K54 (d : D) (r : Bool) : Prop := d = (D.bool r)

noncomputable def T54 : List Item := norm 200 [.code (Try.f54.body.getD .skip)]

/-- podesta/head.Field 1 -/
def F54 (t0 : S67) (t1 : ByteArray) : Option Bool :=
  some (t0.f0.toList == t1.toList)

theorem run54 (t0 : S67) (t1 : ByteArray) {d : D} {r : Bool} (h : F54 t0 t1 = some r) (hk : K54 d r) : Runs Try.prog Try.f54 0 T54 [(0, (D.cons (D.str t0.f0) (D.cons (D.int .i64 t0.f1) D.nil))), (1, (D.lptr (D.str t1)))] [] d [] := by
  unfold F54 at h
  refine runs_regions 2 [([], [1, 2]), ([], [3])] (z := ([], [(3, (D.bool (t0.f0.toList == t1.toList)))], [some (.box (D.cons (D.str t0.f0) (D.cons (D.int .i64 t0.f1) D.nil)))])) rfl (by kernel_rfl) trivial ?_
  rw [← Option.some.inj h] at hk
  obtain rfl : d = (D.bool (t0.f0.toList == t1.toList)) := hk
  exact runs_ret (by kernel_rfl) trivial (Nat.le_refl 0) trivial trivial

theorem fc54 (t0 : S67) (t1 : ByteArray) {r : Bool} (h : F54 t0 t1 = some r) : FC Try.prog 54 [(D.cons (D.str t0.f0) (D.cons (D.int .i64 t0.f1) D.nil)), (D.lptr (D.str t1))] [] (D.bool r) [] := by
  refine fc_of_runs (fn := Try.f54) (c := Try.f54.body.getD .skip) (by kernel_rfl) (by kernel_rfl) ?_
  refine runs_to (ts := [0, 1]) (T' := T54) (env' := [(0, (D.cons (D.str t0.f0) (D.cons (D.int .i64 t0.f1) D.nil))), (1, (D.lptr (D.str t1)))]) (h2 := []) (by kernel_rfl) (by kernel_rfl) trivial (Nat.le_refl 0) trivial (And.intro (And.intro trivial (And.intro trivial trivial)) (And.intro trivial trivial)) ?_
  exact run54 t0 t1 h rfl

def K53_54 (d : D) (r : Int) : Prop := d = (D.int .i64 r)

noncomputable def T53_54 : List Item := norm 200 [.code (Try.f53.body.getD .skip)]

noncomputable def T53_54_L1 : List Item := norm 200 (nxt (nxt T53_54))

noncomputable def X53_54_L1T : List Item := norm 200 (cndF (nxt (nxt (nxt T53_54))))

abbrev E53_54_L1 := Unit

def N53_54_L1 (_fu : Nat) (t0 : (Nat × (Nat → S67))) (t1_0 : ByteArray) (t7 : Int) (d : D) (s : Int) : Prop := Runs Try.prog Try.f53 0 T53_54_L1 [(0, (D.lit t0.1 2 fun i => (D.cons (D.str (t0.2 i).f0) (D.cons (D.int .i64 (t0.2 i).f1) D.nil)))), (1, (D.fn 54 (D.cons (D.lptr (D.str t1_0)) D.nil))), (7, (D.int .i64 t7)), (8, (D.int .i64 s))] [] d []

def X53_54_L1 (_fu : Nat) (_t0 : (Nat × (Nat → S67))) (_t1_0 : ByteArray) (_t7 : Int) (d : D) : E53_54_L1 ⊕ Int → Prop
  | .inl _ => Runs Try.prog Try.f53 0 X53_54_L1T [] [] d []
  | .inr o => (K53_54 d) o

def F53_54_L1 (_fu : Nat) (t0 : (Nat × (Nat → S67))) (t1_0 : ByteArray) (t7 : Int) (t8 : Int) : Option (Lo Int E53_54_L1 Int) :=
  ifs (decide (t8 < t7)) (
    chk (0 ≤ t8 ∧ t8 < ((t0.1 : Nat) : Int)) <|
    (F54 (t0.2 t8.toNat) t1_0).bind fun r0 =>
    ifs r0 (
      some (.ret t8)) (
      some (.next (IntKind.wrap .i64 (t8 + (1 : Int)))))) (
    some (.exit ()))

theorem run53_54_L1 (fu : Nat) (t0 : (Nat × (Nat → S67))) (t1_0 : ByteArray) (t7 : Int) (t8 : Int) {d : D} {o : (Lo Int E53_54_L1 Int)} (h : F53_54_L1 fu t0 t1_0 t7 t8 = some o) (hk : (Lo.post (N53_54_L1 fu t0 t1_0 t7 d) (X53_54_L1 fu t0 t1_0 t7 d)) o) : Runs Try.prog Try.f53 0 T53_54_L1 [(0, (D.lit t0.1 2 fun i => (D.cons (D.str (t0.2 i).f0) (D.cons (D.int .i64 (t0.2 i).f1) D.nil)))), (1, (D.fn 54 (D.cons (D.lptr (D.str t1_0)) D.nil))), (7, (D.int .i64 t7)), (8, (D.int .i64 t8))] [] d [] := by
  unfold F53_54_L1 at h
  refine runs_regions 1 [([], [0, 1, 7, 8, 9])] (z := ([], [(0, (D.lit t0.1 2 fun i => (D.cons (D.str (t0.2 i).f0) (D.cons (D.int .i64 (t0.2 i).f1) D.nil)))), (1, (D.fn 54 (D.cons (D.lptr (D.str t1_0)) D.nil))), (7, (D.int .i64 t7)), (8, (D.int .i64 t8)), (9, (D.bool (decide (t8 < t7))))], [])) rfl (by kernel_rfl) trivial ?_
  refine runs_if (b := (decide (t8 < t7))) (by kernel_rfl) (fun hb => ?_) (fun hb => ?_)
  · replace h := ifs_true h hb
    obtain ⟨p0, h⟩ := chk_some h
    obtain ⟨r0, cr0, h⟩ := Option.bind_eq_some_iff.1 h
    refine runs_regions 2 [([], [0, 1, 5, 7, 8]), ([(D.bool r0)], [0, 1, 5, 7, 8, 16])] (z := ([(0 ≤ t8 ∧ t8 < ((t0.1 : Nat) : Int)), FC Try.prog 54 [(D.cons (D.str (t0.2 t8.toNat).f0) (D.cons (D.int .i64 (t0.2 t8.toNat).f1) D.nil)), (D.lptr (D.str t1_0))] [] (D.bool r0) [], All (List.map NoRow [(D.cons (D.str (t0.2 t8.toNat).f0) (D.cons (D.int .i64 (t0.2 t8.toNat).f1) D.nil)), (D.lptr (D.str t1_0))])], [(0, (D.lit t0.1 2 fun i => (D.cons (D.str (t0.2 i).f0) (D.cons (D.int .i64 (t0.2 i).f1) D.nil)))), (1, (D.fn 54 (D.cons (D.lptr (D.str t1_0)) D.nil))), (5, (D.int .i64 t8)), (7, (D.int .i64 t7)), (8, (D.int .i64 t8)), (16, (D.bool r0))], [])) rfl (by kernel_rfl) (And.intro p0 (And.intro (fc54 (t0.2 t8.toNat) t1_0 cr0) (And.intro (And.intro (And.intro trivial (And.intro trivial trivial)) (And.intro trivial trivial)) trivial))) ?_
    refine runs_if (b := r0) (by kernel_rfl) (fun hb => ?_) (fun hb => ?_)
    · replace h := ifs_true h hb
      refine runs_regions 1 [([], [4])] (z := ([], [(4, (D.int .i64 t8))], [])) rfl (by kernel_rfl) trivial ?_
      rw [← Option.some.inj h] at hk
      obtain rfl : d = (D.int .i64 t8) := hk
      exact runs_ret (by kernel_rfl) trivial (Nat.le_refl 0) trivial trivial
    · replace h := ifs_false h hb
      refine runs_regions 1 [([], [0, 1, 7, 8])] (z := ([], [(0, (D.lit t0.1 2 fun i => (D.cons (D.str (t0.2 i).f0) (D.cons (D.int .i64 (t0.2 i).f1) D.nil)))), (1, (D.fn 54 (D.cons (D.lptr (D.str t1_0)) D.nil))), (7, (D.int .i64 t7)), (8, (D.int .i64 (IntKind.wrap .i64 (t8 + (1 : Int)))))], [])) rfl (by kernel_rfl) trivial ?_
      rw [← Option.some.inj h] at hk
      refine runs_to (ts := [0, 1, 7, 8]) (T' := T53_54_L1) (env' := [(0, (D.lit t0.1 2 fun i => (D.cons (D.str (t0.2 i).f0) (D.cons (D.int .i64 (t0.2 i).f1) D.nil)))), (1, (D.fn 54 (D.cons (D.lptr (D.str t1_0)) D.nil))), (7, (D.int .i64 t7)), (8, (D.int .i64 (IntKind.wrap .i64 (t8 + (1 : Int)))))]) (h2 := []) (by kernel_rfl) (by kernel_rfl) trivial (Nat.zero_le _) trivial (And.intro (fun _ _ => (And.intro trivial (And.intro trivial trivial))) (And.intro (And.intro trivial trivial) (And.intro trivial (And.intro trivial trivial)))) ?_
      exact hk
  · replace h := ifs_false h hb
    rw [← Option.some.inj h] at hk
    refine runs_to (ts := []) (T' := X53_54_L1T) (env' := []) (h2 := []) (by kernel_rfl) (by kernel_rfl) trivial (Nat.zero_le _) trivial trivial ?_
    exact hk

theorem iter53_54_L1 (fu : Nat) (t0 : (Nat × (Nat → S67))) (t1_0 : ByteArray) (t7 : Int) {d : D} (k : Nat) (s : Int) {o : E53_54_L1 ⊕ Int} (h : iter (fun s => F53_54_L1 fu t0 t1_0 t7 s) k s = some o) (hx : X53_54_L1 fu t0 t1_0 t7 d o) : N53_54_L1 fu t0 t1_0 t7 d s :=
  iter_post (K := N53_54_L1 fu t0 t1_0 t7 d) (X := X53_54_L1 fu t0 t1_0 t7 d) (fun s _ h hk => run53_54_L1 fu t0 t1_0 t7 s h hk) k s o h hx

/-- slices.IndexFunc[[]podesta/head.field,podesta/head.field] -/
def F53_54 (fu : Nat) (t0 : (Nat × (Nat → S67))) (t1_0 : ByteArray) : Option Int :=
  after (iter (fun s => F53_54_L1 fu t0 t1_0 ((t0.1 : Nat) : Int) s) fu (0 : Int)) fun _ =>
  some (-1 : Int)

theorem run53_54 (fu : Nat) (t0 : (Nat × (Nat → S67))) (t1_0 : ByteArray) {d : D} {r : Int} (h : F53_54 fu t0 t1_0 = some r) (hk : K53_54 d r) : Runs Try.prog Try.f53 0 T53_54 [(0, (D.lit t0.1 2 fun i => (D.cons (D.str (t0.2 i).f0) (D.cons (D.int .i64 (t0.2 i).f1) D.nil)))), (1, (D.fn 54 (D.cons (D.lptr (D.str t1_0)) D.nil)))] [] d [] := by
  unfold F53_54 at h
  refine runs_regions 2 [([], [0, 1]), ([], [0, 1, 7, 8])] (z := ([], [(0, (D.lit t0.1 2 fun i => (D.cons (D.str (t0.2 i).f0) (D.cons (D.int .i64 (t0.2 i).f1) D.nil)))), (1, (D.fn 54 (D.cons (D.lptr (D.str t1_0)) D.nil))), (7, (D.int .i64 ((t0.1 : Nat) : Int))), (8, (D.int .i64 (0 : Int)))], [])) rfl (by kernel_rfl) trivial ?_
  refine runs_to (ts := [0, 1, 7, 8]) (T' := T53_54_L1) (env' := [(0, (D.lit t0.1 2 fun i => (D.cons (D.str (t0.2 i).f0) (D.cons (D.int .i64 (t0.2 i).f1) D.nil)))), (1, (D.fn 54 (D.cons (D.lptr (D.str t1_0)) D.nil))), (7, (D.int .i64 ((t0.1 : Nat) : Int))), (8, (D.int .i64 (0 : Int)))]) (h2 := []) (by kernel_rfl) (by kernel_rfl) trivial (Nat.zero_le _) trivial (And.intro (fun _ _ => (And.intro trivial (And.intro trivial trivial))) (And.intro (And.intro trivial trivial) (And.intro trivial (And.intro trivial trivial)))) ?_
  rcases after_some h with ⟨e2, hi, h⟩ | hi
  · refine iter53_54_L1 fu t0 t1_0 ((t0.1 : Nat) : Int) fu (0 : Int) hi ?_
    show Runs Try.prog Try.f53 0 X53_54_L1T [] [] d []
    refine runs_regions 1 [([], [4])] (z := ([], [(4, (D.int .i64 (-1 : Int)))], [])) rfl (by kernel_rfl) trivial ?_
    rw [← Option.some.inj h] at hk
    obtain rfl : d = (D.int .i64 (-1 : Int)) := hk
    exact runs_ret (by kernel_rfl) trivial (Nat.le_refl 0) trivial trivial
  · exact iter53_54_L1 fu t0 t1_0 ((t0.1 : Nat) : Int) fu (0 : Int) hi hk

theorem fc53_54 (fu : Nat) (t0 : (Nat × (Nat → S67))) (t1_0 : ByteArray) {r : Int} (h : F53_54 fu t0 t1_0 = some r) : FC Try.prog 53 [(D.lit t0.1 2 fun i => (D.cons (D.str (t0.2 i).f0) (D.cons (D.int .i64 (t0.2 i).f1) D.nil))), (D.fn 54 (D.cons (D.lptr (D.str t1_0)) D.nil))] [] (D.int .i64 r) [] := by
  refine fc_of_runs (fn := Try.f53) (c := Try.f53.body.getD .skip) (by kernel_rfl) (by kernel_rfl) ?_
  refine runs_to (ts := [0, 1]) (T' := T53_54) (env' := [(0, (D.lit t0.1 2 fun i => (D.cons (D.str (t0.2 i).f0) (D.cons (D.int .i64 (t0.2 i).f1) D.nil)))), (1, (D.fn 54 (D.cons (D.lptr (D.str t1_0)) D.nil)))]) (h2 := []) (by kernel_rfl) (by kernel_rfl) trivial (Nat.le_refl 0) trivial (And.intro (fun _ _ => (And.intro trivial (And.intro trivial trivial))) (And.intro (And.intro trivial trivial) trivial)) ?_
  exact run53_54 fu t0 t1_0 h rfl

def K21 (d : D) (r : (Int × Bool)) : Prop := d = (D.tup (D.cons (D.int .i64 r.1) (D.cons (D.bool r.2) D.nil)))

noncomputable def T21 : List Item := norm 200 [.code (Try.f21.body.getD .skip)]

/-- podesta/head.Field -/
def F21 (fu : Nat) (t0 : ByteArray) : Option (Int × Bool) :=
  (F51).bind fun r0 =>
  (F53_54 fu (12, r0) t0).bind fun r1 =>
  some ((if (0 : Int) > r1 then (0 : Int) else r1), (decide (r1 ≥ (0 : Int))))

theorem run21 (fu : Nat) (t0 : ByteArray) {d : D} {r : (Int × Bool)} (h : F21 fu t0 = some r) (hk : K21 d r) : Runs Try.prog Try.f21 0 T21 [(0, (D.str t0))] [] d [] := by
  unfold F21 at h
  obtain ⟨r0, cr0, h⟩ := Option.bind_eq_some_iff.1 h
  refine runs_regions 2 [([], [1]), ([(D.arr 12 2 fun i => (D.cons (D.str (r0 i).f0) (D.cons (D.int .i64 (r0 i).f1) D.nil)))], [1, 4])] (z := ([FC Try.prog 51 [] [] (D.arr 12 2 fun i => (D.cons (D.str (r0 i).f0) (D.cons (D.int .i64 (r0 i).f1) D.nil))) [], All (List.map NoRow [])], [(1, (D.ptr 0 [])), (4, (D.ptr 1 []))], [some (.box (D.str t0)), some (.box (D.arr 12 2 fun i => (D.cons (D.str (r0 i).f0) (D.cons (D.int .i64 (r0 i).f1) D.nil))))])) rfl (by kernel_rfl) (And.intro (fc51 cr0) (And.intro trivial trivial)) ?_
  refine runs_freeze 0 (row := (.box (D.str t0))) rfl ?_
  obtain ⟨r1, cr1, h⟩ := Option.bind_eq_some_iff.1 h
  refine runs_regions 2 [([(D.int .i64 r1)], [5]), ([], [2, 3])] (z := ([FC Try.prog 53 [(D.lit 12 2 fun i => (D.cons (D.str (r0 i).f0) (D.cons (D.int .i64 (r0 i).f1) D.nil))), (D.fn 54 (D.cons (D.lptr (D.str t0)) D.nil))] [] (D.int .i64 r1) [], All (List.map NoRow [(D.lit 12 2 fun i => (D.cons (D.str (r0 i).f0) (D.cons (D.int .i64 (r0 i).f1) D.nil))), (D.fn 54 (D.cons (D.lptr (D.str t0)) D.nil))])], [(2, (D.int .i64 (if (0 : Int) > r1 then (0 : Int) else r1))), (3, (D.bool (decide (r1 ≥ (0 : Int)))))], [none, none])) rfl (by kernel_rfl) (And.intro (fc53_54 fu (12, r0) t0 cr1) (And.intro (And.intro (fun _ _ => (And.intro trivial (And.intro trivial trivial))) (And.intro (And.intro trivial trivial) trivial)) trivial)) ?_
  rw [← Option.some.inj h] at hk
  obtain rfl : d = (D.tup (D.cons (D.int .i64 (if (0 : Int) > r1 then (0 : Int) else r1)) (D.cons (D.bool (decide (r1 ≥ (0 : Int)))) D.nil))) := hk
  exact runs_ret (by kernel_rfl) trivial (Nat.le_refl 0) trivial (And.intro trivial (And.intro trivial trivial))

theorem fc21 (fu : Nat) (t0 : ByteArray) {r : (Int × Bool)} (h : F21 fu t0 = some r) : FC Try.prog 21 [(D.str t0)] [] (D.tup (D.cons (D.int .i64 r.1) (D.cons (D.bool r.2) D.nil))) [] := by
  refine fc_of_runs (fn := Try.f21) (c := Try.f21.body.getD .skip) (by kernel_rfl) (by kernel_rfl) ?_
  refine runs_to (ts := [0]) (T' := T21) (env' := [(0, (D.str t0))]) (h2 := []) (by kernel_rfl) (by kernel_rfl) trivial (Nat.le_refl 0) trivial (And.intro trivial trivial) ?_
  exact run21 fu t0 h rfl

def K24 (d : D) (r : ByteArray) : Prop := d = (D.str r)

noncomputable def T24 : List Item := norm 200 [.code (Try.f24.body.getD .skip)]

/-- podesta/podestaref01.Name -/
def F24 (t0 : Int) : Option ByteArray :=
  ifs (bif (decide (t0 < (0 : Int))) then true else (decide (t0 > (11 : Int)))) (
    some (⟨#[]⟩ : ByteArray)) (
    chk (0 ≤ t0 ∧ t0 < ((12 : Nat) : Int)) <|
    some ((fun i => ([(⟨#[105, 110]⟩ : ByteArray), (⟨#[101, 115, 114, 99]⟩ : ByteArray), (⟨#[101, 100, 115, 116]⟩ : ByteArray), (⟨#[101, 116, 121, 112, 101]⟩ : ByteArray), (⟨#[118, 108, 97, 110]⟩ : ByteArray), (⟨#[112, 99, 112]⟩ : ByteArray), (⟨#[115, 114, 99]⟩ : ByteArray), (⟨#[100, 115, 116]⟩ : ByteArray), (⟨#[112, 114, 111, 116, 111]⟩ : ByteArray), (⟨#[116, 111, 115]⟩ : ByteArray), (⟨#[115, 112, 111, 114, 116]⟩ : ByteArray), (⟨#[100, 112, 111, 114, 116]⟩ : ByteArray)] : List ByteArray).getD i (⟨#[]⟩ : ByteArray)) t0.toNat))

theorem run24 (t0 : Int) {d : D} {r : ByteArray} (h : F24 t0 = some r) (hk : K24 d r) : Runs Try.prog Try.f24 0 T24 [(0, (D.int .i64 t0))] [] d [] := by
  unfold F24 at h
  refine runs_regions 2 [([], [0]), ([], [0, 8])] (z := ([((!(decide (t0 < (0 : Int)))) = true → All [((!(decide (t0 < (0 : Int)))) = true → (!(decide (t0 < (0 : Int)))) = true)]), ((true && !(decide (t0 < (0 : Int)))) = true → (!(decide (t0 < (0 : Int)))) = true)], [(0, (D.int .i64 t0)), (8, (D.bool (bif (decide (t0 < (0 : Int))) then true else (decide (t0 > (11 : Int))))))], [])) rfl (by kernel_rfl) (And.intro (fun _ => (And.intro (by first | exact fun h => h | exact fun h => (Bool.and_eq_true_iff.1 h).1 | simp_all) trivial)) (And.intro (by first | exact fun h => h | exact fun h => (Bool.and_eq_true_iff.1 h).1 | simp_all) trivial)) ?_
  refine runs_if (b := (bif (decide (t0 < (0 : Int))) then true else (decide (t0 > (11 : Int))))) (by kernel_rfl) (fun hb => ?_) (fun hb => ?_)
  · replace h := ifs_true h hb
    refine runs_regions 1 [([], [2])] (z := ([], [(2, (D.str (⟨#[]⟩ : ByteArray)))], [])) rfl (by kernel_rfl) trivial ?_
    rw [← Option.some.inj h] at hk
    obtain rfl : d = (D.str (⟨#[]⟩ : ByteArray)) := hk
    exact runs_ret (by kernel_rfl) trivial (Nat.le_refl 0) trivial trivial
  · replace h := ifs_false h hb
    obtain ⟨p0, h⟩ := chk_some h
    refine runs_regions 1 [([(D.gd false (D.lit 12 1 fun i => (D.str ((fun i => ([(⟨#[105, 110]⟩ : ByteArray), (⟨#[101, 115, 114, 99]⟩ : ByteArray), (⟨#[101, 100, 115, 116]⟩ : ByteArray), (⟨#[101, 116, 121, 112, 101]⟩ : ByteArray), (⟨#[118, 108, 97, 110]⟩ : ByteArray), (⟨#[112, 99, 112]⟩ : ByteArray), (⟨#[115, 114, 99]⟩ : ByteArray), (⟨#[100, 115, 116]⟩ : ByteArray), (⟨#[112, 114, 111, 116, 111]⟩ : ByteArray), (⟨#[116, 111, 115]⟩ : ByteArray), (⟨#[115, 112, 111, 114, 116]⟩ : ByteArray), (⟨#[100, 112, 111, 114, 116]⟩ : ByteArray)] : List ByteArray).getD i (⟨#[]⟩ : ByteArray)) i))))], [2])] (z := ([TabOk [(D.str (⟨#[105, 110]⟩ : ByteArray)), (D.str (⟨#[101, 115, 114, 99]⟩ : ByteArray)), (D.str (⟨#[101, 100, 115, 116]⟩ : ByteArray)), (D.str (⟨#[101, 116, 121, 112, 101]⟩ : ByteArray)), (D.str (⟨#[118, 108, 97, 110]⟩ : ByteArray)), (D.str (⟨#[112, 99, 112]⟩ : ByteArray)), (D.str (⟨#[115, 114, 99]⟩ : ByteArray)), (D.str (⟨#[100, 115, 116]⟩ : ByteArray)), (D.str (⟨#[112, 114, 111, 116, 111]⟩ : ByteArray)), (D.str (⟨#[116, 111, 115]⟩ : ByteArray)), (D.str (⟨#[115, 112, 111, 114, 116]⟩ : ByteArray)), (D.str (⟨#[100, 112, 111, 114, 116]⟩ : ByteArray))] 1 (D.arr 12 1 fun i => (D.str ((fun i => ([(⟨#[105, 110]⟩ : ByteArray), (⟨#[101, 115, 114, 99]⟩ : ByteArray), (⟨#[101, 100, 115, 116]⟩ : ByteArray), (⟨#[101, 116, 121, 112, 101]⟩ : ByteArray), (⟨#[118, 108, 97, 110]⟩ : ByteArray), (⟨#[112, 99, 112]⟩ : ByteArray), (⟨#[115, 114, 99]⟩ : ByteArray), (⟨#[100, 115, 116]⟩ : ByteArray), (⟨#[112, 114, 111, 116, 111]⟩ : ByteArray), (⟨#[116, 111, 115]⟩ : ByteArray), (⟨#[115, 112, 111, 114, 116]⟩ : ByteArray), (⟨#[100, 112, 111, 114, 116]⟩ : ByteArray)] : List ByteArray).getD i (⟨#[]⟩ : ByteArray)) i))), (0 ≤ t0 ∧ t0 < ((12 : Nat) : Int))], [(2, (D.str ((fun i => ([(⟨#[105, 110]⟩ : ByteArray), (⟨#[101, 115, 114, 99]⟩ : ByteArray), (⟨#[101, 100, 115, 116]⟩ : ByteArray), (⟨#[101, 116, 121, 112, 101]⟩ : ByteArray), (⟨#[118, 108, 97, 110]⟩ : ByteArray), (⟨#[112, 99, 112]⟩ : ByteArray), (⟨#[115, 114, 99]⟩ : ByteArray), (⟨#[100, 115, 116]⟩ : ByteArray), (⟨#[112, 114, 111, 116, 111]⟩ : ByteArray), (⟨#[116, 111, 115]⟩ : ByteArray), (⟨#[115, 112, 111, 114, 116]⟩ : ByteArray), (⟨#[100, 112, 111, 114, 116]⟩ : ByteArray)] : List ByteArray).getD i (⟨#[]⟩ : ByteArray)) t0.toNat)))], [])) rfl (by kernel_rfl) (And.intro (tabOk_arr rfl (And.intro rfl (And.intro rfl (And.intro rfl (And.intro rfl (And.intro rfl (And.intro rfl (And.intro rfl (And.intro rfl (And.intro rfl (And.intro rfl (And.intro rfl (And.intro rfl trivial))))))))))))) (And.intro p0 trivial)) ?_
    rw [← Option.some.inj h] at hk
    obtain rfl : d = (D.str ((fun i => ([(⟨#[105, 110]⟩ : ByteArray), (⟨#[101, 115, 114, 99]⟩ : ByteArray), (⟨#[101, 100, 115, 116]⟩ : ByteArray), (⟨#[101, 116, 121, 112, 101]⟩ : ByteArray), (⟨#[118, 108, 97, 110]⟩ : ByteArray), (⟨#[112, 99, 112]⟩ : ByteArray), (⟨#[115, 114, 99]⟩ : ByteArray), (⟨#[100, 115, 116]⟩ : ByteArray), (⟨#[112, 114, 111, 116, 111]⟩ : ByteArray), (⟨#[116, 111, 115]⟩ : ByteArray), (⟨#[115, 112, 111, 114, 116]⟩ : ByteArray), (⟨#[100, 112, 111, 114, 116]⟩ : ByteArray)] : List ByteArray).getD i (⟨#[]⟩ : ByteArray)) t0.toNat)) := hk
    exact runs_ret (by kernel_rfl) trivial (Nat.le_refl 0) trivial trivial

theorem fc24 (t0 : Int) {r : ByteArray} (h : F24 t0 = some r) : FC Try.prog 24 [(D.int .i64 t0)] [] (D.str r) [] := by
  refine fc_of_runs (fn := Try.f24) (c := Try.f24.body.getD .skip) (by kernel_rfl) (by kernel_rfl) ?_
  refine runs_to (ts := [0]) (T' := T24) (env' := [(0, (D.int .i64 t0))]) (h2 := []) (by kernel_rfl) (by kernel_rfl) trivial (Nat.le_refl 0) trivial (And.intro trivial trivial) ?_
  exact run24 t0 h rfl

def K22 (d : D) (r : (Int × Bool)) : Prop := d = (D.tup (D.cons (D.int .i64 r.1) (D.cons (D.bool r.2) D.nil)))

noncomputable def T22 : List Item := norm 200 [.code (Try.f22.body.getD .skip)]

noncomputable def T22_L1 : List Item := norm 200 (nxt (nxt T22))

noncomputable def X22_L1T : List Item := norm 200 (cndF (nxt (nxt (nxt T22))))

abbrev E22_L1 := Unit

def N22_L1 (_fu : Nat) (t0 : ByteArray) (d : D) (s : Int) : Prop := Runs Try.prog Try.f22 0 T22_L1 [(0, (D.str t0)), (4, (D.int .i64 s))] [] d []

def X22_L1 (_fu : Nat) (_t0 : ByteArray) (d : D) : E22_L1 ⊕ (Int × Bool) → Prop
  | .inl _ => Runs Try.prog Try.f22 0 X22_L1T [] [] d []
  | .inr o => (K22 d) o

def F22_L1 (_fu : Nat) (t0 : ByteArray) (t4 : Int) : Option (Lo Int E22_L1 (Int × Bool)) :=
  ifs (decide (t4 < (12 : Int))) (
    (F24 t4).bind fun r0 =>
    ifs (r0.toList == t0.toList) (
      some (.ret (t4, true))) (
      some (.next (IntKind.wrap .i64 (t4 + (1 : Int)))))) (
    some (.exit ()))

theorem run22_L1 (fu : Nat) (t0 : ByteArray) (t4 : Int) {d : D} {o : (Lo Int E22_L1 (Int × Bool))} (h : F22_L1 fu t0 t4 = some o) (hk : (Lo.post (N22_L1 fu t0 d) (X22_L1 fu t0 d)) o) : Runs Try.prog Try.f22 0 T22_L1 [(0, (D.str t0)), (4, (D.int .i64 t4))] [] d [] := by
  unfold F22_L1 at h
  refine runs_regions 1 [([], [0, 4, 6])] (z := ([], [(0, (D.str t0)), (4, (D.int .i64 t4)), (6, (D.bool (decide (t4 < (12 : Int)))))], [])) rfl (by kernel_rfl) trivial ?_
  refine runs_if (b := (decide (t4 < (12 : Int)))) (by kernel_rfl) (fun hb => ?_) (fun hb => ?_)
  · replace h := ifs_true h hb
    obtain ⟨r0, cr0, h⟩ := Option.bind_eq_some_iff.1 h
    refine runs_regions 1 [([(D.str r0)], [0, 4, 12])] (z := ([FC Try.prog 24 [(D.int .i64 t4)] [] (D.str r0) [], All (List.map NoRow [(D.int .i64 t4)])], [(0, (D.str t0)), (4, (D.int .i64 t4)), (12, (D.bool (r0.toList == t0.toList)))], [])) rfl (by kernel_rfl) (And.intro (fc24 t4 cr0) (And.intro (And.intro trivial trivial) trivial)) ?_
    refine runs_if (b := (r0.toList == t0.toList)) (by kernel_rfl) (fun hb => ?_) (fun hb => ?_)
    · replace h := ifs_true h hb
      refine runs_regions 1 [([], [2, 3])] (z := ([], [(2, (D.int .i64 t4)), (3, (D.bool true))], [])) rfl (by kernel_rfl) trivial ?_
      rw [← Option.some.inj h] at hk
      obtain rfl : d = (D.tup (D.cons (D.int .i64 t4) (D.cons (D.bool true) D.nil))) := hk
      exact runs_ret (by kernel_rfl) trivial (Nat.le_refl 0) trivial (And.intro trivial (And.intro trivial trivial))
    · replace h := ifs_false h hb
      refine runs_regions 1 [([], [0, 4])] (z := ([], [(0, (D.str t0)), (4, (D.int .i64 (IntKind.wrap .i64 (t4 + (1 : Int)))))], [])) rfl (by kernel_rfl) trivial ?_
      rw [← Option.some.inj h] at hk
      refine runs_to (ts := [0, 4]) (T' := T22_L1) (env' := [(0, (D.str t0)), (4, (D.int .i64 (IntKind.wrap .i64 (t4 + (1 : Int)))))]) (h2 := []) (by kernel_rfl) (by kernel_rfl) trivial (Nat.zero_le _) trivial (And.intro trivial (And.intro trivial trivial)) ?_
      exact hk
  · replace h := ifs_false h hb
    rw [← Option.some.inj h] at hk
    refine runs_to (ts := []) (T' := X22_L1T) (env' := []) (h2 := []) (by kernel_rfl) (by kernel_rfl) trivial (Nat.zero_le _) trivial trivial ?_
    exact hk

theorem iter22_L1 (fu : Nat) (t0 : ByteArray) {d : D} (k : Nat) (s : Int) {o : E22_L1 ⊕ (Int × Bool)} (h : iter (fun s => F22_L1 fu t0 s) k s = some o) (hx : X22_L1 fu t0 d o) : N22_L1 fu t0 d s :=
  iter_post (K := N22_L1 fu t0 d) (X := X22_L1 fu t0 d) (fun s _ h hk => run22_L1 fu t0 s h hk) k s o h hx

/-- podesta/podestaref01.Field -/
def F22 (fu : Nat) (t0 : ByteArray) : Option (Int × Bool) :=
  after (iter (fun s => F22_L1 fu t0 s) fu (0 : Int)) fun _ =>
  some ((0 : Int), false)

theorem run22 (fu : Nat) (t0 : ByteArray) {d : D} {r : (Int × Bool)} (h : F22 fu t0 = some r) (hk : K22 d r) : Runs Try.prog Try.f22 0 T22 [(0, (D.str t0))] [] d [] := by
  unfold F22 at h
  refine runs_regions 2 [([], [0]), ([], [0, 4])] (z := ([], [(0, (D.str t0)), (4, (D.int .i64 (0 : Int)))], [])) rfl (by kernel_rfl) trivial ?_
  refine runs_to (ts := [0, 4]) (T' := T22_L1) (env' := [(0, (D.str t0)), (4, (D.int .i64 (0 : Int)))]) (h2 := []) (by kernel_rfl) (by kernel_rfl) trivial (Nat.zero_le _) trivial (And.intro trivial (And.intro trivial trivial)) ?_
  rcases after_some h with ⟨e1, hi, h⟩ | hi
  · refine iter22_L1 fu t0 fu (0 : Int) hi ?_
    show Runs Try.prog Try.f22 0 X22_L1T [] [] d []
    refine runs_regions 1 [([], [2, 3])] (z := ([], [(2, (D.int .i64 (0 : Int))), (3, (D.bool false))], [])) rfl (by kernel_rfl) trivial ?_
    rw [← Option.some.inj h] at hk
    obtain rfl : d = (D.tup (D.cons (D.int .i64 (0 : Int)) (D.cons (D.bool false) D.nil))) := hk
    exact runs_ret (by kernel_rfl) trivial (Nat.le_refl 0) trivial (And.intro trivial (And.intro trivial trivial))
  · exact iter22_L1 fu t0 fu (0 : Int) hi hk

theorem fc22 (fu : Nat) (t0 : ByteArray) {r : (Int × Bool)} (h : F22 fu t0 = some r) : FC Try.prog 22 [(D.str t0)] [] (D.tup (D.cons (D.int .i64 r.1) (D.cons (D.bool r.2) D.nil))) [] := by
  refine fc_of_runs (fn := Try.f22) (c := Try.f22.body.getD .skip) (by kernel_rfl) (by kernel_rfl) ?_
  refine runs_to (ts := [0]) (T' := T22) (env' := [(0, (D.str t0))]) (h2 := []) (by kernel_rfl) (by kernel_rfl) trivial (Nat.le_refl 0) trivial (And.intro trivial trivial) ?_
  exact run22 fu t0 h rfl

def K6 (d : D) (r : Bool) : Prop := d = (D.bool r)

noncomputable def T6 : List Item := norm 200 [.code (Try.f6.body.getD .skip)]

/-- podesta/podestalaw01.HeadFields -/
def F6 (fu : Nat) (t0 : Int) (t1 : ByteArray) : Option Bool :=
  ifs (decide ((t1.size : Int) > (100 : Int))) (
    (F17).bind fun r0 =>
    some r0) (
    (F21 fu t1).bind fun r1 =>
    (F22 fu t1).bind fun r2 =>
    (F17).bind fun r3 =>
    (callIf r3 (F18 t0) (0 : Int)).bind fun r4 =>
    (callIf r3 (F19 t0) (0 : Int)).bind fun r5 =>
    (callIf (bif r3 then (r4 == r5) else false) (F23 t0) (⟨#[]⟩ : ByteArray)).bind fun r6 =>
    (callIf (bif r3 then (r4 == r5) else false) (F24 t0) (⟨#[]⟩ : ByteArray)).bind fun r7 =>
    some (bif (bif (bif (bif r3 then (r4 == r5) else false) then (r6.toList == r7.toList) else false) then (r1.1 == r2.1) else false) then (r1.2 == r2.2) else false))

theorem run6 (fu : Nat) (t0 : Int) (t1 : ByteArray) {d : D} {r : Bool} (h : F6 fu t0 t1 = some r) (hk : K6 d r) : Runs Try.prog Try.f6 0 T6 [(0, (D.int .i64 t0)), (1, (D.str t1))] [] d [] := by
  unfold F6 at h
  refine runs_regions 2 [([], [0, 1]), ([], [0, 1, 11])] (z := ([], [(0, (D.int .i64 t0)), (1, (D.str t1)), (11, (D.bool (decide ((t1.size : Int) > (100 : Int)))))], [])) rfl (by kernel_rfl) trivial ?_
  refine runs_if (b := (decide ((t1.size : Int) > (100 : Int)))) (by kernel_rfl) (fun hb => ?_) (fun hb => ?_)
  · replace h := ifs_true h hb
    obtain ⟨r0, cr0, h⟩ := Option.bind_eq_some_iff.1 h
    refine runs_regions 1 [([(D.bool r0)], [4])] (z := ([FC Try.prog 17 [] [] (D.bool r0) [], All (List.map NoRow [])], [(4, (D.bool r0))], [])) rfl (by kernel_rfl) (And.intro (fc17 cr0) (And.intro trivial trivial)) ?_
    rw [← Option.some.inj h] at hk
    obtain rfl : d = (D.bool r0) := hk
    exact runs_ret (by kernel_rfl) trivial (Nat.le_refl 0) trivial trivial
  · replace h := ifs_false h hb
    obtain ⟨r1, cr1, h⟩ := Option.bind_eq_some_iff.1 h
    obtain ⟨r2, cr2, h⟩ := Option.bind_eq_some_iff.1 h
    obtain ⟨r3, cr3, h⟩ := Option.bind_eq_some_iff.1 h
    obtain ⟨r4, cr4, h⟩ := Option.bind_eq_some_iff.1 h
    obtain ⟨r5, cr5, h⟩ := Option.bind_eq_some_iff.1 h
    obtain ⟨r6, cr6, h⟩ := Option.bind_eq_some_iff.1 h
    obtain ⟨r7, cr7, h⟩ := Option.bind_eq_some_iff.1 h
    refine runs_regions 3 [([(D.tup (D.cons (D.int .i64 r1.1) (D.cons (D.bool r1.2) D.nil)))], [0, 1, 5, 6]), ([(D.tup (D.cons (D.int .i64 r2.1) (D.cons (D.bool r2.2) D.nil)))], [0, 5, 6, 7, 8]), ([(D.bool r3), (D.int .i64 r4), (D.int .i64 r5), (D.str r6), (D.str r7)], [4])] (z := ([FC Try.prog 21 [(D.str t1)] [] (D.tup (D.cons (D.int .i64 r1.1) (D.cons (D.bool r1.2) D.nil))) [], All (List.map NoRow [(D.str t1)]), FC Try.prog 22 [(D.str t1)] [] (D.tup (D.cons (D.int .i64 r2.1) (D.cons (D.bool r2.2) D.nil))) [], All (List.map NoRow [(D.str t1)]), FC Try.prog 17 [] [] (D.bool r3) [], All (List.map NoRow []), (r3 = true → All [(r3 = true → r3 = true), FC Try.prog 18 [(D.int .i64 t0)] [] (D.int .i64 r4) [], All (List.map NoRow [(D.int .i64 t0)])]), (r3 = true → All [(r3 = true → r3 = true), FC Try.prog 19 [(D.int .i64 t0)] [] (D.int .i64 r5) [], All (List.map NoRow [(D.int .i64 t0)])]), (r3 = true → All [(r3 = true → r3 = true), (r3 = true → r3 = true)]), ((true && r3) = true → r3 = true), ((bif r3 then (r4 == r5) else false) = true → All [((bif r3 then (r4 == r5) else false) = true → (bif r3 then (r4 == r5) else false) = true), FC Try.prog 23 [(D.int .i64 t0)] [] (D.str r6) [], All (List.map NoRow [(D.int .i64 t0)])]), ((bif r3 then (r4 == r5) else false) = true → All [((bif r3 then (r4 == r5) else false) = true → (bif r3 then (r4 == r5) else false) = true), FC Try.prog 24 [(D.int .i64 t0)] [] (D.str r7) [], All (List.map NoRow [(D.int .i64 t0)])]), ((bif r3 then (r4 == r5) else false) = true → All [((bif r3 then (r4 == r5) else false) = true → (bif r3 then (r4 == r5) else false) = true), ((bif r3 then (r4 == r5) else false) = true → (bif r3 then (r4 == r5) else false) = true)]), ((true && (bif r3 then (r4 == r5) else false)) = true → (bif r3 then (r4 == r5) else false) = true), ((bif (bif r3 then (r4 == r5) else false) then (r6.toList == r7.toList) else false) = true → All [((bif (bif r3 then (r4 == r5) else false) then (r6.toList == r7.toList) else false) = true → (bif (bif r3 then (r4 == r5) else false) then (r6.toList == r7.toList) else false) = true), ((bif (bif r3 then (r4 == r5) else false) then (r6.toList == r7.toList) else false) = true → (bif (bif r3 then (r4 == r5) else false) then (r6.toList == r7.toList) else false) = true)]), ((true && (bif (bif r3 then (r4 == r5) else false) then (r6.toList == r7.toList) else false)) = true → (bif (bif r3 then (r4 == r5) else false) then (r6.toList == r7.toList) else false) = true), ((bif (bif (bif r3 then (r4 == r5) else false) then (r6.toList == r7.toList) else false) then (r1.1 == r2.1) else false) = true → All [((bif (bif (bif r3 then (r4 == r5) else false) then (r6.toList == r7.toList) else false) then (r1.1 == r2.1) else false) = true → (bif (bif (bif r3 then (r4 == r5) else false) then (r6.toList == r7.toList) else false) then (r1.1 == r2.1) else false) = true), ((bif (bif (bif r3 then (r4 == r5) else false) then (r6.toList == r7.toList) else false) then (r1.1 == r2.1) else false) = true → (bif (bif (bif r3 then (r4 == r5) else false) then (r6.toList == r7.toList) else false) then (r1.1 == r2.1) else false) = true)]), ((true && (bif (bif (bif r3 then (r4 == r5) else false) then (r6.toList == r7.toList) else false) then (r1.1 == r2.1) else false)) = true → (bif (bif (bif r3 then (r4 == r5) else false) then (r6.toList == r7.toList) else false) then (r1.1 == r2.1) else false) = true)], [(4, (D.bool (bif (bif (bif (bif r3 then (r4 == r5) else false) then (r6.toList == r7.toList) else false) then (r1.1 == r2.1) else false) then (r1.2 == r2.2) else false)))], [])) rfl (by kernel_rfl) (And.intro (fc21 fu t1 cr1) (And.intro (And.intro trivial trivial) (And.intro (fc22 fu t1 cr2) (And.intro (And.intro trivial trivial) (And.intro (fc17 cr3) (And.intro trivial (And.intro (fun hg => (And.intro (by first | exact fun h => h | exact fun h => (Bool.and_eq_true_iff.1 h).1 | simp_all) (And.intro (fc18 t0 (callIf_some cr4 hg)) (And.intro (And.intro trivial trivial) trivial)))) (And.intro (fun hg => (And.intro (by first | exact fun h => h | exact fun h => (Bool.and_eq_true_iff.1 h).1 | simp_all) (And.intro (fc19 t0 (callIf_some cr5 hg)) (And.intro (And.intro trivial trivial) trivial)))) (And.intro (fun _ => (And.intro (by first | exact fun h => h | exact fun h => (Bool.and_eq_true_iff.1 h).1 | simp_all) (And.intro (by first | exact fun h => h | exact fun h => (Bool.and_eq_true_iff.1 h).1 | simp_all) trivial))) (And.intro (by first | exact fun h => h | exact fun h => (Bool.and_eq_true_iff.1 h).1 | simp_all) (And.intro (fun hg => (And.intro (by first | exact fun h => h | exact fun h => (Bool.and_eq_true_iff.1 h).1 | simp_all) (And.intro (fc23 t0 (callIf_some cr6 hg)) (And.intro (And.intro trivial trivial) trivial)))) (And.intro (fun hg => (And.intro (by first | exact fun h => h | exact fun h => (Bool.and_eq_true_iff.1 h).1 | simp_all) (And.intro (fc24 t0 (callIf_some cr7 hg)) (And.intro (And.intro trivial trivial) trivial)))) (And.intro (fun _ => (And.intro (by first | exact fun h => h | exact fun h => (Bool.and_eq_true_iff.1 h).1 | simp_all) (And.intro (by first | exact fun h => h | exact fun h => (Bool.and_eq_true_iff.1 h).1 | simp_all) trivial))) (And.intro (by first | exact fun h => h | exact fun h => (Bool.and_eq_true_iff.1 h).1 | simp_all) (And.intro (fun _ => (And.intro (by first | exact fun h => h | exact fun h => (Bool.and_eq_true_iff.1 h).1 | simp_all) (And.intro (by first | exact fun h => h | exact fun h => (Bool.and_eq_true_iff.1 h).1 | simp_all) trivial))) (And.intro (by first | exact fun h => h | exact fun h => (Bool.and_eq_true_iff.1 h).1 | simp_all) (And.intro (fun _ => (And.intro (by first | exact fun h => h | exact fun h => (Bool.and_eq_true_iff.1 h).1 | simp_all) (And.intro (by first | exact fun h => h | exact fun h => (Bool.and_eq_true_iff.1 h).1 | simp_all) trivial))) (And.intro (by first | exact fun h => h | exact fun h => (Bool.and_eq_true_iff.1 h).1 | simp_all) trivial)))))))))))))))))) ?_
    rw [← Option.some.inj h] at hk
    obtain rfl : d = (D.bool (bif (bif (bif (bif r3 then (r4 == r5) else false) then (r6.toList == r7.toList) else false) then (r1.1 == r2.1) else false) then (r1.2 == r2.2) else false)) := hk
    exact runs_ret (by kernel_rfl) trivial (Nat.le_refl 0) trivial trivial

theorem fc6 (fu : Nat) (t0 : Int) (t1 : ByteArray) {r : Bool} (h : F6 fu t0 t1 = some r) : FC Try.prog 6 [(D.int .i64 t0), (D.str t1)] [] (D.bool r) [] := by
  refine fc_of_runs (fn := Try.f6) (c := Try.f6.body.getD .skip) (by kernel_rfl) (by kernel_rfl) ?_
  refine runs_to (ts := [0, 1]) (T' := T6) (env' := [(0, (D.int .i64 t0)), (1, (D.str t1))]) (h2 := []) (by kernel_rfl) (by kernel_rfl) trivial (Nat.le_refl 0) trivial (And.intro trivial (And.intro trivial trivial)) ?_
  exact run6 fu t0 t1 h rfl

def K55 (d : D) (r : Bool) : Prop := d = (D.bool r)

noncomputable def T55 : List Item := norm 200 [.code (Try.f55.body.getD .skip)]

/-- podesta/podestaref01.Fits -/
def F55 (t0 : Int) (t1 : Int) : Option Bool :=
  chk (0 ≤ (IntKind.wrap .u64 t1)) <|
  some (decide (t0 < (ishl .u64 (1 : Int) (IntKind.wrap .u64 t1))))

theorem run55 (t0 : Int) (t1 : Int) {d : D} {r : Bool} (h : F55 t0 t1 = some r) (hk : K55 d r) : Runs Try.prog Try.f55 0 T55 [(0, (D.int .u64 t0)), (1, (D.int .i64 t1))] [] d [] := by
  unfold F55 at h
  obtain ⟨p0, h⟩ := chk_some h
  refine runs_regions 2 [([], [0, 1]), ([], [4])] (z := ([(0 ≤ (IntKind.wrap .u64 t1))], [(4, (D.bool (decide (t0 < (ishl .u64 (1 : Int) (IntKind.wrap .u64 t1))))))], [])) rfl (by kernel_rfl) (And.intro p0 trivial) ?_
  rw [← Option.some.inj h] at hk
  obtain rfl : d = (D.bool (decide (t0 < (ishl .u64 (1 : Int) (IntKind.wrap .u64 t1))))) := hk
  exact runs_ret (by kernel_rfl) trivial (Nat.le_refl 0) trivial trivial

theorem fc55 (t0 : Int) (t1 : Int) {r : Bool} (h : F55 t0 t1 = some r) : FC Try.prog 55 [(D.int .u64 t0), (D.int .i64 t1)] [] (D.bool r) [] := by
  refine fc_of_runs (fn := Try.f55) (c := Try.f55.body.getD .skip) (by kernel_rfl) (by kernel_rfl) ?_
  refine runs_to (ts := [0, 1]) (T' := T55) (env' := [(0, (D.int .u64 t0)), (1, (D.int .i64 t1))]) (h2 := []) (by kernel_rfl) (by kernel_rfl) trivial (Nat.le_refl 0) trivial (And.intro trivial (And.intro trivial trivial)) ?_
  exact run55 t0 t1 h rfl

def K25 (d : D) (r : ((Nat → Int) × Int)) : Prop := d = (D.tup (D.cons (D.ints .u64 12 r.1) (D.cons (D.int .i64 r.2) D.nil)))

noncomputable def T25 : List Item := norm 200 [.code (Try.f25.body.getD .skip)]

/-- podesta/podestaref01.Set -/
def F25 (t0 : (Nat → Int)) (t1 : Int) (t2 : Int) : Option ((Nat → Int) × Int) :=
  ifs (bif (decide (t1 < (0 : Int))) then true else (decide (t1 > (11 : Int)))) (
    some ((fun _ => 0), (1 : Int))) (
    (F19 t1).bind fun r0 =>
    (F55 t2 r0).bind fun r1 =>
    ifs (!r1) (
      some ((fun _ => 0), (13 : Int))) (
      chk (0 ≤ t1 ∧ t1 < ((12 : Nat) : Int)) <|
      chk (t1.toNat < 12) <|
      some ((fun j => if j = t1.toNat then t2 else t0 j), (0 : Int))))

theorem run25 (t0 : (Nat → Int)) (t1 : Int) (t2 : Int) {d : D} {r : ((Nat → Int) × Int)} (h : F25 t0 t1 t2 = some r) (hk : K25 d r) : Runs Try.prog Try.f25 0 T25 [(0, (D.ints .u64 12 t0)), (1, (D.int .i64 t1)), (2, (D.int .u64 t2))] [] d [] := by
  unfold F25 at h
  refine runs_regions 2 [([], [1, 2, 3, 6]), ([], [1, 2, 3, 6, 13])] (z := ([((!(decide (t1 < (0 : Int)))) = true → All [((!(decide (t1 < (0 : Int)))) = true → (!(decide (t1 < (0 : Int)))) = true)]), ((true && !(decide (t1 < (0 : Int)))) = true → (!(decide (t1 < (0 : Int)))) = true)], [(1, (D.int .i64 t1)), (2, (D.int .u64 t2)), (3, (D.ptr 0 [])), (6, (D.ptr 1 [])), (13, (D.bool (bif (decide (t1 < (0 : Int))) then true else (decide (t1 > (11 : Int))))))], [some (.box (D.ints .u64 12 t0)), some (.box (D.ints .u64 12 (fun _ => 0)))])) rfl (by kernel_rfl) (And.intro (fun _ => (And.intro (by first | exact fun h => h | exact fun h => (Bool.and_eq_true_iff.1 h).1 | simp_all) trivial)) (And.intro (by first | exact fun h => h | exact fun h => (Bool.and_eq_true_iff.1 h).1 | simp_all) trivial)) ?_
  refine runs_if (b := (bif (decide (t1 < (0 : Int))) then true else (decide (t1 > (11 : Int))))) (by kernel_rfl) (fun hb => ?_) (fun hb => ?_)
  · replace h := ifs_true h hb
    refine runs_regions 1 [([], [6, 7])] (z := ([], [(6, (D.ptr 1 [])), (7, (D.int .i64 (1 : Int)))], [some (.box (D.ints .u64 12 t0)), some (.box (D.ints .u64 12 (fun _ => 0)))])) rfl (by kernel_rfl) trivial ?_
    rw [← Option.some.inj h] at hk
    obtain rfl : d = (D.tup (D.cons (D.ints .u64 12 (fun _ => 0)) (D.cons (D.int .i64 (1 : Int)) D.nil))) := hk
    exact runs_ret (by kernel_rfl) trivial (Nat.le_refl 0) trivial (And.intro trivial (And.intro trivial trivial))
  · replace h := ifs_false h hb
    obtain ⟨r0, cr0, h⟩ := Option.bind_eq_some_iff.1 h
    obtain ⟨r1, cr1, h⟩ := Option.bind_eq_some_iff.1 h
    refine runs_regions 1 [([(D.int .i64 r0), (D.bool r1)], [1, 2, 3, 6, 19])] (z := ([FC Try.prog 19 [(D.int .i64 t1)] [] (D.int .i64 r0) [], All (List.map NoRow [(D.int .i64 t1)]), FC Try.prog 55 [(D.int .u64 t2), (D.int .i64 r0)] [] (D.bool r1) [], All (List.map NoRow [(D.int .u64 t2), (D.int .i64 r0)])], [(1, (D.int .i64 t1)), (2, (D.int .u64 t2)), (3, (D.ptr 0 [])), (6, (D.ptr 1 [])), (19, (D.bool (!r1)))], [some (.box (D.ints .u64 12 t0)), some (.box (D.ints .u64 12 (fun _ => 0)))])) rfl (by kernel_rfl) (And.intro (fc19 t1 cr0) (And.intro (And.intro trivial trivial) (And.intro (fc55 t2 r0 cr1) (And.intro (And.intro trivial (And.intro trivial trivial)) trivial)))) ?_
    refine runs_if (b := (!r1)) (by kernel_rfl) (fun hb => ?_) (fun hb => ?_)
    · replace h := ifs_true h hb
      refine runs_regions 1 [([], [6, 7])] (z := ([], [(6, (D.ptr 1 [])), (7, (D.int .i64 (13 : Int)))], [some (.box (D.ints .u64 12 t0)), some (.box (D.ints .u64 12 (fun _ => 0)))])) rfl (by kernel_rfl) trivial ?_
      rw [← Option.some.inj h] at hk
      obtain rfl : d = (D.tup (D.cons (D.ints .u64 12 (fun _ => 0)) (D.cons (D.int .i64 (13 : Int)) D.nil))) := hk
      exact runs_ret (by kernel_rfl) trivial (Nat.le_refl 0) trivial (And.intro trivial (And.intro trivial trivial))
    · replace h := ifs_false h hb
      obtain ⟨p0, h⟩ := chk_some h
      obtain ⟨p1, h⟩ := chk_some h
      refine runs_regions 2 [([], [3, 6]), ([], [6, 7])] (z := ([(0 ≤ t1 ∧ t1 < ((12 : Nat) : Int)), (t1.toNat < 12)], [(6, (D.ptr 1 [])), (7, (D.int .i64 (0 : Int)))], [some (.box (D.ints .u64 12 (fun j => if j = t1.toNat then t2 else t0 j))), some (.box (D.ints .u64 12 (fun j => if j = t1.toNat then t2 else t0 j)))])) rfl (by kernel_rfl) (And.intro p0 (And.intro p1 trivial)) ?_
      rw [← Option.some.inj h] at hk
      obtain rfl : d = (D.tup (D.cons (D.ints .u64 12 (fun j => if j = t1.toNat then t2 else t0 j)) (D.cons (D.int .i64 (0 : Int)) D.nil))) := hk
      exact runs_ret (by kernel_rfl) trivial (Nat.le_refl 0) trivial (And.intro trivial (And.intro trivial trivial))

theorem fc25 (t0 : (Nat → Int)) (t1 : Int) (t2 : Int) {r : ((Nat → Int) × Int)} (h : F25 t0 t1 t2 = some r) : FC Try.prog 25 [(D.ints .u64 12 t0), (D.int .i64 t1), (D.int .u64 t2)] [] (D.tup (D.cons (D.ints .u64 12 r.1) (D.cons (D.int .i64 r.2) D.nil))) [] := by
  refine fc_of_runs (fn := Try.f25) (c := Try.f25.body.getD .skip) (by kernel_rfl) (by kernel_rfl) ?_
  refine runs_to (ts := [0, 1, 2]) (T' := T25) (env' := [(0, (D.ints .u64 12 t0)), (1, (D.int .i64 t1)), (2, (D.int .u64 t2))]) (h2 := []) (by kernel_rfl) (by kernel_rfl) trivial (Nat.le_refl 0) trivial (And.intro trivial (And.intro trivial (And.intro trivial trivial))) ?_
  exact run25 t0 t1 t2 h rfl

def K26 (d : D) (r : Bool) : Prop := d = (D.bool r)

noncomputable def T26 : List Item := norm 200 [.code (Try.f26.body.getD .skip)]

noncomputable def T26_L1 : List Item := norm 200 (nxt (nxt T26))

noncomputable def X26_L1T : List Item := norm 200 (cndF (nxt (nxt (nxt T26))))

abbrev E26_L1 := Unit

def N26_L1 (_fu : Nat) (t5 : (Nat → Int)) (d : D) (s : Int) : Prop := Runs Try.prog Try.f26 0 T26_L1 [(5, (D.ints .u64 12 t5)), (6, (D.int .i64 s))] [] d []

def X26_L1 (_fu : Nat) (_t5 : (Nat → Int)) (d : D) : E26_L1 ⊕ Bool → Prop
  | .inl _ => Runs Try.prog Try.f26 0 X26_L1T [] [] d []
  | .inr o => (K26 d) o

def F26_L1 (_fu : Nat) (t5 : (Nat → Int)) (t6 : Int) : Option (Lo Int E26_L1 Bool) :=
  ifs (decide (t6 < (12 : Int))) (
    chk (0 ≤ t6 ∧ t6 < ((12 : Nat) : Int)) <|
    chk (t6.toNat < 12) <|
    (F52 t6 (t5 t6.toNat)).bind fun r0 =>
    ifs (!r0) (
      some (.ret false)) (
      some (.next (IntKind.wrap .i64 (t6 + (1 : Int)))))) (
    some (.exit ()))

theorem run26_L1 (fu : Nat) (t5 : (Nat → Int)) (t6 : Int) {d : D} {o : (Lo Int E26_L1 Bool)} (h : F26_L1 fu t5 t6 = some o) (hk : (Lo.post (N26_L1 fu t5 d) (X26_L1 fu t5 d)) o) : Runs Try.prog Try.f26 0 T26_L1 [(5, (D.ints .u64 12 t5)), (6, (D.int .i64 t6))] [] d [] := by
  unfold F26_L1 at h
  refine runs_regions 1 [([], [5, 6, 7])] (z := ([], [(5, (D.ints .u64 12 t5)), (6, (D.int .i64 t6)), (7, (D.bool (decide (t6 < (12 : Int)))))], [])) rfl (by kernel_rfl) trivial ?_
  refine runs_if (b := (decide (t6 < (12 : Int)))) (by kernel_rfl) (fun hb => ?_) (fun hb => ?_)
  · replace h := ifs_true h hb
    obtain ⟨p0, h⟩ := chk_some h
    obtain ⟨p1, h⟩ := chk_some h
    obtain ⟨r0, cr0, h⟩ := Option.bind_eq_some_iff.1 h
    refine runs_regions 2 [([], [3, 4, 5, 6]), ([(D.bool r0)], [5, 6, 13])] (z := ([(0 ≤ t6 ∧ t6 < ((12 : Nat) : Int)), (t6.toNat < 12), FC Try.prog 52 [(D.int .i64 t6), (D.int .u64 (t5 t6.toNat))] [] (D.bool r0) [], All (List.map NoRow [(D.int .i64 t6), (D.int .u64 (t5 t6.toNat))])], [(5, (D.ints .u64 12 t5)), (6, (D.int .i64 t6)), (13, (D.bool (!r0)))], [])) rfl (by kernel_rfl) (And.intro p0 (And.intro p1 (And.intro (fc52 t6 (t5 t6.toNat) cr0) (And.intro (And.intro trivial (And.intro trivial trivial)) trivial)))) ?_
    refine runs_if (b := (!r0)) (by kernel_rfl) (fun hb => ?_) (fun hb => ?_)
    · replace h := ifs_true h hb
      refine runs_regions 1 [([], [2])] (z := ([], [(2, (D.bool false))], [])) rfl (by kernel_rfl) trivial ?_
      rw [← Option.some.inj h] at hk
      obtain rfl : d = (D.bool false) := hk
      exact runs_ret (by kernel_rfl) trivial (Nat.le_refl 0) trivial trivial
    · replace h := ifs_false h hb
      refine runs_regions 1 [([], [5, 6])] (z := ([], [(5, (D.ints .u64 12 t5)), (6, (D.int .i64 (IntKind.wrap .i64 (t6 + (1 : Int)))))], [])) rfl (by kernel_rfl) trivial ?_
      rw [← Option.some.inj h] at hk
      refine runs_to (ts := [5, 6]) (T' := T26_L1) (env' := [(5, (D.ints .u64 12 t5)), (6, (D.int .i64 (IntKind.wrap .i64 (t6 + (1 : Int)))))]) (h2 := []) (by kernel_rfl) (by kernel_rfl) trivial (Nat.zero_le _) trivial (And.intro trivial (And.intro trivial trivial)) ?_
      exact hk
  · replace h := ifs_false h hb
    rw [← Option.some.inj h] at hk
    refine runs_to (ts := []) (T' := X26_L1T) (env' := []) (h2 := []) (by kernel_rfl) (by kernel_rfl) trivial (Nat.zero_le _) trivial trivial ?_
    exact hk

theorem iter26_L1 (fu : Nat) (t5 : (Nat → Int)) {d : D} (k : Nat) (s : Int) {o : E26_L1 ⊕ Bool} (h : iter (fun s => F26_L1 fu t5 s) k s = some o) (hx : X26_L1 fu t5 d o) : N26_L1 fu t5 d s :=
  iter_post (K := N26_L1 fu t5 d) (X := X26_L1 fu t5 d) (fun s _ h hk => run26_L1 fu t5 s h hk) k s o h hx

/-- podesta/head.Sound -/
def F26 (fu : Nat) (t0 : (Nat → Int)) : Option Bool :=
  after (iter (fun s => F26_L1 fu t0 s) fu (0 : Int)) fun _ =>
  some true

theorem run26 (fu : Nat) (t0 : (Nat → Int)) {d : D} {r : Bool} (h : F26 fu t0 = some r) (hk : K26 d r) : Runs Try.prog Try.f26 0 T26 [(0, (D.ints .u64 12 t0))] [] d [] := by
  unfold F26 at h
  refine runs_regions 2 [([], [1]), ([], [5, 6])] (z := ([], [(5, (D.ints .u64 12 t0)), (6, (D.int .i64 (0 : Int)))], [some (.box (D.ints .u64 12 t0))])) rfl (by kernel_rfl) trivial ?_
  refine runs_to (ts := [5, 6]) (T' := T26_L1) (env' := [(5, (D.ints .u64 12 t0)), (6, (D.int .i64 (0 : Int)))]) (h2 := []) (by kernel_rfl) (by kernel_rfl) trivial (Nat.zero_le _) trivial (And.intro trivial (And.intro trivial trivial)) ?_
  rcases after_some h with ⟨e3, hi, h⟩ | hi
  · refine iter26_L1 fu t0 fu (0 : Int) hi ?_
    show Runs Try.prog Try.f26 0 X26_L1T [] [] d []
    refine runs_regions 1 [([], [2])] (z := ([], [(2, (D.bool true))], [])) rfl (by kernel_rfl) trivial ?_
    rw [← Option.some.inj h] at hk
    obtain rfl : d = (D.bool true) := hk
    exact runs_ret (by kernel_rfl) trivial (Nat.le_refl 0) trivial trivial
  · exact iter26_L1 fu t0 fu (0 : Int) hi hk

theorem fc26 (fu : Nat) (t0 : (Nat → Int)) {r : Bool} (h : F26 fu t0 = some r) : FC Try.prog 26 [(D.ints .u64 12 t0)] [] (D.bool r) [] := by
  refine fc_of_runs (fn := Try.f26) (c := Try.f26.body.getD .skip) (by kernel_rfl) (by kernel_rfl) ?_
  refine runs_to (ts := [0]) (T' := T26) (env' := [(0, (D.ints .u64 12 t0))]) (h2 := []) (by kernel_rfl) (by kernel_rfl) trivial (Nat.le_refl 0) trivial (And.intro trivial trivial) ?_
  exact run26 fu t0 h rfl

def K27 (d : D) (r : Bool) : Prop := d = (D.bool r)

noncomputable def T27 : List Item := norm 200 [.code (Try.f27.body.getD .skip)]

noncomputable def T27_L1 : List Item := norm 200 (nxt (nxt T27))

noncomputable def X27_L1T : List Item := norm 200 (cndF (nxt (nxt (nxt T27))))

abbrev E27_L1 := Unit

def N27_L1 (_fu : Nat) (m0 : (Nat → Int)) (d : D) (s : Int) : Prop := Runs Try.prog Try.f27 0 T27_L1 [(1, (D.ptr 0 [])), (3, (D.int .i64 s))] [some (.box (D.ints .u64 12 m0))] d []

def X27_L1 (_fu : Nat) (_m0 : (Nat → Int)) (d : D) : E27_L1 ⊕ Bool → Prop
  | .inl _ => Runs Try.prog Try.f27 0 X27_L1T [] [] d []
  | .inr o => (K27 d) o

def F27_L1 (_fu : Nat) (m0 : (Nat → Int)) (t3 : Int) : Option (Lo Int E27_L1 Bool) :=
  ifs (decide (t3 < (12 : Int))) (
    chk (0 ≤ t3 ∧ t3 < ((12 : Nat) : Int)) <|
    chk (t3.toNat < 12) <|
    (F19 t3).bind fun r0 =>
    (F55 (m0 t3.toNat) r0).bind fun r1 =>
    ifs (!r1) (
      some (.ret false)) (
      some (.next (IntKind.wrap .i64 (t3 + (1 : Int)))))) (
    some (.exit ()))

theorem run27_L1 (fu : Nat) (m0 : (Nat → Int)) (t3 : Int) {d : D} {o : (Lo Int E27_L1 Bool)} (h : F27_L1 fu m0 t3 = some o) (hk : (Lo.post (N27_L1 fu m0 d) (X27_L1 fu m0 d)) o) : Runs Try.prog Try.f27 0 T27_L1 [(1, (D.ptr 0 [])), (3, (D.int .i64 t3))] [some (.box (D.ints .u64 12 m0))] d [] := by
  unfold F27_L1 at h
  refine runs_regions 1 [([], [1, 3, 5])] (z := ([], [(1, (D.ptr 0 [])), (3, (D.int .i64 t3)), (5, (D.bool (decide (t3 < (12 : Int)))))], [some (.box (D.ints .u64 12 m0))])) rfl (by kernel_rfl) trivial ?_
  refine runs_if (b := (decide (t3 < (12 : Int)))) (by kernel_rfl) (fun hb => ?_) (fun hb => ?_)
  · replace h := ifs_true h hb
    obtain ⟨p0, h⟩ := chk_some h
    obtain ⟨p1, h⟩ := chk_some h
    obtain ⟨r0, cr0, h⟩ := Option.bind_eq_some_iff.1 h
    obtain ⟨r1, cr1, h⟩ := Option.bind_eq_some_iff.1 h
    refine runs_regions 1 [([(D.int .i64 r0), (D.bool r1)], [1, 3, 14])] (z := ([(0 ≤ t3 ∧ t3 < ((12 : Nat) : Int)), (t3.toNat < 12), FC Try.prog 19 [(D.int .i64 t3)] [] (D.int .i64 r0) [], All (List.map NoRow [(D.int .i64 t3)]), FC Try.prog 55 [(D.int .u64 (m0 t3.toNat)), (D.int .i64 r0)] [] (D.bool r1) [], All (List.map NoRow [(D.int .u64 (m0 t3.toNat)), (D.int .i64 r0)])], [(1, (D.ptr 0 [])), (3, (D.int .i64 t3)), (14, (D.bool (!r1)))], [some (.box (D.ints .u64 12 m0))])) rfl (by kernel_rfl) (And.intro p0 (And.intro p1 (And.intro (fc19 t3 cr0) (And.intro (And.intro trivial trivial) (And.intro (fc55 (m0 t3.toNat) r0 cr1) (And.intro (And.intro trivial (And.intro trivial trivial)) trivial)))))) ?_
    refine runs_if (b := (!r1)) (by kernel_rfl) (fun hb => ?_) (fun hb => ?_)
    · replace h := ifs_true h hb
      refine runs_regions 1 [([], [2])] (z := ([], [(2, (D.bool false))], [some (.box (D.ints .u64 12 m0))])) rfl (by kernel_rfl) trivial ?_
      rw [← Option.some.inj h] at hk
      obtain rfl : d = (D.bool false) := hk
      exact runs_ret (by kernel_rfl) trivial (Nat.le_refl 0) trivial trivial
    · replace h := ifs_false h hb
      refine runs_regions 1 [([], [1, 3])] (z := ([], [(1, (D.ptr 0 [])), (3, (D.int .i64 (IntKind.wrap .i64 (t3 + (1 : Int)))))], [some (.box (D.ints .u64 12 m0))])) rfl (by kernel_rfl) trivial ?_
      rw [← Option.some.inj h] at hk
      refine runs_to (ts := [1, 3]) (T' := T27_L1) (env' := [(1, (D.ptr 0 [])), (3, (D.int .i64 (IntKind.wrap .i64 (t3 + (1 : Int)))))]) (h2 := [some (.box (D.ints .u64 12 m0))]) (by kernel_rfl) (by kernel_rfl) (And.intro (.inr rfl) trivial) (Nat.zero_le _) (And.intro trivial trivial) (And.intro (bel_of rfl) (And.intro trivial trivial)) ?_
      exact hk
  · replace h := ifs_false h hb
    rw [← Option.some.inj h] at hk
    refine runs_to (ts := []) (T' := X27_L1T) (env' := []) (h2 := []) (by kernel_rfl) (by kernel_rfl) trivial (Nat.zero_le _) trivial trivial ?_
    exact hk

theorem iter27_L1 (fu : Nat) (m0 : (Nat → Int)) {d : D} (k : Nat) (s : Int) {o : E27_L1 ⊕ Bool} (h : iter (fun s => F27_L1 fu m0 s) k s = some o) (hx : X27_L1 fu m0 d o) : N27_L1 fu m0 d s :=
  iter_post (K := N27_L1 fu m0 d) (X := X27_L1 fu m0 d) (fun s _ h hk => run27_L1 fu m0 s h hk) k s o h hx

/-- podesta/podestaref01.Head -/
def F27 (fu : Nat) (t0 : (Nat → Int)) : Option Bool :=
  after (iter (fun s => F27_L1 fu t0 s) fu (0 : Int)) fun _ =>
  some true

theorem run27 (fu : Nat) (t0 : (Nat → Int)) {d : D} {r : Bool} (h : F27 fu t0 = some r) (hk : K27 d r) : Runs Try.prog Try.f27 0 T27 [(0, (D.ints .u64 12 t0))] [] d [] := by
  unfold F27 at h
  refine runs_regions 2 [([], [1]), ([], [1, 3])] (z := ([], [(1, (D.ptr 0 [])), (3, (D.int .i64 (0 : Int)))], [some (.box (D.ints .u64 12 t0))])) rfl (by kernel_rfl) trivial ?_
  refine runs_to (ts := [1, 3]) (T' := T27_L1) (env' := [(1, (D.ptr 0 [])), (3, (D.int .i64 (0 : Int)))]) (h2 := [some (.box (D.ints .u64 12 t0))]) (by kernel_rfl) (by kernel_rfl) (And.intro (.inr rfl) trivial) (Nat.zero_le _) (And.intro trivial trivial) (And.intro (bel_of rfl) (And.intro trivial trivial)) ?_
  rcases after_some h with ⟨e3, hi, h⟩ | hi
  · refine iter27_L1 fu t0 fu (0 : Int) hi ?_
    show Runs Try.prog Try.f27 0 X27_L1T [] [] d []
    refine runs_regions 1 [([], [2])] (z := ([], [(2, (D.bool true))], [])) rfl (by kernel_rfl) trivial ?_
    rw [← Option.some.inj h] at hk
    obtain rfl : d = (D.bool true) := hk
    exact runs_ret (by kernel_rfl) trivial (Nat.le_refl 0) trivial trivial
  · exact iter27_L1 fu t0 fu (0 : Int) hi hk

theorem fc27 (fu : Nat) (t0 : (Nat → Int)) {r : Bool} (h : F27 fu t0 = some r) : FC Try.prog 27 [(D.ints .u64 12 t0)] [] (D.bool r) [] := by
  refine fc_of_runs (fn := Try.f27) (c := Try.f27.body.getD .skip) (by kernel_rfl) (by kernel_rfl) ?_
  refine runs_to (ts := [0]) (T' := T27) (env' := [(0, (D.ints .u64 12 t0))]) (h2 := []) (by kernel_rfl) (by kernel_rfl) trivial (Nat.le_refl 0) trivial (And.intro trivial trivial) ?_
  exact run27 fu t0 h rfl

def K7 (d : D) (r : Bool) : Prop := d = (D.bool r)

noncomputable def T7 : List Item := norm 200 [.code (Try.f7.body.getD .skip)]

/-- podesta/podestalaw01.HeadSets -/
def F7 (fu : Nat) (t0 : (Nat → Int)) (t1 : Int) (t2 : Int) : Option Bool :=
  (F20 t0 t1 t2).bind fun r0 =>
  (F25 t0 t1 t2).bind fun r1 =>
  (F17).bind fun r2 =>
  (callIf r2 (F26 fu t0) false).bind fun r3 =>
  (callIf r2 (F27 fu t0) false).bind fun r4 =>
  (callIf ((bif (bif (bif r2 then (r3 == r4) else false) then ((List.range 12).all fun i => r0.1 i == r1.1 i) else false) then (r0.2 == r1.2) else false) && (!(r0.2 != (0 : Int)))) (F27 fu t0) false).bind fun r5 =>
  (callIf ((bif (bif (bif r2 then (r3 == r4) else false) then ((List.range 12).all fun i => r0.1 i == r1.1 i) else false) then (r0.2 == r1.2) else false) && (!(bif (r0.2 != (0 : Int)) then true else (!r5)))) (F26 fu r0.1) false).bind fun r6 =>
  some (bif (bif (bif (bif r2 then (r3 == r4) else false) then ((List.range 12).all fun i => r0.1 i == r1.1 i) else false) then (r0.2 == r1.2) else false) then (bif (bif (r0.2 != (0 : Int)) then true else (!r5)) then true else r6) else false)

theorem run7 (fu : Nat) (t0 : (Nat → Int)) (t1 : Int) (t2 : Int) {d : D} {r : Bool} (h : F7 fu t0 t1 t2 = some r) (hk : K7 d r) : Runs Try.prog Try.f7 0 T7 [(0, (D.ints .u64 12 t0)), (1, (D.int .i64 t1)), (2, (D.int .u64 t2))] [] d [] := by
  unfold F7 at h
  obtain ⟨r0, cr0, h⟩ := Option.bind_eq_some_iff.1 h
  obtain ⟨r1, cr1, h⟩ := Option.bind_eq_some_iff.1 h
  obtain ⟨r2, cr2, h⟩ := Option.bind_eq_some_iff.1 h
  obtain ⟨r3, cr3, h⟩ := Option.bind_eq_some_iff.1 h
  obtain ⟨r4, cr4, h⟩ := Option.bind_eq_some_iff.1 h
  obtain ⟨r5, cr5, h⟩ := Option.bind_eq_some_iff.1 h
  obtain ⟨r6, cr6, h⟩ := Option.bind_eq_some_iff.1 h
  refine runs_regions 4 [([], [1, 2, 3]), ([(D.tup (D.cons (D.ints .u64 12 r0.1) (D.cons (D.int .i64 r0.2) D.nil)))], [1, 2, 3, 7, 8]), ([(D.tup (D.cons (D.ints .u64 12 r1.1) (D.cons (D.int .i64 r1.2) D.nil)))], [3, 7, 8, 9, 10]), ([(D.bool r2), (D.bool r3), (D.bool r4), (D.bool r5), (D.bool r6)], [6])] (z := ([FC Try.prog 20 [(D.ints .u64 12 t0), (D.int .i64 t1), (D.int .u64 t2)] [] (D.tup (D.cons (D.ints .u64 12 r0.1) (D.cons (D.int .i64 r0.2) D.nil))) [], All (List.map NoRow [(D.ints .u64 12 t0), (D.int .i64 t1), (D.int .u64 t2)]), FC Try.prog 25 [(D.ints .u64 12 t0), (D.int .i64 t1), (D.int .u64 t2)] [] (D.tup (D.cons (D.ints .u64 12 r1.1) (D.cons (D.int .i64 r1.2) D.nil))) [], All (List.map NoRow [(D.ints .u64 12 t0), (D.int .i64 t1), (D.int .u64 t2)]), FC Try.prog 17 [] [] (D.bool r2) [], All (List.map NoRow []), (r2 = true → All [(r2 = true → r2 = true), FC Try.prog 26 [(D.ints .u64 12 t0)] [] (D.bool r3) [], All (List.map NoRow [(D.ints .u64 12 t0)])]), (r2 = true → All [(r2 = true → r2 = true), FC Try.prog 27 [(D.ints .u64 12 t0)] [] (D.bool r4) [], All (List.map NoRow [(D.ints .u64 12 t0)])]), (r2 = true → All [(r2 = true → r2 = true), (r2 = true → r2 = true)]), ((true && r2) = true → r2 = true), ((bif r2 then (r3 == r4) else false) = true → All [((bif r2 then (r3 == r4) else false) = true → (bif r2 then (r3 == r4) else false) = true), ((bif r2 then (r3 == r4) else false) = true → (bif r2 then (r3 == r4) else false) = true)]), ((true && (bif r2 then (r3 == r4) else false)) = true → (bif r2 then (r3 == r4) else false) = true), ((bif (bif r2 then (r3 == r4) else false) then ((List.range 12).all fun i => r0.1 i == r1.1 i) else false) = true → All [((bif (bif r2 then (r3 == r4) else false) then ((List.range 12).all fun i => r0.1 i == r1.1 i) else false) = true → (bif (bif r2 then (r3 == r4) else false) then ((List.range 12).all fun i => r0.1 i == r1.1 i) else false) = true), ((bif (bif r2 then (r3 == r4) else false) then ((List.range 12).all fun i => r0.1 i == r1.1 i) else false) = true → (bif (bif r2 then (r3 == r4) else false) then ((List.range 12).all fun i => r0.1 i == r1.1 i) else false) = true)]), ((true && (bif (bif r2 then (r3 == r4) else false) then ((List.range 12).all fun i => r0.1 i == r1.1 i) else false)) = true → (bif (bif r2 then (r3 == r4) else false) then ((List.range 12).all fun i => r0.1 i == r1.1 i) else false) = true), ((bif (bif (bif r2 then (r3 == r4) else false) then ((List.range 12).all fun i => r0.1 i == r1.1 i) else false) then (r0.2 == r1.2) else false) = true → All [((bif (bif (bif r2 then (r3 == r4) else false) then ((List.range 12).all fun i => r0.1 i == r1.1 i) else false) then (r0.2 == r1.2) else false) = true → (bif (bif (bif r2 then (r3 == r4) else false) then ((List.range 12).all fun i => r0.1 i == r1.1 i) else false) then (r0.2 == r1.2) else false) = true)]), ((bif (bif (bif r2 then (r3 == r4) else false) then ((List.range 12).all fun i => r0.1 i == r1.1 i) else false) then (r0.2 == r1.2) else false) = true → All [((bif (bif (bif r2 then (r3 == r4) else false) then ((List.range 12).all fun i => r0.1 i == r1.1 i) else false) then (r0.2 == r1.2) else false) = true → (bif (bif (bif r2 then (r3 == r4) else false) then ((List.range 12).all fun i => r0.1 i == r1.1 i) else false) then (r0.2 == r1.2) else false) = true)]), (((bif (bif (bif r2 then (r3 == r4) else false) then ((List.range 12).all fun i => r0.1 i == r1.1 i) else false) then (r0.2 == r1.2) else false) && (!(r0.2 != (0 : Int)))) = true → All [(((bif (bif (bif r2 then (r3 == r4) else false) then ((List.range 12).all fun i => r0.1 i == r1.1 i) else false) then (r0.2 == r1.2) else false) && (!(r0.2 != (0 : Int)))) = true → ((bif (bif (bif r2 then (r3 == r4) else false) then ((List.range 12).all fun i => r0.1 i == r1.1 i) else false) then (r0.2 == r1.2) else false) && (!(r0.2 != (0 : Int)))) = true), FC Try.prog 27 [(D.ints .u64 12 t0)] [] (D.bool r5) [], All (List.map NoRow [(D.ints .u64 12 t0)])]), (((bif (bif (bif r2 then (r3 == r4) else false) then ((List.range 12).all fun i => r0.1 i == r1.1 i) else false) then (r0.2 == r1.2) else false) && (!(r0.2 != (0 : Int)))) = true → All [(((bif (bif (bif r2 then (r3 == r4) else false) then ((List.range 12).all fun i => r0.1 i == r1.1 i) else false) then (r0.2 == r1.2) else false) && (!(r0.2 != (0 : Int)))) = true → ((bif (bif (bif r2 then (r3 == r4) else false) then ((List.range 12).all fun i => r0.1 i == r1.1 i) else false) then (r0.2 == r1.2) else false) && (!(r0.2 != (0 : Int)))) = true)]), ((bif (bif (bif r2 then (r3 == r4) else false) then ((List.range 12).all fun i => r0.1 i == r1.1 i) else false) then (r0.2 == r1.2) else false) = true → All [((bif (bif (bif r2 then (r3 == r4) else false) then ((List.range 12).all fun i => r0.1 i == r1.1 i) else false) then (r0.2 == r1.2) else false) = true → (bif (bif (bif r2 then (r3 == r4) else false) then ((List.range 12).all fun i => r0.1 i == r1.1 i) else false) then (r0.2 == r1.2) else false) = true), (((bif (bif (bif r2 then (r3 == r4) else false) then ((List.range 12).all fun i => r0.1 i == r1.1 i) else false) then (r0.2 == r1.2) else false) && !(r0.2 != (0 : Int))) = true → ((bif (bif (bif r2 then (r3 == r4) else false) then ((List.range 12).all fun i => r0.1 i == r1.1 i) else false) then (r0.2 == r1.2) else false) && (!(r0.2 != (0 : Int)))) = true)]), ((bif (bif (bif r2 then (r3 == r4) else false) then ((List.range 12).all fun i => r0.1 i == r1.1 i) else false) then (r0.2 == r1.2) else false) = true → All [((bif (bif (bif r2 then (r3 == r4) else false) then ((List.range 12).all fun i => r0.1 i == r1.1 i) else false) then (r0.2 == r1.2) else false) = true → (bif (bif (bif r2 then (r3 == r4) else false) then ((List.range 12).all fun i => r0.1 i == r1.1 i) else false) then (r0.2 == r1.2) else false) = true)]), (((bif (bif (bif r2 then (r3 == r4) else false) then ((List.range 12).all fun i => r0.1 i == r1.1 i) else false) then (r0.2 == r1.2) else false) && (!(bif (r0.2 != (0 : Int)) then true else (!r5)))) = true → All [(((bif (bif (bif r2 then (r3 == r4) else false) then ((List.range 12).all fun i => r0.1 i == r1.1 i) else false) then (r0.2 == r1.2) else false) && (!(bif (r0.2 != (0 : Int)) then true else (!r5)))) = true → ((bif (bif (bif r2 then (r3 == r4) else false) then ((List.range 12).all fun i => r0.1 i == r1.1 i) else false) then (r0.2 == r1.2) else false) && (!(bif (r0.2 != (0 : Int)) then true else (!r5)))) = true), FC Try.prog 26 [(D.ints .u64 12 r0.1)] [] (D.bool r6) [], All (List.map NoRow [(D.ints .u64 12 r0.1)])]), ((bif (bif (bif r2 then (r3 == r4) else false) then ((List.range 12).all fun i => r0.1 i == r1.1 i) else false) then (r0.2 == r1.2) else false) = true → All [((bif (bif (bif r2 then (r3 == r4) else false) then ((List.range 12).all fun i => r0.1 i == r1.1 i) else false) then (r0.2 == r1.2) else false) = true → (bif (bif (bif r2 then (r3 == r4) else false) then ((List.range 12).all fun i => r0.1 i == r1.1 i) else false) then (r0.2 == r1.2) else false) = true), (((bif (bif (bif r2 then (r3 == r4) else false) then ((List.range 12).all fun i => r0.1 i == r1.1 i) else false) then (r0.2 == r1.2) else false) && !(bif (r0.2 != (0 : Int)) then true else (!r5))) = true → ((bif (bif (bif r2 then (r3 == r4) else false) then ((List.range 12).all fun i => r0.1 i == r1.1 i) else false) then (r0.2 == r1.2) else false) && (!(bif (r0.2 != (0 : Int)) then true else (!r5)))) = true)]), ((true && (bif (bif (bif r2 then (r3 == r4) else false) then ((List.range 12).all fun i => r0.1 i == r1.1 i) else false) then (r0.2 == r1.2) else false)) = true → (bif (bif (bif r2 then (r3 == r4) else false) then ((List.range 12).all fun i => r0.1 i == r1.1 i) else false) then (r0.2 == r1.2) else false) = true)], [(6, (D.bool (bif (bif (bif (bif r2 then (r3 == r4) else false) then ((List.range 12).all fun i => r0.1 i == r1.1 i) else false) then (r0.2 == r1.2) else false) then (bif (bif (r0.2 != (0 : Int)) then true else (!r5)) then true else r6) else false)))], [some (.box (D.ints .u64 12 t0)), some (.box (D.ints .u64 12 r0.1)), some (.box (D.ints .u64 12 r1.1))])) rfl (by kernel_rfl) (And.intro (fc20 t0 t1 t2 cr0) (And.intro (And.intro trivial (And.intro trivial (And.intro trivial trivial))) (And.intro (fc25 t0 t1 t2 cr1) (And.intro (And.intro trivial (And.intro trivial (And.intro trivial trivial))) (And.intro (fc17 cr2) (And.intro trivial (And.intro (fun hg => (And.intro (by first | exact fun h => h | exact fun h => (Bool.and_eq_true_iff.1 h).1 | simp_all) (And.intro (fc26 fu t0 (callIf_some cr3 hg)) (And.intro (And.intro trivial trivial) trivial)))) (And.intro (fun hg => (And.intro (by first | exact fun h => h | exact fun h => (Bool.and_eq_true_iff.1 h).1 | simp_all) (And.intro (fc27 fu t0 (callIf_some cr4 hg)) (And.intro (And.intro trivial trivial) trivial)))) (And.intro (fun _ => (And.intro (by first | exact fun h => h | exact fun h => (Bool.and_eq_true_iff.1 h).1 | simp_all) (And.intro (by first | exact fun h => h | exact fun h => (Bool.and_eq_true_iff.1 h).1 | simp_all) trivial))) (And.intro (by first | exact fun h => h | exact fun h => (Bool.and_eq_true_iff.1 h).1 | simp_all) (And.intro (fun _ => (And.intro (by first | exact fun h => h | exact fun h => (Bool.and_eq_true_iff.1 h).1 | simp_all) (And.intro (by first | exact fun h => h | exact fun h => (Bool.and_eq_true_iff.1 h).1 | simp_all) trivial))) (And.intro (by first | exact fun h => h | exact fun h => (Bool.and_eq_true_iff.1 h).1 | simp_all) (And.intro (fun _ => (And.intro (by first | exact fun h => h | exact fun h => (Bool.and_eq_true_iff.1 h).1 | simp_all) (And.intro (by first | exact fun h => h | exact fun h => (Bool.and_eq_true_iff.1 h).1 | simp_all) trivial))) (And.intro (by first | exact fun h => h | exact fun h => (Bool.and_eq_true_iff.1 h).1 | simp_all) (And.intro (fun _ => (And.intro (by first | exact fun h => h | exact fun h => (Bool.and_eq_true_iff.1 h).1 | simp_all) trivial)) (And.intro (fun _ => (And.intro (by first | exact fun h => h | exact fun h => (Bool.and_eq_true_iff.1 h).1 | simp_all) trivial)) (And.intro (fun hg => (And.intro (by first | exact fun h => h | exact fun h => (Bool.and_eq_true_iff.1 h).1 | simp_all) (And.intro (fc27 fu t0 (callIf_some cr5 hg)) (And.intro (And.intro trivial trivial) trivial)))) (And.intro (fun _ => (And.intro (by first | exact fun h => h | exact fun h => (Bool.and_eq_true_iff.1 h).1 | simp_all) trivial)) (And.intro (fun _ => (And.intro (by first | exact fun h => h | exact fun h => (Bool.and_eq_true_iff.1 h).1 | simp_all) (And.intro (by first | exact fun h => h | exact fun h => (Bool.and_eq_true_iff.1 h).1 | simp_all) trivial))) (And.intro (fun _ => (And.intro (by first | exact fun h => h | exact fun h => (Bool.and_eq_true_iff.1 h).1 | simp_all) trivial)) (And.intro (fun hg => (And.intro (by first | exact fun h => h | exact fun h => (Bool.and_eq_true_iff.1 h).1 | simp_all) (And.intro (fc26 fu r0.1 (callIf_some cr6 hg)) (And.intro (And.intro trivial trivial) trivial)))) (And.intro (fun _ => (And.intro (by first | exact fun h => h | exact fun h => (Bool.and_eq_true_iff.1 h).1 | simp_all) (And.intro (by first | exact fun h => h | exact fun h => (Bool.and_eq_true_iff.1 h).1 | simp_all) trivial))) (And.intro (by first | exact fun h => h | exact fun h => (Bool.and_eq_true_iff.1 h).1 | simp_all) trivial))))))))))))))))))))))) ?_
  rw [← Option.some.inj h] at hk
  obtain rfl : d = (D.bool (bif (bif (bif (bif r2 then (r3 == r4) else false) then ((List.range 12).all fun i => r0.1 i == r1.1 i) else false) then (r0.2 == r1.2) else false) then (bif (bif (r0.2 != (0 : Int)) then true else (!r5)) then true else r6) else false)) := hk
  exact runs_ret (by kernel_rfl) trivial (Nat.le_refl 0) trivial trivial

theorem fc7 (fu : Nat) (t0 : (Nat → Int)) (t1 : Int) (t2 : Int) {r : Bool} (h : F7 fu t0 t1 t2 = some r) : FC Try.prog 7 [(D.ints .u64 12 t0), (D.int .i64 t1), (D.int .u64 t2)] [] (D.bool r) [] := by
  refine fc_of_runs (fn := Try.f7) (c := Try.f7.body.getD .skip) (by kernel_rfl) (by kernel_rfl) ?_
  refine runs_to (ts := [0, 1, 2]) (T' := T7) (env' := [(0, (D.ints .u64 12 t0)), (1, (D.int .i64 t1)), (2, (D.int .u64 t2))]) (h2 := []) (by kernel_rfl) (by kernel_rfl) trivial (Nat.le_refl 0) trivial (And.intro trivial (And.intro trivial (And.intro trivial trivial))) ?_
  exact run7 fu t0 t1 t2 h rfl

def K62 (d : D) (r : Bool) : Prop := d = (D.bool r)

noncomputable def T62 : List Item := norm 200 [.code (Try.f62.body.getD .skip)]

/-- cmp.isNaN[uint64] -/
def F62 (t0 : Int) : Option Bool :=
  some (t0 != t0)

theorem run62 (t0 : Int) {d : D} {r : Bool} (h : F62 t0 = some r) (hk : K62 d r) : Runs Try.prog Try.f62 0 T62 [(0, (D.int .u64 t0))] [] d [] := by
  unfold F62 at h
  refine runs_regions 2 [([], [0]), ([], [2])] (z := ([], [(2, (D.bool (t0 != t0)))], [])) rfl (by kernel_rfl) trivial ?_
  rw [← Option.some.inj h] at hk
  obtain rfl : d = (D.bool (t0 != t0)) := hk
  exact runs_ret (by kernel_rfl) trivial (Nat.le_refl 0) trivial trivial

theorem fc62 (t0 : Int) {r : Bool} (h : F62 t0 = some r) : FC Try.prog 62 [(D.int .u64 t0)] [] (D.bool r) [] := by
  refine fc_of_runs (fn := Try.f62) (c := Try.f62.body.getD .skip) (by kernel_rfl) (by kernel_rfl) ?_
  refine runs_to (ts := [0]) (T' := T62) (env' := [(0, (D.int .u64 t0))]) (h2 := []) (by kernel_rfl) (by kernel_rfl) trivial (Nat.le_refl 0) trivial (And.intro trivial trivial) ?_
  exact run62 t0 h rfl

def K57 (d : D) (r : Int) : Prop := d = (D.int .i64 r)

noncomputable def T57 : List Item := norm 200 [.code (Try.f57.body.getD .skip)]

/-- cmp.Compare[uint64] -/
def F57 (t0 : Int) (t1 : Int) : Option Int :=
  (F62 t0).bind fun r0 =>
  (F62 t1).bind fun r1 =>
  ifs r0 (
    ifs r1 (
      some (0 : Int)) (
      some (-1 : Int))) (
    ifs r1 (
      some (1 : Int)) (
      ifs (decide (t0 < t1)) (
        some (-1 : Int)) (
        ifs (decide (t0 > t1)) (
          some (1 : Int)) (
          some (0 : Int)))))

theorem run57 (t0 : Int) (t1 : Int) {d : D} {r : Int} (h : F57 t0 t1 = some r) (hk : K57 d r) : Runs Try.prog Try.f57 0 T57 [(0, (D.int .u64 t0)), (1, (D.int .u64 t1))] [] d [] := by
  unfold F57 at h
  obtain ⟨r0, cr0, h⟩ := Option.bind_eq_some_iff.1 h
  obtain ⟨r1, cr1, h⟩ := Option.bind_eq_some_iff.1 h
  refine runs_regions 4 [([], [0, 1]), ([(D.bool r0)], [0, 1, 5]), ([(D.bool r1)], [0, 1, 5, 6]), ([], [0, 1, 6, 11])] (z := ([FC Try.prog 62 [(D.int .u64 t0)] [] (D.bool r0) [], All (List.map NoRow [(D.int .u64 t0)]), FC Try.prog 62 [(D.int .u64 t1)] [] (D.bool r1) [], All (List.map NoRow [(D.int .u64 t1)])], [(0, (D.int .u64 t0)), (1, (D.int .u64 t1)), (6, (D.bool r1)), (11, (D.bool r0))], [])) rfl (by kernel_rfl) (And.intro (fc62 t0 cr0) (And.intro (And.intro trivial trivial) (And.intro (fc62 t1 cr1) (And.intro (And.intro trivial trivial) trivial)))) ?_
  refine runs_if (b := r0) (by kernel_rfl) (fun hb => ?_) (fun hb => ?_)
  · replace h := ifs_true h hb
    refine runs_regions 1 [([], [12])] (z := ([], [(12, (D.bool r1))], [])) rfl (by kernel_rfl) trivial ?_
    refine runs_if (b := r1) (by kernel_rfl) (fun hb => ?_) (fun hb => ?_)
    · replace h := ifs_true h hb
      refine runs_regions 1 [([], [4])] (z := ([], [(4, (D.int .i64 (0 : Int)))], [])) rfl (by kernel_rfl) trivial ?_
      rw [← Option.some.inj h] at hk
      obtain rfl : d = (D.int .i64 (0 : Int)) := hk
      exact runs_ret (by kernel_rfl) trivial (Nat.le_refl 0) trivial trivial
    · replace h := ifs_false h hb
      refine runs_regions 1 [([], [4])] (z := ([], [(4, (D.int .i64 (-1 : Int)))], [])) rfl (by kernel_rfl) trivial ?_
      rw [← Option.some.inj h] at hk
      obtain rfl : d = (D.int .i64 (-1 : Int)) := hk
      exact runs_ret (by kernel_rfl) trivial (Nat.le_refl 0) trivial trivial
  · replace h := ifs_false h hb
    refine runs_regions 1 [([], [0, 1, 13])] (z := ([], [(0, (D.int .u64 t0)), (1, (D.int .u64 t1)), (13, (D.bool r1))], [])) rfl (by kernel_rfl) trivial ?_
    refine runs_if (b := r1) (by kernel_rfl) (fun hb => ?_) (fun hb => ?_)
    · replace h := ifs_true h hb
      refine runs_regions 1 [([], [4])] (z := ([], [(4, (D.int .i64 (1 : Int)))], [])) rfl (by kernel_rfl) trivial ?_
      rw [← Option.some.inj h] at hk
      obtain rfl : d = (D.int .i64 (1 : Int)) := hk
      exact runs_ret (by kernel_rfl) trivial (Nat.le_refl 0) trivial trivial
    · replace h := ifs_false h hb
      refine runs_regions 1 [([], [0, 1, 16])] (z := ([], [(0, (D.int .u64 t0)), (1, (D.int .u64 t1)), (16, (D.bool (decide (t0 < t1))))], [])) rfl (by kernel_rfl) trivial ?_
      refine runs_if (b := (decide (t0 < t1))) (by kernel_rfl) (fun hb => ?_) (fun hb => ?_)
      · replace h := ifs_true h hb
        refine runs_regions 1 [([], [4])] (z := ([], [(4, (D.int .i64 (-1 : Int)))], [])) rfl (by kernel_rfl) trivial ?_
        rw [← Option.some.inj h] at hk
        obtain rfl : d = (D.int .i64 (-1 : Int)) := hk
        exact runs_ret (by kernel_rfl) trivial (Nat.le_refl 0) trivial trivial
      · replace h := ifs_false h hb
        refine runs_regions 1 [([], [19])] (z := ([], [(19, (D.bool (decide (t0 > t1))))], [])) rfl (by kernel_rfl) trivial ?_
        refine runs_if (b := (decide (t0 > t1))) (by kernel_rfl) (fun hb => ?_) (fun hb => ?_)
        · replace h := ifs_true h hb
          refine runs_regions 1 [([], [4])] (z := ([], [(4, (D.int .i64 (1 : Int)))], [])) rfl (by kernel_rfl) trivial ?_
          rw [← Option.some.inj h] at hk
          obtain rfl : d = (D.int .i64 (1 : Int)) := hk
          exact runs_ret (by kernel_rfl) trivial (Nat.le_refl 0) trivial trivial
        · replace h := ifs_false h hb
          refine runs_regions 1 [([], [4])] (z := ([], [(4, (D.int .i64 (0 : Int)))], [])) rfl (by kernel_rfl) trivial ?_
          rw [← Option.some.inj h] at hk
          obtain rfl : d = (D.int .i64 (0 : Int)) := hk
          exact runs_ret (by kernel_rfl) trivial (Nat.le_refl 0) trivial trivial

theorem fc57 (t0 : Int) (t1 : Int) {r : Int} (h : F57 t0 t1 = some r) : FC Try.prog 57 [(D.int .u64 t0), (D.int .u64 t1)] [] (D.int .i64 r) [] := by
  refine fc_of_runs (fn := Try.f57) (c := Try.f57.body.getD .skip) (by kernel_rfl) (by kernel_rfl) ?_
  refine runs_to (ts := [0, 1]) (T' := T57) (env' := [(0, (D.int .u64 t0)), (1, (D.int .u64 t1))]) (h2 := []) (by kernel_rfl) (by kernel_rfl) trivial (Nat.le_refl 0) trivial (And.intro trivial (And.intro trivial trivial)) ?_
  exact run57 t0 t1 h rfl

def K56_57 (d : D) (r : Int) : Prop := d = (D.int .i64 r)

noncomputable def T56_57 : List Item := norm 200 [.code (Try.f56.body.getD .skip)]

noncomputable def T56_57_L1 : List Item := norm 200 (nxt (nxt T56_57))

noncomputable def X56_57_L1T : List Item := norm 200 (cndF (nxt (nxt (nxt T56_57))))

abbrev E56_57_L1 := Unit

def N56_57_L1 (_fu : Nat) (t0 : (Nat × (Nat → Int))) (t1 : (Nat × (Nat → Int))) (t11 : (Nat × (Nat → Int))) (t12 : Int) (d : D) (s : Int) : Prop := Runs Try.prog Try.f56 0 T56_57_L1 [(0, (D.lit t0.1 1 fun i => (D.int .u64 (t0.2 i)))), (1, (D.lit t1.1 1 fun i => (D.int .u64 (t1.2 i)))), (2, (D.fn 57 D.nil)), (11, (D.lit t11.1 1 fun i => (D.int .u64 (t11.2 i)))), (12, (D.int .i64 t12)), (13, (D.int .i64 s))] [] d []

def X56_57_L1 (_fu : Nat) (t0 : (Nat × (Nat → Int))) (t1 : (Nat × (Nat → Int))) (_t11 : (Nat × (Nat → Int))) (_t12 : Int) (d : D) : E56_57_L1 ⊕ Int → Prop
  | .inl _ => Runs Try.prog Try.f56 0 X56_57_L1T [(0, (D.lit t0.1 1 fun i => (D.int .u64 (t0.2 i)))), (1, (D.lit t1.1 1 fun i => (D.int .u64 (t1.2 i))))] [] d []
  | .inr o => (K56_57 d) o

def F56_57_L1 (_fu : Nat) (_t0 : (Nat × (Nat → Int))) (t1 : (Nat × (Nat → Int))) (t11 : (Nat × (Nat → Int))) (t12 : Int) (t13 : Int) : Option (Lo Int E56_57_L1 Int) :=
  ifs (decide (t13 < t12)) (
    chk (0 ≤ t13 ∧ t13 < ((t11.1 : Nat) : Int)) <|
    ifs (decide (t13 ≥ ((t1.1 : Nat) : Int))) (
      some (.ret (1 : Int))) (
      chk (0 ≤ t13 ∧ t13 < ((t1.1 : Nat) : Int)) <|
      (F57 (t11.2 t13.toNat) (t1.2 t13.toNat)).bind fun r0 =>
      ifs (r0 != (0 : Int)) (
        some (.ret r0)) (
        some (.next (IntKind.wrap .i64 (t13 + (1 : Int))))))) (
    some (.exit ()))

theorem run56_57_L1 (fu : Nat) (t0 : (Nat × (Nat → Int))) (t1 : (Nat × (Nat → Int))) (t11 : (Nat × (Nat → Int))) (t12 : Int) (t13 : Int) {d : D} {o : (Lo Int E56_57_L1 Int)} (h : F56_57_L1 fu t0 t1 t11 t12 t13 = some o) (hk : (Lo.post (N56_57_L1 fu t0 t1 t11 t12 d) (X56_57_L1 fu t0 t1 t11 t12 d)) o) : Runs Try.prog Try.f56 0 T56_57_L1 [(0, (D.lit t0.1 1 fun i => (D.int .u64 (t0.2 i)))), (1, (D.lit t1.1 1 fun i => (D.int .u64 (t1.2 i)))), (2, (D.fn 57 D.nil)), (11, (D.lit t11.1 1 fun i => (D.int .u64 (t11.2 i)))), (12, (D.int .i64 t12)), (13, (D.int .i64 t13))] [] d [] := by
  unfold F56_57_L1 at h
  refine runs_regions 1 [([], [0, 1, 2, 11, 12, 13, 14])] (z := ([], [(0, (D.lit t0.1 1 fun i => (D.int .u64 (t0.2 i)))), (1, (D.lit t1.1 1 fun i => (D.int .u64 (t1.2 i)))), (2, (D.fn 57 D.nil)), (11, (D.lit t11.1 1 fun i => (D.int .u64 (t11.2 i)))), (12, (D.int .i64 t12)), (13, (D.int .i64 t13)), (14, (D.bool (decide (t13 < t12))))], [])) rfl (by kernel_rfl) trivial ?_
  refine runs_if (b := (decide (t13 < t12))) (by kernel_rfl) (fun hb => ?_) (fun hb => ?_)
  · replace h := ifs_true h hb
    obtain ⟨p0, h⟩ := chk_some h
    refine runs_regions 2 [([], [0, 1, 2, 7, 8, 11, 12, 13]), ([], [0, 1, 2, 7, 8, 11, 12, 13, 21])] (z := ([(0 ≤ t13 ∧ t13 < ((t11.1 : Nat) : Int))], [(0, (D.lit t0.1 1 fun i => (D.int .u64 (t0.2 i)))), (1, (D.lit t1.1 1 fun i => (D.int .u64 (t1.2 i)))), (2, (D.fn 57 D.nil)), (7, (D.int .i64 t13)), (8, (D.int .u64 (t11.2 t13.toNat))), (11, (D.lit t11.1 1 fun i => (D.int .u64 (t11.2 i)))), (12, (D.int .i64 t12)), (13, (D.int .i64 t13)), (21, (D.bool (decide (t13 ≥ ((t1.1 : Nat) : Int)))))], [])) rfl (by kernel_rfl) (And.intro p0 trivial) ?_
    refine runs_if (b := (decide (t13 ≥ ((t1.1 : Nat) : Int)))) (by kernel_rfl) (fun hb => ?_) (fun hb => ?_)
    · replace h := ifs_true h hb
      refine runs_regions 1 [([], [6])] (z := ([], [(6, (D.int .i64 (1 : Int)))], [])) rfl (by kernel_rfl) trivial ?_
      rw [← Option.some.inj h] at hk
      obtain rfl : d = (D.int .i64 (1 : Int)) := hk
      exact runs_ret (by kernel_rfl) trivial (Nat.le_refl 0) trivial trivial
    · replace h := ifs_false h hb
      obtain ⟨p1, h⟩ := chk_some h
      obtain ⟨r0, cr0, h⟩ := Option.bind_eq_some_iff.1 h
      refine runs_regions 3 [([], [0, 1, 2, 8, 9, 11, 12, 13]), ([(D.int .i64 r0)], [0, 1, 2, 10, 11, 12, 13]), ([], [0, 1, 2, 10, 11, 12, 13, 31])] (z := ([(0 ≤ t13 ∧ t13 < ((t1.1 : Nat) : Int)), FC Try.prog 57 [(D.int .u64 (t11.2 t13.toNat)), (D.int .u64 (t1.2 t13.toNat))] [] (D.int .i64 r0) [], All (List.map NoRow [(D.int .u64 (t11.2 t13.toNat)), (D.int .u64 (t1.2 t13.toNat))])], [(0, (D.lit t0.1 1 fun i => (D.int .u64 (t0.2 i)))), (1, (D.lit t1.1 1 fun i => (D.int .u64 (t1.2 i)))), (2, (D.fn 57 D.nil)), (10, (D.int .i64 r0)), (11, (D.lit t11.1 1 fun i => (D.int .u64 (t11.2 i)))), (12, (D.int .i64 t12)), (13, (D.int .i64 t13)), (31, (D.bool (r0 != (0 : Int))))], [])) rfl (by kernel_rfl) (And.intro p1 (And.intro (fc57 (t11.2 t13.toNat) (t1.2 t13.toNat) cr0) (And.intro (And.intro trivial (And.intro trivial trivial)) trivial))) ?_
      refine runs_if (b := (r0 != (0 : Int))) (by kernel_rfl) (fun hb => ?_) (fun hb => ?_)
      · replace h := ifs_true h hb
        refine runs_regions 1 [([], [6])] (z := ([], [(6, (D.int .i64 r0))], [])) rfl (by kernel_rfl) trivial ?_
        rw [← Option.some.inj h] at hk
        obtain rfl : d = (D.int .i64 r0) := hk
        exact runs_ret (by kernel_rfl) trivial (Nat.le_refl 0) trivial trivial
      · replace h := ifs_false h hb
        refine runs_regions 1 [([], [0, 1, 2, 11, 12, 13])] (z := ([], [(0, (D.lit t0.1 1 fun i => (D.int .u64 (t0.2 i)))), (1, (D.lit t1.1 1 fun i => (D.int .u64 (t1.2 i)))), (2, (D.fn 57 D.nil)), (11, (D.lit t11.1 1 fun i => (D.int .u64 (t11.2 i)))), (12, (D.int .i64 t12)), (13, (D.int .i64 (IntKind.wrap .i64 (t13 + (1 : Int)))))], [])) rfl (by kernel_rfl) trivial ?_
        rw [← Option.some.inj h] at hk
        refine runs_to (ts := [0, 1, 2, 11, 12, 13]) (T' := T56_57_L1) (env' := [(0, (D.lit t0.1 1 fun i => (D.int .u64 (t0.2 i)))), (1, (D.lit t1.1 1 fun i => (D.int .u64 (t1.2 i)))), (2, (D.fn 57 D.nil)), (11, (D.lit t11.1 1 fun i => (D.int .u64 (t11.2 i)))), (12, (D.int .i64 t12)), (13, (D.int .i64 (IntKind.wrap .i64 (t13 + (1 : Int)))))]) (h2 := []) (by kernel_rfl) (by kernel_rfl) trivial (Nat.zero_le _) trivial (And.intro (fun _ _ => trivial) (And.intro (fun _ _ => trivial) (And.intro trivial (And.intro (fun _ _ => trivial) (And.intro trivial (And.intro trivial trivial)))))) ?_
        exact hk
  · replace h := ifs_false h hb
    rw [← Option.some.inj h] at hk
    refine runs_to (ts := [0, 1]) (T' := X56_57_L1T) (env' := [(0, (D.lit t0.1 1 fun i => (D.int .u64 (t0.2 i)))), (1, (D.lit t1.1 1 fun i => (D.int .u64 (t1.2 i))))]) (h2 := []) (by kernel_rfl) (by kernel_rfl) trivial (Nat.zero_le _) trivial (And.intro (fun _ _ => trivial) (And.intro (fun _ _ => trivial) trivial)) ?_
    exact hk

theorem iter56_57_L1 (fu : Nat) (t0 : (Nat × (Nat → Int))) (t1 : (Nat × (Nat → Int))) (t11 : (Nat × (Nat → Int))) (t12 : Int) {d : D} (k : Nat) (s : Int) {o : E56_57_L1 ⊕ Int} (h : iter (fun s => F56_57_L1 fu t0 t1 t11 t12 s) k s = some o) (hx : X56_57_L1 fu t0 t1 t11 t12 d o) : N56_57_L1 fu t0 t1 t11 t12 d s :=
  iter_post (K := N56_57_L1 fu t0 t1 t11 t12 d) (X := X56_57_L1 fu t0 t1 t11 t12 d) (fun s _ h hk => run56_57_L1 fu t0 t1 t11 t12 s h hk) k s o h hx

/-- slices.CompareFunc[[]uint64,[]uint64,uint64,uint64] -/
def F56_57 (fu : Nat) (t0 : (Nat × (Nat → Int))) (t1 : (Nat × (Nat → Int))) : Option Int :=
  after (iter (fun s => F56_57_L1 fu t0 t1 t0 ((t0.1 : Nat) : Int) s) fu (0 : Int)) fun _ =>
  ifs (decide (((t0.1 : Nat) : Int) < ((t1.1 : Nat) : Int))) (
    some (-1 : Int)) (
    some (0 : Int))

theorem run56_57 (fu : Nat) (t0 : (Nat × (Nat → Int))) (t1 : (Nat × (Nat → Int))) {d : D} {r : Int} (h : F56_57 fu t0 t1 = some r) (hk : K56_57 d r) : Runs Try.prog Try.f56 0 T56_57 [(0, (D.lit t0.1 1 fun i => (D.int .u64 (t0.2 i)))), (1, (D.lit t1.1 1 fun i => (D.int .u64 (t1.2 i)))), (2, (D.fn 57 D.nil))] [] d [] := by
  unfold F56_57 at h
  refine runs_regions 2 [([], [0, 1, 2]), ([], [0, 1, 2, 11, 12, 13])] (z := ([], [(0, (D.lit t0.1 1 fun i => (D.int .u64 (t0.2 i)))), (1, (D.lit t1.1 1 fun i => (D.int .u64 (t1.2 i)))), (2, (D.fn 57 D.nil)), (11, (D.lit t0.1 1 fun i => (D.int .u64 (t0.2 i)))), (12, (D.int .i64 ((t0.1 : Nat) : Int))), (13, (D.int .i64 (0 : Int)))], [])) rfl (by kernel_rfl) trivial ?_
  refine runs_to (ts := [0, 1, 2, 11, 12, 13]) (T' := T56_57_L1) (env' := [(0, (D.lit t0.1 1 fun i => (D.int .u64 (t0.2 i)))), (1, (D.lit t1.1 1 fun i => (D.int .u64 (t1.2 i)))), (2, (D.fn 57 D.nil)), (11, (D.lit t0.1 1 fun i => (D.int .u64 (t0.2 i)))), (12, (D.int .i64 ((t0.1 : Nat) : Int))), (13, (D.int .i64 (0 : Int)))]) (h2 := []) (by kernel_rfl) (by kernel_rfl) trivial (Nat.zero_le _) trivial (And.intro (fun _ _ => trivial) (And.intro (fun _ _ => trivial) (And.intro trivial (And.intro (fun _ _ => trivial) (And.intro trivial (And.intro trivial trivial)))))) ?_
  rcases after_some h with ⟨e3, hi, h⟩ | hi
  · refine iter56_57_L1 fu t0 t1 t0 ((t0.1 : Nat) : Int) fu (0 : Int) hi ?_
    show Runs Try.prog Try.f56 0 X56_57_L1T [(0, (D.lit t0.1 1 fun i => (D.int .u64 (t0.2 i)))), (1, (D.lit t1.1 1 fun i => (D.int .u64 (t1.2 i))))] [] d []
    refine runs_regions 1 [([], [38])] (z := ([], [(38, (D.bool (decide (((t0.1 : Nat) : Int) < ((t1.1 : Nat) : Int)))))], [])) rfl (by kernel_rfl) trivial ?_
    refine runs_if (b := (decide (((t0.1 : Nat) : Int) < ((t1.1 : Nat) : Int)))) (by kernel_rfl) (fun hb => ?_) (fun hb => ?_)
    · replace h := ifs_true h hb
      refine runs_regions 1 [([], [6])] (z := ([], [(6, (D.int .i64 (-1 : Int)))], [])) rfl (by kernel_rfl) trivial ?_
      rw [← Option.some.inj h] at hk
      obtain rfl : d = (D.int .i64 (-1 : Int)) := hk
      exact runs_ret (by kernel_rfl) trivial (Nat.le_refl 0) trivial trivial
    · replace h := ifs_false h hb
      refine runs_regions 1 [([], [6])] (z := ([], [(6, (D.int .i64 (0 : Int)))], [])) rfl (by kernel_rfl) trivial ?_
      rw [← Option.some.inj h] at hk
      obtain rfl : d = (D.int .i64 (0 : Int)) := hk
      exact runs_ret (by kernel_rfl) trivial (Nat.le_refl 0) trivial trivial
  · exact iter56_57_L1 fu t0 t1 t0 ((t0.1 : Nat) : Int) fu (0 : Int) hi hk

theorem fc56_57 (fu : Nat) (t0 : (Nat × (Nat → Int))) (t1 : (Nat × (Nat → Int))) {r : Int} (h : F56_57 fu t0 t1 = some r) : FC Try.prog 56 [(D.lit t0.1 1 fun i => (D.int .u64 (t0.2 i))), (D.lit t1.1 1 fun i => (D.int .u64 (t1.2 i))), (D.fn 57 D.nil)] [] (D.int .i64 r) [] := by
  refine fc_of_runs (fn := Try.f56) (c := Try.f56.body.getD .skip) (by kernel_rfl) (by kernel_rfl) ?_
  refine runs_to (ts := [0, 1, 2]) (T' := T56_57) (env' := [(0, (D.lit t0.1 1 fun i => (D.int .u64 (t0.2 i)))), (1, (D.lit t1.1 1 fun i => (D.int .u64 (t1.2 i)))), (2, (D.fn 57 D.nil))]) (h2 := []) (by kernel_rfl) (by kernel_rfl) trivial (Nat.le_refl 0) trivial (And.intro (fun _ _ => trivial) (And.intro (fun _ _ => trivial) (And.intro trivial trivial))) ?_
  exact run56_57 fu t0 t1 h rfl

def K28 (d : D) (r : Int) : Prop := d = (D.int .i64 r)

noncomputable def T28 : List Item := norm 200 [.code (Try.f28.body.getD .skip)]

/-- podesta/head.Compare -/
def F28 (fu : Nat) (t0 : (Nat → Int)) (t1 : (Nat → Int)) : Option Int :=
  (F56_57 fu (12, t0) (12, t1)).bind fun r0 =>
  some r0

theorem run28 (fu : Nat) (t0 : (Nat → Int)) (t1 : (Nat → Int)) {d : D} {r : Int} (h : F28 fu t0 t1 = some r) (hk : K28 d r) : Runs Try.prog Try.f28 0 T28 [(0, (D.ints .u64 12 t0)), (1, (D.ints .u64 12 t1))] [] d [] := by
  unfold F28 at h
  refine runs_regions 1 [([], [2, 3])] (z := ([], [(2, (D.ptr 0 [])), (3, (D.ptr 1 []))], [some (.box (D.ints .u64 12 t0)), some (.box (D.ints .u64 12 t1))])) rfl (by kernel_rfl) trivial ?_
  refine runs_freeze 0 (row := (.box (D.ints .u64 12 t0))) rfl ?_
  refine runs_freeze 1 (row := (.box (D.ints .u64 12 t1))) rfl ?_
  obtain ⟨r0, cr0, h⟩ := Option.bind_eq_some_iff.1 h
  refine runs_regions 1 [([(D.int .i64 r0)], [4])] (z := ([FC Try.prog 56 [(D.lit 12 1 fun i => (D.int .u64 (t0 i))), (D.lit 12 1 fun i => (D.int .u64 (t1 i))), (D.fn 57 D.nil)] [] (D.int .i64 r0) [], All (List.map NoRow [(D.lit 12 1 fun i => (D.int .u64 (t0 i))), (D.lit 12 1 fun i => (D.int .u64 (t1 i))), (D.fn 57 D.nil)])], [(4, (D.int .i64 r0))], [none, none])) rfl (by kernel_rfl) (And.intro (fc56_57 fu (12, t0) (12, t1) cr0) (And.intro (And.intro (fun _ _ => trivial) (And.intro (fun _ _ => trivial) (And.intro trivial trivial))) trivial)) ?_
  rw [← Option.some.inj h] at hk
  obtain rfl : d = (D.int .i64 r0) := hk
  exact runs_ret (by kernel_rfl) trivial (Nat.le_refl 0) trivial trivial

theorem fc28 (fu : Nat) (t0 : (Nat → Int)) (t1 : (Nat → Int)) {r : Int} (h : F28 fu t0 t1 = some r) : FC Try.prog 28 [(D.ints .u64 12 t0), (D.ints .u64 12 t1)] [] (D.int .i64 r) [] := by
  refine fc_of_runs (fn := Try.f28) (c := Try.f28.body.getD .skip) (by kernel_rfl) (by kernel_rfl) ?_
  refine runs_to (ts := [0, 1]) (T' := T28) (env' := [(0, (D.ints .u64 12 t0)), (1, (D.ints .u64 12 t1))]) (h2 := []) (by kernel_rfl) (by kernel_rfl) trivial (Nat.le_refl 0) trivial (And.intro trivial (And.intro trivial trivial)) ?_
  exact run28 fu t0 t1 h rfl

def K29 (d : D) (r : Int) : Prop := d = (D.int .i64 r)

noncomputable def T29 : List Item := norm 200 [.code (Try.f29.body.getD .skip)]

/-- podesta/podestalaw01.sign -/
def F29 (t0 : Int) : Option Int :=
  ifs (decide (t0 < (0 : Int))) (
    some (-1 : Int)) (
    ifs (decide (t0 > (0 : Int))) (
      some (1 : Int)) (
      some (0 : Int)))

theorem run29 (t0 : Int) {d : D} {r : Int} (h : F29 t0 = some r) (hk : K29 d r) : Runs Try.prog Try.f29 0 T29 [(0, (D.int .i64 t0))] [] d [] := by
  unfold F29 at h
  refine runs_regions 2 [([], [0]), ([], [0, 4])] (z := ([], [(0, (D.int .i64 t0)), (4, (D.bool (decide (t0 < (0 : Int)))))], [])) rfl (by kernel_rfl) trivial ?_
  refine runs_if (b := (decide (t0 < (0 : Int)))) (by kernel_rfl) (fun hb => ?_) (fun hb => ?_)
  · replace h := ifs_true h hb
    refine runs_regions 1 [([], [2])] (z := ([], [(2, (D.int .i64 (-1 : Int)))], [])) rfl (by kernel_rfl) trivial ?_
    rw [← Option.some.inj h] at hk
    obtain rfl : d = (D.int .i64 (-1 : Int)) := hk
    exact runs_ret (by kernel_rfl) trivial (Nat.le_refl 0) trivial trivial
  · replace h := ifs_false h hb
    refine runs_regions 1 [([], [6])] (z := ([], [(6, (D.bool (decide (t0 > (0 : Int)))))], [])) rfl (by kernel_rfl) trivial ?_
    refine runs_if (b := (decide (t0 > (0 : Int)))) (by kernel_rfl) (fun hb => ?_) (fun hb => ?_)
    · replace h := ifs_true h hb
      refine runs_regions 1 [([], [2])] (z := ([], [(2, (D.int .i64 (1 : Int)))], [])) rfl (by kernel_rfl) trivial ?_
      rw [← Option.some.inj h] at hk
      obtain rfl : d = (D.int .i64 (1 : Int)) := hk
      exact runs_ret (by kernel_rfl) trivial (Nat.le_refl 0) trivial trivial
    · replace h := ifs_false h hb
      refine runs_regions 1 [([], [2])] (z := ([], [(2, (D.int .i64 (0 : Int)))], [])) rfl (by kernel_rfl) trivial ?_
      rw [← Option.some.inj h] at hk
      obtain rfl : d = (D.int .i64 (0 : Int)) := hk
      exact runs_ret (by kernel_rfl) trivial (Nat.le_refl 0) trivial trivial

theorem fc29 (t0 : Int) {r : Int} (h : F29 t0 = some r) : FC Try.prog 29 [(D.int .i64 t0)] [] (D.int .i64 r) [] := by
  refine fc_of_runs (fn := Try.f29) (c := Try.f29.body.getD .skip) (by kernel_rfl) (by kernel_rfl) ?_
  refine runs_to (ts := [0]) (T' := T29) (env' := [(0, (D.int .i64 t0))]) (h2 := []) (by kernel_rfl) (by kernel_rfl) trivial (Nat.le_refl 0) trivial (And.intro trivial trivial) ?_
  exact run29 t0 h rfl

def K30 (d : D) (r : Int) : Prop := d = (D.int .i64 r)

noncomputable def T30 : List Item := norm 200 [.code (Try.f30.body.getD .skip)]

noncomputable def T30_L1 : List Item := norm 200 (nxt (nxt T30))

noncomputable def X30_L1T : List Item := norm 200 (cndF (nxt (nxt (nxt T30))))

abbrev E30_L1 := Unit

def N30_L1 (_fu : Nat) (m0 : (Nat → Int)) (m1 : (Nat → Int)) (d : D) (s : Int) : Prop := Runs Try.prog Try.f30 0 T30_L1 [(2, (D.ptr 0 [])), (3, (D.ptr 1 [])), (5, (D.int .i64 s))] [some (.box (D.ints .u64 12 m0)), some (.box (D.ints .u64 12 m1))] d []

def X30_L1 (_fu : Nat) (_m0 : (Nat → Int)) (_m1 : (Nat → Int)) (d : D) : E30_L1 ⊕ Int → Prop
  | .inl _ => Runs Try.prog Try.f30 0 X30_L1T [] [] d []
  | .inr o => (K30 d) o

def F30_L1 (_fu : Nat) (m0 : (Nat → Int)) (m1 : (Nat → Int)) (t5 : Int) : Option (Lo Int E30_L1 Int) :=
  ifs (decide (t5 < (12 : Int))) (
    chk (0 ≤ t5 ∧ t5 < ((12 : Nat) : Int)) <|
    chk (t5.toNat < 12) <|
    chk (0 ≤ t5 ∧ t5 < ((12 : Nat) : Int)) <|
    chk (t5.toNat < 12) <|
    ifs (decide ((m0 t5.toNat) < (m1 t5.toNat))) (
      some (.ret (-1 : Int))) (
      chk (0 ≤ t5 ∧ t5 < ((12 : Nat) : Int)) <|
      chk (t5.toNat < 12) <|
      chk (0 ≤ t5 ∧ t5 < ((12 : Nat) : Int)) <|
      chk (t5.toNat < 12) <|
      ifs (decide ((m0 t5.toNat) > (m1 t5.toNat))) (
        some (.ret (1 : Int))) (
        some (.next (IntKind.wrap .i64 (t5 + (1 : Int))))))) (
    some (.exit ()))

theorem run30_L1 (fu : Nat) (m0 : (Nat → Int)) (m1 : (Nat → Int)) (t5 : Int) {d : D} {o : (Lo Int E30_L1 Int)} (h : F30_L1 fu m0 m1 t5 = some o) (hk : (Lo.post (N30_L1 fu m0 m1 d) (X30_L1 fu m0 m1 d)) o) : Runs Try.prog Try.f30 0 T30_L1 [(2, (D.ptr 0 [])), (3, (D.ptr 1 [])), (5, (D.int .i64 t5))] [some (.box (D.ints .u64 12 m0)), some (.box (D.ints .u64 12 m1))] d [] := by
  unfold F30_L1 at h
  refine runs_regions 1 [([], [2, 3, 5, 7])] (z := ([], [(2, (D.ptr 0 [])), (3, (D.ptr 1 [])), (5, (D.int .i64 t5)), (7, (D.bool (decide (t5 < (12 : Int)))))], [some (.box (D.ints .u64 12 m0)), some (.box (D.ints .u64 12 m1))])) rfl (by kernel_rfl) trivial ?_
  refine runs_if (b := (decide (t5 < (12 : Int)))) (by kernel_rfl) (fun hb => ?_) (fun hb => ?_)
  · replace h := ifs_true h hb
    obtain ⟨p0, h⟩ := chk_some h
    obtain ⟨p1, h⟩ := chk_some h
    obtain ⟨p2, h⟩ := chk_some h
    obtain ⟨p3, h⟩ := chk_some h
    refine runs_regions 1 [([], [2, 3, 5, 16])] (z := ([(0 ≤ t5 ∧ t5 < ((12 : Nat) : Int)), (t5.toNat < 12), (0 ≤ t5 ∧ t5 < ((12 : Nat) : Int)), (t5.toNat < 12)], [(2, (D.ptr 0 [])), (3, (D.ptr 1 [])), (5, (D.int .i64 t5)), (16, (D.bool (decide ((m0 t5.toNat) < (m1 t5.toNat)))))], [some (.box (D.ints .u64 12 m0)), some (.box (D.ints .u64 12 m1))])) rfl (by kernel_rfl) (And.intro p0 (And.intro p1 (And.intro p2 (And.intro p3 trivial)))) ?_
    refine runs_if (b := (decide ((m0 t5.toNat) < (m1 t5.toNat)))) (by kernel_rfl) (fun hb => ?_) (fun hb => ?_)
    · replace h := ifs_true h hb
      refine runs_regions 1 [([], [4])] (z := ([], [(4, (D.int .i64 (-1 : Int)))], [some (.box (D.ints .u64 12 m0)), some (.box (D.ints .u64 12 m1))])) rfl (by kernel_rfl) trivial ?_
      rw [← Option.some.inj h] at hk
      obtain rfl : d = (D.int .i64 (-1 : Int)) := hk
      exact runs_ret (by kernel_rfl) trivial (Nat.le_refl 0) trivial trivial
    · replace h := ifs_false h hb
      obtain ⟨p4, h⟩ := chk_some h
      obtain ⟨p5, h⟩ := chk_some h
      obtain ⟨p6, h⟩ := chk_some h
      obtain ⟨p7, h⟩ := chk_some h
      refine runs_regions 1 [([], [2, 3, 5, 23])] (z := ([(0 ≤ t5 ∧ t5 < ((12 : Nat) : Int)), (t5.toNat < 12), (0 ≤ t5 ∧ t5 < ((12 : Nat) : Int)), (t5.toNat < 12)], [(2, (D.ptr 0 [])), (3, (D.ptr 1 [])), (5, (D.int .i64 t5)), (23, (D.bool (decide ((m0 t5.toNat) > (m1 t5.toNat)))))], [some (.box (D.ints .u64 12 m0)), some (.box (D.ints .u64 12 m1))])) rfl (by kernel_rfl) (And.intro p4 (And.intro p5 (And.intro p6 (And.intro p7 trivial)))) ?_
      refine runs_if (b := (decide ((m0 t5.toNat) > (m1 t5.toNat)))) (by kernel_rfl) (fun hb => ?_) (fun hb => ?_)
      · replace h := ifs_true h hb
        refine runs_regions 1 [([], [4])] (z := ([], [(4, (D.int .i64 (1 : Int)))], [some (.box (D.ints .u64 12 m0)), some (.box (D.ints .u64 12 m1))])) rfl (by kernel_rfl) trivial ?_
        rw [← Option.some.inj h] at hk
        obtain rfl : d = (D.int .i64 (1 : Int)) := hk
        exact runs_ret (by kernel_rfl) trivial (Nat.le_refl 0) trivial trivial
      · replace h := ifs_false h hb
        refine runs_regions 1 [([], [2, 3, 5])] (z := ([], [(2, (D.ptr 0 [])), (3, (D.ptr 1 [])), (5, (D.int .i64 (IntKind.wrap .i64 (t5 + (1 : Int)))))], [some (.box (D.ints .u64 12 m0)), some (.box (D.ints .u64 12 m1))])) rfl (by kernel_rfl) trivial ?_
        rw [← Option.some.inj h] at hk
        refine runs_to (ts := [2, 3, 5]) (T' := T30_L1) (env' := [(2, (D.ptr 0 [])), (3, (D.ptr 1 [])), (5, (D.int .i64 (IntKind.wrap .i64 (t5 + (1 : Int)))))]) (h2 := [some (.box (D.ints .u64 12 m0)), some (.box (D.ints .u64 12 m1))]) (by kernel_rfl) (by kernel_rfl) (And.intro (.inr rfl) (And.intro (.inr rfl) trivial)) (Nat.zero_le _) (And.intro trivial (And.intro trivial trivial)) (And.intro (bel_of rfl) (And.intro (bel_of rfl) (And.intro trivial trivial))) ?_
        exact hk
  · replace h := ifs_false h hb
    rw [← Option.some.inj h] at hk
    refine runs_to (ts := []) (T' := X30_L1T) (env' := []) (h2 := []) (by kernel_rfl) (by kernel_rfl) trivial (Nat.zero_le _) trivial trivial ?_
    exact hk

theorem iter30_L1 (fu : Nat) (m0 : (Nat → Int)) (m1 : (Nat → Int)) {d : D} (k : Nat) (s : Int) {o : E30_L1 ⊕ Int} (h : iter (fun s => F30_L1 fu m0 m1 s) k s = some o) (hx : X30_L1 fu m0 m1 d o) : N30_L1 fu m0 m1 d s :=
  iter_post (K := N30_L1 fu m0 m1 d) (X := X30_L1 fu m0 m1 d) (fun s _ h hk => run30_L1 fu m0 m1 s h hk) k s o h hx

/-- podesta/podestaref01.Order -/
def F30 (fu : Nat) (t0 : (Nat → Int)) (t1 : (Nat → Int)) : Option Int :=
  after (iter (fun s => F30_L1 fu t0 t1 s) fu (0 : Int)) fun _ =>
  some (0 : Int)

theorem run30 (fu : Nat) (t0 : (Nat → Int)) (t1 : (Nat → Int)) {d : D} {r : Int} (h : F30 fu t0 t1 = some r) (hk : K30 d r) : Runs Try.prog Try.f30 0 T30 [(0, (D.ints .u64 12 t0)), (1, (D.ints .u64 12 t1))] [] d [] := by
  unfold F30 at h
  refine runs_regions 2 [([], [2, 3]), ([], [2, 3, 5])] (z := ([], [(2, (D.ptr 0 [])), (3, (D.ptr 1 [])), (5, (D.int .i64 (0 : Int)))], [some (.box (D.ints .u64 12 t0)), some (.box (D.ints .u64 12 t1))])) rfl (by kernel_rfl) trivial ?_
  refine runs_to (ts := [2, 3, 5]) (T' := T30_L1) (env' := [(2, (D.ptr 0 [])), (3, (D.ptr 1 [])), (5, (D.int .i64 (0 : Int)))]) (h2 := [some (.box (D.ints .u64 12 t0)), some (.box (D.ints .u64 12 t1))]) (by kernel_rfl) (by kernel_rfl) (And.intro (.inr rfl) (And.intro (.inr rfl) trivial)) (Nat.zero_le _) (And.intro trivial (And.intro trivial trivial)) (And.intro (bel_of rfl) (And.intro (bel_of rfl) (And.intro trivial trivial))) ?_
  rcases after_some h with ⟨e9, hi, h⟩ | hi
  · refine iter30_L1 fu t0 t1 fu (0 : Int) hi ?_
    show Runs Try.prog Try.f30 0 X30_L1T [] [] d []
    refine runs_regions 1 [([], [4])] (z := ([], [(4, (D.int .i64 (0 : Int)))], [])) rfl (by kernel_rfl) trivial ?_
    rw [← Option.some.inj h] at hk
    obtain rfl : d = (D.int .i64 (0 : Int)) := hk
    exact runs_ret (by kernel_rfl) trivial (Nat.le_refl 0) trivial trivial
  · exact iter30_L1 fu t0 t1 fu (0 : Int) hi hk

theorem fc30 (fu : Nat) (t0 : (Nat → Int)) (t1 : (Nat → Int)) {r : Int} (h : F30 fu t0 t1 = some r) : FC Try.prog 30 [(D.ints .u64 12 t0), (D.ints .u64 12 t1)] [] (D.int .i64 r) [] := by
  refine fc_of_runs (fn := Try.f30) (c := Try.f30.body.getD .skip) (by kernel_rfl) (by kernel_rfl) ?_
  refine runs_to (ts := [0, 1]) (T' := T30) (env' := [(0, (D.ints .u64 12 t0)), (1, (D.ints .u64 12 t1))]) (h2 := []) (by kernel_rfl) (by kernel_rfl) trivial (Nat.le_refl 0) trivial (And.intro trivial (And.intro trivial trivial)) ?_
  exact run30 fu t0 t1 h rfl

def K8 (d : D) (r : Bool) : Prop := d = (D.bool r)

noncomputable def T8 : List Item := norm 200 [.code (Try.f8.body.getD .skip)]

/-- podesta/podestalaw01.HeadOrder -/
def F8 (fu : Nat) (t0 : (Nat → Int)) (t1 : (Nat → Int)) (t2 : (Nat → Int)) : Option Bool :=
  (F28 fu t0 t1).bind fun r0 =>
  (F28 fu t1 t0).bind fun r1 =>
  (F28 fu t1 t2).bind fun r2 =>
  (F28 fu t0 t2).bind fun r3 =>
  (F17).bind fun r4 =>
  (callIf r4 (F29 r0) (0 : Int)).bind fun r5 =>
  (callIf r4 (F30 fu t0 t1) (0 : Int)).bind fun r6 =>
  (callIf (bif r4 then (r5 == r6) else false) (F29 r0) (0 : Int)).bind fun r7 =>
  (callIf (bif r4 then (r5 == r6) else false) (F29 r1) (0 : Int)).bind fun r8 =>
  some (bif (bif (bif (bif r4 then (r5 == r6) else false) then (r7 == (IntKind.wrap .i64 (0 - r8))) else false) then ((r0 == (0 : Int)) == ((List.range 12).all fun i => t0 i == t1 i)) else false) then (bif (bif (decide (r0 > (0 : Int))) then true else (decide (r2 > (0 : Int)))) then true else (decide (r3 ≤ (0 : Int)))) else false)

theorem run8 (fu : Nat) (t0 : (Nat → Int)) (t1 : (Nat → Int)) (t2 : (Nat → Int)) {d : D} {r : Bool} (h : F8 fu t0 t1 t2 = some r) (hk : K8 d r) : Runs Try.prog Try.f8 0 T8 [(0, (D.ints .u64 12 t0)), (1, (D.ints .u64 12 t1)), (2, (D.ints .u64 12 t2))] [] d [] := by
  unfold F8 at h
  obtain ⟨r0, cr0, h⟩ := Option.bind_eq_some_iff.1 h
  obtain ⟨r1, cr1, h⟩ := Option.bind_eq_some_iff.1 h
  obtain ⟨r2, cr2, h⟩ := Option.bind_eq_some_iff.1 h
  obtain ⟨r3, cr3, h⟩ := Option.bind_eq_some_iff.1 h
  obtain ⟨r4, cr4, h⟩ := Option.bind_eq_some_iff.1 h
  obtain ⟨r5, cr5, h⟩ := Option.bind_eq_some_iff.1 h
  obtain ⟨r6, cr6, h⟩ := Option.bind_eq_some_iff.1 h
  obtain ⟨r7, cr7, h⟩ := Option.bind_eq_some_iff.1 h
  obtain ⟨r8, cr8, h⟩ := Option.bind_eq_some_iff.1 h
  refine runs_regions 5 [([], [3, 4, 5]), ([(D.int .i64 r0), (D.int .i64 r1)], [3, 4, 5, 7, 8]), ([(D.int .i64 r2)], [3, 4, 5, 7, 8, 9]), ([(D.int .i64 r3)], [3, 4, 7, 8, 9, 10]), ([(D.bool r4), (D.int .i64 r5), (D.int .i64 r6), (D.int .i64 r7), (D.int .i64 r8)], [6])] (z := ([FC Try.prog 28 [(D.ints .u64 12 t0), (D.ints .u64 12 t1)] [] (D.int .i64 r0) [], All (List.map NoRow [(D.ints .u64 12 t0), (D.ints .u64 12 t1)]), FC Try.prog 28 [(D.ints .u64 12 t1), (D.ints .u64 12 t0)] [] (D.int .i64 r1) [], All (List.map NoRow [(D.ints .u64 12 t1), (D.ints .u64 12 t0)]), FC Try.prog 28 [(D.ints .u64 12 t1), (D.ints .u64 12 t2)] [] (D.int .i64 r2) [], All (List.map NoRow [(D.ints .u64 12 t1), (D.ints .u64 12 t2)]), FC Try.prog 28 [(D.ints .u64 12 t0), (D.ints .u64 12 t2)] [] (D.int .i64 r3) [], All (List.map NoRow [(D.ints .u64 12 t0), (D.ints .u64 12 t2)]), FC Try.prog 17 [] [] (D.bool r4) [], All (List.map NoRow []), (r4 = true → All [(r4 = true → r4 = true), FC Try.prog 29 [(D.int .i64 r0)] [] (D.int .i64 r5) [], All (List.map NoRow [(D.int .i64 r0)])]), (r4 = true → All [(r4 = true → r4 = true), (r4 = true → r4 = true), FC Try.prog 30 [(D.ints .u64 12 t0), (D.ints .u64 12 t1)] [] (D.int .i64 r6) [], All (List.map NoRow [(D.ints .u64 12 t0), (D.ints .u64 12 t1)])]), (r4 = true → All [(r4 = true → r4 = true), (r4 = true → r4 = true)]), ((true && r4) = true → r4 = true), ((bif r4 then (r5 == r6) else false) = true → All [((bif r4 then (r5 == r6) else false) = true → (bif r4 then (r5 == r6) else false) = true), FC Try.prog 29 [(D.int .i64 r0)] [] (D.int .i64 r7) [], All (List.map NoRow [(D.int .i64 r0)])]), ((bif r4 then (r5 == r6) else false) = true → All [((bif r4 then (r5 == r6) else false) = true → (bif r4 then (r5 == r6) else false) = true), FC Try.prog 29 [(D.int .i64 r1)] [] (D.int .i64 r8) [], All (List.map NoRow [(D.int .i64 r1)])]), ((bif r4 then (r5 == r6) else false) = true → All [((bif r4 then (r5 == r6) else false) = true → (bif r4 then (r5 == r6) else false) = true)]), ((bif r4 then (r5 == r6) else false) = true → All [((bif r4 then (r5 == r6) else false) = true → (bif r4 then (r5 == r6) else false) = true), ((bif r4 then (r5 == r6) else false) = true → (bif r4 then (r5 == r6) else false) = true)]), ((true && (bif r4 then (r5 == r6) else false)) = true → (bif r4 then (r5 == r6) else false) = true), ((bif (bif r4 then (r5 == r6) else false) then (r7 == (IntKind.wrap .i64 (0 - r8))) else false) = true → All [((bif (bif r4 then (r5 == r6) else false) then (r7 == (IntKind.wrap .i64 (0 - r8))) else false) = true → (bif (bif r4 then (r5 == r6) else false) then (r7 == (IntKind.wrap .i64 (0 - r8))) else false) = true)]), ((bif (bif r4 then (r5 == r6) else false) then (r7 == (IntKind.wrap .i64 (0 - r8))) else false) = true → All [((bif (bif r4 then (r5 == r6) else false) then (r7 == (IntKind.wrap .i64 (0 - r8))) else false) = true → (bif (bif r4 then (r5 == r6) else false) then (r7 == (IntKind.wrap .i64 (0 - r8))) else false) = true), ((bif (bif r4 then (r5 == r6) else false) then (r7 == (IntKind.wrap .i64 (0 - r8))) else false) = true → (bif (bif r4 then (r5 == r6) else false) then (r7 == (IntKind.wrap .i64 (0 - r8))) else false) = true)]), ((bif (bif r4 then (r5 == r6) else false) then (r7 == (IntKind.wrap .i64 (0 - r8))) else false) = true → All [((bif (bif r4 then (r5 == r6) else false) then (r7 == (IntKind.wrap .i64 (0 - r8))) else false) = true → (bif (bif r4 then (r5 == r6) else false) then (r7 == (IntKind.wrap .i64 (0 - r8))) else false) = true), ((bif (bif r4 then (r5 == r6) else false) then (r7 == (IntKind.wrap .i64 (0 - r8))) else false) = true → (bif (bif r4 then (r5 == r6) else false) then (r7 == (IntKind.wrap .i64 (0 - r8))) else false) = true)]), ((true && (bif (bif r4 then (r5 == r6) else false) then (r7 == (IntKind.wrap .i64 (0 - r8))) else false)) = true → (bif (bif r4 then (r5 == r6) else false) then (r7 == (IntKind.wrap .i64 (0 - r8))) else false) = true), ((bif (bif (bif r4 then (r5 == r6) else false) then (r7 == (IntKind.wrap .i64 (0 - r8))) else false) then ((r0 == (0 : Int)) == ((List.range 12).all fun i => t0 i == t1 i)) else false) = true → All [((bif (bif (bif r4 then (r5 == r6) else false) then (r7 == (IntKind.wrap .i64 (0 - r8))) else false) then ((r0 == (0 : Int)) == ((List.range 12).all fun i => t0 i == t1 i)) else false) = true → (bif (bif (bif r4 then (r5 == r6) else false) then (r7 == (IntKind.wrap .i64 (0 - r8))) else false) then ((r0 == (0 : Int)) == ((List.range 12).all fun i => t0 i == t1 i)) else false) = true)]), ((bif (bif (bif r4 then (r5 == r6) else false) then (r7 == (IntKind.wrap .i64 (0 - r8))) else false) then ((r0 == (0 : Int)) == ((List.range 12).all fun i => t0 i == t1 i)) else false) = true → All [((bif (bif (bif r4 then (r5 == r6) else false) then (r7 == (IntKind.wrap .i64 (0 - r8))) else false) then ((r0 == (0 : Int)) == ((List.range 12).all fun i => t0 i == t1 i)) else false) = true → (bif (bif (bif r4 then (r5 == r6) else false) then (r7 == (IntKind.wrap .i64 (0 - r8))) else false) then ((r0 == (0 : Int)) == ((List.range 12).all fun i => t0 i == t1 i)) else false) = true)]), (((bif (bif (bif r4 then (r5 == r6) else false) then (r7 == (IntKind.wrap .i64 (0 - r8))) else false) then ((r0 == (0 : Int)) == ((List.range 12).all fun i => t0 i == t1 i)) else false) && (!(decide (r0 > (0 : Int))))) = true → All [(((bif (bif (bif r4 then (r5 == r6) else false) then (r7 == (IntKind.wrap .i64 (0 - r8))) else false) then ((r0 == (0 : Int)) == ((List.range 12).all fun i => t0 i == t1 i)) else false) && (!(decide (r0 > (0 : Int))))) = true → ((bif (bif (bif r4 then (r5 == r6) else false) then (r7 == (IntKind.wrap .i64 (0 - r8))) else false) then ((r0 == (0 : Int)) == ((List.range 12).all fun i => t0 i == t1 i)) else false) && (!(decide (r0 > (0 : Int))))) = true)]), ((bif (bif (bif r4 then (r5 == r6) else false) then (r7 == (IntKind.wrap .i64 (0 - r8))) else false) then ((r0 == (0 : Int)) == ((List.range 12).all fun i => t0 i == t1 i)) else false) = true → All [((bif (bif (bif r4 then (r5 == r6) else false) then (r7 == (IntKind.wrap .i64 (0 - r8))) else false) then ((r0 == (0 : Int)) == ((List.range 12).all fun i => t0 i == t1 i)) else false) = true → (bif (bif (bif r4 then (r5 == r6) else false) then (r7 == (IntKind.wrap .i64 (0 - r8))) else false) then ((r0 == (0 : Int)) == ((List.range 12).all fun i => t0 i == t1 i)) else false) = true), (((bif (bif (bif r4 then (r5 == r6) else false) then (r7 == (IntKind.wrap .i64 (0 - r8))) else false) then ((r0 == (0 : Int)) == ((List.range 12).all fun i => t0 i == t1 i)) else false) && !(decide (r0 > (0 : Int)))) = true → ((bif (bif (bif r4 then (r5 == r6) else false) then (r7 == (IntKind.wrap .i64 (0 - r8))) else false) then ((r0 == (0 : Int)) == ((List.range 12).all fun i => t0 i == t1 i)) else false) && (!(decide (r0 > (0 : Int))))) = true)]), ((bif (bif (bif r4 then (r5 == r6) else false) then (r7 == (IntKind.wrap .i64 (0 - r8))) else false) then ((r0 == (0 : Int)) == ((List.range 12).all fun i => t0 i == t1 i)) else false) = true → All [((bif (bif (bif r4 then (r5 == r6) else false) then (r7 == (IntKind.wrap .i64 (0 - r8))) else false) then ((r0 == (0 : Int)) == ((List.range 12).all fun i => t0 i == t1 i)) else false) = true → (bif (bif (bif r4 then (r5 == r6) else false) then (r7 == (IntKind.wrap .i64 (0 - r8))) else false) then ((r0 == (0 : Int)) == ((List.range 12).all fun i => t0 i == t1 i)) else false) = true)]), (((bif (bif (bif r4 then (r5 == r6) else false) then (r7 == (IntKind.wrap .i64 (0 - r8))) else false) then ((r0 == (0 : Int)) == ((List.range 12).all fun i => t0 i == t1 i)) else false) && (!(bif (decide (r0 > (0 : Int))) then true else (decide (r2 > (0 : Int)))))) = true → All [(((bif (bif (bif r4 then (r5 == r6) else false) then (r7 == (IntKind.wrap .i64 (0 - r8))) else false) then ((r0 == (0 : Int)) == ((List.range 12).all fun i => t0 i == t1 i)) else false) && (!(bif (decide (r0 > (0 : Int))) then true else (decide (r2 > (0 : Int)))))) = true → ((bif (bif (bif r4 then (r5 == r6) else false) then (r7 == (IntKind.wrap .i64 (0 - r8))) else false) then ((r0 == (0 : Int)) == ((List.range 12).all fun i => t0 i == t1 i)) else false) && (!(bif (decide (r0 > (0 : Int))) then true else (decide (r2 > (0 : Int)))))) = true)]), ((bif (bif (bif r4 then (r5 == r6) else false) then (r7 == (IntKind.wrap .i64 (0 - r8))) else false) then ((r0 == (0 : Int)) == ((List.range 12).all fun i => t0 i == t1 i)) else false) = true → All [((bif (bif (bif r4 then (r5 == r6) else false) then (r7 == (IntKind.wrap .i64 (0 - r8))) else false) then ((r0 == (0 : Int)) == ((List.range 12).all fun i => t0 i == t1 i)) else false) = true → (bif (bif (bif r4 then (r5 == r6) else false) then (r7 == (IntKind.wrap .i64 (0 - r8))) else false) then ((r0 == (0 : Int)) == ((List.range 12).all fun i => t0 i == t1 i)) else false) = true), (((bif (bif (bif r4 then (r5 == r6) else false) then (r7 == (IntKind.wrap .i64 (0 - r8))) else false) then ((r0 == (0 : Int)) == ((List.range 12).all fun i => t0 i == t1 i)) else false) && !(bif (decide (r0 > (0 : Int))) then true else (decide (r2 > (0 : Int))))) = true → ((bif (bif (bif r4 then (r5 == r6) else false) then (r7 == (IntKind.wrap .i64 (0 - r8))) else false) then ((r0 == (0 : Int)) == ((List.range 12).all fun i => t0 i == t1 i)) else false) && (!(bif (decide (r0 > (0 : Int))) then true else (decide (r2 > (0 : Int)))))) = true)]), ((true && (bif (bif (bif r4 then (r5 == r6) else false) then (r7 == (IntKind.wrap .i64 (0 - r8))) else false) then ((r0 == (0 : Int)) == ((List.range 12).all fun i => t0 i == t1 i)) else false)) = true → (bif (bif (bif r4 then (r5 == r6) else false) then (r7 == (IntKind.wrap .i64 (0 - r8))) else false) then ((r0 == (0 : Int)) == ((List.range 12).all fun i => t0 i == t1 i)) else false) = true)], [(6, (D.bool (bif (bif (bif (bif r4 then (r5 == r6) else false) then (r7 == (IntKind.wrap .i64 (0 - r8))) else false) then ((r0 == (0 : Int)) == ((List.range 12).all fun i => t0 i == t1 i)) else false) then (bif (bif (decide (r0 > (0 : Int))) then true else (decide (r2 > (0 : Int)))) then true else (decide (r3 ≤ (0 : Int)))) else false)))], [some (.box (D.ints .u64 12 t0)), some (.box (D.ints .u64 12 t1)), some (.box (D.ints .u64 12 t2))])) rfl (by kernel_rfl) (And.intro (fc28 fu t0 t1 cr0) (And.intro (And.intro trivial (And.intro trivial trivial)) (And.intro (fc28 fu t1 t0 cr1) (And.intro (And.intro trivial (And.intro trivial trivial)) (And.intro (fc28 fu t1 t2 cr2) (And.intro (And.intro trivial (And.intro trivial trivial)) (And.intro (fc28 fu t0 t2 cr3) (And.intro (And.intro trivial (And.intro trivial trivial)) (And.intro (fc17 cr4) (And.intro trivial (And.intro (fun hg => (And.intro (by first | exact fun h => h | exact fun h => (Bool.and_eq_true_iff.1 h).1 | simp_all) (And.intro (fc29 r0 (callIf_some cr5 hg)) (And.intro (And.intro trivial trivial) trivial)))) (And.intro (fun hg => (And.intro (by first | exact fun h => h | exact fun h => (Bool.and_eq_true_iff.1 h).1 | simp_all) (And.intro (by first | exact fun h => h | exact fun h => (Bool.and_eq_true_iff.1 h).1 | simp_all) (And.intro (fc30 fu t0 t1 (callIf_some cr6 hg)) (And.intro (And.intro trivial (And.intro trivial trivial)) trivial))))) (And.intro (fun _ => (And.intro (by first | exact fun h => h | exact fun h => (Bool.and_eq_true_iff.1 h).1 | simp_all) (And.intro (by first | exact fun h => h | exact fun h => (Bool.and_eq_true_iff.1 h).1 | simp_all) trivial))) (And.intro (by first | exact fun h => h | exact fun h => (Bool.and_eq_true_iff.1 h).1 | simp_all) (And.intro (fun hg => (And.intro (by first | exact fun h => h | exact fun h => (Bool.and_eq_true_iff.1 h).1 | simp_all) (And.intro (fc29 r0 (callIf_some cr7 hg)) (And.intro (And.intro trivial trivial) trivial)))) (And.intro (fun hg => (And.intro (by first | exact fun h => h | exact fun h => (Bool.and_eq_true_iff.1 h).1 | simp_all) (And.intro (fc29 r1 (callIf_some cr8 hg)) (And.intro (And.intro trivial trivial) trivial)))) (And.intro (fun _ => (And.intro (by first | exact fun h => h | exact fun h => (Bool.and_eq_true_iff.1 h).1 | simp_all) trivial)) (And.intro (fun _ => (And.intro (by first | exact fun h => h | exact fun h => (Bool.and_eq_true_iff.1 h).1 | simp_all) (And.intro (by first | exact fun h => h | exact fun h => (Bool.and_eq_true_iff.1 h).1 | simp_all) trivial))) (And.intro (by first | exact fun h => h | exact fun h => (Bool.and_eq_true_iff.1 h).1 | simp_all) (And.intro (fun _ => (And.intro (by first | exact fun h => h | exact fun h => (Bool.and_eq_true_iff.1 h).1 | simp_all) trivial)) (And.intro (fun _ => (And.intro (by first | exact fun h => h | exact fun h => (Bool.and_eq_true_iff.1 h).1 | simp_all) (And.intro (by first | exact fun h => h | exact fun h => (Bool.and_eq_true_iff.1 h).1 | simp_all) trivial))) (And.intro (fun _ => (And.intro (by first | exact fun h => h | exact fun h => (Bool.and_eq_true_iff.1 h).1 | simp_all) (And.intro (by first | exact fun h => h | exact fun h => (Bool.and_eq_true_iff.1 h).1 | simp_all) trivial))) (And.intro (by first | exact fun h => h | exact fun h => (Bool.and_eq_true_iff.1 h).1 | simp_all) (And.intro (fun _ => (And.intro (by first | exact fun h => h | exact fun h => (Bool.and_eq_true_iff.1 h).1 | simp_all) trivial)) (And.intro (fun _ => (And.intro (by first | exact fun h => h | exact fun h => (Bool.and_eq_true_iff.1 h).1 | simp_all) trivial)) (And.intro (fun _ => (And.intro (by first | exact fun h => h | exact fun h => (Bool.and_eq_true_iff.1 h).1 | simp_all) trivial)) (And.intro (fun _ => (And.intro (by first | exact fun h => h | exact fun h => (Bool.and_eq_true_iff.1 h).1 | simp_all) (And.intro (by first | exact fun h => h | exact fun h => (Bool.and_eq_true_iff.1 h).1 | simp_all) trivial))) (And.intro (fun _ => (And.intro (by first | exact fun h => h | exact fun h => (Bool.and_eq_true_iff.1 h).1 | simp_all) trivial)) (And.intro (fun _ => (And.intro (by first | exact fun h => h | exact fun h => (Bool.and_eq_true_iff.1 h).1 | simp_all) trivial)) (And.intro (fun _ => (And.intro (by first | exact fun h => h | exact fun h => (Bool.and_eq_true_iff.1 h).1 | simp_all) (And.intro (by first | exact fun h => h | exact fun h => (Bool.and_eq_true_iff.1 h).1 | simp_all) trivial))) (And.intro (by first | exact fun h => h | exact fun h => (Bool.and_eq_true_iff.1 h).1 | simp_all) trivial))))))))))))))))))))))))))))))) ?_
  rw [← Option.some.inj h] at hk
  obtain rfl : d = (D.bool (bif (bif (bif (bif r4 then (r5 == r6) else false) then (r7 == (IntKind.wrap .i64 (0 - r8))) else false) then ((r0 == (0 : Int)) == ((List.range 12).all fun i => t0 i == t1 i)) else false) then (bif (bif (decide (r0 > (0 : Int))) then true else (decide (r2 > (0 : Int)))) then true else (decide (r3 ≤ (0 : Int)))) else false)) := hk
  exact runs_ret (by kernel_rfl) trivial (Nat.le_refl 0) trivial trivial

theorem fc8 (fu : Nat) (t0 : (Nat → Int)) (t1 : (Nat → Int)) (t2 : (Nat → Int)) {r : Bool} (h : F8 fu t0 t1 t2 = some r) : FC Try.prog 8 [(D.ints .u64 12 t0), (D.ints .u64 12 t1), (D.ints .u64 12 t2)] [] (D.bool r) [] := by
  refine fc_of_runs (fn := Try.f8) (c := Try.f8.body.getD .skip) (by kernel_rfl) (by kernel_rfl) ?_
  refine runs_to (ts := [0, 1, 2]) (T' := T8) (env' := [(0, (D.ints .u64 12 t0)), (1, (D.ints .u64 12 t1)), (2, (D.ints .u64 12 t2))]) (h2 := []) (by kernel_rfl) (by kernel_rfl) trivial (Nat.le_refl 0) trivial (And.intro trivial (And.intro trivial (And.intro trivial trivial))) ?_
  exact run8 fu t0 t1 t2 h rfl

end Go.Proofs.Ytfhimlhpjbjfgaa