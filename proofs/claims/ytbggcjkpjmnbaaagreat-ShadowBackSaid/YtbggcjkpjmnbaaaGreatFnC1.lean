/- What the functions compute, each proved to do so (printed by pgen.py). -/
import Derived.Test.YtbggcjkpjmnbaaaGreatProg
import Derived.Test.YtbggcjkpjmnbaaaGreatPodK
import Derived.Test.YtbggcjkpjmnbaaaGreatFnA
import Derived.Test.YtbggcjkpjmnbaaaGreatShG
namespace Go.Proofs.YtbggcjkpjmnbaaaGreat
open Go Go.Pod Go.Proofs

def K_shadow_Shadow_Begin_1 (t1 : S_shadow_Shadow) (d : D) (hp : Heap) (r : Bool) : Prop := d = (D.bool r) ∧ hp = [some (.box (D.cons (D.own 1) (D.cons (D.own 2) D.nil))), some (.seq 28 t1.f0.1 1 (D.arr t1.f0.1 1 fun i => (S_api_Rule.L (t1.f0.2 i).1 (t1.f0.2 i).2))), some (S_shadow_open.Q 72 t1.f1.1 t1.f1.2)]

noncomputable def T_shadow_Shadow_Begin_1 : List Item := norm 200 [.code (Tryz.f21.body.getD .skip)]

/-- (*podesta/shadow.Shadow).Begin 1 -/
def F_shadow_Shadow_Begin_1 (t0 : S_api_Change) (t1 : S_shadow_Shadow) : Option Bool :=
  some (bif (decide (t0.f0 < (0 : Int))) then true else (decide (t0.f0 ≥ ((t1.f0.1 : Nat) : Int))))

theorem run_shadow_Shadow_Begin_1 (t0 : S_api_Change) (t1 : S_shadow_Shadow) {d : D} {hp : Heap} {r : Bool} (h : F_shadow_Shadow_Begin_1 t0 t1 = some r) (hk : (K_shadow_Shadow_Begin_1 t1 d hp) r) : Runs Tryz.prog Tryz.f21 3 T_shadow_Shadow_Begin_1 [(0, (S_api_Change.d t0)), (1, (D.lptr (D.ptr 0 [])))] [some (.box (D.cons (D.own 1) (D.cons (D.own 2) D.nil))), some (.seq 28 t1.f0.1 1 (D.arr t1.f0.1 1 fun i => (S_api_Rule.L (t1.f0.2 i).1 (t1.f0.2 i).2))), some (S_shadow_open.Q 72 t1.f1.1 t1.f1.2)] d hp := by
  unfold F_shadow_Shadow_Begin_1 at h
  refine runs_regions 2 [([], [1, 2]), ([], [3])] (z := ([((!(decide (t0.f0 < (0 : Int)))) = true → All [((!(decide (t0.f0 < (0 : Int)))) = true → (!(decide (t0.f0 < (0 : Int)))) = true)]), ((!(decide (t0.f0 < (0 : Int)))) = true → All [((!(decide (t0.f0 < (0 : Int)))) = true → (!(decide (t0.f0 < (0 : Int)))) = true)]), ((!(decide (t0.f0 < (0 : Int)))) = true → All [((!(decide (t0.f0 < (0 : Int)))) = true → (!(decide (t0.f0 < (0 : Int)))) = true)]), ((!(decide (t0.f0 < (0 : Int)))) = true → All [((!(decide (t0.f0 < (0 : Int)))) = true → (!(decide (t0.f0 < (0 : Int)))) = true)]), ((!(decide (t0.f0 < (0 : Int)))) = true → All [((!(decide (t0.f0 < (0 : Int)))) = true → (!(decide (t0.f0 < (0 : Int)))) = true)]), ((!(decide (t0.f0 < (0 : Int)))) = true → All [((!(decide (t0.f0 < (0 : Int)))) = true → (!(decide (t0.f0 < (0 : Int)))) = true), ((!(decide (t0.f0 < (0 : Int)))) = true → (!(decide (t0.f0 < (0 : Int)))) = true)]), ((true && !(decide (t0.f0 < (0 : Int)))) = true → (!(decide (t0.f0 < (0 : Int)))) = true)], [(3, (D.bool (bif (decide (t0.f0 < (0 : Int))) then true else (decide (t0.f0 ≥ ((t1.f0.1 : Nat) : Int))))))], [some (.box (D.cons (D.own 1) (D.cons (D.own 2) D.nil))), some (.seq 28 t1.f0.1 1 (D.arr t1.f0.1 1 fun i => (S_api_Rule.L (t1.f0.2 i).1 (t1.f0.2 i).2))), some (S_shadow_open.Q 72 t1.f1.1 t1.f1.2), some (.box (S_api_Change.d t0))])) rfl (by kernel_rfl) (And.intro (fun _ => (And.intro (by first | exact fun h => h | exact fun h => (Bool.and_eq_true_iff.1 h).1 | simp_all) trivial)) (And.intro (fun _ => (And.intro (by first | exact fun h => h | exact fun h => (Bool.and_eq_true_iff.1 h).1 | simp_all) trivial)) (And.intro (fun _ => (And.intro (by first | exact fun h => h | exact fun h => (Bool.and_eq_true_iff.1 h).1 | simp_all) trivial)) (And.intro (fun _ => (And.intro (by first | exact fun h => h | exact fun h => (Bool.and_eq_true_iff.1 h).1 | simp_all) trivial)) (And.intro (fun _ => (And.intro (by first | exact fun h => h | exact fun h => (Bool.and_eq_true_iff.1 h).1 | simp_all) trivial)) (And.intro (fun _ => (And.intro (by first | exact fun h => h | exact fun h => (Bool.and_eq_true_iff.1 h).1 | simp_all) (And.intro (by first | exact fun h => h | exact fun h => (Bool.and_eq_true_iff.1 h).1 | simp_all) trivial))) (And.intro (by first | exact fun h => h | exact fun h => (Bool.and_eq_true_iff.1 h).1 | simp_all) trivial))))))) ?_
  rw [← Option.some.inj h] at hk
  obtain ⟨rfl, rfl⟩ : d = (D.bool (bif (decide (t0.f0 < (0 : Int))) then true else (decide (t0.f0 ≥ ((t1.f0.1 : Nat) : Int))))) ∧ hp = [some (.box (D.cons (D.own 1) (D.cons (D.own 2) D.nil))), some (.seq 28 t1.f0.1 1 (D.arr t1.f0.1 1 fun i => (S_api_Rule.L (t1.f0.2 i).1 (t1.f0.2 i).2))), some (S_shadow_open.Q 72 t1.f1.1 t1.f1.2)] := hk
  refine runs_keep (ts := [3]) (env' := [(3, (D.bool (bif (decide (t0.f0 < (0 : Int))) then true else (decide (t0.f0 ≥ ((t1.f0.1 : Nat) : Int))))))]) (h2 := [some (.box (D.cons (D.own 1) (D.cons (D.own 2) D.nil))), some (.seq 28 t1.f0.1 1 (D.arr t1.f0.1 1 fun i => (S_api_Rule.L (t1.f0.2 i).1 (t1.f0.2 i).2))), some (S_shadow_open.Q 72 t1.f1.1 t1.f1.2), some (.box (S_api_Change.d t0))]) (by kernel_rfl) (And.intro (.inr rfl) (And.intro (.inr rfl) (And.intro (.inr rfl) (And.intro (.inr rfl) trivial)))) (Nat.le_of_ble_eq_true rfl) (And.intro (And.intro (bel_of rfl) (And.intro (bel_of rfl) trivial)) (And.intro (fun _ _ => (fun _ _ => (S_api_Rule.inn _))) (And.intro (fun _ _ => (S_shadow_open.inn _)) (And.intro (S_api_Change.inn _) trivial)))) (And.intro trivial trivial) ?_
  exact runs_ret (h2 := [some (.box (D.cons (D.own 1) (D.cons (D.own 2) D.nil))), some (.seq 28 t1.f0.1 1 (D.arr t1.f0.1 1 fun i => (S_api_Rule.L (t1.f0.2 i).1 (t1.f0.2 i).2))), some (S_shadow_open.Q 72 t1.f1.1 t1.f1.2)]) (by kernel_rfl) (And.intro (.inr rfl) (And.intro (.inr rfl) (And.intro (.inr rfl) trivial))) (Nat.le_of_ble_eq_true rfl) (And.intro (And.intro (bel_of rfl) (And.intro (bel_of rfl) trivial)) (And.intro (fun _ _ => (fun _ _ => (S_api_Rule.inn _))) (And.intro (fun _ _ => (S_shadow_open.inn _)) trivial))) trivial

theorem fc_shadow_Shadow_Begin_1 (t0 : S_api_Change) (t1 : S_shadow_Shadow) {r : Bool} (h : F_shadow_Shadow_Begin_1 t0 t1 = some r) : FC Tryz.prog 21 [(S_api_Change.d t0), (D.lptr (D.ptr 0 []))] [some (.box (D.cons (D.own 1) (D.cons (D.own 2) D.nil))), some (.seq 28 t1.f0.1 1 (D.arr t1.f0.1 1 fun i => (S_api_Rule.L (t1.f0.2 i).1 (t1.f0.2 i).2))), some (S_shadow_open.Q 72 t1.f1.1 t1.f1.2)] (D.bool r) [some (.box (D.cons (D.own 1) (D.cons (D.own 2) D.nil))), some (.seq 28 t1.f0.1 1 (D.arr t1.f0.1 1 fun i => (S_api_Rule.L (t1.f0.2 i).1 (t1.f0.2 i).2))), some (S_shadow_open.Q 72 t1.f1.1 t1.f1.2)] := by
  refine fc_of_runs (fn := Tryz.f21) (c := Tryz.f21.body.getD .skip) (by kernel_rfl) (by kernel_rfl) ?_
  refine runs_to (ts := [0, 1]) (T' := T_shadow_Shadow_Begin_1) (env' := [(0, (S_api_Change.d t0)), (1, (D.lptr (D.ptr 0 [])))]) (h2 := [some (.box (D.cons (D.own 1) (D.cons (D.own 2) D.nil))), some (.seq 28 t1.f0.1 1 (D.arr t1.f0.1 1 fun i => (S_api_Rule.L (t1.f0.2 i).1 (t1.f0.2 i).2))), some (S_shadow_open.Q 72 t1.f1.1 t1.f1.2)]) (by kernel_rfl) (by kernel_rfl) (And.intro (.inr rfl) (And.intro (.inr rfl) (And.intro (.inr rfl) trivial))) (Nat.le_refl _) (And.intro (And.intro (bel_of rfl) (And.intro (bel_of rfl) trivial)) (And.intro (fun _ _ => (fun _ _ => (S_api_Rule.inn _))) (And.intro (fun _ _ => (S_shadow_open.inn _)) trivial))) (And.intro (S_api_Change.inn _) (And.intro (bel_of rfl) trivial)) ?_
  exact run_shadow_Shadow_Begin_1 t0 t1 h ⟨rfl, rfl⟩

def K_slices_IndexFunc_api_Change_shadow_Shadow_Begin_1 (t1_0 : S_shadow_Shadow) (d : D) (hp : Heap) (r : Int) : Prop := d = (D.int .i64 r) ∧ hp = [some (.box (D.cons (D.own 1) (D.cons (D.own 2) D.nil))), some (.seq 28 t1_0.f0.1 1 (D.arr t1_0.f0.1 1 fun i => (S_api_Rule.L (t1_0.f0.2 i).1 (t1_0.f0.2 i).2))), some (S_shadow_open.Q 72 t1_0.f1.1 t1_0.f1.2)]

noncomputable def T_slices_IndexFunc_api_Change_shadow_Shadow_Begin_1 : List Item := norm 200 [.code (Tryz.f36.body.getD .skip)]

noncomputable def T_slices_IndexFunc_api_Change_shadow_Shadow_Begin_1_L1 : List Item := norm 200 (nxt (nxt T_slices_IndexFunc_api_Change_shadow_Shadow_Begin_1))

noncomputable def X_slices_IndexFunc_api_Change_shadow_Shadow_Begin_1_L1T : List Item := norm 200 (cndF (nxt (nxt (nxt T_slices_IndexFunc_api_Change_shadow_Shadow_Begin_1))))

abbrev E_slices_IndexFunc_api_Change_shadow_Shadow_Begin_1_L1 := Unit

def N_slices_IndexFunc_api_Change_shadow_Shadow_Begin_1_L1 (_fu : Nat) (t0 : (Nat × (Nat → S_api_Change))) (t7 : Int) (t1_0 : S_shadow_Shadow) (d : D) (hp : Heap) (s : Int) : Prop := Runs Tryz.prog Tryz.f36 3 T_slices_IndexFunc_api_Change_shadow_Shadow_Begin_1_L1 [(0, (S_api_Change.L t0.1 t0.2)), (1, (D.fn 21 (D.cons (D.lptr (D.ptr 0 [])) D.nil))), (7, (D.int .i64 t7)), (8, (D.int .i64 s))] [some (.box (D.cons (D.own 1) (D.cons (D.own 2) D.nil))), some (.seq 28 t1_0.f0.1 1 (D.arr t1_0.f0.1 1 fun i => (S_api_Rule.L (t1_0.f0.2 i).1 (t1_0.f0.2 i).2))), some (S_shadow_open.Q 72 t1_0.f1.1 t1_0.f1.2)] d hp

def X_slices_IndexFunc_api_Change_shadow_Shadow_Begin_1_L1 (_fu : Nat) (_t0 : (Nat × (Nat → S_api_Change))) (_t7 : Int) (t1_0 : S_shadow_Shadow) (d : D) (hp : Heap) : E_slices_IndexFunc_api_Change_shadow_Shadow_Begin_1_L1 ⊕ Int → Prop
  | .inl _ => Runs Tryz.prog Tryz.f36 3 X_slices_IndexFunc_api_Change_shadow_Shadow_Begin_1_L1T [] [some (.box (D.cons (D.own 1) (D.cons (D.own 2) D.nil))), some (.seq 28 t1_0.f0.1 1 (D.arr t1_0.f0.1 1 fun i => (S_api_Rule.L (t1_0.f0.2 i).1 (t1_0.f0.2 i).2))), some (S_shadow_open.Q 72 t1_0.f1.1 t1_0.f1.2)] d hp
  | .inr o => (K_slices_IndexFunc_api_Change_shadow_Shadow_Begin_1 t1_0 d hp) o

def F_slices_IndexFunc_api_Change_shadow_Shadow_Begin_1_L1 (_fu : Nat) (t0 : (Nat × (Nat → S_api_Change))) (t7 : Int) (t1_0 : S_shadow_Shadow) (t8 : Int) : Option (Lo Int E_slices_IndexFunc_api_Change_shadow_Shadow_Begin_1_L1 Int) :=
  ifs (decide (t8 < t7)) (
    chk (0 ≤ t8 ∧ t8 < ((t0.1 : Nat) : Int)) <|
    (F_shadow_Shadow_Begin_1 (t0.2 t8.toNat) t1_0).bind fun r0 =>
    ifs r0 (
      some (.ret t8)) (
      some (.next (IntKind.wrap .i64 (t8 + (1 : Int)))))) (
    some (.exit ()))

theorem run_slices_IndexFunc_api_Change_shadow_Shadow_Begin_1_L1 (fu : Nat) (t0 : (Nat × (Nat → S_api_Change))) (t7 : Int) (t1_0 : S_shadow_Shadow) (t8 : Int) {d : D} {hp : Heap} {o : (Lo Int E_slices_IndexFunc_api_Change_shadow_Shadow_Begin_1_L1 Int)} (h : F_slices_IndexFunc_api_Change_shadow_Shadow_Begin_1_L1 fu t0 t7 t1_0 t8 = some o) (hk : (Lo.post (N_slices_IndexFunc_api_Change_shadow_Shadow_Begin_1_L1 fu t0 t7 t1_0 d hp) (X_slices_IndexFunc_api_Change_shadow_Shadow_Begin_1_L1 fu t0 t7 t1_0 d hp)) o) : Runs Tryz.prog Tryz.f36 3 T_slices_IndexFunc_api_Change_shadow_Shadow_Begin_1_L1 [(0, (S_api_Change.L t0.1 t0.2)), (1, (D.fn 21 (D.cons (D.lptr (D.ptr 0 [])) D.nil))), (7, (D.int .i64 t7)), (8, (D.int .i64 t8))] [some (.box (D.cons (D.own 1) (D.cons (D.own 2) D.nil))), some (.seq 28 t1_0.f0.1 1 (D.arr t1_0.f0.1 1 fun i => (S_api_Rule.L (t1_0.f0.2 i).1 (t1_0.f0.2 i).2))), some (S_shadow_open.Q 72 t1_0.f1.1 t1_0.f1.2)] d hp := by
  unfold F_slices_IndexFunc_api_Change_shadow_Shadow_Begin_1_L1 at h
  refine runs_regions 1 [([], [0, 1, 7, 8, 9])] (z := ([], [(0, (S_api_Change.L t0.1 t0.2)), (1, (D.fn 21 (D.cons (D.lptr (D.ptr 0 [])) D.nil))), (7, (D.int .i64 t7)), (8, (D.int .i64 t8)), (9, (D.bool (decide (t8 < t7))))], [some (.box (D.cons (D.own 1) (D.cons (D.own 2) D.nil))), some (.seq 28 t1_0.f0.1 1 (D.arr t1_0.f0.1 1 fun i => (S_api_Rule.L (t1_0.f0.2 i).1 (t1_0.f0.2 i).2))), some (S_shadow_open.Q 72 t1_0.f1.1 t1_0.f1.2)])) rfl (by kernel_rfl) trivial ?_
  refine runs_if (b := (decide (t8 < t7))) (by kernel_rfl) (fun hb => ?_) (fun hb => ?_)
  · replace h := ifs_true h hb
    obtain ⟨p0, h⟩ := chk_some h
    obtain ⟨r0, cr0, h⟩ := Option.bind_eq_some_iff.1 h
    refine runs_regions 2 [([], [0, 1, 5, 7, 8]), ([(.look ([0, 1, 2] : List Nat) [(S_api_Change.d (t0.2 t8.toNat)), (D.lptr (D.ptr 0 []))] ([(.box (D.cons (D.own 1) (D.cons (D.own 2) D.nil))), (.seq 28 t1_0.f0.1 1 (D.arr t1_0.f0.1 1 fun i => (S_api_Rule.L (t1_0.f0.2 i).1 (t1_0.f0.2 i).2))), (S_shadow_open.Q 72 t1_0.f1.1 t1_0.f1.2)] : List Row) (D.bool r0))], [0, 1, 5, 7, 8, 16])] (z := ([(0 ≤ t8 ∧ t8 < ((t0.1 : Nat) : Int)), FC Tryz.prog 21 [(S_api_Change.d (t0.2 t8.toNat)), (D.lptr (D.ptr 0 []))] (List.map some ([(.box (D.cons (D.own 1) (D.cons (D.own 2) D.nil))), (.seq 28 t1_0.f0.1 1 (D.arr t1_0.f0.1 1 fun i => (S_api_Rule.L (t1_0.f0.2 i).1 (t1_0.f0.2 i).2))), (S_shadow_open.Q 72 t1_0.f1.1 t1_0.f1.2)] : List Row)) (D.bool r0) (List.map some ([(.box (D.cons (D.own 1) (D.cons (D.own 2) D.nil))), (.seq 28 t1_0.f0.1 1 (D.arr t1_0.f0.1 1 fun i => (S_api_Rule.L (t1_0.f0.2 i).1 (t1_0.f0.2 i).2))), (S_shadow_open.Q 72 t1_0.f1.1 t1_0.f1.2)] : List Row)), [(S_api_Change.d (t0.2 t8.toNat)), (D.lptr (D.ptr 0 []))] = List.map (D.ren (fun i => List.getD ([0, 1, 2] : List Nat) i 0)) [(S_api_Change.d (t0.2 t8.toNat)), (D.lptr (D.ptr 0 []))], RowsAt (fun i => List.getD ([0, 1, 2] : List Nat) i 0) ([some (.box (D.cons (D.own 1) (D.cons (D.own 2) D.nil))), some (.seq 28 t1_0.f0.1 1 (D.arr t1_0.f0.1 1 fun i => (S_api_Rule.L (t1_0.f0.2 i).1 (t1_0.f0.2 i).2))), some (S_shadow_open.Q 72 t1_0.f1.1 t1_0.f1.2)] : Heap) ([0, 1, 2] : List Nat) ([(.box (D.cons (D.own 1) (D.cons (D.own 2) D.nil))), (.seq 28 t1_0.f0.1 1 (D.arr t1_0.f0.1 1 fun i => (S_api_Rule.L (t1_0.f0.2 i).1 (t1_0.f0.2 i).2))), (S_shadow_open.Q 72 t1_0.f1.1 t1_0.f1.2)] : List Row), HIn (Bel (List.length ([0, 1, 2] : List Nat))) (List.map some ([(.box (D.cons (D.own 1) (D.cons (D.own 2) D.nil))), (.seq 28 t1_0.f0.1 1 (D.arr t1_0.f0.1 1 fun i => (S_api_Rule.L (t1_0.f0.2 i).1 (t1_0.f0.2 i).2))), (S_shadow_open.Q 72 t1_0.f1.1 t1_0.f1.2)] : List Row)), AllIn (Bel (List.length ([0, 1, 2] : List Nat))) [(S_api_Change.d (t0.2 t8.toNat)), (D.lptr (D.ptr 0 []))], D.In (Bel (List.length ([0, 1, 2] : List Nat))) (D.bool r0)], [(0, (S_api_Change.L t0.1 t0.2)), (1, (D.fn 21 (D.cons (D.lptr (D.ptr 0 [])) D.nil))), (5, (D.int .i64 t8)), (7, (D.int .i64 t7)), (8, (D.int .i64 t8)), (16, (D.bool r0))], [some (.box (D.cons (D.own 1) (D.cons (D.own 2) D.nil))), some (.seq 28 t1_0.f0.1 1 (D.arr t1_0.f0.1 1 fun i => (S_api_Rule.L (t1_0.f0.2 i).1 (t1_0.f0.2 i).2))), some (S_shadow_open.Q 72 t1_0.f1.1 t1_0.f1.2)])) rfl (by kernel_rfl) (And.intro p0 (And.intro (fc_shadow_Shadow_Begin_1 (t0.2 t8.toNat) t1_0 cr0) (And.intro rfl (And.intro (And.intro rfl (And.intro rfl (And.intro rfl trivial))) (And.intro (And.intro (And.intro (bel_of rfl) (And.intro (bel_of rfl) trivial)) (And.intro (fun _ _ => (fun _ _ => (S_api_Rule.inn _))) (And.intro (fun _ _ => (S_shadow_open.inn _)) trivial))) (And.intro (And.intro (S_api_Change.inn _) (And.intro (bel_of rfl) trivial)) (And.intro trivial trivial))))))) ?_
    refine runs_if (b := r0) (by kernel_rfl) (fun hb => ?_) (fun hb => ?_)
    · replace h := ifs_true h hb
      refine runs_regions 1 [([], [4])] (z := ([], [(4, (D.int .i64 t8))], [some (.box (D.cons (D.own 1) (D.cons (D.own 2) D.nil))), some (.seq 28 t1_0.f0.1 1 (D.arr t1_0.f0.1 1 fun i => (S_api_Rule.L (t1_0.f0.2 i).1 (t1_0.f0.2 i).2))), some (S_shadow_open.Q 72 t1_0.f1.1 t1_0.f1.2)])) rfl (by kernel_rfl) trivial ?_
      rw [← Option.some.inj h] at hk
      obtain ⟨rfl, rfl⟩ : d = (D.int .i64 t8) ∧ hp = [some (.box (D.cons (D.own 1) (D.cons (D.own 2) D.nil))), some (.seq 28 t1_0.f0.1 1 (D.arr t1_0.f0.1 1 fun i => (S_api_Rule.L (t1_0.f0.2 i).1 (t1_0.f0.2 i).2))), some (S_shadow_open.Q 72 t1_0.f1.1 t1_0.f1.2)] := hk
      refine runs_keep (ts := [4]) (env' := [(4, (D.int .i64 t8))]) (h2 := [some (.box (D.cons (D.own 1) (D.cons (D.own 2) D.nil))), some (.seq 28 t1_0.f0.1 1 (D.arr t1_0.f0.1 1 fun i => (S_api_Rule.L (t1_0.f0.2 i).1 (t1_0.f0.2 i).2))), some (S_shadow_open.Q 72 t1_0.f1.1 t1_0.f1.2)]) (by kernel_rfl) (And.intro (.inr rfl) (And.intro (.inr rfl) (And.intro (.inr rfl) trivial))) (Nat.le_of_ble_eq_true rfl) (And.intro (And.intro (bel_of rfl) (And.intro (bel_of rfl) trivial)) (And.intro (fun _ _ => (fun _ _ => (S_api_Rule.inn _))) (And.intro (fun _ _ => (S_shadow_open.inn _)) trivial))) (And.intro trivial trivial) ?_
      exact runs_ret (h2 := [some (.box (D.cons (D.own 1) (D.cons (D.own 2) D.nil))), some (.seq 28 t1_0.f0.1 1 (D.arr t1_0.f0.1 1 fun i => (S_api_Rule.L (t1_0.f0.2 i).1 (t1_0.f0.2 i).2))), some (S_shadow_open.Q 72 t1_0.f1.1 t1_0.f1.2)]) (by kernel_rfl) (And.intro (.inr rfl) (And.intro (.inr rfl) (And.intro (.inr rfl) trivial))) (Nat.le_of_ble_eq_true rfl) (And.intro (And.intro (bel_of rfl) (And.intro (bel_of rfl) trivial)) (And.intro (fun _ _ => (fun _ _ => (S_api_Rule.inn _))) (And.intro (fun _ _ => (S_shadow_open.inn _)) trivial))) trivial
    · replace h := ifs_false h hb
      refine runs_regions 1 [([], [0, 1, 7, 8])] (z := ([], [(0, (S_api_Change.L t0.1 t0.2)), (1, (D.fn 21 (D.cons (D.lptr (D.ptr 0 [])) D.nil))), (7, (D.int .i64 t7)), (8, (D.int .i64 (IntKind.wrap .i64 (t8 + (1 : Int)))))], [some (.box (D.cons (D.own 1) (D.cons (D.own 2) D.nil))), some (.seq 28 t1_0.f0.1 1 (D.arr t1_0.f0.1 1 fun i => (S_api_Rule.L (t1_0.f0.2 i).1 (t1_0.f0.2 i).2))), some (S_shadow_open.Q 72 t1_0.f1.1 t1_0.f1.2)])) rfl (by kernel_rfl) trivial ?_
      rw [← Option.some.inj h] at hk
      refine runs_to (ts := [0, 1, 7, 8]) (T' := T_slices_IndexFunc_api_Change_shadow_Shadow_Begin_1_L1) (env' := [(0, (S_api_Change.L t0.1 t0.2)), (1, (D.fn 21 (D.cons (D.lptr (D.ptr 0 [])) D.nil))), (7, (D.int .i64 t7)), (8, (D.int .i64 (IntKind.wrap .i64 (t8 + (1 : Int)))))]) (h2 := [some (.box (D.cons (D.own 1) (D.cons (D.own 2) D.nil))), some (.seq 28 t1_0.f0.1 1 (D.arr t1_0.f0.1 1 fun i => (S_api_Rule.L (t1_0.f0.2 i).1 (t1_0.f0.2 i).2))), some (S_shadow_open.Q 72 t1_0.f1.1 t1_0.f1.2)]) (by kernel_rfl) (by kernel_rfl) (And.intro (.inr rfl) (And.intro (.inr rfl) (And.intro (.inr rfl) trivial))) (Nat.le_of_ble_eq_true rfl) (And.intro (And.intro (bel_of rfl) (And.intro (bel_of rfl) trivial)) (And.intro (fun _ _ => (fun _ _ => (S_api_Rule.inn _))) (And.intro (fun _ _ => (S_shadow_open.inn _)) trivial))) (And.intro (fun _ _ => (S_api_Change.inn _)) (And.intro (And.intro (bel_of rfl) trivial) (And.intro trivial (And.intro trivial trivial)))) ?_
      exact hk
  · replace h := ifs_false h hb
    rw [← Option.some.inj h] at hk
    refine runs_to (ts := []) (T' := X_slices_IndexFunc_api_Change_shadow_Shadow_Begin_1_L1T) (env' := []) (h2 := [some (.box (D.cons (D.own 1) (D.cons (D.own 2) D.nil))), some (.seq 28 t1_0.f0.1 1 (D.arr t1_0.f0.1 1 fun i => (S_api_Rule.L (t1_0.f0.2 i).1 (t1_0.f0.2 i).2))), some (S_shadow_open.Q 72 t1_0.f1.1 t1_0.f1.2)]) (by kernel_rfl) (by kernel_rfl) (And.intro (.inr rfl) (And.intro (.inr rfl) (And.intro (.inr rfl) trivial))) (Nat.le_of_ble_eq_true rfl) (And.intro (And.intro (bel_of rfl) (And.intro (bel_of rfl) trivial)) (And.intro (fun _ _ => (fun _ _ => (S_api_Rule.inn _))) (And.intro (fun _ _ => (S_shadow_open.inn _)) trivial))) trivial ?_
    exact hk

theorem iter_slices_IndexFunc_api_Change_shadow_Shadow_Begin_1_L1 (fu : Nat) (t0 : (Nat × (Nat → S_api_Change))) (t7 : Int) (t1_0 : S_shadow_Shadow) {d : D} {hp : Heap} (k : Nat) (s : Int) {o : E_slices_IndexFunc_api_Change_shadow_Shadow_Begin_1_L1 ⊕ Int} (h : iter (fun s => F_slices_IndexFunc_api_Change_shadow_Shadow_Begin_1_L1 fu t0 t7 t1_0 s) k s = some o) (hx : X_slices_IndexFunc_api_Change_shadow_Shadow_Begin_1_L1 fu t0 t7 t1_0 d hp o) : N_slices_IndexFunc_api_Change_shadow_Shadow_Begin_1_L1 fu t0 t7 t1_0 d hp s :=
  iter_post (K := N_slices_IndexFunc_api_Change_shadow_Shadow_Begin_1_L1 fu t0 t7 t1_0 d hp) (X := X_slices_IndexFunc_api_Change_shadow_Shadow_Begin_1_L1 fu t0 t7 t1_0 d hp) (fun s _ h hk => run_slices_IndexFunc_api_Change_shadow_Shadow_Begin_1_L1 fu t0 t7 t1_0 s h hk) k s o h hx

/-- slices.IndexFunc[[]podesta/api.Change,podesta/api.Change] -/
def F_slices_IndexFunc_api_Change_shadow_Shadow_Begin_1 (fu : Nat) (t0 : (Nat × (Nat → S_api_Change))) (t1_0 : S_shadow_Shadow) : Option Int :=
  after (iter (fun s => F_slices_IndexFunc_api_Change_shadow_Shadow_Begin_1_L1 fu t0 ((t0.1 : Nat) : Int) t1_0 s) fu (0 : Int)) fun _ =>
  some (-1 : Int)

theorem run_slices_IndexFunc_api_Change_shadow_Shadow_Begin_1 (fu : Nat) (t0 : (Nat × (Nat → S_api_Change))) (t1_0 : S_shadow_Shadow) {d : D} {hp : Heap} {r : Int} (h : F_slices_IndexFunc_api_Change_shadow_Shadow_Begin_1 fu t0 t1_0 = some r) (hk : (K_slices_IndexFunc_api_Change_shadow_Shadow_Begin_1 t1_0 d hp) r) : Runs Tryz.prog Tryz.f36 3 T_slices_IndexFunc_api_Change_shadow_Shadow_Begin_1 [(0, (S_api_Change.L t0.1 t0.2)), (1, (D.fn 21 (D.cons (D.lptr (D.ptr 0 [])) D.nil)))] [some (.box (D.cons (D.own 1) (D.cons (D.own 2) D.nil))), some (.seq 28 t1_0.f0.1 1 (D.arr t1_0.f0.1 1 fun i => (S_api_Rule.L (t1_0.f0.2 i).1 (t1_0.f0.2 i).2))), some (S_shadow_open.Q 72 t1_0.f1.1 t1_0.f1.2)] d hp := by
  unfold F_slices_IndexFunc_api_Change_shadow_Shadow_Begin_1 at h
  refine runs_regions 2 [([], [0, 1]), ([], [0, 1, 7, 8])] (z := ([], [(0, (S_api_Change.L t0.1 t0.2)), (1, (D.fn 21 (D.cons (D.lptr (D.ptr 0 [])) D.nil))), (7, (D.int .i64 ((t0.1 : Nat) : Int))), (8, (D.int .i64 (0 : Int)))], [some (.box (D.cons (D.own 1) (D.cons (D.own 2) D.nil))), some (.seq 28 t1_0.f0.1 1 (D.arr t1_0.f0.1 1 fun i => (S_api_Rule.L (t1_0.f0.2 i).1 (t1_0.f0.2 i).2))), some (S_shadow_open.Q 72 t1_0.f1.1 t1_0.f1.2)])) rfl (by kernel_rfl) trivial ?_
  refine runs_to (ts := [0, 1, 7, 8]) (T' := T_slices_IndexFunc_api_Change_shadow_Shadow_Begin_1_L1) (env' := [(0, (S_api_Change.L t0.1 t0.2)), (1, (D.fn 21 (D.cons (D.lptr (D.ptr 0 [])) D.nil))), (7, (D.int .i64 ((t0.1 : Nat) : Int))), (8, (D.int .i64 (0 : Int)))]) (h2 := [some (.box (D.cons (D.own 1) (D.cons (D.own 2) D.nil))), some (.seq 28 t1_0.f0.1 1 (D.arr t1_0.f0.1 1 fun i => (S_api_Rule.L (t1_0.f0.2 i).1 (t1_0.f0.2 i).2))), some (S_shadow_open.Q 72 t1_0.f1.1 t1_0.f1.2)]) (by kernel_rfl) (by kernel_rfl) (And.intro (.inr rfl) (And.intro (.inr rfl) (And.intro (.inr rfl) trivial))) (Nat.le_of_ble_eq_true rfl) (And.intro (And.intro (bel_of rfl) (And.intro (bel_of rfl) trivial)) (And.intro (fun _ _ => (fun _ _ => (S_api_Rule.inn _))) (And.intro (fun _ _ => (S_shadow_open.inn _)) trivial))) (And.intro (fun _ _ => (S_api_Change.inn _)) (And.intro (And.intro (bel_of rfl) trivial) (And.intro trivial (And.intro trivial trivial)))) ?_
  rcases after_some h with ⟨e2, hi, h⟩ | hi
  · refine iter_slices_IndexFunc_api_Change_shadow_Shadow_Begin_1_L1 fu t0 ((t0.1 : Nat) : Int) t1_0 fu (0 : Int) hi ?_
    show Runs Tryz.prog Tryz.f36 3 X_slices_IndexFunc_api_Change_shadow_Shadow_Begin_1_L1T [] [some (.box (D.cons (D.own 1) (D.cons (D.own 2) D.nil))), some (.seq 28 t1_0.f0.1 1 (D.arr t1_0.f0.1 1 fun i => (S_api_Rule.L (t1_0.f0.2 i).1 (t1_0.f0.2 i).2))), some (S_shadow_open.Q 72 t1_0.f1.1 t1_0.f1.2)] d hp
    refine runs_regions 1 [([], [4])] (z := ([], [(4, (D.int .i64 (-1 : Int)))], [some (.box (D.cons (D.own 1) (D.cons (D.own 2) D.nil))), some (.seq 28 t1_0.f0.1 1 (D.arr t1_0.f0.1 1 fun i => (S_api_Rule.L (t1_0.f0.2 i).1 (t1_0.f0.2 i).2))), some (S_shadow_open.Q 72 t1_0.f1.1 t1_0.f1.2)])) rfl (by kernel_rfl) trivial ?_
    rw [← Option.some.inj h] at hk
    obtain ⟨rfl, rfl⟩ : d = (D.int .i64 (-1 : Int)) ∧ hp = [some (.box (D.cons (D.own 1) (D.cons (D.own 2) D.nil))), some (.seq 28 t1_0.f0.1 1 (D.arr t1_0.f0.1 1 fun i => (S_api_Rule.L (t1_0.f0.2 i).1 (t1_0.f0.2 i).2))), some (S_shadow_open.Q 72 t1_0.f1.1 t1_0.f1.2)] := hk
    refine runs_keep (ts := [4]) (env' := [(4, (D.int .i64 (-1 : Int)))]) (h2 := [some (.box (D.cons (D.own 1) (D.cons (D.own 2) D.nil))), some (.seq 28 t1_0.f0.1 1 (D.arr t1_0.f0.1 1 fun i => (S_api_Rule.L (t1_0.f0.2 i).1 (t1_0.f0.2 i).2))), some (S_shadow_open.Q 72 t1_0.f1.1 t1_0.f1.2)]) (by kernel_rfl) (And.intro (.inr rfl) (And.intro (.inr rfl) (And.intro (.inr rfl) trivial))) (Nat.le_of_ble_eq_true rfl) (And.intro (And.intro (bel_of rfl) (And.intro (bel_of rfl) trivial)) (And.intro (fun _ _ => (fun _ _ => (S_api_Rule.inn _))) (And.intro (fun _ _ => (S_shadow_open.inn _)) trivial))) (And.intro trivial trivial) ?_
    exact runs_ret (h2 := [some (.box (D.cons (D.own 1) (D.cons (D.own 2) D.nil))), some (.seq 28 t1_0.f0.1 1 (D.arr t1_0.f0.1 1 fun i => (S_api_Rule.L (t1_0.f0.2 i).1 (t1_0.f0.2 i).2))), some (S_shadow_open.Q 72 t1_0.f1.1 t1_0.f1.2)]) (by kernel_rfl) (And.intro (.inr rfl) (And.intro (.inr rfl) (And.intro (.inr rfl) trivial))) (Nat.le_of_ble_eq_true rfl) (And.intro (And.intro (bel_of rfl) (And.intro (bel_of rfl) trivial)) (And.intro (fun _ _ => (fun _ _ => (S_api_Rule.inn _))) (And.intro (fun _ _ => (S_shadow_open.inn _)) trivial))) trivial
  · exact iter_slices_IndexFunc_api_Change_shadow_Shadow_Begin_1_L1 fu t0 ((t0.1 : Nat) : Int) t1_0 fu (0 : Int) hi hk

theorem fc_slices_IndexFunc_api_Change_shadow_Shadow_Begin_1 (fu : Nat) (t0 : (Nat × (Nat → S_api_Change))) (t1_0 : S_shadow_Shadow) {r : Int} (h : F_slices_IndexFunc_api_Change_shadow_Shadow_Begin_1 fu t0 t1_0 = some r) : FC Tryz.prog 36 [(S_api_Change.L t0.1 t0.2), (D.fn 21 (D.cons (D.lptr (D.ptr 0 [])) D.nil))] [some (.box (D.cons (D.own 1) (D.cons (D.own 2) D.nil))), some (.seq 28 t1_0.f0.1 1 (D.arr t1_0.f0.1 1 fun i => (S_api_Rule.L (t1_0.f0.2 i).1 (t1_0.f0.2 i).2))), some (S_shadow_open.Q 72 t1_0.f1.1 t1_0.f1.2)] (D.int .i64 r) [some (.box (D.cons (D.own 1) (D.cons (D.own 2) D.nil))), some (.seq 28 t1_0.f0.1 1 (D.arr t1_0.f0.1 1 fun i => (S_api_Rule.L (t1_0.f0.2 i).1 (t1_0.f0.2 i).2))), some (S_shadow_open.Q 72 t1_0.f1.1 t1_0.f1.2)] := by
  refine fc_of_runs (fn := Tryz.f36) (c := Tryz.f36.body.getD .skip) (by kernel_rfl) (by kernel_rfl) ?_
  refine runs_to (ts := [0, 1]) (T' := T_slices_IndexFunc_api_Change_shadow_Shadow_Begin_1) (env' := [(0, (S_api_Change.L t0.1 t0.2)), (1, (D.fn 21 (D.cons (D.lptr (D.ptr 0 [])) D.nil)))]) (h2 := [some (.box (D.cons (D.own 1) (D.cons (D.own 2) D.nil))), some (.seq 28 t1_0.f0.1 1 (D.arr t1_0.f0.1 1 fun i => (S_api_Rule.L (t1_0.f0.2 i).1 (t1_0.f0.2 i).2))), some (S_shadow_open.Q 72 t1_0.f1.1 t1_0.f1.2)]) (by kernel_rfl) (by kernel_rfl) (And.intro (.inr rfl) (And.intro (.inr rfl) (And.intro (.inr rfl) trivial))) (Nat.le_refl _) (And.intro (And.intro (bel_of rfl) (And.intro (bel_of rfl) trivial)) (And.intro (fun _ _ => (fun _ _ => (S_api_Rule.inn _))) (And.intro (fun _ _ => (S_shadow_open.inn _)) trivial))) (And.intro (fun _ _ => (S_api_Change.inn _)) (And.intro (And.intro (bel_of rfl) trivial) trivial)) ?_
  exact run_slices_IndexFunc_api_Change_shadow_Shadow_Begin_1 fu t0 t1_0 h ⟨rfl, rfl⟩

def K_slices_ContainsFunc_api_Change_shadow_Shadow_Begin_1 (t1_0 : S_shadow_Shadow) (d : D) (hp : Heap) (r : Bool) : Prop := d = (D.bool r) ∧ hp = [some (.box (D.cons (D.own 1) (D.cons (D.own 2) D.nil))), some (.seq 28 t1_0.f0.1 1 (D.arr t1_0.f0.1 1 fun i => (S_api_Rule.L (t1_0.f0.2 i).1 (t1_0.f0.2 i).2))), some (S_shadow_open.Q 72 t1_0.f1.1 t1_0.f1.2)]

noncomputable def T_slices_ContainsFunc_api_Change_shadow_Shadow_Begin_1 : List Item := norm 200 [.code (Tryz.f20.body.getD .skip)]

/-- slices.ContainsFunc[[]podesta/api.Change,podesta/api.Change] -/
def F_slices_ContainsFunc_api_Change_shadow_Shadow_Begin_1 (fu : Nat) (t0 : (Nat × (Nat → S_api_Change))) (t1_0 : S_shadow_Shadow) : Option Bool :=
  (F_slices_IndexFunc_api_Change_shadow_Shadow_Begin_1 fu t0 t1_0).bind fun r0 =>
  some (decide (r0 ≥ (0 : Int)))

theorem run_slices_ContainsFunc_api_Change_shadow_Shadow_Begin_1 (fu : Nat) (t0 : (Nat × (Nat → S_api_Change))) (t1_0 : S_shadow_Shadow) {d : D} {hp : Heap} {r : Bool} (h : F_slices_ContainsFunc_api_Change_shadow_Shadow_Begin_1 fu t0 t1_0 = some r) (hk : (K_slices_ContainsFunc_api_Change_shadow_Shadow_Begin_1 t1_0 d hp) r) : Runs Tryz.prog Tryz.f20 3 T_slices_ContainsFunc_api_Change_shadow_Shadow_Begin_1 [(0, (S_api_Change.L t0.1 t0.2)), (1, (D.fn 21 (D.cons (D.lptr (D.ptr 0 [])) D.nil)))] [some (.box (D.cons (D.own 1) (D.cons (D.own 2) D.nil))), some (.seq 28 t1_0.f0.1 1 (D.arr t1_0.f0.1 1 fun i => (S_api_Rule.L (t1_0.f0.2 i).1 (t1_0.f0.2 i).2))), some (S_shadow_open.Q 72 t1_0.f1.1 t1_0.f1.2)] d hp := by
  unfold F_slices_ContainsFunc_api_Change_shadow_Shadow_Begin_1 at h
  obtain ⟨r0, cr0, h⟩ := Option.bind_eq_some_iff.1 h
  refine runs_regions 2 [([], [0, 1]), ([(.look ([0, 1, 2] : List Nat) [(S_api_Change.L t0.1 t0.2), (D.fn 21 (D.cons (D.lptr (D.ptr 0 [])) D.nil))] ([(.box (D.cons (D.own 1) (D.cons (D.own 2) D.nil))), (.seq 28 t1_0.f0.1 1 (D.arr t1_0.f0.1 1 fun i => (S_api_Rule.L (t1_0.f0.2 i).1 (t1_0.f0.2 i).2))), (S_shadow_open.Q 72 t1_0.f1.1 t1_0.f1.2)] : List Row) (D.int .i64 r0))], [4])] (z := ([FC Tryz.prog 36 [(S_api_Change.L t0.1 t0.2), (D.fn 21 (D.cons (D.lptr (D.ptr 0 [])) D.nil))] (List.map some ([(.box (D.cons (D.own 1) (D.cons (D.own 2) D.nil))), (.seq 28 t1_0.f0.1 1 (D.arr t1_0.f0.1 1 fun i => (S_api_Rule.L (t1_0.f0.2 i).1 (t1_0.f0.2 i).2))), (S_shadow_open.Q 72 t1_0.f1.1 t1_0.f1.2)] : List Row)) (D.int .i64 r0) (List.map some ([(.box (D.cons (D.own 1) (D.cons (D.own 2) D.nil))), (.seq 28 t1_0.f0.1 1 (D.arr t1_0.f0.1 1 fun i => (S_api_Rule.L (t1_0.f0.2 i).1 (t1_0.f0.2 i).2))), (S_shadow_open.Q 72 t1_0.f1.1 t1_0.f1.2)] : List Row)), [(S_api_Change.L t0.1 t0.2), (D.fn 21 (D.cons (D.lptr (D.ptr 0 [])) D.nil))] = List.map (D.ren (fun i => List.getD ([0, 1, 2] : List Nat) i 0)) [(S_api_Change.L t0.1 t0.2), (D.fn 21 (D.cons (D.lptr (D.ptr 0 [])) D.nil))], RowsAt (fun i => List.getD ([0, 1, 2] : List Nat) i 0) ([some (.box (D.cons (D.own 1) (D.cons (D.own 2) D.nil))), some (.seq 28 t1_0.f0.1 1 (D.arr t1_0.f0.1 1 fun i => (S_api_Rule.L (t1_0.f0.2 i).1 (t1_0.f0.2 i).2))), some (S_shadow_open.Q 72 t1_0.f1.1 t1_0.f1.2)] : Heap) ([0, 1, 2] : List Nat) ([(.box (D.cons (D.own 1) (D.cons (D.own 2) D.nil))), (.seq 28 t1_0.f0.1 1 (D.arr t1_0.f0.1 1 fun i => (S_api_Rule.L (t1_0.f0.2 i).1 (t1_0.f0.2 i).2))), (S_shadow_open.Q 72 t1_0.f1.1 t1_0.f1.2)] : List Row), HIn (Bel (List.length ([0, 1, 2] : List Nat))) (List.map some ([(.box (D.cons (D.own 1) (D.cons (D.own 2) D.nil))), (.seq 28 t1_0.f0.1 1 (D.arr t1_0.f0.1 1 fun i => (S_api_Rule.L (t1_0.f0.2 i).1 (t1_0.f0.2 i).2))), (S_shadow_open.Q 72 t1_0.f1.1 t1_0.f1.2)] : List Row)), AllIn (Bel (List.length ([0, 1, 2] : List Nat))) [(S_api_Change.L t0.1 t0.2), (D.fn 21 (D.cons (D.lptr (D.ptr 0 [])) D.nil))], D.In (Bel (List.length ([0, 1, 2] : List Nat))) (D.int .i64 r0)], [(4, (D.bool (decide (r0 ≥ (0 : Int)))))], [some (.box (D.cons (D.own 1) (D.cons (D.own 2) D.nil))), some (.seq 28 t1_0.f0.1 1 (D.arr t1_0.f0.1 1 fun i => (S_api_Rule.L (t1_0.f0.2 i).1 (t1_0.f0.2 i).2))), some (S_shadow_open.Q 72 t1_0.f1.1 t1_0.f1.2)])) rfl (by kernel_rfl) (And.intro (fc_slices_IndexFunc_api_Change_shadow_Shadow_Begin_1 fu t0 t1_0 cr0) (And.intro rfl (And.intro (And.intro rfl (And.intro rfl (And.intro rfl trivial))) (And.intro (And.intro (And.intro (bel_of rfl) (And.intro (bel_of rfl) trivial)) (And.intro (fun _ _ => (fun _ _ => (S_api_Rule.inn _))) (And.intro (fun _ _ => (S_shadow_open.inn _)) trivial))) (And.intro (And.intro (fun _ _ => (S_api_Change.inn _)) (And.intro (And.intro (bel_of rfl) trivial) trivial)) (And.intro trivial trivial)))))) ?_
  rw [← Option.some.inj h] at hk
  obtain ⟨rfl, rfl⟩ : d = (D.bool (decide (r0 ≥ (0 : Int)))) ∧ hp = [some (.box (D.cons (D.own 1) (D.cons (D.own 2) D.nil))), some (.seq 28 t1_0.f0.1 1 (D.arr t1_0.f0.1 1 fun i => (S_api_Rule.L (t1_0.f0.2 i).1 (t1_0.f0.2 i).2))), some (S_shadow_open.Q 72 t1_0.f1.1 t1_0.f1.2)] := hk
  refine runs_keep (ts := [4]) (env' := [(4, (D.bool (decide (r0 ≥ (0 : Int)))))]) (h2 := [some (.box (D.cons (D.own 1) (D.cons (D.own 2) D.nil))), some (.seq 28 t1_0.f0.1 1 (D.arr t1_0.f0.1 1 fun i => (S_api_Rule.L (t1_0.f0.2 i).1 (t1_0.f0.2 i).2))), some (S_shadow_open.Q 72 t1_0.f1.1 t1_0.f1.2)]) (by kernel_rfl) (And.intro (.inr rfl) (And.intro (.inr rfl) (And.intro (.inr rfl) trivial))) (Nat.le_of_ble_eq_true rfl) (And.intro (And.intro (bel_of rfl) (And.intro (bel_of rfl) trivial)) (And.intro (fun _ _ => (fun _ _ => (S_api_Rule.inn _))) (And.intro (fun _ _ => (S_shadow_open.inn _)) trivial))) (And.intro trivial trivial) ?_
  exact runs_ret (h2 := [some (.box (D.cons (D.own 1) (D.cons (D.own 2) D.nil))), some (.seq 28 t1_0.f0.1 1 (D.arr t1_0.f0.1 1 fun i => (S_api_Rule.L (t1_0.f0.2 i).1 (t1_0.f0.2 i).2))), some (S_shadow_open.Q 72 t1_0.f1.1 t1_0.f1.2)]) (by kernel_rfl) (And.intro (.inr rfl) (And.intro (.inr rfl) (And.intro (.inr rfl) trivial))) (Nat.le_of_ble_eq_true rfl) (And.intro (And.intro (bel_of rfl) (And.intro (bel_of rfl) trivial)) (And.intro (fun _ _ => (fun _ _ => (S_api_Rule.inn _))) (And.intro (fun _ _ => (S_shadow_open.inn _)) trivial))) trivial

theorem fc_slices_ContainsFunc_api_Change_shadow_Shadow_Begin_1 (fu : Nat) (t0 : (Nat × (Nat → S_api_Change))) (t1_0 : S_shadow_Shadow) {r : Bool} (h : F_slices_ContainsFunc_api_Change_shadow_Shadow_Begin_1 fu t0 t1_0 = some r) : FC Tryz.prog 20 [(S_api_Change.L t0.1 t0.2), (D.fn 21 (D.cons (D.lptr (D.ptr 0 [])) D.nil))] [some (.box (D.cons (D.own 1) (D.cons (D.own 2) D.nil))), some (.seq 28 t1_0.f0.1 1 (D.arr t1_0.f0.1 1 fun i => (S_api_Rule.L (t1_0.f0.2 i).1 (t1_0.f0.2 i).2))), some (S_shadow_open.Q 72 t1_0.f1.1 t1_0.f1.2)] (D.bool r) [some (.box (D.cons (D.own 1) (D.cons (D.own 2) D.nil))), some (.seq 28 t1_0.f0.1 1 (D.arr t1_0.f0.1 1 fun i => (S_api_Rule.L (t1_0.f0.2 i).1 (t1_0.f0.2 i).2))), some (S_shadow_open.Q 72 t1_0.f1.1 t1_0.f1.2)] := by
  refine fc_of_runs (fn := Tryz.f20) (c := Tryz.f20.body.getD .skip) (by kernel_rfl) (by kernel_rfl) ?_
  refine runs_to (ts := [0, 1]) (T' := T_slices_ContainsFunc_api_Change_shadow_Shadow_Begin_1) (env' := [(0, (S_api_Change.L t0.1 t0.2)), (1, (D.fn 21 (D.cons (D.lptr (D.ptr 0 [])) D.nil)))]) (h2 := [some (.box (D.cons (D.own 1) (D.cons (D.own 2) D.nil))), some (.seq 28 t1_0.f0.1 1 (D.arr t1_0.f0.1 1 fun i => (S_api_Rule.L (t1_0.f0.2 i).1 (t1_0.f0.2 i).2))), some (S_shadow_open.Q 72 t1_0.f1.1 t1_0.f1.2)]) (by kernel_rfl) (by kernel_rfl) (And.intro (.inr rfl) (And.intro (.inr rfl) (And.intro (.inr rfl) trivial))) (Nat.le_refl _) (And.intro (And.intro (bel_of rfl) (And.intro (bel_of rfl) trivial)) (And.intro (fun _ _ => (fun _ _ => (S_api_Rule.inn _))) (And.intro (fun _ _ => (S_shadow_open.inn _)) trivial))) (And.intro (fun _ _ => (S_api_Change.inn _)) (And.intro (And.intro (bel_of rfl) trivial) trivial)) ?_
  exact run_slices_ContainsFunc_api_Change_shadow_Shadow_Begin_1 fu t0 t1_0 h ⟨rfl, rfl⟩

def K_shadow_Shadow_Begin (d : D) (hp : Heap) (r : (Int × S_shadow_Shadow)) : Prop := d = (D.int .i64 r.1) ∧ hp = [some (.box (D.cons (D.own 3) (D.cons (D.own 4) D.nil))), none, none, some (.seq 28 r.2.f0.1 1 (D.arr r.2.f0.1 1 fun i => (S_api_Rule.L (r.2.f0.2 i).1 (r.2.f0.2 i).2))), some (S_shadow_open.Q 72 r.2.f1.1 r.2.f1.2)]

noncomputable def T_shadow_Shadow_Begin : List Item := norm 200 [.code (Tryz.f8.body.getD .skip)]

/-- (*podesta/shadow.Shadow).Begin -/
def F_shadow_Shadow_Begin (fu : Nat) (t0 : S_shadow_Shadow) (t1 : Int) (t2 : (Nat × (Nat → S_api_Change))) : Option (Int × S_shadow_Shadow) :=
  (F_shadow_Shadow_find fu t0 t1).bind fun r0 =>
  ifs (decide (r0 ≥ (0 : Int))) (
    some ((5 : Int), t0)) (
    (F_slices_ContainsFunc_api_Change_shadow_Shadow_Begin_1 fu t2 t0).bind fun r1 =>
    ifs r1 (
      some ((1 : Int), t0)) (
      (F_slices_Clone_api_Change t2).bind fun r2 =>
      chk (RoomOk (t0.f1.1 + 1) 32) <|
      some ((0 : Int), (S_shadow_Shadow.mk t0.f0 ((t0.f1.1 + 1), (fun i => if i < t0.f1.1 then t0.f1.2 i else (fun i => ([(S_shadow_open.mk t1 r2)] : List S_shadow_open).getD i S_shadow_open.z) (i - t0.f1.1)))))))

theorem run_shadow_Shadow_Begin (fu : Nat) (t0 : S_shadow_Shadow) (t1 : Int) (t2 : (Nat × (Nat → S_api_Change))) {d : D} {hp : Heap} {r : (Int × S_shadow_Shadow)} (h : F_shadow_Shadow_Begin fu t0 t1 t2 = some r) (hk : (K_shadow_Shadow_Begin d hp) r) : Runs Tryz.prog Tryz.f8 3 T_shadow_Shadow_Begin [(0, (D.ptr 0 [])), (1, (D.int .i64 t1)), (2, (S_api_Change.L t2.1 t2.2))] [some (.box (D.cons (D.own 1) (D.cons (D.own 2) D.nil))), some (.seq 28 t0.f0.1 1 (D.arr t0.f0.1 1 fun i => (S_api_Rule.L (t0.f0.2 i).1 (t0.f0.2 i).2))), some (S_shadow_open.Q 72 t0.f1.1 t0.f1.2)] d hp := by
  unfold F_shadow_Shadow_Begin at h
  refine runs_regions 2 [([], [1, 2, 3]), ([], [1, 2, 3, 7])] (z := ([], [(1, (D.int .i64 t1)), (2, (S_api_Change.L t2.1 t2.2)), (3, (D.ptr 3 [])), (7, (D.bool false))], [some (.box (D.cons (D.own 1) (D.cons (D.own 2) D.nil))), some (.seq 28 t0.f0.1 1 (D.arr t0.f0.1 1 fun i => (S_api_Rule.L (t0.f0.2 i).1 (t0.f0.2 i).2))), some (S_shadow_open.Q 72 t0.f1.1 t0.f1.2), some (.box (D.ptr 0 []))])) rfl (by kernel_rfl) trivial ?_
  refine runs_if (b := false) (by kernel_rfl) (fun hb => by cases hb) (fun hb => ?_)
  obtain ⟨r0, cr0, h⟩ := Option.bind_eq_some_iff.1 h
  refine runs_regions 1 [([(.look ([0, 1, 2] : List Nat) [(D.ptr 0 []), (D.int .i64 t1)] ([(.box (D.cons (D.own 1) (D.cons (D.own 2) D.nil))), (.seq 28 t0.f0.1 1 (D.arr t0.f0.1 1 fun i => (S_api_Rule.L (t0.f0.2 i).1 (t0.f0.2 i).2))), (S_shadow_open.Q 72 t0.f1.1 t0.f1.2)] : List Row) (D.int .i64 r0))], [1, 2, 3, 10])] (z := ([FC Tryz.prog 19 [(D.ptr 0 []), (D.int .i64 t1)] (List.map some ([(.box (D.cons (D.own 1) (D.cons (D.own 2) D.nil))), (.seq 28 t0.f0.1 1 (D.arr t0.f0.1 1 fun i => (S_api_Rule.L (t0.f0.2 i).1 (t0.f0.2 i).2))), (S_shadow_open.Q 72 t0.f1.1 t0.f1.2)] : List Row)) (D.int .i64 r0) (List.map some ([(.box (D.cons (D.own 1) (D.cons (D.own 2) D.nil))), (.seq 28 t0.f0.1 1 (D.arr t0.f0.1 1 fun i => (S_api_Rule.L (t0.f0.2 i).1 (t0.f0.2 i).2))), (S_shadow_open.Q 72 t0.f1.1 t0.f1.2)] : List Row)), [(D.ptr 0 []), (D.int .i64 t1)] = List.map (D.ren (fun i => List.getD ([0, 1, 2] : List Nat) i 0)) [(D.ptr 0 []), (D.int .i64 t1)], RowsAt (fun i => List.getD ([0, 1, 2] : List Nat) i 0) ([some (.box (D.cons (D.own 1) (D.cons (D.own 2) D.nil))), some (.seq 28 t0.f0.1 1 (D.arr t0.f0.1 1 fun i => (S_api_Rule.L (t0.f0.2 i).1 (t0.f0.2 i).2))), some (S_shadow_open.Q 72 t0.f1.1 t0.f1.2), some (.box (D.ptr 0 []))] : Heap) ([0, 1, 2] : List Nat) ([(.box (D.cons (D.own 1) (D.cons (D.own 2) D.nil))), (.seq 28 t0.f0.1 1 (D.arr t0.f0.1 1 fun i => (S_api_Rule.L (t0.f0.2 i).1 (t0.f0.2 i).2))), (S_shadow_open.Q 72 t0.f1.1 t0.f1.2)] : List Row), HIn (Bel (List.length ([0, 1, 2] : List Nat))) (List.map some ([(.box (D.cons (D.own 1) (D.cons (D.own 2) D.nil))), (.seq 28 t0.f0.1 1 (D.arr t0.f0.1 1 fun i => (S_api_Rule.L (t0.f0.2 i).1 (t0.f0.2 i).2))), (S_shadow_open.Q 72 t0.f1.1 t0.f1.2)] : List Row)), AllIn (Bel (List.length ([0, 1, 2] : List Nat))) [(D.ptr 0 []), (D.int .i64 t1)], D.In (Bel (List.length ([0, 1, 2] : List Nat))) (D.int .i64 r0)], [(1, (D.int .i64 t1)), (2, (S_api_Change.L t2.1 t2.2)), (3, (D.ptr 3 [])), (10, (D.bool (decide (r0 ≥ (0 : Int)))))], [some (.box (D.cons (D.own 1) (D.cons (D.own 2) D.nil))), some (.seq 28 t0.f0.1 1 (D.arr t0.f0.1 1 fun i => (S_api_Rule.L (t0.f0.2 i).1 (t0.f0.2 i).2))), some (S_shadow_open.Q 72 t0.f1.1 t0.f1.2), some (.box (D.ptr 0 []))])) rfl (by kernel_rfl) (And.intro (fc_shadow_Shadow_find fu t0 t1 cr0) (And.intro rfl (And.intro (And.intro rfl (And.intro rfl (And.intro rfl trivial))) (And.intro (And.intro (And.intro (bel_of rfl) (And.intro (bel_of rfl) trivial)) (And.intro (fun _ _ => (fun _ _ => (S_api_Rule.inn _))) (And.intro (fun _ _ => (S_shadow_open.inn _)) trivial))) (And.intro (And.intro (bel_of rfl) (And.intro trivial trivial)) (And.intro trivial trivial)))))) ?_
  refine runs_if (b := (decide (r0 ≥ (0 : Int)))) (by kernel_rfl) (fun hb => ?_) (fun hb => ?_)
  · replace h := ifs_true h hb
    refine runs_regions 1 [([], [6])] (z := ([], [(6, (D.int .i64 (5 : Int)))], [some (.box (D.cons (D.own 1) (D.cons (D.own 2) D.nil))), some (.seq 28 t0.f0.1 1 (D.arr t0.f0.1 1 fun i => (S_api_Rule.L (t0.f0.2 i).1 (t0.f0.2 i).2))), some (S_shadow_open.Q 72 t0.f1.1 t0.f1.2), some (.box (D.ptr 0 []))])) rfl (by kernel_rfl) trivial ?_
    rw [← Option.some.inj h] at hk
    obtain ⟨rfl, rfl⟩ : d = (D.int .i64 (5 : Int)) ∧ hp = [some (.box (D.cons (D.own 3) (D.cons (D.own 4) D.nil))), none, none, some (.seq 28 t0.f0.1 1 (D.arr t0.f0.1 1 fun i => (S_api_Rule.L (t0.f0.2 i).1 (t0.f0.2 i).2))), some (S_shadow_open.Q 72 t0.f1.1 t0.f1.2)] := hk
    refine runs_keep (ts := [6]) (env' := [(6, (D.int .i64 (5 : Int)))]) (h2 := [some (.box (D.cons (D.own 1) (D.cons (D.own 2) D.nil))), some (.seq 28 t0.f0.1 1 (D.arr t0.f0.1 1 fun i => (S_api_Rule.L (t0.f0.2 i).1 (t0.f0.2 i).2))), some (S_shadow_open.Q 72 t0.f1.1 t0.f1.2), some (.box (D.ptr 0 []))]) (by kernel_rfl) (And.intro (.inr rfl) (And.intro (.inr rfl) (And.intro (.inr rfl) (And.intro (.inr rfl) trivial)))) (Nat.le_of_ble_eq_true rfl) (And.intro (And.intro (bel_of rfl) (And.intro (bel_of rfl) trivial)) (And.intro (fun _ _ => (fun _ _ => (S_api_Rule.inn _))) (And.intro (fun _ _ => (S_shadow_open.inn _)) (And.intro (bel_of rfl) trivial)))) (And.intro trivial trivial) ?_
    refine runs_pad ?_
    refine runs_rename 4 2 (row := (S_shadow_open.Q 72 t0.f1.1 t0.f1.2)) (by decide) (by decide) rfl rfl (And.intro (And.intro (rn_own rfl) (And.intro (rn_own rfl) trivial)) (And.intro (fun _ _ => (fun _ _ => (S_api_Rule.inn _))) (And.intro (fun _ _ => (S_shadow_open.inn _)) (And.intro (rn_ptr rfl) trivial)))) (And.intro trivial trivial) ?_
    refine runs_eq (env2 := [(6, (D.int .i64 (5 : Int)))]) (h2 := [some (.box (D.cons (D.own 1) (D.cons (D.own 4) D.nil))), some (.seq 28 t0.f0.1 1 (D.arr t0.f0.1 1 fun i => (S_api_Rule.L (t0.f0.2 i).1 (t0.f0.2 i).2))), none, some (.box (D.ptr 0 [])), some (S_shadow_open.Q 72 t0.f1.1 t0.f1.2)]) (by kernel_rfl) (by kernel_rfl) ?_
    refine runs_pad ?_
    refine runs_rename 5 3 (row := (.box (D.ptr 0 []))) (by decide) (by decide) rfl rfl (And.intro (And.intro (rn_own rfl) (And.intro (rn_own rfl) trivial)) (And.intro (fun _ _ => (fun _ _ => (S_api_Rule.inn _))) (And.intro (rn_ptr rfl) (And.intro (fun _ _ => (S_shadow_open.inn _)) trivial)))) (And.intro trivial trivial) ?_
    refine runs_eq (env2 := [(6, (D.int .i64 (5 : Int)))]) (h2 := [some (.box (D.cons (D.own 1) (D.cons (D.own 4) D.nil))), some (.seq 28 t0.f0.1 1 (D.arr t0.f0.1 1 fun i => (S_api_Rule.L (t0.f0.2 i).1 (t0.f0.2 i).2))), none, none, some (S_shadow_open.Q 72 t0.f1.1 t0.f1.2), some (.box (D.ptr 0 []))]) (by kernel_rfl) (by kernel_rfl) ?_
    refine runs_rename 3 1 (row := (.seq 28 t0.f0.1 1 (D.arr t0.f0.1 1 fun i => (S_api_Rule.L (t0.f0.2 i).1 (t0.f0.2 i).2)))) (by decide) (by decide) rfl rfl (And.intro (And.intro (rn_own rfl) (And.intro (rn_own rfl) trivial)) (And.intro (fun _ _ => (fun _ _ => (S_api_Rule.inn _))) (And.intro (fun _ _ => (S_shadow_open.inn _)) (And.intro (rn_ptr rfl) trivial)))) (And.intro trivial trivial) ?_
    refine runs_eq (env2 := [(6, (D.int .i64 (5 : Int)))]) (h2 := [some (.box (D.cons (D.own 3) (D.cons (D.own 4) D.nil))), none, none, some (.seq 28 t0.f0.1 1 (D.arr t0.f0.1 1 fun i => (S_api_Rule.L (t0.f0.2 i).1 (t0.f0.2 i).2))), some (S_shadow_open.Q 72 t0.f1.1 t0.f1.2), some (.box (D.ptr 0 []))]) (by kernel_rfl) (by kernel_rfl) ?_
    exact runs_ret (h2 := [some (.box (D.cons (D.own 3) (D.cons (D.own 4) D.nil))), none, none, some (.seq 28 t0.f0.1 1 (D.arr t0.f0.1 1 fun i => (S_api_Rule.L (t0.f0.2 i).1 (t0.f0.2 i).2))), some (S_shadow_open.Q 72 t0.f1.1 t0.f1.2)]) (by kernel_rfl) (And.intro (.inr rfl) (And.intro (.inl rfl) (And.intro (.inl rfl) (And.intro (.inr rfl) (And.intro (.inr rfl) trivial))))) (Nat.le_of_ble_eq_true rfl) (And.intro (And.intro (bel_of rfl) (And.intro (bel_of rfl) trivial)) (And.intro (fun _ _ => (fun _ _ => (S_api_Rule.inn _))) (And.intro (fun _ _ => (S_shadow_open.inn _)) trivial))) trivial
  · replace h := ifs_false h hb
    refine runs_freeze 3 (row := (.box (D.ptr 0 []))) rfl ?_
    obtain ⟨r1, cr1, h⟩ := Option.bind_eq_some_iff.1 h
    refine runs_regions 1 [([(.look ([0, 1, 2] : List Nat) [(S_api_Change.L t2.1 t2.2), (D.fn 21 (D.cons (D.lptr (D.ptr 0 [])) D.nil))] ([(.box (D.cons (D.own 1) (D.cons (D.own 2) D.nil))), (.seq 28 t0.f0.1 1 (D.arr t0.f0.1 1 fun i => (S_api_Rule.L (t0.f0.2 i).1 (t0.f0.2 i).2))), (S_shadow_open.Q 72 t0.f1.1 t0.f1.2)] : List Row) (D.bool r1))], [1, 2, 3, 15])] (z := ([FC Tryz.prog 20 [(S_api_Change.L t2.1 t2.2), (D.fn 21 (D.cons (D.lptr (D.ptr 0 [])) D.nil))] (List.map some ([(.box (D.cons (D.own 1) (D.cons (D.own 2) D.nil))), (.seq 28 t0.f0.1 1 (D.arr t0.f0.1 1 fun i => (S_api_Rule.L (t0.f0.2 i).1 (t0.f0.2 i).2))), (S_shadow_open.Q 72 t0.f1.1 t0.f1.2)] : List Row)) (D.bool r1) (List.map some ([(.box (D.cons (D.own 1) (D.cons (D.own 2) D.nil))), (.seq 28 t0.f0.1 1 (D.arr t0.f0.1 1 fun i => (S_api_Rule.L (t0.f0.2 i).1 (t0.f0.2 i).2))), (S_shadow_open.Q 72 t0.f1.1 t0.f1.2)] : List Row)), [(S_api_Change.L t2.1 t2.2), (D.fn 21 (D.cons (D.lptr (D.ptr 0 [])) D.nil))] = List.map (D.ren (fun i => List.getD ([0, 1, 2] : List Nat) i 0)) [(S_api_Change.L t2.1 t2.2), (D.fn 21 (D.cons (D.lptr (D.ptr 0 [])) D.nil))], RowsAt (fun i => List.getD ([0, 1, 2] : List Nat) i 0) ([some (.box (D.cons (D.own 1) (D.cons (D.own 2) D.nil))), some (.seq 28 t0.f0.1 1 (D.arr t0.f0.1 1 fun i => (S_api_Rule.L (t0.f0.2 i).1 (t0.f0.2 i).2))), some (S_shadow_open.Q 72 t0.f1.1 t0.f1.2), none] : Heap) ([0, 1, 2] : List Nat) ([(.box (D.cons (D.own 1) (D.cons (D.own 2) D.nil))), (.seq 28 t0.f0.1 1 (D.arr t0.f0.1 1 fun i => (S_api_Rule.L (t0.f0.2 i).1 (t0.f0.2 i).2))), (S_shadow_open.Q 72 t0.f1.1 t0.f1.2)] : List Row), HIn (Bel (List.length ([0, 1, 2] : List Nat))) (List.map some ([(.box (D.cons (D.own 1) (D.cons (D.own 2) D.nil))), (.seq 28 t0.f0.1 1 (D.arr t0.f0.1 1 fun i => (S_api_Rule.L (t0.f0.2 i).1 (t0.f0.2 i).2))), (S_shadow_open.Q 72 t0.f1.1 t0.f1.2)] : List Row)), AllIn (Bel (List.length ([0, 1, 2] : List Nat))) [(S_api_Change.L t2.1 t2.2), (D.fn 21 (D.cons (D.lptr (D.ptr 0 [])) D.nil))], D.In (Bel (List.length ([0, 1, 2] : List Nat))) (D.bool r1)], [(1, (D.int .i64 t1)), (2, (S_api_Change.L t2.1 t2.2)), (3, (D.lptr (D.ptr 0 []))), (15, (D.bool r1))], [some (.box (D.cons (D.own 1) (D.cons (D.own 2) D.nil))), some (.seq 28 t0.f0.1 1 (D.arr t0.f0.1 1 fun i => (S_api_Rule.L (t0.f0.2 i).1 (t0.f0.2 i).2))), some (S_shadow_open.Q 72 t0.f1.1 t0.f1.2), none])) rfl (by kernel_rfl) (And.intro (fc_slices_ContainsFunc_api_Change_shadow_Shadow_Begin_1 fu t2 t0 cr1) (And.intro rfl (And.intro (And.intro rfl (And.intro rfl (And.intro rfl trivial))) (And.intro (And.intro (And.intro (bel_of rfl) (And.intro (bel_of rfl) trivial)) (And.intro (fun _ _ => (fun _ _ => (S_api_Rule.inn _))) (And.intro (fun _ _ => (S_shadow_open.inn _)) trivial))) (And.intro (And.intro (fun _ _ => (S_api_Change.inn _)) (And.intro (And.intro (bel_of rfl) trivial) trivial)) (And.intro trivial trivial)))))) ?_
    refine runs_if (b := r1) (by kernel_rfl) (fun hb => ?_) (fun hb => ?_)
    · replace h := ifs_true h hb
      refine runs_regions 1 [([], [6])] (z := ([], [(6, (D.int .i64 (1 : Int)))], [some (.box (D.cons (D.own 1) (D.cons (D.own 2) D.nil))), some (.seq 28 t0.f0.1 1 (D.arr t0.f0.1 1 fun i => (S_api_Rule.L (t0.f0.2 i).1 (t0.f0.2 i).2))), some (S_shadow_open.Q 72 t0.f1.1 t0.f1.2), none])) rfl (by kernel_rfl) trivial ?_
      rw [← Option.some.inj h] at hk
      obtain ⟨rfl, rfl⟩ : d = (D.int .i64 (1 : Int)) ∧ hp = [some (.box (D.cons (D.own 3) (D.cons (D.own 4) D.nil))), none, none, some (.seq 28 t0.f0.1 1 (D.arr t0.f0.1 1 fun i => (S_api_Rule.L (t0.f0.2 i).1 (t0.f0.2 i).2))), some (S_shadow_open.Q 72 t0.f1.1 t0.f1.2)] := hk
      refine runs_keep (ts := [6]) (env' := [(6, (D.int .i64 (1 : Int)))]) (h2 := [some (.box (D.cons (D.own 1) (D.cons (D.own 2) D.nil))), some (.seq 28 t0.f0.1 1 (D.arr t0.f0.1 1 fun i => (S_api_Rule.L (t0.f0.2 i).1 (t0.f0.2 i).2))), some (S_shadow_open.Q 72 t0.f1.1 t0.f1.2), none]) (by kernel_rfl) (And.intro (.inr rfl) (And.intro (.inr rfl) (And.intro (.inr rfl) (And.intro (.inl rfl) trivial)))) (Nat.le_of_ble_eq_true rfl) (And.intro (And.intro (bel_of rfl) (And.intro (bel_of rfl) trivial)) (And.intro (fun _ _ => (fun _ _ => (S_api_Rule.inn _))) (And.intro (fun _ _ => (S_shadow_open.inn _)) trivial))) (And.intro trivial trivial) ?_
      refine runs_rename 3 1 (row := (.seq 28 t0.f0.1 1 (D.arr t0.f0.1 1 fun i => (S_api_Rule.L (t0.f0.2 i).1 (t0.f0.2 i).2)))) (by decide) (by decide) rfl rfl (And.intro (And.intro (rn_own rfl) (And.intro (rn_own rfl) trivial)) (And.intro (fun _ _ => (fun _ _ => (S_api_Rule.inn _))) (And.intro (fun _ _ => (S_shadow_open.inn _)) trivial))) (And.intro trivial trivial) ?_
      refine runs_eq (env2 := [(6, (D.int .i64 (1 : Int)))]) (h2 := [some (.box (D.cons (D.own 3) (D.cons (D.own 2) D.nil))), none, some (S_shadow_open.Q 72 t0.f1.1 t0.f1.2), some (.seq 28 t0.f0.1 1 (D.arr t0.f0.1 1 fun i => (S_api_Rule.L (t0.f0.2 i).1 (t0.f0.2 i).2)))]) (by kernel_rfl) (by kernel_rfl) ?_
      refine runs_pad ?_
      refine runs_rename 4 2 (row := (S_shadow_open.Q 72 t0.f1.1 t0.f1.2)) (by decide) (by decide) rfl rfl (And.intro (And.intro (rn_own rfl) (And.intro (rn_own rfl) trivial)) (And.intro (fun _ _ => (S_shadow_open.inn _)) (And.intro (fun _ _ => (fun _ _ => (S_api_Rule.inn _))) trivial))) (And.intro trivial trivial) ?_
      refine runs_eq (env2 := [(6, (D.int .i64 (1 : Int)))]) (h2 := [some (.box (D.cons (D.own 3) (D.cons (D.own 4) D.nil))), none, none, some (.seq 28 t0.f0.1 1 (D.arr t0.f0.1 1 fun i => (S_api_Rule.L (t0.f0.2 i).1 (t0.f0.2 i).2))), some (S_shadow_open.Q 72 t0.f1.1 t0.f1.2)]) (by kernel_rfl) (by kernel_rfl) ?_
      exact runs_ret (h2 := [some (.box (D.cons (D.own 3) (D.cons (D.own 4) D.nil))), none, none, some (.seq 28 t0.f0.1 1 (D.arr t0.f0.1 1 fun i => (S_api_Rule.L (t0.f0.2 i).1 (t0.f0.2 i).2))), some (S_shadow_open.Q 72 t0.f1.1 t0.f1.2)]) (by kernel_rfl) (And.intro (.inr rfl) (And.intro (.inl rfl) (And.intro (.inl rfl) (And.intro (.inr rfl) (And.intro (.inr rfl) trivial))))) (Nat.le_of_ble_eq_true rfl) (And.intro (And.intro (bel_of rfl) (And.intro (bel_of rfl) trivial)) (And.intro (fun _ _ => (fun _ _ => (S_api_Rule.inn _))) (And.intro (fun _ _ => (S_shadow_open.inn _)) trivial))) trivial
    · replace h := ifs_false h hb
      obtain ⟨r2, cr2, h⟩ := Option.bind_eq_some_iff.1 h
      obtain ⟨p0, h⟩ := chk_some h
      refine runs_regions 2 [([(.d (S_api_Change.L r2.1 r2.2)), (.lit fun i => (S_shadow_open.d ((fun i => ([(S_shadow_open.mk t1 r2)] : List S_shadow_open).getD i S_shadow_open.z) i))), (.d (S_shadow_open.A (t0.f1.1 + 1) (fun i => if i < t0.f1.1 then t0.f1.2 i else (fun i => ([(S_shadow_open.mk t1 r2)] : List S_shadow_open).getD i S_shadow_open.z) (i - t0.f1.1))))], []), ([], [6])] (z := ([FC Tryz.prog 22 [(S_api_Change.L t2.1 t2.2)] [] (S_api_Change.L r2.1 r2.2) [], All (List.map NoRow [(S_api_Change.L t2.1 t2.2)]), TabOk [(D.cons (D.int .i64 t1) (D.cons (S_api_Change.L r2.1 r2.2) D.nil))] 2 (S_shadow_open.A 1 (fun i => ([(S_shadow_open.mk t1 r2)] : List S_shadow_open).getD i S_shadow_open.z)), (RoomOk (t0.f1.1 + 1) 32), CatOk (S_shadow_open.A t0.f1.1 t0.f1.2) (S_shadow_open.A 1 (fun i => ([(S_shadow_open.mk t1 r2)] : List S_shadow_open).getD i S_shadow_open.z)) (S_shadow_open.A (t0.f1.1 + 1) (fun i => if i < t0.f1.1 then t0.f1.2 i else (fun i => ([(S_shadow_open.mk t1 r2)] : List S_shadow_open).getD i S_shadow_open.z) (i - t0.f1.1)))], [(6, (D.int .i64 (0 : Int)))], [some (.box (D.cons (D.own 1) (D.cons (D.own 4) D.nil))), some (.seq 28 t0.f0.1 1 (D.arr t0.f0.1 1 fun i => (S_api_Rule.L (t0.f0.2 i).1 (t0.f0.2 i).2))), none, none, some (S_shadow_open.Q 72 (t0.f1.1 + 1) (fun i => if i < t0.f1.1 then t0.f1.2 i else (fun i => ([(S_shadow_open.mk t1 r2)] : List S_shadow_open).getD i S_shadow_open.z) (i - t0.f1.1)))])) rfl (by kernel_rfl) (And.intro (fcl_slices_Clone_api_Change t2 cr2) (And.intro (And.intro (fun _ _ => (S_api_Change.inn _)) trivial) (And.intro (tabOk_arr rfl (And.intro rfl trivial)) (And.intro p0 (And.intro (catOk_arr' rfl fun i => (d_ite (f := fun x : S_shadow_open => (S_shadow_open.d x)) rfl rfl).symm) trivial))))) ?_
      rw [← Option.some.inj h] at hk
      obtain ⟨rfl, rfl⟩ : d = (D.int .i64 (0 : Int)) ∧ hp = [some (.box (D.cons (D.own 3) (D.cons (D.own 4) D.nil))), none, none, some (.seq 28 t0.f0.1 1 (D.arr t0.f0.1 1 fun i => (S_api_Rule.L (t0.f0.2 i).1 (t0.f0.2 i).2))), some (S_shadow_open.Q 72 (t0.f1.1 + 1) (fun i => if i < t0.f1.1 then t0.f1.2 i else (fun i => ([(S_shadow_open.mk t1 r2)] : List S_shadow_open).getD i S_shadow_open.z) (i - t0.f1.1)))] := hk
      refine runs_keep (ts := [6]) (env' := [(6, (D.int .i64 (0 : Int)))]) (h2 := [some (.box (D.cons (D.own 1) (D.cons (D.own 4) D.nil))), some (.seq 28 t0.f0.1 1 (D.arr t0.f0.1 1 fun i => (S_api_Rule.L (t0.f0.2 i).1 (t0.f0.2 i).2))), none, none, some (S_shadow_open.Q 72 (t0.f1.1 + 1) (fun i => if i < t0.f1.1 then t0.f1.2 i else (fun i => ([(S_shadow_open.mk t1 r2)] : List S_shadow_open).getD i S_shadow_open.z) (i - t0.f1.1)))]) (by kernel_rfl) (And.intro (.inr rfl) (And.intro (.inr rfl) (And.intro (.inl rfl) (And.intro (.inl rfl) (And.intro (.inr rfl) trivial))))) (Nat.le_of_ble_eq_true rfl) (And.intro (And.intro (bel_of rfl) (And.intro (bel_of rfl) trivial)) (And.intro (fun _ _ => (fun _ _ => (S_api_Rule.inn _))) (And.intro (fun _ _ => (S_shadow_open.inn _)) trivial))) (And.intro trivial trivial) ?_
      refine runs_rename 3 1 (row := (.seq 28 t0.f0.1 1 (D.arr t0.f0.1 1 fun i => (S_api_Rule.L (t0.f0.2 i).1 (t0.f0.2 i).2)))) (by decide) (by decide) rfl rfl (And.intro (And.intro (rn_own rfl) (And.intro (rn_own rfl) trivial)) (And.intro (fun _ _ => (fun _ _ => (S_api_Rule.inn _))) (And.intro (fun _ _ => (S_shadow_open.inn _)) trivial))) (And.intro trivial trivial) ?_
      refine runs_eq (env2 := [(6, (D.int .i64 (0 : Int)))]) (h2 := [some (.box (D.cons (D.own 3) (D.cons (D.own 4) D.nil))), none, none, some (.seq 28 t0.f0.1 1 (D.arr t0.f0.1 1 fun i => (S_api_Rule.L (t0.f0.2 i).1 (t0.f0.2 i).2))), some (S_shadow_open.Q 72 (t0.f1.1 + 1) (fun i => if i < t0.f1.1 then t0.f1.2 i else (fun i => ([(S_shadow_open.mk t1 r2)] : List S_shadow_open).getD i S_shadow_open.z) (i - t0.f1.1)))]) (by kernel_rfl) (by kernel_rfl) ?_
      exact runs_ret (h2 := [some (.box (D.cons (D.own 3) (D.cons (D.own 4) D.nil))), none, none, some (.seq 28 t0.f0.1 1 (D.arr t0.f0.1 1 fun i => (S_api_Rule.L (t0.f0.2 i).1 (t0.f0.2 i).2))), some (S_shadow_open.Q 72 (t0.f1.1 + 1) (fun i => if i < t0.f1.1 then t0.f1.2 i else (fun i => ([(S_shadow_open.mk t1 r2)] : List S_shadow_open).getD i S_shadow_open.z) (i - t0.f1.1)))]) (by kernel_rfl) (And.intro (.inr rfl) (And.intro (.inl rfl) (And.intro (.inl rfl) (And.intro (.inr rfl) (And.intro (.inr rfl) trivial))))) (Nat.le_of_ble_eq_true rfl) (And.intro (And.intro (bel_of rfl) (And.intro (bel_of rfl) trivial)) (And.intro (fun _ _ => (fun _ _ => (S_api_Rule.inn _))) (And.intro (fun _ _ => (S_shadow_open.inn _)) trivial))) trivial

theorem fc_shadow_Shadow_Begin (fu : Nat) (t0 : S_shadow_Shadow) (t1 : Int) (t2 : (Nat × (Nat → S_api_Change))) {r : (Int × S_shadow_Shadow)} (h : F_shadow_Shadow_Begin fu t0 t1 t2 = some r) : FC Tryz.prog 8 [(D.ptr 0 []), (D.int .i64 t1), (S_api_Change.L t2.1 t2.2)] [some (.box (D.cons (D.own 1) (D.cons (D.own 2) D.nil))), some (.seq 28 t0.f0.1 1 (D.arr t0.f0.1 1 fun i => (S_api_Rule.L (t0.f0.2 i).1 (t0.f0.2 i).2))), some (S_shadow_open.Q 72 t0.f1.1 t0.f1.2)] (D.int .i64 r.1) [some (.box (D.cons (D.own 3) (D.cons (D.own 4) D.nil))), none, none, some (.seq 28 r.2.f0.1 1 (D.arr r.2.f0.1 1 fun i => (S_api_Rule.L (r.2.f0.2 i).1 (r.2.f0.2 i).2))), some (S_shadow_open.Q 72 r.2.f1.1 r.2.f1.2)] := by
  refine fc_of_runs (fn := Tryz.f8) (c := Tryz.f8.body.getD .skip) (by kernel_rfl) (by kernel_rfl) ?_
  refine runs_to (ts := [0, 1, 2]) (T' := T_shadow_Shadow_Begin) (env' := [(0, (D.ptr 0 [])), (1, (D.int .i64 t1)), (2, (S_api_Change.L t2.1 t2.2))]) (h2 := [some (.box (D.cons (D.own 1) (D.cons (D.own 2) D.nil))), some (.seq 28 t0.f0.1 1 (D.arr t0.f0.1 1 fun i => (S_api_Rule.L (t0.f0.2 i).1 (t0.f0.2 i).2))), some (S_shadow_open.Q 72 t0.f1.1 t0.f1.2)]) (by kernel_rfl) (by kernel_rfl) (And.intro (.inr rfl) (And.intro (.inr rfl) (And.intro (.inr rfl) trivial))) (Nat.le_refl _) (And.intro (And.intro (bel_of rfl) (And.intro (bel_of rfl) trivial)) (And.intro (fun _ _ => (fun _ _ => (S_api_Rule.inn _))) (And.intro (fun _ _ => (S_shadow_open.inn _)) trivial))) (And.intro (bel_of rfl) (And.intro trivial (And.intro (fun _ _ => (S_api_Change.inn _)) trivial))) ?_
  exact run_shadow_Shadow_Begin fu t0 t1 t2 h ⟨rfl, rfl⟩

def K_slices_Clip_api_Act (d : D) (r : (Nat × (Nat → S_api_Act))) : Prop := d = (S_api_Act.L r.1 r.2)

noncomputable def T_slices_Clip_api_Act : List Item := norm 200 [.code (Tryz.f38.body.getD .skip)]

/-- slices.Clip[[]podesta/api.Act,podesta/api.Act] -/
def F_slices_Clip_api_Act (t0 : (Nat × (Nat → S_api_Act))) : Option (Nat × (Nat → S_api_Act)) :=
  chk (0 ≤ ((t0.1 : Nat) : Int) ∧ ((t0.1 : Nat) : Int) ≤ ((t0.1 : Nat) : Int)) <|
  some ((((t0.1 : Nat) : Int)).toNat, t0.2)

theorem run_slices_Clip_api_Act (t0 : (Nat × (Nat → S_api_Act))) {d : D} {r : (Nat × (Nat → S_api_Act))} (h : F_slices_Clip_api_Act t0 = some r) (hk : (K_slices_Clip_api_Act d) r) : Runs Tryz.prog Tryz.f38 0 T_slices_Clip_api_Act [(0, (S_api_Act.L t0.1 t0.2))] [] d [] := by
  unfold F_slices_Clip_api_Act at h
  obtain ⟨p0, h⟩ := chk_some h
  refine runs_regions 2 [([], [0]), ([], [2])] (z := ([(0 ≤ ((t0.1 : Nat) : Int) ∧ ((t0.1 : Nat) : Int) ≤ ((t0.1 : Nat) : Int)), (((t0.1 : Nat) : Int) = ((t0.1 : Nat) : Int))], [(2, (S_api_Act.L (((t0.1 : Nat) : Int)).toNat t0.2))], [])) rfl (by kernel_rfl) (And.intro p0 (And.intro rfl trivial)) ?_
  rw [← Option.some.inj h] at hk
  obtain rfl : d = (S_api_Act.L (((t0.1 : Nat) : Int)).toNat t0.2) := hk
  exact runs_ret (by kernel_rfl) trivial (Nat.le_refl 0) trivial (fun _ _ => (S_api_Act.inn _))

theorem fc_slices_Clip_api_Act (t0 : (Nat × (Nat → S_api_Act))) {r : (Nat × (Nat → S_api_Act))} (h : F_slices_Clip_api_Act t0 = some r) : FC Tryz.prog 38 [(S_api_Act.L t0.1 t0.2)] [] (S_api_Act.L r.1 r.2) [] := by
  refine fc_of_runs (fn := Tryz.f38) (c := Tryz.f38.body.getD .skip) (by kernel_rfl) (by kernel_rfl) ?_
  refine runs_to (ts := [0]) (T' := T_slices_Clip_api_Act) (env' := [(0, (S_api_Act.L t0.1 t0.2))]) (h2 := []) (by kernel_rfl) (by kernel_rfl) trivial (Nat.le_refl _) trivial (And.intro (fun _ _ => (S_api_Act.inn _)) trivial) ?_
  exact run_slices_Clip_api_Act t0 h rfl

def K_region_For (d : D) (r : (Nat × (Nat → S_api_Mod))) : Prop := d = (S_api_Mod.L r.1 r.2)

noncomputable def T_region_For : List Item := norm 200 [.code (Tryz.f24.body.getD .skip)]

noncomputable def T_region_For_L1 : List Item := norm 200 (nxt (nxt (nxt T_region_For)))

noncomputable def X_region_For_L1T : List Item := norm 200 (cndF (nxt (nxt (nxt (nxt T_region_For)))))

abbrev E_region_For_L1 := (Nat × (Nat → S_api_Mod))

def N_region_For_L1 (_fu : Nat) (t1 : Int) (t9 : (Nat × (Nat → S_api_Change))) (t10 : Int) (d : D) (s : (Int × (Nat × (Nat → S_api_Mod)))) : Prop := Runs Tryz.prog Tryz.f24 0 T_region_For_L1 [(1, (D.int .i64 t1)), (5, (D.own 0)), (9, (S_api_Change.L t9.1 t9.2)), (10, (D.int .i64 t10)), (11, (D.int .i64 s.1))] [some (S_api_Mod.Q 58 s.2.1 s.2.2)] d []

def X_region_For_L1 (_fu : Nat) (_t1 : Int) (_t9 : (Nat × (Nat → S_api_Change))) (_t10 : Int) (d : D) : E_region_For_L1 ⊕ (Nat × (Nat → S_api_Mod)) → Prop
  | .inl e => Runs Tryz.prog Tryz.f24 0 X_region_For_L1T [(5, (D.own 0))] [some (S_api_Mod.Q 58 e.1 e.2)] d []
  | .inr o => (K_region_For d) o

def F_region_For_L1 (_fu : Nat) (t1 : Int) (t9 : (Nat × (Nat → S_api_Change))) (t10 : Int) (t11 : Int) (m0 : (Nat × (Nat → S_api_Mod))) : Option (Lo (Int × (Nat × (Nat → S_api_Mod))) E_region_For_L1 (Nat × (Nat → S_api_Mod))) :=
  ifs (decide (t11 < t10)) (
    chk (0 ≤ t11 ∧ t11 < ((t9.1 : Nat) : Int)) <|
    ifs ((t9.2 t11.toNat).f0 == t1) (
      (F_slices_Clone_api_Act (t9.2 t11.toNat).f1.f3).bind fun r0 =>
      (F_slices_Clip_api_Act r0).bind fun r1 =>
      chk (RoomOk (m0.1 + 1) 264) <|
      some (.next ((IntKind.wrap .i64 (t11 + (1 : Int))), ((m0.1 + 1), (fun i => if i < m0.1 then m0.2 i else (fun i => ([(S_api_Mod.mk (t9.2 t11.toNat).f1.f0 (t9.2 t11.toNat).f1.f1 (t9.2 t11.toNat).f1.f2 r1 (t9.2 t11.toNat).f1.f4 (t9.2 t11.toNat).f1.f5 (t9.2 t11.toNat).f1.f6 (t9.2 t11.toNat).f1.f7)] : List S_api_Mod).getD i S_api_Mod.z) (i - m0.1)))))) (
      some (.next ((IntKind.wrap .i64 (t11 + (1 : Int))), m0)))) (
    some (.exit m0))

theorem run_region_For_L1 (fu : Nat) (t1 : Int) (t9 : (Nat × (Nat → S_api_Change))) (t10 : Int) (t11 : Int) (m0 : (Nat × (Nat → S_api_Mod))) {d : D} {o : (Lo (Int × (Nat × (Nat → S_api_Mod))) E_region_For_L1 (Nat × (Nat → S_api_Mod)))} (h : F_region_For_L1 fu t1 t9 t10 t11 m0 = some o) (hk : (Lo.post (N_region_For_L1 fu t1 t9 t10 d) (X_region_For_L1 fu t1 t9 t10 d)) o) : Runs Tryz.prog Tryz.f24 0 T_region_For_L1 [(1, (D.int .i64 t1)), (5, (D.own 0)), (9, (S_api_Change.L t9.1 t9.2)), (10, (D.int .i64 t10)), (11, (D.int .i64 t11))] [some (S_api_Mod.Q 58 m0.1 m0.2)] d [] := by
  unfold F_region_For_L1 at h
  refine runs_regions 1 [([], [1, 5, 9, 10, 11, 12])] (z := ([], [(1, (D.int .i64 t1)), (5, (D.own 0)), (9, (S_api_Change.L t9.1 t9.2)), (10, (D.int .i64 t10)), (11, (D.int .i64 t11)), (12, (D.bool (decide (t11 < t10))))], [some (S_api_Mod.Q 58 m0.1 m0.2)])) rfl (by kernel_rfl) trivial ?_
  refine runs_if (b := (decide (t11 < t10))) (by kernel_rfl) (fun hb => ?_) (fun hb => ?_)
  · replace h := ifs_true h hb
    obtain ⟨p0, h⟩ := chk_some h
    refine runs_regions 2 [([], [1, 5, 7, 9, 10, 11]), ([], [1, 5, 7, 9, 10, 11, 18])] (z := ([(0 ≤ t11 ∧ t11 < ((t9.1 : Nat) : Int))], [(1, (D.int .i64 t1)), (5, (D.own 0)), (7, (D.ptr 1 [])), (9, (S_api_Change.L t9.1 t9.2)), (10, (D.int .i64 t10)), (11, (D.int .i64 t11)), (18, (D.bool ((t9.2 t11.toNat).f0 == t1)))], [some (S_api_Mod.Q 58 m0.1 m0.2), some (.box (S_api_Change.d (t9.2 t11.toNat)))])) rfl (by kernel_rfl) (And.intro p0 trivial) ?_
    refine runs_if (b := ((t9.2 t11.toNat).f0 == t1)) (by kernel_rfl) (fun hb => ?_) (fun hb => ?_)
    · replace h := ifs_true h hb
      obtain ⟨r0, cr0, h⟩ := Option.bind_eq_some_iff.1 h
      obtain ⟨r1, cr1, h⟩ := Option.bind_eq_some_iff.1 h
      obtain ⟨p1, h⟩ := chk_some h
      refine runs_regions 4 [([], [1, 5, 8, 9, 10, 11]), ([(.d (S_api_Act.L r0.1 r0.2)), (.d (S_api_Act.L r1.1 r1.2))], [1, 5, 8, 9, 10, 11]), ([(.lit fun i => (S_api_Mod.d ((fun i => ([(S_api_Mod.mk (t9.2 t11.toNat).f1.f0 (t9.2 t11.toNat).f1.f1 (t9.2 t11.toNat).f1.f2 r1 (t9.2 t11.toNat).f1.f4 (t9.2 t11.toNat).f1.f5 (t9.2 t11.toNat).f1.f6 (t9.2 t11.toNat).f1.f7)] : List S_api_Mod).getD i S_api_Mod.z) i))), (.d (S_api_Mod.A (m0.1 + 1) (fun i => if i < m0.1 then m0.2 i else (fun i => ([(S_api_Mod.mk (t9.2 t11.toNat).f1.f0 (t9.2 t11.toNat).f1.f1 (t9.2 t11.toNat).f1.f2 r1 (t9.2 t11.toNat).f1.f4 (t9.2 t11.toNat).f1.f5 (t9.2 t11.toNat).f1.f6 (t9.2 t11.toNat).f1.f7)] : List S_api_Mod).getD i S_api_Mod.z) (i - m0.1))))], [1, 5, 9, 10, 11]), ([], [1, 5, 9, 10, 11])] (z := ([FC Tryz.prog 39 [(S_api_Act.L (t9.2 t11.toNat).f1.f3.1 (t9.2 t11.toNat).f1.f3.2)] [] (S_api_Act.L r0.1 r0.2) [], All (List.map NoRow [(S_api_Act.L (t9.2 t11.toNat).f1.f3.1 (t9.2 t11.toNat).f1.f3.2)]), FC Tryz.prog 38 [(S_api_Act.L r0.1 r0.2)] [] (S_api_Act.L r1.1 r1.2) [], All (List.map NoRow [(S_api_Act.L r0.1 r0.2)]), TabOk [(D.cons (D.int .i64 (t9.2 t11.toNat).f1.f0) (D.cons (S_api_Cube.d (t9.2 t11.toNat).f1.f1) (D.cons (D.int .i64 (t9.2 t11.toNat).f1.f2) (D.cons (S_api_Act.L r1.1 r1.2) (D.cons (D.int .i64 (t9.2 t11.toNat).f1.f4) (D.cons (D.int .i64 (t9.2 t11.toNat).f1.f5) (D.cons (D.int .i64 (t9.2 t11.toNat).f1.f6) (D.cons (D.bool (t9.2 t11.toNat).f1.f7) D.nil))))))))] 31 (S_api_Mod.A 1 (fun i => ([(S_api_Mod.mk (t9.2 t11.toNat).f1.f0 (t9.2 t11.toNat).f1.f1 (t9.2 t11.toNat).f1.f2 r1 (t9.2 t11.toNat).f1.f4 (t9.2 t11.toNat).f1.f5 (t9.2 t11.toNat).f1.f6 (t9.2 t11.toNat).f1.f7)] : List S_api_Mod).getD i S_api_Mod.z)), (RoomOk (m0.1 + 1) 264), CatOk (S_api_Mod.A m0.1 m0.2) (S_api_Mod.A 1 (fun i => ([(S_api_Mod.mk (t9.2 t11.toNat).f1.f0 (t9.2 t11.toNat).f1.f1 (t9.2 t11.toNat).f1.f2 r1 (t9.2 t11.toNat).f1.f4 (t9.2 t11.toNat).f1.f5 (t9.2 t11.toNat).f1.f6 (t9.2 t11.toNat).f1.f7)] : List S_api_Mod).getD i S_api_Mod.z)) (S_api_Mod.A (m0.1 + 1) (fun i => if i < m0.1 then m0.2 i else (fun i => ([(S_api_Mod.mk (t9.2 t11.toNat).f1.f0 (t9.2 t11.toNat).f1.f1 (t9.2 t11.toNat).f1.f2 r1 (t9.2 t11.toNat).f1.f4 (t9.2 t11.toNat).f1.f5 (t9.2 t11.toNat).f1.f6 (t9.2 t11.toNat).f1.f7)] : List S_api_Mod).getD i S_api_Mod.z) (i - m0.1)))], [(1, (D.int .i64 t1)), (5, (D.own 3)), (9, (S_api_Change.L t9.1 t9.2)), (10, (D.int .i64 t10)), (11, (D.int .i64 (IntKind.wrap .i64 (t11 + (1 : Int)))))], [none, some (.box (S_api_Change.d (t9.2 t11.toNat))), some (.box (D.cons (D.int .i64 (t9.2 t11.toNat).f1.f0) (D.cons (S_api_Cube.d (t9.2 t11.toNat).f1.f1) (D.cons (D.int .i64 (t9.2 t11.toNat).f1.f2) (D.cons (S_api_Act.L r1.1 r1.2) (D.cons (D.int .i64 (t9.2 t11.toNat).f1.f4) (D.cons (D.int .i64 (t9.2 t11.toNat).f1.f5) (D.cons (D.int .i64 (t9.2 t11.toNat).f1.f6) (D.cons (D.bool (t9.2 t11.toNat).f1.f7) D.nil))))))))), some (S_api_Mod.Q 58 (m0.1 + 1) (fun i => if i < m0.1 then m0.2 i else (fun i => ([(S_api_Mod.mk (t9.2 t11.toNat).f1.f0 (t9.2 t11.toNat).f1.f1 (t9.2 t11.toNat).f1.f2 r1 (t9.2 t11.toNat).f1.f4 (t9.2 t11.toNat).f1.f5 (t9.2 t11.toNat).f1.f6 (t9.2 t11.toNat).f1.f7)] : List S_api_Mod).getD i S_api_Mod.z) (i - m0.1)))])) rfl (by kernel_rfl) (And.intro (fcl_slices_Clone_api_Act (t9.2 t11.toNat).f1.f3 cr0) (And.intro (And.intro (fun _ _ => (S_api_Act.inn _)) trivial) (And.intro (fc_slices_Clip_api_Act r0 cr1) (And.intro (And.intro (fun _ _ => (S_api_Act.inn _)) trivial) (And.intro (tabOk_arr rfl (And.intro rfl trivial)) (And.intro p1 (And.intro (catOk_arr' rfl fun i => (d_ite (f := fun x : S_api_Mod => (S_api_Mod.d x)) rfl rfl).symm) trivial))))))) ?_
      rw [← Option.some.inj h] at hk
      refine runs_to (ts := [1, 5, 9, 10, 11]) (T' := T_region_For_L1) (env' := [(1, (D.int .i64 t1)), (5, (D.own 3)), (9, (S_api_Change.L t9.1 t9.2)), (10, (D.int .i64 t10)), (11, (D.int .i64 (IntKind.wrap .i64 (t11 + (1 : Int)))))]) (h2 := [none, some (.box (S_api_Change.d (t9.2 t11.toNat))), some (.box (D.cons (D.int .i64 (t9.2 t11.toNat).f1.f0) (D.cons (S_api_Cube.d (t9.2 t11.toNat).f1.f1) (D.cons (D.int .i64 (t9.2 t11.toNat).f1.f2) (D.cons (S_api_Act.L r1.1 r1.2) (D.cons (D.int .i64 (t9.2 t11.toNat).f1.f4) (D.cons (D.int .i64 (t9.2 t11.toNat).f1.f5) (D.cons (D.int .i64 (t9.2 t11.toNat).f1.f6) (D.cons (D.bool (t9.2 t11.toNat).f1.f7) D.nil))))))))), some (S_api_Mod.Q 58 (m0.1 + 1) (fun i => if i < m0.1 then m0.2 i else (fun i => ([(S_api_Mod.mk (t9.2 t11.toNat).f1.f0 (t9.2 t11.toNat).f1.f1 (t9.2 t11.toNat).f1.f2 r1 (t9.2 t11.toNat).f1.f4 (t9.2 t11.toNat).f1.f5 (t9.2 t11.toNat).f1.f6 (t9.2 t11.toNat).f1.f7)] : List S_api_Mod).getD i S_api_Mod.z) (i - m0.1)))]) (by kernel_rfl) (by kernel_rfl) (And.intro (.inl rfl) (And.intro (.inr rfl) (And.intro (.inr rfl) (And.intro (.inr rfl) trivial)))) (Nat.zero_le _) (And.intro (S_api_Change.inn _) (And.intro (And.intro trivial (And.intro (S_api_Cube.inn _) (And.intro trivial (And.intro (fun _ _ => (S_api_Act.inn _)) (And.intro trivial (And.intro trivial (And.intro trivial (And.intro trivial trivial)))))))) (And.intro (fun _ _ => (S_api_Mod.inn _)) trivial))) (And.intro trivial (And.intro (bel_of rfl) (And.intro (fun _ _ => (S_api_Change.inn _)) (And.intro trivial (And.intro trivial trivial))))) ?_
      refine runs_rename 0 3 (row := (S_api_Mod.Q 58 (m0.1 + 1) (fun i => if i < m0.1 then m0.2 i else (fun i => ([(S_api_Mod.mk (t9.2 t11.toNat).f1.f0 (t9.2 t11.toNat).f1.f1 (t9.2 t11.toNat).f1.f2 r1 (t9.2 t11.toNat).f1.f4 (t9.2 t11.toNat).f1.f5 (t9.2 t11.toNat).f1.f6 (t9.2 t11.toNat).f1.f7)] : List S_api_Mod).getD i S_api_Mod.z) (i - m0.1)))) (by decide) (Nat.zero_le _) rfl rfl (And.intro (S_api_Change.rnk _) (And.intro (And.intro trivial (And.intro (S_api_Cube.rnk _) (And.intro trivial (And.intro (fun _ _ => (S_api_Act.inn _)) (And.intro trivial (And.intro trivial (And.intro trivial (And.intro trivial trivial)))))))) (And.intro (fun _ _ => (S_api_Mod.inn _)) trivial))) (And.intro trivial (And.intro (rn_own rfl) (And.intro (fun _ _ => (S_api_Change.inn _)) (And.intro trivial (And.intro trivial trivial))))) ?_
      refine runs_eq (env2 := [(1, (D.int .i64 t1)), (5, (D.own 0)), (9, (S_api_Change.L t9.1 t9.2)), (10, (D.int .i64 t10)), (11, (D.int .i64 (IntKind.wrap .i64 (t11 + (1 : Int)))))]) (h2 := [some (S_api_Mod.Q 58 (m0.1 + 1) (fun i => if i < m0.1 then m0.2 i else (fun i => ([(S_api_Mod.mk (t9.2 t11.toNat).f1.f0 (t9.2 t11.toNat).f1.f1 (t9.2 t11.toNat).f1.f2 r1 (t9.2 t11.toNat).f1.f4 (t9.2 t11.toNat).f1.f5 (t9.2 t11.toNat).f1.f6 (t9.2 t11.toNat).f1.f7)] : List S_api_Mod).getD i S_api_Mod.z) (i - m0.1))), some (.box (S_api_Change.d (t9.2 t11.toNat))), some (.box (D.cons (D.int .i64 (t9.2 t11.toNat).f1.f0) (D.cons (S_api_Cube.d (t9.2 t11.toNat).f1.f1) (D.cons (D.int .i64 (t9.2 t11.toNat).f1.f2) (D.cons (S_api_Act.L r1.1 r1.2) (D.cons (D.int .i64 (t9.2 t11.toNat).f1.f4) (D.cons (D.int .i64 (t9.2 t11.toNat).f1.f5) (D.cons (D.int .i64 (t9.2 t11.toNat).f1.f6) (D.cons (D.bool (t9.2 t11.toNat).f1.f7) D.nil))))))))), none]) (by kernel_rfl) (by kernel_rfl) ?_
      refine runs_to (ts := [1, 5, 9, 10, 11]) (T' := T_region_For_L1) (env' := [(1, (D.int .i64 t1)), (5, (D.own 0)), (9, (S_api_Change.L t9.1 t9.2)), (10, (D.int .i64 t10)), (11, (D.int .i64 (IntKind.wrap .i64 (t11 + (1 : Int)))))]) (h2 := [some (S_api_Mod.Q 58 (m0.1 + 1) (fun i => if i < m0.1 then m0.2 i else (fun i => ([(S_api_Mod.mk (t9.2 t11.toNat).f1.f0 (t9.2 t11.toNat).f1.f1 (t9.2 t11.toNat).f1.f2 r1 (t9.2 t11.toNat).f1.f4 (t9.2 t11.toNat).f1.f5 (t9.2 t11.toNat).f1.f6 (t9.2 t11.toNat).f1.f7)] : List S_api_Mod).getD i S_api_Mod.z) (i - m0.1)))]) (by kernel_rfl) (by kernel_rfl) (And.intro (.inr rfl) trivial) (Nat.zero_le _) (And.intro (fun _ _ => (S_api_Mod.inn _)) trivial) (And.intro trivial (And.intro (bel_of rfl) (And.intro (fun _ _ => (S_api_Change.inn _)) (And.intro trivial (And.intro trivial trivial))))) ?_
      exact hk
    · replace h := ifs_false h hb
      refine runs_regions 1 [([], [1, 5, 9, 10, 11])] (z := ([], [(1, (D.int .i64 t1)), (5, (D.own 0)), (9, (S_api_Change.L t9.1 t9.2)), (10, (D.int .i64 t10)), (11, (D.int .i64 (IntKind.wrap .i64 (t11 + (1 : Int)))))], [some (S_api_Mod.Q 58 m0.1 m0.2), some (.box (S_api_Change.d (t9.2 t11.toNat)))])) rfl (by kernel_rfl) trivial ?_
      rw [← Option.some.inj h] at hk
      refine runs_to (ts := [1, 5, 9, 10, 11]) (T' := T_region_For_L1) (env' := [(1, (D.int .i64 t1)), (5, (D.own 0)), (9, (S_api_Change.L t9.1 t9.2)), (10, (D.int .i64 t10)), (11, (D.int .i64 (IntKind.wrap .i64 (t11 + (1 : Int)))))]) (h2 := [some (S_api_Mod.Q 58 m0.1 m0.2)]) (by kernel_rfl) (by kernel_rfl) (And.intro (.inr rfl) trivial) (Nat.zero_le _) (And.intro (fun _ _ => (S_api_Mod.inn _)) trivial) (And.intro trivial (And.intro (bel_of rfl) (And.intro (fun _ _ => (S_api_Change.inn _)) (And.intro trivial (And.intro trivial trivial))))) ?_
      exact hk
  · replace h := ifs_false h hb
    rw [← Option.some.inj h] at hk
    refine runs_to (ts := [5]) (T' := X_region_For_L1T) (env' := [(5, (D.own 0))]) (h2 := [some (S_api_Mod.Q 58 m0.1 m0.2)]) (by kernel_rfl) (by kernel_rfl) (And.intro (.inr rfl) trivial) (Nat.zero_le _) (And.intro (fun _ _ => (S_api_Mod.inn _)) trivial) (And.intro (bel_of rfl) trivial) ?_
    exact hk

theorem iter_region_For_L1 (fu : Nat) (t1 : Int) (t9 : (Nat × (Nat → S_api_Change))) (t10 : Int) {d : D} (k : Nat) (s : (Int × (Nat × (Nat → S_api_Mod)))) {o : E_region_For_L1 ⊕ (Nat × (Nat → S_api_Mod))} (h : iter (fun s => F_region_For_L1 fu t1 t9 t10 s.1 s.2) k s = some o) (hx : X_region_For_L1 fu t1 t9 t10 d o) : N_region_For_L1 fu t1 t9 t10 d s :=
  iter_post (K := N_region_For_L1 fu t1 t9 t10 d) (X := X_region_For_L1 fu t1 t9 t10 d) (fun s _ h hk => run_region_For_L1 fu t1 t9 t10 s.1 s.2 h hk) k s o h hx

/-- podesta/region.For -/
def F_region_For (fu : Nat) (t0 : (Nat × (Nat → S_api_Change))) (t1 : Int) : Option (Nat × (Nat → S_api_Mod)) :=
  after (iter (fun s => F_region_For_L1 fu t1 t0 ((t0.1 : Nat) : Int) s.1 s.2) fu ((0 : Int), (0, (fun _ => S_api_Mod.z)))) fun e3 =>
  some e3

theorem run_region_For (fu : Nat) (t0 : (Nat × (Nat → S_api_Change))) (t1 : Int) {d : D} {r : (Nat × (Nat → S_api_Mod))} (h : F_region_For fu t0 t1 = some r) (hk : (K_region_For d) r) : Runs Tryz.prog Tryz.f24 0 T_region_For [(0, (S_api_Change.L t0.1 t0.2)), (1, (D.int .i64 t1))] [] d [] := by
  unfold F_region_For at h
  refine runs_regions 3 [([], [0, 1]), ([(.nil 58 31 (S_api_Mod.A 0 (fun _ => S_api_Mod.z)))], [0, 1, 5]), ([], [1, 5, 9, 10, 11])] (z := ([EmptyOk (S_api_Mod.A 0 (fun _ => S_api_Mod.z))], [(1, (D.int .i64 t1)), (5, (D.own 0)), (9, (S_api_Change.L t0.1 t0.2)), (10, (D.int .i64 ((t0.1 : Nat) : Int))), (11, (D.int .i64 (0 : Int)))], [some (S_api_Mod.Q 58 0 (fun _ => S_api_Mod.z))])) rfl (by kernel_rfl) (And.intro emptyOk_arr trivial) ?_
  refine runs_to (ts := [1, 5, 9, 10, 11]) (T' := T_region_For_L1) (env' := [(1, (D.int .i64 t1)), (5, (D.own 0)), (9, (S_api_Change.L t0.1 t0.2)), (10, (D.int .i64 ((t0.1 : Nat) : Int))), (11, (D.int .i64 (0 : Int)))]) (h2 := [some (S_api_Mod.Q 58 0 (fun _ => S_api_Mod.z))]) (by kernel_rfl) (by kernel_rfl) (And.intro (.inr rfl) trivial) (Nat.zero_le _) (And.intro (fun _ _ => (S_api_Mod.inn _)) trivial) (And.intro trivial (And.intro (bel_of rfl) (And.intro (fun _ _ => (S_api_Change.inn _)) (And.intro trivial (And.intro trivial trivial))))) ?_
  rcases after_some h with ⟨e3, hi, h⟩ | hi
  · refine iter_region_For_L1 fu t1 t0 ((t0.1 : Nat) : Int) fu ((0 : Int), (0, (fun _ => S_api_Mod.z))) hi ?_
    show Runs Tryz.prog Tryz.f24 0 X_region_For_L1T [(5, (D.own 0))] [some (S_api_Mod.Q 58 e3.1 e3.2)] d []
    refine runs_regions 1 [([], [4])] (z := ([], [(4, (D.own 0))], [some (S_api_Mod.Q 58 e3.1 e3.2)])) rfl (by kernel_rfl) trivial ?_
    rw [← Option.some.inj h] at hk
    obtain rfl : d = (S_api_Mod.L e3.1 e3.2) := hk
    refine runs_freeze 0 (row := (S_api_Mod.Q 58 e3.1 e3.2)) rfl ?_
    exact runs_ret (by kernel_rfl) trivial (Nat.le_refl 0) trivial (fun _ _ => (S_api_Mod.inn _))
  · exact iter_region_For_L1 fu t1 t0 ((t0.1 : Nat) : Int) fu ((0 : Int), (0, (fun _ => S_api_Mod.z))) hi hk

theorem fc_region_For (fu : Nat) (t0 : (Nat × (Nat → S_api_Change))) (t1 : Int) {r : (Nat × (Nat → S_api_Mod))} (h : F_region_For fu t0 t1 = some r) : FC Tryz.prog 24 [(S_api_Change.L t0.1 t0.2), (D.int .i64 t1)] [] (S_api_Mod.L r.1 r.2) [] := by
  refine fc_of_runs (fn := Tryz.f24) (c := Tryz.f24.body.getD .skip) (by kernel_rfl) (by kernel_rfl) ?_
  refine runs_to (ts := [0, 1]) (T' := T_region_For) (env' := [(0, (S_api_Change.L t0.1 t0.2)), (1, (D.int .i64 t1))]) (h2 := []) (by kernel_rfl) (by kernel_rfl) trivial (Nat.le_refl _) trivial (And.intro (fun _ _ => (S_api_Change.inn _)) (And.intro trivial trivial)) ?_
  exact run_region_For fu t0 t1 h rfl

structure S_undo_Patch where
  f0 : (Nat × (Nat → S_api_Rule))
  f1 : (Nat × (Nat → S_api_Rule))

def S_undo_Patch.d (x : S_undo_Patch) : D := (D.cons (S_api_Rule.L x.f0.1 x.f0.2) (D.cons (S_api_Rule.L x.f1.1 x.f1.2) D.nil))
abbrev S_undo_Patch.L (n : Nat) (g : Nat → S_undo_Patch) : D := .lit n 2 fun i => S_undo_Patch.d (g i)
abbrev S_undo_Patch.A (n : Nat) (g : Nat → S_undo_Patch) : D := .arr n 2 fun i => S_undo_Patch.d (g i)
abbrev S_undo_Patch.Q (e : TypeId) (n : Nat) (g : Nat → S_undo_Patch) : Row := .seq e n 2 (S_undo_Patch.A n g)
theorem S_undo_Patch.inn {S : Nat → Prop} (x : S_undo_Patch) : (S_undo_Patch.d x).In S := by
  unfold S_undo_Patch.d
  exact (And.intro (fun _ _ => (S_api_Rule.inn _)) (And.intro (fun _ _ => (S_api_Rule.inn _)) trivial))
theorem S_undo_Patch.rnk {r0 r1 : Nat} (x : S_undo_Patch) : rnOk r0 r1 (S_undo_Patch.d x) := by
  unfold S_undo_Patch.d
  exact (And.intro (fun _ _ => (S_api_Rule.inn _)) (And.intro (fun _ _ => (S_api_Rule.inn _)) trivial))
abbrev S_undo_Patch.z : S_undo_Patch := (S_undo_Patch.mk (0, fun _ => S_api_Rule.z) (0, fun _ => S_api_Rule.z))

def S_undo_Patch.wf (x : S_undo_Patch) : Prop := (x.f0.1 ≤ maxLen ∧ x.f0.1 * 272 ≤ reachBytes ∧ ∀ i, i < x.f0.1 → S_api_Rule.wf (x.f0.2 i)) ∧ (x.f1.1 ≤ maxLen ∧ x.f1.1 * 272 ≤ reachBytes ∧ ∀ i, i < x.f1.1 → S_api_Rule.wf (x.f1.2 i)) ∧ True

def K_mods_Rule (d : D) (r : S_api_Rule) : Prop := d = (S_api_Rule.d r)

noncomputable def T_mods_Rule : List Item := norm 200 [.code (Tryz.f93.body.getD .skip)]

/-- podesta/mods.Rule -/
def F_mods_Rule (t0 : S_api_Mod) : Option S_api_Rule :=
  (F_slices_Clone_api_Act t0.f3).bind fun r0 =>
  (F_slices_Clip_api_Act r0).bind fun r1 =>
  some (S_api_Rule.mk t0.f1 t0.f2 r1 t0.f4 t0.f5 t0.f6 (0 : Int) (0 : Int) (0 : Int))

theorem run_mods_Rule (t0 : S_api_Mod) {d : D} {r : S_api_Rule} (h : F_mods_Rule t0 = some r) (hk : (K_mods_Rule d) r) : Runs Tryz.prog Tryz.f93 0 T_mods_Rule [(0, (S_api_Mod.d t0))] [] d [] := by
  unfold F_mods_Rule at h
  obtain ⟨r0, cr0, h⟩ := Option.bind_eq_some_iff.1 h
  obtain ⟨r1, cr1, h⟩ := Option.bind_eq_some_iff.1 h
  refine runs_regions 2 [([], [1, 2]), ([(.d (S_api_Act.L r0.1 r0.2)), (.d (S_api_Act.L r1.1 r1.2))], [2])] (z := ([FC Tryz.prog 39 [(S_api_Act.L t0.f3.1 t0.f3.2)] [] (S_api_Act.L r0.1 r0.2) [], All (List.map NoRow [(S_api_Act.L t0.f3.1 t0.f3.2)]), FC Tryz.prog 38 [(S_api_Act.L r0.1 r0.2)] [] (S_api_Act.L r1.1 r1.2) [], All (List.map NoRow [(S_api_Act.L r0.1 r0.2)])], [(2, (D.ptr 1 []))], [some (.box (S_api_Mod.d t0)), some (.box (D.cons (S_api_Cube.d t0.f1) (D.cons (D.int .i64 t0.f2) (D.cons (S_api_Act.L r1.1 r1.2) (D.cons (D.int .i64 t0.f4) (D.cons (D.int .i64 t0.f5) (D.cons (D.int .i64 t0.f6) (D.cons (D.int .i64 (0 : Int)) (D.cons (D.int .i64 (0 : Int)) (D.cons (D.int .i64 (0 : Int)) D.nil))))))))))])) rfl (by kernel_rfl) (And.intro (fcl_slices_Clone_api_Act t0.f3 cr0) (And.intro (And.intro (fun _ _ => (S_api_Act.inn _)) trivial) (And.intro (fc_slices_Clip_api_Act r0 cr1) (And.intro (And.intro (fun _ _ => (S_api_Act.inn _)) trivial) trivial)))) ?_
  rw [← Option.some.inj h] at hk
  obtain rfl : d = (D.cons (S_api_Cube.d t0.f1) (D.cons (D.int .i64 t0.f2) (D.cons (S_api_Act.L r1.1 r1.2) (D.cons (D.int .i64 t0.f4) (D.cons (D.int .i64 t0.f5) (D.cons (D.int .i64 t0.f6) (D.cons (D.int .i64 (0 : Int)) (D.cons (D.int .i64 (0 : Int)) (D.cons (D.int .i64 (0 : Int)) D.nil))))))))) := hk
  exact runs_ret (by kernel_rfl) trivial (Nat.le_refl 0) trivial (And.intro (S_api_Cube.inn _) (And.intro trivial (And.intro (fun _ _ => (S_api_Act.inn _)) (And.intro trivial (And.intro trivial (And.intro trivial (And.intro trivial (And.intro trivial (And.intro trivial trivial)))))))))

theorem fc_mods_Rule (t0 : S_api_Mod) {r : S_api_Rule} (h : F_mods_Rule t0 = some r) : FC Tryz.prog 93 [(S_api_Mod.d t0)] [] (S_api_Rule.d r) [] := by
  refine fc_of_runs (fn := Tryz.f93) (c := Tryz.f93.body.getD .skip) (by kernel_rfl) (by kernel_rfl) ?_
  refine runs_to (ts := [0]) (T' := T_mods_Rule) (env' := [(0, (S_api_Mod.d t0))]) (h2 := []) (by kernel_rfl) (by kernel_rfl) trivial (Nat.le_refl _) trivial (And.intro (S_api_Mod.inn _) trivial) ?_
  exact run_mods_Rule t0 h rfl

def K_mods_add_1 (d : D) (r : Bool) : Prop := d = (D.bool r)

noncomputable def T_mods_add_1 : List Item := norm 200 [.code (Tryz.f94.body.getD .skip)]

/-- podesta/mods.add 1 -/
def F_mods_add_1 (t0 : S_api_Rule) (t1 : S_api_Rule) : Option Bool :=
  (F_rule_Key t0 t1).bind fun r0 =>
  some r0

theorem run_mods_add_1 (t0 : S_api_Rule) (t1 : S_api_Rule) {d : D} {r : Bool} (h : F_mods_add_1 t0 t1 = some r) (hk : (K_mods_add_1 d) r) : Runs Tryz.prog Tryz.f94 0 T_mods_add_1 [(0, (S_api_Rule.d t0)), (1, (D.lptr (S_api_Rule.d t1)))] [] d [] := by
  unfold F_mods_add_1 at h
  obtain ⟨r0, cr0, h⟩ := Option.bind_eq_some_iff.1 h
  refine runs_regions 2 [([], [1, 2]), ([(.d (D.bool r0))], [3])] (z := ([FC Tryz.prog 32 [(S_api_Rule.d t0), (S_api_Rule.d t1)] [] (D.bool r0) [], All (List.map NoRow [(S_api_Rule.d t0), (S_api_Rule.d t1)])], [(3, (D.bool r0))], [some (.box (S_api_Rule.d t0))])) rfl (by kernel_rfl) (And.intro (fc_rule_Key t0 t1 cr0) (And.intro (And.intro (S_api_Rule.inn _) (And.intro (S_api_Rule.inn _) trivial)) trivial)) ?_
  rw [← Option.some.inj h] at hk
  obtain rfl : d = (D.bool r0) := hk
  exact runs_ret (by kernel_rfl) trivial (Nat.le_refl 0) trivial trivial

theorem fc_mods_add_1 (t0 : S_api_Rule) (t1 : S_api_Rule) {r : Bool} (h : F_mods_add_1 t0 t1 = some r) : FC Tryz.prog 94 [(S_api_Rule.d t0), (D.lptr (S_api_Rule.d t1))] [] (D.bool r) [] := by
  refine fc_of_runs (fn := Tryz.f94) (c := Tryz.f94.body.getD .skip) (by kernel_rfl) (by kernel_rfl) ?_
  refine runs_to (ts := [0, 1]) (T' := T_mods_add_1) (env' := [(0, (S_api_Rule.d t0)), (1, (D.lptr (S_api_Rule.d t1)))]) (h2 := []) (by kernel_rfl) (by kernel_rfl) trivial (Nat.le_refl _) trivial (And.intro (S_api_Rule.inn _) (And.intro (S_api_Rule.inn _) trivial)) ?_
  exact run_mods_add_1 t0 t1 h rfl

def K_slices_IndexFunc_api_Rule_mods_add_1 (d : D) (r : Int) : Prop := d = (D.int .i64 r)

noncomputable def T_slices_IndexFunc_api_Rule_mods_add_1 : List Item := norm 200 [.code (Tryz.f30.body.getD .skip)]

noncomputable def T_slices_IndexFunc_api_Rule_mods_add_1_L1 : List Item := norm 200 (nxt (nxt T_slices_IndexFunc_api_Rule_mods_add_1))

noncomputable def X_slices_IndexFunc_api_Rule_mods_add_1_L1T : List Item := norm 200 (cndF (nxt (nxt (nxt T_slices_IndexFunc_api_Rule_mods_add_1))))

abbrev E_slices_IndexFunc_api_Rule_mods_add_1_L1 := Unit

def N_slices_IndexFunc_api_Rule_mods_add_1_L1 (_fu : Nat) (t0 : (Nat × (Nat → S_api_Rule))) (t1_0 : S_api_Rule) (t7 : Int) (d : D) (s : Int) : Prop := Runs Tryz.prog Tryz.f30 0 T_slices_IndexFunc_api_Rule_mods_add_1_L1 [(0, (S_api_Rule.L t0.1 t0.2)), (1, (D.fn 94 (D.cons (D.lptr (S_api_Rule.d t1_0)) D.nil))), (7, (D.int .i64 t7)), (8, (D.int .i64 s))] [] d []

def X_slices_IndexFunc_api_Rule_mods_add_1_L1 (_fu : Nat) (_t0 : (Nat × (Nat → S_api_Rule))) (_t1_0 : S_api_Rule) (_t7 : Int) (d : D) : E_slices_IndexFunc_api_Rule_mods_add_1_L1 ⊕ Int → Prop
  | .inl _ => Runs Tryz.prog Tryz.f30 0 X_slices_IndexFunc_api_Rule_mods_add_1_L1T [] [] d []
  | .inr o => (K_slices_IndexFunc_api_Rule_mods_add_1 d) o

def F_slices_IndexFunc_api_Rule_mods_add_1_L1 (_fu : Nat) (t0 : (Nat × (Nat → S_api_Rule))) (t1_0 : S_api_Rule) (t7 : Int) (t8 : Int) : Option (Lo Int E_slices_IndexFunc_api_Rule_mods_add_1_L1 Int) :=
  ifs (decide (t8 < t7)) (
    chk (0 ≤ t8 ∧ t8 < ((t0.1 : Nat) : Int)) <|
    (F_mods_add_1 (t0.2 t8.toNat) t1_0).bind fun r0 =>
    ifs r0 (
      some (.ret t8)) (
      some (.next (IntKind.wrap .i64 (t8 + (1 : Int)))))) (
    some (.exit ()))

theorem run_slices_IndexFunc_api_Rule_mods_add_1_L1 (fu : Nat) (t0 : (Nat × (Nat → S_api_Rule))) (t1_0 : S_api_Rule) (t7 : Int) (t8 : Int) {d : D} {o : (Lo Int E_slices_IndexFunc_api_Rule_mods_add_1_L1 Int)} (h : F_slices_IndexFunc_api_Rule_mods_add_1_L1 fu t0 t1_0 t7 t8 = some o) (hk : (Lo.post (N_slices_IndexFunc_api_Rule_mods_add_1_L1 fu t0 t1_0 t7 d) (X_slices_IndexFunc_api_Rule_mods_add_1_L1 fu t0 t1_0 t7 d)) o) : Runs Tryz.prog Tryz.f30 0 T_slices_IndexFunc_api_Rule_mods_add_1_L1 [(0, (S_api_Rule.L t0.1 t0.2)), (1, (D.fn 94 (D.cons (D.lptr (S_api_Rule.d t1_0)) D.nil))), (7, (D.int .i64 t7)), (8, (D.int .i64 t8))] [] d [] := by
  unfold F_slices_IndexFunc_api_Rule_mods_add_1_L1 at h
  refine runs_regions 1 [([], [0, 1, 7, 8, 9])] (z := ([], [(0, (S_api_Rule.L t0.1 t0.2)), (1, (D.fn 94 (D.cons (D.lptr (S_api_Rule.d t1_0)) D.nil))), (7, (D.int .i64 t7)), (8, (D.int .i64 t8)), (9, (D.bool (decide (t8 < t7))))], [])) rfl (by kernel_rfl) trivial ?_
  refine runs_if (b := (decide (t8 < t7))) (by kernel_rfl) (fun hb => ?_) (fun hb => ?_)
  · replace h := ifs_true h hb
    obtain ⟨p0, h⟩ := chk_some h
    obtain ⟨r0, cr0, h⟩ := Option.bind_eq_some_iff.1 h
    refine runs_regions 2 [([], [0, 1, 5, 7, 8]), ([(.d (D.bool r0))], [0, 1, 5, 7, 8, 16])] (z := ([(0 ≤ t8 ∧ t8 < ((t0.1 : Nat) : Int)), FC Tryz.prog 94 [(S_api_Rule.d (t0.2 t8.toNat)), (D.lptr (S_api_Rule.d t1_0))] [] (D.bool r0) [], All (List.map NoRow [(S_api_Rule.d (t0.2 t8.toNat)), (D.lptr (S_api_Rule.d t1_0))])], [(0, (S_api_Rule.L t0.1 t0.2)), (1, (D.fn 94 (D.cons (D.lptr (S_api_Rule.d t1_0)) D.nil))), (5, (D.int .i64 t8)), (7, (D.int .i64 t7)), (8, (D.int .i64 t8)), (16, (D.bool r0))], [])) rfl (by kernel_rfl) (And.intro p0 (And.intro (fc_mods_add_1 (t0.2 t8.toNat) t1_0 cr0) (And.intro (And.intro (S_api_Rule.inn _) (And.intro (S_api_Rule.inn _) trivial)) trivial))) ?_
    refine runs_if (b := r0) (by kernel_rfl) (fun hb => ?_) (fun hb => ?_)
    · replace h := ifs_true h hb
      refine runs_regions 1 [([], [4])] (z := ([], [(4, (D.int .i64 t8))], [])) rfl (by kernel_rfl) trivial ?_
      rw [← Option.some.inj h] at hk
      obtain rfl : d = (D.int .i64 t8) := hk
      exact runs_ret (by kernel_rfl) trivial (Nat.le_refl 0) trivial trivial
    · replace h := ifs_false h hb
      refine runs_regions 1 [([], [0, 1, 7, 8])] (z := ([], [(0, (S_api_Rule.L t0.1 t0.2)), (1, (D.fn 94 (D.cons (D.lptr (S_api_Rule.d t1_0)) D.nil))), (7, (D.int .i64 t7)), (8, (D.int .i64 (IntKind.wrap .i64 (t8 + (1 : Int)))))], [])) rfl (by kernel_rfl) trivial ?_
      rw [← Option.some.inj h] at hk
      refine runs_to (ts := [0, 1, 7, 8]) (T' := T_slices_IndexFunc_api_Rule_mods_add_1_L1) (env' := [(0, (S_api_Rule.L t0.1 t0.2)), (1, (D.fn 94 (D.cons (D.lptr (S_api_Rule.d t1_0)) D.nil))), (7, (D.int .i64 t7)), (8, (D.int .i64 (IntKind.wrap .i64 (t8 + (1 : Int)))))]) (h2 := []) (by kernel_rfl) (by kernel_rfl) trivial (Nat.zero_le _) trivial (And.intro (fun _ _ => (S_api_Rule.inn _)) (And.intro (And.intro (S_api_Rule.inn _) trivial) (And.intro trivial (And.intro trivial trivial)))) ?_
      exact hk
  · replace h := ifs_false h hb
    rw [← Option.some.inj h] at hk
    refine runs_to (ts := []) (T' := X_slices_IndexFunc_api_Rule_mods_add_1_L1T) (env' := []) (h2 := []) (by kernel_rfl) (by kernel_rfl) trivial (Nat.zero_le _) trivial trivial ?_
    exact hk

theorem iter_slices_IndexFunc_api_Rule_mods_add_1_L1 (fu : Nat) (t0 : (Nat × (Nat → S_api_Rule))) (t1_0 : S_api_Rule) (t7 : Int) {d : D} (k : Nat) (s : Int) {o : E_slices_IndexFunc_api_Rule_mods_add_1_L1 ⊕ Int} (h : iter (fun s => F_slices_IndexFunc_api_Rule_mods_add_1_L1 fu t0 t1_0 t7 s) k s = some o) (hx : X_slices_IndexFunc_api_Rule_mods_add_1_L1 fu t0 t1_0 t7 d o) : N_slices_IndexFunc_api_Rule_mods_add_1_L1 fu t0 t1_0 t7 d s :=
  iter_post (K := N_slices_IndexFunc_api_Rule_mods_add_1_L1 fu t0 t1_0 t7 d) (X := X_slices_IndexFunc_api_Rule_mods_add_1_L1 fu t0 t1_0 t7 d) (fun s _ h hk => run_slices_IndexFunc_api_Rule_mods_add_1_L1 fu t0 t1_0 t7 s h hk) k s o h hx

/-- slices.IndexFunc[[]podesta/api.Rule,podesta/api.Rule] -/
def F_slices_IndexFunc_api_Rule_mods_add_1 (fu : Nat) (t0 : (Nat × (Nat → S_api_Rule))) (t1_0 : S_api_Rule) : Option Int :=
  after (iter (fun s => F_slices_IndexFunc_api_Rule_mods_add_1_L1 fu t0 t1_0 ((t0.1 : Nat) : Int) s) fu (0 : Int)) fun _ =>
  some (-1 : Int)

theorem run_slices_IndexFunc_api_Rule_mods_add_1 (fu : Nat) (t0 : (Nat × (Nat → S_api_Rule))) (t1_0 : S_api_Rule) {d : D} {r : Int} (h : F_slices_IndexFunc_api_Rule_mods_add_1 fu t0 t1_0 = some r) (hk : (K_slices_IndexFunc_api_Rule_mods_add_1 d) r) : Runs Tryz.prog Tryz.f30 0 T_slices_IndexFunc_api_Rule_mods_add_1 [(0, (S_api_Rule.L t0.1 t0.2)), (1, (D.fn 94 (D.cons (D.lptr (S_api_Rule.d t1_0)) D.nil)))] [] d [] := by
  unfold F_slices_IndexFunc_api_Rule_mods_add_1 at h
  refine runs_regions 2 [([], [0, 1]), ([], [0, 1, 7, 8])] (z := ([], [(0, (S_api_Rule.L t0.1 t0.2)), (1, (D.fn 94 (D.cons (D.lptr (S_api_Rule.d t1_0)) D.nil))), (7, (D.int .i64 ((t0.1 : Nat) : Int))), (8, (D.int .i64 (0 : Int)))], [])) rfl (by kernel_rfl) trivial ?_
  refine runs_to (ts := [0, 1, 7, 8]) (T' := T_slices_IndexFunc_api_Rule_mods_add_1_L1) (env' := [(0, (S_api_Rule.L t0.1 t0.2)), (1, (D.fn 94 (D.cons (D.lptr (S_api_Rule.d t1_0)) D.nil))), (7, (D.int .i64 ((t0.1 : Nat) : Int))), (8, (D.int .i64 (0 : Int)))]) (h2 := []) (by kernel_rfl) (by kernel_rfl) trivial (Nat.zero_le _) trivial (And.intro (fun _ _ => (S_api_Rule.inn _)) (And.intro (And.intro (S_api_Rule.inn _) trivial) (And.intro trivial (And.intro trivial trivial)))) ?_
  rcases after_some h with ⟨e2, hi, h⟩ | hi
  · refine iter_slices_IndexFunc_api_Rule_mods_add_1_L1 fu t0 t1_0 ((t0.1 : Nat) : Int) fu (0 : Int) hi ?_
    show Runs Tryz.prog Tryz.f30 0 X_slices_IndexFunc_api_Rule_mods_add_1_L1T [] [] d []
    refine runs_regions 1 [([], [4])] (z := ([], [(4, (D.int .i64 (-1 : Int)))], [])) rfl (by kernel_rfl) trivial ?_
    rw [← Option.some.inj h] at hk
    obtain rfl : d = (D.int .i64 (-1 : Int)) := hk
    exact runs_ret (by kernel_rfl) trivial (Nat.le_refl 0) trivial trivial
  · exact iter_slices_IndexFunc_api_Rule_mods_add_1_L1 fu t0 t1_0 ((t0.1 : Nat) : Int) fu (0 : Int) hi hk

theorem fc_slices_IndexFunc_api_Rule_mods_add_1 (fu : Nat) (t0 : (Nat × (Nat → S_api_Rule))) (t1_0 : S_api_Rule) {r : Int} (h : F_slices_IndexFunc_api_Rule_mods_add_1 fu t0 t1_0 = some r) : FC Tryz.prog 30 [(S_api_Rule.L t0.1 t0.2), (D.fn 94 (D.cons (D.lptr (S_api_Rule.d t1_0)) D.nil))] [] (D.int .i64 r) [] := by
  refine fc_of_runs (fn := Tryz.f30) (c := Tryz.f30.body.getD .skip) (by kernel_rfl) (by kernel_rfl) ?_
  refine runs_to (ts := [0, 1]) (T' := T_slices_IndexFunc_api_Rule_mods_add_1) (env' := [(0, (S_api_Rule.L t0.1 t0.2)), (1, (D.fn 94 (D.cons (D.lptr (S_api_Rule.d t1_0)) D.nil)))]) (h2 := []) (by kernel_rfl) (by kernel_rfl) trivial (Nat.le_refl _) trivial (And.intro (fun _ _ => (S_api_Rule.inn _)) (And.intro (And.intro (S_api_Rule.inn _) trivial) trivial)) ?_
  exact run_slices_IndexFunc_api_Rule_mods_add_1 fu t0 t1_0 h rfl

def K_cube_both (d : D) (r : Bool) : Prop := d = (D.bool r)

noncomputable def T_cube_both : List Item := norm 200 [.code (Tryz.f120.body.getD .skip)]

/-- podesta/cube.both -/
def F_cube_both (fu : Nat) (t0 : S_api_Cube) (t1 : S_api_Cube) : Option Bool :=
  (F_cube_Sound fu t0).bind fun r0 =>
  (callIf r0 (F_cube_Sound fu t1) false).bind fun r1 =>
  some (bif r0 then r1 else false)

theorem run_cube_both (fu : Nat) (t0 : S_api_Cube) (t1 : S_api_Cube) {d : D} {r : Bool} (h : F_cube_both fu t0 t1 = some r) (hk : (K_cube_both d) r) : Runs Tryz.prog Tryz.f120 0 T_cube_both [(0, (S_api_Cube.d t0)), (1, (S_api_Cube.d t1))] [] d [] := by
  unfold F_cube_both at h
  obtain ⟨r0, cr0, h⟩ := Option.bind_eq_some_iff.1 h
  obtain ⟨r1, cr1, h⟩ := Option.bind_eq_some_iff.1 h
  refine runs_regions 2 [([], [2, 3]), ([(.d (D.bool r0)), (.d (D.bool r1))], [4])] (z := ([FC Tryz.prog 89 [(S_api_Cube.d t0)] [] (D.bool r0) [], All (List.map NoRow [(S_api_Cube.d t0)]), (r0 = true → All [(r0 = true → r0 = true), FC Tryz.prog 89 [(S_api_Cube.d t1)] [] (D.bool r1) [], All (List.map NoRow [(S_api_Cube.d t1)])]), ((true && r0) = true → r0 = true)], [(4, (D.bool (bif r0 then r1 else false)))], [some (.box (S_api_Cube.d t0)), some (.box (S_api_Cube.d t1))])) rfl (by kernel_rfl) (And.intro (fc_cube_Sound fu t0 cr0) (And.intro (And.intro (S_api_Cube.inn _) trivial) (And.intro (fun hg => (And.intro (by first | exact fun h => h | exact fun h => (Bool.and_eq_true_iff.1 h).1 | simp_all) (And.intro (fc_cube_Sound fu t1 (callIf_some cr1 hg)) (And.intro (And.intro (S_api_Cube.inn _) trivial) trivial)))) (And.intro (by first | exact fun h => h | exact fun h => (Bool.and_eq_true_iff.1 h).1 | simp_all) trivial)))) ?_
  rw [← Option.some.inj h] at hk
  obtain rfl : d = (D.bool (bif r0 then r1 else false)) := hk
  exact runs_ret (by kernel_rfl) trivial (Nat.le_refl 0) trivial trivial

theorem fc_cube_both (fu : Nat) (t0 : S_api_Cube) (t1 : S_api_Cube) {r : Bool} (h : F_cube_both fu t0 t1 = some r) : FC Tryz.prog 120 [(S_api_Cube.d t0), (S_api_Cube.d t1)] [] (D.bool r) [] := by
  refine fc_of_runs (fn := Tryz.f120) (c := Tryz.f120.body.getD .skip) (by kernel_rfl) (by kernel_rfl) ?_
  refine runs_to (ts := [0, 1]) (T' := T_cube_both) (env' := [(0, (S_api_Cube.d t0)), (1, (S_api_Cube.d t1))]) (h2 := []) (by kernel_rfl) (by kernel_rfl) trivial (Nat.le_refl _) trivial (And.intro (S_api_Cube.inn _) (And.intro (S_api_Cube.inn _) trivial)) ?_
  exact run_cube_both fu t0 t1 h rfl

def K_cube_Meet (d : D) (r : (S_api_Cube × Bool)) : Prop := d = (D.tup (D.cons (S_api_Cube.d r.1) (D.cons (D.bool r.2) D.nil)))

noncomputable def T_cube_Meet : List Item := norm 200 [.code (Tryz.f112.body.getD .skip)]

noncomputable def T_cube_Meet_L1 : List Item := norm 200 (nxt (cndF (nxt (nxt T_cube_Meet))))

noncomputable def X_cube_Meet_L1T : List Item := norm 200 (cndF (nxt (nxt (cndF (nxt (nxt T_cube_Meet))))))

abbrev E_cube_Meet_L1 := S_api_Cube

def N_cube_Meet_L1 (_fu : Nat) (m1 : S_api_Cube) (m2 : S_api_Cube) (d : D) (s : (Int × S_api_Cube)) : Prop := Runs Tryz.prog Tryz.f112 0 T_cube_Meet_L1 [(2, (D.ptr 0 [])), (3, (D.ptr 1 [])), (4, (D.ptr 2 [])), (12, (D.int .i64 s.1))] [some (.box (D.cons (D.ints .u64 12 s.2.f0) (D.cons (D.ints .u64 12 s.2.f1) D.nil))), some (.box (S_api_Cube.d m1)), some (.box (S_api_Cube.d m2))] d []

def X_cube_Meet_L1 (_fu : Nat) (_m1 : S_api_Cube) (m2 : S_api_Cube) (d : D) : E_cube_Meet_L1 ⊕ (S_api_Cube × Bool) → Prop
  | .inl e => Runs Tryz.prog Tryz.f112 0 X_cube_Meet_L1T [(2, (D.ptr 0 [])), (4, (D.ptr 2 []))] [some (.box (D.cons (D.ints .u64 12 e.f0) (D.cons (D.ints .u64 12 e.f1) D.nil))), none, some (.box (S_api_Cube.d m2))] d []
  | .inr o => (K_cube_Meet d) o

def F_cube_Meet_L1 (_fu : Nat) (m1 : S_api_Cube) (_m2 : S_api_Cube) (t12 : Int) (m0 : S_api_Cube) : Option (Lo (Int × S_api_Cube) E_cube_Meet_L1 (S_api_Cube × Bool)) :=
  ifs (decide (t12 < (12 : Int))) (
    chk (0 ≤ t12 ∧ t12 < ((12 : Nat) : Int)) <|
    chk (t12.toNat < 12) <|
    chk (0 ≤ t12 ∧ t12 < ((12 : Nat) : Int)) <|
    chk (t12.toNat < 12) <|
    chk (0 ≤ t12 ∧ t12 < ((12 : Nat) : Int)) <|
    chk (t12.toNat < 12) <|
    chk (0 ≤ t12 ∧ t12 < ((12 : Nat) : Int)) <|
    chk (t12.toNat < 12) <|
    ifs ((iand .u64 (iand .u64 (ixor .u64 (m0.f0 t12.toNat) (m1.f0 t12.toNat)) (m0.f1 t12.toNat)) (m1.f1 t12.toNat)) != (0 : Int)) (
      some (.ret ((S_api_Cube.mk (fun _ => 0) (fun _ => 0)), false))) (
      chk (0 ≤ t12 ∧ t12 < ((12 : Nat) : Int)) <|
      chk (t12.toNat < 12) <|
      chk (0 ≤ t12 ∧ t12 < ((12 : Nat) : Int)) <|
      chk (t12.toNat < 12) <|
      chk (0 ≤ t12 ∧ t12 < ((12 : Nat) : Int)) <|
      chk (t12.toNat < 12) <|
      chk (0 ≤ t12 ∧ t12 < ((12 : Nat) : Int)) <|
      chk (t12.toNat < 12) <|
      chk (0 ≤ t12 ∧ t12 < ((12 : Nat) : Int)) <|
      chk (t12.toNat < 12) <|
      chk (0 ≤ t12 ∧ t12 < ((12 : Nat) : Int)) <|
      chk (t12.toNat < 12) <|
      some (.next ((IntKind.wrap .i64 (t12 + (1 : Int))), (S_api_Cube.mk (fun j => if j = t12.toNat then (ior .u64 (m0.f0 t12.toNat) (m1.f0 t12.toNat)) else m0.f0 j) (fun j => if j = t12.toNat then (ior .u64 (m0.f1 t12.toNat) (m1.f1 t12.toNat)) else m0.f1 j)))))) (
    some (.exit m0))

theorem run_cube_Meet_L1 (fu : Nat) (m1 : S_api_Cube) (m2 : S_api_Cube) (t12 : Int) (m0 : S_api_Cube) {d : D} {o : (Lo (Int × S_api_Cube) E_cube_Meet_L1 (S_api_Cube × Bool))} (h : F_cube_Meet_L1 fu m1 m2 t12 m0 = some o) (hk : (Lo.post (N_cube_Meet_L1 fu m1 m2 d) (X_cube_Meet_L1 fu m1 m2 d)) o) : Runs Tryz.prog Tryz.f112 0 T_cube_Meet_L1 [(2, (D.ptr 0 [])), (3, (D.ptr 1 [])), (4, (D.ptr 2 [])), (12, (D.int .i64 t12))] [some (.box (S_api_Cube.d m0)), some (.box (S_api_Cube.d m1)), some (.box (S_api_Cube.d m2))] d [] := by
  unfold F_cube_Meet_L1 at h
  refine runs_regions 1 [([], [2, 3, 4, 12, 13])] (z := ([], [(2, (D.ptr 0 [])), (3, (D.ptr 1 [])), (4, (D.ptr 2 [])), (12, (D.int .i64 t12)), (13, (D.bool (decide (t12 < (12 : Int)))))], [some (.box (S_api_Cube.d m0)), some (.box (S_api_Cube.d m1)), some (.box (S_api_Cube.d m2))])) rfl (by kernel_rfl) trivial ?_
  refine runs_if (b := (decide (t12 < (12 : Int)))) (by kernel_rfl) (fun hb => ?_) (fun hb => ?_)
  · replace h := ifs_true h hb
    obtain ⟨p0, h⟩ := chk_some h
    obtain ⟨p1, h⟩ := chk_some h
    obtain ⟨p2, h⟩ := chk_some h
    obtain ⟨p3, h⟩ := chk_some h
    obtain ⟨p4, h⟩ := chk_some h
    obtain ⟨p5, h⟩ := chk_some h
    obtain ⟨p6, h⟩ := chk_some h
    obtain ⟨p7, h⟩ := chk_some h
    refine runs_regions 2 [([], [2, 3, 4, 6, 12]), ([], [2, 3, 4, 6, 12, 34])] (z := ([(0 ≤ t12 ∧ t12 < ((12 : Nat) : Int)), (t12.toNat < 12), (0 ≤ t12 ∧ t12 < ((12 : Nat) : Int)), (t12.toNat < 12), (0 ≤ t12 ∧ t12 < ((12 : Nat) : Int)), (t12.toNat < 12), (0 ≤ t12 ∧ t12 < ((12 : Nat) : Int)), (t12.toNat < 12)], [(2, (D.ptr 0 [])), (3, (D.ptr 1 [])), (4, (D.ptr 2 [])), (6, (D.int .i64 t12)), (12, (D.int .i64 t12)), (34, (D.bool ((iand .u64 (iand .u64 (ixor .u64 (m0.f0 t12.toNat) (m1.f0 t12.toNat)) (m0.f1 t12.toNat)) (m1.f1 t12.toNat)) != (0 : Int))))], [some (.box (S_api_Cube.d m0)), some (.box (S_api_Cube.d m1)), some (.box (S_api_Cube.d m2))])) rfl (by kernel_rfl) (And.intro p0 (And.intro p1 (And.intro p2 (And.intro p3 (And.intro p4 (And.intro p5 (And.intro p6 (And.intro p7 trivial)))))))) ?_
    refine runs_if (b := ((iand .u64 (iand .u64 (ixor .u64 (m0.f0 t12.toNat) (m1.f0 t12.toNat)) (m0.f1 t12.toNat)) (m1.f1 t12.toNat)) != (0 : Int))) (by kernel_rfl) (fun hb => ?_) (fun hb => ?_)
    · replace h := ifs_true h hb
      refine runs_regions 1 [([], [4, 5])] (z := ([], [(4, (D.ptr 2 [])), (5, (D.bool false))], [some (.box (S_api_Cube.d m0)), some (.box (S_api_Cube.d m1)), some (.box (D.cons (D.ints .u64 12 (fun _ => 0)) (D.cons (D.ints .u64 12 (fun _ => 0)) D.nil)))])) rfl (by kernel_rfl) trivial ?_
      rw [← Option.some.inj h] at hk
      obtain rfl : d = (D.tup (D.cons (D.cons (D.ints .u64 12 (fun _ => 0)) (D.cons (D.ints .u64 12 (fun _ => 0)) D.nil)) (D.cons (D.bool false) D.nil))) := hk
      exact runs_ret (by kernel_rfl) trivial (Nat.le_refl 0) trivial (And.intro (And.intro trivial (And.intro trivial trivial)) (And.intro trivial trivial))
    · replace h := ifs_false h hb
      obtain ⟨p8, h⟩ := chk_some h
      obtain ⟨p9, h⟩ := chk_some h
      obtain ⟨p10, h⟩ := chk_some h
      obtain ⟨p11, h⟩ := chk_some h
      obtain ⟨p12, h⟩ := chk_some h
      obtain ⟨p13, h⟩ := chk_some h
      obtain ⟨p14, h⟩ := chk_some h
      obtain ⟨p15, h⟩ := chk_some h
      obtain ⟨p16, h⟩ := chk_some h
      obtain ⟨p17, h⟩ := chk_some h
      obtain ⟨p18, h⟩ := chk_some h
      obtain ⟨p19, h⟩ := chk_some h
      refine runs_regions 3 [([], [2, 3, 4, 6, 12]), ([], [2, 3, 4, 12]), ([], [2, 3, 4, 12])] (z := ([(0 ≤ t12 ∧ t12 < ((12 : Nat) : Int)), (t12.toNat < 12), (0 ≤ t12 ∧ t12 < ((12 : Nat) : Int)), (t12.toNat < 12), (0 ≤ t12 ∧ t12 < ((12 : Nat) : Int)), (t12.toNat < 12), (0 ≤ t12 ∧ t12 < ((12 : Nat) : Int)), (t12.toNat < 12), (0 ≤ t12 ∧ t12 < ((12 : Nat) : Int)), (t12.toNat < 12), (0 ≤ t12 ∧ t12 < ((12 : Nat) : Int)), (t12.toNat < 12)], [(2, (D.ptr 0 [])), (3, (D.ptr 1 [])), (4, (D.ptr 2 [])), (12, (D.int .i64 (IntKind.wrap .i64 (t12 + (1 : Int)))))], [some (.box (D.cons (D.ints .u64 12 (fun j => if j = t12.toNat then (ior .u64 (m0.f0 t12.toNat) (m1.f0 t12.toNat)) else m0.f0 j)) (D.cons (D.ints .u64 12 (fun j => if j = t12.toNat then (ior .u64 (m0.f1 t12.toNat) (m1.f1 t12.toNat)) else m0.f1 j)) D.nil))), some (.box (S_api_Cube.d m1)), some (.box (S_api_Cube.d m2))])) rfl (by kernel_rfl) (And.intro p8 (And.intro p9 (And.intro p10 (And.intro p11 (And.intro p12 (And.intro p13 (And.intro p14 (And.intro p15 (And.intro p16 (And.intro p17 (And.intro p18 (And.intro p19 trivial)))))))))))) ?_
      rw [← Option.some.inj h] at hk
      refine runs_to (ts := [2, 3, 4, 12]) (T' := T_cube_Meet_L1) (env' := [(2, (D.ptr 0 [])), (3, (D.ptr 1 [])), (4, (D.ptr 2 [])), (12, (D.int .i64 (IntKind.wrap .i64 (t12 + (1 : Int)))))]) (h2 := [some (.box (D.cons (D.ints .u64 12 (fun j => if j = t12.toNat then (ior .u64 (m0.f0 t12.toNat) (m1.f0 t12.toNat)) else m0.f0 j)) (D.cons (D.ints .u64 12 (fun j => if j = t12.toNat then (ior .u64 (m0.f1 t12.toNat) (m1.f1 t12.toNat)) else m0.f1 j)) D.nil))), some (.box (S_api_Cube.d m1)), some (.box (S_api_Cube.d m2))]) (by kernel_rfl) (by kernel_rfl) (And.intro (.inr rfl) (And.intro (.inr rfl) (And.intro (.inr rfl) trivial))) (Nat.zero_le _) (And.intro (And.intro trivial (And.intro trivial trivial)) (And.intro (S_api_Cube.inn _) (And.intro (S_api_Cube.inn _) trivial))) (And.intro (bel_of rfl) (And.intro (bel_of rfl) (And.intro (bel_of rfl) (And.intro trivial trivial)))) ?_
      exact hk
  · replace h := ifs_false h hb
    rw [← Option.some.inj h] at hk
    refine runs_to (ts := [2, 4]) (T' := X_cube_Meet_L1T) (env' := [(2, (D.ptr 0 [])), (4, (D.ptr 2 []))]) (h2 := [some (.box (S_api_Cube.d m0)), none, some (.box (S_api_Cube.d m2))]) (by kernel_rfl) (by kernel_rfl) (And.intro (.inr rfl) (And.intro (.inl rfl) (And.intro (.inr rfl) trivial))) (Nat.zero_le _) (And.intro (S_api_Cube.inn _) (And.intro (S_api_Cube.inn _) trivial)) (And.intro (bel_of rfl) (And.intro (bel_of rfl) trivial)) ?_
    exact hk

theorem iter_cube_Meet_L1 (fu : Nat) (m1 : S_api_Cube) (m2 : S_api_Cube) {d : D} (k : Nat) (s : (Int × S_api_Cube)) {o : E_cube_Meet_L1 ⊕ (S_api_Cube × Bool)} (h : iter (fun s => F_cube_Meet_L1 fu m1 m2 s.1 s.2) k s = some o) (hx : X_cube_Meet_L1 fu m1 m2 d o) : N_cube_Meet_L1 fu m1 m2 d s :=
  iter_post (K := N_cube_Meet_L1 fu m1 m2 d) (X := X_cube_Meet_L1 fu m1 m2 d) (fun s _ h hk => run_cube_Meet_L1 fu m1 m2 s.1 s.2 h hk) k s o h hx

/-- podesta/cube.Meet -/
def F_cube_Meet (fu : Nat) (t0 : S_api_Cube) (t1 : S_api_Cube) : Option (S_api_Cube × Bool) :=
  (F_cube_both fu t0 t1).bind fun r0 =>
  ifs (!r0) (
    some ((S_api_Cube.mk (fun _ => 0) (fun _ => 0)), false)) (
    after (iter (fun s => F_cube_Meet_L1 fu t1 (S_api_Cube.mk (fun _ => 0) (fun _ => 0)) s.1 s.2) fu ((0 : Int), t0)) fun e21 =>
    some (e21, true))

theorem run_cube_Meet (fu : Nat) (t0 : S_api_Cube) (t1 : S_api_Cube) {d : D} {r : (S_api_Cube × Bool)} (h : F_cube_Meet fu t0 t1 = some r) (hk : (K_cube_Meet d) r) : Runs Tryz.prog Tryz.f112 0 T_cube_Meet [(0, (S_api_Cube.d t0)), (1, (S_api_Cube.d t1))] [] d [] := by
  unfold F_cube_Meet at h
  obtain ⟨r0, cr0, h⟩ := Option.bind_eq_some_iff.1 h
  refine runs_regions 2 [([], [2, 3, 4]), ([(.d (D.bool r0))], [2, 3, 4, 10])] (z := ([FC Tryz.prog 120 [(S_api_Cube.d t0), (S_api_Cube.d t1)] [] (D.bool r0) [], All (List.map NoRow [(S_api_Cube.d t0), (S_api_Cube.d t1)])], [(2, (D.ptr 0 [])), (3, (D.ptr 1 [])), (4, (D.ptr 2 [])), (10, (D.bool (!r0)))], [some (.box (S_api_Cube.d t0)), some (.box (S_api_Cube.d t1)), some (.box (D.cons (D.ints .u64 12 (fun _ => 0)) (D.cons (D.ints .u64 12 (fun _ => 0)) D.nil)))])) rfl (by kernel_rfl) (And.intro (fc_cube_both fu t0 t1 cr0) (And.intro (And.intro (S_api_Cube.inn _) (And.intro (S_api_Cube.inn _) trivial)) trivial)) ?_
  refine runs_if (b := (!r0)) (by kernel_rfl) (fun hb => ?_) (fun hb => ?_)
  · replace h := ifs_true h hb
    refine runs_regions 1 [([], [4, 5])] (z := ([], [(4, (D.ptr 2 [])), (5, (D.bool false))], [some (.box (S_api_Cube.d t0)), some (.box (S_api_Cube.d t1)), some (.box (D.cons (D.ints .u64 12 (fun _ => 0)) (D.cons (D.ints .u64 12 (fun _ => 0)) D.nil)))])) rfl (by kernel_rfl) trivial ?_
    rw [← Option.some.inj h] at hk
    obtain rfl : d = (D.tup (D.cons (D.cons (D.ints .u64 12 (fun _ => 0)) (D.cons (D.ints .u64 12 (fun _ => 0)) D.nil)) (D.cons (D.bool false) D.nil))) := hk
    exact runs_ret (by kernel_rfl) trivial (Nat.le_refl 0) trivial (And.intro (And.intro trivial (And.intro trivial trivial)) (And.intro trivial trivial))
  · replace h := ifs_false h hb
    refine runs_regions 1 [([], [2, 3, 4, 12])] (z := ([], [(2, (D.ptr 0 [])), (3, (D.ptr 1 [])), (4, (D.ptr 2 [])), (12, (D.int .i64 (0 : Int)))], [some (.box (S_api_Cube.d t0)), some (.box (S_api_Cube.d t1)), some (.box (D.cons (D.ints .u64 12 (fun _ => 0)) (D.cons (D.ints .u64 12 (fun _ => 0)) D.nil)))])) rfl (by kernel_rfl) trivial ?_
    refine runs_to (ts := [2, 3, 4, 12]) (T' := T_cube_Meet_L1) (env' := [(2, (D.ptr 0 [])), (3, (D.ptr 1 [])), (4, (D.ptr 2 [])), (12, (D.int .i64 (0 : Int)))]) (h2 := [some (.box (S_api_Cube.d t0)), some (.box (S_api_Cube.d t1)), some (.box (D.cons (D.ints .u64 12 (fun _ => 0)) (D.cons (D.ints .u64 12 (fun _ => 0)) D.nil)))]) (by kernel_rfl) (by kernel_rfl) (And.intro (.inr rfl) (And.intro (.inr rfl) (And.intro (.inr rfl) trivial))) (Nat.zero_le _) (And.intro (S_api_Cube.inn _) (And.intro (S_api_Cube.inn _) (And.intro (And.intro trivial (And.intro trivial trivial)) trivial))) (And.intro (bel_of rfl) (And.intro (bel_of rfl) (And.intro (bel_of rfl) (And.intro trivial trivial)))) ?_
    rcases after_some h with ⟨e21, hi, h⟩ | hi
    · refine iter_cube_Meet_L1 fu t1 (S_api_Cube.mk (fun _ => 0) (fun _ => 0)) fu ((0 : Int), t0) hi ?_
      show Runs Tryz.prog Tryz.f112 0 X_cube_Meet_L1T [(2, (D.ptr 0 [])), (4, (D.ptr 2 []))] [some (.box (S_api_Cube.d e21)), none, some (.box (D.cons (D.ints .u64 12 (fun _ => 0)) (D.cons (D.ints .u64 12 (fun _ => 0)) D.nil)))] d []
      refine runs_regions 1 [([], [4, 5])] (z := ([], [(4, (D.ptr 2 [])), (5, (D.bool true))], [some (.box (S_api_Cube.d e21)), none, some (.box (S_api_Cube.d e21))])) rfl (by kernel_rfl) trivial ?_
      rw [← Option.some.inj h] at hk
      obtain rfl : d = (D.tup (D.cons (S_api_Cube.d e21) (D.cons (D.bool true) D.nil))) := hk
      exact runs_ret (by kernel_rfl) trivial (Nat.le_refl 0) trivial (And.intro (S_api_Cube.inn _) (And.intro trivial trivial))
    · exact iter_cube_Meet_L1 fu t1 (S_api_Cube.mk (fun _ => 0) (fun _ => 0)) fu ((0 : Int), t0) hi hk

theorem fc_cube_Meet (fu : Nat) (t0 : S_api_Cube) (t1 : S_api_Cube) {r : (S_api_Cube × Bool)} (h : F_cube_Meet fu t0 t1 = some r) : FC Tryz.prog 112 [(S_api_Cube.d t0), (S_api_Cube.d t1)] [] (D.tup (D.cons (S_api_Cube.d r.1) (D.cons (D.bool r.2) D.nil))) [] := by
  refine fc_of_runs (fn := Tryz.f112) (c := Tryz.f112.body.getD .skip) (by kernel_rfl) (by kernel_rfl) ?_
  refine runs_to (ts := [0, 1]) (T' := T_cube_Meet) (env' := [(0, (S_api_Cube.d t0)), (1, (S_api_Cube.d t1))]) (h2 := []) (by kernel_rfl) (by kernel_rfl) trivial (Nat.le_refl _) trivial (And.intro (S_api_Cube.inn _) (And.intro (S_api_Cube.inn _) trivial)) ?_
  exact run_cube_Meet fu t0 t1 h rfl

def K_rule_Overlap (d : D) (r : Bool) : Prop := d = (D.bool r)

noncomputable def T_rule_Overlap : List Item := norm 200 [.code (Tryz.f96.body.getD .skip)]

/-- podesta/rule.Overlap -/
def F_rule_Overlap (fu : Nat) (t0 : S_api_Rule) (t1 : S_api_Rule) : Option Bool :=
  (F_cube_Meet fu t0.f0 t1.f0).bind fun r0 =>
  some (bif r0.2 then (t0.f1 == t1.f1) else false)

theorem run_rule_Overlap (fu : Nat) (t0 : S_api_Rule) (t1 : S_api_Rule) {d : D} {r : Bool} (h : F_rule_Overlap fu t0 t1 = some r) (hk : (K_rule_Overlap d) r) : Runs Tryz.prog Tryz.f96 0 T_rule_Overlap [(0, (S_api_Rule.d t0)), (1, (S_api_Rule.d t1))] [] d [] := by
  unfold F_rule_Overlap at h
  obtain ⟨r0, cr0, h⟩ := Option.bind_eq_some_iff.1 h
  refine runs_regions 3 [([], [2, 3]), ([(.d (D.tup (D.cons (S_api_Cube.d r0.1) (D.cons (D.bool r0.2) D.nil))))], [2, 3, 6]), ([], [4])] (z := ([FC Tryz.prog 112 [(S_api_Cube.d t0.f0), (S_api_Cube.d t1.f0)] [] (D.tup (D.cons (S_api_Cube.d r0.1) (D.cons (D.bool r0.2) D.nil))) [], All (List.map NoRow [(S_api_Cube.d t0.f0), (S_api_Cube.d t1.f0)]), (r0.2 = true → All [(r0.2 = true → r0.2 = true)]), (r0.2 = true → All [(r0.2 = true → r0.2 = true)]), (r0.2 = true → All [(r0.2 = true → r0.2 = true), (r0.2 = true → r0.2 = true)]), ((true && r0.2) = true → r0.2 = true)], [(4, (D.bool (bif r0.2 then (t0.f1 == t1.f1) else false)))], [some (.box (S_api_Rule.d t0)), some (.box (S_api_Rule.d t1)), some (.box (S_api_Cube.d r0.1))])) rfl (by kernel_rfl) (And.intro (fc_cube_Meet fu t0.f0 t1.f0 cr0) (And.intro (And.intro (S_api_Cube.inn _) (And.intro (S_api_Cube.inn _) trivial)) (And.intro (fun _ => (And.intro (by first | exact fun h => h | exact fun h => (Bool.and_eq_true_iff.1 h).1 | simp_all) trivial)) (And.intro (fun _ => (And.intro (by first | exact fun h => h | exact fun h => (Bool.and_eq_true_iff.1 h).1 | simp_all) trivial)) (And.intro (fun _ => (And.intro (by first | exact fun h => h | exact fun h => (Bool.and_eq_true_iff.1 h).1 | simp_all) (And.intro (by first | exact fun h => h | exact fun h => (Bool.and_eq_true_iff.1 h).1 | simp_all) trivial))) (And.intro (by first | exact fun h => h | exact fun h => (Bool.and_eq_true_iff.1 h).1 | simp_all) trivial)))))) ?_
  rw [← Option.some.inj h] at hk
  obtain rfl : d = (D.bool (bif r0.2 then (t0.f1 == t1.f1) else false)) := hk
  exact runs_ret (by kernel_rfl) trivial (Nat.le_refl 0) trivial trivial

theorem fc_rule_Overlap (fu : Nat) (t0 : S_api_Rule) (t1 : S_api_Rule) {r : Bool} (h : F_rule_Overlap fu t0 t1 = some r) : FC Tryz.prog 96 [(S_api_Rule.d t0), (S_api_Rule.d t1)] [] (D.bool r) [] := by
  refine fc_of_runs (fn := Tryz.f96) (c := Tryz.f96.body.getD .skip) (by kernel_rfl) (by kernel_rfl) ?_
  refine runs_to (ts := [0, 1]) (T' := T_rule_Overlap) (env' := [(0, (S_api_Rule.d t0)), (1, (S_api_Rule.d t1))]) (h2 := []) (by kernel_rfl) (by kernel_rfl) trivial (Nat.le_refl _) trivial (And.intro (S_api_Rule.inn _) (And.intro (S_api_Rule.inn _) trivial)) ?_
  exact run_rule_Overlap fu t0 t1 h rfl

def K_mods_add_2 (d : D) (r : Bool) : Prop := d = (D.bool r)

noncomputable def T_mods_add_2 : List Item := norm 200 [.code (Tryz.f95.body.getD .skip)]

/-- podesta/mods.add 2 -/
def F_mods_add_2 (fu : Nat) (t0 : S_api_Rule) (t1 : S_api_Rule) : Option Bool :=
  (F_rule_Key t0 t1).bind fun r0 =>
  (callIf (!r0) (F_rule_Overlap fu t0 t1) false).bind fun r1 =>
  some (bif (!r0) then r1 else false)

theorem run_mods_add_2 (fu : Nat) (t0 : S_api_Rule) (t1 : S_api_Rule) {d : D} {r : Bool} (h : F_mods_add_2 fu t0 t1 = some r) (hk : (K_mods_add_2 d) r) : Runs Tryz.prog Tryz.f95 0 T_mods_add_2 [(0, (S_api_Rule.d t0)), (1, (D.lptr (S_api_Rule.d t1)))] [] d [] := by
  unfold F_mods_add_2 at h
  obtain ⟨r0, cr0, h⟩ := Option.bind_eq_some_iff.1 h
  obtain ⟨r1, cr1, h⟩ := Option.bind_eq_some_iff.1 h
  refine runs_regions 2 [([], [1, 2]), ([(.d (D.bool r0)), (.d (D.bool r1))], [3])] (z := ([FC Tryz.prog 32 [(S_api_Rule.d t0), (S_api_Rule.d t1)] [] (D.bool r0) [], All (List.map NoRow [(S_api_Rule.d t0), (S_api_Rule.d t1)]), ((!r0) = true → All [((!r0) = true → (!r0) = true), ((!r0) = true → (!r0) = true), FC Tryz.prog 96 [(S_api_Rule.d t0), (S_api_Rule.d t1)] [] (D.bool r1) [], All (List.map NoRow [(S_api_Rule.d t0), (S_api_Rule.d t1)])]), ((true && (!r0)) = true → (!r0) = true)], [(3, (D.bool (bif (!r0) then r1 else false)))], [some (.box (S_api_Rule.d t0))])) rfl (by kernel_rfl) (And.intro (fc_rule_Key t0 t1 cr0) (And.intro (And.intro (S_api_Rule.inn _) (And.intro (S_api_Rule.inn _) trivial)) (And.intro (fun hg => (And.intro (by first | exact fun h => h | exact fun h => (Bool.and_eq_true_iff.1 h).1 | simp_all) (And.intro (by first | exact fun h => h | exact fun h => (Bool.and_eq_true_iff.1 h).1 | simp_all) (And.intro (fc_rule_Overlap fu t0 t1 (callIf_some cr1 hg)) (And.intro (And.intro (S_api_Rule.inn _) (And.intro (S_api_Rule.inn _) trivial)) trivial))))) (And.intro (by first | exact fun h => h | exact fun h => (Bool.and_eq_true_iff.1 h).1 | simp_all) trivial)))) ?_
  rw [← Option.some.inj h] at hk
  obtain rfl : d = (D.bool (bif (!r0) then r1 else false)) := hk
  exact runs_ret (by kernel_rfl) trivial (Nat.le_refl 0) trivial trivial

theorem fc_mods_add_2 (fu : Nat) (t0 : S_api_Rule) (t1 : S_api_Rule) {r : Bool} (h : F_mods_add_2 fu t0 t1 = some r) : FC Tryz.prog 95 [(S_api_Rule.d t0), (D.lptr (S_api_Rule.d t1))] [] (D.bool r) [] := by
  refine fc_of_runs (fn := Tryz.f95) (c := Tryz.f95.body.getD .skip) (by kernel_rfl) (by kernel_rfl) ?_
  refine runs_to (ts := [0, 1]) (T' := T_mods_add_2) (env' := [(0, (S_api_Rule.d t0)), (1, (D.lptr (S_api_Rule.d t1)))]) (h2 := []) (by kernel_rfl) (by kernel_rfl) trivial (Nat.le_refl _) trivial (And.intro (S_api_Rule.inn _) (And.intro (S_api_Rule.inn _) trivial)) ?_
  exact run_mods_add_2 fu t0 t1 h rfl

def K_slices_IndexFunc_api_Rule_mods_add_2 (d : D) (r : Int) : Prop := d = (D.int .i64 r)

noncomputable def T_slices_IndexFunc_api_Rule_mods_add_2 : List Item := norm 200 [.code (Tryz.f30.body.getD .skip)]

noncomputable def T_slices_IndexFunc_api_Rule_mods_add_2_L1 : List Item := norm 200 (nxt (nxt T_slices_IndexFunc_api_Rule_mods_add_2))

noncomputable def X_slices_IndexFunc_api_Rule_mods_add_2_L1T : List Item := norm 200 (cndF (nxt (nxt (nxt T_slices_IndexFunc_api_Rule_mods_add_2))))

abbrev E_slices_IndexFunc_api_Rule_mods_add_2_L1 := Unit

def N_slices_IndexFunc_api_Rule_mods_add_2_L1 (_fu : Nat) (t0 : (Nat × (Nat → S_api_Rule))) (t1_0 : S_api_Rule) (t7 : Int) (d : D) (s : Int) : Prop := Runs Tryz.prog Tryz.f30 0 T_slices_IndexFunc_api_Rule_mods_add_2_L1 [(0, (S_api_Rule.L t0.1 t0.2)), (1, (D.fn 95 (D.cons (D.lptr (S_api_Rule.d t1_0)) D.nil))), (7, (D.int .i64 t7)), (8, (D.int .i64 s))] [] d []

def X_slices_IndexFunc_api_Rule_mods_add_2_L1 (_fu : Nat) (_t0 : (Nat × (Nat → S_api_Rule))) (_t1_0 : S_api_Rule) (_t7 : Int) (d : D) : E_slices_IndexFunc_api_Rule_mods_add_2_L1 ⊕ Int → Prop
  | .inl _ => Runs Tryz.prog Tryz.f30 0 X_slices_IndexFunc_api_Rule_mods_add_2_L1T [] [] d []
  | .inr o => (K_slices_IndexFunc_api_Rule_mods_add_2 d) o

def F_slices_IndexFunc_api_Rule_mods_add_2_L1 (fu : Nat) (t0 : (Nat × (Nat → S_api_Rule))) (t1_0 : S_api_Rule) (t7 : Int) (t8 : Int) : Option (Lo Int E_slices_IndexFunc_api_Rule_mods_add_2_L1 Int) :=
  ifs (decide (t8 < t7)) (
    chk (0 ≤ t8 ∧ t8 < ((t0.1 : Nat) : Int)) <|
    (F_mods_add_2 fu (t0.2 t8.toNat) t1_0).bind fun r0 =>
    ifs r0 (
      some (.ret t8)) (
      some (.next (IntKind.wrap .i64 (t8 + (1 : Int)))))) (
    some (.exit ()))

theorem run_slices_IndexFunc_api_Rule_mods_add_2_L1 (fu : Nat) (t0 : (Nat × (Nat → S_api_Rule))) (t1_0 : S_api_Rule) (t7 : Int) (t8 : Int) {d : D} {o : (Lo Int E_slices_IndexFunc_api_Rule_mods_add_2_L1 Int)} (h : F_slices_IndexFunc_api_Rule_mods_add_2_L1 fu t0 t1_0 t7 t8 = some o) (hk : (Lo.post (N_slices_IndexFunc_api_Rule_mods_add_2_L1 fu t0 t1_0 t7 d) (X_slices_IndexFunc_api_Rule_mods_add_2_L1 fu t0 t1_0 t7 d)) o) : Runs Tryz.prog Tryz.f30 0 T_slices_IndexFunc_api_Rule_mods_add_2_L1 [(0, (S_api_Rule.L t0.1 t0.2)), (1, (D.fn 95 (D.cons (D.lptr (S_api_Rule.d t1_0)) D.nil))), (7, (D.int .i64 t7)), (8, (D.int .i64 t8))] [] d [] := by
  unfold F_slices_IndexFunc_api_Rule_mods_add_2_L1 at h
  refine runs_regions 1 [([], [0, 1, 7, 8, 9])] (z := ([], [(0, (S_api_Rule.L t0.1 t0.2)), (1, (D.fn 95 (D.cons (D.lptr (S_api_Rule.d t1_0)) D.nil))), (7, (D.int .i64 t7)), (8, (D.int .i64 t8)), (9, (D.bool (decide (t8 < t7))))], [])) rfl (by kernel_rfl) trivial ?_
  refine runs_if (b := (decide (t8 < t7))) (by kernel_rfl) (fun hb => ?_) (fun hb => ?_)
  · replace h := ifs_true h hb
    obtain ⟨p0, h⟩ := chk_some h
    obtain ⟨r0, cr0, h⟩ := Option.bind_eq_some_iff.1 h
    refine runs_regions 2 [([], [0, 1, 5, 7, 8]), ([(.d (D.bool r0))], [0, 1, 5, 7, 8, 16])] (z := ([(0 ≤ t8 ∧ t8 < ((t0.1 : Nat) : Int)), FC Tryz.prog 95 [(S_api_Rule.d (t0.2 t8.toNat)), (D.lptr (S_api_Rule.d t1_0))] [] (D.bool r0) [], All (List.map NoRow [(S_api_Rule.d (t0.2 t8.toNat)), (D.lptr (S_api_Rule.d t1_0))])], [(0, (S_api_Rule.L t0.1 t0.2)), (1, (D.fn 95 (D.cons (D.lptr (S_api_Rule.d t1_0)) D.nil))), (5, (D.int .i64 t8)), (7, (D.int .i64 t7)), (8, (D.int .i64 t8)), (16, (D.bool r0))], [])) rfl (by kernel_rfl) (And.intro p0 (And.intro (fc_mods_add_2 fu (t0.2 t8.toNat) t1_0 cr0) (And.intro (And.intro (S_api_Rule.inn _) (And.intro (S_api_Rule.inn _) trivial)) trivial))) ?_
    refine runs_if (b := r0) (by kernel_rfl) (fun hb => ?_) (fun hb => ?_)
    · replace h := ifs_true h hb
      refine runs_regions 1 [([], [4])] (z := ([], [(4, (D.int .i64 t8))], [])) rfl (by kernel_rfl) trivial ?_
      rw [← Option.some.inj h] at hk
      obtain rfl : d = (D.int .i64 t8) := hk
      exact runs_ret (by kernel_rfl) trivial (Nat.le_refl 0) trivial trivial
    · replace h := ifs_false h hb
      refine runs_regions 1 [([], [0, 1, 7, 8])] (z := ([], [(0, (S_api_Rule.L t0.1 t0.2)), (1, (D.fn 95 (D.cons (D.lptr (S_api_Rule.d t1_0)) D.nil))), (7, (D.int .i64 t7)), (8, (D.int .i64 (IntKind.wrap .i64 (t8 + (1 : Int)))))], [])) rfl (by kernel_rfl) trivial ?_
      rw [← Option.some.inj h] at hk
      refine runs_to (ts := [0, 1, 7, 8]) (T' := T_slices_IndexFunc_api_Rule_mods_add_2_L1) (env' := [(0, (S_api_Rule.L t0.1 t0.2)), (1, (D.fn 95 (D.cons (D.lptr (S_api_Rule.d t1_0)) D.nil))), (7, (D.int .i64 t7)), (8, (D.int .i64 (IntKind.wrap .i64 (t8 + (1 : Int)))))]) (h2 := []) (by kernel_rfl) (by kernel_rfl) trivial (Nat.zero_le _) trivial (And.intro (fun _ _ => (S_api_Rule.inn _)) (And.intro (And.intro (S_api_Rule.inn _) trivial) (And.intro trivial (And.intro trivial trivial)))) ?_
      exact hk
  · replace h := ifs_false h hb
    rw [← Option.some.inj h] at hk
    refine runs_to (ts := []) (T' := X_slices_IndexFunc_api_Rule_mods_add_2_L1T) (env' := []) (h2 := []) (by kernel_rfl) (by kernel_rfl) trivial (Nat.zero_le _) trivial trivial ?_
    exact hk

theorem iter_slices_IndexFunc_api_Rule_mods_add_2_L1 (fu : Nat) (t0 : (Nat × (Nat → S_api_Rule))) (t1_0 : S_api_Rule) (t7 : Int) {d : D} (k : Nat) (s : Int) {o : E_slices_IndexFunc_api_Rule_mods_add_2_L1 ⊕ Int} (h : iter (fun s => F_slices_IndexFunc_api_Rule_mods_add_2_L1 fu t0 t1_0 t7 s) k s = some o) (hx : X_slices_IndexFunc_api_Rule_mods_add_2_L1 fu t0 t1_0 t7 d o) : N_slices_IndexFunc_api_Rule_mods_add_2_L1 fu t0 t1_0 t7 d s :=
  iter_post (K := N_slices_IndexFunc_api_Rule_mods_add_2_L1 fu t0 t1_0 t7 d) (X := X_slices_IndexFunc_api_Rule_mods_add_2_L1 fu t0 t1_0 t7 d) (fun s _ h hk => run_slices_IndexFunc_api_Rule_mods_add_2_L1 fu t0 t1_0 t7 s h hk) k s o h hx

/-- slices.IndexFunc[[]podesta/api.Rule,podesta/api.Rule] -/
def F_slices_IndexFunc_api_Rule_mods_add_2 (fu : Nat) (t0 : (Nat × (Nat → S_api_Rule))) (t1_0 : S_api_Rule) : Option Int :=
  after (iter (fun s => F_slices_IndexFunc_api_Rule_mods_add_2_L1 fu t0 t1_0 ((t0.1 : Nat) : Int) s) fu (0 : Int)) fun _ =>
  some (-1 : Int)

theorem run_slices_IndexFunc_api_Rule_mods_add_2 (fu : Nat) (t0 : (Nat × (Nat → S_api_Rule))) (t1_0 : S_api_Rule) {d : D} {r : Int} (h : F_slices_IndexFunc_api_Rule_mods_add_2 fu t0 t1_0 = some r) (hk : (K_slices_IndexFunc_api_Rule_mods_add_2 d) r) : Runs Tryz.prog Tryz.f30 0 T_slices_IndexFunc_api_Rule_mods_add_2 [(0, (S_api_Rule.L t0.1 t0.2)), (1, (D.fn 95 (D.cons (D.lptr (S_api_Rule.d t1_0)) D.nil)))] [] d [] := by
  unfold F_slices_IndexFunc_api_Rule_mods_add_2 at h
  refine runs_regions 2 [([], [0, 1]), ([], [0, 1, 7, 8])] (z := ([], [(0, (S_api_Rule.L t0.1 t0.2)), (1, (D.fn 95 (D.cons (D.lptr (S_api_Rule.d t1_0)) D.nil))), (7, (D.int .i64 ((t0.1 : Nat) : Int))), (8, (D.int .i64 (0 : Int)))], [])) rfl (by kernel_rfl) trivial ?_
  refine runs_to (ts := [0, 1, 7, 8]) (T' := T_slices_IndexFunc_api_Rule_mods_add_2_L1) (env' := [(0, (S_api_Rule.L t0.1 t0.2)), (1, (D.fn 95 (D.cons (D.lptr (S_api_Rule.d t1_0)) D.nil))), (7, (D.int .i64 ((t0.1 : Nat) : Int))), (8, (D.int .i64 (0 : Int)))]) (h2 := []) (by kernel_rfl) (by kernel_rfl) trivial (Nat.zero_le _) trivial (And.intro (fun _ _ => (S_api_Rule.inn _)) (And.intro (And.intro (S_api_Rule.inn _) trivial) (And.intro trivial (And.intro trivial trivial)))) ?_
  rcases after_some h with ⟨e2, hi, h⟩ | hi
  · refine iter_slices_IndexFunc_api_Rule_mods_add_2_L1 fu t0 t1_0 ((t0.1 : Nat) : Int) fu (0 : Int) hi ?_
    show Runs Tryz.prog Tryz.f30 0 X_slices_IndexFunc_api_Rule_mods_add_2_L1T [] [] d []
    refine runs_regions 1 [([], [4])] (z := ([], [(4, (D.int .i64 (-1 : Int)))], [])) rfl (by kernel_rfl) trivial ?_
    rw [← Option.some.inj h] at hk
    obtain rfl : d = (D.int .i64 (-1 : Int)) := hk
    exact runs_ret (by kernel_rfl) trivial (Nat.le_refl 0) trivial trivial
  · exact iter_slices_IndexFunc_api_Rule_mods_add_2_L1 fu t0 t1_0 ((t0.1 : Nat) : Int) fu (0 : Int) hi hk

theorem fc_slices_IndexFunc_api_Rule_mods_add_2 (fu : Nat) (t0 : (Nat × (Nat → S_api_Rule))) (t1_0 : S_api_Rule) {r : Int} (h : F_slices_IndexFunc_api_Rule_mods_add_2 fu t0 t1_0 = some r) : FC Tryz.prog 30 [(S_api_Rule.L t0.1 t0.2), (D.fn 95 (D.cons (D.lptr (S_api_Rule.d t1_0)) D.nil))] [] (D.int .i64 r) [] := by
  refine fc_of_runs (fn := Tryz.f30) (c := Tryz.f30.body.getD .skip) (by kernel_rfl) (by kernel_rfl) ?_
  refine runs_to (ts := [0, 1]) (T' := T_slices_IndexFunc_api_Rule_mods_add_2) (env' := [(0, (S_api_Rule.L t0.1 t0.2)), (1, (D.fn 95 (D.cons (D.lptr (S_api_Rule.d t1_0)) D.nil)))]) (h2 := []) (by kernel_rfl) (by kernel_rfl) trivial (Nat.le_refl _) trivial (And.intro (fun _ _ => (S_api_Rule.inn _)) (And.intro (And.intro (S_api_Rule.inn _) trivial) trivial)) ?_
  exact run_slices_IndexFunc_api_Rule_mods_add_2 fu t0 t1_0 h rfl

def K_slices_ContainsFunc_api_Rule_mods_add_2 (d : D) (r : Bool) : Prop := d = (D.bool r)

noncomputable def T_slices_ContainsFunc_api_Rule_mods_add_2 : List Item := norm 200 [.code (Tryz.f97.body.getD .skip)]

/-- slices.ContainsFunc[[]podesta/api.Rule,podesta/api.Rule] -/
def F_slices_ContainsFunc_api_Rule_mods_add_2 (fu : Nat) (t0 : (Nat × (Nat → S_api_Rule))) (t1_0 : S_api_Rule) : Option Bool :=
  (F_slices_IndexFunc_api_Rule_mods_add_2 fu t0 t1_0).bind fun r0 =>
  some (decide (r0 ≥ (0 : Int)))

theorem run_slices_ContainsFunc_api_Rule_mods_add_2 (fu : Nat) (t0 : (Nat × (Nat → S_api_Rule))) (t1_0 : S_api_Rule) {d : D} {r : Bool} (h : F_slices_ContainsFunc_api_Rule_mods_add_2 fu t0 t1_0 = some r) (hk : (K_slices_ContainsFunc_api_Rule_mods_add_2 d) r) : Runs Tryz.prog Tryz.f97 0 T_slices_ContainsFunc_api_Rule_mods_add_2 [(0, (S_api_Rule.L t0.1 t0.2)), (1, (D.fn 95 (D.cons (D.lptr (S_api_Rule.d t1_0)) D.nil)))] [] d [] := by
  unfold F_slices_ContainsFunc_api_Rule_mods_add_2 at h
  obtain ⟨r0, cr0, h⟩ := Option.bind_eq_some_iff.1 h
  refine runs_regions 2 [([], [0, 1]), ([(.d (D.int .i64 r0))], [4])] (z := ([FC Tryz.prog 30 [(S_api_Rule.L t0.1 t0.2), (D.fn 95 (D.cons (D.lptr (S_api_Rule.d t1_0)) D.nil))] [] (D.int .i64 r0) [], All (List.map NoRow [(S_api_Rule.L t0.1 t0.2), (D.fn 95 (D.cons (D.lptr (S_api_Rule.d t1_0)) D.nil))])], [(4, (D.bool (decide (r0 ≥ (0 : Int)))))], [])) rfl (by kernel_rfl) (And.intro (fc_slices_IndexFunc_api_Rule_mods_add_2 fu t0 t1_0 cr0) (And.intro (And.intro (fun _ _ => (S_api_Rule.inn _)) (And.intro (And.intro (S_api_Rule.inn _) trivial) trivial)) trivial)) ?_
  rw [← Option.some.inj h] at hk
  obtain rfl : d = (D.bool (decide (r0 ≥ (0 : Int)))) := hk
  exact runs_ret (by kernel_rfl) trivial (Nat.le_refl 0) trivial trivial

theorem fc_slices_ContainsFunc_api_Rule_mods_add_2 (fu : Nat) (t0 : (Nat × (Nat → S_api_Rule))) (t1_0 : S_api_Rule) {r : Bool} (h : F_slices_ContainsFunc_api_Rule_mods_add_2 fu t0 t1_0 = some r) : FC Tryz.prog 97 [(S_api_Rule.L t0.1 t0.2), (D.fn 95 (D.cons (D.lptr (S_api_Rule.d t1_0)) D.nil))] [] (D.bool r) [] := by
  refine fc_of_runs (fn := Tryz.f97) (c := Tryz.f97.body.getD .skip) (by kernel_rfl) (by kernel_rfl) ?_
  refine runs_to (ts := [0, 1]) (T' := T_slices_ContainsFunc_api_Rule_mods_add_2) (env' := [(0, (S_api_Rule.L t0.1 t0.2)), (1, (D.fn 95 (D.cons (D.lptr (S_api_Rule.d t1_0)) D.nil)))]) (h2 := []) (by kernel_rfl) (by kernel_rfl) trivial (Nat.le_refl _) trivial (And.intro (fun _ _ => (S_api_Rule.inn _)) (And.intro (And.intro (S_api_Rule.inn _) trivial) trivial)) ?_
  exact run_slices_ContainsFunc_api_Rule_mods_add_2 fu t0 t1_0 h rfl

def K_rule_copied (d : D) (r : S_api_Rule) : Prop := d = (S_api_Rule.d r)

noncomputable def T_rule_copied : List Item := norm 200 [.code (Tryz.f40.body.getD .skip)]

/-- podesta/rule.copied -/
def F_rule_copied (t0 : S_api_Rule) : Option S_api_Rule :=
  (F_slices_Clone_api_Act t0.f2).bind fun r0 =>
  (F_slices_Clip_api_Act r0).bind fun r1 =>
  some (S_api_Rule.mk t0.f0 t0.f1 r1 t0.f3 t0.f4 t0.f5 t0.f6 t0.f7 t0.f8)

theorem run_rule_copied (t0 : S_api_Rule) {d : D} {r : S_api_Rule} (h : F_rule_copied t0 = some r) (hk : (K_rule_copied d) r) : Runs Tryz.prog Tryz.f40 0 T_rule_copied [(0, (S_api_Rule.d t0))] [] d [] := by
  unfold F_rule_copied at h
  obtain ⟨r0, cr0, h⟩ := Option.bind_eq_some_iff.1 h
  obtain ⟨r1, cr1, h⟩ := Option.bind_eq_some_iff.1 h
  refine runs_regions 3 [([], [1, 2]), ([(.d (S_api_Act.L r0.1 r0.2)), (.d (S_api_Act.L r1.1 r1.2))], [1, 2]), ([], [2])] (z := ([FC Tryz.prog 39 [(S_api_Act.L t0.f2.1 t0.f2.2)] [] (S_api_Act.L r0.1 r0.2) [], All (List.map NoRow [(S_api_Act.L t0.f2.1 t0.f2.2)]), FC Tryz.prog 38 [(S_api_Act.L r0.1 r0.2)] [] (S_api_Act.L r1.1 r1.2) [], All (List.map NoRow [(S_api_Act.L r0.1 r0.2)])], [(2, (D.ptr 1 []))], [some (.box (D.cons (S_api_Cube.d t0.f0) (D.cons (D.int .i64 t0.f1) (D.cons (S_api_Act.L r1.1 r1.2) (D.cons (D.int .i64 t0.f3) (D.cons (D.int .i64 t0.f4) (D.cons (D.int .i64 t0.f5) (D.cons (D.int .i64 t0.f6) (D.cons (D.int .i64 t0.f7) (D.cons (D.int .i64 t0.f8) D.nil)))))))))), some (.box (D.cons (S_api_Cube.d t0.f0) (D.cons (D.int .i64 t0.f1) (D.cons (S_api_Act.L r1.1 r1.2) (D.cons (D.int .i64 t0.f3) (D.cons (D.int .i64 t0.f4) (D.cons (D.int .i64 t0.f5) (D.cons (D.int .i64 t0.f6) (D.cons (D.int .i64 t0.f7) (D.cons (D.int .i64 t0.f8) D.nil))))))))))])) rfl (by kernel_rfl) (And.intro (fcl_slices_Clone_api_Act t0.f2 cr0) (And.intro (And.intro (fun _ _ => (S_api_Act.inn _)) trivial) (And.intro (fc_slices_Clip_api_Act r0 cr1) (And.intro (And.intro (fun _ _ => (S_api_Act.inn _)) trivial) trivial)))) ?_
  rw [← Option.some.inj h] at hk
  obtain rfl : d = (D.cons (S_api_Cube.d t0.f0) (D.cons (D.int .i64 t0.f1) (D.cons (S_api_Act.L r1.1 r1.2) (D.cons (D.int .i64 t0.f3) (D.cons (D.int .i64 t0.f4) (D.cons (D.int .i64 t0.f5) (D.cons (D.int .i64 t0.f6) (D.cons (D.int .i64 t0.f7) (D.cons (D.int .i64 t0.f8) D.nil))))))))) := hk
  exact runs_ret (by kernel_rfl) trivial (Nat.le_refl 0) trivial (And.intro (S_api_Cube.inn _) (And.intro trivial (And.intro (fun _ _ => (S_api_Act.inn _)) (And.intro trivial (And.intro trivial (And.intro trivial (And.intro trivial (And.intro trivial (And.intro trivial trivial)))))))))

theorem fc_rule_copied (t0 : S_api_Rule) {r : S_api_Rule} (h : F_rule_copied t0 = some r) : FC Tryz.prog 40 [(S_api_Rule.d t0)] [] (S_api_Rule.d r) [] := by
  refine fc_of_runs (fn := Tryz.f40) (c := Tryz.f40.body.getD .skip) (by kernel_rfl) (by kernel_rfl) ?_
  refine runs_to (ts := [0]) (T' := T_rule_copied) (env' := [(0, (S_api_Rule.d t0))]) (h2 := []) (by kernel_rfl) (by kernel_rfl) trivial (Nat.le_refl _) trivial (And.intro (S_api_Rule.inn _) trivial) ?_
  exact run_rule_copied t0 h rfl

def K_rule_Copy_own (d : D) (hp : Heap) (r : (Nat × (Nat → S_api_Rule))) : Prop := d = (D.own 0) ∧ hp = [some (S_api_Rule.Q 52 r.1 r.2)]

noncomputable def T_rule_Copy_own : List Item := norm 200 [.code (Tryz.f25.body.getD .skip)]

noncomputable def T_rule_Copy_own_L1 : List Item := norm 200 (nxt (nxt (nxt T_rule_Copy_own)))

noncomputable def X_rule_Copy_own_L1T : List Item := norm 200 (cndF (nxt (nxt (nxt (nxt T_rule_Copy_own)))))

abbrev E_rule_Copy_own_L1 := (Nat × (Nat → S_api_Rule))

def N_rule_Copy_own_L1 (_fu : Nat) (t6 : (Nat × (Nat → S_api_Rule))) (t7 : Int) (d : D) (hp : Heap) (s : (Int × (Nat × (Nat → S_api_Rule)))) : Prop := Runs Tryz.prog Tryz.f25 0 T_rule_Copy_own_L1 [(3, (D.own 1)), (6, (S_api_Rule.L t6.1 t6.2)), (7, (D.int .i64 t7)), (8, (D.int .i64 s.1))] [none, some (S_api_Rule.Q 52 s.2.1 s.2.2)] d hp

def X_rule_Copy_own_L1 (_fu : Nat) (_t6 : (Nat × (Nat → S_api_Rule))) (_t7 : Int) (d : D) (hp : Heap) : E_rule_Copy_own_L1 ⊕ (Nat × (Nat → S_api_Rule)) → Prop
  | .inl e => Runs Tryz.prog Tryz.f25 0 X_rule_Copy_own_L1T [(3, (D.own 1))] [none, some (S_api_Rule.Q 52 e.1 e.2)] d hp
  | .inr o => (K_rule_Copy_own d hp) o

def F_rule_Copy_own_L1 (_fu : Nat) (t6 : (Nat × (Nat → S_api_Rule))) (t7 : Int) (t8 : Int) (m1 : (Nat × (Nat → S_api_Rule))) : Option (Lo (Int × (Nat × (Nat → S_api_Rule))) E_rule_Copy_own_L1 (Nat × (Nat → S_api_Rule))) :=
  ifs (decide (t8 < t7)) (
    chk (0 ≤ t8 ∧ t8 < ((t6.1 : Nat) : Int)) <|
    (F_rule_copied (t6.2 t8.toNat)).bind fun r0 =>
    chk (RoomOk (m1.1 + 1) 272) <|
    some (.next ((IntKind.wrap .i64 (t8 + (1 : Int))), ((m1.1 + 1), (fun i => if i < m1.1 then m1.2 i else (fun i => ([r0] : List S_api_Rule).getD i S_api_Rule.z) (i - m1.1)))))) (
    some (.exit m1))

theorem run_rule_Copy_own_L1 (fu : Nat) (t6 : (Nat × (Nat → S_api_Rule))) (t7 : Int) (t8 : Int) (m1 : (Nat × (Nat → S_api_Rule))) {d : D} {hp : Heap} {o : (Lo (Int × (Nat × (Nat → S_api_Rule))) E_rule_Copy_own_L1 (Nat × (Nat → S_api_Rule)))} (h : F_rule_Copy_own_L1 fu t6 t7 t8 m1 = some o) (hk : (Lo.post (N_rule_Copy_own_L1 fu t6 t7 d hp) (X_rule_Copy_own_L1 fu t6 t7 d hp)) o) : Runs Tryz.prog Tryz.f25 0 T_rule_Copy_own_L1 [(3, (D.own 1)), (6, (S_api_Rule.L t6.1 t6.2)), (7, (D.int .i64 t7)), (8, (D.int .i64 t8))] [none, some (S_api_Rule.Q 52 m1.1 m1.2)] d hp := by
  unfold F_rule_Copy_own_L1 at h
  refine runs_regions 1 [([], [3, 6, 7, 8, 9])] (z := ([], [(3, (D.own 1)), (6, (S_api_Rule.L t6.1 t6.2)), (7, (D.int .i64 t7)), (8, (D.int .i64 t8)), (9, (D.bool (decide (t8 < t7))))], [none, some (S_api_Rule.Q 52 m1.1 m1.2)])) rfl (by kernel_rfl) trivial ?_
  refine runs_if (b := (decide (t8 < t7))) (by kernel_rfl) (fun hb => ?_) (fun hb => ?_)
  · replace h := ifs_true h hb
    obtain ⟨p0, h⟩ := chk_some h
    obtain ⟨r0, cr0, h⟩ := Option.bind_eq_some_iff.1 h
    obtain ⟨p1, h⟩ := chk_some h
    refine runs_regions 3 [([], [3, 5, 6, 7, 8]), ([(.d (S_api_Rule.d r0)), (.lit fun i => (S_api_Rule.d ((fun i => ([r0] : List S_api_Rule).getD i S_api_Rule.z) i))), (.d (S_api_Rule.A (m1.1 + 1) (fun i => if i < m1.1 then m1.2 i else (fun i => ([r0] : List S_api_Rule).getD i S_api_Rule.z) (i - m1.1))))], [3, 6, 7, 8]), ([], [3, 6, 7, 8])] (z := ([(0 ≤ t8 ∧ t8 < ((t6.1 : Nat) : Int)), FC Tryz.prog 40 [(S_api_Rule.d (t6.2 t8.toNat))] [] (S_api_Rule.d r0) [], All (List.map NoRow [(S_api_Rule.d (t6.2 t8.toNat))]), TabOk [(S_api_Rule.d r0)] 32 (S_api_Rule.A 1 (fun i => ([r0] : List S_api_Rule).getD i S_api_Rule.z)), (RoomOk (m1.1 + 1) 272), CatOk (S_api_Rule.A m1.1 m1.2) (S_api_Rule.A 1 (fun i => ([r0] : List S_api_Rule).getD i S_api_Rule.z)) (S_api_Rule.A (m1.1 + 1) (fun i => if i < m1.1 then m1.2 i else (fun i => ([r0] : List S_api_Rule).getD i S_api_Rule.z) (i - m1.1)))], [(3, (D.own 3)), (6, (S_api_Rule.L t6.1 t6.2)), (7, (D.int .i64 t7)), (8, (D.int .i64 (IntKind.wrap .i64 (t8 + (1 : Int)))))], [none, none, some (.box (S_api_Rule.d (t6.2 t8.toNat))), some (S_api_Rule.Q 52 (m1.1 + 1) (fun i => if i < m1.1 then m1.2 i else (fun i => ([r0] : List S_api_Rule).getD i S_api_Rule.z) (i - m1.1)))])) rfl (by kernel_rfl) (And.intro p0 (And.intro (fc_rule_copied (t6.2 t8.toNat) cr0) (And.intro (And.intro (S_api_Rule.inn _) trivial) (And.intro (tabOk_arr rfl (And.intro rfl trivial)) (And.intro p1 (And.intro (catOk_arr' rfl fun i => (d_ite (f := fun x : S_api_Rule => (S_api_Rule.d x)) rfl rfl).symm) trivial)))))) ?_
    rw [← Option.some.inj h] at hk
    refine runs_to (ts := [3, 6, 7, 8]) (T' := T_rule_Copy_own_L1) (env' := [(3, (D.own 3)), (6, (S_api_Rule.L t6.1 t6.2)), (7, (D.int .i64 t7)), (8, (D.int .i64 (IntKind.wrap .i64 (t8 + (1 : Int)))))]) (h2 := [none, none, some (.box (S_api_Rule.d (t6.2 t8.toNat))), some (S_api_Rule.Q 52 (m1.1 + 1) (fun i => if i < m1.1 then m1.2 i else (fun i => ([r0] : List S_api_Rule).getD i S_api_Rule.z) (i - m1.1)))]) (by kernel_rfl) (by kernel_rfl) (And.intro (.inl rfl) (And.intro (.inl rfl) (And.intro (.inr rfl) (And.intro (.inr rfl) trivial)))) (Nat.zero_le _) (And.intro (S_api_Rule.inn _) (And.intro (fun _ _ => (S_api_Rule.inn _)) trivial)) (And.intro (bel_of rfl) (And.intro (fun _ _ => (S_api_Rule.inn _)) (And.intro trivial (And.intro trivial trivial)))) ?_
    refine runs_rename 1 3 (row := (S_api_Rule.Q 52 (m1.1 + 1) (fun i => if i < m1.1 then m1.2 i else (fun i => ([r0] : List S_api_Rule).getD i S_api_Rule.z) (i - m1.1)))) (by decide) (Nat.zero_le _) rfl rfl (And.intro (S_api_Rule.rnk _) (And.intro (fun _ _ => (S_api_Rule.inn _)) trivial)) (And.intro (rn_own rfl) (And.intro (fun _ _ => (S_api_Rule.inn _)) (And.intro trivial (And.intro trivial trivial)))) ?_
    refine runs_eq (env2 := [(3, (D.own 1)), (6, (S_api_Rule.L t6.1 t6.2)), (7, (D.int .i64 t7)), (8, (D.int .i64 (IntKind.wrap .i64 (t8 + (1 : Int)))))]) (h2 := [none, some (S_api_Rule.Q 52 (m1.1 + 1) (fun i => if i < m1.1 then m1.2 i else (fun i => ([r0] : List S_api_Rule).getD i S_api_Rule.z) (i - m1.1))), some (.box (S_api_Rule.d (t6.2 t8.toNat))), none]) (by kernel_rfl) (by kernel_rfl) ?_
    refine runs_to (ts := [3, 6, 7, 8]) (T' := T_rule_Copy_own_L1) (env' := [(3, (D.own 1)), (6, (S_api_Rule.L t6.1 t6.2)), (7, (D.int .i64 t7)), (8, (D.int .i64 (IntKind.wrap .i64 (t8 + (1 : Int)))))]) (h2 := [none, some (S_api_Rule.Q 52 (m1.1 + 1) (fun i => if i < m1.1 then m1.2 i else (fun i => ([r0] : List S_api_Rule).getD i S_api_Rule.z) (i - m1.1)))]) (by kernel_rfl) (by kernel_rfl) (And.intro (.inl rfl) (And.intro (.inr rfl) trivial)) (Nat.zero_le _) (And.intro (fun _ _ => (S_api_Rule.inn _)) trivial) (And.intro (bel_of rfl) (And.intro (fun _ _ => (S_api_Rule.inn _)) (And.intro trivial (And.intro trivial trivial)))) ?_
    exact hk
  · replace h := ifs_false h hb
    rw [← Option.some.inj h] at hk
    refine runs_to (ts := [3]) (T' := X_rule_Copy_own_L1T) (env' := [(3, (D.own 1))]) (h2 := [none, some (S_api_Rule.Q 52 m1.1 m1.2)]) (by kernel_rfl) (by kernel_rfl) (And.intro (.inl rfl) (And.intro (.inr rfl) trivial)) (Nat.zero_le _) (And.intro (fun _ _ => (S_api_Rule.inn _)) trivial) (And.intro (bel_of rfl) trivial) ?_
    exact hk

theorem iter_rule_Copy_own_L1 (fu : Nat) (t6 : (Nat × (Nat → S_api_Rule))) (t7 : Int) {d : D} {hp : Heap} (k : Nat) (s : (Int × (Nat × (Nat → S_api_Rule)))) {o : E_rule_Copy_own_L1 ⊕ (Nat × (Nat → S_api_Rule))} (h : iter (fun s => F_rule_Copy_own_L1 fu t6 t7 s.1 s.2) k s = some o) (hx : X_rule_Copy_own_L1 fu t6 t7 d hp o) : N_rule_Copy_own_L1 fu t6 t7 d hp s :=
  iter_post (K := N_rule_Copy_own_L1 fu t6 t7 d hp) (X := X_rule_Copy_own_L1 fu t6 t7 d hp) (fun s _ h hk => run_rule_Copy_own_L1 fu t6 t7 s.1 s.2 h hk) k s o h hx

/-- podesta/rule.Copy -/
def F_rule_Copy_own (fu : Nat) (t0 : (Nat × (Nat → S_api_Rule))) : Option (Nat × (Nat → S_api_Rule)) :=
  after (iter (fun s => F_rule_Copy_own_L1 fu t0 ((t0.1 : Nat) : Int) s.1 s.2) fu ((0 : Int), (0, (fun _ => S_api_Rule.z)))) fun e3 =>
  (F_slices_Clip_api_Rule_own e3).bind fun r1 =>
  some r1

theorem run_rule_Copy_own (fu : Nat) (t0 : (Nat × (Nat → S_api_Rule))) {d : D} {hp : Heap} {r : (Nat × (Nat → S_api_Rule))} (h : F_rule_Copy_own fu t0 = some r) (hk : (K_rule_Copy_own d hp) r) : Runs Tryz.prog Tryz.f25 0 T_rule_Copy_own [(0, (S_api_Rule.L t0.1 t0.2))] [] d hp := by
  unfold F_rule_Copy_own at h
  refine runs_regions 3 [([(.nil 52 32 (S_api_Rule.A 0 (fun _ => S_api_Rule.z)))], [0]), ([(.nil 52 32 (S_api_Rule.A 0 (fun _ => S_api_Rule.z)))], [0, 3]), ([], [3, 6, 7, 8])] (z := ([EmptyOk (S_api_Rule.A 0 (fun _ => S_api_Rule.z)), EmptyOk (S_api_Rule.A 0 (fun _ => S_api_Rule.z))], [(3, (D.own 1)), (6, (S_api_Rule.L t0.1 t0.2)), (7, (D.int .i64 ((t0.1 : Nat) : Int))), (8, (D.int .i64 (0 : Int)))], [some (S_api_Rule.Q 52 0 (fun _ => S_api_Rule.z)), some (S_api_Rule.Q 52 0 (fun _ => S_api_Rule.z))])) rfl (by kernel_rfl) (And.intro emptyOk_arr (And.intro emptyOk_arr trivial)) ?_
  refine runs_to (ts := [3, 6, 7, 8]) (T' := T_rule_Copy_own_L1) (env' := [(3, (D.own 1)), (6, (S_api_Rule.L t0.1 t0.2)), (7, (D.int .i64 ((t0.1 : Nat) : Int))), (8, (D.int .i64 (0 : Int)))]) (h2 := [none, some (S_api_Rule.Q 52 0 (fun _ => S_api_Rule.z))]) (by kernel_rfl) (by kernel_rfl) (And.intro (.inl rfl) (And.intro (.inr rfl) trivial)) (Nat.zero_le _) (And.intro (fun _ _ => (S_api_Rule.inn _)) trivial) (And.intro (bel_of rfl) (And.intro (fun _ _ => (S_api_Rule.inn _)) (And.intro trivial (And.intro trivial trivial)))) ?_
  rcases after_some h with ⟨e3, hi, h⟩ | hi
  · refine iter_rule_Copy_own_L1 fu t0 ((t0.1 : Nat) : Int) fu ((0 : Int), (0, (fun _ => S_api_Rule.z))) hi ?_
    show Runs Tryz.prog Tryz.f25 0 X_rule_Copy_own_L1T [(3, (D.own 1))] [none, some (S_api_Rule.Q 52 e3.1 e3.2)] d hp
    obtain ⟨r1, cr1, h⟩ := Option.bind_eq_some_iff.1 h
    refine runs_regions 1 [([(.rows ([1] : List Nat) [(D.own 0)] ([(S_api_Rule.Q 52 e3.1 e3.2)] : List Row) ([none, some (S_api_Rule.Q 52 r1.1 r1.2)] : Heap) (D.own 1))], [2])] (z := ([FC Tryz.prog 41 [(D.own 0)] (List.map some ([(S_api_Rule.Q 52 e3.1 e3.2)] : List Row)) (D.own 1) ([none, some (S_api_Rule.Q 52 r1.1 r1.2)] : Heap), [(D.own 1)] = List.map (D.ren (emb ([1] : List Nat) 2)) [(D.own 0)], RowsAt (emb ([1] : List Nat) 2) ([none, some (S_api_Rule.Q 52 e3.1 e3.2)] : Heap) ([1] : List Nat) ([(S_api_Rule.Q 52 e3.1 e3.2)] : List Row), HIn (Bel (List.length ([1] : List Nat))) (List.map some ([(S_api_Rule.Q 52 e3.1 e3.2)] : List Row)), AllIn (Bel (List.length ([1] : List Nat))) [(D.own 0)], HIn (Bel (List.length ([none, some (S_api_Rule.Q 52 r1.1 r1.2)] : Heap))) ([none, some (S_api_Rule.Q 52 r1.1 r1.2)] : Heap), D.In (Bel (List.length ([none, some (S_api_Rule.Q 52 r1.1 r1.2)] : Heap))) (D.own 1)], [(2, (D.own 2))], [none, none, some (S_api_Rule.Q 52 r1.1 r1.2)])) rfl (by kernel_rfl) (And.intro (fc_slices_Clip_api_Rule_own e3 cr1) (And.intro rfl (And.intro (And.intro rfl trivial) (And.intro (And.intro (fun _ _ => (S_api_Rule.inn _)) trivial) (And.intro (And.intro (bel_of rfl) trivial) (And.intro (And.intro (fun _ _ => (S_api_Rule.inn _)) trivial) (And.intro (bel_of rfl) trivial))))))) ?_
    rw [← Option.some.inj h] at hk
    obtain ⟨rfl, rfl⟩ : d = (D.own 0) ∧ hp = [some (S_api_Rule.Q 52 r1.1 r1.2)] := hk
    refine runs_keep (ts := [2]) (env' := [(2, (D.own 2))]) (h2 := [none, none, some (S_api_Rule.Q 52 r1.1 r1.2)]) (by kernel_rfl) (And.intro (.inl rfl) (And.intro (.inl rfl) (And.intro (.inr rfl) trivial))) (Nat.zero_le _) (And.intro (fun _ _ => (S_api_Rule.inn _)) trivial) (And.intro (bel_of rfl) trivial) ?_
    refine runs_rename 0 2 (row := (S_api_Rule.Q 52 r1.1 r1.2)) (by decide) (Nat.zero_le _) rfl rfl (And.intro (fun _ _ => (S_api_Rule.inn _)) trivial) (And.intro (rn_own rfl) trivial) ?_
    refine runs_eq (env2 := [(2, (D.own 0))]) (h2 := [some (S_api_Rule.Q 52 r1.1 r1.2), none, none]) (by kernel_rfl) (by kernel_rfl) ?_
    exact runs_ret (h2 := [some (S_api_Rule.Q 52 r1.1 r1.2)]) (by kernel_rfl) (And.intro (.inr rfl) trivial) (Nat.zero_le _) (And.intro (fun _ _ => (S_api_Rule.inn _)) trivial) (bel_of rfl)
  · exact iter_rule_Copy_own_L1 fu t0 ((t0.1 : Nat) : Int) fu ((0 : Int), (0, (fun _ => S_api_Rule.z))) hi hk

theorem fc_rule_Copy_own (fu : Nat) (t0 : (Nat × (Nat → S_api_Rule))) {r : (Nat × (Nat → S_api_Rule))} (h : F_rule_Copy_own fu t0 = some r) : FC Tryz.prog 25 [(S_api_Rule.L t0.1 t0.2)] [] (D.own 0) [some (S_api_Rule.Q 52 r.1 r.2)] := by
  refine fc_of_runs (fn := Tryz.f25) (c := Tryz.f25.body.getD .skip) (by kernel_rfl) (by kernel_rfl) ?_
  refine runs_to (ts := [0]) (T' := T_rule_Copy_own) (env' := [(0, (S_api_Rule.L t0.1 t0.2))]) (h2 := []) (by kernel_rfl) (by kernel_rfl) trivial (Nat.le_refl _) trivial (And.intro (fun _ _ => (S_api_Rule.inn _)) trivial) ?_
  exact run_rule_Copy_own fu t0 h ⟨rfl, rfl⟩

def K_slices_BinarySearchFunc_api_Rule_rule_compare (d : D) (r : (Int × Bool)) : Prop := d = (D.tup (D.cons (D.int .i64 r.1) (D.cons (D.bool r.2) D.nil)))

noncomputable def T_slices_BinarySearchFunc_api_Rule_rule_compare : List Item := norm 200 [.code (Tryz.f113.body.getD .skip)]

noncomputable def T_slices_BinarySearchFunc_api_Rule_rule_compare_L1 : List Item := norm 200 (nxt (nxt (nxt T_slices_BinarySearchFunc_api_Rule_rule_compare)))

noncomputable def X_slices_BinarySearchFunc_api_Rule_rule_compare_L1T : List Item := norm 200 (cndF (nxt (nxt (nxt (nxt T_slices_BinarySearchFunc_api_Rule_rule_compare)))))

abbrev E_slices_BinarySearchFunc_api_Rule_rule_compare_L1 := Int

def N_slices_BinarySearchFunc_api_Rule_rule_compare_L1 (_fu : Nat) (t0 : (Nat × (Nat → S_api_Rule))) (t8 : Int) (m0 : S_api_Rule) (d : D) (s : (Int × Int)) : Prop := Runs Tryz.prog Tryz.f113 0 T_slices_BinarySearchFunc_api_Rule_rule_compare_L1 [(0, (S_api_Rule.L t0.1 t0.2)), (2, (D.fn 107 D.nil)), (4, (D.ptr 0 [])), (8, (D.int .i64 t8)), (9, (D.int .i64 s.1)), (10, (D.int .i64 s.2))] [some (.box (S_api_Rule.d m0))] d []

def X_slices_BinarySearchFunc_api_Rule_rule_compare_L1 (_fu : Nat) (t0 : (Nat × (Nat → S_api_Rule))) (t8 : Int) (m0 : S_api_Rule) (d : D) : E_slices_BinarySearchFunc_api_Rule_rule_compare_L1 ⊕ (Int × Bool) → Prop
  | .inl e => Runs Tryz.prog Tryz.f113 0 X_slices_BinarySearchFunc_api_Rule_rule_compare_L1T [(0, (S_api_Rule.L t0.1 t0.2)), (2, (D.fn 107 D.nil)), (4, (D.ptr 0 [])), (8, (D.int .i64 t8)), (9, (D.int .i64 e))] [some (.box (S_api_Rule.d m0))] d []
  | .inr o => (K_slices_BinarySearchFunc_api_Rule_rule_compare d) o

def F_slices_BinarySearchFunc_api_Rule_rule_compare_L1 (fu : Nat) (t0 : (Nat × (Nat → S_api_Rule))) (_t8 : Int) (m0 : S_api_Rule) (t9 : Int) (t10 : Int) : Option (Lo (Int × Int) E_slices_BinarySearchFunc_api_Rule_rule_compare_L1 (Int × Bool)) :=
  ifs (decide (t9 < t10)) (
    chk (0 ≤ (1 : Int)) <|
    chk (0 ≤ (IntKind.wrap .i64 (ishr .u64 (IntKind.wrap .u64 (IntKind.wrap .i64 (t9 + t10))) (1 : Int))) ∧ (IntKind.wrap .i64 (ishr .u64 (IntKind.wrap .u64 (IntKind.wrap .i64 (t9 + t10))) (1 : Int))) < ((t0.1 : Nat) : Int)) <|
    (F_rule_compare fu (t0.2 (IntKind.wrap .i64 (ishr .u64 (IntKind.wrap .u64 (IntKind.wrap .i64 (t9 + t10))) (1 : Int))).toNat) m0).bind fun r0 =>
    ifs (decide (r0 < (0 : Int))) (
      some (.next ((IntKind.wrap .i64 ((IntKind.wrap .i64 (ishr .u64 (IntKind.wrap .u64 (IntKind.wrap .i64 (t9 + t10))) (1 : Int))) + (1 : Int))), t10))) (
      some (.next (t9, (IntKind.wrap .i64 (ishr .u64 (IntKind.wrap .u64 (IntKind.wrap .i64 (t9 + t10))) (1 : Int))))))) (
    some (.exit t9))

theorem run_slices_BinarySearchFunc_api_Rule_rule_compare_L1 (fu : Nat) (t0 : (Nat × (Nat → S_api_Rule))) (t8 : Int) (m0 : S_api_Rule) (t9 : Int) (t10 : Int) {d : D} {o : (Lo (Int × Int) E_slices_BinarySearchFunc_api_Rule_rule_compare_L1 (Int × Bool))} (h : F_slices_BinarySearchFunc_api_Rule_rule_compare_L1 fu t0 t8 m0 t9 t10 = some o) (hk : (Lo.post (N_slices_BinarySearchFunc_api_Rule_rule_compare_L1 fu t0 t8 m0 d) (X_slices_BinarySearchFunc_api_Rule_rule_compare_L1 fu t0 t8 m0 d)) o) : Runs Tryz.prog Tryz.f113 0 T_slices_BinarySearchFunc_api_Rule_rule_compare_L1 [(0, (S_api_Rule.L t0.1 t0.2)), (2, (D.fn 107 D.nil)), (4, (D.ptr 0 [])), (8, (D.int .i64 t8)), (9, (D.int .i64 t9)), (10, (D.int .i64 t10))] [some (.box (S_api_Rule.d m0))] d [] := by
  unfold F_slices_BinarySearchFunc_api_Rule_rule_compare_L1 at h
  refine runs_regions 1 [([], [0, 2, 4, 8, 9, 10, 17])] (z := ([], [(0, (S_api_Rule.L t0.1 t0.2)), (2, (D.fn 107 D.nil)), (4, (D.ptr 0 [])), (8, (D.int .i64 t8)), (9, (D.int .i64 t9)), (10, (D.int .i64 t10)), (17, (D.bool (decide (t9 < t10))))], [some (.box (S_api_Rule.d m0))])) rfl (by kernel_rfl) trivial ?_
  refine runs_if (b := (decide (t9 < t10))) (by kernel_rfl) (fun hb => ?_) (fun hb => ?_)
  · replace h := ifs_true h hb
    obtain ⟨p0, h⟩ := chk_some h
    obtain ⟨p1, h⟩ := chk_some h
    obtain ⟨r0, cr0, h⟩ := Option.bind_eq_some_iff.1 h
    refine runs_regions 2 [([], [0, 2, 4, 8, 9, 10, 11]), ([(.d (D.int .i64 r0))], [0, 2, 4, 8, 9, 10, 11, 31])] (z := ([(0 ≤ (1 : Int)), (0 ≤ (IntKind.wrap .i64 (ishr .u64 (IntKind.wrap .u64 (IntKind.wrap .i64 (t9 + t10))) (1 : Int))) ∧ (IntKind.wrap .i64 (ishr .u64 (IntKind.wrap .u64 (IntKind.wrap .i64 (t9 + t10))) (1 : Int))) < ((t0.1 : Nat) : Int)), FC Tryz.prog 107 [(S_api_Rule.d (t0.2 (IntKind.wrap .i64 (ishr .u64 (IntKind.wrap .u64 (IntKind.wrap .i64 (t9 + t10))) (1 : Int))).toNat)), (S_api_Rule.d m0)] [] (D.int .i64 r0) [], All (List.map NoRow [(S_api_Rule.d (t0.2 (IntKind.wrap .i64 (ishr .u64 (IntKind.wrap .u64 (IntKind.wrap .i64 (t9 + t10))) (1 : Int))).toNat)), (S_api_Rule.d m0)])], [(0, (S_api_Rule.L t0.1 t0.2)), (2, (D.fn 107 D.nil)), (4, (D.ptr 0 [])), (8, (D.int .i64 t8)), (9, (D.int .i64 t9)), (10, (D.int .i64 t10)), (11, (D.int .i64 (IntKind.wrap .i64 (ishr .u64 (IntKind.wrap .u64 (IntKind.wrap .i64 (t9 + t10))) (1 : Int))))), (31, (D.bool (decide (r0 < (0 : Int)))))], [some (.box (S_api_Rule.d m0))])) rfl (by kernel_rfl) (And.intro p0 (And.intro p1 (And.intro (fc_rule_compare fu (t0.2 (IntKind.wrap .i64 (ishr .u64 (IntKind.wrap .u64 (IntKind.wrap .i64 (t9 + t10))) (1 : Int))).toNat) m0 cr0) (And.intro (And.intro (S_api_Rule.inn _) (And.intro (S_api_Rule.inn _) trivial)) trivial)))) ?_
    refine runs_if (b := (decide (r0 < (0 : Int)))) (by kernel_rfl) (fun hb => ?_) (fun hb => ?_)
    · replace h := ifs_true h hb
      refine runs_regions 1 [([], [0, 2, 4, 8, 9, 10])] (z := ([], [(0, (S_api_Rule.L t0.1 t0.2)), (2, (D.fn 107 D.nil)), (4, (D.ptr 0 [])), (8, (D.int .i64 t8)), (9, (D.int .i64 (IntKind.wrap .i64 ((IntKind.wrap .i64 (ishr .u64 (IntKind.wrap .u64 (IntKind.wrap .i64 (t9 + t10))) (1 : Int))) + (1 : Int))))), (10, (D.int .i64 t10))], [some (.box (S_api_Rule.d m0))])) rfl (by kernel_rfl) trivial ?_
      rw [← Option.some.inj h] at hk
      refine runs_to (ts := [0, 2, 4, 8, 9, 10]) (T' := T_slices_BinarySearchFunc_api_Rule_rule_compare_L1) (env' := [(0, (S_api_Rule.L t0.1 t0.2)), (2, (D.fn 107 D.nil)), (4, (D.ptr 0 [])), (8, (D.int .i64 t8)), (9, (D.int .i64 (IntKind.wrap .i64 ((IntKind.wrap .i64 (ishr .u64 (IntKind.wrap .u64 (IntKind.wrap .i64 (t9 + t10))) (1 : Int))) + (1 : Int))))), (10, (D.int .i64 t10))]) (h2 := [some (.box (S_api_Rule.d m0))]) (by kernel_rfl) (by kernel_rfl) (And.intro (.inr rfl) trivial) (Nat.zero_le _) (And.intro (S_api_Rule.inn _) trivial) (And.intro (fun _ _ => (S_api_Rule.inn _)) (And.intro trivial (And.intro (bel_of rfl) (And.intro trivial (And.intro trivial (And.intro trivial trivial)))))) ?_
      exact hk
    · replace h := ifs_false h hb
      refine runs_regions 1 [([], [0, 2, 4, 8, 9, 10])] (z := ([], [(0, (S_api_Rule.L t0.1 t0.2)), (2, (D.fn 107 D.nil)), (4, (D.ptr 0 [])), (8, (D.int .i64 t8)), (9, (D.int .i64 t9)), (10, (D.int .i64 (IntKind.wrap .i64 (ishr .u64 (IntKind.wrap .u64 (IntKind.wrap .i64 (t9 + t10))) (1 : Int)))))], [some (.box (S_api_Rule.d m0))])) rfl (by kernel_rfl) trivial ?_
      rw [← Option.some.inj h] at hk
      refine runs_to (ts := [0, 2, 4, 8, 9, 10]) (T' := T_slices_BinarySearchFunc_api_Rule_rule_compare_L1) (env' := [(0, (S_api_Rule.L t0.1 t0.2)), (2, (D.fn 107 D.nil)), (4, (D.ptr 0 [])), (8, (D.int .i64 t8)), (9, (D.int .i64 t9)), (10, (D.int .i64 (IntKind.wrap .i64 (ishr .u64 (IntKind.wrap .u64 (IntKind.wrap .i64 (t9 + t10))) (1 : Int)))))]) (h2 := [some (.box (S_api_Rule.d m0))]) (by kernel_rfl) (by kernel_rfl) (And.intro (.inr rfl) trivial) (Nat.zero_le _) (And.intro (S_api_Rule.inn _) trivial) (And.intro (fun _ _ => (S_api_Rule.inn _)) (And.intro trivial (And.intro (bel_of rfl) (And.intro trivial (And.intro trivial (And.intro trivial trivial)))))) ?_
      exact hk
  · replace h := ifs_false h hb
    rw [← Option.some.inj h] at hk
    refine runs_to (ts := [0, 2, 4, 8, 9]) (T' := X_slices_BinarySearchFunc_api_Rule_rule_compare_L1T) (env' := [(0, (S_api_Rule.L t0.1 t0.2)), (2, (D.fn 107 D.nil)), (4, (D.ptr 0 [])), (8, (D.int .i64 t8)), (9, (D.int .i64 t9))]) (h2 := [some (.box (S_api_Rule.d m0))]) (by kernel_rfl) (by kernel_rfl) (And.intro (.inr rfl) trivial) (Nat.zero_le _) (And.intro (S_api_Rule.inn _) trivial) (And.intro (fun _ _ => (S_api_Rule.inn _)) (And.intro trivial (And.intro (bel_of rfl) (And.intro trivial (And.intro trivial trivial))))) ?_
    exact hk

theorem iter_slices_BinarySearchFunc_api_Rule_rule_compare_L1 (fu : Nat) (t0 : (Nat × (Nat → S_api_Rule))) (t8 : Int) (m0 : S_api_Rule) {d : D} (k : Nat) (s : (Int × Int)) {o : E_slices_BinarySearchFunc_api_Rule_rule_compare_L1 ⊕ (Int × Bool)} (h : iter (fun s => F_slices_BinarySearchFunc_api_Rule_rule_compare_L1 fu t0 t8 m0 s.1 s.2) k s = some o) (hx : X_slices_BinarySearchFunc_api_Rule_rule_compare_L1 fu t0 t8 m0 d o) : N_slices_BinarySearchFunc_api_Rule_rule_compare_L1 fu t0 t8 m0 d s :=
  iter_post (K := N_slices_BinarySearchFunc_api_Rule_rule_compare_L1 fu t0 t8 m0 d) (X := X_slices_BinarySearchFunc_api_Rule_rule_compare_L1 fu t0 t8 m0 d) (fun s _ h hk => run_slices_BinarySearchFunc_api_Rule_rule_compare_L1 fu t0 t8 m0 s.1 s.2 h hk) k s o h hx

/-- slices.BinarySearchFunc[[]podesta/api.Rule,podesta/api.Rule,podesta/api.Rule] -/
def F_slices_BinarySearchFunc_api_Rule_rule_compare (fu : Nat) (t0 : (Nat × (Nat → S_api_Rule))) (t1 : S_api_Rule) : Option (Int × Bool) :=
  after (iter (fun s => F_slices_BinarySearchFunc_api_Rule_rule_compare_L1 fu t0 ((t0.1 : Nat) : Int) t1 s.1 s.2) fu ((0 : Int), ((t0.1 : Nat) : Int))) fun e3 =>
  chk ((decide (e3 < ((t0.1 : Nat) : Int))) = true → (0 ≤ e3 ∧ e3 < ((t0.1 : Nat) : Int))) <|
  (callIf (decide (e3 < ((t0.1 : Nat) : Int))) (F_rule_compare fu (t0.2 e3.toNat) t1) (0 : Int)).bind fun r1 =>
  some (e3, (bif (decide (e3 < ((t0.1 : Nat) : Int))) then (r1 == (0 : Int)) else false))

theorem run_slices_BinarySearchFunc_api_Rule_rule_compare (fu : Nat) (t0 : (Nat × (Nat → S_api_Rule))) (t1 : S_api_Rule) {d : D} {r : (Int × Bool)} (h : F_slices_BinarySearchFunc_api_Rule_rule_compare fu t0 t1 = some r) (hk : (K_slices_BinarySearchFunc_api_Rule_rule_compare d) r) : Runs Tryz.prog Tryz.f113 0 T_slices_BinarySearchFunc_api_Rule_rule_compare [(0, (S_api_Rule.L t0.1 t0.2)), (1, (S_api_Rule.d t1)), (2, (D.fn 107 D.nil))] [] d [] := by
  unfold F_slices_BinarySearchFunc_api_Rule_rule_compare at h
  refine runs_regions 3 [([], [0, 2, 4]), ([], [0, 2, 4, 8]), ([], [0, 2, 4, 8, 9, 10])] (z := ([], [(0, (S_api_Rule.L t0.1 t0.2)), (2, (D.fn 107 D.nil)), (4, (D.ptr 0 [])), (8, (D.int .i64 ((t0.1 : Nat) : Int))), (9, (D.int .i64 (0 : Int))), (10, (D.int .i64 ((t0.1 : Nat) : Int)))], [some (.box (S_api_Rule.d t1))])) rfl (by kernel_rfl) trivial ?_
  refine runs_to (ts := [0, 2, 4, 8, 9, 10]) (T' := T_slices_BinarySearchFunc_api_Rule_rule_compare_L1) (env' := [(0, (S_api_Rule.L t0.1 t0.2)), (2, (D.fn 107 D.nil)), (4, (D.ptr 0 [])), (8, (D.int .i64 ((t0.1 : Nat) : Int))), (9, (D.int .i64 (0 : Int))), (10, (D.int .i64 ((t0.1 : Nat) : Int)))]) (h2 := [some (.box (S_api_Rule.d t1))]) (by kernel_rfl) (by kernel_rfl) (And.intro (.inr rfl) trivial) (Nat.zero_le _) (And.intro (S_api_Rule.inn _) trivial) (And.intro (fun _ _ => (S_api_Rule.inn _)) (And.intro trivial (And.intro (bel_of rfl) (And.intro trivial (And.intro trivial (And.intro trivial trivial)))))) ?_
  rcases after_some h with ⟨e3, hi, h⟩ | hi
  · refine iter_slices_BinarySearchFunc_api_Rule_rule_compare_L1 fu t0 ((t0.1 : Nat) : Int) t1 fu ((0 : Int), ((t0.1 : Nat) : Int)) hi ?_
    show Runs Tryz.prog Tryz.f113 0 X_slices_BinarySearchFunc_api_Rule_rule_compare_L1T [(0, (S_api_Rule.L t0.1 t0.2)), (2, (D.fn 107 D.nil)), (4, (D.ptr 0 [])), (8, (D.int .i64 ((t0.1 : Nat) : Int))), (9, (D.int .i64 e3))] [some (.box (S_api_Rule.d t1))] d []
    obtain ⟨p3, h⟩ := chk_some h
    obtain ⟨r1, cr1, h⟩ := Option.bind_eq_some_iff.1 h
    refine runs_regions 1 [([(.d (D.int .i64 r1))], [6, 7])] (z := ([((decide (e3 < ((t0.1 : Nat) : Int))) = true → All [((decide (e3 < ((t0.1 : Nat) : Int))) = true → (decide (e3 < ((t0.1 : Nat) : Int))) = true), ((decide (e3 < ((t0.1 : Nat) : Int))) = true → (decide (e3 < ((t0.1 : Nat) : Int))) = true), (0 ≤ e3 ∧ e3 < ((t0.1 : Nat) : Int))]), ((decide (e3 < ((t0.1 : Nat) : Int))) = true → All [((decide (e3 < ((t0.1 : Nat) : Int))) = true → (decide (e3 < ((t0.1 : Nat) : Int))) = true)]), ((decide (e3 < ((t0.1 : Nat) : Int))) = true → All [((decide (e3 < ((t0.1 : Nat) : Int))) = true → (decide (e3 < ((t0.1 : Nat) : Int))) = true), ((decide (e3 < ((t0.1 : Nat) : Int))) = true → (decide (e3 < ((t0.1 : Nat) : Int))) = true), ((decide (e3 < ((t0.1 : Nat) : Int))) = true → (decide (e3 < ((t0.1 : Nat) : Int))) = true), FC Tryz.prog 107 [(S_api_Rule.d (t0.2 e3.toNat)), (S_api_Rule.d t1)] [] (D.int .i64 r1) [], All (List.map NoRow [(S_api_Rule.d (t0.2 e3.toNat)), (S_api_Rule.d t1)])]), ((decide (e3 < ((t0.1 : Nat) : Int))) = true → All [((decide (e3 < ((t0.1 : Nat) : Int))) = true → (decide (e3 < ((t0.1 : Nat) : Int))) = true)]), ((true && (decide (e3 < ((t0.1 : Nat) : Int)))) = true → (decide (e3 < ((t0.1 : Nat) : Int))) = true)], [(6, (D.int .i64 e3)), (7, (D.bool (bif (decide (e3 < ((t0.1 : Nat) : Int))) then (r1 == (0 : Int)) else false)))], [some (.box (S_api_Rule.d t1))])) rfl (by kernel_rfl) (And.intro (fun hg => (And.intro (by first | exact fun h => h | exact fun h => (Bool.and_eq_true_iff.1 h).1 | simp_all) (And.intro (by first | exact fun h => h | exact fun h => (Bool.and_eq_true_iff.1 h).1 | simp_all) (And.intro (p3 hg) trivial)))) (And.intro (fun _ => (And.intro (by first | exact fun h => h | exact fun h => (Bool.and_eq_true_iff.1 h).1 | simp_all) trivial)) (And.intro (fun hg => (And.intro (by first | exact fun h => h | exact fun h => (Bool.and_eq_true_iff.1 h).1 | simp_all) (And.intro (by first | exact fun h => h | exact fun h => (Bool.and_eq_true_iff.1 h).1 | simp_all) (And.intro (by first | exact fun h => h | exact fun h => (Bool.and_eq_true_iff.1 h).1 | simp_all) (And.intro (fc_rule_compare fu (t0.2 e3.toNat) t1 (callIf_some cr1 hg)) (And.intro (And.intro (S_api_Rule.inn _) (And.intro (S_api_Rule.inn _) trivial)) trivial)))))) (And.intro (fun _ => (And.intro (by first | exact fun h => h | exact fun h => (Bool.and_eq_true_iff.1 h).1 | simp_all) trivial)) (And.intro (by first | exact fun h => h | exact fun h => (Bool.and_eq_true_iff.1 h).1 | simp_all) trivial))))) ?_
    rw [← Option.some.inj h] at hk
    obtain rfl : d = (D.tup (D.cons (D.int .i64 e3) (D.cons (D.bool (bif (decide (e3 < ((t0.1 : Nat) : Int))) then (r1 == (0 : Int)) else false)) D.nil))) := hk
    exact runs_ret (by kernel_rfl) trivial (Nat.le_refl 0) trivial (And.intro trivial (And.intro trivial trivial))
  · exact iter_slices_BinarySearchFunc_api_Rule_rule_compare_L1 fu t0 ((t0.1 : Nat) : Int) t1 fu ((0 : Int), ((t0.1 : Nat) : Int)) hi hk

theorem fc_slices_BinarySearchFunc_api_Rule_rule_compare (fu : Nat) (t0 : (Nat × (Nat → S_api_Rule))) (t1 : S_api_Rule) {r : (Int × Bool)} (h : F_slices_BinarySearchFunc_api_Rule_rule_compare fu t0 t1 = some r) : FC Tryz.prog 113 [(S_api_Rule.L t0.1 t0.2), (S_api_Rule.d t1), (D.fn 107 D.nil)] [] (D.tup (D.cons (D.int .i64 r.1) (D.cons (D.bool r.2) D.nil))) [] := by
  refine fc_of_runs (fn := Tryz.f113) (c := Tryz.f113.body.getD .skip) (by kernel_rfl) (by kernel_rfl) ?_
  refine runs_to (ts := [0, 1, 2]) (T' := T_slices_BinarySearchFunc_api_Rule_rule_compare) (env' := [(0, (S_api_Rule.L t0.1 t0.2)), (1, (S_api_Rule.d t1)), (2, (D.fn 107 D.nil))]) (h2 := []) (by kernel_rfl) (by kernel_rfl) trivial (Nat.le_refl _) trivial (And.intro (fun _ _ => (S_api_Rule.inn _)) (And.intro (S_api_Rule.inn _) (And.intro trivial trivial))) ?_
  exact run_slices_BinarySearchFunc_api_Rule_rule_compare fu t0 t1 h rfl

def K_slices_Clip_api_Rule (d : D) (r : (Nat × (Nat → S_api_Rule))) : Prop := d = (S_api_Rule.L r.1 r.2)

noncomputable def T_slices_Clip_api_Rule : List Item := norm 200 [.code (Tryz.f41.body.getD .skip)]

/-- slices.Clip[[]podesta/api.Rule,podesta/api.Rule] -/
def F_slices_Clip_api_Rule (t0 : (Nat × (Nat → S_api_Rule))) : Option (Nat × (Nat → S_api_Rule)) :=
  chk (0 ≤ ((t0.1 : Nat) : Int) ∧ ((t0.1 : Nat) : Int) ≤ ((t0.1 : Nat) : Int)) <|
  some ((((t0.1 : Nat) : Int)).toNat, t0.2)

theorem run_slices_Clip_api_Rule (t0 : (Nat × (Nat → S_api_Rule))) {d : D} {r : (Nat × (Nat → S_api_Rule))} (h : F_slices_Clip_api_Rule t0 = some r) (hk : (K_slices_Clip_api_Rule d) r) : Runs Tryz.prog Tryz.f41 0 T_slices_Clip_api_Rule [(0, (S_api_Rule.L t0.1 t0.2))] [] d [] := by
  unfold F_slices_Clip_api_Rule at h
  obtain ⟨p0, h⟩ := chk_some h
  refine runs_regions 2 [([], [0]), ([], [2])] (z := ([(0 ≤ ((t0.1 : Nat) : Int) ∧ ((t0.1 : Nat) : Int) ≤ ((t0.1 : Nat) : Int)), (((t0.1 : Nat) : Int) = ((t0.1 : Nat) : Int))], [(2, (S_api_Rule.L (((t0.1 : Nat) : Int)).toNat t0.2))], [])) rfl (by kernel_rfl) (And.intro p0 (And.intro rfl trivial)) ?_
  rw [← Option.some.inj h] at hk
  obtain rfl : d = (S_api_Rule.L (((t0.1 : Nat) : Int)).toNat t0.2) := hk
  exact runs_ret (by kernel_rfl) trivial (Nat.le_refl 0) trivial (fun _ _ => (S_api_Rule.inn _))

theorem fc_slices_Clip_api_Rule (t0 : (Nat × (Nat → S_api_Rule))) {r : (Nat × (Nat → S_api_Rule))} (h : F_slices_Clip_api_Rule t0 = some r) : FC Tryz.prog 41 [(S_api_Rule.L t0.1 t0.2)] [] (S_api_Rule.L r.1 r.2) [] := by
  refine fc_of_runs (fn := Tryz.f41) (c := Tryz.f41.body.getD .skip) (by kernel_rfl) (by kernel_rfl) ?_
  refine runs_to (ts := [0]) (T' := T_slices_Clip_api_Rule) (env' := [(0, (S_api_Rule.L t0.1 t0.2))]) (h2 := []) (by kernel_rfl) (by kernel_rfl) trivial (Nat.le_refl _) trivial (And.intro (fun _ _ => (S_api_Rule.inn _)) trivial) ?_
  exact run_slices_Clip_api_Rule t0 h rfl

def K_rule_Sort (d : D) (r : (Nat × (Nat → S_api_Rule))) : Prop := d = (S_api_Rule.L r.1 r.2)

noncomputable def T_rule_Sort : List Item := norm 200 [.code (Tryz.f98.body.getD .skip)]

noncomputable def T_rule_Sort_L1 : List Item := norm 200 (nxt (nxt (nxt T_rule_Sort)))

noncomputable def X_rule_Sort_L1T : List Item := norm 200 (cndF (nxt (nxt (nxt (nxt T_rule_Sort)))))

abbrev E_rule_Sort_L1 := (Nat × (Nat → S_api_Rule))

def N_rule_Sort_L1 (_fu : Nat) (t8 : (Nat × (Nat → S_api_Rule))) (t9 : Int) (d : D) (s : (Int × (Nat × (Nat → S_api_Rule)))) : Prop := Runs Tryz.prog Tryz.f98 0 T_rule_Sort_L1 [(3, (D.own 0)), (8, (S_api_Rule.L t8.1 t8.2)), (9, (D.int .i64 t9)), (10, (D.int .i64 s.1))] [some (S_api_Rule.Q 52 s.2.1 s.2.2)] d []

def X_rule_Sort_L1 (_fu : Nat) (_t8 : (Nat × (Nat → S_api_Rule))) (_t9 : Int) (d : D) : E_rule_Sort_L1 ⊕ (Nat × (Nat → S_api_Rule)) → Prop
  | .inl e => Runs Tryz.prog Tryz.f98 0 X_rule_Sort_L1T [(3, (D.own 0))] [some (S_api_Rule.Q 52 e.1 e.2)] d []
  | .inr o => (K_rule_Sort d) o

def F_rule_Sort_L1 (fu : Nat) (t8 : (Nat × (Nat → S_api_Rule))) (t9 : Int) (t10 : Int) (m0 : (Nat × (Nat → S_api_Rule))) : Option (Lo (Int × (Nat × (Nat → S_api_Rule))) E_rule_Sort_L1 (Nat × (Nat → S_api_Rule))) :=
  ifs (decide (t10 < t9)) (
    chk (0 ≤ t10 ∧ t10 < ((t8.1 : Nat) : Int)) <|
    (F_rule_Sound fu (t8.2 t10.toNat)).bind fun r0 =>
    ifs (!r0) (
      some (.next ((IntKind.wrap .i64 (t10 + (1 : Int))), m0))) (
      (F_slices_BinarySearchFunc_api_Rule_rule_compare fu m0 (t8.2 t10.toNat)).bind fun r1 =>
      ifs r1.2 (
        (F_rule_copied (t8.2 t10.toNat)).bind fun r2 =>
        chk (0 ≤ r1.1 ∧ r1.1 < ((m0.1 : Nat) : Int)) <|
        chk (r1.1.toNat < m0.1) <|
        some (.next ((IntKind.wrap .i64 (t10 + (1 : Int))), (m0.1, (fun j => if j = r1.1.toNat then r2 else m0.2 j))))) (
        (F_rule_copied (t8.2 t10.toNat)).bind fun r3 =>
        (F_slices_Insert_api_Rule m0 r1.1 (1, (fun i => ([r3] : List S_api_Rule).getD i S_api_Rule.z))).bind fun r4 =>
        some (.next ((IntKind.wrap .i64 (t10 + (1 : Int))), r4))))) (
    some (.exit m0))

theorem run_rule_Sort_L1 (fu : Nat) (t8 : (Nat × (Nat → S_api_Rule))) (t9 : Int) (t10 : Int) (m0 : (Nat × (Nat → S_api_Rule))) {d : D} {o : (Lo (Int × (Nat × (Nat → S_api_Rule))) E_rule_Sort_L1 (Nat × (Nat → S_api_Rule)))} (h : F_rule_Sort_L1 fu t8 t9 t10 m0 = some o) (hk : (Lo.post (N_rule_Sort_L1 fu t8 t9 d) (X_rule_Sort_L1 fu t8 t9 d)) o) : Runs Tryz.prog Tryz.f98 0 T_rule_Sort_L1 [(3, (D.own 0)), (8, (S_api_Rule.L t8.1 t8.2)), (9, (D.int .i64 t9)), (10, (D.int .i64 t10))] [some (S_api_Rule.Q 52 m0.1 m0.2)] d [] := by
  unfold F_rule_Sort_L1 at h
  refine runs_regions 1 [([], [3, 8, 9, 10, 11])] (z := ([], [(3, (D.own 0)), (8, (S_api_Rule.L t8.1 t8.2)), (9, (D.int .i64 t9)), (10, (D.int .i64 t10)), (11, (D.bool (decide (t10 < t9))))], [some (S_api_Rule.Q 52 m0.1 m0.2)])) rfl (by kernel_rfl) trivial ?_
  refine runs_if (b := (decide (t10 < t9))) (by kernel_rfl) (fun hb => ?_) (fun hb => ?_)
  · replace h := ifs_true h hb
    obtain ⟨p0, h⟩ := chk_some h
    obtain ⟨r0, cr0, h⟩ := Option.bind_eq_some_iff.1 h
    refine runs_regions 2 [([], [3, 5, 8, 9, 10]), ([(.d (D.bool r0))], [3, 5, 8, 9, 10, 16])] (z := ([(0 ≤ t10 ∧ t10 < ((t8.1 : Nat) : Int)), FC Tryz.prog 87 [(S_api_Rule.d (t8.2 t10.toNat))] [] (D.bool r0) [], All (List.map NoRow [(S_api_Rule.d (t8.2 t10.toNat))])], [(3, (D.own 0)), (5, (D.ptr 1 [])), (8, (S_api_Rule.L t8.1 t8.2)), (9, (D.int .i64 t9)), (10, (D.int .i64 t10)), (16, (D.bool (!r0)))], [some (S_api_Rule.Q 52 m0.1 m0.2), some (.box (S_api_Rule.d (t8.2 t10.toNat)))])) rfl (by kernel_rfl) (And.intro p0 (And.intro (fc_rule_Sound fu (t8.2 t10.toNat) cr0) (And.intro (And.intro (S_api_Rule.inn _) trivial) trivial))) ?_
    refine runs_if (b := (!r0)) (by kernel_rfl) (fun hb => ?_) (fun hb => ?_)
    · replace h := ifs_true h hb
      refine runs_regions 1 [([], [3, 8, 9, 10])] (z := ([], [(3, (D.own 0)), (8, (S_api_Rule.L t8.1 t8.2)), (9, (D.int .i64 t9)), (10, (D.int .i64 (IntKind.wrap .i64 (t10 + (1 : Int)))))], [some (S_api_Rule.Q 52 m0.1 m0.2), some (.box (S_api_Rule.d (t8.2 t10.toNat)))])) rfl (by kernel_rfl) trivial ?_
      rw [← Option.some.inj h] at hk
      refine runs_to (ts := [3, 8, 9, 10]) (T' := T_rule_Sort_L1) (env' := [(3, (D.own 0)), (8, (S_api_Rule.L t8.1 t8.2)), (9, (D.int .i64 t9)), (10, (D.int .i64 (IntKind.wrap .i64 (t10 + (1 : Int)))))]) (h2 := [some (S_api_Rule.Q 52 m0.1 m0.2)]) (by kernel_rfl) (by kernel_rfl) (And.intro (.inr rfl) trivial) (Nat.zero_le _) (And.intro (fun _ _ => (S_api_Rule.inn _)) trivial) (And.intro (bel_of rfl) (And.intro (fun _ _ => (S_api_Rule.inn _)) (And.intro trivial (And.intro trivial trivial)))) ?_
      exact hk
    · replace h := ifs_false h hb
      obtain ⟨r1, cr1, h⟩ := Option.bind_eq_some_iff.1 h
      refine runs_regions 2 [([(.lend (D.tup (D.cons (D.int .i64 r1.1) (D.cons (D.bool r1.2) D.nil))))], [3, 5, 6, 7, 8, 9, 10]), ([], [3, 5, 6, 8, 9, 10, 23])] (z := ([FC Tryz.prog 113 [(S_api_Rule.L m0.1 m0.2), (S_api_Rule.d (t8.2 t10.toNat)), (D.fn 107 D.nil)] [] (D.tup (D.cons (D.int .i64 r1.1) (D.cons (D.bool r1.2) D.nil))) [], All (List.map NoRow [(S_api_Rule.L m0.1 m0.2), (S_api_Rule.d (t8.2 t10.toNat)), (D.fn 107 D.nil)])], [(3, (D.own 0)), (5, (D.ptr 1 [])), (6, (D.int .i64 r1.1)), (8, (S_api_Rule.L t8.1 t8.2)), (9, (D.int .i64 t9)), (10, (D.int .i64 t10)), (23, (D.bool r1.2))], [some (S_api_Rule.Q 52 m0.1 m0.2), some (.box (S_api_Rule.d (t8.2 t10.toNat)))])) rfl (by kernel_rfl) (And.intro (fc_slices_BinarySearchFunc_api_Rule_rule_compare fu m0 (t8.2 t10.toNat) cr1) (And.intro (And.intro (fun _ _ => (S_api_Rule.inn _)) (And.intro (S_api_Rule.inn _) (And.intro trivial trivial))) trivial)) ?_
      refine runs_if (b := r1.2) (by kernel_rfl) (fun hb => ?_) (fun hb => ?_)
      · replace h := ifs_true h hb
        obtain ⟨r2, cr2, h⟩ := Option.bind_eq_some_iff.1 h
        obtain ⟨p1, h⟩ := chk_some h
        obtain ⟨p2, h⟩ := chk_some h
        refine runs_regions 1 [([(.d (S_api_Rule.d r2))], [3, 8, 9, 10])] (z := ([FC Tryz.prog 40 [(S_api_Rule.d (t8.2 t10.toNat))] [] (S_api_Rule.d r2) [], All (List.map NoRow [(S_api_Rule.d (t8.2 t10.toNat))]), (0 ≤ r1.1 ∧ r1.1 < ((m0.1 : Nat) : Int)), (r1.1.toNat < m0.1)], [(3, (D.own 0)), (8, (S_api_Rule.L t8.1 t8.2)), (9, (D.int .i64 t9)), (10, (D.int .i64 t10))], [some (.seq 52 m0.1 32 (D.arr m0.1 32 fun j => (if j = r1.1.toNat then (S_api_Rule.d r2) else (S_api_Rule.d (m0.2 j))))), some (.box (S_api_Rule.d (t8.2 t10.toNat)))])) rfl (by kernel_rfl) (And.intro (fc_rule_copied (t8.2 t10.toNat) cr2) (And.intro (And.intro (S_api_Rule.inn _) trivial) (And.intro p1 (And.intro p2 trivial)))) ?_
        refine cast_fun (F := fun q => Runs Tryz.prog Tryz.f98 0 _ [(3, (D.own 0)), (8, (S_api_Rule.L t8.1 t8.2)), (9, (D.int .i64 t9)), (10, (D.int .i64 t10))] [some (.seq 52 m0.1 32 (D.arr m0.1 32 q)), some (.box (S_api_Rule.d (t8.2 t10.toNat)))] d []) (funext fun j => (show (if j = r1.1.toNat then (S_api_Rule.d r2) else (S_api_Rule.d (m0.2 j))) = (fun x : S_api_Rule => (S_api_Rule.d x)) ((fun j => if j = r1.1.toNat then r2 else m0.2 j) j) from (d_ite (f := fun x : S_api_Rule => (S_api_Rule.d x)) rfl rfl))) ?_
        refine runs_regions 1 [([], [3, 8, 9, 10])] (z := ([], [(3, (D.own 0)), (8, (S_api_Rule.L t8.1 t8.2)), (9, (D.int .i64 t9)), (10, (D.int .i64 (IntKind.wrap .i64 (t10 + (1 : Int)))))], [some (S_api_Rule.Q 52 m0.1 (fun j => if j = r1.1.toNat then r2 else m0.2 j)), some (.box (S_api_Rule.d (t8.2 t10.toNat)))])) rfl (by kernel_rfl) trivial ?_
        rw [← Option.some.inj h] at hk
        refine runs_to (ts := [3, 8, 9, 10]) (T' := T_rule_Sort_L1) (env' := [(3, (D.own 0)), (8, (S_api_Rule.L t8.1 t8.2)), (9, (D.int .i64 t9)), (10, (D.int .i64 (IntKind.wrap .i64 (t10 + (1 : Int)))))]) (h2 := [some (S_api_Rule.Q 52 m0.1 (fun j => if j = r1.1.toNat then r2 else m0.2 j))]) (by kernel_rfl) (by kernel_rfl) (And.intro (.inr rfl) trivial) (Nat.zero_le _) (And.intro (fun _ _ => (S_api_Rule.inn _)) trivial) (And.intro (bel_of rfl) (And.intro (fun _ _ => (S_api_Rule.inn _)) (And.intro trivial (And.intro trivial trivial)))) ?_
        exact hk
      · replace h := ifs_false h hb
        obtain ⟨r3, cr3, h⟩ := Option.bind_eq_some_iff.1 h
        obtain ⟨r4, cr4, h⟩ := Option.bind_eq_some_iff.1 h
        refine runs_regions 2 [([(.d (S_api_Rule.d r3)), (.lit fun i => (S_api_Rule.d ((fun i => ([r3] : List S_api_Rule).getD i S_api_Rule.z) i))), (.rows ([0] : List Nat) [(D.own 0), (D.int .i64 r1.1), (S_api_Rule.L 1 (fun i => ([r3] : List S_api_Rule).getD i S_api_Rule.z))] ([(S_api_Rule.Q 52 m0.1 m0.2)] : List Row) ([none, some (S_api_Rule.Q 52 r4.1 r4.2)] : Heap) (D.own 1))], [3, 8, 9, 10]), ([], [3, 8, 9, 10])] (z := ([FC Tryz.prog 40 [(S_api_Rule.d (t8.2 t10.toNat))] [] (S_api_Rule.d r3) [], All (List.map NoRow [(S_api_Rule.d (t8.2 t10.toNat))]), TabOk [(S_api_Rule.d r3)] 32 (S_api_Rule.A 1 (fun i => ([r3] : List S_api_Rule).getD i S_api_Rule.z)), FC Tryz.prog 114 [(D.own 0), (D.int .i64 r1.1), (S_api_Rule.L 1 (fun i => ([r3] : List S_api_Rule).getD i S_api_Rule.z))] (List.map some ([(S_api_Rule.Q 52 m0.1 m0.2)] : List Row)) (D.own 1) ([none, some (S_api_Rule.Q 52 r4.1 r4.2)] : Heap), [(D.own 0), (D.int .i64 r1.1), (S_api_Rule.L 1 (fun i => ([r3] : List S_api_Rule).getD i S_api_Rule.z))] = List.map (D.ren (emb ([0] : List Nat) 2)) [(D.own 0), (D.int .i64 r1.1), (S_api_Rule.L 1 (fun i => ([r3] : List S_api_Rule).getD i S_api_Rule.z))], RowsAt (emb ([0] : List Nat) 2) ([some (S_api_Rule.Q 52 m0.1 m0.2), some (.box (S_api_Rule.d (t8.2 t10.toNat)))] : Heap) ([0] : List Nat) ([(S_api_Rule.Q 52 m0.1 m0.2)] : List Row), HIn (Bel (List.length ([0] : List Nat))) (List.map some ([(S_api_Rule.Q 52 m0.1 m0.2)] : List Row)), AllIn (Bel (List.length ([0] : List Nat))) [(D.own 0), (D.int .i64 r1.1), (S_api_Rule.L 1 (fun i => ([r3] : List S_api_Rule).getD i S_api_Rule.z))], HIn (Bel (List.length ([none, some (S_api_Rule.Q 52 r4.1 r4.2)] : Heap))) ([none, some (S_api_Rule.Q 52 r4.1 r4.2)] : Heap), D.In (Bel (List.length ([none, some (S_api_Rule.Q 52 r4.1 r4.2)] : Heap))) (D.own 1)], [(3, (D.own 2)), (8, (S_api_Rule.L t8.1 t8.2)), (9, (D.int .i64 t9)), (10, (D.int .i64 (IntKind.wrap .i64 (t10 + (1 : Int)))))], [none, some (.box (S_api_Rule.d (t8.2 t10.toNat))), some (S_api_Rule.Q 52 r4.1 r4.2)])) rfl (by kernel_rfl) (And.intro (fc_rule_copied (t8.2 t10.toNat) cr3) (And.intro (And.intro (S_api_Rule.inn _) trivial) (And.intro (tabOk_arr rfl (And.intro rfl trivial)) (And.intro (fc_slices_Insert_api_Rule m0 r1.1 (1, (fun i => ([r3] : List S_api_Rule).getD i S_api_Rule.z)) cr4) (And.intro rfl (And.intro (And.intro rfl trivial) (And.intro (And.intro (fun _ _ => (S_api_Rule.inn _)) trivial) (And.intro (And.intro (bel_of rfl) (And.intro trivial (And.intro (fun _ _ => (S_api_Rule.inn _)) trivial))) (And.intro (And.intro (fun _ _ => (S_api_Rule.inn _)) trivial) (And.intro (bel_of rfl) trivial)))))))))) ?_
        rw [← Option.some.inj h] at hk
        refine runs_to (ts := [3, 8, 9, 10]) (T' := T_rule_Sort_L1) (env' := [(3, (D.own 2)), (8, (S_api_Rule.L t8.1 t8.2)), (9, (D.int .i64 t9)), (10, (D.int .i64 (IntKind.wrap .i64 (t10 + (1 : Int)))))]) (h2 := [none, some (.box (S_api_Rule.d (t8.2 t10.toNat))), some (S_api_Rule.Q 52 r4.1 r4.2)]) (by kernel_rfl) (by kernel_rfl) (And.intro (.inl rfl) (And.intro (.inr rfl) (And.intro (.inr rfl) trivial))) (Nat.zero_le _) (And.intro (S_api_Rule.inn _) (And.intro (fun _ _ => (S_api_Rule.inn _)) trivial)) (And.intro (bel_of rfl) (And.intro (fun _ _ => (S_api_Rule.inn _)) (And.intro trivial (And.intro trivial trivial)))) ?_
        refine runs_rename 0 2 (row := (S_api_Rule.Q 52 r4.1 r4.2)) (by decide) (Nat.zero_le _) rfl rfl (And.intro (S_api_Rule.rnk _) (And.intro (fun _ _ => (S_api_Rule.inn _)) trivial)) (And.intro (rn_own rfl) (And.intro (fun _ _ => (S_api_Rule.inn _)) (And.intro trivial (And.intro trivial trivial)))) ?_
        refine runs_eq (env2 := [(3, (D.own 0)), (8, (S_api_Rule.L t8.1 t8.2)), (9, (D.int .i64 t9)), (10, (D.int .i64 (IntKind.wrap .i64 (t10 + (1 : Int)))))]) (h2 := [some (S_api_Rule.Q 52 r4.1 r4.2), some (.box (S_api_Rule.d (t8.2 t10.toNat))), none]) (by kernel_rfl) (by kernel_rfl) ?_
        refine runs_to (ts := [3, 8, 9, 10]) (T' := T_rule_Sort_L1) (env' := [(3, (D.own 0)), (8, (S_api_Rule.L t8.1 t8.2)), (9, (D.int .i64 t9)), (10, (D.int .i64 (IntKind.wrap .i64 (t10 + (1 : Int)))))]) (h2 := [some (S_api_Rule.Q 52 r4.1 r4.2)]) (by kernel_rfl) (by kernel_rfl) (And.intro (.inr rfl) trivial) (Nat.zero_le _) (And.intro (fun _ _ => (S_api_Rule.inn _)) trivial) (And.intro (bel_of rfl) (And.intro (fun _ _ => (S_api_Rule.inn _)) (And.intro trivial (And.intro trivial trivial)))) ?_
        exact hk
  · replace h := ifs_false h hb
    rw [← Option.some.inj h] at hk
    refine runs_to (ts := [3]) (T' := X_rule_Sort_L1T) (env' := [(3, (D.own 0))]) (h2 := [some (S_api_Rule.Q 52 m0.1 m0.2)]) (by kernel_rfl) (by kernel_rfl) (And.intro (.inr rfl) trivial) (Nat.zero_le _) (And.intro (fun _ _ => (S_api_Rule.inn _)) trivial) (And.intro (bel_of rfl) trivial) ?_
    exact hk

theorem iter_rule_Sort_L1 (fu : Nat) (t8 : (Nat × (Nat → S_api_Rule))) (t9 : Int) {d : D} (k : Nat) (s : (Int × (Nat × (Nat → S_api_Rule)))) {o : E_rule_Sort_L1 ⊕ (Nat × (Nat → S_api_Rule))} (h : iter (fun s => F_rule_Sort_L1 fu t8 t9 s.1 s.2) k s = some o) (hx : X_rule_Sort_L1 fu t8 t9 d o) : N_rule_Sort_L1 fu t8 t9 d s :=
  iter_post (K := N_rule_Sort_L1 fu t8 t9 d) (X := X_rule_Sort_L1 fu t8 t9 d) (fun s _ h hk => run_rule_Sort_L1 fu t8 t9 s.1 s.2 h hk) k s o h hx

/-- podesta/rule.Sort -/
def F_rule_Sort (fu : Nat) (t0 : (Nat × (Nat → S_api_Rule))) : Option (Nat × (Nat → S_api_Rule)) :=
  after (iter (fun s => F_rule_Sort_L1 fu t0 ((t0.1 : Nat) : Int) s.1 s.2) fu ((0 : Int), (0, (fun _ => S_api_Rule.z)))) fun e4 =>
  (F_slices_Clip_api_Rule e4).bind fun r5 =>
  some r5

theorem run_rule_Sort (fu : Nat) (t0 : (Nat × (Nat → S_api_Rule))) {d : D} {r : (Nat × (Nat → S_api_Rule))} (h : F_rule_Sort fu t0 = some r) (hk : (K_rule_Sort d) r) : Runs Tryz.prog Tryz.f98 0 T_rule_Sort [(0, (S_api_Rule.L t0.1 t0.2))] [] d [] := by
  unfold F_rule_Sort at h
  refine runs_regions 3 [([], [0]), ([(.nil 52 32 (S_api_Rule.A 0 (fun _ => S_api_Rule.z)))], [0, 3]), ([], [3, 8, 9, 10])] (z := ([EmptyOk (S_api_Rule.A 0 (fun _ => S_api_Rule.z))], [(3, (D.own 0)), (8, (S_api_Rule.L t0.1 t0.2)), (9, (D.int .i64 ((t0.1 : Nat) : Int))), (10, (D.int .i64 (0 : Int)))], [some (S_api_Rule.Q 52 0 (fun _ => S_api_Rule.z))])) rfl (by kernel_rfl) (And.intro emptyOk_arr trivial) ?_
  refine runs_to (ts := [3, 8, 9, 10]) (T' := T_rule_Sort_L1) (env' := [(3, (D.own 0)), (8, (S_api_Rule.L t0.1 t0.2)), (9, (D.int .i64 ((t0.1 : Nat) : Int))), (10, (D.int .i64 (0 : Int)))]) (h2 := [some (S_api_Rule.Q 52 0 (fun _ => S_api_Rule.z))]) (by kernel_rfl) (by kernel_rfl) (And.intro (.inr rfl) trivial) (Nat.zero_le _) (And.intro (fun _ _ => (S_api_Rule.inn _)) trivial) (And.intro (bel_of rfl) (And.intro (fun _ _ => (S_api_Rule.inn _)) (And.intro trivial (And.intro trivial trivial)))) ?_
  rcases after_some h with ⟨e4, hi, h⟩ | hi
  · refine iter_rule_Sort_L1 fu t0 ((t0.1 : Nat) : Int) fu ((0 : Int), (0, (fun _ => S_api_Rule.z))) hi ?_
    show Runs Tryz.prog Tryz.f98 0 X_rule_Sort_L1T [(3, (D.own 0))] [some (S_api_Rule.Q 52 e4.1 e4.2)] d []
    refine runs_freeze 0 (row := (S_api_Rule.Q 52 e4.1 e4.2)) rfl ?_
    obtain ⟨r5, cr5, h⟩ := Option.bind_eq_some_iff.1 h
    refine runs_regions 1 [([(.d (S_api_Rule.L r5.1 r5.2))], [2])] (z := ([FC Tryz.prog 41 [(S_api_Rule.L e4.1 e4.2)] [] (S_api_Rule.L r5.1 r5.2) [], All (List.map NoRow [(S_api_Rule.L e4.1 e4.2)])], [(2, (S_api_Rule.L r5.1 r5.2))], [none])) rfl (by kernel_rfl) (And.intro (fc_slices_Clip_api_Rule e4 cr5) (And.intro (And.intro (fun _ _ => (S_api_Rule.inn _)) trivial) trivial)) ?_
    rw [← Option.some.inj h] at hk
    obtain rfl : d = (S_api_Rule.L r5.1 r5.2) := hk
    exact runs_ret (by kernel_rfl) trivial (Nat.le_refl 0) trivial (fun _ _ => (S_api_Rule.inn _))
  · exact iter_rule_Sort_L1 fu t0 ((t0.1 : Nat) : Int) fu ((0 : Int), (0, (fun _ => S_api_Rule.z))) hi hk

theorem fc_rule_Sort (fu : Nat) (t0 : (Nat × (Nat → S_api_Rule))) {r : (Nat × (Nat → S_api_Rule))} (h : F_rule_Sort fu t0 = some r) : FC Tryz.prog 98 [(S_api_Rule.L t0.1 t0.2)] [] (S_api_Rule.L r.1 r.2) [] := by
  refine fc_of_runs (fn := Tryz.f98) (c := Tryz.f98.body.getD .skip) (by kernel_rfl) (by kernel_rfl) ?_
  refine runs_to (ts := [0]) (T' := T_rule_Sort) (env' := [(0, (S_api_Rule.L t0.1 t0.2))]) (h2 := []) (by kernel_rfl) (by kernel_rfl) trivial (Nat.le_refl _) trivial (And.intro (fun _ _ => (S_api_Rule.inn _)) trivial) ?_
  exact run_rule_Sort fu t0 h rfl

def K_mods_add (d : D) (r : ((Nat × (Nat → S_api_Rule)) × Int)) : Prop := d = (D.tup (D.cons (S_api_Rule.L r.1.1 r.1.2) (D.cons (D.int .i64 r.2) D.nil)))

noncomputable def T_mods_add : List Item := norm 200 [.code (Tryz.f73.body.getD .skip)]

/-- podesta/mods.add -/
def F_mods_add (fu : Nat) (t0 : (Nat × (Nat → S_api_Rule))) (t1 : S_api_Mod) (t2 : Int) : Option ((Nat × (Nat → S_api_Rule)) × Int) :=
  (F_mods_Rule t1).bind fun r0 =>
  (F_slices_IndexFunc_api_Rule_mods_add_1 fu t0 r0).bind fun r1 =>
  chk ((decide (r1 ≥ (0 : Int))) = true → (0 ≤ r1 ∧ r1 < ((t0.1 : Nat) : Int))) <|
  ifs (bif (decide (r1 ≥ (0 : Int))) then ((t0.2 r1.toNat).f5 != t1.f6) else false) (
    some ((0, (fun _ => S_api_Rule.z)), (7 : Int))) (
    (callIf t1.f7 (F_slices_ContainsFunc_api_Rule_mods_add_2 fu t0 r0) false).bind fun r2 =>
    ifs (bif t1.f7 then r2 else false) (
      some ((0, (fun _ => S_api_Rule.z)), (6 : Int))) (
      ifs (bif (decide (r1 < (0 : Int))) then (decide (((t0.1 : Nat) : Int) ≥ t2)) else false) (
        some ((0, (fun _ => S_api_Rule.z)), (3 : Int))) (
        (F_rule_Copy_own fu t0).bind fun r3 =>
        chk (RoomOk (r3.1 + 1) 272) <|
        (F_rule_Sort fu ((r3.1 + 1), (fun i => if i < r3.1 then r3.2 i else (fun i => ([r0] : List S_api_Rule).getD i S_api_Rule.z) (i - r3.1)))).bind fun r4 =>
        some (r4, (0 : Int)))))

theorem run_mods_add (fu : Nat) (t0 : (Nat × (Nat → S_api_Rule))) (t1 : S_api_Mod) (t2 : Int) {d : D} {r : ((Nat × (Nat → S_api_Rule)) × Int)} (h : F_mods_add fu t0 t1 t2 = some r) (hk : (K_mods_add d) r) : Runs Tryz.prog Tryz.f73 0 T_mods_add [(0, (S_api_Rule.L t0.1 t0.2)), (1, (S_api_Mod.d t1)), (2, (D.int .i64 t2))] [] d [] := by
  unfold F_mods_add at h
  obtain ⟨r0, cr0, h⟩ := Option.bind_eq_some_iff.1 h
  refine runs_regions 2 [([], [0, 2, 4]), ([(.d (S_api_Rule.d r0))], [0, 2, 4, 8])] (z := ([FC Tryz.prog 93 [(S_api_Mod.d t1)] [] (S_api_Rule.d r0) [], All (List.map NoRow [(S_api_Mod.d t1)])], [(0, (S_api_Rule.L t0.1 t0.2)), (2, (D.int .i64 t2)), (4, (D.ptr 0 [])), (8, (D.ptr 1 []))], [some (.box (S_api_Mod.d t1)), some (.box (S_api_Rule.d r0))])) rfl (by kernel_rfl) (And.intro (fc_mods_Rule t1 cr0) (And.intro (And.intro (S_api_Mod.inn _) trivial) trivial)) ?_
  refine runs_freeze 1 (row := (.box (S_api_Rule.d r0))) rfl ?_
  obtain ⟨r1, cr1, h⟩ := Option.bind_eq_some_iff.1 h
  obtain ⟨p0, h⟩ := chk_some h
  refine runs_regions 3 [([(.d (D.int .i64 r1))], [0, 2, 4, 8, 9]), ([], [0, 2, 4, 8, 9, 10]), ([], [0, 2, 4, 8, 9, 10, 17])] (z := ([FC Tryz.prog 30 [(S_api_Rule.L t0.1 t0.2), (D.fn 94 (D.cons (D.lptr (S_api_Rule.d r0)) D.nil))] [] (D.int .i64 r1) [], All (List.map NoRow [(S_api_Rule.L t0.1 t0.2), (D.fn 94 (D.cons (D.lptr (S_api_Rule.d r0)) D.nil))]), ((decide (r1 ≥ (0 : Int))) = true → All [((decide (r1 ≥ (0 : Int))) = true → (decide (r1 ≥ (0 : Int))) = true), ((decide (r1 ≥ (0 : Int))) = true → (decide (r1 ≥ (0 : Int))) = true), (0 ≤ r1 ∧ r1 < ((t0.1 : Nat) : Int))]), ((decide (r1 ≥ (0 : Int))) = true → All [((decide (r1 ≥ (0 : Int))) = true → (decide (r1 ≥ (0 : Int))) = true)]), ((decide (r1 ≥ (0 : Int))) = true → All [((decide (r1 ≥ (0 : Int))) = true → (decide (r1 ≥ (0 : Int))) = true)]), ((decide (r1 ≥ (0 : Int))) = true → All [((decide (r1 ≥ (0 : Int))) = true → (decide (r1 ≥ (0 : Int))) = true)]), ((decide (r1 ≥ (0 : Int))) = true → All [((decide (r1 ≥ (0 : Int))) = true → (decide (r1 ≥ (0 : Int))) = true), ((decide (r1 ≥ (0 : Int))) = true → (decide (r1 ≥ (0 : Int))) = true)]), ((true && (decide (r1 ≥ (0 : Int)))) = true → (decide (r1 ≥ (0 : Int))) = true)], [(0, (S_api_Rule.L t0.1 t0.2)), (2, (D.int .i64 t2)), (4, (D.ptr 0 [])), (8, (D.lptr (S_api_Rule.d r0))), (9, (D.int .i64 r1)), (10, (D.fn 95 (D.cons (D.lptr (S_api_Rule.d r0)) D.nil))), (17, (D.bool (bif (decide (r1 ≥ (0 : Int))) then ((t0.2 r1.toNat).f5 != t1.f6) else false)))], [some (.box (S_api_Mod.d t1)), none])) rfl (by kernel_rfl) (And.intro (fc_slices_IndexFunc_api_Rule_mods_add_1 fu t0 r0 cr1) (And.intro (And.intro (fun _ _ => (S_api_Rule.inn _)) (And.intro (And.intro (S_api_Rule.inn _) trivial) trivial)) (And.intro (fun hg => (And.intro (by first | exact fun h => h | exact fun h => (Bool.and_eq_true_iff.1 h).1 | simp_all) (And.intro (by first | exact fun h => h | exact fun h => (Bool.and_eq_true_iff.1 h).1 | simp_all) (And.intro (p0 hg) trivial)))) (And.intro (fun _ => (And.intro (by first | exact fun h => h | exact fun h => (Bool.and_eq_true_iff.1 h).1 | simp_all) trivial)) (And.intro (fun _ => (And.intro (by first | exact fun h => h | exact fun h => (Bool.and_eq_true_iff.1 h).1 | simp_all) trivial)) (And.intro (fun _ => (And.intro (by first | exact fun h => h | exact fun h => (Bool.and_eq_true_iff.1 h).1 | simp_all) trivial)) (And.intro (fun _ => (And.intro (by first | exact fun h => h | exact fun h => (Bool.and_eq_true_iff.1 h).1 | simp_all) (And.intro (by first | exact fun h => h | exact fun h => (Bool.and_eq_true_iff.1 h).1 | simp_all) trivial))) (And.intro (by first | exact fun h => h | exact fun h => (Bool.and_eq_true_iff.1 h).1 | simp_all) trivial)))))))) ?_
  refine runs_if (b := (bif (decide (r1 ≥ (0 : Int))) then ((t0.2 r1.toNat).f5 != t1.f6) else false)) (by kernel_rfl) (fun hb => ?_) (fun hb => ?_)
  · replace h := ifs_true h hb
    refine runs_regions 1 [([], [6, 7])] (z := ([], [(6, D.nils), (7, (D.int .i64 (7 : Int)))], [some (.box (S_api_Mod.d t1)), none])) rfl (by kernel_rfl) trivial ?_
    rw [← Option.some.inj h] at hk
    obtain rfl : d = (D.tup (D.cons (S_api_Rule.L 0 (fun _ => S_api_Rule.z)) (D.cons (D.int .i64 (7 : Int)) D.nil))) := hk
    refine runs_nils 6 32 (fun i => (S_api_Rule.d ((fun _ => S_api_Rule.z) i))) (by kernel_rfl) ?_
    exact runs_ret (by kernel_rfl) trivial (Nat.le_refl 0) trivial (And.intro (fun _ _ => (S_api_Rule.inn _)) (And.intro trivial trivial))
  · replace h := ifs_false h hb
    obtain ⟨r2, cr2, h⟩ := Option.bind_eq_some_iff.1 h
    refine runs_regions 1 [([(.d (D.bool r2))], [0, 2, 8, 9, 30])] (z := ([(t1.f7 = true → All [(t1.f7 = true → t1.f7 = true), (t1.f7 = true → t1.f7 = true), FC Tryz.prog 97 [(S_api_Rule.L t0.1 t0.2), (D.fn 95 (D.cons (D.lptr (S_api_Rule.d r0)) D.nil))] [] (D.bool r2) [], All (List.map NoRow [(S_api_Rule.L t0.1 t0.2), (D.fn 95 (D.cons (D.lptr (S_api_Rule.d r0)) D.nil))])]), ((true && t1.f7) = true → t1.f7 = true)], [(0, (S_api_Rule.L t0.1 t0.2)), (2, (D.int .i64 t2)), (8, (D.lptr (S_api_Rule.d r0))), (9, (D.int .i64 r1)), (30, (D.bool (bif t1.f7 then r2 else false)))], [some (.box (S_api_Mod.d t1)), none])) rfl (by kernel_rfl) (And.intro (fun hg => (And.intro (by first | exact fun h => h | exact fun h => (Bool.and_eq_true_iff.1 h).1 | simp_all) (And.intro (by first | exact fun h => h | exact fun h => (Bool.and_eq_true_iff.1 h).1 | simp_all) (And.intro (fc_slices_ContainsFunc_api_Rule_mods_add_2 fu t0 r0 (callIf_some cr2 hg)) (And.intro (And.intro (fun _ _ => (S_api_Rule.inn _)) (And.intro (And.intro (S_api_Rule.inn _) trivial) trivial)) trivial))))) (And.intro (by first | exact fun h => h | exact fun h => (Bool.and_eq_true_iff.1 h).1 | simp_all) trivial)) ?_
    refine runs_if (b := (bif t1.f7 then r2 else false)) (by kernel_rfl) (fun hb => ?_) (fun hb => ?_)
    · replace h := ifs_true h hb
      refine runs_regions 1 [([], [6, 7])] (z := ([], [(6, D.nils), (7, (D.int .i64 (6 : Int)))], [some (.box (S_api_Mod.d t1)), none])) rfl (by kernel_rfl) trivial ?_
      rw [← Option.some.inj h] at hk
      obtain rfl : d = (D.tup (D.cons (S_api_Rule.L 0 (fun _ => S_api_Rule.z)) (D.cons (D.int .i64 (6 : Int)) D.nil))) := hk
      refine runs_nils 6 32 (fun i => (S_api_Rule.d ((fun _ => S_api_Rule.z) i))) (by kernel_rfl) ?_
      exact runs_ret (by kernel_rfl) trivial (Nat.le_refl 0) trivial (And.intro (fun _ _ => (S_api_Rule.inn _)) (And.intro trivial trivial))
    · replace h := ifs_false h hb
      refine runs_regions 1 [([], [0, 8, 38])] (z := ([((decide (r1 < (0 : Int))) = true → All [((decide (r1 < (0 : Int))) = true → (decide (r1 < (0 : Int))) = true)]), ((decide (r1 < (0 : Int))) = true → All [((decide (r1 < (0 : Int))) = true → (decide (r1 < (0 : Int))) = true), ((decide (r1 < (0 : Int))) = true → (decide (r1 < (0 : Int))) = true)]), ((true && (decide (r1 < (0 : Int)))) = true → (decide (r1 < (0 : Int))) = true)], [(0, (S_api_Rule.L t0.1 t0.2)), (8, (D.lptr (S_api_Rule.d r0))), (38, (D.bool (bif (decide (r1 < (0 : Int))) then (decide (((t0.1 : Nat) : Int) ≥ t2)) else false)))], [some (.box (S_api_Mod.d t1)), none])) rfl (by kernel_rfl) (And.intro (fun _ => (And.intro (by first | exact fun h => h | exact fun h => (Bool.and_eq_true_iff.1 h).1 | simp_all) trivial)) (And.intro (fun _ => (And.intro (by first | exact fun h => h | exact fun h => (Bool.and_eq_true_iff.1 h).1 | simp_all) (And.intro (by first | exact fun h => h | exact fun h => (Bool.and_eq_true_iff.1 h).1 | simp_all) trivial))) (And.intro (by first | exact fun h => h | exact fun h => (Bool.and_eq_true_iff.1 h).1 | simp_all) trivial))) ?_
      refine runs_if (b := (bif (decide (r1 < (0 : Int))) then (decide (((t0.1 : Nat) : Int) ≥ t2)) else false)) (by kernel_rfl) (fun hb => ?_) (fun hb => ?_)
      · replace h := ifs_true h hb
        refine runs_regions 1 [([], [6, 7])] (z := ([], [(6, D.nils), (7, (D.int .i64 (3 : Int)))], [some (.box (S_api_Mod.d t1)), none])) rfl (by kernel_rfl) trivial ?_
        rw [← Option.some.inj h] at hk
        obtain rfl : d = (D.tup (D.cons (S_api_Rule.L 0 (fun _ => S_api_Rule.z)) (D.cons (D.int .i64 (3 : Int)) D.nil))) := hk
        refine runs_nils 6 32 (fun i => (S_api_Rule.d ((fun _ => S_api_Rule.z) i))) (by kernel_rfl) ?_
        exact runs_ret (by kernel_rfl) trivial (Nat.le_refl 0) trivial (And.intro (fun _ _ => (S_api_Rule.inn _)) (And.intro trivial trivial))
      · replace h := ifs_false h hb
        obtain ⟨r3, cr3, h⟩ := Option.bind_eq_some_iff.1 h
        obtain ⟨p1, h⟩ := chk_some h
        obtain ⟨r4, cr4, h⟩ := Option.bind_eq_some_iff.1 h
        refine runs_regions 1 [([(.rows ([] : List Nat) [(S_api_Rule.L t0.1 t0.2)] ([] : List Row) ([some (S_api_Rule.Q 52 r3.1 r3.2)] : Heap) (D.own 0)), (.lit fun i => (S_api_Rule.d ((fun i => ([r0] : List S_api_Rule).getD i S_api_Rule.z) i))), (.lit fun i => (S_api_Rule.d ((fun i => if i < r3.1 then r3.2 i else (fun i => ([r0] : List S_api_Rule).getD i S_api_Rule.z) (i - r3.1)) i))), (.d (S_api_Rule.L r4.1 r4.2))], [6, 7])] (z := ([FC Tryz.prog 25 [(S_api_Rule.L t0.1 t0.2)] (List.map some ([] : List Row)) (D.own 0) ([some (S_api_Rule.Q 52 r3.1 r3.2)] : Heap), [(S_api_Rule.L t0.1 t0.2)] = List.map (D.ren (emb ([] : List Nat) 2)) [(S_api_Rule.L t0.1 t0.2)], RowsAt (emb ([] : List Nat) 2) ([some (.box (S_api_Mod.d t1)), none] : Heap) ([] : List Nat) ([] : List Row), HIn (Bel (List.length ([] : List Nat))) (List.map some ([] : List Row)), AllIn (Bel (List.length ([] : List Nat))) [(S_api_Rule.L t0.1 t0.2)], HIn (Bel (List.length ([some (S_api_Rule.Q 52 r3.1 r3.2)] : Heap))) ([some (S_api_Rule.Q 52 r3.1 r3.2)] : Heap), D.In (Bel (List.length ([some (S_api_Rule.Q 52 r3.1 r3.2)] : Heap))) (D.own 0), TabOk [(S_api_Rule.d r0)] 32 (S_api_Rule.A 1 (fun i => ([r0] : List S_api_Rule).getD i S_api_Rule.z)), (RoomOk (r3.1 + 1) 272), CatOk (S_api_Rule.A r3.1 r3.2) (S_api_Rule.A 1 (fun i => ([r0] : List S_api_Rule).getD i S_api_Rule.z)) (S_api_Rule.A (r3.1 + 1) (fun i => if i < r3.1 then r3.2 i else (fun i => ([r0] : List S_api_Rule).getD i S_api_Rule.z) (i - r3.1))), FC Tryz.prog 98 [(S_api_Rule.L (r3.1 + 1) (fun i => if i < r3.1 then r3.2 i else (fun i => ([r0] : List S_api_Rule).getD i S_api_Rule.z) (i - r3.1)))] [] (S_api_Rule.L r4.1 r4.2) [], All (List.map NoRow [(S_api_Rule.L (r3.1 + 1) (fun i => if i < r3.1 then r3.2 i else (fun i => ([r0] : List S_api_Rule).getD i S_api_Rule.z) (i - r3.1)))])], [(6, (S_api_Rule.L r4.1 r4.2)), (7, (D.int .i64 (0 : Int)))], [some (.box (S_api_Mod.d t1)), none, none, none])) rfl (by kernel_rfl) (And.intro (fc_rule_Copy_own fu t0 cr3) (And.intro rfl (And.intro trivial (And.intro trivial (And.intro (And.intro (fun _ _ => (S_api_Rule.inn _)) trivial) (And.intro (And.intro (fun _ _ => (S_api_Rule.inn _)) trivial) (And.intro (bel_of rfl) (And.intro (tabOk_arr rfl (And.intro rfl trivial)) (And.intro p1 (And.intro (catOk_arr' rfl fun i => (d_ite (f := fun x : S_api_Rule => (S_api_Rule.d x)) rfl rfl).symm) (And.intro (fc_rule_Sort fu ((r3.1 + 1), (fun i => if i < r3.1 then r3.2 i else (fun i => ([r0] : List S_api_Rule).getD i S_api_Rule.z) (i - r3.1))) cr4) (And.intro (And.intro (fun _ _ => (S_api_Rule.inn _)) trivial) trivial)))))))))))) ?_
        rw [← Option.some.inj h] at hk
        obtain rfl : d = (D.tup (D.cons (S_api_Rule.L r4.1 r4.2) (D.cons (D.int .i64 (0 : Int)) D.nil))) := hk
        exact runs_ret (by kernel_rfl) trivial (Nat.le_refl 0) trivial (And.intro (fun _ _ => (S_api_Rule.inn _)) (And.intro trivial trivial))

theorem fc_mods_add (fu : Nat) (t0 : (Nat × (Nat → S_api_Rule))) (t1 : S_api_Mod) (t2 : Int) {r : ((Nat × (Nat → S_api_Rule)) × Int)} (h : F_mods_add fu t0 t1 t2 = some r) : FC Tryz.prog 73 [(S_api_Rule.L t0.1 t0.2), (S_api_Mod.d t1), (D.int .i64 t2)] [] (D.tup (D.cons (S_api_Rule.L r.1.1 r.1.2) (D.cons (D.int .i64 r.2) D.nil))) [] := by
  refine fc_of_runs (fn := Tryz.f73) (c := Tryz.f73.body.getD .skip) (by kernel_rfl) (by kernel_rfl) ?_
  refine runs_to (ts := [0, 1, 2]) (T' := T_mods_add) (env' := [(0, (S_api_Rule.L t0.1 t0.2)), (1, (S_api_Mod.d t1)), (2, (D.int .i64 t2))]) (h2 := []) (by kernel_rfl) (by kernel_rfl) trivial (Nat.le_refl _) trivial (And.intro (fun _ _ => (S_api_Rule.inn _)) (And.intro (S_api_Mod.inn _) (And.intro trivial trivial))) ?_
  exact run_mods_add fu t0 t1 t2 h rfl

def K_rule_Copy (d : D) (r : (Nat × (Nat → S_api_Rule))) : Prop := d = (S_api_Rule.L r.1 r.2)

noncomputable def T_rule_Copy : List Item := norm 200 [.code (Tryz.f25.body.getD .skip)]

noncomputable def T_rule_Copy_L1 : List Item := norm 200 (nxt (nxt (nxt T_rule_Copy)))

noncomputable def X_rule_Copy_L1T : List Item := norm 200 (cndF (nxt (nxt (nxt (nxt T_rule_Copy)))))

abbrev E_rule_Copy_L1 := (Nat × (Nat → S_api_Rule))

def N_rule_Copy_L1 (_fu : Nat) (t6 : (Nat × (Nat → S_api_Rule))) (t7 : Int) (d : D) (s : (Int × (Nat × (Nat → S_api_Rule)))) : Prop := Runs Tryz.prog Tryz.f25 0 T_rule_Copy_L1 [(3, (D.own 0)), (6, (S_api_Rule.L t6.1 t6.2)), (7, (D.int .i64 t7)), (8, (D.int .i64 s.1))] [some (S_api_Rule.Q 52 s.2.1 s.2.2)] d []

def X_rule_Copy_L1 (_fu : Nat) (_t6 : (Nat × (Nat → S_api_Rule))) (_t7 : Int) (d : D) : E_rule_Copy_L1 ⊕ (Nat × (Nat → S_api_Rule)) → Prop
  | .inl e => Runs Tryz.prog Tryz.f25 0 X_rule_Copy_L1T [(3, (D.own 0))] [some (S_api_Rule.Q 52 e.1 e.2)] d []
  | .inr o => (K_rule_Copy d) o

def F_rule_Copy_L1 (_fu : Nat) (t6 : (Nat × (Nat → S_api_Rule))) (t7 : Int) (t8 : Int) (m0 : (Nat × (Nat → S_api_Rule))) : Option (Lo (Int × (Nat × (Nat → S_api_Rule))) E_rule_Copy_L1 (Nat × (Nat → S_api_Rule))) :=
  ifs (decide (t8 < t7)) (
    chk (0 ≤ t8 ∧ t8 < ((t6.1 : Nat) : Int)) <|
    (F_rule_copied (t6.2 t8.toNat)).bind fun r0 =>
    chk (RoomOk (m0.1 + 1) 272) <|
    some (.next ((IntKind.wrap .i64 (t8 + (1 : Int))), ((m0.1 + 1), (fun i => if i < m0.1 then m0.2 i else (fun i => ([r0] : List S_api_Rule).getD i S_api_Rule.z) (i - m0.1)))))) (
    some (.exit m0))

theorem run_rule_Copy_L1 (fu : Nat) (t6 : (Nat × (Nat → S_api_Rule))) (t7 : Int) (t8 : Int) (m0 : (Nat × (Nat → S_api_Rule))) {d : D} {o : (Lo (Int × (Nat × (Nat → S_api_Rule))) E_rule_Copy_L1 (Nat × (Nat → S_api_Rule)))} (h : F_rule_Copy_L1 fu t6 t7 t8 m0 = some o) (hk : (Lo.post (N_rule_Copy_L1 fu t6 t7 d) (X_rule_Copy_L1 fu t6 t7 d)) o) : Runs Tryz.prog Tryz.f25 0 T_rule_Copy_L1 [(3, (D.own 0)), (6, (S_api_Rule.L t6.1 t6.2)), (7, (D.int .i64 t7)), (8, (D.int .i64 t8))] [some (S_api_Rule.Q 52 m0.1 m0.2)] d [] := by
  unfold F_rule_Copy_L1 at h
  refine runs_regions 1 [([], [3, 6, 7, 8, 9])] (z := ([], [(3, (D.own 0)), (6, (S_api_Rule.L t6.1 t6.2)), (7, (D.int .i64 t7)), (8, (D.int .i64 t8)), (9, (D.bool (decide (t8 < t7))))], [some (S_api_Rule.Q 52 m0.1 m0.2)])) rfl (by kernel_rfl) trivial ?_
  refine runs_if (b := (decide (t8 < t7))) (by kernel_rfl) (fun hb => ?_) (fun hb => ?_)
  · replace h := ifs_true h hb
    obtain ⟨p0, h⟩ := chk_some h
    obtain ⟨r0, cr0, h⟩ := Option.bind_eq_some_iff.1 h
    obtain ⟨p1, h⟩ := chk_some h
    refine runs_regions 3 [([], [3, 5, 6, 7, 8]), ([(.d (S_api_Rule.d r0)), (.lit fun i => (S_api_Rule.d ((fun i => ([r0] : List S_api_Rule).getD i S_api_Rule.z) i))), (.d (S_api_Rule.A (m0.1 + 1) (fun i => if i < m0.1 then m0.2 i else (fun i => ([r0] : List S_api_Rule).getD i S_api_Rule.z) (i - m0.1))))], [3, 6, 7, 8]), ([], [3, 6, 7, 8])] (z := ([(0 ≤ t8 ∧ t8 < ((t6.1 : Nat) : Int)), FC Tryz.prog 40 [(S_api_Rule.d (t6.2 t8.toNat))] [] (S_api_Rule.d r0) [], All (List.map NoRow [(S_api_Rule.d (t6.2 t8.toNat))]), TabOk [(S_api_Rule.d r0)] 32 (S_api_Rule.A 1 (fun i => ([r0] : List S_api_Rule).getD i S_api_Rule.z)), (RoomOk (m0.1 + 1) 272), CatOk (S_api_Rule.A m0.1 m0.2) (S_api_Rule.A 1 (fun i => ([r0] : List S_api_Rule).getD i S_api_Rule.z)) (S_api_Rule.A (m0.1 + 1) (fun i => if i < m0.1 then m0.2 i else (fun i => ([r0] : List S_api_Rule).getD i S_api_Rule.z) (i - m0.1)))], [(3, (D.own 2)), (6, (S_api_Rule.L t6.1 t6.2)), (7, (D.int .i64 t7)), (8, (D.int .i64 (IntKind.wrap .i64 (t8 + (1 : Int)))))], [none, some (.box (S_api_Rule.d (t6.2 t8.toNat))), some (S_api_Rule.Q 52 (m0.1 + 1) (fun i => if i < m0.1 then m0.2 i else (fun i => ([r0] : List S_api_Rule).getD i S_api_Rule.z) (i - m0.1)))])) rfl (by kernel_rfl) (And.intro p0 (And.intro (fc_rule_copied (t6.2 t8.toNat) cr0) (And.intro (And.intro (S_api_Rule.inn _) trivial) (And.intro (tabOk_arr rfl (And.intro rfl trivial)) (And.intro p1 (And.intro (catOk_arr' rfl fun i => (d_ite (f := fun x : S_api_Rule => (S_api_Rule.d x)) rfl rfl).symm) trivial)))))) ?_
    rw [← Option.some.inj h] at hk
    refine runs_to (ts := [3, 6, 7, 8]) (T' := T_rule_Copy_L1) (env' := [(3, (D.own 2)), (6, (S_api_Rule.L t6.1 t6.2)), (7, (D.int .i64 t7)), (8, (D.int .i64 (IntKind.wrap .i64 (t8 + (1 : Int)))))]) (h2 := [none, some (.box (S_api_Rule.d (t6.2 t8.toNat))), some (S_api_Rule.Q 52 (m0.1 + 1) (fun i => if i < m0.1 then m0.2 i else (fun i => ([r0] : List S_api_Rule).getD i S_api_Rule.z) (i - m0.1)))]) (by kernel_rfl) (by kernel_rfl) (And.intro (.inl rfl) (And.intro (.inr rfl) (And.intro (.inr rfl) trivial))) (Nat.zero_le _) (And.intro (S_api_Rule.inn _) (And.intro (fun _ _ => (S_api_Rule.inn _)) trivial)) (And.intro (bel_of rfl) (And.intro (fun _ _ => (S_api_Rule.inn _)) (And.intro trivial (And.intro trivial trivial)))) ?_
    refine runs_rename 0 2 (row := (S_api_Rule.Q 52 (m0.1 + 1) (fun i => if i < m0.1 then m0.2 i else (fun i => ([r0] : List S_api_Rule).getD i S_api_Rule.z) (i - m0.1)))) (by decide) (Nat.zero_le _) rfl rfl (And.intro (S_api_Rule.rnk _) (And.intro (fun _ _ => (S_api_Rule.inn _)) trivial)) (And.intro (rn_own rfl) (And.intro (fun _ _ => (S_api_Rule.inn _)) (And.intro trivial (And.intro trivial trivial)))) ?_
    refine runs_eq (env2 := [(3, (D.own 0)), (6, (S_api_Rule.L t6.1 t6.2)), (7, (D.int .i64 t7)), (8, (D.int .i64 (IntKind.wrap .i64 (t8 + (1 : Int)))))]) (h2 := [some (S_api_Rule.Q 52 (m0.1 + 1) (fun i => if i < m0.1 then m0.2 i else (fun i => ([r0] : List S_api_Rule).getD i S_api_Rule.z) (i - m0.1))), some (.box (S_api_Rule.d (t6.2 t8.toNat))), none]) (by kernel_rfl) (by kernel_rfl) ?_
    refine runs_to (ts := [3, 6, 7, 8]) (T' := T_rule_Copy_L1) (env' := [(3, (D.own 0)), (6, (S_api_Rule.L t6.1 t6.2)), (7, (D.int .i64 t7)), (8, (D.int .i64 (IntKind.wrap .i64 (t8 + (1 : Int)))))]) (h2 := [some (S_api_Rule.Q 52 (m0.1 + 1) (fun i => if i < m0.1 then m0.2 i else (fun i => ([r0] : List S_api_Rule).getD i S_api_Rule.z) (i - m0.1)))]) (by kernel_rfl) (by kernel_rfl) (And.intro (.inr rfl) trivial) (Nat.zero_le _) (And.intro (fun _ _ => (S_api_Rule.inn _)) trivial) (And.intro (bel_of rfl) (And.intro (fun _ _ => (S_api_Rule.inn _)) (And.intro trivial (And.intro trivial trivial)))) ?_
    exact hk
  · replace h := ifs_false h hb
    rw [← Option.some.inj h] at hk
    refine runs_to (ts := [3]) (T' := X_rule_Copy_L1T) (env' := [(3, (D.own 0))]) (h2 := [some (S_api_Rule.Q 52 m0.1 m0.2)]) (by kernel_rfl) (by kernel_rfl) (And.intro (.inr rfl) trivial) (Nat.zero_le _) (And.intro (fun _ _ => (S_api_Rule.inn _)) trivial) (And.intro (bel_of rfl) trivial) ?_
    exact hk

theorem iter_rule_Copy_L1 (fu : Nat) (t6 : (Nat × (Nat → S_api_Rule))) (t7 : Int) {d : D} (k : Nat) (s : (Int × (Nat × (Nat → S_api_Rule)))) {o : E_rule_Copy_L1 ⊕ (Nat × (Nat → S_api_Rule))} (h : iter (fun s => F_rule_Copy_L1 fu t6 t7 s.1 s.2) k s = some o) (hx : X_rule_Copy_L1 fu t6 t7 d o) : N_rule_Copy_L1 fu t6 t7 d s :=
  iter_post (K := N_rule_Copy_L1 fu t6 t7 d) (X := X_rule_Copy_L1 fu t6 t7 d) (fun s _ h hk => run_rule_Copy_L1 fu t6 t7 s.1 s.2 h hk) k s o h hx

/-- podesta/rule.Copy -/
def F_rule_Copy (fu : Nat) (t0 : (Nat × (Nat → S_api_Rule))) : Option (Nat × (Nat → S_api_Rule)) :=
  after (iter (fun s => F_rule_Copy_L1 fu t0 ((t0.1 : Nat) : Int) s.1 s.2) fu ((0 : Int), (0, (fun _ => S_api_Rule.z)))) fun e3 =>
  (F_slices_Clip_api_Rule e3).bind fun r1 =>
  some r1

theorem run_rule_Copy (fu : Nat) (t0 : (Nat × (Nat → S_api_Rule))) {d : D} {r : (Nat × (Nat → S_api_Rule))} (h : F_rule_Copy fu t0 = some r) (hk : (K_rule_Copy d) r) : Runs Tryz.prog Tryz.f25 0 T_rule_Copy [(0, (S_api_Rule.L t0.1 t0.2))] [] d [] := by
  unfold F_rule_Copy at h
  refine runs_regions 3 [([], [0]), ([(.nil 52 32 (S_api_Rule.A 0 (fun _ => S_api_Rule.z)))], [0, 3]), ([], [3, 6, 7, 8])] (z := ([EmptyOk (S_api_Rule.A 0 (fun _ => S_api_Rule.z))], [(3, (D.own 0)), (6, (S_api_Rule.L t0.1 t0.2)), (7, (D.int .i64 ((t0.1 : Nat) : Int))), (8, (D.int .i64 (0 : Int)))], [some (S_api_Rule.Q 52 0 (fun _ => S_api_Rule.z))])) rfl (by kernel_rfl) (And.intro emptyOk_arr trivial) ?_
  refine runs_to (ts := [3, 6, 7, 8]) (T' := T_rule_Copy_L1) (env' := [(3, (D.own 0)), (6, (S_api_Rule.L t0.1 t0.2)), (7, (D.int .i64 ((t0.1 : Nat) : Int))), (8, (D.int .i64 (0 : Int)))]) (h2 := [some (S_api_Rule.Q 52 0 (fun _ => S_api_Rule.z))]) (by kernel_rfl) (by kernel_rfl) (And.intro (.inr rfl) trivial) (Nat.zero_le _) (And.intro (fun _ _ => (S_api_Rule.inn _)) trivial) (And.intro (bel_of rfl) (And.intro (fun _ _ => (S_api_Rule.inn _)) (And.intro trivial (And.intro trivial trivial)))) ?_
  rcases after_some h with ⟨e3, hi, h⟩ | hi
  · refine iter_rule_Copy_L1 fu t0 ((t0.1 : Nat) : Int) fu ((0 : Int), (0, (fun _ => S_api_Rule.z))) hi ?_
    show Runs Tryz.prog Tryz.f25 0 X_rule_Copy_L1T [(3, (D.own 0))] [some (S_api_Rule.Q 52 e3.1 e3.2)] d []
    refine runs_freeze 0 (row := (S_api_Rule.Q 52 e3.1 e3.2)) rfl ?_
    obtain ⟨r1, cr1, h⟩ := Option.bind_eq_some_iff.1 h
    refine runs_regions 1 [([(.d (S_api_Rule.L r1.1 r1.2))], [2])] (z := ([FC Tryz.prog 41 [(S_api_Rule.L e3.1 e3.2)] [] (S_api_Rule.L r1.1 r1.2) [], All (List.map NoRow [(S_api_Rule.L e3.1 e3.2)])], [(2, (S_api_Rule.L r1.1 r1.2))], [none])) rfl (by kernel_rfl) (And.intro (fc_slices_Clip_api_Rule e3 cr1) (And.intro (And.intro (fun _ _ => (S_api_Rule.inn _)) trivial) trivial)) ?_
    rw [← Option.some.inj h] at hk
    obtain rfl : d = (S_api_Rule.L r1.1 r1.2) := hk
    exact runs_ret (by kernel_rfl) trivial (Nat.le_refl 0) trivial (fun _ _ => (S_api_Rule.inn _))
  · exact iter_rule_Copy_L1 fu t0 ((t0.1 : Nat) : Int) fu ((0 : Int), (0, (fun _ => S_api_Rule.z))) hi hk

theorem fc_rule_Copy (fu : Nat) (t0 : (Nat × (Nat → S_api_Rule))) {r : (Nat × (Nat → S_api_Rule))} (h : F_rule_Copy fu t0 = some r) : FC Tryz.prog 25 [(S_api_Rule.L t0.1 t0.2)] [] (S_api_Rule.L r.1 r.2) [] := by
  refine fc_of_runs (fn := Tryz.f25) (c := Tryz.f25.body.getD .skip) (by kernel_rfl) (by kernel_rfl) ?_
  refine runs_to (ts := [0]) (T' := T_rule_Copy) (env' := [(0, (S_api_Rule.L t0.1 t0.2))]) (h2 := []) (by kernel_rfl) (by kernel_rfl) trivial (Nat.le_refl _) trivial (And.intro (fun _ _ => (S_api_Rule.inn _)) trivial) ?_
  exact run_rule_Copy fu t0 h rfl

def K_cube_Within (d : D) (r : Bool) : Prop := d = (D.bool r)

noncomputable def T_cube_Within : List Item := norm 200 [.code (Tryz.f99.body.getD .skip)]

/-- podesta/cube.Within -/
def F_cube_Within (fu : Nat) (t0 : S_api_Cube) (t1 : S_api_Cube) : Option Bool :=
  (F_cube_Meet fu t0 t1).bind fun r0 =>
  some (bif r0.2 then (((List.range 12).all fun i => r0.1.f0 i == t0.f0 i) && (((List.range 12).all fun i => r0.1.f1 i == t0.f1 i) && true)) else false)

theorem run_cube_Within (fu : Nat) (t0 : S_api_Cube) (t1 : S_api_Cube) {d : D} {r : Bool} (h : F_cube_Within fu t0 t1 = some r) (hk : (K_cube_Within d) r) : Runs Tryz.prog Tryz.f99 0 T_cube_Within [(0, (S_api_Cube.d t0)), (1, (S_api_Cube.d t1))] [] d [] := by
  unfold F_cube_Within at h
  obtain ⟨r0, cr0, h⟩ := Option.bind_eq_some_iff.1 h
  refine runs_regions 3 [([], [2, 3]), ([(.d (D.tup (D.cons (S_api_Cube.d r0.1) (D.cons (D.bool r0.2) D.nil))))], [2, 5, 6]), ([], [4])] (z := ([FC Tryz.prog 112 [(S_api_Cube.d t0), (S_api_Cube.d t1)] [] (D.tup (D.cons (S_api_Cube.d r0.1) (D.cons (D.bool r0.2) D.nil))) [], All (List.map NoRow [(S_api_Cube.d t0), (S_api_Cube.d t1)]), (r0.2 = true → All [(r0.2 = true → r0.2 = true), (r0.2 = true → r0.2 = true)]), ((true && r0.2) = true → r0.2 = true)], [(4, (D.bool (bif r0.2 then (((List.range 12).all fun i => r0.1.f0 i == t0.f0 i) && (((List.range 12).all fun i => r0.1.f1 i == t0.f1 i) && true)) else false)))], [some (.box (S_api_Cube.d t0)), some (.box (S_api_Cube.d t1)), some (.box (S_api_Cube.d r0.1))])) rfl (by kernel_rfl) (And.intro (fc_cube_Meet fu t0 t1 cr0) (And.intro (And.intro (S_api_Cube.inn _) (And.intro (S_api_Cube.inn _) trivial)) (And.intro (fun _ => (And.intro (by first | exact fun h => h | exact fun h => (Bool.and_eq_true_iff.1 h).1 | simp_all) (And.intro (by first | exact fun h => h | exact fun h => (Bool.and_eq_true_iff.1 h).1 | simp_all) trivial))) (And.intro (by first | exact fun h => h | exact fun h => (Bool.and_eq_true_iff.1 h).1 | simp_all) trivial)))) ?_
  rw [← Option.some.inj h] at hk
  obtain rfl : d = (D.bool (bif r0.2 then (((List.range 12).all fun i => r0.1.f0 i == t0.f0 i) && (((List.range 12).all fun i => r0.1.f1 i == t0.f1 i) && true)) else false)) := hk
  exact runs_ret (by kernel_rfl) trivial (Nat.le_refl 0) trivial trivial

theorem fc_cube_Within (fu : Nat) (t0 : S_api_Cube) (t1 : S_api_Cube) {r : Bool} (h : F_cube_Within fu t0 t1 = some r) : FC Tryz.prog 99 [(S_api_Cube.d t0), (S_api_Cube.d t1)] [] (D.bool r) [] := by
  refine fc_of_runs (fn := Tryz.f99) (c := Tryz.f99.body.getD .skip) (by kernel_rfl) (by kernel_rfl) ?_
  refine runs_to (ts := [0, 1]) (T' := T_cube_Within) (env' := [(0, (S_api_Cube.d t0)), (1, (S_api_Cube.d t1))]) (h2 := []) (by kernel_rfl) (by kernel_rfl) trivial (Nat.le_refl _) trivial (And.intro (S_api_Cube.inn _) (And.intro (S_api_Cube.inn _) trivial)) ?_
  exact run_cube_Within fu t0 t1 h rfl

def K_mods_touches (d : D) (r : Bool) : Prop := d = (D.bool r)

noncomputable def T_mods_touches : List Item := norm 200 [.code (Tryz.f74.body.getD .skip)]

noncomputable def T_mods_touches_J2 : List Item := norm 200 (cndT (nxt (cndF (cndT (nxt (nxt (nxt T_mods_touches)))))))

noncomputable def T_mods_touches_J1 : List Item := norm 200 (cndT (nxt (nxt (nxt T_mods_touches))))

def F_mods_touches_J2 (_fu : Nat) (t22 : Bool) (m0 : S_api_Mod) (m1 : S_api_Rule) : Option Bool :=
  ifs t22 (
    (callIf (m1.f5 == m0.f6) (F_mods_Rule m0) S_api_Rule.z).bind fun r1 =>
    (callIf (m1.f5 == m0.f6) (F_rule_Key m1 r1) false).bind fun r2 =>
    some (bif (m1.f5 == m0.f6) then r2 else false)) (
    some false)

theorem run_mods_touches_J2 (fu : Nat) (t22 : Bool) (m0 : S_api_Mod) (m1 : S_api_Rule) {d : D} {o : Bool} (h : F_mods_touches_J2 fu t22 m0 m1 = some o) (hk : (K_mods_touches d) o) : Runs Tryz.prog Tryz.f74 0 T_mods_touches_J2 [(2, (D.ptr 0 [])), (3, (D.ptr 1 [])), (22, (D.bool t22))] [some (.box (S_api_Mod.d m0)), some (.box (S_api_Rule.d m1))] d [] := by
  unfold F_mods_touches_J2 at h
  refine runs_if (b := t22) (by kernel_rfl) (fun hb => ?_) (fun hb => ?_)
  · replace h := ifs_true h hb
    obtain ⟨r1, cr1, h⟩ := Option.bind_eq_some_iff.1 h
    obtain ⟨r2, cr2, h⟩ := Option.bind_eq_some_iff.1 h
    refine runs_regions 1 [([(.d (S_api_Rule.d r1)), (.d (D.bool r2))], [4])] (z := ([((m1.f5 == m0.f6) = true → All [((m1.f5 == m0.f6) = true → (m1.f5 == m0.f6) = true), FC Tryz.prog 93 [(S_api_Mod.d m0)] [] (S_api_Rule.d r1) [], All (List.map NoRow [(S_api_Mod.d m0)])]), ((m1.f5 == m0.f6) = true → All [((m1.f5 == m0.f6) = true → (m1.f5 == m0.f6) = true), ((m1.f5 == m0.f6) = true → (m1.f5 == m0.f6) = true), FC Tryz.prog 32 [(S_api_Rule.d m1), (S_api_Rule.d r1)] [] (D.bool r2) [], All (List.map NoRow [(S_api_Rule.d m1), (S_api_Rule.d r1)])]), ((true && (m1.f5 == m0.f6)) = true → (m1.f5 == m0.f6) = true)], [(4, (D.bool (bif (m1.f5 == m0.f6) then r2 else false)))], [some (.box (S_api_Mod.d m0)), some (.box (S_api_Rule.d m1))])) rfl (by kernel_rfl) (And.intro (fun hg => (And.intro (by first | exact fun h => h | exact fun h => (Bool.and_eq_true_iff.1 h).1 | simp_all) (And.intro (fc_mods_Rule m0 (callIf_some cr1 hg)) (And.intro (And.intro (S_api_Mod.inn _) trivial) trivial)))) (And.intro (fun hg => (And.intro (by first | exact fun h => h | exact fun h => (Bool.and_eq_true_iff.1 h).1 | simp_all) (And.intro (by first | exact fun h => h | exact fun h => (Bool.and_eq_true_iff.1 h).1 | simp_all) (And.intro (fc_rule_Key m1 r1 (callIf_some cr2 hg)) (And.intro (And.intro (S_api_Rule.inn _) (And.intro (S_api_Rule.inn _) trivial)) trivial))))) (And.intro (by first | exact fun h => h | exact fun h => (Bool.and_eq_true_iff.1 h).1 | simp_all) trivial))) ?_
    rw [← Option.some.inj h] at hk
    obtain rfl : d = (D.bool (bif (m1.f5 == m0.f6) then r2 else false)) := hk
    exact runs_ret (by kernel_rfl) trivial (Nat.le_refl 0) trivial trivial
  · replace h := ifs_false h hb
    refine runs_regions 1 [([], [4])] (z := ([], [(4, (D.bool false))], [some (.box (S_api_Mod.d m0)), some (.box (S_api_Rule.d m1))])) rfl (by kernel_rfl) trivial ?_
    rw [← Option.some.inj h] at hk
    obtain rfl : d = (D.bool false) := hk
    exact runs_ret (by kernel_rfl) trivial (Nat.le_refl 0) trivial trivial

def F_mods_touches_J1 (fu : Nat) (t6 : Int) (t7 : Bool) (m0 : S_api_Mod) (m1 : S_api_Rule) : Option Bool :=
  ifs t7 (
    (callIf (m1.f5 == m0.f6) (F_cube_Within fu m1.f0 m0.f1) false).bind fun r0 =>
    some (bif (m1.f5 == m0.f6) then r0 else false)) (
    ifs (t6 == (4 : Int)) (
      F_mods_touches_J2 fu (t6 == (4 : Int)) m0 m1) (
      F_mods_touches_J2 fu (t6 == (5 : Int)) m0 m1))

theorem run_mods_touches_J1 (fu : Nat) (t6 : Int) (t7 : Bool) (m0 : S_api_Mod) (m1 : S_api_Rule) {d : D} {o : Bool} (h : F_mods_touches_J1 fu t6 t7 m0 m1 = some o) (hk : (K_mods_touches d) o) : Runs Tryz.prog Tryz.f74 0 T_mods_touches_J1 [(2, (D.ptr 0 [])), (3, (D.ptr 1 [])), (6, (D.int .i64 t6)), (7, (D.bool t7))] [some (.box (S_api_Mod.d m0)), some (.box (S_api_Rule.d m1))] d [] := by
  unfold F_mods_touches_J1 at h
  refine runs_if (b := t7) (by kernel_rfl) (fun hb => ?_) (fun hb => ?_)
  · replace h := ifs_true h hb
    obtain ⟨r0, cr0, h⟩ := Option.bind_eq_some_iff.1 h
    refine runs_regions 1 [([(.d (D.bool r0))], [4])] (z := ([((m1.f5 == m0.f6) = true → All [((m1.f5 == m0.f6) = true → (m1.f5 == m0.f6) = true)]), ((m1.f5 == m0.f6) = true → All [((m1.f5 == m0.f6) = true → (m1.f5 == m0.f6) = true)]), ((m1.f5 == m0.f6) = true → All [((m1.f5 == m0.f6) = true → (m1.f5 == m0.f6) = true), ((m1.f5 == m0.f6) = true → (m1.f5 == m0.f6) = true), FC Tryz.prog 99 [(S_api_Cube.d m1.f0), (S_api_Cube.d m0.f1)] [] (D.bool r0) [], All (List.map NoRow [(S_api_Cube.d m1.f0), (S_api_Cube.d m0.f1)])]), ((true && (m1.f5 == m0.f6)) = true → (m1.f5 == m0.f6) = true)], [(4, (D.bool (bif (m1.f5 == m0.f6) then r0 else false)))], [some (.box (S_api_Mod.d m0)), some (.box (S_api_Rule.d m1))])) rfl (by kernel_rfl) (And.intro (fun _ => (And.intro (by first | exact fun h => h | exact fun h => (Bool.and_eq_true_iff.1 h).1 | simp_all) trivial)) (And.intro (fun _ => (And.intro (by first | exact fun h => h | exact fun h => (Bool.and_eq_true_iff.1 h).1 | simp_all) trivial)) (And.intro (fun hg => (And.intro (by first | exact fun h => h | exact fun h => (Bool.and_eq_true_iff.1 h).1 | simp_all) (And.intro (by first | exact fun h => h | exact fun h => (Bool.and_eq_true_iff.1 h).1 | simp_all) (And.intro (fc_cube_Within fu m1.f0 m0.f1 (callIf_some cr0 hg)) (And.intro (And.intro (S_api_Cube.inn _) (And.intro (S_api_Cube.inn _) trivial)) trivial))))) (And.intro (by first | exact fun h => h | exact fun h => (Bool.and_eq_true_iff.1 h).1 | simp_all) trivial)))) ?_
    rw [← Option.some.inj h] at hk
    obtain rfl : d = (D.bool (bif (m1.f5 == m0.f6) then r0 else false)) := hk
    exact runs_ret (by kernel_rfl) trivial (Nat.le_refl 0) trivial trivial
  · replace h := ifs_false h hb
    refine runs_regions 1 [([], [2, 3, 6, 22])] (z := ([], [(2, (D.ptr 0 [])), (3, (D.ptr 1 [])), (6, (D.int .i64 t6)), (22, (D.bool (t6 == (4 : Int))))], [some (.box (S_api_Mod.d m0)), some (.box (S_api_Rule.d m1))])) rfl (by kernel_rfl) trivial ?_
    refine runs_if (b := (t6 == (4 : Int))) (by kernel_rfl) (fun hb => ?_) (fun hb => ?_)
    · replace h := ifs_true h hb
      refine runs_to (ts := [2, 3, 22]) (T' := T_mods_touches_J2) (env' := [(2, (D.ptr 0 [])), (3, (D.ptr 1 [])), (22, (D.bool (t6 == (4 : Int))))]) (h2 := [some (.box (S_api_Mod.d m0)), some (.box (S_api_Rule.d m1))]) (by kernel_rfl) (by kernel_rfl) (And.intro (.inr rfl) (And.intro (.inr rfl) trivial)) (Nat.zero_le _) (And.intro (S_api_Mod.inn _) (And.intro (S_api_Rule.inn _) trivial)) (And.intro (bel_of rfl) (And.intro (bel_of rfl) (And.intro trivial trivial))) ?_
      exact run_mods_touches_J2 fu (t6 == (4 : Int)) m0 m1 h hk
    · replace h := ifs_false h hb
      refine runs_regions 1 [([], [2, 3, 22])] (z := ([], [(2, (D.ptr 0 [])), (3, (D.ptr 1 [])), (22, (D.bool (t6 == (5 : Int))))], [some (.box (S_api_Mod.d m0)), some (.box (S_api_Rule.d m1))])) rfl (by kernel_rfl) trivial ?_
      refine runs_to (ts := [2, 3, 22]) (T' := T_mods_touches_J2) (env' := [(2, (D.ptr 0 [])), (3, (D.ptr 1 [])), (22, (D.bool (t6 == (5 : Int))))]) (h2 := [some (.box (S_api_Mod.d m0)), some (.box (S_api_Rule.d m1))]) (by kernel_rfl) (by kernel_rfl) (And.intro (.inr rfl) (And.intro (.inr rfl) trivial)) (Nat.zero_le _) (And.intro (S_api_Mod.inn _) (And.intro (S_api_Rule.inn _) trivial)) (And.intro (bel_of rfl) (And.intro (bel_of rfl) (And.intro trivial trivial))) ?_
      exact run_mods_touches_J2 fu (t6 == (5 : Int)) m0 m1 h hk

/-- podesta/mods.touches -/
def F_mods_touches (fu : Nat) (t0 : S_api_Mod) (t1 : S_api_Rule) : Option Bool :=
  ifs (t0.f0 == (2 : Int)) (
    F_mods_touches_J1 fu t0.f0 (t0.f0 == (2 : Int)) t0 t1) (
    F_mods_touches_J1 fu t0.f0 (t0.f0 == (3 : Int)) t0 t1)

theorem run_mods_touches (fu : Nat) (t0 : S_api_Mod) (t1 : S_api_Rule) {d : D} {r : Bool} (h : F_mods_touches fu t0 t1 = some r) (hk : (K_mods_touches d) r) : Runs Tryz.prog Tryz.f74 0 T_mods_touches [(0, (S_api_Mod.d t0)), (1, (S_api_Rule.d t1))] [] d [] := by
  unfold F_mods_touches at h
  refine runs_regions 3 [([], [2, 3]), ([], [2, 3, 6]), ([], [2, 3, 6, 7])] (z := ([], [(2, (D.ptr 0 [])), (3, (D.ptr 1 [])), (6, (D.int .i64 t0.f0)), (7, (D.bool (t0.f0 == (2 : Int))))], [some (.box (S_api_Mod.d t0)), some (.box (S_api_Rule.d t1))])) rfl (by kernel_rfl) trivial ?_
  refine runs_if (b := (t0.f0 == (2 : Int))) (by kernel_rfl) (fun hb => ?_) (fun hb => ?_)
  · replace h := ifs_true h hb
    refine runs_to (ts := [2, 3, 6, 7]) (T' := T_mods_touches_J1) (env' := [(2, (D.ptr 0 [])), (3, (D.ptr 1 [])), (6, (D.int .i64 t0.f0)), (7, (D.bool (t0.f0 == (2 : Int))))]) (h2 := [some (.box (S_api_Mod.d t0)), some (.box (S_api_Rule.d t1))]) (by kernel_rfl) (by kernel_rfl) (And.intro (.inr rfl) (And.intro (.inr rfl) trivial)) (Nat.zero_le _) (And.intro (S_api_Mod.inn _) (And.intro (S_api_Rule.inn _) trivial)) (And.intro (bel_of rfl) (And.intro (bel_of rfl) (And.intro trivial (And.intro trivial trivial)))) ?_
    exact run_mods_touches_J1 fu t0.f0 (t0.f0 == (2 : Int)) t0 t1 h hk
  · replace h := ifs_false h hb
    refine runs_regions 1 [([], [2, 3, 6, 7])] (z := ([], [(2, (D.ptr 0 [])), (3, (D.ptr 1 [])), (6, (D.int .i64 t0.f0)), (7, (D.bool (t0.f0 == (3 : Int))))], [some (.box (S_api_Mod.d t0)), some (.box (S_api_Rule.d t1))])) rfl (by kernel_rfl) trivial ?_
    refine runs_to (ts := [2, 3, 6, 7]) (T' := T_mods_touches_J1) (env' := [(2, (D.ptr 0 [])), (3, (D.ptr 1 [])), (6, (D.int .i64 t0.f0)), (7, (D.bool (t0.f0 == (3 : Int))))]) (h2 := [some (.box (S_api_Mod.d t0)), some (.box (S_api_Rule.d t1))]) (by kernel_rfl) (by kernel_rfl) (And.intro (.inr rfl) (And.intro (.inr rfl) trivial)) (Nat.zero_le _) (And.intro (S_api_Mod.inn _) (And.intro (S_api_Rule.inn _) trivial)) (And.intro (bel_of rfl) (And.intro (bel_of rfl) (And.intro trivial (And.intro trivial trivial)))) ?_
    exact run_mods_touches_J1 fu t0.f0 (t0.f0 == (3 : Int)) t0 t1 h hk

theorem fc_mods_touches (fu : Nat) (t0 : S_api_Mod) (t1 : S_api_Rule) {r : Bool} (h : F_mods_touches fu t0 t1 = some r) : FC Tryz.prog 74 [(S_api_Mod.d t0), (S_api_Rule.d t1)] [] (D.bool r) [] := by
  refine fc_of_runs (fn := Tryz.f74) (c := Tryz.f74.body.getD .skip) (by kernel_rfl) (by kernel_rfl) ?_
  refine runs_to (ts := [0, 1]) (T' := T_mods_touches) (env' := [(0, (S_api_Mod.d t0)), (1, (S_api_Rule.d t1))]) (h2 := []) (by kernel_rfl) (by kernel_rfl) trivial (Nat.le_refl _) trivial (And.intro (S_api_Mod.inn _) (And.intro (S_api_Rule.inn _) trivial)) ?_
  exact run_mods_touches fu t0 t1 h rfl

def K_mods_Apply (d : D) (r : ((Nat × (Nat → S_api_Rule)) × Int)) : Prop := d = (D.tup (D.cons (S_api_Rule.L r.1.1 r.1.2) (D.cons (D.int .i64 r.2) D.nil)))

noncomputable def T_mods_Apply : List Item := norm 200 [.code (Tryz.f51.body.getD .skip)]

noncomputable def T_mods_Apply_J1 : List Item := norm 200 (cndF (nxt (nxt (cndT (nxt (nxt (nxt (cndF (nxt (cndF (nxt (nxt T_mods_Apply))))))))))))

noncomputable def T_mods_Apply_L1 : List Item := norm 200 (nxt (nxt (cndF (nxt (cndF (nxt (nxt T_mods_Apply)))))))

noncomputable def X_mods_Apply_L1T : List Item := norm 200 (cndF (nxt (nxt (nxt (cndF (nxt (cndF (nxt (nxt T_mods_Apply)))))))))

abbrev E_mods_Apply_L1 := (Nat × (Nat → S_api_Rule))

def N_mods_Apply_L1 (_fu : Nat) (t29 : (Nat × (Nat → S_api_Rule))) (t30 : Int) (m0 : S_api_Mod) (d : D) (s : (Int × (Nat × (Nat → S_api_Rule)))) : Prop := Runs Tryz.prog Tryz.f51 0 T_mods_Apply_L1 [(4, (D.ptr 0 [])), (8, (D.own 1)), (29, (S_api_Rule.L t29.1 t29.2)), (30, (D.int .i64 t30)), (31, (D.int .i64 s.1))] [some (.box (S_api_Mod.d m0)), some (S_api_Rule.Q 52 s.2.1 s.2.2)] d []

def X_mods_Apply_L1 (_fu : Nat) (_t29 : (Nat × (Nat → S_api_Rule))) (_t30 : Int) (_m0 : S_api_Mod) (d : D) : E_mods_Apply_L1 ⊕ ((Nat × (Nat → S_api_Rule)) × Int) → Prop
  | .inl e => Runs Tryz.prog Tryz.f51 0 X_mods_Apply_L1T [(8, (D.own 1))] [none, some (S_api_Rule.Q 52 e.1 e.2)] d []
  | .inr o => (K_mods_Apply d) o

def F_mods_Apply_J1 (_fu : Nat) (_t29 : (Nat × (Nat → S_api_Rule))) (_t30 : Int) (_m0 : S_api_Mod) (t31 : Int) (m1 : (Nat × (Nat → S_api_Rule))) (m2 : S_api_Rule) : Option (Lo (Int × (Nat × (Nat → S_api_Rule))) E_mods_Apply_L1 ((Nat × (Nat → S_api_Rule)) × Int)) :=
  chk (RoomOk (m1.1 + 1) 272) <|
  some (.next ((IntKind.wrap .i64 (t31 + (1 : Int))), ((m1.1 + 1), (fun i => if i < m1.1 then m1.2 i else (fun i => ([m2] : List S_api_Rule).getD i S_api_Rule.z) (i - m1.1)))))

theorem run_mods_Apply_J1 (fu : Nat) (t29 : (Nat × (Nat → S_api_Rule))) (t30 : Int) (m0 : S_api_Mod) (t31 : Int) (m1 : (Nat × (Nat → S_api_Rule))) (m2 : S_api_Rule) {d : D} {o : (Lo (Int × (Nat × (Nat → S_api_Rule))) E_mods_Apply_L1 ((Nat × (Nat → S_api_Rule)) × Int))} (h : F_mods_Apply_J1 fu t29 t30 m0 t31 m1 m2 = some o) (hk : (Lo.post (N_mods_Apply_L1 fu t29 t30 m0 d) (X_mods_Apply_L1 fu t29 t30 m0 d)) o) : Runs Tryz.prog Tryz.f51 0 T_mods_Apply_J1 [(4, (D.ptr 0 [])), (8, (D.own 1)), (10, (D.ptr 2 [])), (29, (S_api_Rule.L t29.1 t29.2)), (30, (D.int .i64 t30)), (31, (D.int .i64 t31))] [some (.box (S_api_Mod.d m0)), some (S_api_Rule.Q 52 m1.1 m1.2), some (.box (S_api_Rule.d m2))] d [] := by
  unfold F_mods_Apply_J1 at h
  obtain ⟨p1, h⟩ := chk_some h
  refine runs_regions 2 [([(.lit fun i => (S_api_Rule.d ((fun i => ([m2] : List S_api_Rule).getD i S_api_Rule.z) i))), (.d (S_api_Rule.A (m1.1 + 1) (fun i => if i < m1.1 then m1.2 i else (fun i => ([m2] : List S_api_Rule).getD i S_api_Rule.z) (i - m1.1))))], [4, 8, 29, 30, 31]), ([], [4, 8, 29, 30, 31])] (z := ([TabOk [(S_api_Rule.d m2)] 32 (S_api_Rule.A 1 (fun i => ([m2] : List S_api_Rule).getD i S_api_Rule.z)), (RoomOk (m1.1 + 1) 272), CatOk (S_api_Rule.A m1.1 m1.2) (S_api_Rule.A 1 (fun i => ([m2] : List S_api_Rule).getD i S_api_Rule.z)) (S_api_Rule.A (m1.1 + 1) (fun i => if i < m1.1 then m1.2 i else (fun i => ([m2] : List S_api_Rule).getD i S_api_Rule.z) (i - m1.1)))], [(4, (D.ptr 0 [])), (8, (D.own 3)), (29, (S_api_Rule.L t29.1 t29.2)), (30, (D.int .i64 t30)), (31, (D.int .i64 (IntKind.wrap .i64 (t31 + (1 : Int)))))], [some (.box (S_api_Mod.d m0)), none, some (.box (S_api_Rule.d m2)), some (S_api_Rule.Q 52 (m1.1 + 1) (fun i => if i < m1.1 then m1.2 i else (fun i => ([m2] : List S_api_Rule).getD i S_api_Rule.z) (i - m1.1)))])) rfl (by kernel_rfl) (And.intro (tabOk_arr rfl (And.intro rfl trivial)) (And.intro p1 (And.intro (catOk_arr' rfl fun i => (d_ite (f := fun x : S_api_Rule => (S_api_Rule.d x)) rfl rfl).symm) trivial))) ?_
  rw [← Option.some.inj h] at hk
  refine runs_to (ts := [4, 8, 29, 30, 31]) (T' := T_mods_Apply_L1) (env' := [(4, (D.ptr 0 [])), (8, (D.own 3)), (29, (S_api_Rule.L t29.1 t29.2)), (30, (D.int .i64 t30)), (31, (D.int .i64 (IntKind.wrap .i64 (t31 + (1 : Int)))))]) (h2 := [some (.box (S_api_Mod.d m0)), none, some (.box (S_api_Rule.d m2)), some (S_api_Rule.Q 52 (m1.1 + 1) (fun i => if i < m1.1 then m1.2 i else (fun i => ([m2] : List S_api_Rule).getD i S_api_Rule.z) (i - m1.1)))]) (by kernel_rfl) (by kernel_rfl) (And.intro (.inr rfl) (And.intro (.inl rfl) (And.intro (.inr rfl) (And.intro (.inr rfl) trivial)))) (Nat.zero_le _) (And.intro (S_api_Mod.inn _) (And.intro (S_api_Rule.inn _) (And.intro (fun _ _ => (S_api_Rule.inn _)) trivial))) (And.intro (bel_of rfl) (And.intro (bel_of rfl) (And.intro (fun _ _ => (S_api_Rule.inn _)) (And.intro trivial (And.intro trivial trivial))))) ?_
  refine runs_rename 1 3 (row := (S_api_Rule.Q 52 (m1.1 + 1) (fun i => if i < m1.1 then m1.2 i else (fun i => ([m2] : List S_api_Rule).getD i S_api_Rule.z) (i - m1.1)))) (by decide) (Nat.zero_le _) rfl rfl (And.intro (S_api_Mod.rnk _) (And.intro (S_api_Rule.rnk _) (And.intro (fun _ _ => (S_api_Rule.inn _)) trivial))) (And.intro (rn_ptr rfl) (And.intro (rn_own rfl) (And.intro (fun _ _ => (S_api_Rule.inn _)) (And.intro trivial (And.intro trivial trivial))))) ?_
  refine runs_eq (env2 := [(4, (D.ptr 0 [])), (8, (D.own 1)), (29, (S_api_Rule.L t29.1 t29.2)), (30, (D.int .i64 t30)), (31, (D.int .i64 (IntKind.wrap .i64 (t31 + (1 : Int)))))]) (h2 := [some (.box (S_api_Mod.d m0)), some (S_api_Rule.Q 52 (m1.1 + 1) (fun i => if i < m1.1 then m1.2 i else (fun i => ([m2] : List S_api_Rule).getD i S_api_Rule.z) (i - m1.1))), some (.box (S_api_Rule.d m2)), none]) (by kernel_rfl) (by kernel_rfl) ?_
  refine runs_to (ts := [4, 8, 29, 30, 31]) (T' := T_mods_Apply_L1) (env' := [(4, (D.ptr 0 [])), (8, (D.own 1)), (29, (S_api_Rule.L t29.1 t29.2)), (30, (D.int .i64 t30)), (31, (D.int .i64 (IntKind.wrap .i64 (t31 + (1 : Int)))))]) (h2 := [some (.box (S_api_Mod.d m0)), some (S_api_Rule.Q 52 (m1.1 + 1) (fun i => if i < m1.1 then m1.2 i else (fun i => ([m2] : List S_api_Rule).getD i S_api_Rule.z) (i - m1.1)))]) (by kernel_rfl) (by kernel_rfl) (And.intro (.inr rfl) (And.intro (.inr rfl) trivial)) (Nat.zero_le _) (And.intro (S_api_Mod.inn _) (And.intro (fun _ _ => (S_api_Rule.inn _)) trivial)) (And.intro (bel_of rfl) (And.intro (bel_of rfl) (And.intro (fun _ _ => (S_api_Rule.inn _)) (And.intro trivial (And.intro trivial trivial))))) ?_
  exact hk

def F_mods_Apply_L1 (fu : Nat) (t29 : (Nat × (Nat → S_api_Rule))) (t30 : Int) (m0 : S_api_Mod) (t31 : Int) (m1 : (Nat × (Nat → S_api_Rule))) : Option (Lo (Int × (Nat × (Nat → S_api_Rule))) E_mods_Apply_L1 ((Nat × (Nat → S_api_Rule)) × Int)) :=
  ifs (decide (t31 < t30)) (
    chk (0 ≤ t31 ∧ t31 < ((t29.1 : Nat) : Int)) <|
    (F_mods_touches fu m0 (t29.2 t31.toNat)).bind fun r4 =>
    ifs r4 (
      ifs (bif (m0.f0 == (3 : Int)) then true else (m0.f0 == (5 : Int))) (
        some (.next ((IntKind.wrap .i64 (t31 + (1 : Int))), m1))) (
        (F_slices_Clone_api_Act m0.f3).bind fun r5 =>
        (F_slices_Clip_api_Act r5).bind fun r6 =>
        F_mods_Apply_J1 fu t29 t30 m0 t31 m1 (S_api_Rule.mk (t29.2 t31.toNat).f0 (t29.2 t31.toNat).f1 r6 (t29.2 t31.toNat).f3 (t29.2 t31.toNat).f4 (t29.2 t31.toNat).f5 (t29.2 t31.toNat).f6 (t29.2 t31.toNat).f7 (t29.2 t31.toNat).f8))) (
      F_mods_Apply_J1 fu t29 t30 m0 t31 m1 (t29.2 t31.toNat))) (
    some (.exit m1))

theorem run_mods_Apply_L1 (fu : Nat) (t29 : (Nat × (Nat → S_api_Rule))) (t30 : Int) (m0 : S_api_Mod) (t31 : Int) (m1 : (Nat × (Nat → S_api_Rule))) {d : D} {o : (Lo (Int × (Nat × (Nat → S_api_Rule))) E_mods_Apply_L1 ((Nat × (Nat → S_api_Rule)) × Int))} (h : F_mods_Apply_L1 fu t29 t30 m0 t31 m1 = some o) (hk : (Lo.post (N_mods_Apply_L1 fu t29 t30 m0 d) (X_mods_Apply_L1 fu t29 t30 m0 d)) o) : Runs Tryz.prog Tryz.f51 0 T_mods_Apply_L1 [(4, (D.ptr 0 [])), (8, (D.own 1)), (29, (S_api_Rule.L t29.1 t29.2)), (30, (D.int .i64 t30)), (31, (D.int .i64 t31))] [some (.box (S_api_Mod.d m0)), some (S_api_Rule.Q 52 m1.1 m1.2)] d [] := by
  unfold F_mods_Apply_L1 at h
  refine runs_regions 1 [([], [4, 8, 29, 30, 31, 32])] (z := ([], [(4, (D.ptr 0 [])), (8, (D.own 1)), (29, (S_api_Rule.L t29.1 t29.2)), (30, (D.int .i64 t30)), (31, (D.int .i64 t31)), (32, (D.bool (decide (t31 < t30))))], [some (.box (S_api_Mod.d m0)), some (S_api_Rule.Q 52 m1.1 m1.2)])) rfl (by kernel_rfl) trivial ?_
  refine runs_if (b := (decide (t31 < t30))) (by kernel_rfl) (fun hb => ?_) (fun hb => ?_)
  · replace h := ifs_true h hb
    obtain ⟨p0, h⟩ := chk_some h
    obtain ⟨r4, cr4, h⟩ := Option.bind_eq_some_iff.1 h
    refine runs_regions 2 [([], [4, 8, 10, 29, 30, 31]), ([(.d (D.bool r4))], [4, 8, 10, 29, 30, 31, 37])] (z := ([(0 ≤ t31 ∧ t31 < ((t29.1 : Nat) : Int)), FC Tryz.prog 74 [(S_api_Mod.d m0), (S_api_Rule.d (t29.2 t31.toNat))] [] (D.bool r4) [], All (List.map NoRow [(S_api_Mod.d m0), (S_api_Rule.d (t29.2 t31.toNat))])], [(4, (D.ptr 0 [])), (8, (D.own 1)), (10, (D.ptr 2 [])), (29, (S_api_Rule.L t29.1 t29.2)), (30, (D.int .i64 t30)), (31, (D.int .i64 t31)), (37, (D.bool r4))], [some (.box (S_api_Mod.d m0)), some (S_api_Rule.Q 52 m1.1 m1.2), some (.box (S_api_Rule.d (t29.2 t31.toNat)))])) rfl (by kernel_rfl) (And.intro p0 (And.intro (fc_mods_touches fu m0 (t29.2 t31.toNat) cr4) (And.intro (And.intro (S_api_Mod.inn _) (And.intro (S_api_Rule.inn _) trivial)) trivial))) ?_
    refine runs_if (b := r4) (by kernel_rfl) (fun hb => ?_) (fun hb => ?_)
    · replace h := ifs_true h hb
      refine runs_regions 1 [([], [4, 8, 10, 29, 30, 31, 45])] (z := ([((!(m0.f0 == (3 : Int))) = true → All [((!(m0.f0 == (3 : Int))) = true → (!(m0.f0 == (3 : Int))) = true)]), ((!(m0.f0 == (3 : Int))) = true → All [((!(m0.f0 == (3 : Int))) = true → (!(m0.f0 == (3 : Int))) = true)]), ((true && !(m0.f0 == (3 : Int))) = true → (!(m0.f0 == (3 : Int))) = true)], [(4, (D.ptr 0 [])), (8, (D.own 1)), (10, (D.ptr 2 [])), (29, (S_api_Rule.L t29.1 t29.2)), (30, (D.int .i64 t30)), (31, (D.int .i64 t31)), (45, (D.bool (bif (m0.f0 == (3 : Int)) then true else (m0.f0 == (5 : Int)))))], [some (.box (S_api_Mod.d m0)), some (S_api_Rule.Q 52 m1.1 m1.2), some (.box (S_api_Rule.d (t29.2 t31.toNat)))])) rfl (by kernel_rfl) (And.intro (fun _ => (And.intro (by first | exact fun h => h | exact fun h => (Bool.and_eq_true_iff.1 h).1 | simp_all) trivial)) (And.intro (fun _ => (And.intro (by first | exact fun h => h | exact fun h => (Bool.and_eq_true_iff.1 h).1 | simp_all) trivial)) (And.intro (by first | exact fun h => h | exact fun h => (Bool.and_eq_true_iff.1 h).1 | simp_all) trivial))) ?_
      refine runs_if (b := (bif (m0.f0 == (3 : Int)) then true else (m0.f0 == (5 : Int)))) (by kernel_rfl) (fun hb => ?_) (fun hb => ?_)
      · replace h := ifs_true h hb
        refine runs_regions 1 [([], [4, 8, 29, 30, 31])] (z := ([], [(4, (D.ptr 0 [])), (8, (D.own 1)), (29, (S_api_Rule.L t29.1 t29.2)), (30, (D.int .i64 t30)), (31, (D.int .i64 (IntKind.wrap .i64 (t31 + (1 : Int)))))], [some (.box (S_api_Mod.d m0)), some (S_api_Rule.Q 52 m1.1 m1.2), some (.box (S_api_Rule.d (t29.2 t31.toNat)))])) rfl (by kernel_rfl) trivial ?_
        rw [← Option.some.inj h] at hk
        refine runs_to (ts := [4, 8, 29, 30, 31]) (T' := T_mods_Apply_L1) (env' := [(4, (D.ptr 0 [])), (8, (D.own 1)), (29, (S_api_Rule.L t29.1 t29.2)), (30, (D.int .i64 t30)), (31, (D.int .i64 (IntKind.wrap .i64 (t31 + (1 : Int)))))]) (h2 := [some (.box (S_api_Mod.d m0)), some (S_api_Rule.Q 52 m1.1 m1.2)]) (by kernel_rfl) (by kernel_rfl) (And.intro (.inr rfl) (And.intro (.inr rfl) trivial)) (Nat.zero_le _) (And.intro (S_api_Mod.inn _) (And.intro (fun _ _ => (S_api_Rule.inn _)) trivial)) (And.intro (bel_of rfl) (And.intro (bel_of rfl) (And.intro (fun _ _ => (S_api_Rule.inn _)) (And.intro trivial (And.intro trivial trivial))))) ?_
        exact hk
      · replace h := ifs_false h hb
        obtain ⟨r5, cr5, h⟩ := Option.bind_eq_some_iff.1 h
        obtain ⟨r6, cr6, h⟩ := Option.bind_eq_some_iff.1 h
        refine runs_regions 1 [([(.d (S_api_Act.L r5.1 r5.2)), (.d (S_api_Act.L r6.1 r6.2))], [4, 8, 10, 29, 30, 31])] (z := ([FC Tryz.prog 39 [(S_api_Act.L m0.f3.1 m0.f3.2)] [] (S_api_Act.L r5.1 r5.2) [], All (List.map NoRow [(S_api_Act.L m0.f3.1 m0.f3.2)]), FC Tryz.prog 38 [(S_api_Act.L r5.1 r5.2)] [] (S_api_Act.L r6.1 r6.2) [], All (List.map NoRow [(S_api_Act.L r5.1 r5.2)])], [(4, (D.ptr 0 [])), (8, (D.own 1)), (10, (D.ptr 2 [])), (29, (S_api_Rule.L t29.1 t29.2)), (30, (D.int .i64 t30)), (31, (D.int .i64 t31))], [some (.box (S_api_Mod.d m0)), some (S_api_Rule.Q 52 m1.1 m1.2), some (.box (D.cons (S_api_Cube.d (t29.2 t31.toNat).f0) (D.cons (D.int .i64 (t29.2 t31.toNat).f1) (D.cons (S_api_Act.L r6.1 r6.2) (D.cons (D.int .i64 (t29.2 t31.toNat).f3) (D.cons (D.int .i64 (t29.2 t31.toNat).f4) (D.cons (D.int .i64 (t29.2 t31.toNat).f5) (D.cons (D.int .i64 (t29.2 t31.toNat).f6) (D.cons (D.int .i64 (t29.2 t31.toNat).f7) (D.cons (D.int .i64 (t29.2 t31.toNat).f8) D.nil))))))))))])) rfl (by kernel_rfl) (And.intro (fcl_slices_Clone_api_Act m0.f3 cr5) (And.intro (And.intro (fun _ _ => (S_api_Act.inn _)) trivial) (And.intro (fc_slices_Clip_api_Act r5 cr6) (And.intro (And.intro (fun _ _ => (S_api_Act.inn _)) trivial) trivial)))) ?_
        refine runs_to (ts := [4, 8, 10, 29, 30, 31]) (T' := T_mods_Apply_J1) (env' := [(4, (D.ptr 0 [])), (8, (D.own 1)), (10, (D.ptr 2 [])), (29, (S_api_Rule.L t29.1 t29.2)), (30, (D.int .i64 t30)), (31, (D.int .i64 t31))]) (h2 := [some (.box (S_api_Mod.d m0)), some (S_api_Rule.Q 52 m1.1 m1.2), some (.box (D.cons (S_api_Cube.d (t29.2 t31.toNat).f0) (D.cons (D.int .i64 (t29.2 t31.toNat).f1) (D.cons (S_api_Act.L r6.1 r6.2) (D.cons (D.int .i64 (t29.2 t31.toNat).f3) (D.cons (D.int .i64 (t29.2 t31.toNat).f4) (D.cons (D.int .i64 (t29.2 t31.toNat).f5) (D.cons (D.int .i64 (t29.2 t31.toNat).f6) (D.cons (D.int .i64 (t29.2 t31.toNat).f7) (D.cons (D.int .i64 (t29.2 t31.toNat).f8) D.nil))))))))))]) (by kernel_rfl) (by kernel_rfl) (And.intro (.inr rfl) (And.intro (.inr rfl) (And.intro (.inr rfl) trivial))) (Nat.zero_le _) (And.intro (S_api_Mod.inn _) (And.intro (fun _ _ => (S_api_Rule.inn _)) (And.intro (And.intro (S_api_Cube.inn _) (And.intro trivial (And.intro (fun _ _ => (S_api_Act.inn _)) (And.intro trivial (And.intro trivial (And.intro trivial (And.intro trivial (And.intro trivial (And.intro trivial trivial))))))))) trivial))) (And.intro (bel_of rfl) (And.intro (bel_of rfl) (And.intro (bel_of rfl) (And.intro (fun _ _ => (S_api_Rule.inn _)) (And.intro trivial (And.intro trivial trivial)))))) ?_
        exact run_mods_Apply_J1 fu t29 t30 m0 t31 m1 (S_api_Rule.mk (t29.2 t31.toNat).f0 (t29.2 t31.toNat).f1 r6 (t29.2 t31.toNat).f3 (t29.2 t31.toNat).f4 (t29.2 t31.toNat).f5 (t29.2 t31.toNat).f6 (t29.2 t31.toNat).f7 (t29.2 t31.toNat).f8) h hk
    · replace h := ifs_false h hb
      refine runs_to (ts := [4, 8, 10, 29, 30, 31]) (T' := T_mods_Apply_J1) (env' := [(4, (D.ptr 0 [])), (8, (D.own 1)), (10, (D.ptr 2 [])), (29, (S_api_Rule.L t29.1 t29.2)), (30, (D.int .i64 t30)), (31, (D.int .i64 t31))]) (h2 := [some (.box (S_api_Mod.d m0)), some (S_api_Rule.Q 52 m1.1 m1.2), some (.box (S_api_Rule.d (t29.2 t31.toNat)))]) (by kernel_rfl) (by kernel_rfl) (And.intro (.inr rfl) (And.intro (.inr rfl) (And.intro (.inr rfl) trivial))) (Nat.zero_le _) (And.intro (S_api_Mod.inn _) (And.intro (fun _ _ => (S_api_Rule.inn _)) (And.intro (S_api_Rule.inn _) trivial))) (And.intro (bel_of rfl) (And.intro (bel_of rfl) (And.intro (bel_of rfl) (And.intro (fun _ _ => (S_api_Rule.inn _)) (And.intro trivial (And.intro trivial trivial)))))) ?_
      exact run_mods_Apply_J1 fu t29 t30 m0 t31 m1 (t29.2 t31.toNat) h hk
  · replace h := ifs_false h hb
    rw [← Option.some.inj h] at hk
    refine runs_to (ts := [8]) (T' := X_mods_Apply_L1T) (env' := [(8, (D.own 1))]) (h2 := [none, some (S_api_Rule.Q 52 m1.1 m1.2)]) (by kernel_rfl) (by kernel_rfl) (And.intro (.inl rfl) (And.intro (.inr rfl) trivial)) (Nat.zero_le _) (And.intro (fun _ _ => (S_api_Rule.inn _)) trivial) (And.intro (bel_of rfl) trivial) ?_
    exact hk

theorem iter_mods_Apply_L1 (fu : Nat) (t29 : (Nat × (Nat → S_api_Rule))) (t30 : Int) (m0 : S_api_Mod) {d : D} (k : Nat) (s : (Int × (Nat × (Nat → S_api_Rule)))) {o : E_mods_Apply_L1 ⊕ ((Nat × (Nat → S_api_Rule)) × Int)} (h : iter (fun s => F_mods_Apply_L1 fu t29 t30 m0 s.1 s.2) k s = some o) (hx : X_mods_Apply_L1 fu t29 t30 m0 d o) : N_mods_Apply_L1 fu t29 t30 m0 d s :=
  iter_post (K := N_mods_Apply_L1 fu t29 t30 m0 d) (X := X_mods_Apply_L1 fu t29 t30 m0 d) (fun s _ h hk => run_mods_Apply_L1 fu t29 t30 m0 s.1 s.2 h hk) k s o h hx

/-- podesta/mods.Apply -/
def F_mods_Apply (fu : Nat) (t0 : (Nat × (Nat → S_api_Rule))) (t1 : S_api_Mod) (t2 : Int) : Option ((Nat × (Nat → S_api_Rule)) × Int) :=
  (F_rule_Table fu t0).bind fun r0 =>
  (callIf (!(!r0)) (F_mods_Sound fu t1) false).bind fun r1 =>
  ifs (bif (!r0) then true else (!r1)) (
    some ((0, (fun _ => S_api_Rule.z)), (2 : Int))) (
    ifs (t1.f0 == (1 : Int)) (
      (F_mods_add fu t0 t1 t2).bind fun r2 =>
      some (r2.1, r2.2)) (
      (F_rule_Copy fu t0).bind fun r3 =>
      after (iter (fun s => F_mods_Apply_L1 fu r3 ((r3.1 : Nat) : Int) t1 s.1 s.2) fu ((0 : Int), (0, (fun _ => S_api_Rule.z)))) fun e3 =>
      some (e3, (0 : Int))))

theorem run_mods_Apply (fu : Nat) (t0 : (Nat × (Nat → S_api_Rule))) (t1 : S_api_Mod) (t2 : Int) {d : D} {r : ((Nat × (Nat → S_api_Rule)) × Int)} (h : F_mods_Apply fu t0 t1 t2 = some r) (hk : (K_mods_Apply d) r) : Runs Tryz.prog Tryz.f51 0 T_mods_Apply [(0, (S_api_Rule.L t0.1 t0.2)), (1, (S_api_Mod.d t1)), (2, (D.int .i64 t2))] [] d [] := by
  unfold F_mods_Apply at h
  obtain ⟨r0, cr0, h⟩ := Option.bind_eq_some_iff.1 h
  obtain ⟨r1, cr1, h⟩ := Option.bind_eq_some_iff.1 h
  refine runs_regions 2 [([], [0, 2, 4]), ([(.d (D.bool r0)), (.d (D.bool r1))], [0, 2, 4, 18])] (z := ([FC Tryz.prog 71 [(S_api_Rule.L t0.1 t0.2)] [] (D.bool r0) [], All (List.map NoRow [(S_api_Rule.L t0.1 t0.2)]), ((!(!r0)) = true → All [((!(!r0)) = true → (!(!r0)) = true), FC Tryz.prog 72 [(S_api_Mod.d t1)] [] (D.bool r1) [], All (List.map NoRow [(S_api_Mod.d t1)])]), ((!(!r0)) = true → All [((!(!r0)) = true → (!(!r0)) = true)]), ((true && !(!r0)) = true → (!(!r0)) = true)], [(0, (S_api_Rule.L t0.1 t0.2)), (2, (D.int .i64 t2)), (4, (D.ptr 0 [])), (18, (D.bool (bif (!r0) then true else (!r1))))], [some (.box (S_api_Mod.d t1))])) rfl (by kernel_rfl) (And.intro (fc_rule_Table fu t0 cr0) (And.intro (And.intro (fun _ _ => (S_api_Rule.inn _)) trivial) (And.intro (fun hg => (And.intro (by first | exact fun h => h | exact fun h => (Bool.and_eq_true_iff.1 h).1 | simp_all) (And.intro (fc_mods_Sound fu t1 (callIf_some cr1 hg)) (And.intro (And.intro (S_api_Mod.inn _) trivial) trivial)))) (And.intro (fun _ => (And.intro (by first | exact fun h => h | exact fun h => (Bool.and_eq_true_iff.1 h).1 | simp_all) trivial)) (And.intro (by first | exact fun h => h | exact fun h => (Bool.and_eq_true_iff.1 h).1 | simp_all) trivial))))) ?_
  refine runs_if (b := (bif (!r0) then true else (!r1))) (by kernel_rfl) (fun hb => ?_) (fun hb => ?_)
  · replace h := ifs_true h hb
    refine runs_regions 1 [([], [6, 7])] (z := ([], [(6, D.nils), (7, (D.int .i64 (2 : Int)))], [some (.box (S_api_Mod.d t1))])) rfl (by kernel_rfl) trivial ?_
    rw [← Option.some.inj h] at hk
    obtain rfl : d = (D.tup (D.cons (S_api_Rule.L 0 (fun _ => S_api_Rule.z)) (D.cons (D.int .i64 (2 : Int)) D.nil))) := hk
    refine runs_nils 6 32 (fun i => (S_api_Rule.d ((fun _ => S_api_Rule.z) i))) (by kernel_rfl) ?_
    exact runs_ret (by kernel_rfl) trivial (Nat.le_refl 0) trivial (And.intro (fun _ _ => (S_api_Rule.inn _)) (And.intro trivial trivial))
  · replace h := ifs_false h hb
    refine runs_regions 1 [([], [0, 2, 4, 21])] (z := ([], [(0, (S_api_Rule.L t0.1 t0.2)), (2, (D.int .i64 t2)), (4, (D.ptr 0 [])), (21, (D.bool (t1.f0 == (1 : Int))))], [some (.box (S_api_Mod.d t1))])) rfl (by kernel_rfl) trivial ?_
    refine runs_if (b := (t1.f0 == (1 : Int))) (by kernel_rfl) (fun hb => ?_) (fun hb => ?_)
    · replace h := ifs_true h hb
      obtain ⟨r2, cr2, h⟩ := Option.bind_eq_some_iff.1 h
      refine runs_regions 1 [([(.d (D.tup (D.cons (S_api_Rule.L r2.1.1 r2.1.2) (D.cons (D.int .i64 r2.2) D.nil))))], [6, 7])] (z := ([FC Tryz.prog 73 [(S_api_Rule.L t0.1 t0.2), (S_api_Mod.d t1), (D.int .i64 t2)] [] (D.tup (D.cons (S_api_Rule.L r2.1.1 r2.1.2) (D.cons (D.int .i64 r2.2) D.nil))) [], All (List.map NoRow [(S_api_Rule.L t0.1 t0.2), (S_api_Mod.d t1), (D.int .i64 t2)])], [(6, (S_api_Rule.L r2.1.1 r2.1.2)), (7, (D.int .i64 r2.2))], [some (.box (S_api_Mod.d t1))])) rfl (by kernel_rfl) (And.intro (fc_mods_add fu t0 t1 t2 cr2) (And.intro (And.intro (fun _ _ => (S_api_Rule.inn _)) (And.intro (S_api_Mod.inn _) (And.intro trivial trivial))) trivial)) ?_
      rw [← Option.some.inj h] at hk
      obtain rfl : d = (D.tup (D.cons (S_api_Rule.L r2.1.1 r2.1.2) (D.cons (D.int .i64 r2.2) D.nil))) := hk
      exact runs_ret (by kernel_rfl) trivial (Nat.le_refl 0) trivial (And.intro (fun _ _ => (S_api_Rule.inn _)) (And.intro trivial trivial))
    · replace h := ifs_false h hb
      obtain ⟨r3, cr3, h⟩ := Option.bind_eq_some_iff.1 h
      refine runs_regions 2 [([(.nil 52 32 (S_api_Rule.A 0 (fun _ => S_api_Rule.z)))], [0, 4, 8]), ([(.d (S_api_Rule.L r3.1 r3.2))], [4, 8, 29, 30, 31])] (z := ([EmptyOk (S_api_Rule.A 0 (fun _ => S_api_Rule.z)), FC Tryz.prog 25 [(S_api_Rule.L t0.1 t0.2)] [] (S_api_Rule.L r3.1 r3.2) [], All (List.map NoRow [(S_api_Rule.L t0.1 t0.2)])], [(4, (D.ptr 0 [])), (8, (D.own 1)), (29, (S_api_Rule.L r3.1 r3.2)), (30, (D.int .i64 ((r3.1 : Nat) : Int))), (31, (D.int .i64 (0 : Int)))], [some (.box (S_api_Mod.d t1)), some (S_api_Rule.Q 52 0 (fun _ => S_api_Rule.z))])) rfl (by kernel_rfl) (And.intro emptyOk_arr (And.intro (fc_rule_Copy fu t0 cr3) (And.intro (And.intro (fun _ _ => (S_api_Rule.inn _)) trivial) trivial))) ?_
      refine runs_to (ts := [4, 8, 29, 30, 31]) (T' := T_mods_Apply_L1) (env' := [(4, (D.ptr 0 [])), (8, (D.own 1)), (29, (S_api_Rule.L r3.1 r3.2)), (30, (D.int .i64 ((r3.1 : Nat) : Int))), (31, (D.int .i64 (0 : Int)))]) (h2 := [some (.box (S_api_Mod.d t1)), some (S_api_Rule.Q 52 0 (fun _ => S_api_Rule.z))]) (by kernel_rfl) (by kernel_rfl) (And.intro (.inr rfl) (And.intro (.inr rfl) trivial)) (Nat.zero_le _) (And.intro (S_api_Mod.inn _) (And.intro (fun _ _ => (S_api_Rule.inn _)) trivial)) (And.intro (bel_of rfl) (And.intro (bel_of rfl) (And.intro (fun _ _ => (S_api_Rule.inn _)) (And.intro trivial (And.intro trivial trivial))))) ?_
      rcases after_some h with ⟨e3, hi, h⟩ | hi
      · refine iter_mods_Apply_L1 fu r3 ((r3.1 : Nat) : Int) t1 fu ((0 : Int), (0, (fun _ => S_api_Rule.z))) hi ?_
        show Runs Tryz.prog Tryz.f51 0 X_mods_Apply_L1T [(8, (D.own 1))] [none, some (S_api_Rule.Q 52 e3.1 e3.2)] d []
        refine runs_regions 1 [([], [6, 7])] (z := ([], [(6, (D.own 1)), (7, (D.int .i64 (0 : Int)))], [none, some (S_api_Rule.Q 52 e3.1 e3.2)])) rfl (by kernel_rfl) trivial ?_
        rw [← Option.some.inj h] at hk
        obtain rfl : d = (D.tup (D.cons (S_api_Rule.L e3.1 e3.2) (D.cons (D.int .i64 (0 : Int)) D.nil))) := hk
        refine runs_freeze 1 (row := (S_api_Rule.Q 52 e3.1 e3.2)) rfl ?_
        exact runs_ret (by kernel_rfl) trivial (Nat.le_refl 0) trivial (And.intro (fun _ _ => (S_api_Rule.inn _)) (And.intro trivial trivial))
      · exact iter_mods_Apply_L1 fu r3 ((r3.1 : Nat) : Int) t1 fu ((0 : Int), (0, (fun _ => S_api_Rule.z))) hi hk

theorem fc_mods_Apply (fu : Nat) (t0 : (Nat × (Nat → S_api_Rule))) (t1 : S_api_Mod) (t2 : Int) {r : ((Nat × (Nat → S_api_Rule)) × Int)} (h : F_mods_Apply fu t0 t1 t2 = some r) : FC Tryz.prog 51 [(S_api_Rule.L t0.1 t0.2), (S_api_Mod.d t1), (D.int .i64 t2)] [] (D.tup (D.cons (S_api_Rule.L r.1.1 r.1.2) (D.cons (D.int .i64 r.2) D.nil))) [] := by
  refine fc_of_runs (fn := Tryz.f51) (c := Tryz.f51.body.getD .skip) (by kernel_rfl) (by kernel_rfl) ?_
  refine runs_to (ts := [0, 1, 2]) (T' := T_mods_Apply) (env' := [(0, (S_api_Rule.L t0.1 t0.2)), (1, (S_api_Mod.d t1)), (2, (D.int .i64 t2))]) (h2 := []) (by kernel_rfl) (by kernel_rfl) trivial (Nat.le_refl _) trivial (And.intro (fun _ _ => (S_api_Rule.inn _)) (And.intro (S_api_Mod.inn _) (And.intro trivial trivial))) ?_
  exact run_mods_Apply fu t0 t1 t2 h rfl

def K_slices_Equal_api_Act (d : D) (r : Bool) : Prop := d = (D.bool r)

noncomputable def T_slices_Equal_api_Act : List Item := norm 200 [.code (Tryz.f123.body.getD .skip)]

noncomputable def T_slices_Equal_api_Act_L1 : List Item := norm 200 (nxt (cndF (nxt (nxt T_slices_Equal_api_Act))))

noncomputable def X_slices_Equal_api_Act_L1T : List Item := norm 200 (cndF (nxt (nxt (cndF (nxt (nxt T_slices_Equal_api_Act))))))

abbrev E_slices_Equal_api_Act_L1 := Unit

def N_slices_Equal_api_Act_L1 (_fu : Nat) (t0 : (Nat × (Nat → S_api_Act))) (t1 : (Nat × (Nat → S_api_Act))) (t12 : Int) (d : D) (s : Int) : Prop := Runs Tryz.prog Tryz.f123 0 T_slices_Equal_api_Act_L1 [(0, (S_api_Act.L t0.1 t0.2)), (1, (S_api_Act.L t1.1 t1.2)), (12, (D.int .i64 t12)), (13, (D.int .i64 s))] [] d []

def X_slices_Equal_api_Act_L1 (_fu : Nat) (_t0 : (Nat × (Nat → S_api_Act))) (_t1 : (Nat × (Nat → S_api_Act))) (_t12 : Int) (d : D) : E_slices_Equal_api_Act_L1 ⊕ Bool → Prop
  | .inl _ => Runs Tryz.prog Tryz.f123 0 X_slices_Equal_api_Act_L1T [] [] d []
  | .inr o => (K_slices_Equal_api_Act d) o

def F_slices_Equal_api_Act_L1 (_fu : Nat) (t0 : (Nat × (Nat → S_api_Act))) (t1 : (Nat × (Nat → S_api_Act))) (t12 : Int) (t13 : Int) : Option (Lo Int E_slices_Equal_api_Act_L1 Bool) :=
  ifs (decide (t13 < t12)) (
    chk (0 ≤ t13 ∧ t13 < ((t0.1 : Nat) : Int)) <|
    chk (0 ≤ t13 ∧ t13 < ((t1.1 : Nat) : Int)) <|
    ifs (!(((t0.2 t13.toNat).f0 == (t1.2 t13.toNat).f0) && (((t0.2 t13.toNat).f1 == (t1.2 t13.toNat).f1) && (((t0.2 t13.toNat).f2 == (t1.2 t13.toNat).f2) && (((t0.2 t13.toNat).f3 == (t1.2 t13.toNat).f3) && true))))) (
      some (.ret false)) (
      some (.next (IntKind.wrap .i64 (t13 + (1 : Int)))))) (
    some (.exit ()))

theorem run_slices_Equal_api_Act_L1 (fu : Nat) (t0 : (Nat × (Nat → S_api_Act))) (t1 : (Nat × (Nat → S_api_Act))) (t12 : Int) (t13 : Int) {d : D} {o : (Lo Int E_slices_Equal_api_Act_L1 Bool)} (h : F_slices_Equal_api_Act_L1 fu t0 t1 t12 t13 = some o) (hk : (Lo.post (N_slices_Equal_api_Act_L1 fu t0 t1 t12 d) (X_slices_Equal_api_Act_L1 fu t0 t1 t12 d)) o) : Runs Tryz.prog Tryz.f123 0 T_slices_Equal_api_Act_L1 [(0, (S_api_Act.L t0.1 t0.2)), (1, (S_api_Act.L t1.1 t1.2)), (12, (D.int .i64 t12)), (13, (D.int .i64 t13))] [] d [] := by
  unfold F_slices_Equal_api_Act_L1 at h
  refine runs_regions 1 [([], [0, 1, 12, 13, 14])] (z := ([], [(0, (S_api_Act.L t0.1 t0.2)), (1, (S_api_Act.L t1.1 t1.2)), (12, (D.int .i64 t12)), (13, (D.int .i64 t13)), (14, (D.bool (decide (t13 < t12))))], [])) rfl (by kernel_rfl) trivial ?_
  refine runs_if (b := (decide (t13 < t12))) (by kernel_rfl) (fun hb => ?_) (fun hb => ?_)
  · replace h := ifs_true h hb
    obtain ⟨p0, h⟩ := chk_some h
    obtain ⟨p1, h⟩ := chk_some h
    refine runs_regions 2 [([], [0, 1, 5, 12, 13]), ([], [0, 1, 12, 13, 24])] (z := ([(0 ≤ t13 ∧ t13 < ((t0.1 : Nat) : Int)), (0 ≤ t13 ∧ t13 < ((t1.1 : Nat) : Int))], [(0, (S_api_Act.L t0.1 t0.2)), (1, (S_api_Act.L t1.1 t1.2)), (12, (D.int .i64 t12)), (13, (D.int .i64 t13)), (24, (D.bool (!(((t0.2 t13.toNat).f0 == (t1.2 t13.toNat).f0) && (((t0.2 t13.toNat).f1 == (t1.2 t13.toNat).f1) && (((t0.2 t13.toNat).f2 == (t1.2 t13.toNat).f2) && (((t0.2 t13.toNat).f3 == (t1.2 t13.toNat).f3) && true)))))))], [])) rfl (by kernel_rfl) (And.intro p0 (And.intro p1 trivial)) ?_
    refine runs_if (b := (!(((t0.2 t13.toNat).f0 == (t1.2 t13.toNat).f0) && (((t0.2 t13.toNat).f1 == (t1.2 t13.toNat).f1) && (((t0.2 t13.toNat).f2 == (t1.2 t13.toNat).f2) && (((t0.2 t13.toNat).f3 == (t1.2 t13.toNat).f3) && true)))))) (by kernel_rfl) (fun hb => ?_) (fun hb => ?_)
    · replace h := ifs_true h hb
      refine runs_regions 1 [([], [4])] (z := ([], [(4, (D.bool false))], [])) rfl (by kernel_rfl) trivial ?_
      rw [← Option.some.inj h] at hk
      obtain rfl : d = (D.bool false) := hk
      exact runs_ret (by kernel_rfl) trivial (Nat.le_refl 0) trivial trivial
    · replace h := ifs_false h hb
      refine runs_regions 1 [([], [0, 1, 12, 13])] (z := ([], [(0, (S_api_Act.L t0.1 t0.2)), (1, (S_api_Act.L t1.1 t1.2)), (12, (D.int .i64 t12)), (13, (D.int .i64 (IntKind.wrap .i64 (t13 + (1 : Int)))))], [])) rfl (by kernel_rfl) trivial ?_
      rw [← Option.some.inj h] at hk
      refine runs_to (ts := [0, 1, 12, 13]) (T' := T_slices_Equal_api_Act_L1) (env' := [(0, (S_api_Act.L t0.1 t0.2)), (1, (S_api_Act.L t1.1 t1.2)), (12, (D.int .i64 t12)), (13, (D.int .i64 (IntKind.wrap .i64 (t13 + (1 : Int)))))]) (h2 := []) (by kernel_rfl) (by kernel_rfl) trivial (Nat.zero_le _) trivial (And.intro (fun _ _ => (S_api_Act.inn _)) (And.intro (fun _ _ => (S_api_Act.inn _)) (And.intro trivial (And.intro trivial trivial)))) ?_
      exact hk
  · replace h := ifs_false h hb
    rw [← Option.some.inj h] at hk
    refine runs_to (ts := []) (T' := X_slices_Equal_api_Act_L1T) (env' := []) (h2 := []) (by kernel_rfl) (by kernel_rfl) trivial (Nat.zero_le _) trivial trivial ?_
    exact hk

theorem iter_slices_Equal_api_Act_L1 (fu : Nat) (t0 : (Nat × (Nat → S_api_Act))) (t1 : (Nat × (Nat → S_api_Act))) (t12 : Int) {d : D} (k : Nat) (s : Int) {o : E_slices_Equal_api_Act_L1 ⊕ Bool} (h : iter (fun s => F_slices_Equal_api_Act_L1 fu t0 t1 t12 s) k s = some o) (hx : X_slices_Equal_api_Act_L1 fu t0 t1 t12 d o) : N_slices_Equal_api_Act_L1 fu t0 t1 t12 d s :=
  iter_post (K := N_slices_Equal_api_Act_L1 fu t0 t1 t12 d) (X := X_slices_Equal_api_Act_L1 fu t0 t1 t12 d) (fun s _ h hk => run_slices_Equal_api_Act_L1 fu t0 t1 t12 s h hk) k s o h hx

/-- slices.Equal[[]podesta/api.Act,podesta/api.Act] -/
def F_slices_Equal_api_Act (fu : Nat) (t0 : (Nat × (Nat → S_api_Act))) (t1 : (Nat × (Nat → S_api_Act))) : Option Bool :=
  ifs (((t0.1 : Nat) : Int) != ((t1.1 : Nat) : Int)) (
    some false) (
    after (iter (fun s => F_slices_Equal_api_Act_L1 fu t0 t1 ((t0.1 : Nat) : Int) s) fu (0 : Int)) fun _ =>
    some true)

theorem run_slices_Equal_api_Act (fu : Nat) (t0 : (Nat × (Nat → S_api_Act))) (t1 : (Nat × (Nat → S_api_Act))) {d : D} {r : Bool} (h : F_slices_Equal_api_Act fu t0 t1 = some r) (hk : (K_slices_Equal_api_Act d) r) : Runs Tryz.prog Tryz.f123 0 T_slices_Equal_api_Act [(0, (S_api_Act.L t0.1 t0.2)), (1, (S_api_Act.L t1.1 t1.2))] [] d [] := by
  unfold F_slices_Equal_api_Act at h
  refine runs_regions 2 [([], [0, 1]), ([], [0, 1, 10])] (z := ([], [(0, (S_api_Act.L t0.1 t0.2)), (1, (S_api_Act.L t1.1 t1.2)), (10, (D.bool (((t0.1 : Nat) : Int) != ((t1.1 : Nat) : Int))))], [])) rfl (by kernel_rfl) trivial ?_
  refine runs_if (b := (((t0.1 : Nat) : Int) != ((t1.1 : Nat) : Int))) (by kernel_rfl) (fun hb => ?_) (fun hb => ?_)
  · replace h := ifs_true h hb
    refine runs_regions 1 [([], [4])] (z := ([], [(4, (D.bool false))], [])) rfl (by kernel_rfl) trivial ?_
    rw [← Option.some.inj h] at hk
    obtain rfl : d = (D.bool false) := hk
    exact runs_ret (by kernel_rfl) trivial (Nat.le_refl 0) trivial trivial
  · replace h := ifs_false h hb
    refine runs_regions 1 [([], [0, 1, 12, 13])] (z := ([], [(0, (S_api_Act.L t0.1 t0.2)), (1, (S_api_Act.L t1.1 t1.2)), (12, (D.int .i64 ((t0.1 : Nat) : Int))), (13, (D.int .i64 (0 : Int)))], [])) rfl (by kernel_rfl) trivial ?_
    refine runs_to (ts := [0, 1, 12, 13]) (T' := T_slices_Equal_api_Act_L1) (env' := [(0, (S_api_Act.L t0.1 t0.2)), (1, (S_api_Act.L t1.1 t1.2)), (12, (D.int .i64 ((t0.1 : Nat) : Int))), (13, (D.int .i64 (0 : Int)))]) (h2 := []) (by kernel_rfl) (by kernel_rfl) trivial (Nat.zero_le _) trivial (And.intro (fun _ _ => (S_api_Act.inn _)) (And.intro (fun _ _ => (S_api_Act.inn _)) (And.intro trivial (And.intro trivial trivial)))) ?_
    rcases after_some h with ⟨e3, hi, h⟩ | hi
    · refine iter_slices_Equal_api_Act_L1 fu t0 t1 ((t0.1 : Nat) : Int) fu (0 : Int) hi ?_
      show Runs Tryz.prog Tryz.f123 0 X_slices_Equal_api_Act_L1T [] [] d []
      refine runs_regions 1 [([], [4])] (z := ([], [(4, (D.bool true))], [])) rfl (by kernel_rfl) trivial ?_
      rw [← Option.some.inj h] at hk
      obtain rfl : d = (D.bool true) := hk
      exact runs_ret (by kernel_rfl) trivial (Nat.le_refl 0) trivial trivial
    · exact iter_slices_Equal_api_Act_L1 fu t0 t1 ((t0.1 : Nat) : Int) fu (0 : Int) hi hk

theorem fc_slices_Equal_api_Act (fu : Nat) (t0 : (Nat × (Nat → S_api_Act))) (t1 : (Nat × (Nat → S_api_Act))) {r : Bool} (h : F_slices_Equal_api_Act fu t0 t1 = some r) : FC Tryz.prog 123 [(S_api_Act.L t0.1 t0.2), (S_api_Act.L t1.1 t1.2)] [] (D.bool r) [] := by
  refine fc_of_runs (fn := Tryz.f123) (c := Tryz.f123.body.getD .skip) (by kernel_rfl) (by kernel_rfl) ?_
  refine runs_to (ts := [0, 1]) (T' := T_slices_Equal_api_Act) (env' := [(0, (S_api_Act.L t0.1 t0.2)), (1, (S_api_Act.L t1.1 t1.2))]) (h2 := []) (by kernel_rfl) (by kernel_rfl) trivial (Nat.le_refl _) trivial (And.intro (fun _ _ => (S_api_Act.inn _)) (And.intro (fun _ _ => (S_api_Act.inn _)) trivial)) ?_
  exact run_slices_Equal_api_Act fu t0 t1 h rfl

def K_act_Same (d : D) (r : Bool) : Prop := d = (D.bool r)

noncomputable def T_act_Same : List Item := norm 200 [.code (Tryz.f115.body.getD .skip)]

/-- podesta/act.Same -/
def F_act_Same (fu : Nat) (t0 : (Nat × (Nat → S_api_Act))) (t1 : (Nat × (Nat → S_api_Act))) : Option Bool :=
  (F_slices_Equal_api_Act fu t0 t1).bind fun r0 =>
  some r0

theorem run_act_Same (fu : Nat) (t0 : (Nat × (Nat → S_api_Act))) (t1 : (Nat × (Nat → S_api_Act))) {d : D} {r : Bool} (h : F_act_Same fu t0 t1 = some r) (hk : (K_act_Same d) r) : Runs Tryz.prog Tryz.f115 0 T_act_Same [(0, (S_api_Act.L t0.1 t0.2)), (1, (S_api_Act.L t1.1 t1.2))] [] d [] := by
  unfold F_act_Same at h
  obtain ⟨r0, cr0, h⟩ := Option.bind_eq_some_iff.1 h
  refine runs_regions 2 [([], [0, 1]), ([(.d (D.bool r0))], [4])] (z := ([FC Tryz.prog 123 [(S_api_Act.L t0.1 t0.2), (S_api_Act.L t1.1 t1.2)] [] (D.bool r0) [], All (List.map NoRow [(S_api_Act.L t0.1 t0.2), (S_api_Act.L t1.1 t1.2)])], [(4, (D.bool r0))], [])) rfl (by kernel_rfl) (And.intro (fc_slices_Equal_api_Act fu t0 t1 cr0) (And.intro (And.intro (fun _ _ => (S_api_Act.inn _)) (And.intro (fun _ _ => (S_api_Act.inn _)) trivial)) trivial)) ?_
  rw [← Option.some.inj h] at hk
  obtain rfl : d = (D.bool r0) := hk
  exact runs_ret (by kernel_rfl) trivial (Nat.le_refl 0) trivial trivial

theorem fc_act_Same (fu : Nat) (t0 : (Nat × (Nat → S_api_Act))) (t1 : (Nat × (Nat → S_api_Act))) {r : Bool} (h : F_act_Same fu t0 t1 = some r) : FC Tryz.prog 115 [(S_api_Act.L t0.1 t0.2), (S_api_Act.L t1.1 t1.2)] [] (D.bool r) [] := by
  refine fc_of_runs (fn := Tryz.f115) (c := Tryz.f115.body.getD .skip) (by kernel_rfl) (by kernel_rfl) ?_
  refine runs_to (ts := [0, 1]) (T' := T_act_Same) (env' := [(0, (S_api_Act.L t0.1 t0.2)), (1, (S_api_Act.L t1.1 t1.2))]) (h2 := []) (by kernel_rfl) (by kernel_rfl) trivial (Nat.le_refl _) trivial (And.intro (fun _ _ => (S_api_Act.inn _)) (And.intro (fun _ _ => (S_api_Act.inn _)) trivial)) ?_
  exact run_act_Same fu t0 t1 h rfl

def K_rule_Equal (d : D) (r : Bool) : Prop := d = (D.bool r)

noncomputable def T_rule_Equal : List Item := norm 200 [.code (Tryz.f101.body.getD .skip)]

/-- podesta/rule.Equal -/
def F_rule_Equal (fu : Nat) (t0 : S_api_Rule) (t1 : S_api_Rule) : Option Bool :=
  (F_act_Same fu t0.f2 t1.f2).bind fun r0 =>
  (callIf r0 (F_rule_Key (S_api_Rule.mk t0.f0 t0.f1 ((0, fun _ => S_api_Act.z) : (Nat × (Nat → S_api_Act))) t0.f3 t0.f4 t0.f5 t0.f6 t0.f7 t0.f8) (S_api_Rule.mk t1.f0 t1.f1 ((0, fun _ => S_api_Act.z) : (Nat × (Nat → S_api_Act))) t1.f3 t1.f4 t1.f5 t1.f6 t1.f7 t1.f8)) false).bind fun r1 =>
  some (bif (bif (bif (bif (bif (bif (bif r0 then r1 else false) then (t0.f3 == t1.f3) else false) then (t0.f4 == t1.f4) else false) then (t0.f5 == t1.f5) else false) then (t0.f6 == t1.f6) else false) then (t0.f7 == t1.f7) else false) then (t0.f8 == t1.f8) else false)

end Go.Proofs.YtbggcjkpjmnbaaaGreat
