/- slices.Sort of numbers, slices.Clone of actions; slices.SortFunc of regions beside. -/
import Derived.Test.YtffkolbogcpjjaaRhSort
import Derived.Test.YtffkolbogcpjjaaPodW
import Derived.Test.YtffkolbogcpjjaaFnA
namespace Go.Proofs.Ytffkolbogcpjjaa
open Go Go.Pod Go.Proofs Go.Sort Go.Shelf

def F_slices_Sort_i64 (t0 : Nat × (Nat → Int)) : Option (Nat × (Nat → Int)) :=
  chk (t0.1 < 4611686018427387904) <| some (t0.1, fun i => (srtI t0.1 t0.2).getD i 0)

theorem fc_slices_Sort_i64 (t0 : Nat × (Nat → Int)) {r : Nat × (Nat → Int)} (h : F_slices_Sort_i64 t0 = some r) :
    FC Try.prog 48 [(D.own 0)] [some (.seq 3 t0.1 1 (D.ints .i64 t0.1 t0.2))] (D.tup D.nil) [some (.seq 3 r.1 1 (D.ints .i64 r.1 r.2))] := by
  obtain ⟨p, h⟩ := chk_some h
  cases h
  exact fc_sort_i64 Try.lays189 3 t0.1 t0.2 p

/-! ### slices.Clone of api_Act -/

noncomputable def T_slices_Clone_api_Act : List Item := norm 200 [.code (Try.f47.body.getD .skip)]
def zapi_Act : S_api_Act := S_api_Act.z

def F_slices_Clone_api_Act (t0 : (Nat × (Nat → S_api_Act))) : Option (Nat × (Nat → S_api_Act)) := chk (RoomOk (0 + t0.1) 32) <| some t0

theorem row_eq_api_Act (n : Nat) (f g : Nat → S_api_Act) : ([some (.seq 79 (0 + n) 4 (D.arr (0 + n) 4 (fun i => S_api_Act.d ((fun i => if i < 0 then g i else f (i - 0)) i))))] : Heap) = [some (.seq 79 n 4 (D.arr n 4 fun i => S_api_Act.d (f i)))] := by
  simp

theorem run_slices_Clone_api_Act (n : Nat) (f : Nat → S_api_Act) (p : RoomOk (0 + n) 32) : Runs Try.prog Try.f47 0 T_slices_Clone_api_Act [(0, (D.lit n 4 fun i => (S_api_Act.d (f i))))] [] (D.own 0) [some (.seq 79 n 4 (D.arr n 4 fun i => S_api_Act.d (f i)))] := by
  refine runs_nilsplit 0 rfl (fun hm => ?_) ?_
  · subst hm
    refine runs_regions 2 [([], [0]), ([], [4])] (z := ([], [(4, (D.bool true))], [])) rfl (by kernel_rfl) trivial ?_
    refine runs_if (b := true) (by kernel_rfl) (fun hb => ?_) (fun hb => by cases hb)
    refine runs_regions 1 [([(.nil 79 4 (D.arr 0 4 fun i => S_api_Act.d (f i)))], [2])] (z := ([EmptyOk (D.arr 0 4 fun i => S_api_Act.d (f i))], [(2, (D.own 0))], [some (.seq 79 0 4 (D.arr 0 4 fun i => S_api_Act.d (f i)))])) rfl (by kernel_rfl) (And.intro emptyOk_arr trivial) ?_
    exact runs_ret (h2 := [some (.seq 79 0 4 (D.arr 0 4 fun i => S_api_Act.d (f i)))]) (by kernel_rfl) (And.intro (.inr rfl) trivial) (Nat.zero_le _) (And.intro (fun _ _ => S_api_Act.inn _) trivial) (bel_of rfl)
  · refine runs_regions 2 [([], [0]), ([], [0, 4])] (z := ([], [(0, (D.nn (D.lit n 4 fun i => (S_api_Act.d (f i))))), (4, (D.bool false))], [])) rfl (by kernel_rfl) trivial ?_
    refine runs_if (b := false) (by kernel_rfl) (fun hb => by cases hb) (fun hb => ?_)
    refine runs_nn 0 rfl ?_
    rw [← row_eq_api_Act n f (fun i => ([] : List S_api_Act).getD i zapi_Act)]
    refine runs_regions 1 [([(.own (D.arr 0 4 fun i => S_api_Act.d ((fun i => ([] : List S_api_Act).getD i zapi_Act) i))), (.d (D.arr (0 + n) 4 fun i => S_api_Act.d ((fun i => if i < 0 then (fun i => ([] : List S_api_Act).getD i zapi_Act) i else f (i - 0)) i)))], [2])] (z := ([TabOk [] 4 (D.arr 0 4 fun i => S_api_Act.d ((fun i => ([] : List S_api_Act).getD i zapi_Act) i)), RoomOk (0 + n) 32, CatOk (D.arr 0 4 fun i => S_api_Act.d ((fun i => ([] : List S_api_Act).getD i zapi_Act) i)) (D.arr n 4 fun i => (S_api_Act.d (f i))) (D.arr (0 + n) 4 fun i => S_api_Act.d ((fun i => if i < 0 then (fun i => ([] : List S_api_Act).getD i zapi_Act) i else f (i - 0)) i))], [(2, (D.own 1))], [none, some (.seq 79 (0 + n) 4 (D.arr (0 + n) 4 fun i => S_api_Act.d ((fun i => if i < 0 then (fun i => ([] : List S_api_Act).getD i zapi_Act) i else f (i - 0)) i)))])) rfl (by kernel_rfl) (And.intro (tabOk_arr rfl trivial) (And.intro p (And.intro (catOk_arr' rfl fun i => (d_ite (f := fun x : S_api_Act => (S_api_Act.d x)) rfl rfl).symm) trivial))) ?_
    refine runs_rename 0 1 (by decide) (Nat.zero_le _) rfl rfl (And.intro (fun _ _ => S_api_Act.rnk _) trivial) (And.intro (rn_own rfl) trivial) ?_
    exact runs_ret (h2 := [some (.seq 79 (0 + n) 4 (D.arr (0 + n) 4 fun i => S_api_Act.d ((fun i => if i < 0 then (fun i => ([] : List S_api_Act).getD i zapi_Act) i else f (i - 0)) i)))]) (by kernel_rfl) (And.intro (.inr rfl) trivial) (Nat.zero_le _) (And.intro (fun _ _ => S_api_Act.inn _) trivial) (bel_of rfl)

theorem fc_slices_Clone_api_Act (t0 : (Nat × (Nat → S_api_Act))) {r : (Nat × (Nat → S_api_Act))} (h : F_slices_Clone_api_Act t0 = some r) : FC Try.prog 47 [(D.lit t0.1 4 fun i => (S_api_Act.d (t0.2 i)))] [] (D.own 0) [some (.seq 79 r.1 4 (D.arr r.1 4 fun i => S_api_Act.d (r.2 i)))] := by
  obtain ⟨p, h⟩ := chk_some h
  cases h
  refine fc_of_runs (fn := Try.f47) (c := Try.f47.body.getD .skip) (by kernel_rfl) (by kernel_rfl) ?_
  refine runs_to (ts := [0]) (T' := T_slices_Clone_api_Act) (env' := [(0, (D.lit t0.1 4 fun i => (S_api_Act.d (t0.2 i))))]) (h2 := []) (by kernel_rfl) (by kernel_rfl) trivial (Nat.le_refl 0) trivial (And.intro (fun _ _ => S_api_Act.inn _) trivial) ?_
  exact run_slices_Clone_api_Act t0.1 t0.2 p


end Go.Proofs.Ytffkolbogcpjjaa
