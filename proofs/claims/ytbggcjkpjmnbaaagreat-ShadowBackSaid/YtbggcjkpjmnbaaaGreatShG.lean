/- slices.Sort of numbers, slices.Clone, slices.Clip of rows, slices.Insert: contracts at this program's elements. -/
import Derived.Test.YtbggcjkpjmnbaaaGreatFnA
import Derived.Test.YtbggcjkpjmnbaaaGreatPodW
import Derived.Test.YtbggcjkpjmnbaaaGreatShShelf
import Derived.Test.YtbggcjkpjmnbaaaGreatSlIns
namespace Go.Proofs.YtbggcjkpjmnbaaaGreat
open Go Go.Pod Go.Proofs Go.Sort Go.Shelf

def F_slices_Sort_i64 (t0 : Nat × (Nat → Int)) : Option (Nat × (Nat → Int)) :=
  chk (t0.1 < 4611686018427387904) <| some (t0.1, fun i => (srtI t0.1 t0.2).getD i 0)

theorem fc_slices_Sort_i64 (t0 : Nat × (Nat → Int)) {r : Nat × (Nat → Int)} (h : F_slices_Sort_i64 t0 = some r) :
    FC Tryz.prog 28 [(D.own 0)] [some (.seq 3 t0.1 1 (D.ints .i64 t0.1 t0.2))] (D.tup D.nil) [some (.seq 3 r.1 1 (D.ints .i64 r.1 r.2))] := by
  obtain ⟨p, h⟩ := chk_some h
  cases h
  exact fc_sort_i64 Tryz.lays189 3 t0.1 t0.2 p

/-! ### slices.Clone of api_Act -/

noncomputable def T_slices_Clone_api_Act : List Item := norm 200 [.code (Tryz.f39.body.getD .skip)]
def zapi_Act : S_api_Act := S_api_Act.z

def F_slices_Clone_api_Act (t0 : (Nat × (Nat → S_api_Act))) : Option (Nat × (Nat → S_api_Act)) := chk (RoomOk (0 + t0.1) 32) <| some t0

theorem row_eq_api_Act (n : Nat) (f g : Nat → S_api_Act) : ([some (.seq 94 (0 + n) 4 (D.arr (0 + n) 4 (fun i => S_api_Act.d ((fun i => if i < 0 then g i else f (i - 0)) i))))] : Heap) = [some (.seq 94 n 4 (D.arr n 4 fun i => S_api_Act.d (f i)))] := by
  simp

theorem run_slices_Clone_api_Act (n : Nat) (f : Nat → S_api_Act) (p : RoomOk (0 + n) 32) : Runs Tryz.prog Tryz.f39 0 T_slices_Clone_api_Act [(0, (D.lit n 4 fun i => (S_api_Act.d (f i))))] [] (D.own 0) [some (.seq 94 n 4 (D.arr n 4 fun i => S_api_Act.d (f i)))] := by
  refine runs_nilsplit 0 rfl (fun hm => ?_) ?_
  · subst hm
    refine runs_regions 2 [([], [0]), ([], [4])] (z := ([], [(4, (D.bool true))], [])) rfl (by kernel_rfl) trivial ?_
    refine runs_if (b := true) (by kernel_rfl) (fun hb => ?_) (fun hb => by cases hb)
    refine runs_regions 1 [([(.nil 94 4 (D.arr 0 4 fun i => S_api_Act.d (f i)))], [2])] (z := ([EmptyOk (D.arr 0 4 fun i => S_api_Act.d (f i))], [(2, (D.own 0))], [some (.seq 94 0 4 (D.arr 0 4 fun i => S_api_Act.d (f i)))])) rfl (by kernel_rfl) (And.intro emptyOk_arr trivial) ?_
    exact runs_ret (h2 := [some (.seq 94 0 4 (D.arr 0 4 fun i => S_api_Act.d (f i)))]) (by kernel_rfl) (And.intro (.inr rfl) trivial) (Nat.zero_le _) (And.intro (fun _ _ => S_api_Act.inn _) trivial) (bel_of rfl)
  · refine runs_regions 2 [([], [0]), ([], [0, 4])] (z := ([], [(0, (D.nn (D.lit n 4 fun i => (S_api_Act.d (f i))))), (4, (D.bool false))], [])) rfl (by kernel_rfl) trivial ?_
    refine runs_if (b := false) (by kernel_rfl) (fun hb => by cases hb) (fun hb => ?_)
    refine runs_nn 0 rfl ?_
    rw [← row_eq_api_Act n f (fun i => ([] : List S_api_Act).getD i zapi_Act)]
    refine runs_regions 1 [([(.own (D.arr 0 4 fun i => S_api_Act.d ((fun i => ([] : List S_api_Act).getD i zapi_Act) i))), (.d (D.arr (0 + n) 4 fun i => S_api_Act.d ((fun i => if i < 0 then (fun i => ([] : List S_api_Act).getD i zapi_Act) i else f (i - 0)) i)))], [2])] (z := ([TabOk [] 4 (D.arr 0 4 fun i => S_api_Act.d ((fun i => ([] : List S_api_Act).getD i zapi_Act) i)), RoomOk (0 + n) 32, CatOk (D.arr 0 4 fun i => S_api_Act.d ((fun i => ([] : List S_api_Act).getD i zapi_Act) i)) (D.arr n 4 fun i => (S_api_Act.d (f i))) (D.arr (0 + n) 4 fun i => S_api_Act.d ((fun i => if i < 0 then (fun i => ([] : List S_api_Act).getD i zapi_Act) i else f (i - 0)) i))], [(2, (D.own 1))], [none, some (.seq 94 (0 + n) 4 (D.arr (0 + n) 4 fun i => S_api_Act.d ((fun i => if i < 0 then (fun i => ([] : List S_api_Act).getD i zapi_Act) i else f (i - 0)) i)))])) rfl (by kernel_rfl) (And.intro (tabOk_arr rfl trivial) (And.intro p (And.intro (catOk_arr' rfl fun i => (d_ite (f := fun x : S_api_Act => (S_api_Act.d x)) rfl rfl).symm) trivial))) ?_
    refine runs_rename 0 1 (by decide) (Nat.zero_le _) rfl rfl (And.intro (fun _ _ => S_api_Act.rnk _) trivial) (And.intro (rn_own rfl) trivial) ?_
    exact runs_ret (h2 := [some (.seq 94 (0 + n) 4 (D.arr (0 + n) 4 fun i => S_api_Act.d ((fun i => if i < 0 then (fun i => ([] : List S_api_Act).getD i zapi_Act) i else f (i - 0)) i)))]) (by kernel_rfl) (And.intro (.inr rfl) trivial) (Nat.zero_le _) (And.intro (fun _ _ => S_api_Act.inn _) trivial) (bel_of rfl)

theorem fc_slices_Clone_api_Act (t0 : (Nat × (Nat → S_api_Act))) {r : (Nat × (Nat → S_api_Act))} (h : F_slices_Clone_api_Act t0 = some r) : FC Tryz.prog 39 [(D.lit t0.1 4 fun i => (S_api_Act.d (t0.2 i)))] [] (D.own 0) [some (.seq 94 r.1 4 (D.arr r.1 4 fun i => S_api_Act.d (r.2 i)))] := by
  obtain ⟨p, h⟩ := chk_some h
  cases h
  refine fc_of_runs (fn := Tryz.f39) (c := Tryz.f39.body.getD .skip) (by kernel_rfl) (by kernel_rfl) ?_
  refine runs_to (ts := [0]) (T' := T_slices_Clone_api_Act) (env' := [(0, (D.lit t0.1 4 fun i => (S_api_Act.d (t0.2 i))))]) (h2 := []) (by kernel_rfl) (by kernel_rfl) trivial (Nat.le_refl 0) trivial (And.intro (fun _ _ => S_api_Act.inn _) trivial) ?_
  exact run_slices_Clone_api_Act t0.1 t0.2 p

theorem fcl_slices_Clone_api_Act (t0 : (Nat × (Nat → S_api_Act))) {r : (Nat × (Nat → S_api_Act))} (h : F_slices_Clone_api_Act t0 = some r) : FC Tryz.prog 39 [(D.lit t0.1 4 fun i => (S_api_Act.d (t0.2 i)))] [] (D.lit r.1 4 fun i => (S_api_Act.d (r.2 i))) [] :=
  fc_lit (fun _ _ => S_api_Act.inn _) (fc_slices_Clone_api_Act t0 h)


/-! ### slices.Clone of api_Change -/

noncomputable def T_slices_Clone_api_Change : List Item := norm 200 [.code (Tryz.f22.body.getD .skip)]
def zapi_Change : S_api_Change := S_api_Change.z

def F_slices_Clone_api_Change (t0 : (Nat × (Nat → S_api_Change))) : Option (Nat × (Nat → S_api_Change)) := chk (RoomOk (0 + t0.1) 272) <| some t0

theorem row_eq_api_Change (n : Nat) (f g : Nat → S_api_Change) : ([some (.seq 60 (0 + n) 32 (D.arr (0 + n) 32 (fun i => S_api_Change.d ((fun i => if i < 0 then g i else f (i - 0)) i))))] : Heap) = [some (.seq 60 n 32 (D.arr n 32 fun i => S_api_Change.d (f i)))] := by
  simp

theorem run_slices_Clone_api_Change (n : Nat) (f : Nat → S_api_Change) (p : RoomOk (0 + n) 272) : Runs Tryz.prog Tryz.f22 0 T_slices_Clone_api_Change [(0, (D.lit n 32 fun i => (S_api_Change.d (f i))))] [] (D.own 0) [some (.seq 60 n 32 (D.arr n 32 fun i => S_api_Change.d (f i)))] := by
  refine runs_nilsplit 0 rfl (fun hm => ?_) ?_
  · subst hm
    refine runs_regions 2 [([], [0]), ([], [4])] (z := ([], [(4, (D.bool true))], [])) rfl (by kernel_rfl) trivial ?_
    refine runs_if (b := true) (by kernel_rfl) (fun hb => ?_) (fun hb => by cases hb)
    refine runs_regions 1 [([(.nil 60 32 (D.arr 0 32 fun i => S_api_Change.d (f i)))], [2])] (z := ([EmptyOk (D.arr 0 32 fun i => S_api_Change.d (f i))], [(2, (D.own 0))], [some (.seq 60 0 32 (D.arr 0 32 fun i => S_api_Change.d (f i)))])) rfl (by kernel_rfl) (And.intro emptyOk_arr trivial) ?_
    exact runs_ret (h2 := [some (.seq 60 0 32 (D.arr 0 32 fun i => S_api_Change.d (f i)))]) (by kernel_rfl) (And.intro (.inr rfl) trivial) (Nat.zero_le _) (And.intro (fun _ _ => S_api_Change.inn _) trivial) (bel_of rfl)
  · refine runs_regions 2 [([], [0]), ([], [0, 4])] (z := ([], [(0, (D.nn (D.lit n 32 fun i => (S_api_Change.d (f i))))), (4, (D.bool false))], [])) rfl (by kernel_rfl) trivial ?_
    refine runs_if (b := false) (by kernel_rfl) (fun hb => by cases hb) (fun hb => ?_)
    refine runs_nn 0 rfl ?_
    rw [← row_eq_api_Change n f (fun i => ([] : List S_api_Change).getD i zapi_Change)]
    refine runs_regions 1 [([(.own (D.arr 0 32 fun i => S_api_Change.d ((fun i => ([] : List S_api_Change).getD i zapi_Change) i))), (.d (D.arr (0 + n) 32 fun i => S_api_Change.d ((fun i => if i < 0 then (fun i => ([] : List S_api_Change).getD i zapi_Change) i else f (i - 0)) i)))], [2])] (z := ([TabOk [] 32 (D.arr 0 32 fun i => S_api_Change.d ((fun i => ([] : List S_api_Change).getD i zapi_Change) i)), RoomOk (0 + n) 272, CatOk (D.arr 0 32 fun i => S_api_Change.d ((fun i => ([] : List S_api_Change).getD i zapi_Change) i)) (D.arr n 32 fun i => (S_api_Change.d (f i))) (D.arr (0 + n) 32 fun i => S_api_Change.d ((fun i => if i < 0 then (fun i => ([] : List S_api_Change).getD i zapi_Change) i else f (i - 0)) i))], [(2, (D.own 1))], [none, some (.seq 60 (0 + n) 32 (D.arr (0 + n) 32 fun i => S_api_Change.d ((fun i => if i < 0 then (fun i => ([] : List S_api_Change).getD i zapi_Change) i else f (i - 0)) i)))])) rfl (by kernel_rfl) (And.intro (tabOk_arr rfl trivial) (And.intro p (And.intro (catOk_arr' rfl fun i => (d_ite (f := fun x : S_api_Change => (S_api_Change.d x)) rfl rfl).symm) trivial))) ?_
    refine runs_rename 0 1 (by decide) (Nat.zero_le _) rfl rfl (And.intro (fun _ _ => S_api_Change.rnk _) trivial) (And.intro (rn_own rfl) trivial) ?_
    exact runs_ret (h2 := [some (.seq 60 (0 + n) 32 (D.arr (0 + n) 32 fun i => S_api_Change.d ((fun i => if i < 0 then (fun i => ([] : List S_api_Change).getD i zapi_Change) i else f (i - 0)) i)))]) (by kernel_rfl) (And.intro (.inr rfl) trivial) (Nat.zero_le _) (And.intro (fun _ _ => S_api_Change.inn _) trivial) (bel_of rfl)

theorem fc_slices_Clone_api_Change (t0 : (Nat × (Nat → S_api_Change))) {r : (Nat × (Nat → S_api_Change))} (h : F_slices_Clone_api_Change t0 = some r) : FC Tryz.prog 22 [(D.lit t0.1 32 fun i => (S_api_Change.d (t0.2 i)))] [] (D.own 0) [some (.seq 60 r.1 32 (D.arr r.1 32 fun i => S_api_Change.d (r.2 i)))] := by
  obtain ⟨p, h⟩ := chk_some h
  cases h
  refine fc_of_runs (fn := Tryz.f22) (c := Tryz.f22.body.getD .skip) (by kernel_rfl) (by kernel_rfl) ?_
  refine runs_to (ts := [0]) (T' := T_slices_Clone_api_Change) (env' := [(0, (D.lit t0.1 32 fun i => (S_api_Change.d (t0.2 i))))]) (h2 := []) (by kernel_rfl) (by kernel_rfl) trivial (Nat.le_refl 0) trivial (And.intro (fun _ _ => S_api_Change.inn _) trivial) ?_
  exact run_slices_Clone_api_Change t0.1 t0.2 p

theorem fcl_slices_Clone_api_Change (t0 : (Nat × (Nat → S_api_Change))) {r : (Nat × (Nat → S_api_Change))} (h : F_slices_Clone_api_Change t0 = some r) : FC Tryz.prog 22 [(D.lit t0.1 32 fun i => (S_api_Change.d (t0.2 i)))] [] (D.lit r.1 32 fun i => (S_api_Change.d (r.2 i))) [] :=
  fc_lit (fun _ _ => S_api_Change.inn _) (fc_slices_Clone_api_Change t0 h)


/-! ### slices.Clip of a row of api_Rule -/

noncomputable def T_slices_Clip_api_Rule_own : List Item := norm 200 [.code (Tryz.f41.body.getD .skip)]

def F_slices_Clip_api_Rule_own (t0 : (Nat × (Nat → S_api_Rule))) : Option (Nat × (Nat → S_api_Rule)) := some t0

theorem fc_slices_Clip_api_Rule_own (t0 : (Nat × (Nat → S_api_Rule))) {r : (Nat × (Nat → S_api_Rule))} (h : F_slices_Clip_api_Rule_own t0 = some r) : FC Tryz.prog 41 [(D.own 0)] [some (.seq 52 t0.1 32 (D.arr t0.1 32 fun i => S_api_Rule.d (t0.2 i)))] (D.own 1) [none, some (.seq 52 r.1 32 (D.arr r.1 32 fun i => S_api_Rule.d (r.2 i)))] := by
  cases h
  refine fc_of_runs (fn := Tryz.f41) (c := Tryz.f41.body.getD .skip) (by kernel_rfl) (by kernel_rfl) ?_
  refine runs_to (ts := [0]) (T' := T_slices_Clip_api_Rule_own) (env' := [(0, (D.own 0))]) (h2 := [some (.seq 52 t0.1 32 (D.arr t0.1 32 fun i => S_api_Rule.d (t0.2 i)))]) (by kernel_rfl) (by kernel_rfl) (And.intro (.inr rfl) trivial) (Nat.le_refl _) (And.intro (fun _ _ => S_api_Rule.inn _) trivial) (And.intro (bel_of rfl) trivial) ?_
  refine runs_regions 2 [([], [0]), ([(.own D.nil)], [2])] (z := ([((t0.1 : Nat) : Int) = ((t0.1 : Nat) : Int) ∧ ((t0.1 : Nat) : Int) = ((t0.1 : Nat) : Int)], [(2, (D.own 1))], [none, some (.seq 52 t0.1 32 (D.arr t0.1 32 fun i => S_api_Rule.d (t0.2 i)))])) rfl (by kernel_rfl) (And.intro ⟨rfl, rfl⟩ trivial) ?_
  exact runs_ret (h2 := [none, some (.seq 52 t0.1 32 (D.arr t0.1 32 fun i => S_api_Rule.d (t0.2 i)))]) (by kernel_rfl) (And.intro (.inr rfl) (And.intro (.inr rfl) trivial)) (Nat.le_of_ble_eq_true rfl) (And.intro (fun _ _ => S_api_Rule.inn _) trivial) (bel_of rfl)


/-! ### slices.Insert of one api_Rule -/

def F_slices_Insert_api_Rule (t0 : (Nat × (Nat → S_api_Rule))) (t1 : Int) (t2 : (Nat × (Nat → S_api_Rule))) : Option (Nat × (Nat → S_api_Rule)) :=
  chk (0 ≤ t1 ∧ t1 ≤ ((t0.1 : Nat) : Int)) <|
  chk (t2.1 = 1) <|
  chk (RoomOk (t0.1 + 1) 272) <|
  some (t0.1 + 1, fun k => if k < t1.toNat then t0.2 k else if k = t1.toNat then t2.2 0 else t0.2 (k - 1))

theorem fc_slices_Insert_api_Rule (t0 : (Nat × (Nat → S_api_Rule))) (t1 : Int) (t2 : (Nat × (Nat → S_api_Rule))) {r : (Nat × (Nat → S_api_Rule))} (h : F_slices_Insert_api_Rule t0 t1 t2 = some r) : FC Tryz.prog 114 [(D.own 0), (D.int .i64 t1), (D.lit t2.1 32 fun i => S_api_Rule.d (t2.2 i))] [some (.seq 52 t0.1 32 (D.arr t0.1 32 fun i => S_api_Rule.d (t0.2 i)))] (D.own 1) [none, some (.seq 52 r.1 32 (D.arr r.1 32 fun i => S_api_Rule.d (r.2 i)))] := by
  obtain ⟨p0, h⟩ := chk_some h
  obtain ⟨p1, h⟩ := chk_some h
  obtain ⟨p2, h⟩ := chk_some h
  cases h
  obtain ⟨n2, g2⟩ := t2
  have p1 : n2 = 1 := p1
  subst p1
  have e1 : t1 = ((t1.toNat : Nat) : Int) := by omega
  have main := fc_insert t0.1 t1.toNat (fun i => S_api_Rule.d (t0.2 i)) (fun i => S_api_Rule.d (g2 i)) (by omega) p2 (fun _ _ => S_api_Rule.inn _) (fun _ _ => S_api_Rule.inn _)
  rw [← e1] at main
  have e2 : (fun k => S_api_Rule.d (if k < t1.toNat then t0.2 k else if k = t1.toNat then g2 0 else t0.2 (k - 1))) = insD (fun i => S_api_Rule.d (t0.2 i)) t1.toNat (S_api_Rule.d (g2 0)) := by
    funext k
    unfold insD
    split
    · rfl
    · split <;> rfl
  rw [← e2] at main
  exact main


end Go.Proofs.YtbggcjkpjmnbaaaGreat
