/- bytes.Clone: a row of its own, with what the slice holds. -/
import Derived.Test.YtlgkjdjgockkfaaProg
import Derived.Test.YtlgkjdjgockkfaaPodK
namespace Go.Proofs.Ytlgkjdjgockkfaa
open Go Go.Pod Go.Proofs

noncomputable def T_bytes_Clone : List Item := norm 200 [.code (Try.f31.body.getD .skip)]

def F_bytes_Clone (t0 : (Nat × (Nat → Int))) : Option (Nat × (Nat → Int)) := chk (RoomOk (0 + t0.1) 1) <| some t0

theorem row_eq (n : Nat) (f g : Nat → Int) : ([some (.seq 5 (0 + n) 1 (D.ints .u8 (0 + n) (fun i => if i < 0 then g i else f (i - 0))))] : Heap) = [some (.seq 5 n 1 (D.ints .u8 n f))] := by
  simp

theorem run_bytes_Clone (n : Nat) (f : Nat → Int) (p : RoomOk (0 + n) 1) : Runs Try.prog Try.f31 0 T_bytes_Clone [(0, (D.lit n 1 fun i => (D.int .u8 (f i))))] [] (D.own 0) [some (.seq 5 n 1 (D.ints .u8 n f))] := by
  refine runs_nilsplit 0 rfl (fun hm => ?_) ?_
  · subst hm
    refine runs_regions 2 [([], [0]), ([], [4])] (z := ([], [(4, (D.bool true))], [])) rfl (by kernel_rfl) trivial ?_
    refine runs_if (b := true) (by kernel_rfl) (fun hb => ?_) (fun hb => by cases hb)
    refine runs_regions 1 [([(.nil 5 1 (D.ints .u8 0 f))], [2])] (z := ([EmptyOk (D.ints .u8 0 f)], [(2, (D.own 0))], [some (.seq 5 0 1 (D.ints .u8 0 f))])) rfl (by kernel_rfl) (And.intro emptyOk_ints trivial) ?_
    exact runs_ret (h2 := [some (.seq 5 0 1 (D.ints .u8 0 f))]) (by kernel_rfl) (And.intro (.inr rfl) trivial) (Nat.zero_le _) (And.intro trivial trivial) (bel_of rfl)
  · refine runs_regions 2 [([], [0]), ([], [0, 4])] (z := ([], [(0, (D.nn (D.lit n 1 fun i => (D.int .u8 (f i))))), (4, (D.bool false))], [])) rfl (by kernel_rfl) trivial ?_
    refine runs_if (b := false) (by kernel_rfl) (fun hb => by cases hb) (fun hb => ?_)
    refine runs_nn 0 rfl ?_
    rw [← row_eq n f (fun i => ([] : List Int).getD i (0 : Int))]
    refine runs_regions 1 [([(.own (D.ints .u8 0 (fun i => ([] : List Int).getD i (0 : Int)))), (.d (D.ints .u8 (0 + n) (fun i => if i < 0 then (fun i => ([] : List Int).getD i (0 : Int)) i else f (i - 0))))], [2])] (z := ([TabOk [] 1 (D.ints .u8 0 (fun i => ([] : List Int).getD i (0 : Int))), RoomOk (0 + n) 1, CatOk (D.ints .u8 0 (fun i => ([] : List Int).getD i (0 : Int))) (D.arr n 1 fun i => (D.int .u8 (f i))) (D.ints .u8 (0 + n) (fun i => if i < 0 then (fun i => ([] : List Int).getD i (0 : Int)) i else f (i - 0)))], [(2, (D.own 1))], [none, some (.seq 5 (0 + n) 1 (D.ints .u8 (0 + n) (fun i => if i < 0 then (fun i => ([] : List Int).getD i (0 : Int)) i else f (i - 0))))])) rfl (by kernel_rfl) (And.intro (tabOk_ints rfl trivial) (And.intro p (And.intro (catOk_ints (f := f) rfl) trivial))) ?_
    refine runs_rename 0 1 (by decide) (Nat.zero_le _) rfl rfl (And.intro trivial trivial) (And.intro (rn_own rfl) trivial) ?_
    exact runs_ret (h2 := [some (.seq 5 (0 + n) 1 (D.ints .u8 (0 + n) (fun i => if i < 0 then (fun i => ([] : List Int).getD i (0 : Int)) i else f (i - 0))))]) (by kernel_rfl) (And.intro (.inr rfl) trivial) (Nat.zero_le _) (And.intro trivial trivial) (bel_of rfl)

theorem fc_bytes_Clone (t0 : (Nat × (Nat → Int))) {r : (Nat × (Nat → Int))} (h : F_bytes_Clone t0 = some r) : FC Try.prog 31 [(D.lit t0.1 1 fun i => (D.int .u8 (t0.2 i)))] [] (D.own 0) [some (.seq 5 r.1 1 (D.ints .u8 r.1 r.2))] := by
  obtain ⟨p, h⟩ := chk_some h
  cases h
  refine fc_of_runs (fn := Try.f31) (c := Try.f31.body.getD .skip) (by kernel_rfl) (by kernel_rfl) ?_
  refine runs_to (ts := [0]) (T' := T_bytes_Clone) (env' := [(0, (D.lit t0.1 1 fun i => (D.int .u8 (t0.2 i))))]) (h2 := []) (by kernel_rfl) (by kernel_rfl) trivial (Nat.le_refl 0) trivial (And.intro (fun _ _ => trivial) trivial) ?_
  exact run_bytes_Clone t0.1 t0.2 p

end Go.Proofs.Ytlgkjdjgockkfaa
