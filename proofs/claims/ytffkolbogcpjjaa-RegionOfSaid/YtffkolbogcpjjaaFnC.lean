/- What the functions compute, each proved to do so (printed by pgen.py). -/
import Derived.Test.YtffkolbogcpjjaaFnC1
namespace Go.Proofs.Ytffkolbogcpjjaa
open Go Go.Pod Go.Proofs

def X_region_Units_L1 (_fu : Nat) (_t6 : (Nat × (Nat → S_api_Change))) (_t7 : Int) (d : D) : E_region_Units_L1 ⊕ (Nat × (Nat → Int)) → Prop
  | .inl e => Runs Try.prog Try.f19 0 X_region_Units_L1T [(3, (D.own 0))] [some (.seq 3 e.1 1 (D.ints .i64 e.1 e.2))] d []
  | .inr o => (K_region_Units d) o

def F_region_Units_L1 (_fu : Nat) (t6 : (Nat × (Nat → S_api_Change))) (t7 : Int) (t8 : Int) (m0 : (Nat × (Nat → Int))) : Option (Lo (Int × (Nat × (Nat → Int))) E_region_Units_L1 (Nat × (Nat → Int))) :=
  ifs (decide (t8 < t7)) (
    chk (0 ≤ t8 ∧ t8 < ((t6.1 : Nat) : Int)) <|
    chk (RoomOk (m0.1 + 1) 8) <|
    some (.next ((IntKind.wrap .i64 (t8 + (1 : Int))), ((m0.1 + 1), (fun i => if i < m0.1 then m0.2 i else (fun i => ([(t6.2 t8.toNat).f0] : List Int).getD i (0 : Int)) (i - m0.1)))))) (
    some (.exit m0))

theorem run_region_Units_L1 (fu : Nat) (t6 : (Nat × (Nat → S_api_Change))) (t7 : Int) (t8 : Int) (m0 : (Nat × (Nat → Int))) {d : D} {o : (Lo (Int × (Nat × (Nat → Int))) E_region_Units_L1 (Nat × (Nat → Int)))} (h : F_region_Units_L1 fu t6 t7 t8 m0 = some o) (hk : (Lo.post (N_region_Units_L1 fu t6 t7 d) (X_region_Units_L1 fu t6 t7 d)) o) : Runs Try.prog Try.f19 0 T_region_Units_L1 [(3, (D.own 0)), (6, (D.lit t6.1 32 fun i => (S_api_Change.d (t6.2 i)))), (7, (D.int .i64 t7)), (8, (D.int .i64 t8))] [some (.seq 3 m0.1 1 (D.ints .i64 m0.1 m0.2))] d [] := by
  unfold F_region_Units_L1 at h
  refine runs_regions 1 [([], [3, 6, 7, 8, 9])] (z := ([], [(3, (D.own 0)), (6, (D.lit t6.1 32 fun i => (S_api_Change.d (t6.2 i)))), (7, (D.int .i64 t7)), (8, (D.int .i64 t8)), (9, (D.bool (decide (t8 < t7))))], [some (.seq 3 m0.1 1 (D.ints .i64 m0.1 m0.2))])) rfl (by kernel_rfl) trivial ?_
  refine runs_if (b := (decide (t8 < t7))) (by kernel_rfl) (fun hb => ?_) (fun hb => ?_)
  · replace h := ifs_true h hb
    obtain ⟨p0, h⟩ := chk_some h
    obtain ⟨p1, h⟩ := chk_some h
    refine runs_regions 3 [([], [3, 5, 6, 7, 8]), ([(.lit fun i => (D.int .i64 ((fun i => ([(t6.2 t8.toNat).f0] : List Int).getD i (0 : Int)) i))), (.d (D.ints .i64 (m0.1 + 1) (fun i => if i < m0.1 then m0.2 i else (fun i => ([(t6.2 t8.toNat).f0] : List Int).getD i (0 : Int)) (i - m0.1))))], [3, 6, 7, 8]), ([], [3, 6, 7, 8])] (z := ([(0 ≤ t8 ∧ t8 < ((t6.1 : Nat) : Int)), TabOk [(D.int .i64 (t6.2 t8.toNat).f0)] 1 (D.arr 1 1 fun i => (D.int .i64 ((fun i => ([(t6.2 t8.toNat).f0] : List Int).getD i (0 : Int)) i))), (RoomOk (m0.1 + 1) 8), CatOk (D.ints .i64 m0.1 m0.2) (D.arr 1 1 fun i => (D.int .i64 ((fun i => ([(t6.2 t8.toNat).f0] : List Int).getD i (0 : Int)) i))) (D.ints .i64 (m0.1 + 1) (fun i => if i < m0.1 then m0.2 i else (fun i => ([(t6.2 t8.toNat).f0] : List Int).getD i (0 : Int)) (i - m0.1)))], [(3, (D.own 2)), (6, (D.lit t6.1 32 fun i => (S_api_Change.d (t6.2 i)))), (7, (D.int .i64 t7)), (8, (D.int .i64 (IntKind.wrap .i64 (t8 + (1 : Int)))))], [none, some (.box (S_api_Change.d (t6.2 t8.toNat))), some (.seq 3 (m0.1 + 1) 1 (D.ints .i64 (m0.1 + 1) (fun i => if i < m0.1 then m0.2 i else (fun i => ([(t6.2 t8.toNat).f0] : List Int).getD i (0 : Int)) (i - m0.1))))])) rfl (by kernel_rfl) (And.intro p0 (And.intro (tabOk_arr rfl (And.intro rfl trivial)) (And.intro p1 (And.intro (catOk_ints (f := (fun i => ([(t6.2 t8.toNat).f0] : List Int).getD i (0 : Int))) rfl) trivial)))) ?_
    rw [← Option.some.inj h] at hk
    refine runs_to (ts := [3, 6, 7, 8]) (T' := T_region_Units_L1) (env' := [(3, (D.own 2)), (6, (D.lit t6.1 32 fun i => (S_api_Change.d (t6.2 i)))), (7, (D.int .i64 t7)), (8, (D.int .i64 (IntKind.wrap .i64 (t8 + (1 : Int)))))]) (h2 := [none, some (.box (S_api_Change.d (t6.2 t8.toNat))), some (.seq 3 (m0.1 + 1) 1 (D.ints .i64 (m0.1 + 1) (fun i => if i < m0.1 then m0.2 i else (fun i => ([(t6.2 t8.toNat).f0] : List Int).getD i (0 : Int)) (i - m0.1))))]) (by kernel_rfl) (by kernel_rfl) (And.intro (.inl rfl) (And.intro (.inr rfl) (And.intro (.inr rfl) trivial))) (Nat.zero_le _) (And.intro (S_api_Change.inn _) (And.intro trivial trivial)) (And.intro (bel_of rfl) (And.intro (fun _ _ => (S_api_Change.inn _)) (And.intro trivial (And.intro trivial trivial)))) ?_
    refine runs_rename 0 2 (row := (.seq 3 (m0.1 + 1) 1 (D.ints .i64 (m0.1 + 1) (fun i => if i < m0.1 then m0.2 i else (fun i => ([(t6.2 t8.toNat).f0] : List Int).getD i (0 : Int)) (i - m0.1))))) (by decide) (Nat.zero_le _) rfl rfl (And.intro (S_api_Change.rnk _) (And.intro trivial trivial)) (And.intro (rn_own rfl) (And.intro (fun _ _ => (S_api_Change.inn _)) (And.intro trivial (And.intro trivial trivial)))) ?_
    refine runs_to (ts := [3, 6, 7, 8]) (T' := T_region_Units_L1) (env' := [(3, (D.own 0)), (6, (D.lit t6.1 32 fun i => (S_api_Change.d (t6.2 i)))), (7, (D.int .i64 t7)), (8, (D.int .i64 (IntKind.wrap .i64 (t8 + (1 : Int)))))]) (h2 := [some (.seq 3 (m0.1 + 1) 1 (D.ints .i64 (m0.1 + 1) (fun i => if i < m0.1 then m0.2 i else (fun i => ([(t6.2 t8.toNat).f0] : List Int).getD i (0 : Int)) (i - m0.1))))]) (by kernel_rfl) (by kernel_rfl) (And.intro (.inr rfl) trivial) (Nat.zero_le _) (And.intro trivial trivial) (And.intro (bel_of rfl) (And.intro (fun _ _ => (S_api_Change.inn _)) (And.intro trivial (And.intro trivial trivial)))) ?_
    exact hk
  · replace h := ifs_false h hb
    rw [← Option.some.inj h] at hk
    refine runs_to (ts := [3]) (T' := X_region_Units_L1T) (env' := [(3, (D.own 0))]) (h2 := [some (.seq 3 m0.1 1 (D.ints .i64 m0.1 m0.2))]) (by kernel_rfl) (by kernel_rfl) (And.intro (.inr rfl) trivial) (Nat.zero_le _) (And.intro trivial trivial) (And.intro (bel_of rfl) trivial) ?_
    exact hk

theorem iter_region_Units_L1 (fu : Nat) (t6 : (Nat × (Nat → S_api_Change))) (t7 : Int) {d : D} (k : Nat) (s : (Int × (Nat × (Nat → Int)))) {o : E_region_Units_L1 ⊕ (Nat × (Nat → Int))} (h : iter (fun s => F_region_Units_L1 fu t6 t7 s.1 s.2) k s = some o) (hx : X_region_Units_L1 fu t6 t7 d o) : N_region_Units_L1 fu t6 t7 d s :=
  iter_post (K := N_region_Units_L1 fu t6 t7 d) (X := X_region_Units_L1 fu t6 t7 d) (fun s _ h hk => run_region_Units_L1 fu t6 t7 s.1 s.2 h hk) k s o h hx

/-- podesta/region.Units -/
def F_region_Units (fu : Nat) (t0 : (Nat × (Nat → S_api_Change))) : Option (Nat × (Nat → Int)) :=
  after (iter (fun s => F_region_Units_L1 fu t0 ((t0.1 : Nat) : Int) s.1 s.2) fu ((0 : Int), (0, (fun _ => 0)))) fun e3 =>
  (F_slices_Sort_i64 e3).bind fun r0 =>
  (F_slices_Compact_int fu r0).bind fun r1 =>
  (F_slices_Clip_int r1).bind fun r2 =>
  some r2

theorem run_region_Units (fu : Nat) (t0 : (Nat × (Nat → S_api_Change))) {d : D} {r : (Nat × (Nat → Int))} (h : F_region_Units fu t0 = some r) (hk : (K_region_Units d) r) : Runs Try.prog Try.f19 0 T_region_Units [(0, (D.lit t0.1 32 fun i => (S_api_Change.d (t0.2 i))))] [] d [] := by
  unfold F_region_Units at h
  refine runs_regions 3 [([], [0]), ([(.nil 3 1 (D.ints .i64 0 (fun _ => 0)))], [0, 3]), ([], [3, 6, 7, 8])] (z := ([EmptyOk (D.ints .i64 0 (fun _ => 0))], [(3, (D.own 0)), (6, (D.lit t0.1 32 fun i => (S_api_Change.d (t0.2 i)))), (7, (D.int .i64 ((t0.1 : Nat) : Int))), (8, (D.int .i64 (0 : Int)))], [some (.seq 3 0 1 (D.ints .i64 0 (fun _ => 0)))])) rfl (by kernel_rfl) (And.intro emptyOk_ints trivial) ?_
  refine runs_to (ts := [3, 6, 7, 8]) (T' := T_region_Units_L1) (env' := [(3, (D.own 0)), (6, (D.lit t0.1 32 fun i => (S_api_Change.d (t0.2 i)))), (7, (D.int .i64 ((t0.1 : Nat) : Int))), (8, (D.int .i64 (0 : Int)))]) (h2 := [some (.seq 3 0 1 (D.ints .i64 0 (fun _ => 0)))]) (by kernel_rfl) (by kernel_rfl) (And.intro (.inr rfl) trivial) (Nat.zero_le _) (And.intro trivial trivial) (And.intro (bel_of rfl) (And.intro (fun _ _ => (S_api_Change.inn _)) (And.intro trivial (And.intro trivial trivial)))) ?_
  rcases after_some h with ⟨e3, hi, h⟩ | hi
  · refine iter_region_Units_L1 fu t0 ((t0.1 : Nat) : Int) fu ((0 : Int), (0, (fun _ => 0))) hi ?_
    show Runs Try.prog Try.f19 0 X_region_Units_L1T [(3, (D.own 0))] [some (.seq 3 e3.1 1 (D.ints .i64 e3.1 e3.2))] d []
    obtain ⟨r0, cr0, h⟩ := Option.bind_eq_some_iff.1 h
    obtain ⟨r1, cr1, h⟩ := Option.bind_eq_some_iff.1 h
    obtain ⟨r2, cr2, h⟩ := Option.bind_eq_some_iff.1 h
    refine runs_regions 2 [([(.rows ([0] : List Nat) [(D.own 0)] ([(.seq 3 e3.1 1 (D.ints .i64 e3.1 e3.2))] : List Row) ([some (.seq 3 r0.1 1 (D.ints .i64 r0.1 r0.2))] : Heap) (D.tup D.nil))], [3]), ([(.rows ([0] : List Nat) [(D.own 0)] ([(.seq 3 r0.1 1 (D.ints .i64 r0.1 r0.2))] : List Row) ([none, some (.seq 3 r1.1 1 (D.ints .i64 r1.1 r1.2))] : Heap) (D.own 1)), (.die 1 (D.lit r2.1 1 fun i => (D.int .i64 (r2.2 i))))], [2])] (z := ([FC Try.prog 48 [(D.own 0)] (List.map some ([(.seq 3 e3.1 1 (D.ints .i64 e3.1 e3.2))] : List Row)) (D.tup D.nil) ([some (.seq 3 r0.1 1 (D.ints .i64 r0.1 r0.2))] : Heap), [(D.own 0)] = List.map (D.ren (emb ([0] : List Nat) 1)) [(D.own 0)], RowsAt (emb ([0] : List Nat) 1) ([some (.seq 3 e3.1 1 (D.ints .i64 e3.1 e3.2))] : Heap) ([0] : List Nat) ([(.seq 3 e3.1 1 (D.ints .i64 e3.1 e3.2))] : List Row), HIn (Bel (List.length ([0] : List Nat))) (List.map some ([(.seq 3 e3.1 1 (D.ints .i64 e3.1 e3.2))] : List Row)), AllIn (Bel (List.length ([0] : List Nat))) [(D.own 0)], HIn (Bel (List.length ([some (.seq 3 r0.1 1 (D.ints .i64 r0.1 r0.2))] : Heap))) ([some (.seq 3 r0.1 1 (D.ints .i64 r0.1 r0.2))] : Heap), D.In (Bel (List.length ([some (.seq 3 r0.1 1 (D.ints .i64 r0.1 r0.2))] : Heap))) (D.tup D.nil), FC Try.prog 50 [(D.own 0)] (List.map some ([(.seq 3 r0.1 1 (D.ints .i64 r0.1 r0.2))] : List Row)) (D.own 1) ([none, some (.seq 3 r1.1 1 (D.ints .i64 r1.1 r1.2))] : Heap), [(D.own 0)] = List.map (D.ren (emb ([0] : List Nat) 1)) [(D.own 0)], RowsAt (emb ([0] : List Nat) 1) ([some (.seq 3 r0.1 1 (D.ints .i64 r0.1 r0.2))] : Heap) ([0] : List Nat) ([(.seq 3 r0.1 1 (D.ints .i64 r0.1 r0.2))] : List Row), HIn (Bel (List.length ([0] : List Nat))) (List.map some ([(.seq 3 r0.1 1 (D.ints .i64 r0.1 r0.2))] : List Row)), AllIn (Bel (List.length ([0] : List Nat))) [(D.own 0)], HIn (Bel (List.length ([none, some (.seq 3 r1.1 1 (D.ints .i64 r1.1 r1.2))] : Heap))) ([none, some (.seq 3 r1.1 1 (D.ints .i64 r1.1 r1.2))] : Heap), D.In (Bel (List.length ([none, some (.seq 3 r1.1 1 (D.ints .i64 r1.1 r1.2))] : Heap))) (D.own 1), FC Try.prog 49 [(D.lit r1.1 1 fun i => (D.int .i64 (r1.2 i)))] [] (D.lit r2.1 1 fun i => (D.int .i64 (r2.2 i))) [], All (List.map NoRow [(D.lit r1.1 1 fun i => (D.int .i64 (r1.2 i)))])], [(2, (D.lit r2.1 1 fun i => (D.int .i64 (r2.2 i))))], [none, none])) rfl (by kernel_rfl) (And.intro (fc_slices_Sort_i64 e3 cr0) (And.intro rfl (And.intro (And.intro rfl trivial) (And.intro (And.intro trivial trivial) (And.intro (And.intro (bel_of rfl) trivial) (And.intro (And.intro trivial trivial) (And.intro trivial (And.intro (fc_slices_Compact_int fu r0 cr1) (And.intro rfl (And.intro (And.intro rfl trivial) (And.intro (And.intro trivial trivial) (And.intro (And.intro (bel_of rfl) trivial) (And.intro (And.intro trivial trivial) (And.intro (bel_of rfl) (And.intro (fc_slices_Clip_int r1 cr2) (And.intro (And.intro (fun _ _ => trivial) trivial) trivial)))))))))))))))) ?_
    rw [← Option.some.inj h] at hk
    obtain rfl : d = (D.lit r2.1 1 fun i => (D.int .i64 (r2.2 i))) := hk
    exact runs_ret (by kernel_rfl) trivial (Nat.le_refl 0) trivial (fun _ _ => trivial)
  · exact iter_region_Units_L1 fu t0 ((t0.1 : Nat) : Int) fu ((0 : Int), (0, (fun _ => 0))) hi hk

theorem fc_region_Units (fu : Nat) (t0 : (Nat × (Nat → S_api_Change))) {r : (Nat × (Nat → Int))} (h : F_region_Units fu t0 = some r) : FC Try.prog 19 [(D.lit t0.1 32 fun i => (S_api_Change.d (t0.2 i)))] [] (D.lit r.1 1 fun i => (D.int .i64 (r.2 i))) [] := by
  refine fc_of_runs (fn := Try.f19) (c := Try.f19.body.getD .skip) (by kernel_rfl) (by kernel_rfl) ?_
  refine runs_to (ts := [0]) (T' := T_region_Units) (env' := [(0, (D.lit t0.1 32 fun i => (S_api_Change.d (t0.2 i))))]) (h2 := []) (by kernel_rfl) (by kernel_rfl) trivial (Nat.le_refl _) trivial (And.intro (fun _ _ => (S_api_Change.inn _)) trivial) ?_
  exact run_region_Units fu t0 h rfl

def K_ref19_Units (d : D) (r : (Nat × (Nat → Int))) : Prop := d = (D.lit r.1 1 fun i => (D.int .i64 (r.2 i)))

noncomputable def T_ref19_Units : List Item := norm 200 [.code (Try.f20.body.getD .skip)]

noncomputable def T_ref19_Units_L2 : List Item := norm 200 (nxt (cndT (nxt (nxt (nxt (nxt T_ref19_Units))))))

noncomputable def X_ref19_Units_L2T : List Item := norm 200 (cndF (nxt (nxt (cndT (nxt (nxt (nxt (nxt T_ref19_Units))))))))

noncomputable def T_ref19_Units_L1 : List Item := norm 200 (nxt (nxt (nxt T_ref19_Units)))

noncomputable def X_ref19_Units_L1T : List Item := norm 200 (cndF (nxt (nxt (nxt (nxt T_ref19_Units)))))

abbrev E_ref19_Units_L1 := (Nat × (Nat → Int))

def N_ref19_Units_L1 (_fu : Nat) (t0 : (Nat × (Nat → S_api_Change))) (d : D) (s : ((Nat × (Nat → Int)) × Int)) : Prop := Runs Try.prog Try.f20 0 T_ref19_Units_L1 [(0, (D.lit t0.1 32 fun i => (S_api_Change.d (t0.2 i)))), (3, (D.lit s.1.1 1 fun i => (D.int .i64 (s.1.2 i)))), (4, (D.int .i64 s.2))] [] d []

def X_ref19_Units_L1 (_fu : Nat) (_t0 : (Nat × (Nat → S_api_Change))) (d : D) : E_ref19_Units_L1 ⊕ (Nat × (Nat → Int)) → Prop
  | .inl e => Runs Try.prog Try.f20 0 X_ref19_Units_L1T [(3, (D.lit e.1 1 fun i => (D.int .i64 (e.2 i))))] [] d []
  | .inr o => (K_ref19_Units d) o

abbrev E_ref19_Units_L2 := Int

def N_ref19_Units_L2 (_fu : Nat) (t0 : (Nat × (Nat → S_api_Change))) (t3 : (Nat × (Nat → Int))) (t4 : Int) (d : D) (s : Int) : Prop := Runs Try.prog Try.f20 0 T_ref19_Units_L2 [(0, (D.lit t0.1 32 fun i => (S_api_Change.d (t0.2 i)))), (3, (D.lit t3.1 1 fun i => (D.int .i64 (t3.2 i)))), (4, (D.int .i64 t4)), (5, (D.int .i64 s))] [] d []

def X_ref19_Units_L2 (fu : Nat) (t0 : (Nat × (Nat → S_api_Change))) (t3 : (Nat × (Nat → Int))) (t4 : Int) (d : D) : E_ref19_Units_L2 ⊕ (Lo ((Nat × (Nat → Int)) × Int) E_ref19_Units_L1 (Nat × (Nat → Int))) → Prop
  | .inl e => Runs Try.prog Try.f20 0 X_ref19_Units_L2T [(0, (D.lit t0.1 32 fun i => (S_api_Change.d (t0.2 i)))), (3, (D.lit t3.1 1 fun i => (D.int .i64 (t3.2 i)))), (4, (D.int .i64 t4)), (5, (D.int .i64 e))] [] d []
  | .inr o => (Lo.post (N_ref19_Units_L1 fu t0 d) (X_ref19_Units_L1 fu t0 d)) o

def F_ref19_Units_L2 (_fu : Nat) (t0 : (Nat × (Nat → S_api_Change))) (t3 : (Nat × (Nat → Int))) (t4 : Int) (t5 : Int) : Option (Lo Int E_ref19_Units_L2 (Lo ((Nat × (Nat → Int)) × Int) E_ref19_Units_L1 (Nat × (Nat → Int)))) :=
  chk ((decide (t5 < ((t3.1 : Nat) : Int))) = true → (0 ≤ t5 ∧ t5 < ((t3.1 : Nat) : Int))) <|
  chk ((decide (t5 < ((t3.1 : Nat) : Int))) = true → (0 ≤ t4 ∧ t4 < ((t0.1 : Nat) : Int))) <|
  ifs (bif (decide (t5 < ((t3.1 : Nat) : Int))) then (decide ((t3.2 t5.toNat) < (t0.2 t4.toNat).f0)) else false) (
    some (.next (IntKind.wrap .i64 (t5 + (1 : Int))))) (
    some (.exit t5))

theorem run_ref19_Units_L2 (fu : Nat) (t0 : (Nat × (Nat → S_api_Change))) (t3 : (Nat × (Nat → Int))) (t4 : Int) (t5 : Int) {d : D} {o : (Lo Int E_ref19_Units_L2 (Lo ((Nat × (Nat → Int)) × Int) E_ref19_Units_L1 (Nat × (Nat → Int))))} (h : F_ref19_Units_L2 fu t0 t3 t4 t5 = some o) (hk : (Lo.post (N_ref19_Units_L2 fu t0 t3 t4 d) (X_ref19_Units_L2 fu t0 t3 t4 d)) o) : Runs Try.prog Try.f20 0 T_ref19_Units_L2 [(0, (D.lit t0.1 32 fun i => (S_api_Change.d (t0.2 i)))), (3, (D.lit t3.1 1 fun i => (D.int .i64 (t3.2 i)))), (4, (D.int .i64 t4)), (5, (D.int .i64 t5))] [] d [] := by
  unfold F_ref19_Units_L2 at h
  obtain ⟨p0, h⟩ := chk_some h
  obtain ⟨p1, h⟩ := chk_some h
  refine runs_regions 1 [([], [0, 3, 4, 5, 27])] (z := ([((decide (t5 < ((t3.1 : Nat) : Int))) = true → All [((decide (t5 < ((t3.1 : Nat) : Int))) = true → (decide (t5 < ((t3.1 : Nat) : Int))) = true), ((decide (t5 < ((t3.1 : Nat) : Int))) = true → (decide (t5 < ((t3.1 : Nat) : Int))) = true), (0 ≤ t5 ∧ t5 < ((t3.1 : Nat) : Int))]), ((decide (t5 < ((t3.1 : Nat) : Int))) = true → All [((decide (t5 < ((t3.1 : Nat) : Int))) = true → (decide (t5 < ((t3.1 : Nat) : Int))) = true)]), ((decide (t5 < ((t3.1 : Nat) : Int))) = true → All [((decide (t5 < ((t3.1 : Nat) : Int))) = true → (decide (t5 < ((t3.1 : Nat) : Int))) = true), ((decide (t5 < ((t3.1 : Nat) : Int))) = true → (decide (t5 < ((t3.1 : Nat) : Int))) = true), (0 ≤ t4 ∧ t4 < ((t0.1 : Nat) : Int))]), ((decide (t5 < ((t3.1 : Nat) : Int))) = true → All [((decide (t5 < ((t3.1 : Nat) : Int))) = true → (decide (t5 < ((t3.1 : Nat) : Int))) = true)]), ((decide (t5 < ((t3.1 : Nat) : Int))) = true → All [((decide (t5 < ((t3.1 : Nat) : Int))) = true → (decide (t5 < ((t3.1 : Nat) : Int))) = true)]), ((decide (t5 < ((t3.1 : Nat) : Int))) = true → All [((decide (t5 < ((t3.1 : Nat) : Int))) = true → (decide (t5 < ((t3.1 : Nat) : Int))) = true), ((decide (t5 < ((t3.1 : Nat) : Int))) = true → (decide (t5 < ((t3.1 : Nat) : Int))) = true)]), ((true && (decide (t5 < ((t3.1 : Nat) : Int)))) = true → (decide (t5 < ((t3.1 : Nat) : Int))) = true)], [(0, (D.lit t0.1 32 fun i => (S_api_Change.d (t0.2 i)))), (3, (D.lit t3.1 1 fun i => (D.int .i64 (t3.2 i)))), (4, (D.int .i64 t4)), (5, (D.int .i64 t5)), (27, (D.bool (bif (decide (t5 < ((t3.1 : Nat) : Int))) then (decide ((t3.2 t5.toNat) < (t0.2 t4.toNat).f0)) else false)))], [])) rfl (by kernel_rfl) (And.intro (fun hg => (And.intro (by first | exact fun h => h | exact fun h => (Bool.and_eq_true_iff.1 h).1 | simp_all) (And.intro (by first | exact fun h => h | exact fun h => (Bool.and_eq_true_iff.1 h).1 | simp_all) (And.intro (p0 hg) trivial)))) (And.intro (fun _ => (And.intro (by first | exact fun h => h | exact fun h => (Bool.and_eq_true_iff.1 h).1 | simp_all) trivial)) (And.intro (fun hg => (And.intro (by first | exact fun h => h | exact fun h => (Bool.and_eq_true_iff.1 h).1 | simp_all) (And.intro (by first | exact fun h => h | exact fun h => (Bool.and_eq_true_iff.1 h).1 | simp_all) (And.intro (p1 hg) trivial)))) (And.intro (fun _ => (And.intro (by first | exact fun h => h | exact fun h => (Bool.and_eq_true_iff.1 h).1 | simp_all) trivial)) (And.intro (fun _ => (And.intro (by first | exact fun h => h | exact fun h => (Bool.and_eq_true_iff.1 h).1 | simp_all) trivial)) (And.intro (fun _ => (And.intro (by first | exact fun h => h | exact fun h => (Bool.and_eq_true_iff.1 h).1 | simp_all) (And.intro (by first | exact fun h => h | exact fun h => (Bool.and_eq_true_iff.1 h).1 | simp_all) trivial))) (And.intro (by first | exact fun h => h | exact fun h => (Bool.and_eq_true_iff.1 h).1 | simp_all) trivial))))))) ?_
  refine runs_if (b := (bif (decide (t5 < ((t3.1 : Nat) : Int))) then (decide ((t3.2 t5.toNat) < (t0.2 t4.toNat).f0)) else false)) (by kernel_rfl) (fun hb => ?_) (fun hb => ?_)
  · replace h := ifs_true h hb
    refine runs_regions 1 [([], [0, 3, 4, 5])] (z := ([], [(0, (D.lit t0.1 32 fun i => (S_api_Change.d (t0.2 i)))), (3, (D.lit t3.1 1 fun i => (D.int .i64 (t3.2 i)))), (4, (D.int .i64 t4)), (5, (D.int .i64 (IntKind.wrap .i64 (t5 + (1 : Int)))))], [])) rfl (by kernel_rfl) trivial ?_
    rw [← Option.some.inj h] at hk
    refine runs_to (ts := [0, 3, 4, 5]) (T' := T_ref19_Units_L2) (env' := [(0, (D.lit t0.1 32 fun i => (S_api_Change.d (t0.2 i)))), (3, (D.lit t3.1 1 fun i => (D.int .i64 (t3.2 i)))), (4, (D.int .i64 t4)), (5, (D.int .i64 (IntKind.wrap .i64 (t5 + (1 : Int)))))]) (h2 := []) (by kernel_rfl) (by kernel_rfl) trivial (Nat.zero_le _) trivial (And.intro (fun _ _ => (S_api_Change.inn _)) (And.intro (fun _ _ => trivial) (And.intro trivial (And.intro trivial trivial)))) ?_
    exact hk
  · replace h := ifs_false h hb
    rw [← Option.some.inj h] at hk
    refine runs_to (ts := [0, 3, 4, 5]) (T' := X_ref19_Units_L2T) (env' := [(0, (D.lit t0.1 32 fun i => (S_api_Change.d (t0.2 i)))), (3, (D.lit t3.1 1 fun i => (D.int .i64 (t3.2 i)))), (4, (D.int .i64 t4)), (5, (D.int .i64 t5))]) (h2 := []) (by kernel_rfl) (by kernel_rfl) trivial (Nat.zero_le _) trivial (And.intro (fun _ _ => (S_api_Change.inn _)) (And.intro (fun _ _ => trivial) (And.intro trivial (And.intro trivial trivial)))) ?_
    exact hk

theorem iter_ref19_Units_L2 (fu : Nat) (t0 : (Nat × (Nat → S_api_Change))) (t3 : (Nat × (Nat → Int))) (t4 : Int) {d : D} (k : Nat) (s : Int) {o : E_ref19_Units_L2 ⊕ (Lo ((Nat × (Nat → Int)) × Int) E_ref19_Units_L1 (Nat × (Nat → Int)))} (h : iter (fun s => F_ref19_Units_L2 fu t0 t3 t4 s) k s = some o) (hx : X_ref19_Units_L2 fu t0 t3 t4 d o) : N_ref19_Units_L2 fu t0 t3 t4 d s :=
  iter_post (K := N_ref19_Units_L2 fu t0 t3 t4 d) (X := X_ref19_Units_L2 fu t0 t3 t4 d) (fun s _ h hk => run_ref19_Units_L2 fu t0 t3 t4 s h hk) k s o h hx

def F_ref19_Units_L1 (fu : Nat) (t0 : (Nat × (Nat → S_api_Change))) (t3 : (Nat × (Nat → Int))) (t4 : Int) : Option (Lo ((Nat × (Nat → Int)) × Int) E_ref19_Units_L1 (Nat × (Nat → Int))) :=
  ifs (decide (t4 < ((t0.1 : Nat) : Int))) (
    after (iter (fun s => F_ref19_Units_L2 fu t0 t3 t4 s) fu (0 : Int)) fun e3 =>
    chk ((decide (e3 < ((t3.1 : Nat) : Int))) = true → (0 ≤ e3 ∧ e3 < ((t3.1 : Nat) : Int))) <|
    chk ((decide (e3 < ((t3.1 : Nat) : Int))) = true → (0 ≤ t4 ∧ t4 < ((t0.1 : Nat) : Int))) <|
    ifs (bif (decide (e3 < ((t3.1 : Nat) : Int))) then ((t3.2 e3.toNat) == (t0.2 t4.toNat).f0) else false) (
      some (.next (t3, (IntKind.wrap .i64 (t4 + (1 : Int)))))) (
      chk (0 ≤ (0 : Int) ∧ (0 : Int) ≤ e3 ∧ e3 ≤ ((t3.1 : Nat) : Int)) <|
      chk (RoomOk (0 + ((e3).toNat - ((0 : Int)).toNat)) 8) <|
      chk (0 ≤ t4 ∧ t4 < ((t0.1 : Nat) : Int)) <|
      chk (RoomOk ((0 + ((e3).toNat - ((0 : Int)).toNat)) + 1) 8) <|
      chk (0 ≤ e3 ∧ e3 ≤ ((t3.1 : Nat) : Int) ∧ ((t3.1 : Nat) : Int) ≤ ((t3.1 : Nat) : Int)) <|
      chk (RoomOk (((0 + ((e3).toNat - ((0 : Int)).toNat)) + 1) + ((((t3.1 : Nat) : Int)).toNat - (e3).toNat)) 8) <|
      some (.next (((((0 + ((e3).toNat - ((0 : Int)).toNat)) + 1) + ((((t3.1 : Nat) : Int)).toNat - (e3).toNat)), (fun i => if i < ((0 + ((e3).toNat - ((0 : Int)).toNat)) + 1) then (fun i => if i < (0 + ((e3).toNat - ((0 : Int)).toNat)) then (fun i => if i < 0 then (fun i => ([] : List Int).getD i (0 : Int)) i else (fun i => t3.2 (((0 : Int)).toNat + i)) (i - 0)) i else (fun i => ([(t0.2 t4.toNat).f0] : List Int).getD i (0 : Int)) (i - (0 + ((e3).toNat - ((0 : Int)).toNat)))) i else (fun i => t3.2 ((e3).toNat + i)) (i - ((0 + ((e3).toNat - ((0 : Int)).toNat)) + 1)))), (IntKind.wrap .i64 (t4 + (1 : Int))))))) (
    some (.exit t3))

theorem run_ref19_Units_L1 (fu : Nat) (t0 : (Nat × (Nat → S_api_Change))) (t3 : (Nat × (Nat → Int))) (t4 : Int) {d : D} {o : (Lo ((Nat × (Nat → Int)) × Int) E_ref19_Units_L1 (Nat × (Nat → Int)))} (h : F_ref19_Units_L1 fu t0 t3 t4 = some o) (hk : (Lo.post (N_ref19_Units_L1 fu t0 d) (X_ref19_Units_L1 fu t0 d)) o) : Runs Try.prog Try.f20 0 T_ref19_Units_L1 [(0, (D.lit t0.1 32 fun i => (S_api_Change.d (t0.2 i)))), (3, (D.lit t3.1 1 fun i => (D.int .i64 (t3.2 i)))), (4, (D.int .i64 t4))] [] d [] := by
  unfold F_ref19_Units_L1 at h
  refine runs_regions 1 [([], [0, 3, 4, 9])] (z := ([], [(0, (D.lit t0.1 32 fun i => (S_api_Change.d (t0.2 i)))), (3, (D.lit t3.1 1 fun i => (D.int .i64 (t3.2 i)))), (4, (D.int .i64 t4)), (9, (D.bool (decide (t4 < ((t0.1 : Nat) : Int)))))], [])) rfl (by kernel_rfl) trivial ?_
  refine runs_if (b := (decide (t4 < ((t0.1 : Nat) : Int)))) (by kernel_rfl) (fun hb => ?_) (fun hb => ?_)
  · replace h := ifs_true h hb
    refine runs_regions 1 [([], [0, 3, 4, 5])] (z := ([], [(0, (D.lit t0.1 32 fun i => (S_api_Change.d (t0.2 i)))), (3, (D.lit t3.1 1 fun i => (D.int .i64 (t3.2 i)))), (4, (D.int .i64 t4)), (5, (D.int .i64 (0 : Int)))], [])) rfl (by kernel_rfl) trivial ?_
    refine runs_to (ts := [0, 3, 4, 5]) (T' := T_ref19_Units_L2) (env' := [(0, (D.lit t0.1 32 fun i => (S_api_Change.d (t0.2 i)))), (3, (D.lit t3.1 1 fun i => (D.int .i64 (t3.2 i)))), (4, (D.int .i64 t4)), (5, (D.int .i64 (0 : Int)))]) (h2 := []) (by kernel_rfl) (by kernel_rfl) trivial (Nat.zero_le _) trivial (And.intro (fun _ _ => (S_api_Change.inn _)) (And.intro (fun _ _ => trivial) (And.intro trivial (And.intro trivial trivial)))) ?_
    rcases after_some h with ⟨e3, hi, h⟩ | hi
    · refine iter_ref19_Units_L2 fu t0 t3 t4 fu (0 : Int) hi ?_
      show Runs Try.prog Try.f20 0 X_ref19_Units_L2T [(0, (D.lit t0.1 32 fun i => (S_api_Change.d (t0.2 i)))), (3, (D.lit t3.1 1 fun i => (D.int .i64 (t3.2 i)))), (4, (D.int .i64 t4)), (5, (D.int .i64 e3))] [] d []
      obtain ⟨p3, h⟩ := chk_some h
      obtain ⟨p4, h⟩ := chk_some h
      refine runs_regions 1 [([], [0, 3, 4, 5, 45])] (z := ([((decide (e3 < ((t3.1 : Nat) : Int))) = true → All [((decide (e3 < ((t3.1 : Nat) : Int))) = true → (decide (e3 < ((t3.1 : Nat) : Int))) = true), ((decide (e3 < ((t3.1 : Nat) : Int))) = true → (decide (e3 < ((t3.1 : Nat) : Int))) = true), (0 ≤ e3 ∧ e3 < ((t3.1 : Nat) : Int))]), ((decide (e3 < ((t3.1 : Nat) : Int))) = true → All [((decide (e3 < ((t3.1 : Nat) : Int))) = true → (decide (e3 < ((t3.1 : Nat) : Int))) = true)]), ((decide (e3 < ((t3.1 : Nat) : Int))) = true → All [((decide (e3 < ((t3.1 : Nat) : Int))) = true → (decide (e3 < ((t3.1 : Nat) : Int))) = true), ((decide (e3 < ((t3.1 : Nat) : Int))) = true → (decide (e3 < ((t3.1 : Nat) : Int))) = true), (0 ≤ t4 ∧ t4 < ((t0.1 : Nat) : Int))]), ((decide (e3 < ((t3.1 : Nat) : Int))) = true → All [((decide (e3 < ((t3.1 : Nat) : Int))) = true → (decide (e3 < ((t3.1 : Nat) : Int))) = true)]), ((decide (e3 < ((t3.1 : Nat) : Int))) = true → All [((decide (e3 < ((t3.1 : Nat) : Int))) = true → (decide (e3 < ((t3.1 : Nat) : Int))) = true)]), ((decide (e3 < ((t3.1 : Nat) : Int))) = true → All [((decide (e3 < ((t3.1 : Nat) : Int))) = true → (decide (e3 < ((t3.1 : Nat) : Int))) = true), ((decide (e3 < ((t3.1 : Nat) : Int))) = true → (decide (e3 < ((t3.1 : Nat) : Int))) = true)]), ((true && (decide (e3 < ((t3.1 : Nat) : Int)))) = true → (decide (e3 < ((t3.1 : Nat) : Int))) = true)], [(0, (D.lit t0.1 32 fun i => (S_api_Change.d (t0.2 i)))), (3, (D.lit t3.1 1 fun i => (D.int .i64 (t3.2 i)))), (4, (D.int .i64 t4)), (5, (D.int .i64 e3)), (45, (D.bool (bif (decide (e3 < ((t3.1 : Nat) : Int))) then ((t3.2 e3.toNat) == (t0.2 t4.toNat).f0) else false)))], [])) rfl (by kernel_rfl) (And.intro (fun hg => (And.intro (by first | exact fun h => h | exact fun h => (Bool.and_eq_true_iff.1 h).1 | simp_all) (And.intro (by first | exact fun h => h | exact fun h => (Bool.and_eq_true_iff.1 h).1 | simp_all) (And.intro (p3 hg) trivial)))) (And.intro (fun _ => (And.intro (by first | exact fun h => h | exact fun h => (Bool.and_eq_true_iff.1 h).1 | simp_all) trivial)) (And.intro (fun hg => (And.intro (by first | exact fun h => h | exact fun h => (Bool.and_eq_true_iff.1 h).1 | simp_all) (And.intro (by first | exact fun h => h | exact fun h => (Bool.and_eq_true_iff.1 h).1 | simp_all) (And.intro (p4 hg) trivial)))) (And.intro (fun _ => (And.intro (by first | exact fun h => h | exact fun h => (Bool.and_eq_true_iff.1 h).1 | simp_all) trivial)) (And.intro (fun _ => (And.intro (by first | exact fun h => h | exact fun h => (Bool.and_eq_true_iff.1 h).1 | simp_all) trivial)) (And.intro (fun _ => (And.intro (by first | exact fun h => h | exact fun h => (Bool.and_eq_true_iff.1 h).1 | simp_all) (And.intro (by first | exact fun h => h | exact fun h => (Bool.and_eq_true_iff.1 h).1 | simp_all) trivial))) (And.intro (by first | exact fun h => h | exact fun h => (Bool.and_eq_true_iff.1 h).1 | simp_all) trivial))))))) ?_
      refine runs_if (b := (bif (decide (e3 < ((t3.1 : Nat) : Int))) then ((t3.2 e3.toNat) == (t0.2 t4.toNat).f0) else false)) (by kernel_rfl) (fun hb => ?_) (fun hb => ?_)
      · replace h := ifs_true h hb
        refine runs_regions 1 [([], [0, 3, 4])] (z := ([], [(0, (D.lit t0.1 32 fun i => (S_api_Change.d (t0.2 i)))), (3, (D.lit t3.1 1 fun i => (D.int .i64 (t3.2 i)))), (4, (D.int .i64 (IntKind.wrap .i64 (t4 + (1 : Int)))))], [])) rfl (by kernel_rfl) trivial ?_
        rw [← Option.some.inj h] at hk
        refine runs_to (ts := [0, 3, 4]) (T' := T_ref19_Units_L1) (env' := [(0, (D.lit t0.1 32 fun i => (S_api_Change.d (t0.2 i)))), (3, (D.lit t3.1 1 fun i => (D.int .i64 (t3.2 i)))), (4, (D.int .i64 (IntKind.wrap .i64 (t4 + (1 : Int)))))]) (h2 := []) (by kernel_rfl) (by kernel_rfl) trivial (Nat.zero_le _) trivial (And.intro (fun _ _ => (S_api_Change.inn _)) (And.intro (fun _ _ => trivial) (And.intro trivial trivial))) ?_
        exact hk
      · replace h := ifs_false h hb
        obtain ⟨p5, h⟩ := chk_some h
        obtain ⟨p6, h⟩ := chk_some h
        obtain ⟨p7, h⟩ := chk_some h
        obtain ⟨p8, h⟩ := chk_some h
        obtain ⟨p9, h⟩ := chk_some h
        obtain ⟨p10, h⟩ := chk_some h
        refine runs_regions 2 [([(.own (D.ints .i64 0 (fun i => ([] : List Int).getD i (0 : Int)))), (.d (D.ints .i64 (0 + ((e3).toNat - ((0 : Int)).toNat)) (fun i => if i < 0 then (fun i => ([] : List Int).getD i (0 : Int)) i else (fun i => t3.2 (((0 : Int)).toNat + i)) (i - 0)))), (.lit fun i => (D.int .i64 ((fun i => ([(t0.2 t4.toNat).f0] : List Int).getD i (0 : Int)) i))), (.d (D.ints .i64 ((0 + ((e3).toNat - ((0 : Int)).toNat)) + 1) (fun i => if i < (0 + ((e3).toNat - ((0 : Int)).toNat)) then (fun i => if i < 0 then (fun i => ([] : List Int).getD i (0 : Int)) i else (fun i => t3.2 (((0 : Int)).toNat + i)) (i - 0)) i else (fun i => ([(t0.2 t4.toNat).f0] : List Int).getD i (0 : Int)) (i - (0 + ((e3).toNat - ((0 : Int)).toNat)))))), (.lit fun i => (D.int .i64 ((fun i => if i < ((0 + ((e3).toNat - ((0 : Int)).toNat)) + 1) then (fun i => if i < (0 + ((e3).toNat - ((0 : Int)).toNat)) then (fun i => if i < 0 then (fun i => ([] : List Int).getD i (0 : Int)) i else (fun i => t3.2 (((0 : Int)).toNat + i)) (i - 0)) i else (fun i => ([(t0.2 t4.toNat).f0] : List Int).getD i (0 : Int)) (i - (0 + ((e3).toNat - ((0 : Int)).toNat)))) i else (fun i => t3.2 ((e3).toNat + i)) (i - ((0 + ((e3).toNat - ((0 : Int)).toNat)) + 1))) i)))], [0, 3, 4]), ([], [0, 3, 4])] (z := ([TabOk [] 1 (D.ints .i64 0 (fun i => ([] : List Int).getD i (0 : Int))), (0 ≤ (0 : Int) ∧ (0 : Int) ≤ e3 ∧ e3 ≤ ((t3.1 : Nat) : Int)), (RoomOk (0 + ((e3).toNat - ((0 : Int)).toNat)) 8), CatOk (D.ints .i64 0 (fun i => ([] : List Int).getD i (0 : Int))) (D.arr ((e3).toNat - ((0 : Int)).toNat) 1 fun i => (D.int .i64 ((fun i => t3.2 (((0 : Int)).toNat + i)) i))) (D.ints .i64 (0 + ((e3).toNat - ((0 : Int)).toNat)) (fun i => if i < 0 then (fun i => ([] : List Int).getD i (0 : Int)) i else (fun i => t3.2 (((0 : Int)).toNat + i)) (i - 0))), (0 ≤ t4 ∧ t4 < ((t0.1 : Nat) : Int)), TabOk [(D.int .i64 (t0.2 t4.toNat).f0)] 1 (D.arr 1 1 fun i => (D.int .i64 ((fun i => ([(t0.2 t4.toNat).f0] : List Int).getD i (0 : Int)) i))), (RoomOk ((0 + ((e3).toNat - ((0 : Int)).toNat)) + 1) 8), CatOk (D.ints .i64 (0 + ((e3).toNat - ((0 : Int)).toNat)) (fun i => if i < 0 then (fun i => ([] : List Int).getD i (0 : Int)) i else (fun i => t3.2 (((0 : Int)).toNat + i)) (i - 0))) (D.arr 1 1 fun i => (D.int .i64 ((fun i => ([(t0.2 t4.toNat).f0] : List Int).getD i (0 : Int)) i))) (D.ints .i64 ((0 + ((e3).toNat - ((0 : Int)).toNat)) + 1) (fun i => if i < (0 + ((e3).toNat - ((0 : Int)).toNat)) then (fun i => if i < 0 then (fun i => ([] : List Int).getD i (0 : Int)) i else (fun i => t3.2 (((0 : Int)).toNat + i)) (i - 0)) i else (fun i => ([(t0.2 t4.toNat).f0] : List Int).getD i (0 : Int)) (i - (0 + ((e3).toNat - ((0 : Int)).toNat))))), (0 ≤ e3 ∧ e3 ≤ ((t3.1 : Nat) : Int) ∧ ((t3.1 : Nat) : Int) ≤ ((t3.1 : Nat) : Int)), (RoomOk (((0 + ((e3).toNat - ((0 : Int)).toNat)) + 1) + ((((t3.1 : Nat) : Int)).toNat - (e3).toNat)) 8), CatOk (D.ints .i64 ((0 + ((e3).toNat - ((0 : Int)).toNat)) + 1) (fun i => if i < (0 + ((e3).toNat - ((0 : Int)).toNat)) then (fun i => if i < 0 then (fun i => ([] : List Int).getD i (0 : Int)) i else (fun i => t3.2 (((0 : Int)).toNat + i)) (i - 0)) i else (fun i => ([(t0.2 t4.toNat).f0] : List Int).getD i (0 : Int)) (i - (0 + ((e3).toNat - ((0 : Int)).toNat))))) (D.arr ((((t3.1 : Nat) : Int)).toNat - (e3).toNat) 1 fun i => (D.int .i64 ((fun i => t3.2 ((e3).toNat + i)) i))) (D.arr (((0 + ((e3).toNat - ((0 : Int)).toNat)) + 1) + ((((t3.1 : Nat) : Int)).toNat - (e3).toNat)) 1 fun i1 => (D.int .i64 ((fun i => if i < ((0 + ((e3).toNat - ((0 : Int)).toNat)) + 1) then (fun i => if i < (0 + ((e3).toNat - ((0 : Int)).toNat)) then (fun i => if i < 0 then (fun i => ([] : List Int).getD i (0 : Int)) i else (fun i => t3.2 (((0 : Int)).toNat + i)) (i - 0)) i else (fun i => ([(t0.2 t4.toNat).f0] : List Int).getD i (0 : Int)) (i - (0 + ((e3).toNat - ((0 : Int)).toNat)))) i else (fun i => t3.2 ((e3).toNat + i)) (i - ((0 + ((e3).toNat - ((0 : Int)).toNat)) + 1))) i1)))], [(0, (D.lit t0.1 32 fun i => (S_api_Change.d (t0.2 i)))), (3, (D.lit (((0 + ((e3).toNat - ((0 : Int)).toNat)) + 1) + ((((t3.1 : Nat) : Int)).toNat - (e3).toNat)) 1 fun i1 => (D.int .i64 ((fun i => if i < ((0 + ((e3).toNat - ((0 : Int)).toNat)) + 1) then (fun i => if i < (0 + ((e3).toNat - ((0 : Int)).toNat)) then (fun i => if i < 0 then (fun i => ([] : List Int).getD i (0 : Int)) i else (fun i => t3.2 (((0 : Int)).toNat + i)) (i - 0)) i else (fun i => ([(t0.2 t4.toNat).f0] : List Int).getD i (0 : Int)) (i - (0 + ((e3).toNat - ((0 : Int)).toNat)))) i else (fun i => t3.2 ((e3).toNat + i)) (i - ((0 + ((e3).toNat - ((0 : Int)).toNat)) + 1))) i1)))), (4, (D.int .i64 (IntKind.wrap .i64 (t4 + (1 : Int)))))], [none, none, none, none])) rfl (by kernel_rfl) (And.intro (tabOk_ints rfl trivial) (And.intro p5 (And.intro p6 (And.intro (catOk_ints (f := (fun i => t3.2 (((0 : Int)).toNat + i))) rfl) (And.intro p7 (And.intro (tabOk_arr rfl (And.intro rfl trivial)) (And.intro p8 (And.intro (catOk_ints (f := (fun i => ([(t0.2 t4.toNat).f0] : List Int).getD i (0 : Int))) rfl) (And.intro p9 (And.intro p10 (And.intro (catOk_lit (f := (fun i => t3.2 ((e3).toNat + i))) rfl) trivial))))))))))) ?_
        rw [← Option.some.inj h] at hk
        refine runs_to (ts := [0, 3, 4]) (T' := T_ref19_Units_L1) (env' := [(0, (D.lit t0.1 32 fun i => (S_api_Change.d (t0.2 i)))), (3, (D.lit (((0 + ((e3).toNat - ((0 : Int)).toNat)) + 1) + ((((t3.1 : Nat) : Int)).toNat - (e3).toNat)) 1 fun i1 => (D.int .i64 ((fun i => if i < ((0 + ((e3).toNat - ((0 : Int)).toNat)) + 1) then (fun i => if i < (0 + ((e3).toNat - ((0 : Int)).toNat)) then (fun i => if i < 0 then (fun i => ([] : List Int).getD i (0 : Int)) i else (fun i => t3.2 (((0 : Int)).toNat + i)) (i - 0)) i else (fun i => ([(t0.2 t4.toNat).f0] : List Int).getD i (0 : Int)) (i - (0 + ((e3).toNat - ((0 : Int)).toNat)))) i else (fun i => t3.2 ((e3).toNat + i)) (i - ((0 + ((e3).toNat - ((0 : Int)).toNat)) + 1))) i1)))), (4, (D.int .i64 (IntKind.wrap .i64 (t4 + (1 : Int)))))]) (h2 := []) (by kernel_rfl) (by kernel_rfl) trivial (Nat.zero_le _) trivial (And.intro (fun _ _ => (S_api_Change.inn _)) (And.intro (fun _ _ => trivial) (And.intro trivial trivial))) ?_
        exact hk
    · exact iter_ref19_Units_L2 fu t0 t3 t4 fu (0 : Int) hi hk
  · replace h := ifs_false h hb
    rw [← Option.some.inj h] at hk
    refine runs_to (ts := [3]) (T' := X_ref19_Units_L1T) (env' := [(3, (D.lit t3.1 1 fun i => (D.int .i64 (t3.2 i))))]) (h2 := []) (by kernel_rfl) (by kernel_rfl) trivial (Nat.zero_le _) trivial (And.intro (fun _ _ => trivial) trivial) ?_
    exact hk

theorem iter_ref19_Units_L1 (fu : Nat) (t0 : (Nat × (Nat → S_api_Change))) {d : D} (k : Nat) (s : ((Nat × (Nat → Int)) × Int)) {o : E_ref19_Units_L1 ⊕ (Nat × (Nat → Int))} (h : iter (fun s => F_ref19_Units_L1 fu t0 s.1 s.2) k s = some o) (hx : X_ref19_Units_L1 fu t0 d o) : N_ref19_Units_L1 fu t0 d s :=
  iter_post (K := N_ref19_Units_L1 fu t0 d) (X := X_ref19_Units_L1 fu t0 d) (fun s _ h hk => run_ref19_Units_L1 fu t0 s.1 s.2 h hk) k s o h hx

/-- podesta/podestaref19.Units -/
def F_ref19_Units (fu : Nat) (t0 : (Nat × (Nat → S_api_Change))) : Option (Nat × (Nat → Int)) :=
  after (iter (fun s => F_ref19_Units_L1 fu t0 s.1 s.2) fu ((0, (fun _ => (0 : Int))), (0 : Int))) fun e12 =>
  some e12

theorem run_ref19_Units (fu : Nat) (t0 : (Nat × (Nat → S_api_Change))) {d : D} {r : (Nat × (Nat → Int))} (h : F_ref19_Units fu t0 = some r) (hk : (K_ref19_Units d) r) : Runs Try.prog Try.f20 0 T_ref19_Units [(0, (D.lit t0.1 32 fun i => (S_api_Change.d (t0.2 i))))] [] d [] := by
  unfold F_ref19_Units at h
  refine runs_regions 3 [([], [0]), ([], [0, 3]), ([], [0, 3, 4])] (z := ([], [(0, (D.lit t0.1 32 fun i => (S_api_Change.d (t0.2 i)))), (3, D.nils), (4, (D.int .i64 (0 : Int)))], [])) rfl (by kernel_rfl) trivial ?_
  refine runs_nils 3 1 (fun i => (D.int .i64 ((fun _ => (0 : Int)) i))) (by kernel_rfl) ?_
  refine runs_to (ts := [0, 3, 4]) (T' := T_ref19_Units_L1) (env' := [(0, (D.lit t0.1 32 fun i => (S_api_Change.d (t0.2 i)))), (3, (D.lit 0 1 fun i => (D.int .i64 ((fun _ => (0 : Int)) i)))), (4, (D.int .i64 (0 : Int)))]) (h2 := []) (by kernel_rfl) (by kernel_rfl) trivial (Nat.zero_le _) trivial (And.intro (fun _ _ => (S_api_Change.inn _)) (And.intro (fun _ _ => trivial) (And.intro trivial trivial))) ?_
  rcases after_some h with ⟨e12, hi, h⟩ | hi
  · refine iter_ref19_Units_L1 fu t0 fu ((0, (fun _ => (0 : Int))), (0 : Int)) hi ?_
    show Runs Try.prog Try.f20 0 X_ref19_Units_L1T [(3, (D.lit e12.1 1 fun i => (D.int .i64 (e12.2 i))))] [] d []
    refine runs_regions 1 [([], [2])] (z := ([], [(2, (D.lit e12.1 1 fun i => (D.int .i64 (e12.2 i))))], [])) rfl (by kernel_rfl) trivial ?_
    rw [← Option.some.inj h] at hk
    obtain rfl : d = (D.lit e12.1 1 fun i => (D.int .i64 (e12.2 i))) := hk
    exact runs_ret (by kernel_rfl) trivial (Nat.le_refl 0) trivial (fun _ _ => trivial)
  · exact iter_ref19_Units_L1 fu t0 fu ((0, (fun _ => (0 : Int))), (0 : Int)) hi hk

theorem fc_ref19_Units (fu : Nat) (t0 : (Nat × (Nat → S_api_Change))) {r : (Nat × (Nat → Int))} (h : F_ref19_Units fu t0 = some r) : FC Try.prog 20 [(D.lit t0.1 32 fun i => (S_api_Change.d (t0.2 i)))] [] (D.lit r.1 1 fun i => (D.int .i64 (r.2 i))) [] := by
  refine fc_of_runs (fn := Try.f20) (c := Try.f20.body.getD .skip) (by kernel_rfl) (by kernel_rfl) ?_
  refine runs_to (ts := [0]) (T' := T_ref19_Units) (env' := [(0, (D.lit t0.1 32 fun i => (S_api_Change.d (t0.2 i))))]) (h2 := []) (by kernel_rfl) (by kernel_rfl) trivial (Nat.le_refl _) trivial (And.intro (fun _ _ => (S_api_Change.inn _)) trivial) ?_
  exact run_ref19_Units fu t0 h rfl

def K_ref01_Ints (d : D) (r : Bool) : Prop := d = (D.bool r)

noncomputable def T_ref01_Ints : List Item := norm 200 [.code (Try.f18.body.getD .skip)]

noncomputable def T_ref01_Ints_L1 : List Item := norm 200 (nxt (cndF (nxt (nxt T_ref01_Ints))))

noncomputable def X_ref01_Ints_L1T : List Item := norm 200 (cndF (nxt (nxt (cndF (nxt (nxt T_ref01_Ints))))))

abbrev E_ref01_Ints_L1 := Unit

def N_ref01_Ints_L1 (_fu : Nat) (t0 : (Nat × (Nat → Int))) (t1 : (Nat × (Nat → Int))) (d : D) (s : Int) : Prop := Runs Try.prog Try.f18 0 T_ref01_Ints_L1 [(0, (D.lit t0.1 1 fun i => (D.int .i64 (t0.2 i)))), (1, (D.lit t1.1 1 fun i => (D.int .i64 (t1.2 i)))), (5, (D.int .i64 s))] [] d []

def X_ref01_Ints_L1 (_fu : Nat) (_t0 : (Nat × (Nat → Int))) (_t1 : (Nat × (Nat → Int))) (d : D) : E_ref01_Ints_L1 ⊕ Bool → Prop
  | .inl _ => Runs Try.prog Try.f18 0 X_ref01_Ints_L1T [] [] d []
  | .inr o => (K_ref01_Ints d) o

def F_ref01_Ints_L1 (_fu : Nat) (t0 : (Nat × (Nat → Int))) (t1 : (Nat × (Nat → Int))) (t5 : Int) : Option (Lo Int E_ref01_Ints_L1 Bool) :=
  ifs (decide (t5 < ((t0.1 : Nat) : Int))) (
    chk (0 ≤ t5 ∧ t5 < ((t0.1 : Nat) : Int)) <|
    chk (0 ≤ t5 ∧ t5 < ((t1.1 : Nat) : Int)) <|
    ifs ((t0.2 t5.toNat) != (t1.2 t5.toNat)) (
      some (.ret false)) (
      some (.next (IntKind.wrap .i64 (t5 + (1 : Int)))))) (
    some (.exit ()))

theorem run_ref01_Ints_L1 (fu : Nat) (t0 : (Nat × (Nat → Int))) (t1 : (Nat × (Nat → Int))) (t5 : Int) {d : D} {o : (Lo Int E_ref01_Ints_L1 Bool)} (h : F_ref01_Ints_L1 fu t0 t1 t5 = some o) (hk : (Lo.post (N_ref01_Ints_L1 fu t0 t1 d) (X_ref01_Ints_L1 fu t0 t1 d)) o) : Runs Try.prog Try.f18 0 T_ref01_Ints_L1 [(0, (D.lit t0.1 1 fun i => (D.int .i64 (t0.2 i)))), (1, (D.lit t1.1 1 fun i => (D.int .i64 (t1.2 i)))), (5, (D.int .i64 t5))] [] d [] := by
  unfold F_ref01_Ints_L1 at h
  refine runs_regions 1 [([], [0, 1, 5, 14])] (z := ([], [(0, (D.lit t0.1 1 fun i => (D.int .i64 (t0.2 i)))), (1, (D.lit t1.1 1 fun i => (D.int .i64 (t1.2 i)))), (5, (D.int .i64 t5)), (14, (D.bool (decide (t5 < ((t0.1 : Nat) : Int)))))], [])) rfl (by kernel_rfl) trivial ?_
  refine runs_if (b := (decide (t5 < ((t0.1 : Nat) : Int)))) (by kernel_rfl) (fun hb => ?_) (fun hb => ?_)
  · replace h := ifs_true h hb
    obtain ⟨p0, h⟩ := chk_some h
    obtain ⟨p1, h⟩ := chk_some h
    refine runs_regions 1 [([], [0, 1, 5, 25])] (z := ([(0 ≤ t5 ∧ t5 < ((t0.1 : Nat) : Int)), (0 ≤ t5 ∧ t5 < ((t1.1 : Nat) : Int))], [(0, (D.lit t0.1 1 fun i => (D.int .i64 (t0.2 i)))), (1, (D.lit t1.1 1 fun i => (D.int .i64 (t1.2 i)))), (5, (D.int .i64 t5)), (25, (D.bool ((t0.2 t5.toNat) != (t1.2 t5.toNat))))], [])) rfl (by kernel_rfl) (And.intro p0 (And.intro p1 trivial)) ?_
    refine runs_if (b := ((t0.2 t5.toNat) != (t1.2 t5.toNat))) (by kernel_rfl) (fun hb => ?_) (fun hb => ?_)
    · replace h := ifs_true h hb
      refine runs_regions 1 [([], [4])] (z := ([], [(4, (D.bool false))], [])) rfl (by kernel_rfl) trivial ?_
      rw [← Option.some.inj h] at hk
      obtain rfl : d = (D.bool false) := hk
      exact runs_ret (by kernel_rfl) trivial (Nat.le_refl 0) trivial trivial
    · replace h := ifs_false h hb
      refine runs_regions 1 [([], [0, 1, 5])] (z := ([], [(0, (D.lit t0.1 1 fun i => (D.int .i64 (t0.2 i)))), (1, (D.lit t1.1 1 fun i => (D.int .i64 (t1.2 i)))), (5, (D.int .i64 (IntKind.wrap .i64 (t5 + (1 : Int)))))], [])) rfl (by kernel_rfl) trivial ?_
      rw [← Option.some.inj h] at hk
      refine runs_to (ts := [0, 1, 5]) (T' := T_ref01_Ints_L1) (env' := [(0, (D.lit t0.1 1 fun i => (D.int .i64 (t0.2 i)))), (1, (D.lit t1.1 1 fun i => (D.int .i64 (t1.2 i)))), (5, (D.int .i64 (IntKind.wrap .i64 (t5 + (1 : Int)))))]) (h2 := []) (by kernel_rfl) (by kernel_rfl) trivial (Nat.zero_le _) trivial (And.intro (fun _ _ => trivial) (And.intro (fun _ _ => trivial) (And.intro trivial trivial))) ?_
      exact hk
  · replace h := ifs_false h hb
    rw [← Option.some.inj h] at hk
    refine runs_to (ts := []) (T' := X_ref01_Ints_L1T) (env' := []) (h2 := []) (by kernel_rfl) (by kernel_rfl) trivial (Nat.zero_le _) trivial trivial ?_
    exact hk

theorem iter_ref01_Ints_L1 (fu : Nat) (t0 : (Nat × (Nat → Int))) (t1 : (Nat × (Nat → Int))) {d : D} (k : Nat) (s : Int) {o : E_ref01_Ints_L1 ⊕ Bool} (h : iter (fun s => F_ref01_Ints_L1 fu t0 t1 s) k s = some o) (hx : X_ref01_Ints_L1 fu t0 t1 d o) : N_ref01_Ints_L1 fu t0 t1 d s :=
  iter_post (K := N_ref01_Ints_L1 fu t0 t1 d) (X := X_ref01_Ints_L1 fu t0 t1 d) (fun s _ h hk => run_ref01_Ints_L1 fu t0 t1 s h hk) k s o h hx

/-- podesta/podestaref01.Ints -/
def F_ref01_Ints (fu : Nat) (t0 : (Nat × (Nat → Int))) (t1 : (Nat × (Nat → Int))) : Option Bool :=
  ifs (((t0.1 : Nat) : Int) != ((t1.1 : Nat) : Int)) (
    some false) (
    after (iter (fun s => F_ref01_Ints_L1 fu t0 t1 s) fu (0 : Int)) fun _ =>
    some true)

theorem run_ref01_Ints (fu : Nat) (t0 : (Nat × (Nat → Int))) (t1 : (Nat × (Nat → Int))) {d : D} {r : Bool} (h : F_ref01_Ints fu t0 t1 = some r) (hk : (K_ref01_Ints d) r) : Runs Try.prog Try.f18 0 T_ref01_Ints [(0, (D.lit t0.1 1 fun i => (D.int .i64 (t0.2 i)))), (1, (D.lit t1.1 1 fun i => (D.int .i64 (t1.2 i))))] [] d [] := by
  unfold F_ref01_Ints at h
  refine runs_regions 2 [([], [0, 1]), ([], [0, 1, 10])] (z := ([], [(0, (D.lit t0.1 1 fun i => (D.int .i64 (t0.2 i)))), (1, (D.lit t1.1 1 fun i => (D.int .i64 (t1.2 i)))), (10, (D.bool (((t0.1 : Nat) : Int) != ((t1.1 : Nat) : Int))))], [])) rfl (by kernel_rfl) trivial ?_
  refine runs_if (b := (((t0.1 : Nat) : Int) != ((t1.1 : Nat) : Int))) (by kernel_rfl) (fun hb => ?_) (fun hb => ?_)
  · replace h := ifs_true h hb
    refine runs_regions 1 [([], [4])] (z := ([], [(4, (D.bool false))], [])) rfl (by kernel_rfl) trivial ?_
    rw [← Option.some.inj h] at hk
    obtain rfl : d = (D.bool false) := hk
    exact runs_ret (by kernel_rfl) trivial (Nat.le_refl 0) trivial trivial
  · replace h := ifs_false h hb
    refine runs_regions 1 [([], [0, 1, 5])] (z := ([], [(0, (D.lit t0.1 1 fun i => (D.int .i64 (t0.2 i)))), (1, (D.lit t1.1 1 fun i => (D.int .i64 (t1.2 i)))), (5, (D.int .i64 (0 : Int)))], [])) rfl (by kernel_rfl) trivial ?_
    refine runs_to (ts := [0, 1, 5]) (T' := T_ref01_Ints_L1) (env' := [(0, (D.lit t0.1 1 fun i => (D.int .i64 (t0.2 i)))), (1, (D.lit t1.1 1 fun i => (D.int .i64 (t1.2 i)))), (5, (D.int .i64 (0 : Int)))]) (h2 := []) (by kernel_rfl) (by kernel_rfl) trivial (Nat.zero_le _) trivial (And.intro (fun _ _ => trivial) (And.intro (fun _ _ => trivial) (And.intro trivial trivial))) ?_
    rcases after_some h with ⟨e3, hi, h⟩ | hi
    · refine iter_ref01_Ints_L1 fu t0 t1 fu (0 : Int) hi ?_
      show Runs Try.prog Try.f18 0 X_ref01_Ints_L1T [] [] d []
      refine runs_regions 1 [([], [4])] (z := ([], [(4, (D.bool true))], [])) rfl (by kernel_rfl) trivial ?_
      rw [← Option.some.inj h] at hk
      obtain rfl : d = (D.bool true) := hk
      exact runs_ret (by kernel_rfl) trivial (Nat.le_refl 0) trivial trivial
    · exact iter_ref01_Ints_L1 fu t0 t1 fu (0 : Int) hi hk

theorem fc_ref01_Ints (fu : Nat) (t0 : (Nat × (Nat → Int))) (t1 : (Nat × (Nat → Int))) {r : Bool} (h : F_ref01_Ints fu t0 t1 = some r) : FC Try.prog 18 [(D.lit t0.1 1 fun i => (D.int .i64 (t0.2 i))), (D.lit t1.1 1 fun i => (D.int .i64 (t1.2 i)))] [] (D.bool r) [] := by
  refine fc_of_runs (fn := Try.f18) (c := Try.f18.body.getD .skip) (by kernel_rfl) (by kernel_rfl) ?_
  refine runs_to (ts := [0, 1]) (T' := T_ref01_Ints) (env' := [(0, (D.lit t0.1 1 fun i => (D.int .i64 (t0.2 i)))), (1, (D.lit t1.1 1 fun i => (D.int .i64 (t1.2 i))))]) (h2 := []) (by kernel_rfl) (by kernel_rfl) trivial (Nat.le_refl _) trivial (And.intro (fun _ _ => trivial) (And.intro (fun _ _ => trivial) trivial)) ?_
  exact run_ref01_Ints fu t0 t1 h rfl

def K_ref04_SameActs (d : D) (r : Bool) : Prop := d = (D.bool r)

noncomputable def T_ref04_SameActs : List Item := norm 200 [.code (Try.f51.body.getD .skip)]

noncomputable def T_ref04_SameActs_L1 : List Item := norm 200 (nxt (cndF (nxt (nxt T_ref04_SameActs))))

noncomputable def X_ref04_SameActs_L1T : List Item := norm 200 (cndF (nxt (nxt (cndF (nxt (nxt T_ref04_SameActs))))))

abbrev E_ref04_SameActs_L1 := Unit

def N_ref04_SameActs_L1 (_fu : Nat) (t0 : (Nat × (Nat → S_api_Act))) (t1 : (Nat × (Nat → S_api_Act))) (d : D) (s : Int) : Prop := Runs Try.prog Try.f51 0 T_ref04_SameActs_L1 [(0, (D.lit t0.1 4 fun i => (S_api_Act.d (t0.2 i)))), (1, (D.lit t1.1 4 fun i => (S_api_Act.d (t1.2 i)))), (5, (D.int .i64 s))] [] d []

def X_ref04_SameActs_L1 (_fu : Nat) (_t0 : (Nat × (Nat → S_api_Act))) (_t1 : (Nat × (Nat → S_api_Act))) (d : D) : E_ref04_SameActs_L1 ⊕ Bool → Prop
  | .inl _ => Runs Try.prog Try.f51 0 X_ref04_SameActs_L1T [] [] d []
  | .inr o => (K_ref04_SameActs d) o

def F_ref04_SameActs_L1 (_fu : Nat) (t0 : (Nat × (Nat → S_api_Act))) (t1 : (Nat × (Nat → S_api_Act))) (t5 : Int) : Option (Lo Int E_ref04_SameActs_L1 Bool) :=
  ifs (decide (t5 < ((t0.1 : Nat) : Int))) (
    chk (0 ≤ t5 ∧ t5 < ((t0.1 : Nat) : Int)) <|
    chk (0 ≤ t5 ∧ t5 < ((t1.1 : Nat) : Int)) <|
    ifs (!(((t0.2 t5.toNat).f0 == (t1.2 t5.toNat).f0) && (((t0.2 t5.toNat).f1 == (t1.2 t5.toNat).f1) && (((t0.2 t5.toNat).f2 == (t1.2 t5.toNat).f2) && (((t0.2 t5.toNat).f3 == (t1.2 t5.toNat).f3) && true))))) (
      some (.ret false)) (
      some (.next (IntKind.wrap .i64 (t5 + (1 : Int)))))) (
    some (.exit ()))

theorem run_ref04_SameActs_L1 (fu : Nat) (t0 : (Nat × (Nat → S_api_Act))) (t1 : (Nat × (Nat → S_api_Act))) (t5 : Int) {d : D} {o : (Lo Int E_ref04_SameActs_L1 Bool)} (h : F_ref04_SameActs_L1 fu t0 t1 t5 = some o) (hk : (Lo.post (N_ref04_SameActs_L1 fu t0 t1 d) (X_ref04_SameActs_L1 fu t0 t1 d)) o) : Runs Try.prog Try.f51 0 T_ref04_SameActs_L1 [(0, (D.lit t0.1 4 fun i => (S_api_Act.d (t0.2 i)))), (1, (D.lit t1.1 4 fun i => (S_api_Act.d (t1.2 i)))), (5, (D.int .i64 t5))] [] d [] := by
  unfold F_ref04_SameActs_L1 at h
  refine runs_regions 1 [([], [0, 1, 5, 14])] (z := ([], [(0, (D.lit t0.1 4 fun i => (S_api_Act.d (t0.2 i)))), (1, (D.lit t1.1 4 fun i => (S_api_Act.d (t1.2 i)))), (5, (D.int .i64 t5)), (14, (D.bool (decide (t5 < ((t0.1 : Nat) : Int)))))], [])) rfl (by kernel_rfl) trivial ?_
  refine runs_if (b := (decide (t5 < ((t0.1 : Nat) : Int)))) (by kernel_rfl) (fun hb => ?_) (fun hb => ?_)
  · replace h := ifs_true h hb
    obtain ⟨p0, h⟩ := chk_some h
    obtain ⟨p1, h⟩ := chk_some h
    refine runs_regions 1 [([], [0, 1, 5, 25])] (z := ([(0 ≤ t5 ∧ t5 < ((t0.1 : Nat) : Int)), (0 ≤ t5 ∧ t5 < ((t1.1 : Nat) : Int))], [(0, (D.lit t0.1 4 fun i => (S_api_Act.d (t0.2 i)))), (1, (D.lit t1.1 4 fun i => (S_api_Act.d (t1.2 i)))), (5, (D.int .i64 t5)), (25, (D.bool (!(((t0.2 t5.toNat).f0 == (t1.2 t5.toNat).f0) && (((t0.2 t5.toNat).f1 == (t1.2 t5.toNat).f1) && (((t0.2 t5.toNat).f2 == (t1.2 t5.toNat).f2) && (((t0.2 t5.toNat).f3 == (t1.2 t5.toNat).f3) && true)))))))], [])) rfl (by kernel_rfl) (And.intro p0 (And.intro p1 trivial)) ?_
    refine runs_if (b := (!(((t0.2 t5.toNat).f0 == (t1.2 t5.toNat).f0) && (((t0.2 t5.toNat).f1 == (t1.2 t5.toNat).f1) && (((t0.2 t5.toNat).f2 == (t1.2 t5.toNat).f2) && (((t0.2 t5.toNat).f3 == (t1.2 t5.toNat).f3) && true)))))) (by kernel_rfl) (fun hb => ?_) (fun hb => ?_)
    · replace h := ifs_true h hb
      refine runs_regions 1 [([], [4])] (z := ([], [(4, (D.bool false))], [])) rfl (by kernel_rfl) trivial ?_
      rw [← Option.some.inj h] at hk
      obtain rfl : d = (D.bool false) := hk
      exact runs_ret (by kernel_rfl) trivial (Nat.le_refl 0) trivial trivial
    · replace h := ifs_false h hb
      refine runs_regions 1 [([], [0, 1, 5])] (z := ([], [(0, (D.lit t0.1 4 fun i => (S_api_Act.d (t0.2 i)))), (1, (D.lit t1.1 4 fun i => (S_api_Act.d (t1.2 i)))), (5, (D.int .i64 (IntKind.wrap .i64 (t5 + (1 : Int)))))], [])) rfl (by kernel_rfl) trivial ?_
      rw [← Option.some.inj h] at hk
      refine runs_to (ts := [0, 1, 5]) (T' := T_ref04_SameActs_L1) (env' := [(0, (D.lit t0.1 4 fun i => (S_api_Act.d (t0.2 i)))), (1, (D.lit t1.1 4 fun i => (S_api_Act.d (t1.2 i)))), (5, (D.int .i64 (IntKind.wrap .i64 (t5 + (1 : Int)))))]) (h2 := []) (by kernel_rfl) (by kernel_rfl) trivial (Nat.zero_le _) trivial (And.intro (fun _ _ => (S_api_Act.inn _)) (And.intro (fun _ _ => (S_api_Act.inn _)) (And.intro trivial trivial))) ?_
      exact hk
  · replace h := ifs_false h hb
    rw [← Option.some.inj h] at hk
    refine runs_to (ts := []) (T' := X_ref04_SameActs_L1T) (env' := []) (h2 := []) (by kernel_rfl) (by kernel_rfl) trivial (Nat.zero_le _) trivial trivial ?_
    exact hk

theorem iter_ref04_SameActs_L1 (fu : Nat) (t0 : (Nat × (Nat → S_api_Act))) (t1 : (Nat × (Nat → S_api_Act))) {d : D} (k : Nat) (s : Int) {o : E_ref04_SameActs_L1 ⊕ Bool} (h : iter (fun s => F_ref04_SameActs_L1 fu t0 t1 s) k s = some o) (hx : X_ref04_SameActs_L1 fu t0 t1 d o) : N_ref04_SameActs_L1 fu t0 t1 d s :=
  iter_post (K := N_ref04_SameActs_L1 fu t0 t1 d) (X := X_ref04_SameActs_L1 fu t0 t1 d) (fun s _ h hk => run_ref04_SameActs_L1 fu t0 t1 s h hk) k s o h hx

/-- podesta/podestaref04.SameActs -/
def F_ref04_SameActs (fu : Nat) (t0 : (Nat × (Nat → S_api_Act))) (t1 : (Nat × (Nat → S_api_Act))) : Option Bool :=
  ifs (((t0.1 : Nat) : Int) != ((t1.1 : Nat) : Int)) (
    some false) (
    after (iter (fun s => F_ref04_SameActs_L1 fu t0 t1 s) fu (0 : Int)) fun _ =>
    some true)

theorem run_ref04_SameActs (fu : Nat) (t0 : (Nat × (Nat → S_api_Act))) (t1 : (Nat × (Nat → S_api_Act))) {d : D} {r : Bool} (h : F_ref04_SameActs fu t0 t1 = some r) (hk : (K_ref04_SameActs d) r) : Runs Try.prog Try.f51 0 T_ref04_SameActs [(0, (D.lit t0.1 4 fun i => (S_api_Act.d (t0.2 i)))), (1, (D.lit t1.1 4 fun i => (S_api_Act.d (t1.2 i))))] [] d [] := by
  unfold F_ref04_SameActs at h
  refine runs_regions 2 [([], [0, 1]), ([], [0, 1, 10])] (z := ([], [(0, (D.lit t0.1 4 fun i => (S_api_Act.d (t0.2 i)))), (1, (D.lit t1.1 4 fun i => (S_api_Act.d (t1.2 i)))), (10, (D.bool (((t0.1 : Nat) : Int) != ((t1.1 : Nat) : Int))))], [])) rfl (by kernel_rfl) trivial ?_
  refine runs_if (b := (((t0.1 : Nat) : Int) != ((t1.1 : Nat) : Int))) (by kernel_rfl) (fun hb => ?_) (fun hb => ?_)
  · replace h := ifs_true h hb
    refine runs_regions 1 [([], [4])] (z := ([], [(4, (D.bool false))], [])) rfl (by kernel_rfl) trivial ?_
    rw [← Option.some.inj h] at hk
    obtain rfl : d = (D.bool false) := hk
    exact runs_ret (by kernel_rfl) trivial (Nat.le_refl 0) trivial trivial
  · replace h := ifs_false h hb
    refine runs_regions 1 [([], [0, 1, 5])] (z := ([], [(0, (D.lit t0.1 4 fun i => (S_api_Act.d (t0.2 i)))), (1, (D.lit t1.1 4 fun i => (S_api_Act.d (t1.2 i)))), (5, (D.int .i64 (0 : Int)))], [])) rfl (by kernel_rfl) trivial ?_
    refine runs_to (ts := [0, 1, 5]) (T' := T_ref04_SameActs_L1) (env' := [(0, (D.lit t0.1 4 fun i => (S_api_Act.d (t0.2 i)))), (1, (D.lit t1.1 4 fun i => (S_api_Act.d (t1.2 i)))), (5, (D.int .i64 (0 : Int)))]) (h2 := []) (by kernel_rfl) (by kernel_rfl) trivial (Nat.zero_le _) trivial (And.intro (fun _ _ => (S_api_Act.inn _)) (And.intro (fun _ _ => (S_api_Act.inn _)) (And.intro trivial trivial))) ?_
    rcases after_some h with ⟨e3, hi, h⟩ | hi
    · refine iter_ref04_SameActs_L1 fu t0 t1 fu (0 : Int) hi ?_
      show Runs Try.prog Try.f51 0 X_ref04_SameActs_L1T [] [] d []
      refine runs_regions 1 [([], [4])] (z := ([], [(4, (D.bool true))], [])) rfl (by kernel_rfl) trivial ?_
      rw [← Option.some.inj h] at hk
      obtain rfl : d = (D.bool true) := hk
      exact runs_ret (by kernel_rfl) trivial (Nat.le_refl 0) trivial trivial
    · exact iter_ref04_SameActs_L1 fu t0 t1 fu (0 : Int) hi hk

theorem fc_ref04_SameActs (fu : Nat) (t0 : (Nat × (Nat → S_api_Act))) (t1 : (Nat × (Nat → S_api_Act))) {r : Bool} (h : F_ref04_SameActs fu t0 t1 = some r) : FC Try.prog 51 [(D.lit t0.1 4 fun i => (S_api_Act.d (t0.2 i))), (D.lit t1.1 4 fun i => (S_api_Act.d (t1.2 i)))] [] (D.bool r) [] := by
  refine fc_of_runs (fn := Try.f51) (c := Try.f51.body.getD .skip) (by kernel_rfl) (by kernel_rfl) ?_
  refine runs_to (ts := [0, 1]) (T' := T_ref04_SameActs) (env' := [(0, (D.lit t0.1 4 fun i => (S_api_Act.d (t0.2 i)))), (1, (D.lit t1.1 4 fun i => (S_api_Act.d (t1.2 i))))]) (h2 := []) (by kernel_rfl) (by kernel_rfl) trivial (Nat.le_refl _) trivial (And.intro (fun _ _ => (S_api_Act.inn _)) (And.intro (fun _ _ => (S_api_Act.inn _)) trivial)) ?_
  exact run_ref04_SameActs fu t0 t1 h rfl

def K_ref04_SameMods (d : D) (r : Bool) : Prop := d = (D.bool r)

noncomputable def T_ref04_SameMods : List Item := norm 200 [.code (Try.f21.body.getD .skip)]

/-- podesta/podestaref04.SameMods -/
def F_ref04_SameMods (fu : Nat) (t0 : S_api_Mod) (t1 : S_api_Mod) : Option Bool :=
  (callIf (bif (bif (t0.f0 == t1.f0) then (((List.range 12).all fun i => t0.f1.f0 i == t1.f1.f0 i) && (((List.range 12).all fun i => t0.f1.f1 i == t1.f1.f1 i) && true)) else false) then (t0.f2 == t1.f2) else false) (F_ref04_SameActs fu t0.f3 t1.f3) false).bind fun r0 =>
  some (bif (bif (bif (bif (bif (bif (bif (t0.f0 == t1.f0) then (((List.range 12).all fun i => t0.f1.f0 i == t1.f1.f0 i) && (((List.range 12).all fun i => t0.f1.f1 i == t1.f1.f1 i) && true)) else false) then (t0.f2 == t1.f2) else false) then r0 else false) then (t0.f4 == t1.f4) else false) then (t0.f5 == t1.f5) else false) then (t0.f6 == t1.f6) else false) then (t0.f7 == t1.f7) else false)

theorem run_ref04_SameMods (fu : Nat) (t0 : S_api_Mod) (t1 : S_api_Mod) {d : D} {r : Bool} (h : F_ref04_SameMods fu t0 t1 = some r) (hk : (K_ref04_SameMods d) r) : Runs Try.prog Try.f21 0 T_ref04_SameMods [(0, (S_api_Mod.d t0)), (1, (S_api_Mod.d t1))] [] d [] := by
  unfold F_ref04_SameMods at h
  obtain ⟨r0, cr0, h⟩ := Option.bind_eq_some_iff.1 h
  refine runs_regions 2 [([], [2, 3]), ([(.d (D.bool r0))], [4])] (z := ([((t0.f0 == t1.f0) = true → All [((t0.f0 == t1.f0) = true → (t0.f0 == t1.f0) = true)]), ((t0.f0 == t1.f0) = true → All [((t0.f0 == t1.f0) = true → (t0.f0 == t1.f0) = true)]), ((t0.f0 == t1.f0) = true → All [((t0.f0 == t1.f0) = true → (t0.f0 == t1.f0) = true), ((t0.f0 == t1.f0) = true → (t0.f0 == t1.f0) = true)]), ((true && (t0.f0 == t1.f0)) = true → (t0.f0 == t1.f0) = true), ((bif (t0.f0 == t1.f0) then (((List.range 12).all fun i => t0.f1.f0 i == t1.f1.f0 i) && (((List.range 12).all fun i => t0.f1.f1 i == t1.f1.f1 i) && true)) else false) = true → All [((bif (t0.f0 == t1.f0) then (((List.range 12).all fun i => t0.f1.f0 i == t1.f1.f0 i) && (((List.range 12).all fun i => t0.f1.f1 i == t1.f1.f1 i) && true)) else false) = true → (bif (t0.f0 == t1.f0) then (((List.range 12).all fun i => t0.f1.f0 i == t1.f1.f0 i) && (((List.range 12).all fun i => t0.f1.f1 i == t1.f1.f1 i) && true)) else false) = true)]), ((bif (t0.f0 == t1.f0) then (((List.range 12).all fun i => t0.f1.f0 i == t1.f1.f0 i) && (((List.range 12).all fun i => t0.f1.f1 i == t1.f1.f1 i) && true)) else false) = true → All [((bif (t0.f0 == t1.f0) then (((List.range 12).all fun i => t0.f1.f0 i == t1.f1.f0 i) && (((List.range 12).all fun i => t0.f1.f1 i == t1.f1.f1 i) && true)) else false) = true → (bif (t0.f0 == t1.f0) then (((List.range 12).all fun i => t0.f1.f0 i == t1.f1.f0 i) && (((List.range 12).all fun i => t0.f1.f1 i == t1.f1.f1 i) && true)) else false) = true)]), ((bif (t0.f0 == t1.f0) then (((List.range 12).all fun i => t0.f1.f0 i == t1.f1.f0 i) && (((List.range 12).all fun i => t0.f1.f1 i == t1.f1.f1 i) && true)) else false) = true → All [((bif (t0.f0 == t1.f0) then (((List.range 12).all fun i => t0.f1.f0 i == t1.f1.f0 i) && (((List.range 12).all fun i => t0.f1.f1 i == t1.f1.f1 i) && true)) else false) = true → (bif (t0.f0 == t1.f0) then (((List.range 12).all fun i => t0.f1.f0 i == t1.f1.f0 i) && (((List.range 12).all fun i => t0.f1.f1 i == t1.f1.f1 i) && true)) else false) = true), ((bif (t0.f0 == t1.f0) then (((List.range 12).all fun i => t0.f1.f0 i == t1.f1.f0 i) && (((List.range 12).all fun i => t0.f1.f1 i == t1.f1.f1 i) && true)) else false) = true → (bif (t0.f0 == t1.f0) then (((List.range 12).all fun i => t0.f1.f0 i == t1.f1.f0 i) && (((List.range 12).all fun i => t0.f1.f1 i == t1.f1.f1 i) && true)) else false) = true)]), ((true && (bif (t0.f0 == t1.f0) then (((List.range 12).all fun i => t0.f1.f0 i == t1.f1.f0 i) && (((List.range 12).all fun i => t0.f1.f1 i == t1.f1.f1 i) && true)) else false)) = true → (bif (t0.f0 == t1.f0) then (((List.range 12).all fun i => t0.f1.f0 i == t1.f1.f0 i) && (((List.range 12).all fun i => t0.f1.f1 i == t1.f1.f1 i) && true)) else false) = true), ((bif (bif (t0.f0 == t1.f0) then (((List.range 12).all fun i => t0.f1.f0 i == t1.f1.f0 i) && (((List.range 12).all fun i => t0.f1.f1 i == t1.f1.f1 i) && true)) else false) then (t0.f2 == t1.f2) else false) = true → All [((bif (bif (t0.f0 == t1.f0) then (((List.range 12).all fun i => t0.f1.f0 i == t1.f1.f0 i) && (((List.range 12).all fun i => t0.f1.f1 i == t1.f1.f1 i) && true)) else false) then (t0.f2 == t1.f2) else false) = true → (bif (bif (t0.f0 == t1.f0) then (((List.range 12).all fun i => t0.f1.f0 i == t1.f1.f0 i) && (((List.range 12).all fun i => t0.f1.f1 i == t1.f1.f1 i) && true)) else false) then (t0.f2 == t1.f2) else false) = true)]), ((bif (bif (t0.f0 == t1.f0) then (((List.range 12).all fun i => t0.f1.f0 i == t1.f1.f0 i) && (((List.range 12).all fun i => t0.f1.f1 i == t1.f1.f1 i) && true)) else false) then (t0.f2 == t1.f2) else false) = true → All [((bif (bif (t0.f0 == t1.f0) then (((List.range 12).all fun i => t0.f1.f0 i == t1.f1.f0 i) && (((List.range 12).all fun i => t0.f1.f1 i == t1.f1.f1 i) && true)) else false) then (t0.f2 == t1.f2) else false) = true → (bif (bif (t0.f0 == t1.f0) then (((List.range 12).all fun i => t0.f1.f0 i == t1.f1.f0 i) && (((List.range 12).all fun i => t0.f1.f1 i == t1.f1.f1 i) && true)) else false) then (t0.f2 == t1.f2) else false) = true)]), ((bif (bif (t0.f0 == t1.f0) then (((List.range 12).all fun i => t0.f1.f0 i == t1.f1.f0 i) && (((List.range 12).all fun i => t0.f1.f1 i == t1.f1.f1 i) && true)) else false) then (t0.f2 == t1.f2) else false) = true → All [((bif (bif (t0.f0 == t1.f0) then (((List.range 12).all fun i => t0.f1.f0 i == t1.f1.f0 i) && (((List.range 12).all fun i => t0.f1.f1 i == t1.f1.f1 i) && true)) else false) then (t0.f2 == t1.f2) else false) = true → (bif (bif (t0.f0 == t1.f0) then (((List.range 12).all fun i => t0.f1.f0 i == t1.f1.f0 i) && (((List.range 12).all fun i => t0.f1.f1 i == t1.f1.f1 i) && true)) else false) then (t0.f2 == t1.f2) else false) = true), ((bif (bif (t0.f0 == t1.f0) then (((List.range 12).all fun i => t0.f1.f0 i == t1.f1.f0 i) && (((List.range 12).all fun i => t0.f1.f1 i == t1.f1.f1 i) && true)) else false) then (t0.f2 == t1.f2) else false) = true → (bif (bif (t0.f0 == t1.f0) then (((List.range 12).all fun i => t0.f1.f0 i == t1.f1.f0 i) && (((List.range 12).all fun i => t0.f1.f1 i == t1.f1.f1 i) && true)) else false) then (t0.f2 == t1.f2) else false) = true), FC Try.prog 51 [(D.lit t0.f3.1 4 fun i => (S_api_Act.d (t0.f3.2 i))), (D.lit t1.f3.1 4 fun i => (S_api_Act.d (t1.f3.2 i)))] [] (D.bool r0) [], All (List.map NoRow [(D.lit t0.f3.1 4 fun i => (S_api_Act.d (t0.f3.2 i))), (D.lit t1.f3.1 4 fun i => (S_api_Act.d (t1.f3.2 i)))])]), ((true && (bif (bif (t0.f0 == t1.f0) then (((List.range 12).all fun i => t0.f1.f0 i == t1.f1.f0 i) && (((List.range 12).all fun i => t0.f1.f1 i == t1.f1.f1 i) && true)) else false) then (t0.f2 == t1.f2) else false)) = true → (bif (bif (t0.f0 == t1.f0) then (((List.range 12).all fun i => t0.f1.f0 i == t1.f1.f0 i) && (((List.range 12).all fun i => t0.f1.f1 i == t1.f1.f1 i) && true)) else false) then (t0.f2 == t1.f2) else false) = true), ((bif (bif (bif (t0.f0 == t1.f0) then (((List.range 12).all fun i => t0.f1.f0 i == t1.f1.f0 i) && (((List.range 12).all fun i => t0.f1.f1 i == t1.f1.f1 i) && true)) else false) then (t0.f2 == t1.f2) else false) then r0 else false) = true → All [((bif (bif (bif (t0.f0 == t1.f0) then (((List.range 12).all fun i => t0.f1.f0 i == t1.f1.f0 i) && (((List.range 12).all fun i => t0.f1.f1 i == t1.f1.f1 i) && true)) else false) then (t0.f2 == t1.f2) else false) then r0 else false) = true → (bif (bif (bif (t0.f0 == t1.f0) then (((List.range 12).all fun i => t0.f1.f0 i == t1.f1.f0 i) && (((List.range 12).all fun i => t0.f1.f1 i == t1.f1.f1 i) && true)) else false) then (t0.f2 == t1.f2) else false) then r0 else false) = true)]), ((bif (bif (bif (t0.f0 == t1.f0) then (((List.range 12).all fun i => t0.f1.f0 i == t1.f1.f0 i) && (((List.range 12).all fun i => t0.f1.f1 i == t1.f1.f1 i) && true)) else false) then (t0.f2 == t1.f2) else false) then r0 else false) = true → All [((bif (bif (bif (t0.f0 == t1.f0) then (((List.range 12).all fun i => t0.f1.f0 i == t1.f1.f0 i) && (((List.range 12).all fun i => t0.f1.f1 i == t1.f1.f1 i) && true)) else false) then (t0.f2 == t1.f2) else false) then r0 else false) = true → (bif (bif (bif (t0.f0 == t1.f0) then (((List.range 12).all fun i => t0.f1.f0 i == t1.f1.f0 i) && (((List.range 12).all fun i => t0.f1.f1 i == t1.f1.f1 i) && true)) else false) then (t0.f2 == t1.f2) else false) then r0 else false) = true)]), ((bif (bif (bif (t0.f0 == t1.f0) then (((List.range 12).all fun i => t0.f1.f0 i == t1.f1.f0 i) && (((List.range 12).all fun i => t0.f1.f1 i == t1.f1.f1 i) && true)) else false) then (t0.f2 == t1.f2) else false) then r0 else false) = true → All [((bif (bif (bif (t0.f0 == t1.f0) then (((List.range 12).all fun i => t0.f1.f0 i == t1.f1.f0 i) && (((List.range 12).all fun i => t0.f1.f1 i == t1.f1.f1 i) && true)) else false) then (t0.f2 == t1.f2) else false) then r0 else false) = true → (bif (bif (bif (t0.f0 == t1.f0) then (((List.range 12).all fun i => t0.f1.f0 i == t1.f1.f0 i) && (((List.range 12).all fun i => t0.f1.f1 i == t1.f1.f1 i) && true)) else false) then (t0.f2 == t1.f2) else false) then r0 else false) = true), ((bif (bif (bif (t0.f0 == t1.f0) then (((List.range 12).all fun i => t0.f1.f0 i == t1.f1.f0 i) && (((List.range 12).all fun i => t0.f1.f1 i == t1.f1.f1 i) && true)) else false) then (t0.f2 == t1.f2) else false) then r0 else false) = true → (bif (bif (bif (t0.f0 == t1.f0) then (((List.range 12).all fun i => t0.f1.f0 i == t1.f1.f0 i) && (((List.range 12).all fun i => t0.f1.f1 i == t1.f1.f1 i) && true)) else false) then (t0.f2 == t1.f2) else false) then r0 else false) = true)]), ((true && (bif (bif (bif (t0.f0 == t1.f0) then (((List.range 12).all fun i => t0.f1.f0 i == t1.f1.f0 i) && (((List.range 12).all fun i => t0.f1.f1 i == t1.f1.f1 i) && true)) else false) then (t0.f2 == t1.f2) else false) then r0 else false)) = true → (bif (bif (bif (t0.f0 == t1.f0) then (((List.range 12).all fun i => t0.f1.f0 i == t1.f1.f0 i) && (((List.range 12).all fun i => t0.f1.f1 i == t1.f1.f1 i) && true)) else false) then (t0.f2 == t1.f2) else false) then r0 else false) = true), ((bif (bif (bif (bif (t0.f0 == t1.f0) then (((List.range 12).all fun i => t0.f1.f0 i == t1.f1.f0 i) && (((List.range 12).all fun i => t0.f1.f1 i == t1.f1.f1 i) && true)) else false) then (t0.f2 == t1.f2) else false) then r0 else false) then (t0.f4 == t1.f4) else false) = true → All [((bif (bif (bif (bif (t0.f0 == t1.f0) then (((List.range 12).all fun i => t0.f1.f0 i == t1.f1.f0 i) && (((List.range 12).all fun i => t0.f1.f1 i == t1.f1.f1 i) && true)) else false) then (t0.f2 == t1.f2) else false) then r0 else false) then (t0.f4 == t1.f4) else false) = true → (bif (bif (bif (bif (t0.f0 == t1.f0) then (((List.range 12).all fun i => t0.f1.f0 i == t1.f1.f0 i) && (((List.range 12).all fun i => t0.f1.f1 i == t1.f1.f1 i) && true)) else false) then (t0.f2 == t1.f2) else false) then r0 else false) then (t0.f4 == t1.f4) else false) = true)]), ((bif (bif (bif (bif (t0.f0 == t1.f0) then (((List.range 12).all fun i => t0.f1.f0 i == t1.f1.f0 i) && (((List.range 12).all fun i => t0.f1.f1 i == t1.f1.f1 i) && true)) else false) then (t0.f2 == t1.f2) else false) then r0 else false) then (t0.f4 == t1.f4) else false) = true → All [((bif (bif (bif (bif (t0.f0 == t1.f0) then (((List.range 12).all fun i => t0.f1.f0 i == t1.f1.f0 i) && (((List.range 12).all fun i => t0.f1.f1 i == t1.f1.f1 i) && true)) else false) then (t0.f2 == t1.f2) else false) then r0 else false) then (t0.f4 == t1.f4) else false) = true → (bif (bif (bif (bif (t0.f0 == t1.f0) then (((List.range 12).all fun i => t0.f1.f0 i == t1.f1.f0 i) && (((List.range 12).all fun i => t0.f1.f1 i == t1.f1.f1 i) && true)) else false) then (t0.f2 == t1.f2) else false) then r0 else false) then (t0.f4 == t1.f4) else false) = true)]), ((bif (bif (bif (bif (t0.f0 == t1.f0) then (((List.range 12).all fun i => t0.f1.f0 i == t1.f1.f0 i) && (((List.range 12).all fun i => t0.f1.f1 i == t1.f1.f1 i) && true)) else false) then (t0.f2 == t1.f2) else false) then r0 else false) then (t0.f4 == t1.f4) else false) = true → All [((bif (bif (bif (bif (t0.f0 == t1.f0) then (((List.range 12).all fun i => t0.f1.f0 i == t1.f1.f0 i) && (((List.range 12).all fun i => t0.f1.f1 i == t1.f1.f1 i) && true)) else false) then (t0.f2 == t1.f2) else false) then r0 else false) then (t0.f4 == t1.f4) else false) = true → (bif (bif (bif (bif (t0.f0 == t1.f0) then (((List.range 12).all fun i => t0.f1.f0 i == t1.f1.f0 i) && (((List.range 12).all fun i => t0.f1.f1 i == t1.f1.f1 i) && true)) else false) then (t0.f2 == t1.f2) else false) then r0 else false) then (t0.f4 == t1.f4) else false) = true), ((bif (bif (bif (bif (t0.f0 == t1.f0) then (((List.range 12).all fun i => t0.f1.f0 i == t1.f1.f0 i) && (((List.range 12).all fun i => t0.f1.f1 i == t1.f1.f1 i) && true)) else false) then (t0.f2 == t1.f2) else false) then r0 else false) then (t0.f4 == t1.f4) else false) = true → (bif (bif (bif (bif (t0.f0 == t1.f0) then (((List.range 12).all fun i => t0.f1.f0 i == t1.f1.f0 i) && (((List.range 12).all fun i => t0.f1.f1 i == t1.f1.f1 i) && true)) else false) then (t0.f2 == t1.f2) else false) then r0 else false) then (t0.f4 == t1.f4) else false) = true)]), ((true && (bif (bif (bif (bif (t0.f0 == t1.f0) then (((List.range 12).all fun i => t0.f1.f0 i == t1.f1.f0 i) && (((List.range 12).all fun i => t0.f1.f1 i == t1.f1.f1 i) && true)) else false) then (t0.f2 == t1.f2) else false) then r0 else false) then (t0.f4 == t1.f4) else false)) = true → (bif (bif (bif (bif (t0.f0 == t1.f0) then (((List.range 12).all fun i => t0.f1.f0 i == t1.f1.f0 i) && (((List.range 12).all fun i => t0.f1.f1 i == t1.f1.f1 i) && true)) else false) then (t0.f2 == t1.f2) else false) then r0 else false) then (t0.f4 == t1.f4) else false) = true), ((bif (bif (bif (bif (bif (t0.f0 == t1.f0) then (((List.range 12).all fun i => t0.f1.f0 i == t1.f1.f0 i) && (((List.range 12).all fun i => t0.f1.f1 i == t1.f1.f1 i) && true)) else false) then (t0.f2 == t1.f2) else false) then r0 else false) then (t0.f4 == t1.f4) else false) then (t0.f5 == t1.f5) else false) = true → All [((bif (bif (bif (bif (bif (t0.f0 == t1.f0) then (((List.range 12).all fun i => t0.f1.f0 i == t1.f1.f0 i) && (((List.range 12).all fun i => t0.f1.f1 i == t1.f1.f1 i) && true)) else false) then (t0.f2 == t1.f2) else false) then r0 else false) then (t0.f4 == t1.f4) else false) then (t0.f5 == t1.f5) else false) = true → (bif (bif (bif (bif (bif (t0.f0 == t1.f0) then (((List.range 12).all fun i => t0.f1.f0 i == t1.f1.f0 i) && (((List.range 12).all fun i => t0.f1.f1 i == t1.f1.f1 i) && true)) else false) then (t0.f2 == t1.f2) else false) then r0 else false) then (t0.f4 == t1.f4) else false) then (t0.f5 == t1.f5) else false) = true)]), ((bif (bif (bif (bif (bif (t0.f0 == t1.f0) then (((List.range 12).all fun i => t0.f1.f0 i == t1.f1.f0 i) && (((List.range 12).all fun i => t0.f1.f1 i == t1.f1.f1 i) && true)) else false) then (t0.f2 == t1.f2) else false) then r0 else false) then (t0.f4 == t1.f4) else false) then (t0.f5 == t1.f5) else false) = true → All [((bif (bif (bif (bif (bif (t0.f0 == t1.f0) then (((List.range 12).all fun i => t0.f1.f0 i == t1.f1.f0 i) && (((List.range 12).all fun i => t0.f1.f1 i == t1.f1.f1 i) && true)) else false) then (t0.f2 == t1.f2) else false) then r0 else false) then (t0.f4 == t1.f4) else false) then (t0.f5 == t1.f5) else false) = true → (bif (bif (bif (bif (bif (t0.f0 == t1.f0) then (((List.range 12).all fun i => t0.f1.f0 i == t1.f1.f0 i) && (((List.range 12).all fun i => t0.f1.f1 i == t1.f1.f1 i) && true)) else false) then (t0.f2 == t1.f2) else false) then r0 else false) then (t0.f4 == t1.f4) else false) then (t0.f5 == t1.f5) else false) = true)]), ((bif (bif (bif (bif (bif (t0.f0 == t1.f0) then (((List.range 12).all fun i => t0.f1.f0 i == t1.f1.f0 i) && (((List.range 12).all fun i => t0.f1.f1 i == t1.f1.f1 i) && true)) else false) then (t0.f2 == t1.f2) else false) then r0 else false) then (t0.f4 == t1.f4) else false) then (t0.f5 == t1.f5) else false) = true → All [((bif (bif (bif (bif (bif (t0.f0 == t1.f0) then (((List.range 12).all fun i => t0.f1.f0 i == t1.f1.f0 i) && (((List.range 12).all fun i => t0.f1.f1 i == t1.f1.f1 i) && true)) else false) then (t0.f2 == t1.f2) else false) then r0 else false) then (t0.f4 == t1.f4) else false) then (t0.f5 == t1.f5) else false) = true → (bif (bif (bif (bif (bif (t0.f0 == t1.f0) then (((List.range 12).all fun i => t0.f1.f0 i == t1.f1.f0 i) && (((List.range 12).all fun i => t0.f1.f1 i == t1.f1.f1 i) && true)) else false) then (t0.f2 == t1.f2) else false) then r0 else false) then (t0.f4 == t1.f4) else false) then (t0.f5 == t1.f5) else false) = true), ((bif (bif (bif (bif (bif (t0.f0 == t1.f0) then (((List.range 12).all fun i => t0.f1.f0 i == t1.f1.f0 i) && (((List.range 12).all fun i => t0.f1.f1 i == t1.f1.f1 i) && true)) else false) then (t0.f2 == t1.f2) else false) then r0 else false) then (t0.f4 == t1.f4) else false) then (t0.f5 == t1.f5) else false) = true → (bif (bif (bif (bif (bif (t0.f0 == t1.f0) then (((List.range 12).all fun i => t0.f1.f0 i == t1.f1.f0 i) && (((List.range 12).all fun i => t0.f1.f1 i == t1.f1.f1 i) && true)) else false) then (t0.f2 == t1.f2) else false) then r0 else false) then (t0.f4 == t1.f4) else false) then (t0.f5 == t1.f5) else false) = true)]), ((true && (bif (bif (bif (bif (bif (t0.f0 == t1.f0) then (((List.range 12).all fun i => t0.f1.f0 i == t1.f1.f0 i) && (((List.range 12).all fun i => t0.f1.f1 i == t1.f1.f1 i) && true)) else false) then (t0.f2 == t1.f2) else false) then r0 else false) then (t0.f4 == t1.f4) else false) then (t0.f5 == t1.f5) else false)) = true → (bif (bif (bif (bif (bif (t0.f0 == t1.f0) then (((List.range 12).all fun i => t0.f1.f0 i == t1.f1.f0 i) && (((List.range 12).all fun i => t0.f1.f1 i == t1.f1.f1 i) && true)) else false) then (t0.f2 == t1.f2) else false) then r0 else false) then (t0.f4 == t1.f4) else false) then (t0.f5 == t1.f5) else false) = true), ((bif (bif (bif (bif (bif (bif (t0.f0 == t1.f0) then (((List.range 12).all fun i => t0.f1.f0 i == t1.f1.f0 i) && (((List.range 12).all fun i => t0.f1.f1 i == t1.f1.f1 i) && true)) else false) then (t0.f2 == t1.f2) else false) then r0 else false) then (t0.f4 == t1.f4) else false) then (t0.f5 == t1.f5) else false) then (t0.f6 == t1.f6) else false) = true → All [((bif (bif (bif (bif (bif (bif (t0.f0 == t1.f0) then (((List.range 12).all fun i => t0.f1.f0 i == t1.f1.f0 i) && (((List.range 12).all fun i => t0.f1.f1 i == t1.f1.f1 i) && true)) else false) then (t0.f2 == t1.f2) else false) then r0 else false) then (t0.f4 == t1.f4) else false) then (t0.f5 == t1.f5) else false) then (t0.f6 == t1.f6) else false) = true → (bif (bif (bif (bif (bif (bif (t0.f0 == t1.f0) then (((List.range 12).all fun i => t0.f1.f0 i == t1.f1.f0 i) && (((List.range 12).all fun i => t0.f1.f1 i == t1.f1.f1 i) && true)) else false) then (t0.f2 == t1.f2) else false) then r0 else false) then (t0.f4 == t1.f4) else false) then (t0.f5 == t1.f5) else false) then (t0.f6 == t1.f6) else false) = true)]), ((bif (bif (bif (bif (bif (bif (t0.f0 == t1.f0) then (((List.range 12).all fun i => t0.f1.f0 i == t1.f1.f0 i) && (((List.range 12).all fun i => t0.f1.f1 i == t1.f1.f1 i) && true)) else false) then (t0.f2 == t1.f2) else false) then r0 else false) then (t0.f4 == t1.f4) else false) then (t0.f5 == t1.f5) else false) then (t0.f6 == t1.f6) else false) = true → All [((bif (bif (bif (bif (bif (bif (t0.f0 == t1.f0) then (((List.range 12).all fun i => t0.f1.f0 i == t1.f1.f0 i) && (((List.range 12).all fun i => t0.f1.f1 i == t1.f1.f1 i) && true)) else false) then (t0.f2 == t1.f2) else false) then r0 else false) then (t0.f4 == t1.f4) else false) then (t0.f5 == t1.f5) else false) then (t0.f6 == t1.f6) else false) = true → (bif (bif (bif (bif (bif (bif (t0.f0 == t1.f0) then (((List.range 12).all fun i => t0.f1.f0 i == t1.f1.f0 i) && (((List.range 12).all fun i => t0.f1.f1 i == t1.f1.f1 i) && true)) else false) then (t0.f2 == t1.f2) else false) then r0 else false) then (t0.f4 == t1.f4) else false) then (t0.f5 == t1.f5) else false) then (t0.f6 == t1.f6) else false) = true)]), ((bif (bif (bif (bif (bif (bif (t0.f0 == t1.f0) then (((List.range 12).all fun i => t0.f1.f0 i == t1.f1.f0 i) && (((List.range 12).all fun i => t0.f1.f1 i == t1.f1.f1 i) && true)) else false) then (t0.f2 == t1.f2) else false) then r0 else false) then (t0.f4 == t1.f4) else false) then (t0.f5 == t1.f5) else false) then (t0.f6 == t1.f6) else false) = true → All [((bif (bif (bif (bif (bif (bif (t0.f0 == t1.f0) then (((List.range 12).all fun i => t0.f1.f0 i == t1.f1.f0 i) && (((List.range 12).all fun i => t0.f1.f1 i == t1.f1.f1 i) && true)) else false) then (t0.f2 == t1.f2) else false) then r0 else false) then (t0.f4 == t1.f4) else false) then (t0.f5 == t1.f5) else false) then (t0.f6 == t1.f6) else false) = true → (bif (bif (bif (bif (bif (bif (t0.f0 == t1.f0) then (((List.range 12).all fun i => t0.f1.f0 i == t1.f1.f0 i) && (((List.range 12).all fun i => t0.f1.f1 i == t1.f1.f1 i) && true)) else false) then (t0.f2 == t1.f2) else false) then r0 else false) then (t0.f4 == t1.f4) else false) then (t0.f5 == t1.f5) else false) then (t0.f6 == t1.f6) else false) = true), ((bif (bif (bif (bif (bif (bif (t0.f0 == t1.f0) then (((List.range 12).all fun i => t0.f1.f0 i == t1.f1.f0 i) && (((List.range 12).all fun i => t0.f1.f1 i == t1.f1.f1 i) && true)) else false) then (t0.f2 == t1.f2) else false) then r0 else false) then (t0.f4 == t1.f4) else false) then (t0.f5 == t1.f5) else false) then (t0.f6 == t1.f6) else false) = true → (bif (bif (bif (bif (bif (bif (t0.f0 == t1.f0) then (((List.range 12).all fun i => t0.f1.f0 i == t1.f1.f0 i) && (((List.range 12).all fun i => t0.f1.f1 i == t1.f1.f1 i) && true)) else false) then (t0.f2 == t1.f2) else false) then r0 else false) then (t0.f4 == t1.f4) else false) then (t0.f5 == t1.f5) else false) then (t0.f6 == t1.f6) else false) = true)]), ((true && (bif (bif (bif (bif (bif (bif (t0.f0 == t1.f0) then (((List.range 12).all fun i => t0.f1.f0 i == t1.f1.f0 i) && (((List.range 12).all fun i => t0.f1.f1 i == t1.f1.f1 i) && true)) else false) then (t0.f2 == t1.f2) else false) then r0 else false) then (t0.f4 == t1.f4) else false) then (t0.f5 == t1.f5) else false) then (t0.f6 == t1.f6) else false)) = true → (bif (bif (bif (bif (bif (bif (t0.f0 == t1.f0) then (((List.range 12).all fun i => t0.f1.f0 i == t1.f1.f0 i) && (((List.range 12).all fun i => t0.f1.f1 i == t1.f1.f1 i) && true)) else false) then (t0.f2 == t1.f2) else false) then r0 else false) then (t0.f4 == t1.f4) else false) then (t0.f5 == t1.f5) else false) then (t0.f6 == t1.f6) else false) = true)], [(4, (D.bool (bif (bif (bif (bif (bif (bif (bif (t0.f0 == t1.f0) then (((List.range 12).all fun i => t0.f1.f0 i == t1.f1.f0 i) && (((List.range 12).all fun i => t0.f1.f1 i == t1.f1.f1 i) && true)) else false) then (t0.f2 == t1.f2) else false) then r0 else false) then (t0.f4 == t1.f4) else false) then (t0.f5 == t1.f5) else false) then (t0.f6 == t1.f6) else false) then (t0.f7 == t1.f7) else false)))], [some (.box (S_api_Mod.d t0)), some (.box (S_api_Mod.d t1))])) rfl (by kernel_rfl) (And.intro (fun _ => (And.intro (by first | exact fun h => h | exact fun h => (Bool.and_eq_true_iff.1 h).1 | simp_all) trivial)) (And.intro (fun _ => (And.intro (by first | exact fun h => h | exact fun h => (Bool.and_eq_true_iff.1 h).1 | simp_all) trivial)) (And.intro (fun _ => (And.intro (by first | exact fun h => h | exact fun h => (Bool.and_eq_true_iff.1 h).1 | simp_all) (And.intro (by first | exact fun h => h | exact fun h => (Bool.and_eq_true_iff.1 h).1 | simp_all) trivial))) (And.intro (by first | exact fun h => h | exact fun h => (Bool.and_eq_true_iff.1 h).1 | simp_all) (And.intro (fun _ => (And.intro (by first | exact fun h => h | exact fun h => (Bool.and_eq_true_iff.1 h).1 | simp_all) trivial)) (And.intro (fun _ => (And.intro (by first | exact fun h => h | exact fun h => (Bool.and_eq_true_iff.1 h).1 | simp_all) trivial)) (And.intro (fun _ => (And.intro (by first | exact fun h => h | exact fun h => (Bool.and_eq_true_iff.1 h).1 | simp_all) (And.intro (by first | exact fun h => h | exact fun h => (Bool.and_eq_true_iff.1 h).1 | simp_all) trivial))) (And.intro (by first | exact fun h => h | exact fun h => (Bool.and_eq_true_iff.1 h).1 | simp_all) (And.intro (fun _ => (And.intro (by first | exact fun h => h | exact fun h => (Bool.and_eq_true_iff.1 h).1 | simp_all) trivial)) (And.intro (fun _ => (And.intro (by first | exact fun h => h | exact fun h => (Bool.and_eq_true_iff.1 h).1 | simp_all) trivial)) (And.intro (fun hg => (And.intro (by first | exact fun h => h | exact fun h => (Bool.and_eq_true_iff.1 h).1 | simp_all) (And.intro (by first | exact fun h => h | exact fun h => (Bool.and_eq_true_iff.1 h).1 | simp_all) (And.intro (fc_ref04_SameActs fu t0.f3 t1.f3 (callIf_some cr0 hg)) (And.intro (And.intro (fun _ _ => (S_api_Act.inn _)) (And.intro (fun _ _ => (S_api_Act.inn _)) trivial)) trivial))))) (And.intro (by first | exact fun h => h | exact fun h => (Bool.and_eq_true_iff.1 h).1 | simp_all) (And.intro (fun _ => (And.intro (by first | exact fun h => h | exact fun h => (Bool.and_eq_true_iff.1 h).1 | simp_all) trivial)) (And.intro (fun _ => (And.intro (by first | exact fun h => h | exact fun h => (Bool.and_eq_true_iff.1 h).1 | simp_all) trivial)) (And.intro (fun _ => (And.intro (by first | exact fun h => h | exact fun h => (Bool.and_eq_true_iff.1 h).1 | simp_all) (And.intro (by first | exact fun h => h | exact fun h => (Bool.and_eq_true_iff.1 h).1 | simp_all) trivial))) (And.intro (by first | exact fun h => h | exact fun h => (Bool.and_eq_true_iff.1 h).1 | simp_all) (And.intro (fun _ => (And.intro (by first | exact fun h => h | exact fun h => (Bool.and_eq_true_iff.1 h).1 | simp_all) trivial)) (And.intro (fun _ => (And.intro (by first | exact fun h => h | exact fun h => (Bool.and_eq_true_iff.1 h).1 | simp_all) trivial)) (And.intro (fun _ => (And.intro (by first | exact fun h => h | exact fun h => (Bool.and_eq_true_iff.1 h).1 | simp_all) (And.intro (by first | exact fun h => h | exact fun h => (Bool.and_eq_true_iff.1 h).1 | simp_all) trivial))) (And.intro (by first | exact fun h => h | exact fun h => (Bool.and_eq_true_iff.1 h).1 | simp_all) (And.intro (fun _ => (And.intro (by first | exact fun h => h | exact fun h => (Bool.and_eq_true_iff.1 h).1 | simp_all) trivial)) (And.intro (fun _ => (And.intro (by first | exact fun h => h | exact fun h => (Bool.and_eq_true_iff.1 h).1 | simp_all) trivial)) (And.intro (fun _ => (And.intro (by first | exact fun h => h | exact fun h => (Bool.and_eq_true_iff.1 h).1 | simp_all) (And.intro (by first | exact fun h => h | exact fun h => (Bool.and_eq_true_iff.1 h).1 | simp_all) trivial))) (And.intro (by first | exact fun h => h | exact fun h => (Bool.and_eq_true_iff.1 h).1 | simp_all) (And.intro (fun _ => (And.intro (by first | exact fun h => h | exact fun h => (Bool.and_eq_true_iff.1 h).1 | simp_all) trivial)) (And.intro (fun _ => (And.intro (by first | exact fun h => h | exact fun h => (Bool.and_eq_true_iff.1 h).1 | simp_all) trivial)) (And.intro (fun _ => (And.intro (by first | exact fun h => h | exact fun h => (Bool.and_eq_true_iff.1 h).1 | simp_all) (And.intro (by first | exact fun h => h | exact fun h => (Bool.and_eq_true_iff.1 h).1 | simp_all) trivial))) (And.intro (by first | exact fun h => h | exact fun h => (Bool.and_eq_true_iff.1 h).1 | simp_all) trivial)))))))))))))))))))))))))))) ?_
  rw [← Option.some.inj h] at hk
  obtain rfl : d = (D.bool (bif (bif (bif (bif (bif (bif (bif (t0.f0 == t1.f0) then (((List.range 12).all fun i => t0.f1.f0 i == t1.f1.f0 i) && (((List.range 12).all fun i => t0.f1.f1 i == t1.f1.f1 i) && true)) else false) then (t0.f2 == t1.f2) else false) then r0 else false) then (t0.f4 == t1.f4) else false) then (t0.f5 == t1.f5) else false) then (t0.f6 == t1.f6) else false) then (t0.f7 == t1.f7) else false)) := hk
  exact runs_ret (by kernel_rfl) trivial (Nat.le_refl 0) trivial trivial

theorem fc_ref04_SameMods (fu : Nat) (t0 : S_api_Mod) (t1 : S_api_Mod) {r : Bool} (h : F_ref04_SameMods fu t0 t1 = some r) : FC Try.prog 21 [(S_api_Mod.d t0), (S_api_Mod.d t1)] [] (D.bool r) [] := by
  refine fc_of_runs (fn := Try.f21) (c := Try.f21.body.getD .skip) (by kernel_rfl) (by kernel_rfl) ?_
  refine runs_to (ts := [0, 1]) (T' := T_ref04_SameMods) (env' := [(0, (S_api_Mod.d t0)), (1, (S_api_Mod.d t1))]) (h2 := []) (by kernel_rfl) (by kernel_rfl) trivial (Nat.le_refl _) trivial (And.intro (S_api_Mod.inn _) (And.intro (S_api_Mod.inn _) trivial)) ?_
  exact run_ref04_SameMods fu t0 t1 h rfl

def K_law19_RegionOf (d : D) (r : Bool) : Prop := d = (D.bool r)

noncomputable def T_law19_RegionOf : List Item := norm 200 [.code (Try.f5.body.getD .skip)]

noncomputable def T_law19_RegionOf_L1 : List Item := norm 200 (nxt (cndF (nxt (nxt (nxt (cndF (nxt (nxt T_law19_RegionOf))))))))

noncomputable def X_law19_RegionOf_L1T : List Item := norm 200 (cndF (nxt (nxt (cndF (nxt (nxt (nxt (cndF (nxt (nxt T_law19_RegionOf))))))))))

noncomputable def T_law19_RegionOf_L2 : List Item := norm 200 (nxt (cndF (nxt (nxt (cndF (nxt (nxt (nxt (cndF (nxt (nxt T_law19_RegionOf)))))))))))

noncomputable def X_law19_RegionOf_L2T : List Item := norm 200 (cndF (nxt (nxt (cndF (nxt (nxt (cndF (nxt (nxt (nxt (cndF (nxt (nxt T_law19_RegionOf)))))))))))))

abbrev E_law19_RegionOf_L1 := Unit

def N_law19_RegionOf_L1 (_fu : Nat) (t5 : (Nat × (Nat → S_api_Region))) (t6 : (Nat × (Nat → S_api_Region))) (t7 : (Nat × (Nat → S_api_Mod))) (t8 : (Nat × (Nat → S_api_Mod))) (d : D) (s : Int) : Prop := Runs Try.prog Try.f5 0 T_law19_RegionOf_L1 [(5, (D.lit t5.1 25 fun i => (S_api_Region.d (t5.2 i)))), (6, (D.lit t6.1 25 fun i => (S_api_Region.d (t6.2 i)))), (7, (D.lit t7.1 31 fun i => (S_api_Mod.d (t7.2 i)))), (8, (D.lit t8.1 31 fun i => (S_api_Mod.d (t8.2 i)))), (9, (D.int .i64 s))] [] d []

def X_law19_RegionOf_L1 (_fu : Nat) (_t5 : (Nat × (Nat → S_api_Region))) (_t6 : (Nat × (Nat → S_api_Region))) (t7 : (Nat × (Nat → S_api_Mod))) (t8 : (Nat × (Nat → S_api_Mod))) (d : D) : E_law19_RegionOf_L1 ⊕ Bool → Prop
  | .inl _ => Runs Try.prog Try.f5 0 X_law19_RegionOf_L1T [(7, (D.lit t7.1 31 fun i => (S_api_Mod.d (t7.2 i)))), (8, (D.lit t8.1 31 fun i => (S_api_Mod.d (t8.2 i))))] [] d []
  | .inr o => (K_law19_RegionOf d) o

def F_law19_RegionOf_L1 (_fu : Nat) (t5 : (Nat × (Nat → S_api_Region))) (t6 : (Nat × (Nat → S_api_Region))) (_t7 : (Nat × (Nat → S_api_Mod))) (_t8 : (Nat × (Nat → S_api_Mod))) (t9 : Int) : Option (Lo Int E_law19_RegionOf_L1 Bool) :=
  ifs (decide (t9 < ((t5.1 : Nat) : Int))) (
    chk (0 ≤ t9 ∧ t9 < ((t5.1 : Nat) : Int)) <|
    chk (0 ≤ t9 ∧ t9 < ((t6.1 : Nat) : Int)) <|
    ifs (!(((t5.2 t9.toNat).f0 == (t6.2 t9.toNat).f0) && ((((List.range 12).all fun i => (t5.2 t9.toNat).f1.f0 i == (t6.2 t9.toNat).f1.f0 i) && (((List.range 12).all fun i => (t5.2 t9.toNat).f1.f1 i == (t6.2 t9.toNat).f1.f1 i) && true)) && true))) (
      some (.ret false)) (
      some (.next (IntKind.wrap .i64 (t9 + (1 : Int)))))) (
    some (.exit ()))

theorem run_law19_RegionOf_L1 (fu : Nat) (t5 : (Nat × (Nat → S_api_Region))) (t6 : (Nat × (Nat → S_api_Region))) (t7 : (Nat × (Nat → S_api_Mod))) (t8 : (Nat × (Nat → S_api_Mod))) (t9 : Int) {d : D} {o : (Lo Int E_law19_RegionOf_L1 Bool)} (h : F_law19_RegionOf_L1 fu t5 t6 t7 t8 t9 = some o) (hk : (Lo.post (N_law19_RegionOf_L1 fu t5 t6 t7 t8 d) (X_law19_RegionOf_L1 fu t5 t6 t7 t8 d)) o) : Runs Try.prog Try.f5 0 T_law19_RegionOf_L1 [(5, (D.lit t5.1 25 fun i => (S_api_Region.d (t5.2 i)))), (6, (D.lit t6.1 25 fun i => (S_api_Region.d (t6.2 i)))), (7, (D.lit t7.1 31 fun i => (S_api_Mod.d (t7.2 i)))), (8, (D.lit t8.1 31 fun i => (S_api_Mod.d (t8.2 i)))), (9, (D.int .i64 t9))] [] d [] := by
  unfold F_law19_RegionOf_L1 at h
  refine runs_regions 1 [([], [5, 6, 7, 8, 9, 54])] (z := ([], [(5, (D.lit t5.1 25 fun i => (S_api_Region.d (t5.2 i)))), (6, (D.lit t6.1 25 fun i => (S_api_Region.d (t6.2 i)))), (7, (D.lit t7.1 31 fun i => (S_api_Mod.d (t7.2 i)))), (8, (D.lit t8.1 31 fun i => (S_api_Mod.d (t8.2 i)))), (9, (D.int .i64 t9)), (54, (D.bool (decide (t9 < ((t5.1 : Nat) : Int)))))], [])) rfl (by kernel_rfl) trivial ?_
  refine runs_if (b := (decide (t9 < ((t5.1 : Nat) : Int)))) (by kernel_rfl) (fun hb => ?_) (fun hb => ?_)
  · replace h := ifs_true h hb
    obtain ⟨p1, h⟩ := chk_some h
    obtain ⟨p2, h⟩ := chk_some h
    refine runs_regions 1 [([], [5, 6, 7, 8, 9, 65])] (z := ([(0 ≤ t9 ∧ t9 < ((t5.1 : Nat) : Int)), (0 ≤ t9 ∧ t9 < ((t6.1 : Nat) : Int))], [(5, (D.lit t5.1 25 fun i => (S_api_Region.d (t5.2 i)))), (6, (D.lit t6.1 25 fun i => (S_api_Region.d (t6.2 i)))), (7, (D.lit t7.1 31 fun i => (S_api_Mod.d (t7.2 i)))), (8, (D.lit t8.1 31 fun i => (S_api_Mod.d (t8.2 i)))), (9, (D.int .i64 t9)), (65, (D.bool (!(((t5.2 t9.toNat).f0 == (t6.2 t9.toNat).f0) && ((((List.range 12).all fun i => (t5.2 t9.toNat).f1.f0 i == (t6.2 t9.toNat).f1.f0 i) && (((List.range 12).all fun i => (t5.2 t9.toNat).f1.f1 i == (t6.2 t9.toNat).f1.f1 i) && true)) && true)))))], [])) rfl (by kernel_rfl) (And.intro p1 (And.intro p2 trivial)) ?_
    refine runs_if (b := (!(((t5.2 t9.toNat).f0 == (t6.2 t9.toNat).f0) && ((((List.range 12).all fun i => (t5.2 t9.toNat).f1.f0 i == (t6.2 t9.toNat).f1.f0 i) && (((List.range 12).all fun i => (t5.2 t9.toNat).f1.f1 i == (t6.2 t9.toNat).f1.f1 i) && true)) && true)))) (by kernel_rfl) (fun hb => ?_) (fun hb => ?_)
    · replace h := ifs_true h hb
      refine runs_regions 1 [([], [4])] (z := ([], [(4, (D.bool false))], [])) rfl (by kernel_rfl) trivial ?_
      rw [← Option.some.inj h] at hk
      obtain rfl : d = (D.bool false) := hk
      exact runs_ret (by kernel_rfl) trivial (Nat.le_refl 0) trivial trivial
    · replace h := ifs_false h hb
      refine runs_regions 1 [([], [5, 6, 7, 8, 9])] (z := ([], [(5, (D.lit t5.1 25 fun i => (S_api_Region.d (t5.2 i)))), (6, (D.lit t6.1 25 fun i => (S_api_Region.d (t6.2 i)))), (7, (D.lit t7.1 31 fun i => (S_api_Mod.d (t7.2 i)))), (8, (D.lit t8.1 31 fun i => (S_api_Mod.d (t8.2 i)))), (9, (D.int .i64 (IntKind.wrap .i64 (t9 + (1 : Int)))))], [])) rfl (by kernel_rfl) trivial ?_
      rw [← Option.some.inj h] at hk
      refine runs_to (ts := [5, 6, 7, 8, 9]) (T' := T_law19_RegionOf_L1) (env' := [(5, (D.lit t5.1 25 fun i => (S_api_Region.d (t5.2 i)))), (6, (D.lit t6.1 25 fun i => (S_api_Region.d (t6.2 i)))), (7, (D.lit t7.1 31 fun i => (S_api_Mod.d (t7.2 i)))), (8, (D.lit t8.1 31 fun i => (S_api_Mod.d (t8.2 i)))), (9, (D.int .i64 (IntKind.wrap .i64 (t9 + (1 : Int)))))]) (h2 := []) (by kernel_rfl) (by kernel_rfl) trivial (Nat.zero_le _) trivial (And.intro (fun _ _ => (S_api_Region.inn _)) (And.intro (fun _ _ => (S_api_Region.inn _)) (And.intro (fun _ _ => (S_api_Mod.inn _)) (And.intro (fun _ _ => (S_api_Mod.inn _)) (And.intro trivial trivial))))) ?_
      exact hk
  · replace h := ifs_false h hb
    rw [← Option.some.inj h] at hk
    refine runs_to (ts := [7, 8]) (T' := X_law19_RegionOf_L1T) (env' := [(7, (D.lit t7.1 31 fun i => (S_api_Mod.d (t7.2 i)))), (8, (D.lit t8.1 31 fun i => (S_api_Mod.d (t8.2 i))))]) (h2 := []) (by kernel_rfl) (by kernel_rfl) trivial (Nat.zero_le _) trivial (And.intro (fun _ _ => (S_api_Mod.inn _)) (And.intro (fun _ _ => (S_api_Mod.inn _)) trivial)) ?_
    exact hk

theorem iter_law19_RegionOf_L1 (fu : Nat) (t5 : (Nat × (Nat → S_api_Region))) (t6 : (Nat × (Nat → S_api_Region))) (t7 : (Nat × (Nat → S_api_Mod))) (t8 : (Nat × (Nat → S_api_Mod))) {d : D} (k : Nat) (s : Int) {o : E_law19_RegionOf_L1 ⊕ Bool} (h : iter (fun s => F_law19_RegionOf_L1 fu t5 t6 t7 t8 s) k s = some o) (hx : X_law19_RegionOf_L1 fu t5 t6 t7 t8 d o) : N_law19_RegionOf_L1 fu t5 t6 t7 t8 d s :=
  iter_post (K := N_law19_RegionOf_L1 fu t5 t6 t7 t8 d) (X := X_law19_RegionOf_L1 fu t5 t6 t7 t8 d) (fun s _ h hk => run_law19_RegionOf_L1 fu t5 t6 t7 t8 s h hk) k s o h hx

abbrev E_law19_RegionOf_L2 := Unit

def N_law19_RegionOf_L2 (_fu : Nat) (t7 : (Nat × (Nat → S_api_Mod))) (t8 : (Nat × (Nat → S_api_Mod))) (d : D) (s : Int) : Prop := Runs Try.prog Try.f5 0 T_law19_RegionOf_L2 [(7, (D.lit t7.1 31 fun i => (S_api_Mod.d (t7.2 i)))), (8, (D.lit t8.1 31 fun i => (S_api_Mod.d (t8.2 i)))), (10, (D.int .i64 s))] [] d []

def X_law19_RegionOf_L2 (_fu : Nat) (_t7 : (Nat × (Nat → S_api_Mod))) (_t8 : (Nat × (Nat → S_api_Mod))) (d : D) : E_law19_RegionOf_L2 ⊕ Bool → Prop
  | .inl _ => Runs Try.prog Try.f5 0 X_law19_RegionOf_L2T [] [] d []
  | .inr o => (K_law19_RegionOf d) o

def F_law19_RegionOf_L2 (fu : Nat) (t7 : (Nat × (Nat → S_api_Mod))) (t8 : (Nat × (Nat → S_api_Mod))) (t10 : Int) : Option (Lo Int E_law19_RegionOf_L2 Bool) :=
  ifs (decide (t10 < ((t7.1 : Nat) : Int))) (
    chk (0 ≤ t10 ∧ t10 < ((t7.1 : Nat) : Int)) <|
    chk (0 ≤ t10 ∧ t10 < ((t8.1 : Nat) : Int)) <|
    (F_ref04_SameMods fu (t7.2 t10.toNat) (t8.2 t10.toNat)).bind fun r9 =>
    ifs (!r9) (
      some (.ret false)) (
      some (.next (IntKind.wrap .i64 (t10 + (1 : Int)))))) (
    some (.exit ()))

theorem run_law19_RegionOf_L2 (fu : Nat) (t7 : (Nat × (Nat → S_api_Mod))) (t8 : (Nat × (Nat → S_api_Mod))) (t10 : Int) {d : D} {o : (Lo Int E_law19_RegionOf_L2 Bool)} (h : F_law19_RegionOf_L2 fu t7 t8 t10 = some o) (hk : (Lo.post (N_law19_RegionOf_L2 fu t7 t8 d) (X_law19_RegionOf_L2 fu t7 t8 d)) o) : Runs Try.prog Try.f5 0 T_law19_RegionOf_L2 [(7, (D.lit t7.1 31 fun i => (S_api_Mod.d (t7.2 i)))), (8, (D.lit t8.1 31 fun i => (S_api_Mod.d (t8.2 i)))), (10, (D.int .i64 t10))] [] d [] := by
  unfold F_law19_RegionOf_L2 at h
  refine runs_regions 1 [([], [7, 8, 10, 69])] (z := ([], [(7, (D.lit t7.1 31 fun i => (S_api_Mod.d (t7.2 i)))), (8, (D.lit t8.1 31 fun i => (S_api_Mod.d (t8.2 i)))), (10, (D.int .i64 t10)), (69, (D.bool (decide (t10 < ((t7.1 : Nat) : Int)))))], [])) rfl (by kernel_rfl) trivial ?_
  refine runs_if (b := (decide (t10 < ((t7.1 : Nat) : Int)))) (by kernel_rfl) (fun hb => ?_) (fun hb => ?_)
  · replace h := ifs_true h hb
    obtain ⟨p4, h⟩ := chk_some h
    obtain ⟨p5, h⟩ := chk_some h
    obtain ⟨r9, cr9, h⟩ := Option.bind_eq_some_iff.1 h
    refine runs_regions 1 [([(.d (D.bool r9))], [7, 8, 10, 81])] (z := ([(0 ≤ t10 ∧ t10 < ((t7.1 : Nat) : Int)), (0 ≤ t10 ∧ t10 < ((t8.1 : Nat) : Int)), FC Try.prog 21 [(S_api_Mod.d (t7.2 t10.toNat)), (S_api_Mod.d (t8.2 t10.toNat))] [] (D.bool r9) [], All (List.map NoRow [(S_api_Mod.d (t7.2 t10.toNat)), (S_api_Mod.d (t8.2 t10.toNat))])], [(7, (D.lit t7.1 31 fun i => (S_api_Mod.d (t7.2 i)))), (8, (D.lit t8.1 31 fun i => (S_api_Mod.d (t8.2 i)))), (10, (D.int .i64 t10)), (81, (D.bool (!r9)))], [])) rfl (by kernel_rfl) (And.intro p4 (And.intro p5 (And.intro (fc_ref04_SameMods fu (t7.2 t10.toNat) (t8.2 t10.toNat) cr9) (And.intro (And.intro (S_api_Mod.inn _) (And.intro (S_api_Mod.inn _) trivial)) trivial)))) ?_
    refine runs_if (b := (!r9)) (by kernel_rfl) (fun hb => ?_) (fun hb => ?_)
    · replace h := ifs_true h hb
      refine runs_regions 1 [([], [4])] (z := ([], [(4, (D.bool false))], [])) rfl (by kernel_rfl) trivial ?_
      rw [← Option.some.inj h] at hk
      obtain rfl : d = (D.bool false) := hk
      exact runs_ret (by kernel_rfl) trivial (Nat.le_refl 0) trivial trivial
    · replace h := ifs_false h hb
      refine runs_regions 1 [([], [7, 8, 10])] (z := ([], [(7, (D.lit t7.1 31 fun i => (S_api_Mod.d (t7.2 i)))), (8, (D.lit t8.1 31 fun i => (S_api_Mod.d (t8.2 i)))), (10, (D.int .i64 (IntKind.wrap .i64 (t10 + (1 : Int)))))], [])) rfl (by kernel_rfl) trivial ?_
      rw [← Option.some.inj h] at hk
      refine runs_to (ts := [7, 8, 10]) (T' := T_law19_RegionOf_L2) (env' := [(7, (D.lit t7.1 31 fun i => (S_api_Mod.d (t7.2 i)))), (8, (D.lit t8.1 31 fun i => (S_api_Mod.d (t8.2 i)))), (10, (D.int .i64 (IntKind.wrap .i64 (t10 + (1 : Int)))))]) (h2 := []) (by kernel_rfl) (by kernel_rfl) trivial (Nat.zero_le _) trivial (And.intro (fun _ _ => (S_api_Mod.inn _)) (And.intro (fun _ _ => (S_api_Mod.inn _)) (And.intro trivial trivial))) ?_
      exact hk
  · replace h := ifs_false h hb
    rw [← Option.some.inj h] at hk
    refine runs_to (ts := []) (T' := X_law19_RegionOf_L2T) (env' := []) (h2 := []) (by kernel_rfl) (by kernel_rfl) trivial (Nat.zero_le _) trivial trivial ?_
    exact hk

theorem iter_law19_RegionOf_L2 (fu : Nat) (t7 : (Nat × (Nat → S_api_Mod))) (t8 : (Nat × (Nat → S_api_Mod))) {d : D} (k : Nat) (s : Int) {o : E_law19_RegionOf_L2 ⊕ Bool} (h : iter (fun s => F_law19_RegionOf_L2 fu t7 t8 s) k s = some o) (hx : X_law19_RegionOf_L2 fu t7 t8 d o) : N_law19_RegionOf_L2 fu t7 t8 d s :=
  iter_post (K := N_law19_RegionOf_L2 fu t7 t8 d) (X := X_law19_RegionOf_L2 fu t7 t8 d) (fun s _ h hk => run_law19_RegionOf_L2 fu t7 t8 s h hk) k s o h hx

/-- podesta/podestalaw19.RegionOf -/
def F_law19_RegionOf (fu : Nat) (t0 : (Nat × (Nat → S_api_Change))) (t1 : Int) : Option Bool :=
  ifs (decide (((t0.1 : Nat) : Int) > (30 : Int))) (
    (F_law19_answers fu).bind fun r0 =>
    some r0) (
    chk (RoomOk (0 + t0.1) 272) <|
    (F_region_Of fu ((0 + t0.1), (fun i => if i < 0 then (fun i => ([] : List S_api_Change).getD i S_api_Change.z) i else t0.2 (i - 0)))).bind fun r1 =>
    (F_ref19_Region fu t0).bind fun r2 =>
    (F_region_For fu t0 t1).bind fun r3 =>
    (F_ref19_For fu t0 t1).bind fun r4 =>
    (F_law19_answers fu).bind fun r5 =>
    (callIf (!(bif (bif (!r5) then true else (((r1.1 : Nat) : Int) != ((r2.1 : Nat) : Int))) then true else (((r3.1 : Nat) : Int) != ((r4.1 : Nat) : Int)))) (F_region_Units fu t0) (0, fun _ => (0 : Int))).bind fun r6 =>
    (callIf (!(bif (bif (!r5) then true else (((r1.1 : Nat) : Int) != ((r2.1 : Nat) : Int))) then true else (((r3.1 : Nat) : Int) != ((r4.1 : Nat) : Int)))) (F_ref19_Units fu t0) (0, fun _ => (0 : Int))).bind fun r7 =>
    (callIf (!(bif (bif (!r5) then true else (((r1.1 : Nat) : Int) != ((r2.1 : Nat) : Int))) then true else (((r3.1 : Nat) : Int) != ((r4.1 : Nat) : Int)))) (F_ref01_Ints fu r6 r7) false).bind fun r8 =>
    ifs (bif (bif (bif (!r5) then true else (((r1.1 : Nat) : Int) != ((r2.1 : Nat) : Int))) then true else (((r3.1 : Nat) : Int) != ((r4.1 : Nat) : Int))) then true else (!r8)) (
      some false) (
      after (iter (fun s => F_law19_RegionOf_L1 fu r1 r2 r3 r4 s) fu (0 : Int)) fun _ =>
      after (iter (fun s => F_law19_RegionOf_L2 fu r3 r4 s) fu (0 : Int)) fun _ =>
      some true))

theorem run_law19_RegionOf (fu : Nat) (t0 : (Nat × (Nat → S_api_Change))) (t1 : Int) {d : D} {r : Bool} (h : F_law19_RegionOf fu t0 t1 = some r) (hk : (K_law19_RegionOf d) r) : Runs Try.prog Try.f5 0 T_law19_RegionOf [(0, (D.lit t0.1 32 fun i => (S_api_Change.d (t0.2 i)))), (1, (D.int .i64 t1))] [] d [] := by
  unfold F_law19_RegionOf at h
  refine runs_regions 2 [([], [0, 1]), ([], [0, 1, 13])] (z := ([], [(0, (D.lit t0.1 32 fun i => (S_api_Change.d (t0.2 i)))), (1, (D.int .i64 t1)), (13, (D.bool (decide (((t0.1 : Nat) : Int) > (30 : Int)))))], [])) rfl (by kernel_rfl) trivial ?_
  refine runs_if (b := (decide (((t0.1 : Nat) : Int) > (30 : Int)))) (by kernel_rfl) (fun hb => ?_) (fun hb => ?_)
  · replace h := ifs_true h hb
    obtain ⟨r0, cr0, h⟩ := Option.bind_eq_some_iff.1 h
    refine runs_regions 1 [([(.d (D.bool r0))], [4])] (z := ([FC Try.prog 6 [] [] (D.bool r0) [], All (List.map NoRow [])], [(4, (D.bool r0))], [])) rfl (by kernel_rfl) (And.intro (fc_law19_answers fu cr0) (And.intro trivial trivial)) ?_
    rw [← Option.some.inj h] at hk
    obtain rfl : d = (D.bool r0) := hk
    exact runs_ret (by kernel_rfl) trivial (Nat.le_refl 0) trivial trivial
  · replace h := ifs_false h hb
    obtain ⟨p0, h⟩ := chk_some h
    obtain ⟨r1, cr1, h⟩ := Option.bind_eq_some_iff.1 h
    obtain ⟨r2, cr2, h⟩ := Option.bind_eq_some_iff.1 h
    obtain ⟨r3, cr3, h⟩ := Option.bind_eq_some_iff.1 h
    obtain ⟨r4, cr4, h⟩ := Option.bind_eq_some_iff.1 h
    obtain ⟨r5, cr5, h⟩ := Option.bind_eq_some_iff.1 h
    obtain ⟨r6, cr6, h⟩ := Option.bind_eq_some_iff.1 h
    obtain ⟨r7, cr7, h⟩ := Option.bind_eq_some_iff.1 h
    obtain ⟨r8, cr8, h⟩ := Option.bind_eq_some_iff.1 h
    refine runs_regions 3 [([(.own (D.arr 0 32 fun i => (S_api_Change.d ((fun i => ([] : List S_api_Change).getD i S_api_Change.z) i)))), (.lit fun i => (S_api_Change.d ((fun i => if i < 0 then (fun i => ([] : List S_api_Change).getD i S_api_Change.z) i else t0.2 (i - 0)) i))), (.d (D.lit r1.1 25 fun i => (S_api_Region.d (r1.2 i)))), (.d (D.lit r2.1 25 fun i => (S_api_Region.d (r2.2 i))))], [0, 1, 5, 6]), ([(.d (D.lit r3.1 31 fun i => (S_api_Mod.d (r3.2 i)))), (.d (D.lit r4.1 31 fun i => (S_api_Mod.d (r4.2 i))))], [0, 5, 6, 7, 8]), ([(.d (D.bool r5)), (.d (D.lit r6.1 1 fun i => (D.int .i64 (r6.2 i)))), (.d (D.lit r7.1 1 fun i => (D.int .i64 (r7.2 i)))), (.d (D.bool r8))], [5, 6, 7, 8, 50])] (z := ([TabOk [] 32 (D.arr 0 32 fun i => (S_api_Change.d ((fun i => ([] : List S_api_Change).getD i S_api_Change.z) i))), (RoomOk (0 + t0.1) 272), CatOk (D.arr 0 32 fun i => (S_api_Change.d ((fun i => ([] : List S_api_Change).getD i S_api_Change.z) i))) (D.arr t0.1 32 fun i => (S_api_Change.d (t0.2 i))) (D.arr (0 + t0.1) 32 fun i => (S_api_Change.d ((fun i => if i < 0 then (fun i => ([] : List S_api_Change).getD i S_api_Change.z) i else t0.2 (i - 0)) i))), FC Try.prog 10 [(D.lit (0 + t0.1) 32 fun i => (S_api_Change.d ((fun i => if i < 0 then (fun i => ([] : List S_api_Change).getD i S_api_Change.z) i else t0.2 (i - 0)) i)))] [] (D.lit r1.1 25 fun i => (S_api_Region.d (r1.2 i))) [], All (List.map NoRow [(D.lit (0 + t0.1) 32 fun i => (S_api_Change.d ((fun i => if i < 0 then (fun i => ([] : List S_api_Change).getD i S_api_Change.z) i else t0.2 (i - 0)) i)))]), FC Try.prog 15 [(D.lit t0.1 32 fun i => (S_api_Change.d (t0.2 i)))] [] (D.lit r2.1 25 fun i => (S_api_Region.d (r2.2 i))) [], All (List.map NoRow [(D.lit t0.1 32 fun i => (S_api_Change.d (t0.2 i)))]), FC Try.prog 16 [(D.lit t0.1 32 fun i => (S_api_Change.d (t0.2 i))), (D.int .i64 t1)] [] (D.lit r3.1 31 fun i => (S_api_Mod.d (r3.2 i))) [], All (List.map NoRow [(D.lit t0.1 32 fun i => (S_api_Change.d (t0.2 i))), (D.int .i64 t1)]), FC Try.prog 17 [(D.lit t0.1 32 fun i => (S_api_Change.d (t0.2 i))), (D.int .i64 t1)] [] (D.lit r4.1 31 fun i => (S_api_Mod.d (r4.2 i))) [], All (List.map NoRow [(D.lit t0.1 32 fun i => (S_api_Change.d (t0.2 i))), (D.int .i64 t1)]), FC Try.prog 6 [] [] (D.bool r5) [], All (List.map NoRow []), ((!(!r5)) = true → All [((!(!r5)) = true → (!(!r5)) = true)]), ((!(!r5)) = true → All [((!(!r5)) = true → (!(!r5)) = true)]), ((!(!r5)) = true → All [((!(!r5)) = true → (!(!r5)) = true), ((!(!r5)) = true → (!(!r5)) = true)]), ((true && !(!r5)) = true → (!(!r5)) = true), ((!(bif (!r5) then true else (((r1.1 : Nat) : Int) != ((r2.1 : Nat) : Int)))) = true → All [((!(bif (!r5) then true else (((r1.1 : Nat) : Int) != ((r2.1 : Nat) : Int)))) = true → (!(bif (!r5) then true else (((r1.1 : Nat) : Int) != ((r2.1 : Nat) : Int)))) = true)]), ((!(bif (!r5) then true else (((r1.1 : Nat) : Int) != ((r2.1 : Nat) : Int)))) = true → All [((!(bif (!r5) then true else (((r1.1 : Nat) : Int) != ((r2.1 : Nat) : Int)))) = true → (!(bif (!r5) then true else (((r1.1 : Nat) : Int) != ((r2.1 : Nat) : Int)))) = true)]), ((!(bif (!r5) then true else (((r1.1 : Nat) : Int) != ((r2.1 : Nat) : Int)))) = true → All [((!(bif (!r5) then true else (((r1.1 : Nat) : Int) != ((r2.1 : Nat) : Int)))) = true → (!(bif (!r5) then true else (((r1.1 : Nat) : Int) != ((r2.1 : Nat) : Int)))) = true), ((!(bif (!r5) then true else (((r1.1 : Nat) : Int) != ((r2.1 : Nat) : Int)))) = true → (!(bif (!r5) then true else (((r1.1 : Nat) : Int) != ((r2.1 : Nat) : Int)))) = true)]), ((true && !(bif (!r5) then true else (((r1.1 : Nat) : Int) != ((r2.1 : Nat) : Int)))) = true → (!(bif (!r5) then true else (((r1.1 : Nat) : Int) != ((r2.1 : Nat) : Int)))) = true), ((!(bif (bif (!r5) then true else (((r1.1 : Nat) : Int) != ((r2.1 : Nat) : Int))) then true else (((r3.1 : Nat) : Int) != ((r4.1 : Nat) : Int)))) = true → All [((!(bif (bif (!r5) then true else (((r1.1 : Nat) : Int) != ((r2.1 : Nat) : Int))) then true else (((r3.1 : Nat) : Int) != ((r4.1 : Nat) : Int)))) = true → (!(bif (bif (!r5) then true else (((r1.1 : Nat) : Int) != ((r2.1 : Nat) : Int))) then true else (((r3.1 : Nat) : Int) != ((r4.1 : Nat) : Int)))) = true), FC Try.prog 19 [(D.lit t0.1 32 fun i => (S_api_Change.d (t0.2 i)))] [] (D.lit r6.1 1 fun i => (D.int .i64 (r6.2 i))) [], All (List.map NoRow [(D.lit t0.1 32 fun i => (S_api_Change.d (t0.2 i)))])]), ((!(bif (bif (!r5) then true else (((r1.1 : Nat) : Int) != ((r2.1 : Nat) : Int))) then true else (((r3.1 : Nat) : Int) != ((r4.1 : Nat) : Int)))) = true → All [((!(bif (bif (!r5) then true else (((r1.1 : Nat) : Int) != ((r2.1 : Nat) : Int))) then true else (((r3.1 : Nat) : Int) != ((r4.1 : Nat) : Int)))) = true → (!(bif (bif (!r5) then true else (((r1.1 : Nat) : Int) != ((r2.1 : Nat) : Int))) then true else (((r3.1 : Nat) : Int) != ((r4.1 : Nat) : Int)))) = true), FC Try.prog 20 [(D.lit t0.1 32 fun i => (S_api_Change.d (t0.2 i)))] [] (D.lit r7.1 1 fun i => (D.int .i64 (r7.2 i))) [], All (List.map NoRow [(D.lit t0.1 32 fun i => (S_api_Change.d (t0.2 i)))])]), ((!(bif (bif (!r5) then true else (((r1.1 : Nat) : Int) != ((r2.1 : Nat) : Int))) then true else (((r3.1 : Nat) : Int) != ((r4.1 : Nat) : Int)))) = true → All [((!(bif (bif (!r5) then true else (((r1.1 : Nat) : Int) != ((r2.1 : Nat) : Int))) then true else (((r3.1 : Nat) : Int) != ((r4.1 : Nat) : Int)))) = true → (!(bif (bif (!r5) then true else (((r1.1 : Nat) : Int) != ((r2.1 : Nat) : Int))) then true else (((r3.1 : Nat) : Int) != ((r4.1 : Nat) : Int)))) = true), ((!(bif (bif (!r5) then true else (((r1.1 : Nat) : Int) != ((r2.1 : Nat) : Int))) then true else (((r3.1 : Nat) : Int) != ((r4.1 : Nat) : Int)))) = true → (!(bif (bif (!r5) then true else (((r1.1 : Nat) : Int) != ((r2.1 : Nat) : Int))) then true else (((r3.1 : Nat) : Int) != ((r4.1 : Nat) : Int)))) = true), FC Try.prog 18 [(D.lit r6.1 1 fun i => (D.int .i64 (r6.2 i))), (D.lit r7.1 1 fun i => (D.int .i64 (r7.2 i)))] [] (D.bool r8) [], All (List.map NoRow [(D.lit r6.1 1 fun i => (D.int .i64 (r6.2 i))), (D.lit r7.1 1 fun i => (D.int .i64 (r7.2 i)))])]), ((!(bif (bif (!r5) then true else (((r1.1 : Nat) : Int) != ((r2.1 : Nat) : Int))) then true else (((r3.1 : Nat) : Int) != ((r4.1 : Nat) : Int)))) = true → All [((!(bif (bif (!r5) then true else (((r1.1 : Nat) : Int) != ((r2.1 : Nat) : Int))) then true else (((r3.1 : Nat) : Int) != ((r4.1 : Nat) : Int)))) = true → (!(bif (bif (!r5) then true else (((r1.1 : Nat) : Int) != ((r2.1 : Nat) : Int))) then true else (((r3.1 : Nat) : Int) != ((r4.1 : Nat) : Int)))) = true)]), ((true && !(bif (bif (!r5) then true else (((r1.1 : Nat) : Int) != ((r2.1 : Nat) : Int))) then true else (((r3.1 : Nat) : Int) != ((r4.1 : Nat) : Int)))) = true → (!(bif (bif (!r5) then true else (((r1.1 : Nat) : Int) != ((r2.1 : Nat) : Int))) then true else (((r3.1 : Nat) : Int) != ((r4.1 : Nat) : Int)))) = true)], [(5, (D.lit r1.1 25 fun i => (S_api_Region.d (r1.2 i)))), (6, (D.lit r2.1 25 fun i => (S_api_Region.d (r2.2 i)))), (7, (D.lit r3.1 31 fun i => (S_api_Mod.d (r3.2 i)))), (8, (D.lit r4.1 31 fun i => (S_api_Mod.d (r4.2 i)))), (50, (D.bool (bif (bif (bif (!r5) then true else (((r1.1 : Nat) : Int) != ((r2.1 : Nat) : Int))) then true else (((r3.1 : Nat) : Int) != ((r4.1 : Nat) : Int))) then true else (!r8))))], [none, none])) rfl (by kernel_rfl) (And.intro (tabOk_arr rfl trivial) (And.intro p0 (And.intro (catOk_arr' rfl fun i => (d_ite (f := fun x : S_api_Change => (S_api_Change.d x)) rfl rfl).symm) (And.intro (fc_region_Of fu ((0 + t0.1), (fun i => if i < 0 then (fun i => ([] : List S_api_Change).getD i S_api_Change.z) i else t0.2 (i - 0))) cr1) (And.intro (And.intro (fun _ _ => (S_api_Change.inn _)) trivial) (And.intro (fc_ref19_Region fu t0 cr2) (And.intro (And.intro (fun _ _ => (S_api_Change.inn _)) trivial) (And.intro (fc_region_For fu t0 t1 cr3) (And.intro (And.intro (fun _ _ => (S_api_Change.inn _)) (And.intro trivial trivial)) (And.intro (fc_ref19_For fu t0 t1 cr4) (And.intro (And.intro (fun _ _ => (S_api_Change.inn _)) (And.intro trivial trivial)) (And.intro (fc_law19_answers fu cr5) (And.intro trivial (And.intro (fun _ => (And.intro (by first | exact fun h => h | exact fun h => (Bool.and_eq_true_iff.1 h).1 | simp_all) trivial)) (And.intro (fun _ => (And.intro (by first | exact fun h => h | exact fun h => (Bool.and_eq_true_iff.1 h).1 | simp_all) trivial)) (And.intro (fun _ => (And.intro (by first | exact fun h => h | exact fun h => (Bool.and_eq_true_iff.1 h).1 | simp_all) (And.intro (by first | exact fun h => h | exact fun h => (Bool.and_eq_true_iff.1 h).1 | simp_all) trivial))) (And.intro (by first | exact fun h => h | exact fun h => (Bool.and_eq_true_iff.1 h).1 | simp_all) (And.intro (fun _ => (And.intro (by first | exact fun h => h | exact fun h => (Bool.and_eq_true_iff.1 h).1 | simp_all) trivial)) (And.intro (fun _ => (And.intro (by first | exact fun h => h | exact fun h => (Bool.and_eq_true_iff.1 h).1 | simp_all) trivial)) (And.intro (fun _ => (And.intro (by first | exact fun h => h | exact fun h => (Bool.and_eq_true_iff.1 h).1 | simp_all) (And.intro (by first | exact fun h => h | exact fun h => (Bool.and_eq_true_iff.1 h).1 | simp_all) trivial))) (And.intro (by first | exact fun h => h | exact fun h => (Bool.and_eq_true_iff.1 h).1 | simp_all) (And.intro (fun hg => (And.intro (by first | exact fun h => h | exact fun h => (Bool.and_eq_true_iff.1 h).1 | simp_all) (And.intro (fc_region_Units fu t0 (callIf_some cr6 hg)) (And.intro (And.intro (fun _ _ => (S_api_Change.inn _)) trivial) trivial)))) (And.intro (fun hg => (And.intro (by first | exact fun h => h | exact fun h => (Bool.and_eq_true_iff.1 h).1 | simp_all) (And.intro (fc_ref19_Units fu t0 (callIf_some cr7 hg)) (And.intro (And.intro (fun _ _ => (S_api_Change.inn _)) trivial) trivial)))) (And.intro (fun hg => (And.intro (by first | exact fun h => h | exact fun h => (Bool.and_eq_true_iff.1 h).1 | simp_all) (And.intro (by first | exact fun h => h | exact fun h => (Bool.and_eq_true_iff.1 h).1 | simp_all) (And.intro (fc_ref01_Ints fu r6 r7 (callIf_some cr8 hg)) (And.intro (And.intro (fun _ _ => trivial) (And.intro (fun _ _ => trivial) trivial)) trivial))))) (And.intro (fun _ => (And.intro (by first | exact fun h => h | exact fun h => (Bool.and_eq_true_iff.1 h).1 | simp_all) trivial)) (And.intro (by first | exact fun h => h | exact fun h => (Bool.and_eq_true_iff.1 h).1 | simp_all) trivial)))))))))))))))))))))))))) ?_
    refine runs_if (b := (bif (bif (bif (!r5) then true else (((r1.1 : Nat) : Int) != ((r2.1 : Nat) : Int))) then true else (((r3.1 : Nat) : Int) != ((r4.1 : Nat) : Int))) then true else (!r8))) (by kernel_rfl) (fun hb => ?_) (fun hb => ?_)
    · replace h := ifs_true h hb
      refine runs_regions 1 [([], [4])] (z := ([], [(4, (D.bool false))], [none, none])) rfl (by kernel_rfl) trivial ?_
      rw [← Option.some.inj h] at hk
      obtain rfl : d = (D.bool false) := hk
      exact runs_ret (by kernel_rfl) trivial (Nat.le_refl 0) trivial trivial
    · replace h := ifs_false h hb
      refine runs_regions 1 [([], [5, 6, 7, 8, 9])] (z := ([], [(5, (D.lit r1.1 25 fun i => (S_api_Region.d (r1.2 i)))), (6, (D.lit r2.1 25 fun i => (S_api_Region.d (r2.2 i)))), (7, (D.lit r3.1 31 fun i => (S_api_Mod.d (r3.2 i)))), (8, (D.lit r4.1 31 fun i => (S_api_Mod.d (r4.2 i)))), (9, (D.int .i64 (0 : Int)))], [none, none])) rfl (by kernel_rfl) trivial ?_
      refine runs_to (ts := [5, 6, 7, 8, 9]) (T' := T_law19_RegionOf_L1) (env' := [(5, (D.lit r1.1 25 fun i => (S_api_Region.d (r1.2 i)))), (6, (D.lit r2.1 25 fun i => (S_api_Region.d (r2.2 i)))), (7, (D.lit r3.1 31 fun i => (S_api_Mod.d (r3.2 i)))), (8, (D.lit r4.1 31 fun i => (S_api_Mod.d (r4.2 i)))), (9, (D.int .i64 (0 : Int)))]) (h2 := []) (by kernel_rfl) (by kernel_rfl) trivial (Nat.zero_le _) trivial (And.intro (fun _ _ => (S_api_Region.inn _)) (And.intro (fun _ _ => (S_api_Region.inn _)) (And.intro (fun _ _ => (S_api_Mod.inn _)) (And.intro (fun _ _ => (S_api_Mod.inn _)) (And.intro trivial trivial))))) ?_
      rcases after_some h with ⟨e4, hi, h⟩ | hi
      · refine iter_law19_RegionOf_L1 fu r1 r2 r3 r4 fu (0 : Int) hi ?_
        show Runs Try.prog Try.f5 0 X_law19_RegionOf_L1T [(7, (D.lit r3.1 31 fun i => (S_api_Mod.d (r3.2 i)))), (8, (D.lit r4.1 31 fun i => (S_api_Mod.d (r4.2 i))))] [] d []
        refine runs_regions 1 [([], [7, 8, 10])] (z := ([], [(7, (D.lit r3.1 31 fun i => (S_api_Mod.d (r3.2 i)))), (8, (D.lit r4.1 31 fun i => (S_api_Mod.d (r4.2 i)))), (10, (D.int .i64 (0 : Int)))], [])) rfl (by kernel_rfl) trivial ?_
        refine runs_to (ts := [7, 8, 10]) (T' := T_law19_RegionOf_L2) (env' := [(7, (D.lit r3.1 31 fun i => (S_api_Mod.d (r3.2 i)))), (8, (D.lit r4.1 31 fun i => (S_api_Mod.d (r4.2 i)))), (10, (D.int .i64 (0 : Int)))]) (h2 := []) (by kernel_rfl) (by kernel_rfl) trivial (Nat.zero_le _) trivial (And.intro (fun _ _ => (S_api_Mod.inn _)) (And.intro (fun _ _ => (S_api_Mod.inn _)) (And.intro trivial trivial))) ?_
        rcases after_some h with ⟨e7, hi, h⟩ | hi
        · refine iter_law19_RegionOf_L2 fu r3 r4 fu (0 : Int) hi ?_
          show Runs Try.prog Try.f5 0 X_law19_RegionOf_L2T [] [] d []
          refine runs_regions 1 [([], [4])] (z := ([], [(4, (D.bool true))], [])) rfl (by kernel_rfl) trivial ?_
          rw [← Option.some.inj h] at hk
          obtain rfl : d = (D.bool true) := hk
          exact runs_ret (by kernel_rfl) trivial (Nat.le_refl 0) trivial trivial
        · exact iter_law19_RegionOf_L2 fu r3 r4 fu (0 : Int) hi hk
      · exact iter_law19_RegionOf_L1 fu r1 r2 r3 r4 fu (0 : Int) hi hk

theorem fc_law19_RegionOf (fu : Nat) (t0 : (Nat × (Nat → S_api_Change))) (t1 : Int) {r : Bool} (h : F_law19_RegionOf fu t0 t1 = some r) : FC Try.prog 5 [(D.lit t0.1 32 fun i => (S_api_Change.d (t0.2 i))), (D.int .i64 t1)] [] (D.bool r) [] := by
  refine fc_of_runs (fn := Try.f5) (c := Try.f5.body.getD .skip) (by kernel_rfl) (by kernel_rfl) ?_
  refine runs_to (ts := [0, 1]) (T' := T_law19_RegionOf) (env' := [(0, (D.lit t0.1 32 fun i => (S_api_Change.d (t0.2 i)))), (1, (D.int .i64 t1))]) (h2 := []) (by kernel_rfl) (by kernel_rfl) trivial (Nat.le_refl _) trivial (And.intro (fun _ _ => (S_api_Change.inn _)) (And.intro trivial trivial)) ?_
  exact run_law19_RegionOf fu t0 t1 h rfl

end Go.Proofs.Ytffkolbogcpjjaa
