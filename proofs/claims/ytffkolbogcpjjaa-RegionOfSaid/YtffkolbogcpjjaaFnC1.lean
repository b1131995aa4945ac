/- What the functions compute, each proved to do so (printed by pgen.py). -/
import Derived.Test.YtffkolbogcpjjaaProg
import Derived.Test.YtffkolbogcpjjaaPodK
import Derived.Test.YtffkolbogcpjjaaFnA
import Derived.Test.YtffkolbogcpjjaaRoSort
namespace Go.Proofs.Ytffkolbogcpjjaa
open Go Go.Pod Go.Proofs

structure S_api_Mod where
  f0 : Int
  f1 : S_api_Cube
  f2 : Int
  f3 : (Nat × (Nat → S_api_Act))
  f4 : Int
  f5 : Int
  f6 : Int
  f7 : Bool

def S_api_Mod.d (x : S_api_Mod) : D := (D.cons (D.int .i64 x.f0) (D.cons (S_api_Cube.d x.f1) (D.cons (D.int .i64 x.f2) (D.cons (D.lit x.f3.1 4 fun i => (S_api_Act.d (x.f3.2 i))) (D.cons (D.int .i64 x.f4) (D.cons (D.int .i64 x.f5) (D.cons (D.int .i64 x.f6) (D.cons (D.bool x.f7) D.nil))))))))
theorem S_api_Mod.inn {S : Nat → Prop} (x : S_api_Mod) : (S_api_Mod.d x).In S := by
  unfold S_api_Mod.d
  exact (And.intro trivial (And.intro (S_api_Cube.inn _) (And.intro trivial (And.intro (fun _ _ => (S_api_Act.inn _)) (And.intro trivial (And.intro trivial (And.intro trivial (And.intro trivial trivial))))))))
theorem S_api_Mod.rnk {r0 r1 : Nat} (x : S_api_Mod) : rnOk r0 r1 (S_api_Mod.d x) := by
  unfold S_api_Mod.d
  exact (And.intro trivial (And.intro (S_api_Cube.rnk _) (And.intro trivial (And.intro (fun _ _ => (S_api_Act.inn _)) (And.intro trivial (And.intro trivial (And.intro trivial (And.intro trivial trivial))))))))
abbrev S_api_Mod.z : S_api_Mod := (S_api_Mod.mk (0 : Int) S_api_Cube.z (0 : Int) (0, fun _ => S_api_Act.z) (0 : Int) (0 : Int) (0 : Int) false)

def S_api_Mod.wf (x : S_api_Mod) : Prop := (Lit.int .i64 x.f0).wf = true ∧ S_api_Cube.wf x.f1 ∧ (Lit.int .i64 x.f2).wf = true ∧ (x.f3.1 ≤ maxLen ∧ x.f3.1 * 32 ≤ reachBytes ∧ ∀ i, i < x.f3.1 → S_api_Act.wf (x.f3.2 i)) ∧ (Lit.int .i64 x.f4).wf = true ∧ (Lit.int .i64 x.f5).wf = true ∧ (Lit.int .i64 x.f6).wf = true ∧ True ∧ True

structure S_api_Change where
  f0 : Int
  f1 : S_api_Mod

def S_api_Change.d (x : S_api_Change) : D := (D.cons (D.int .i64 x.f0) (D.cons (S_api_Mod.d x.f1) D.nil))
theorem S_api_Change.inn {S : Nat → Prop} (x : S_api_Change) : (S_api_Change.d x).In S := by
  unfold S_api_Change.d
  exact (And.intro trivial (And.intro (S_api_Mod.inn _) trivial))
theorem S_api_Change.rnk {r0 r1 : Nat} (x : S_api_Change) : rnOk r0 r1 (S_api_Change.d x) := by
  unfold S_api_Change.d
  exact (And.intro trivial (And.intro (S_api_Mod.rnk _) trivial))
abbrev S_api_Change.z : S_api_Change := (S_api_Change.mk (0 : Int) S_api_Mod.z)

def S_api_Change.wf (x : S_api_Change) : Prop := (Lit.int .i64 x.f0).wf = true ∧ S_api_Mod.wf x.f1 ∧ True

def K_slices_Compact_api_Region (d : D) (hp : Heap) (r : (Nat × (Nat → S_api_Region))) : Prop := d = (D.own 1) ∧ hp = [none, some (.seq 30 r.1 25 (D.arr r.1 25 fun i => (S_api_Region.d (r.2 i))))]

noncomputable def T_slices_Compact_api_Region : List Item := norm 200 [.code (Try.f33.body.getD .skip)]

noncomputable def T_slices_Compact_api_Region_L2 : List Item := norm 200 (nxt (nxt (cndT (nxt (cndT (nxt (nxt (cndF (nxt (nxt T_slices_Compact_api_Region))))))))))

noncomputable def X_slices_Compact_api_Region_L2T : List Item := norm 200 (cndF (nxt (nxt (nxt (cndT (nxt (cndT (nxt (nxt (cndF (nxt (nxt T_slices_Compact_api_Region))))))))))))

noncomputable def T_slices_Compact_api_Region_L1 : List Item := norm 200 (nxt (cndF (nxt (nxt T_slices_Compact_api_Region))))

noncomputable def X_slices_Compact_api_Region_L1T : List Item := norm 200 (cndF (nxt (nxt (cndF (nxt (nxt T_slices_Compact_api_Region))))))

abbrev E_slices_Compact_api_Region_L1 := Unit

def N_slices_Compact_api_Region_L1 (_fu : Nat) (m0 : (Nat × (Nat → S_api_Region))) (d : D) (hp : Heap) (s : Int) : Prop := Runs Try.prog Try.f33 1 T_slices_Compact_api_Region_L1 [(0, (D.own 0)), (3, (D.int .i64 s))] [some (.seq 30 m0.1 25 (D.arr m0.1 25 fun i => (S_api_Region.d (m0.2 i))))] d hp

def X_slices_Compact_api_Region_L1 (_fu : Nat) (m0 : (Nat × (Nat → S_api_Region))) (d : D) (hp : Heap) : E_slices_Compact_api_Region_L1 ⊕ (Nat × (Nat → S_api_Region)) → Prop
  | .inl _ => Runs Try.prog Try.f33 1 X_slices_Compact_api_Region_L1T [(0, (D.own 0))] [some (.seq 30 m0.1 25 (D.arr m0.1 25 fun i => (S_api_Region.d (m0.2 i))))] d hp
  | .inr o => (K_slices_Compact_api_Region d hp) o

abbrev E_slices_Compact_api_Region_L2 := (Int × (Nat × (Nat → S_api_Region)))

def N_slices_Compact_api_Region_L2 (_fu : Nat) (_m0 : (Nat × (Nat → S_api_Region))) (t4_lo : Nat) (t4_n : Nat) (d : D) (hp : Heap) (s : (Int × Int × (Nat × (Nat → S_api_Region)))) : Prop := Runs Try.prog Try.f33 1 T_slices_Compact_api_Region_L2 [(0, (D.own 0)), (3, (D.int .i64 s.1)), (4, (D.view 0 t4_lo t4_n 25)), (5, (D.int .i64 s.2.1))] [some (.seq 30 s.2.2.1 25 (D.arr s.2.2.1 25 fun i => (S_api_Region.d (s.2.2.2 i))))] d hp

def X_slices_Compact_api_Region_L2 (fu : Nat) (m0 : (Nat × (Nat → S_api_Region))) (_t4_lo : Nat) (_t4_n : Nat) (d : D) (hp : Heap) : E_slices_Compact_api_Region_L2 ⊕ (Lo Int E_slices_Compact_api_Region_L1 (Nat × (Nat → S_api_Region))) → Prop
  | .inl e => Runs Try.prog Try.f33 1 X_slices_Compact_api_Region_L2T [(0, (D.own 0)), (3, (D.int .i64 e.1))] [some (.seq 30 e.2.1 25 (D.arr e.2.1 25 fun i => (S_api_Region.d (e.2.2 i))))] d hp
  | .inr o => (Lo.post (N_slices_Compact_api_Region_L1 fu m0 d hp) (X_slices_Compact_api_Region_L1 fu m0 d hp)) o

def F_slices_Compact_api_Region_L2 (_fu : Nat) (_m0 : (Nat × (Nat → S_api_Region))) (t4_lo : Nat) (t4_n : Nat) (t3 : Int) (t5 : Int) (m0x : (Nat × (Nat → S_api_Region))) : Option (Lo (Int × Int × (Nat × (Nat → S_api_Region))) E_slices_Compact_api_Region_L2 (Lo Int E_slices_Compact_api_Region_L1 (Nat × (Nat → S_api_Region)))) :=
  ifs (decide (t5 < ((t4_n : Nat) : Int))) (
    chk (0 ≤ t5 ∧ t5 < ((t4_n : Nat) : Int)) <|
    chk ((t4_lo + t5.toNat) < m0x.1) <|
    chk (0 ≤ (IntKind.wrap .i64 (t5 - (1 : Int))) ∧ (IntKind.wrap .i64 (t5 - (1 : Int))) < ((t4_n : Nat) : Int)) <|
    chk ((t4_lo + (IntKind.wrap .i64 (t5 - (1 : Int))).toNat) < m0x.1) <|
    ifs (!(((m0x.2 (t4_lo + t5.toNat)).f0 == (m0x.2 (t4_lo + (IntKind.wrap .i64 (t5 - (1 : Int))).toNat)).f0) && ((((List.range 12).all fun i => (m0x.2 (t4_lo + t5.toNat)).f1.f0 i == (m0x.2 (t4_lo + (IntKind.wrap .i64 (t5 - (1 : Int))).toNat)).f1.f0 i) && (((List.range 12).all fun i => (m0x.2 (t4_lo + t5.toNat)).f1.f1 i == (m0x.2 (t4_lo + (IntKind.wrap .i64 (t5 - (1 : Int))).toNat)).f1.f1 i) && true)) && true))) (
      chk (0 ≤ t5 ∧ t5 < ((t4_n : Nat) : Int)) <|
      chk ((t4_lo + t5.toNat) < m0x.1) <|
      chk (0 ≤ t3 ∧ t3 < ((m0x.1 : Nat) : Int)) <|
      chk (t3.toNat < m0x.1) <|
      some (.next ((IntKind.wrap .i64 (t3 + (1 : Int))), (IntKind.wrap .i64 (t5 + (1 : Int))), (m0x.1, (fun j => if j = t3.toNat then (m0x.2 (t4_lo + t5.toNat)) else m0x.2 j))))) (
      some (.next (t3, (IntKind.wrap .i64 (t5 + (1 : Int))), m0x)))) (
    some (.exit (t3, m0x)))

theorem run_slices_Compact_api_Region_L2 (fu : Nat) (m0 : (Nat × (Nat → S_api_Region))) (t4_lo : Nat) (t4_n : Nat) (t3 : Int) (t5 : Int) (m0x : (Nat × (Nat → S_api_Region))) {d : D} {hp : Heap} {o : (Lo (Int × Int × (Nat × (Nat → S_api_Region))) E_slices_Compact_api_Region_L2 (Lo Int E_slices_Compact_api_Region_L1 (Nat × (Nat → S_api_Region))))} (h : F_slices_Compact_api_Region_L2 fu m0 t4_lo t4_n t3 t5 m0x = some o) (hk : (Lo.post (N_slices_Compact_api_Region_L2 fu m0 t4_lo t4_n d hp) (X_slices_Compact_api_Region_L2 fu m0 t4_lo t4_n d hp)) o) : Runs Try.prog Try.f33 1 T_slices_Compact_api_Region_L2 [(0, (D.own 0)), (3, (D.int .i64 t3)), (4, (D.view 0 t4_lo t4_n 25)), (5, (D.int .i64 t5))] [some (.seq 30 m0x.1 25 (D.arr m0x.1 25 fun i => (S_api_Region.d (m0x.2 i))))] d hp := by
  unfold F_slices_Compact_api_Region_L2 at h
  refine runs_regions 1 [([], [0, 3, 4, 5, 32])] (z := ([], [(0, (D.own 0)), (3, (D.int .i64 t3)), (4, (D.view 0 t4_lo t4_n 25)), (5, (D.int .i64 t5)), (32, (D.bool (decide (t5 < ((t4_n : Nat) : Int)))))], [some (.seq 30 m0x.1 25 (D.arr m0x.1 25 fun i => (S_api_Region.d (m0x.2 i))))])) rfl (by kernel_rfl) trivial ?_
  refine runs_if (b := (decide (t5 < ((t4_n : Nat) : Int)))) (by kernel_rfl) (fun hb => ?_) (fun hb => ?_)
  · replace h := ifs_true h hb
    obtain ⟨p5, h⟩ := chk_some h
    obtain ⟨p6, h⟩ := chk_some h
    obtain ⟨p7, h⟩ := chk_some h
    obtain ⟨p8, h⟩ := chk_some h
    refine runs_regions 1 [([], [0, 3, 4, 5, 44])] (z := ([(0 ≤ t5 ∧ t5 < ((t4_n : Nat) : Int)), ((t4_lo + t5.toNat) < m0x.1), (0 ≤ (IntKind.wrap .i64 (t5 - (1 : Int))) ∧ (IntKind.wrap .i64 (t5 - (1 : Int))) < ((t4_n : Nat) : Int)), ((t4_lo + (IntKind.wrap .i64 (t5 - (1 : Int))).toNat) < m0x.1)], [(0, (D.own 0)), (3, (D.int .i64 t3)), (4, (D.view 0 t4_lo t4_n 25)), (5, (D.int .i64 t5)), (44, (D.bool (!(((m0x.2 (t4_lo + t5.toNat)).f0 == (m0x.2 (t4_lo + (IntKind.wrap .i64 (t5 - (1 : Int))).toNat)).f0) && ((((List.range 12).all fun i => (m0x.2 (t4_lo + t5.toNat)).f1.f0 i == (m0x.2 (t4_lo + (IntKind.wrap .i64 (t5 - (1 : Int))).toNat)).f1.f0 i) && (((List.range 12).all fun i => (m0x.2 (t4_lo + t5.toNat)).f1.f1 i == (m0x.2 (t4_lo + (IntKind.wrap .i64 (t5 - (1 : Int))).toNat)).f1.f1 i) && true)) && true)))))], [some (.seq 30 m0x.1 25 (D.arr m0x.1 25 fun i => (S_api_Region.d (m0x.2 i))))])) rfl (by kernel_rfl) (And.intro p5 (And.intro p6 (And.intro p7 (And.intro p8 trivial)))) ?_
    refine runs_if (b := (!(((m0x.2 (t4_lo + t5.toNat)).f0 == (m0x.2 (t4_lo + (IntKind.wrap .i64 (t5 - (1 : Int))).toNat)).f0) && ((((List.range 12).all fun i => (m0x.2 (t4_lo + t5.toNat)).f1.f0 i == (m0x.2 (t4_lo + (IntKind.wrap .i64 (t5 - (1 : Int))).toNat)).f1.f0 i) && (((List.range 12).all fun i => (m0x.2 (t4_lo + t5.toNat)).f1.f1 i == (m0x.2 (t4_lo + (IntKind.wrap .i64 (t5 - (1 : Int))).toNat)).f1.f1 i) && true)) && true)))) (by kernel_rfl) (fun hb => ?_) (fun hb => ?_)
    · replace h := ifs_true h hb
      obtain ⟨p9, h⟩ := chk_some h
      obtain ⟨p10, h⟩ := chk_some h
      obtain ⟨p11, h⟩ := chk_some h
      obtain ⟨p12, h⟩ := chk_some h
      refine runs_regions 1 [([], [0, 3, 4, 5])] (z := ([(0 ≤ t5 ∧ t5 < ((t4_n : Nat) : Int)), ((t4_lo + t5.toNat) < m0x.1), (0 ≤ t3 ∧ t3 < ((m0x.1 : Nat) : Int)), (t3.toNat < m0x.1)], [(0, (D.own 0)), (3, (D.int .i64 t3)), (4, (D.view 0 t4_lo t4_n 25)), (5, (D.int .i64 t5))], [some (.seq 30 m0x.1 25 (D.arr m0x.1 25 fun j => (if j = t3.toNat then (S_api_Region.d (m0x.2 (t4_lo + t5.toNat))) else (S_api_Region.d (m0x.2 j)))))])) rfl (by kernel_rfl) (And.intro p9 (And.intro p10 (And.intro p11 (And.intro p12 trivial)))) ?_
      refine cast_fun (F := fun q => Runs Try.prog Try.f33 1 _ [(0, (D.own 0)), (3, (D.int .i64 t3)), (4, (D.view 0 t4_lo t4_n 25)), (5, (D.int .i64 t5))] [some (.seq 30 m0x.1 25 (D.arr m0x.1 25 q))] d hp) (funext fun j => (show (if j = t3.toNat then (S_api_Region.d (m0x.2 (t4_lo + t5.toNat))) else (S_api_Region.d (m0x.2 j))) = (fun x : S_api_Region => (S_api_Region.d x)) ((fun j => if j = t3.toNat then (m0x.2 (t4_lo + t5.toNat)) else m0x.2 j) j) from (d_ite (f := fun x : S_api_Region => (S_api_Region.d x)) rfl rfl))) ?_
      refine runs_regions 2 [([], [0, 3, 4, 5]), ([], [0, 3, 4, 5])] (z := ([], [(0, (D.own 0)), (3, (D.int .i64 (IntKind.wrap .i64 (t3 + (1 : Int))))), (4, (D.view 0 t4_lo t4_n 25)), (5, (D.int .i64 (IntKind.wrap .i64 (t5 + (1 : Int)))))], [some (.seq 30 m0x.1 25 (D.arr m0x.1 25 fun i => (S_api_Region.d ((fun j => if j = t3.toNat then (m0x.2 (t4_lo + t5.toNat)) else m0x.2 j) i))))])) rfl (by kernel_rfl) trivial ?_
      rw [← Option.some.inj h] at hk
      refine runs_to (ts := [0, 3, 4, 5]) (T' := T_slices_Compact_api_Region_L2) (env' := [(0, (D.own 0)), (3, (D.int .i64 (IntKind.wrap .i64 (t3 + (1 : Int))))), (4, (D.view 0 t4_lo t4_n 25)), (5, (D.int .i64 (IntKind.wrap .i64 (t5 + (1 : Int)))))]) (h2 := [some (.seq 30 m0x.1 25 (D.arr m0x.1 25 fun i => (S_api_Region.d ((fun j => if j = t3.toNat then (m0x.2 (t4_lo + t5.toNat)) else m0x.2 j) i))))]) (by kernel_rfl) (by kernel_rfl) (And.intro (.inr rfl) trivial) (Nat.le_of_ble_eq_true rfl) (And.intro (fun _ _ => (S_api_Region.inn _)) trivial) (And.intro (bel_of rfl) (And.intro trivial (And.intro (bel_of rfl) (And.intro trivial trivial)))) ?_
      exact hk
    · replace h := ifs_false h hb
      refine runs_regions 1 [([], [0, 3, 4, 5])] (z := ([], [(0, (D.own 0)), (3, (D.int .i64 t3)), (4, (D.view 0 t4_lo t4_n 25)), (5, (D.int .i64 (IntKind.wrap .i64 (t5 + (1 : Int)))))], [some (.seq 30 m0x.1 25 (D.arr m0x.1 25 fun i => (S_api_Region.d (m0x.2 i))))])) rfl (by kernel_rfl) trivial ?_
      rw [← Option.some.inj h] at hk
      refine runs_to (ts := [0, 3, 4, 5]) (T' := T_slices_Compact_api_Region_L2) (env' := [(0, (D.own 0)), (3, (D.int .i64 t3)), (4, (D.view 0 t4_lo t4_n 25)), (5, (D.int .i64 (IntKind.wrap .i64 (t5 + (1 : Int)))))]) (h2 := [some (.seq 30 m0x.1 25 (D.arr m0x.1 25 fun i => (S_api_Region.d (m0x.2 i))))]) (by kernel_rfl) (by kernel_rfl) (And.intro (.inr rfl) trivial) (Nat.le_of_ble_eq_true rfl) (And.intro (fun _ _ => (S_api_Region.inn _)) trivial) (And.intro (bel_of rfl) (And.intro trivial (And.intro (bel_of rfl) (And.intro trivial trivial)))) ?_
      exact hk
  · replace h := ifs_false h hb
    rw [← Option.some.inj h] at hk
    refine runs_to (ts := [0, 3]) (T' := X_slices_Compact_api_Region_L2T) (env' := [(0, (D.own 0)), (3, (D.int .i64 t3))]) (h2 := [some (.seq 30 m0x.1 25 (D.arr m0x.1 25 fun i => (S_api_Region.d (m0x.2 i))))]) (by kernel_rfl) (by kernel_rfl) (And.intro (.inr rfl) trivial) (Nat.le_of_ble_eq_true rfl) (And.intro (fun _ _ => (S_api_Region.inn _)) trivial) (And.intro (bel_of rfl) (And.intro trivial trivial)) ?_
    exact hk

theorem iter_slices_Compact_api_Region_L2 (fu : Nat) (m0 : (Nat × (Nat → S_api_Region))) (t4_lo : Nat) (t4_n : Nat) {d : D} {hp : Heap} (k : Nat) (s : (Int × Int × (Nat × (Nat → S_api_Region)))) {o : E_slices_Compact_api_Region_L2 ⊕ (Lo Int E_slices_Compact_api_Region_L1 (Nat × (Nat → S_api_Region)))} (h : iter (fun s => F_slices_Compact_api_Region_L2 fu m0 t4_lo t4_n s.1 s.2.1 s.2.2) k s = some o) (hx : X_slices_Compact_api_Region_L2 fu m0 t4_lo t4_n d hp o) : N_slices_Compact_api_Region_L2 fu m0 t4_lo t4_n d hp s :=
  iter_post (K := N_slices_Compact_api_Region_L2 fu m0 t4_lo t4_n d hp) (X := X_slices_Compact_api_Region_L2 fu m0 t4_lo t4_n d hp) (fun s _ h hk => run_slices_Compact_api_Region_L2 fu m0 t4_lo t4_n s.1 s.2.1 s.2.2 h hk) k s o h hx

def F_slices_Compact_api_Region_L1 (fu : Nat) (m0 : (Nat × (Nat → S_api_Region))) (t3 : Int) : Option (Lo Int E_slices_Compact_api_Region_L1 (Nat × (Nat → S_api_Region))) :=
  ifs (decide (t3 < ((m0.1 : Nat) : Int))) (
    chk (0 ≤ t3 ∧ t3 < ((m0.1 : Nat) : Int)) <|
    chk (t3.toNat < m0.1) <|
    chk (0 ≤ (IntKind.wrap .i64 (t3 - (1 : Int))) ∧ (IntKind.wrap .i64 (t3 - (1 : Int))) < ((m0.1 : Nat) : Int)) <|
    chk ((IntKind.wrap .i64 (t3 - (1 : Int))).toNat < m0.1) <|
    ifs (((m0.2 t3.toNat).f0 == (m0.2 (IntKind.wrap .i64 (t3 - (1 : Int))).toNat).f0) && ((((List.range 12).all fun i => (m0.2 t3.toNat).f1.f0 i == (m0.2 (IntKind.wrap .i64 (t3 - (1 : Int))).toNat).f1.f0 i) && (((List.range 12).all fun i => (m0.2 t3.toNat).f1.f1 i == (m0.2 (IntKind.wrap .i64 (t3 - (1 : Int))).toNat).f1.f1 i) && true)) && true)) (
      chk (0 ≤ t3 ∧ t3 ≤ ((m0.1 : Nat) : Int) ∧ ((m0.1 : Nat) : Int) ≤ ((m0.1 : Nat) : Int)) <|
      after (iter (fun s => F_slices_Compact_api_Region_L2 fu m0 (t3).toNat ((((m0.1 : Nat) : Int)).toNat - (t3).toNat) s.1 s.2.1 s.2.2) fu (t3, (1 : Int), m0)) fun e14 =>
      chk (0 ≤ e14.1 ∧ e14.1 ≤ ((e14.2.1 : Nat) : Int) ∧ ((e14.2.1 : Nat) : Int) ≤ ((e14.2.1 : Nat) : Int)) <|
      chk ((e14.1).toNat + ((((e14.2.1 : Nat) : Int)).toNat - (e14.1).toNat) ≤ e14.2.1) <|
      chk (0 ≤ (0 : Int) ∧ (0 : Int) ≤ e14.1 ∧ e14.1 ≤ ((e14.2.1 : Nat) : Int)) <|
      chk (((e14.1).toNat - ((0 : Int)).toNat) ≤ e14.2.1) <|
      some (.ret (((e14.1).toNat - ((0 : Int)).toNat), (fun i => if (e14.1).toNat ≤ i ∧ i < (e14.1).toNat + ((((e14.2.1 : Nat) : Int)).toNat - (e14.1).toNat) then S_api_Region.z else e14.2.2 i)))) (
      some (.next (IntKind.wrap .i64 (t3 + (1 : Int)))))) (
    some (.exit ()))

theorem run_slices_Compact_api_Region_L1 (fu : Nat) (m0 : (Nat × (Nat → S_api_Region))) (t3 : Int) {d : D} {hp : Heap} {o : (Lo Int E_slices_Compact_api_Region_L1 (Nat × (Nat → S_api_Region)))} (h : F_slices_Compact_api_Region_L1 fu m0 t3 = some o) (hk : (Lo.post (N_slices_Compact_api_Region_L1 fu m0 d hp) (X_slices_Compact_api_Region_L1 fu m0 d hp)) o) : Runs Try.prog Try.f33 1 T_slices_Compact_api_Region_L1 [(0, (D.own 0)), (3, (D.int .i64 t3))] [some (.seq 30 m0.1 25 (D.arr m0.1 25 fun i => (S_api_Region.d (m0.2 i))))] d hp := by
  unfold F_slices_Compact_api_Region_L1 at h
  refine runs_regions 1 [([], [0, 3, 13])] (z := ([], [(0, (D.own 0)), (3, (D.int .i64 t3)), (13, (D.bool (decide (t3 < ((m0.1 : Nat) : Int)))))], [some (.seq 30 m0.1 25 (D.arr m0.1 25 fun i => (S_api_Region.d (m0.2 i))))])) rfl (by kernel_rfl) trivial ?_
  refine runs_if (b := (decide (t3 < ((m0.1 : Nat) : Int)))) (by kernel_rfl) (fun hb => ?_) (fun hb => ?_)
  · replace h := ifs_true h hb
    obtain ⟨p0, h⟩ := chk_some h
    obtain ⟨p1, h⟩ := chk_some h
    obtain ⟨p2, h⟩ := chk_some h
    obtain ⟨p3, h⟩ := chk_some h
    refine runs_regions 1 [([], [0, 3, 25])] (z := ([(0 ≤ t3 ∧ t3 < ((m0.1 : Nat) : Int)), (t3.toNat < m0.1), (0 ≤ (IntKind.wrap .i64 (t3 - (1 : Int))) ∧ (IntKind.wrap .i64 (t3 - (1 : Int))) < ((m0.1 : Nat) : Int)), ((IntKind.wrap .i64 (t3 - (1 : Int))).toNat < m0.1)], [(0, (D.own 0)), (3, (D.int .i64 t3)), (25, (D.bool (((m0.2 t3.toNat).f0 == (m0.2 (IntKind.wrap .i64 (t3 - (1 : Int))).toNat).f0) && ((((List.range 12).all fun i => (m0.2 t3.toNat).f1.f0 i == (m0.2 (IntKind.wrap .i64 (t3 - (1 : Int))).toNat).f1.f0 i) && (((List.range 12).all fun i => (m0.2 t3.toNat).f1.f1 i == (m0.2 (IntKind.wrap .i64 (t3 - (1 : Int))).toNat).f1.f1 i) && true)) && true))))], [some (.seq 30 m0.1 25 (D.arr m0.1 25 fun i => (S_api_Region.d (m0.2 i))))])) rfl (by kernel_rfl) (And.intro p0 (And.intro p1 (And.intro p2 (And.intro p3 trivial)))) ?_
    refine runs_if (b := (((m0.2 t3.toNat).f0 == (m0.2 (IntKind.wrap .i64 (t3 - (1 : Int))).toNat).f0) && ((((List.range 12).all fun i => (m0.2 t3.toNat).f1.f0 i == (m0.2 (IntKind.wrap .i64 (t3 - (1 : Int))).toNat).f1.f0 i) && (((List.range 12).all fun i => (m0.2 t3.toNat).f1.f1 i == (m0.2 (IntKind.wrap .i64 (t3 - (1 : Int))).toNat).f1.f1 i) && true)) && true))) (by kernel_rfl) (fun hb => ?_) (fun hb => ?_)
    · replace h := ifs_true h hb
      obtain ⟨p4, h⟩ := chk_some h
      refine runs_regions 2 [([], [0, 3, 4]), ([], [0, 3, 4, 5])] (z := ([(0 ≤ t3 ∧ t3 ≤ ((m0.1 : Nat) : Int) ∧ ((m0.1 : Nat) : Int) ≤ ((m0.1 : Nat) : Int))], [(0, (D.own 0)), (3, (D.int .i64 t3)), (4, (D.view 0 (t3).toNat ((((m0.1 : Nat) : Int)).toNat - (t3).toNat) 25)), (5, (D.int .i64 (1 : Int)))], [some (.seq 30 m0.1 25 (D.arr m0.1 25 fun i => (S_api_Region.d (m0.2 i))))])) rfl (by kernel_rfl) (And.intro p4 trivial) ?_
      refine runs_to (ts := [0, 3, 4, 5]) (T' := T_slices_Compact_api_Region_L2) (env' := [(0, (D.own 0)), (3, (D.int .i64 t3)), (4, (D.view 0 (t3).toNat ((((m0.1 : Nat) : Int)).toNat - (t3).toNat) 25)), (5, (D.int .i64 (1 : Int)))]) (h2 := [some (.seq 30 m0.1 25 (D.arr m0.1 25 fun i => (S_api_Region.d (m0.2 i))))]) (by kernel_rfl) (by kernel_rfl) (And.intro (.inr rfl) trivial) (Nat.le_of_ble_eq_true rfl) (And.intro (fun _ _ => (S_api_Region.inn _)) trivial) (And.intro (bel_of rfl) (And.intro trivial (And.intro (bel_of rfl) (And.intro trivial trivial)))) ?_
      rcases after_some h with ⟨e14, hi, h⟩ | hi
      · refine iter_slices_Compact_api_Region_L2 fu m0 (t3).toNat ((((m0.1 : Nat) : Int)).toNat - (t3).toNat) fu (t3, (1 : Int), m0) hi ?_
        show Runs Try.prog Try.f33 1 X_slices_Compact_api_Region_L2T [(0, (D.own 0)), (3, (D.int .i64 e14.1))] [some (.seq 30 e14.2.1 25 (D.arr e14.2.1 25 fun i => (S_api_Region.d (e14.2.2 i))))] d hp
        obtain ⟨p14, h⟩ := chk_some h
        obtain ⟨p15, h⟩ := chk_some h
        obtain ⟨p16, h⟩ := chk_some h
        refine runs_regions 2 [([(.d (D.arr e14.2.1 25 fun i1 => (S_api_Region.d ((fun i => if (e14.1).toNat ≤ i ∧ i < (e14.1).toNat + ((((e14.2.1 : Nat) : Int)).toNat - (e14.1).toNat) then S_api_Region.z else e14.2.2 i) i1))))], [0, 3]), ([], [2])] (z := ([(0 ≤ e14.1 ∧ e14.1 ≤ ((e14.2.1 : Nat) : Int) ∧ ((e14.2.1 : Nat) : Int) ≤ ((e14.2.1 : Nat) : Int)), ((e14.1).toNat + ((((e14.2.1 : Nat) : Int)).toNat - (e14.1).toNat) ≤ e14.2.1), ClearOk e14.2.1 (e14.1).toNat ((((e14.2.1 : Nat) : Int)).toNat - (e14.1).toNat) 25 (D.cons (D.int .i64 (0 : Int)) (D.cons (D.cons (D.ints .u64 12 (fun _ => 0)) (D.cons (D.ints .u64 12 (fun _ => 0)) D.nil)) D.nil)) (D.arr e14.2.1 25 fun i => (S_api_Region.d (e14.2.2 i))) (D.arr e14.2.1 25 fun i1 => (S_api_Region.d ((fun i => if (e14.1).toNat ≤ i ∧ i < (e14.1).toNat + ((((e14.2.1 : Nat) : Int)).toNat - (e14.1).toNat) then S_api_Region.z else e14.2.2 i) i1))), (0 ≤ (0 : Int) ∧ (0 : Int) ≤ e14.1 ∧ e14.1 ≤ ((e14.2.1 : Nat) : Int))], [(2, (D.view 0 ((0 : Int)).toNat ((e14.1).toNat - ((0 : Int)).toNat) 25))], [some (.seq 30 e14.2.1 25 (D.arr e14.2.1 25 fun i1 => (S_api_Region.d ((fun i => if (e14.1).toNat ≤ i ∧ i < (e14.1).toNat + ((((e14.2.1 : Nat) : Int)).toNat - (e14.1).toNat) then S_api_Region.z else e14.2.2 i) i1))))])) rfl (by kernel_rfl) (And.intro p14 (And.intro p15 (And.intro (clearOk_arr rfl fun i => (d_ite (f := fun x : S_api_Region => (S_api_Region.d x)) rfl rfl).symm) (And.intro p16 trivial)))) ?_
        obtain ⟨p17, h⟩ := chk_some h
        rw [← Option.some.inj h] at hk
        obtain ⟨rfl, rfl⟩ : d = (D.own 1) ∧ hp = [none, some (.seq 30 ((e14.1).toNat - ((0 : Int)).toNat) 25 (D.arr ((e14.1).toNat - ((0 : Int)).toNat) 25 fun i1 => (S_api_Region.d ((fun i => if (e14.1).toNat ≤ i ∧ i < (e14.1).toNat + ((((e14.2.1 : Nat) : Int)).toNat - (e14.1).toNat) then S_api_Region.z else e14.2.2 i) i1))))] := hk
        refine runs_keep (ts := [2]) (env' := [(2, (D.view 0 ((0 : Int)).toNat ((e14.1).toNat - ((0 : Int)).toNat) 25))]) (h2 := [some (.seq 30 e14.2.1 25 (D.arr e14.2.1 25 fun i1 => (S_api_Region.d ((fun i => if (e14.1).toNat ≤ i ∧ i < (e14.1).toNat + ((((e14.2.1 : Nat) : Int)).toNat - (e14.1).toNat) then S_api_Region.z else e14.2.2 i) i1))))]) (by kernel_rfl) (And.intro (.inr rfl) trivial) (Nat.le_of_ble_eq_true rfl) (And.intro (fun _ _ => (S_api_Region.inn _)) trivial) (And.intro (bel_of rfl) trivial) ?_
        refine runs_trunc 2 0 (el := 30) (n := e14.2.1) (m := ((e14.1).toNat - ((0 : Int)).toNat)) (sz := 25) (d := (D.arr e14.2.1 25 fun i1 => (S_api_Region.d ((fun i => if (e14.1).toNat ≤ i ∧ i < (e14.1).toNat + ((((e14.2.1 : Nat) : Int)).toNat - (e14.1).toNat) then S_api_Region.z else e14.2.2 i) i1)))) (d' := (D.arr ((e14.1).toNat - ((0 : Int)).toNat) 25 fun i1 => (S_api_Region.d ((fun i => if (e14.1).toNat ≤ i ∧ i < (e14.1).toNat + ((((e14.2.1 : Nat) : Int)).toNat - (e14.1).toNat) then S_api_Region.z else e14.2.2 i) i1)))) (by kernel_rfl) rfl p17 (truncOk_arr p17) ?_
        exact runs_ret (h2 := [none, some (.seq 30 ((e14.1).toNat - ((0 : Int)).toNat) 25 (D.arr ((e14.1).toNat - ((0 : Int)).toNat) 25 fun i1 => (S_api_Region.d ((fun i => if (e14.1).toNat ≤ i ∧ i < (e14.1).toNat + ((((e14.2.1 : Nat) : Int)).toNat - (e14.1).toNat) then S_api_Region.z else e14.2.2 i) i1))))]) (by kernel_rfl) (And.intro (.inl rfl) (And.intro (.inr rfl) trivial)) (Nat.le_of_ble_eq_true rfl) (And.intro (fun _ _ => (S_api_Region.inn _)) trivial) (bel_of rfl)
      · exact iter_slices_Compact_api_Region_L2 fu m0 (t3).toNat ((((m0.1 : Nat) : Int)).toNat - (t3).toNat) fu (t3, (1 : Int), m0) hi hk
    · replace h := ifs_false h hb
      refine runs_regions 1 [([], [0, 3])] (z := ([], [(0, (D.own 0)), (3, (D.int .i64 (IntKind.wrap .i64 (t3 + (1 : Int)))))], [some (.seq 30 m0.1 25 (D.arr m0.1 25 fun i => (S_api_Region.d (m0.2 i))))])) rfl (by kernel_rfl) trivial ?_
      rw [← Option.some.inj h] at hk
      refine runs_to (ts := [0, 3]) (T' := T_slices_Compact_api_Region_L1) (env' := [(0, (D.own 0)), (3, (D.int .i64 (IntKind.wrap .i64 (t3 + (1 : Int)))))]) (h2 := [some (.seq 30 m0.1 25 (D.arr m0.1 25 fun i => (S_api_Region.d (m0.2 i))))]) (by kernel_rfl) (by kernel_rfl) (And.intro (.inr rfl) trivial) (Nat.le_of_ble_eq_true rfl) (And.intro (fun _ _ => (S_api_Region.inn _)) trivial) (And.intro (bel_of rfl) (And.intro trivial trivial)) ?_
      exact hk
  · replace h := ifs_false h hb
    rw [← Option.some.inj h] at hk
    refine runs_to (ts := [0]) (T' := X_slices_Compact_api_Region_L1T) (env' := [(0, (D.own 0))]) (h2 := [some (.seq 30 m0.1 25 (D.arr m0.1 25 fun i => (S_api_Region.d (m0.2 i))))]) (by kernel_rfl) (by kernel_rfl) (And.intro (.inr rfl) trivial) (Nat.le_of_ble_eq_true rfl) (And.intro (fun _ _ => (S_api_Region.inn _)) trivial) (And.intro (bel_of rfl) trivial) ?_
    exact hk

theorem iter_slices_Compact_api_Region_L1 (fu : Nat) (m0 : (Nat × (Nat → S_api_Region))) {d : D} {hp : Heap} (k : Nat) (s : Int) {o : E_slices_Compact_api_Region_L1 ⊕ (Nat × (Nat → S_api_Region))} (h : iter (fun s => F_slices_Compact_api_Region_L1 fu m0 s) k s = some o) (hx : X_slices_Compact_api_Region_L1 fu m0 d hp o) : N_slices_Compact_api_Region_L1 fu m0 d hp s :=
  iter_post (K := N_slices_Compact_api_Region_L1 fu m0 d hp) (X := X_slices_Compact_api_Region_L1 fu m0 d hp) (fun s _ h hk => run_slices_Compact_api_Region_L1 fu m0 s h hk) k s o h hx

/-- slices.Compact[[]podesta/api.Region,podesta/api.Region] -/
def F_slices_Compact_api_Region (fu : Nat) (t0 : (Nat × (Nat → S_api_Region))) : Option (Nat × (Nat → S_api_Region)) :=
  ifs (decide (((t0.1 : Nat) : Int) < (2 : Int))) (
    some t0) (
    after (iter (fun s => F_slices_Compact_api_Region_L1 fu t0 s) fu (1 : Int)) fun _ =>
    some t0)

theorem run_slices_Compact_api_Region (fu : Nat) (t0 : (Nat × (Nat → S_api_Region))) {d : D} {hp : Heap} {r : (Nat × (Nat → S_api_Region))} (h : F_slices_Compact_api_Region fu t0 = some r) (hk : (K_slices_Compact_api_Region d hp) r) : Runs Try.prog Try.f33 1 T_slices_Compact_api_Region [(0, (D.own 0))] [some (.seq 30 t0.1 25 (D.arr t0.1 25 fun i => (S_api_Region.d (t0.2 i))))] d hp := by
  unfold F_slices_Compact_api_Region at h
  refine runs_regions 2 [([], [0]), ([], [0, 8])] (z := ([], [(0, (D.own 0)), (8, (D.bool (decide (((t0.1 : Nat) : Int) < (2 : Int)))))], [some (.seq 30 t0.1 25 (D.arr t0.1 25 fun i => (S_api_Region.d (t0.2 i))))])) rfl (by kernel_rfl) trivial ?_
  refine runs_if (b := (decide (((t0.1 : Nat) : Int) < (2 : Int)))) (by kernel_rfl) (fun hb => ?_) (fun hb => ?_)
  · replace h := ifs_true h hb
    refine runs_regions 1 [([], [2])] (z := ([], [(2, (D.own 0))], [some (.seq 30 t0.1 25 (D.arr t0.1 25 fun i => (S_api_Region.d (t0.2 i))))])) rfl (by kernel_rfl) trivial ?_
    rw [← Option.some.inj h] at hk
    obtain ⟨rfl, rfl⟩ : d = (D.own 1) ∧ hp = [none, some (.seq 30 t0.1 25 (D.arr t0.1 25 fun i => (S_api_Region.d (t0.2 i))))] := hk
    refine runs_keep (ts := [2]) (env' := [(2, (D.own 0))]) (h2 := [some (.seq 30 t0.1 25 (D.arr t0.1 25 fun i => (S_api_Region.d (t0.2 i))))]) (by kernel_rfl) (And.intro (.inr rfl) trivial) (Nat.le_of_ble_eq_true rfl) (And.intro (fun _ _ => (S_api_Region.inn _)) trivial) (And.intro (bel_of rfl) trivial) ?_
    refine runs_pad ?_
    refine runs_rename 1 0 (row := (.seq 30 t0.1 25 (D.arr t0.1 25 fun i => (S_api_Region.d (t0.2 i))))) (by decide) (by decide) rfl rfl (And.intro (fun _ _ => (S_api_Region.inn _)) trivial) (And.intro (rn_own rfl) trivial) ?_
    exact runs_ret (h2 := [none, some (.seq 30 t0.1 25 (D.arr t0.1 25 fun i => (S_api_Region.d (t0.2 i))))]) (by kernel_rfl) (And.intro (.inl rfl) (And.intro (.inr rfl) trivial)) (Nat.le_of_ble_eq_true rfl) (And.intro (fun _ _ => (S_api_Region.inn _)) trivial) (bel_of rfl)
  · replace h := ifs_false h hb
    refine runs_regions 1 [([], [0, 3])] (z := ([], [(0, (D.own 0)), (3, (D.int .i64 (1 : Int)))], [some (.seq 30 t0.1 25 (D.arr t0.1 25 fun i => (S_api_Region.d (t0.2 i))))])) rfl (by kernel_rfl) trivial ?_
    refine runs_to (ts := [0, 3]) (T' := T_slices_Compact_api_Region_L1) (env' := [(0, (D.own 0)), (3, (D.int .i64 (1 : Int)))]) (h2 := [some (.seq 30 t0.1 25 (D.arr t0.1 25 fun i => (S_api_Region.d (t0.2 i))))]) (by kernel_rfl) (by kernel_rfl) (And.intro (.inr rfl) trivial) (Nat.le_of_ble_eq_true rfl) (And.intro (fun _ _ => (S_api_Region.inn _)) trivial) (And.intro (bel_of rfl) (And.intro trivial trivial)) ?_
    rcases after_some h with ⟨e19, hi, h⟩ | hi
    · refine iter_slices_Compact_api_Region_L1 fu t0 fu (1 : Int) hi ?_
      show Runs Try.prog Try.f33 1 X_slices_Compact_api_Region_L1T [(0, (D.own 0))] [some (.seq 30 t0.1 25 (D.arr t0.1 25 fun i => (S_api_Region.d (t0.2 i))))] d hp
      refine runs_regions 1 [([], [2])] (z := ([], [(2, (D.own 0))], [some (.seq 30 t0.1 25 (D.arr t0.1 25 fun i => (S_api_Region.d (t0.2 i))))])) rfl (by kernel_rfl) trivial ?_
      rw [← Option.some.inj h] at hk
      obtain ⟨rfl, rfl⟩ : d = (D.own 1) ∧ hp = [none, some (.seq 30 t0.1 25 (D.arr t0.1 25 fun i => (S_api_Region.d (t0.2 i))))] := hk
      refine runs_keep (ts := [2]) (env' := [(2, (D.own 0))]) (h2 := [some (.seq 30 t0.1 25 (D.arr t0.1 25 fun i => (S_api_Region.d (t0.2 i))))]) (by kernel_rfl) (And.intro (.inr rfl) trivial) (Nat.le_of_ble_eq_true rfl) (And.intro (fun _ _ => (S_api_Region.inn _)) trivial) (And.intro (bel_of rfl) trivial) ?_
      refine runs_pad ?_
      refine runs_rename 1 0 (row := (.seq 30 t0.1 25 (D.arr t0.1 25 fun i => (S_api_Region.d (t0.2 i))))) (by decide) (by decide) rfl rfl (And.intro (fun _ _ => (S_api_Region.inn _)) trivial) (And.intro (rn_own rfl) trivial) ?_
      exact runs_ret (h2 := [none, some (.seq 30 t0.1 25 (D.arr t0.1 25 fun i => (S_api_Region.d (t0.2 i))))]) (by kernel_rfl) (And.intro (.inl rfl) (And.intro (.inr rfl) trivial)) (Nat.le_of_ble_eq_true rfl) (And.intro (fun _ _ => (S_api_Region.inn _)) trivial) (bel_of rfl)
    · exact iter_slices_Compact_api_Region_L1 fu t0 fu (1 : Int) hi hk

theorem fc_slices_Compact_api_Region (fu : Nat) (t0 : (Nat × (Nat → S_api_Region))) {r : (Nat × (Nat → S_api_Region))} (h : F_slices_Compact_api_Region fu t0 = some r) : FC Try.prog 33 [(D.own 0)] [some (.seq 30 t0.1 25 (D.arr t0.1 25 fun i => (S_api_Region.d (t0.2 i))))] (D.own 1) [none, some (.seq 30 r.1 25 (D.arr r.1 25 fun i => (S_api_Region.d (r.2 i))))] := by
  refine fc_of_runs (fn := Try.f33) (c := Try.f33.body.getD .skip) (by kernel_rfl) (by kernel_rfl) ?_
  refine runs_to (ts := [0]) (T' := T_slices_Compact_api_Region) (env' := [(0, (D.own 0))]) (h2 := [some (.seq 30 t0.1 25 (D.arr t0.1 25 fun i => (S_api_Region.d (t0.2 i))))]) (by kernel_rfl) (by kernel_rfl) (And.intro (.inr rfl) trivial) (Nat.le_refl _) (And.intro (fun _ _ => (S_api_Region.inn _)) trivial) (And.intro (bel_of rfl) trivial) ?_
  exact run_slices_Compact_api_Region fu t0 h ⟨rfl, rfl⟩

def K_region_Of_1 (d : D) (r : Bool) : Prop := d = (D.bool r)

noncomputable def T_region_Of_1 : List Item := norm 200 [.code (Try.f34.body.getD .skip)]

/-- podesta/region.Of 1 -/
def F_region_Of_1 (fu : Nat) (t0 : S_api_Region) (t1 : S_api_Region) : Option Bool :=
  (callIf (bif (!((t0.f0 == t1.f0) && ((((List.range 12).all fun i => t0.f1.f0 i == t1.f1.f0 i) && (((List.range 12).all fun i => t0.f1.f1 i == t1.f1.f1 i) && true)) && true))) then (t0.f0 == t1.f0) else false) (F_cube_Within fu t1.f1 t0.f1) false).bind fun r0 =>
  some (bif (bif (!((t0.f0 == t1.f0) && ((((List.range 12).all fun i => t0.f1.f0 i == t1.f1.f0 i) && (((List.range 12).all fun i => t0.f1.f1 i == t1.f1.f1 i) && true)) && true))) then (t0.f0 == t1.f0) else false) then r0 else false)

theorem run_region_Of_1 (fu : Nat) (t0 : S_api_Region) (t1 : S_api_Region) {d : D} {r : Bool} (h : F_region_Of_1 fu t0 t1 = some r) (hk : (K_region_Of_1 d) r) : Runs Try.prog Try.f34 0 T_region_Of_1 [(0, (S_api_Region.d t0)), (1, (D.lptr (S_api_Region.d t1)))] [] d [] := by
  unfold F_region_Of_1 at h
  obtain ⟨r0, cr0, h⟩ := Option.bind_eq_some_iff.1 h
  refine runs_regions 2 [([], [1, 2]), ([(.d (D.bool r0))], [3])] (z := ([((!((t0.f0 == t1.f0) && ((((List.range 12).all fun i => t0.f1.f0 i == t1.f1.f0 i) && (((List.range 12).all fun i => t0.f1.f1 i == t1.f1.f1 i) && true)) && true))) = true → All [((!((t0.f0 == t1.f0) && ((((List.range 12).all fun i => t0.f1.f0 i == t1.f1.f0 i) && (((List.range 12).all fun i => t0.f1.f1 i == t1.f1.f1 i) && true)) && true))) = true → (!((t0.f0 == t1.f0) && ((((List.range 12).all fun i => t0.f1.f0 i == t1.f1.f0 i) && (((List.range 12).all fun i => t0.f1.f1 i == t1.f1.f1 i) && true)) && true))) = true)]), ((!((t0.f0 == t1.f0) && ((((List.range 12).all fun i => t0.f1.f0 i == t1.f1.f0 i) && (((List.range 12).all fun i => t0.f1.f1 i == t1.f1.f1 i) && true)) && true))) = true → All [((!((t0.f0 == t1.f0) && ((((List.range 12).all fun i => t0.f1.f0 i == t1.f1.f0 i) && (((List.range 12).all fun i => t0.f1.f1 i == t1.f1.f1 i) && true)) && true))) = true → (!((t0.f0 == t1.f0) && ((((List.range 12).all fun i => t0.f1.f0 i == t1.f1.f0 i) && (((List.range 12).all fun i => t0.f1.f1 i == t1.f1.f1 i) && true)) && true))) = true)]), ((!((t0.f0 == t1.f0) && ((((List.range 12).all fun i => t0.f1.f0 i == t1.f1.f0 i) && (((List.range 12).all fun i => t0.f1.f1 i == t1.f1.f1 i) && true)) && true))) = true → All [((!((t0.f0 == t1.f0) && ((((List.range 12).all fun i => t0.f1.f0 i == t1.f1.f0 i) && (((List.range 12).all fun i => t0.f1.f1 i == t1.f1.f1 i) && true)) && true))) = true → (!((t0.f0 == t1.f0) && ((((List.range 12).all fun i => t0.f1.f0 i == t1.f1.f0 i) && (((List.range 12).all fun i => t0.f1.f1 i == t1.f1.f1 i) && true)) && true))) = true), ((!((t0.f0 == t1.f0) && ((((List.range 12).all fun i => t0.f1.f0 i == t1.f1.f0 i) && (((List.range 12).all fun i => t0.f1.f1 i == t1.f1.f1 i) && true)) && true))) = true → (!((t0.f0 == t1.f0) && ((((List.range 12).all fun i => t0.f1.f0 i == t1.f1.f0 i) && (((List.range 12).all fun i => t0.f1.f1 i == t1.f1.f1 i) && true)) && true))) = true)]), ((true && (!((t0.f0 == t1.f0) && ((((List.range 12).all fun i => t0.f1.f0 i == t1.f1.f0 i) && (((List.range 12).all fun i => t0.f1.f1 i == t1.f1.f1 i) && true)) && true)))) = true → (!((t0.f0 == t1.f0) && ((((List.range 12).all fun i => t0.f1.f0 i == t1.f1.f0 i) && (((List.range 12).all fun i => t0.f1.f1 i == t1.f1.f1 i) && true)) && true))) = true), ((bif (!((t0.f0 == t1.f0) && ((((List.range 12).all fun i => t0.f1.f0 i == t1.f1.f0 i) && (((List.range 12).all fun i => t0.f1.f1 i == t1.f1.f1 i) && true)) && true))) then (t0.f0 == t1.f0) else false) = true → All [((bif (!((t0.f0 == t1.f0) && ((((List.range 12).all fun i => t0.f1.f0 i == t1.f1.f0 i) && (((List.range 12).all fun i => t0.f1.f1 i == t1.f1.f1 i) && true)) && true))) then (t0.f0 == t1.f0) else false) = true → (bif (!((t0.f0 == t1.f0) && ((((List.range 12).all fun i => t0.f1.f0 i == t1.f1.f0 i) && (((List.range 12).all fun i => t0.f1.f1 i == t1.f1.f1 i) && true)) && true))) then (t0.f0 == t1.f0) else false) = true)]), ((bif (!((t0.f0 == t1.f0) && ((((List.range 12).all fun i => t0.f1.f0 i == t1.f1.f0 i) && (((List.range 12).all fun i => t0.f1.f1 i == t1.f1.f1 i) && true)) && true))) then (t0.f0 == t1.f0) else false) = true → All [((bif (!((t0.f0 == t1.f0) && ((((List.range 12).all fun i => t0.f1.f0 i == t1.f1.f0 i) && (((List.range 12).all fun i => t0.f1.f1 i == t1.f1.f1 i) && true)) && true))) then (t0.f0 == t1.f0) else false) = true → (bif (!((t0.f0 == t1.f0) && ((((List.range 12).all fun i => t0.f1.f0 i == t1.f1.f0 i) && (((List.range 12).all fun i => t0.f1.f1 i == t1.f1.f1 i) && true)) && true))) then (t0.f0 == t1.f0) else false) = true)]), ((bif (!((t0.f0 == t1.f0) && ((((List.range 12).all fun i => t0.f1.f0 i == t1.f1.f0 i) && (((List.range 12).all fun i => t0.f1.f1 i == t1.f1.f1 i) && true)) && true))) then (t0.f0 == t1.f0) else false) = true → All [((bif (!((t0.f0 == t1.f0) && ((((List.range 12).all fun i => t0.f1.f0 i == t1.f1.f0 i) && (((List.range 12).all fun i => t0.f1.f1 i == t1.f1.f1 i) && true)) && true))) then (t0.f0 == t1.f0) else false) = true → (bif (!((t0.f0 == t1.f0) && ((((List.range 12).all fun i => t0.f1.f0 i == t1.f1.f0 i) && (((List.range 12).all fun i => t0.f1.f1 i == t1.f1.f1 i) && true)) && true))) then (t0.f0 == t1.f0) else false) = true), ((bif (!((t0.f0 == t1.f0) && ((((List.range 12).all fun i => t0.f1.f0 i == t1.f1.f0 i) && (((List.range 12).all fun i => t0.f1.f1 i == t1.f1.f1 i) && true)) && true))) then (t0.f0 == t1.f0) else false) = true → (bif (!((t0.f0 == t1.f0) && ((((List.range 12).all fun i => t0.f1.f0 i == t1.f1.f0 i) && (((List.range 12).all fun i => t0.f1.f1 i == t1.f1.f1 i) && true)) && true))) then (t0.f0 == t1.f0) else false) = true), FC Try.prog 35 [(S_api_Cube.d t1.f1), (S_api_Cube.d t0.f1)] [] (D.bool r0) [], All (List.map NoRow [(S_api_Cube.d t1.f1), (S_api_Cube.d t0.f1)])]), ((true && (bif (!((t0.f0 == t1.f0) && ((((List.range 12).all fun i => t0.f1.f0 i == t1.f1.f0 i) && (((List.range 12).all fun i => t0.f1.f1 i == t1.f1.f1 i) && true)) && true))) then (t0.f0 == t1.f0) else false)) = true → (bif (!((t0.f0 == t1.f0) && ((((List.range 12).all fun i => t0.f1.f0 i == t1.f1.f0 i) && (((List.range 12).all fun i => t0.f1.f1 i == t1.f1.f1 i) && true)) && true))) then (t0.f0 == t1.f0) else false) = true)], [(3, (D.bool (bif (bif (!((t0.f0 == t1.f0) && ((((List.range 12).all fun i => t0.f1.f0 i == t1.f1.f0 i) && (((List.range 12).all fun i => t0.f1.f1 i == t1.f1.f1 i) && true)) && true))) then (t0.f0 == t1.f0) else false) then r0 else false)))], [some (.box (S_api_Region.d t0))])) rfl (by kernel_rfl) (And.intro (fun _ => (And.intro (by first | exact fun h => h | exact fun h => (Bool.and_eq_true_iff.1 h).1 | simp_all) trivial)) (And.intro (fun _ => (And.intro (by first | exact fun h => h | exact fun h => (Bool.and_eq_true_iff.1 h).1 | simp_all) trivial)) (And.intro (fun _ => (And.intro (by first | exact fun h => h | exact fun h => (Bool.and_eq_true_iff.1 h).1 | simp_all) (And.intro (by first | exact fun h => h | exact fun h => (Bool.and_eq_true_iff.1 h).1 | simp_all) trivial))) (And.intro (by first | exact fun h => h | exact fun h => (Bool.and_eq_true_iff.1 h).1 | simp_all) (And.intro (fun _ => (And.intro (by first | exact fun h => h | exact fun h => (Bool.and_eq_true_iff.1 h).1 | simp_all) trivial)) (And.intro (fun _ => (And.intro (by first | exact fun h => h | exact fun h => (Bool.and_eq_true_iff.1 h).1 | simp_all) trivial)) (And.intro (fun hg => (And.intro (by first | exact fun h => h | exact fun h => (Bool.and_eq_true_iff.1 h).1 | simp_all) (And.intro (by first | exact fun h => h | exact fun h => (Bool.and_eq_true_iff.1 h).1 | simp_all) (And.intro (fc_cube_Within fu t1.f1 t0.f1 (callIf_some cr0 hg)) (And.intro (And.intro (S_api_Cube.inn _) (And.intro (S_api_Cube.inn _) trivial)) trivial))))) (And.intro (by first | exact fun h => h | exact fun h => (Bool.and_eq_true_iff.1 h).1 | simp_all) trivial)))))))) ?_
  rw [← Option.some.inj h] at hk
  obtain rfl : d = (D.bool (bif (bif (!((t0.f0 == t1.f0) && ((((List.range 12).all fun i => t0.f1.f0 i == t1.f1.f0 i) && (((List.range 12).all fun i => t0.f1.f1 i == t1.f1.f1 i) && true)) && true))) then (t0.f0 == t1.f0) else false) then r0 else false)) := hk
  exact runs_ret (by kernel_rfl) trivial (Nat.le_refl 0) trivial trivial

theorem fc_region_Of_1 (fu : Nat) (t0 : S_api_Region) (t1 : S_api_Region) {r : Bool} (h : F_region_Of_1 fu t0 t1 = some r) : FC Try.prog 34 [(S_api_Region.d t0), (D.lptr (S_api_Region.d t1))] [] (D.bool r) [] := by
  refine fc_of_runs (fn := Try.f34) (c := Try.f34.body.getD .skip) (by kernel_rfl) (by kernel_rfl) ?_
  refine runs_to (ts := [0, 1]) (T' := T_region_Of_1) (env' := [(0, (S_api_Region.d t0)), (1, (D.lptr (S_api_Region.d t1)))]) (h2 := []) (by kernel_rfl) (by kernel_rfl) trivial (Nat.le_refl _) trivial (And.intro (S_api_Region.inn _) (And.intro (S_api_Region.inn _) trivial)) ?_
  exact run_region_Of_1 fu t0 t1 h rfl

def K_slices_IndexFunc_api_Region_region_Of_1 (d : D) (r : Int) : Prop := d = (D.int .i64 r)

noncomputable def T_slices_IndexFunc_api_Region_region_Of_1 : List Item := norm 200 [.code (Try.f55.body.getD .skip)]

noncomputable def T_slices_IndexFunc_api_Region_region_Of_1_L1 : List Item := norm 200 (nxt (nxt T_slices_IndexFunc_api_Region_region_Of_1))

noncomputable def X_slices_IndexFunc_api_Region_region_Of_1_L1T : List Item := norm 200 (cndF (nxt (nxt (nxt T_slices_IndexFunc_api_Region_region_Of_1))))

abbrev E_slices_IndexFunc_api_Region_region_Of_1_L1 := Unit

def N_slices_IndexFunc_api_Region_region_Of_1_L1 (_fu : Nat) (t0 : (Nat × (Nat → S_api_Region))) (t1_0 : S_api_Region) (t7 : Int) (d : D) (s : Int) : Prop := Runs Try.prog Try.f55 0 T_slices_IndexFunc_api_Region_region_Of_1_L1 [(0, (D.lit t0.1 25 fun i => (S_api_Region.d (t0.2 i)))), (1, (D.fn 34 (D.cons (D.lptr (S_api_Region.d t1_0)) D.nil))), (7, (D.int .i64 t7)), (8, (D.int .i64 s))] [] d []

def X_slices_IndexFunc_api_Region_region_Of_1_L1 (_fu : Nat) (_t0 : (Nat × (Nat → S_api_Region))) (_t1_0 : S_api_Region) (_t7 : Int) (d : D) : E_slices_IndexFunc_api_Region_region_Of_1_L1 ⊕ Int → Prop
  | .inl _ => Runs Try.prog Try.f55 0 X_slices_IndexFunc_api_Region_region_Of_1_L1T [] [] d []
  | .inr o => (K_slices_IndexFunc_api_Region_region_Of_1 d) o

def F_slices_IndexFunc_api_Region_region_Of_1_L1 (fu : Nat) (t0 : (Nat × (Nat → S_api_Region))) (t1_0 : S_api_Region) (t7 : Int) (t8 : Int) : Option (Lo Int E_slices_IndexFunc_api_Region_region_Of_1_L1 Int) :=
  ifs (decide (t8 < t7)) (
    chk (0 ≤ t8 ∧ t8 < ((t0.1 : Nat) : Int)) <|
    (F_region_Of_1 fu (t0.2 t8.toNat) t1_0).bind fun r0 =>
    ifs r0 (
      some (.ret t8)) (
      some (.next (IntKind.wrap .i64 (t8 + (1 : Int)))))) (
    some (.exit ()))

theorem run_slices_IndexFunc_api_Region_region_Of_1_L1 (fu : Nat) (t0 : (Nat × (Nat → S_api_Region))) (t1_0 : S_api_Region) (t7 : Int) (t8 : Int) {d : D} {o : (Lo Int E_slices_IndexFunc_api_Region_region_Of_1_L1 Int)} (h : F_slices_IndexFunc_api_Region_region_Of_1_L1 fu t0 t1_0 t7 t8 = some o) (hk : (Lo.post (N_slices_IndexFunc_api_Region_region_Of_1_L1 fu t0 t1_0 t7 d) (X_slices_IndexFunc_api_Region_region_Of_1_L1 fu t0 t1_0 t7 d)) o) : Runs Try.prog Try.f55 0 T_slices_IndexFunc_api_Region_region_Of_1_L1 [(0, (D.lit t0.1 25 fun i => (S_api_Region.d (t0.2 i)))), (1, (D.fn 34 (D.cons (D.lptr (S_api_Region.d t1_0)) D.nil))), (7, (D.int .i64 t7)), (8, (D.int .i64 t8))] [] d [] := by
  unfold F_slices_IndexFunc_api_Region_region_Of_1_L1 at h
  refine runs_regions 1 [([], [0, 1, 7, 8, 9])] (z := ([], [(0, (D.lit t0.1 25 fun i => (S_api_Region.d (t0.2 i)))), (1, (D.fn 34 (D.cons (D.lptr (S_api_Region.d t1_0)) D.nil))), (7, (D.int .i64 t7)), (8, (D.int .i64 t8)), (9, (D.bool (decide (t8 < t7))))], [])) rfl (by kernel_rfl) trivial ?_
  refine runs_if (b := (decide (t8 < t7))) (by kernel_rfl) (fun hb => ?_) (fun hb => ?_)
  · replace h := ifs_true h hb
    obtain ⟨p0, h⟩ := chk_some h
    obtain ⟨r0, cr0, h⟩ := Option.bind_eq_some_iff.1 h
    refine runs_regions 2 [([], [0, 1, 5, 7, 8]), ([(.d (D.bool r0))], [0, 1, 5, 7, 8, 16])] (z := ([(0 ≤ t8 ∧ t8 < ((t0.1 : Nat) : Int)), FC Try.prog 34 [(S_api_Region.d (t0.2 t8.toNat)), (D.lptr (S_api_Region.d t1_0))] [] (D.bool r0) [], All (List.map NoRow [(S_api_Region.d (t0.2 t8.toNat)), (D.lptr (S_api_Region.d t1_0))])], [(0, (D.lit t0.1 25 fun i => (S_api_Region.d (t0.2 i)))), (1, (D.fn 34 (D.cons (D.lptr (S_api_Region.d t1_0)) D.nil))), (5, (D.int .i64 t8)), (7, (D.int .i64 t7)), (8, (D.int .i64 t8)), (16, (D.bool r0))], [])) rfl (by kernel_rfl) (And.intro p0 (And.intro (fc_region_Of_1 fu (t0.2 t8.toNat) t1_0 cr0) (And.intro (And.intro (S_api_Region.inn _) (And.intro (S_api_Region.inn _) trivial)) trivial))) ?_
    refine runs_if (b := r0) (by kernel_rfl) (fun hb => ?_) (fun hb => ?_)
    · replace h := ifs_true h hb
      refine runs_regions 1 [([], [4])] (z := ([], [(4, (D.int .i64 t8))], [])) rfl (by kernel_rfl) trivial ?_
      rw [← Option.some.inj h] at hk
      obtain rfl : d = (D.int .i64 t8) := hk
      exact runs_ret (by kernel_rfl) trivial (Nat.le_refl 0) trivial trivial
    · replace h := ifs_false h hb
      refine runs_regions 1 [([], [0, 1, 7, 8])] (z := ([], [(0, (D.lit t0.1 25 fun i => (S_api_Region.d (t0.2 i)))), (1, (D.fn 34 (D.cons (D.lptr (S_api_Region.d t1_0)) D.nil))), (7, (D.int .i64 t7)), (8, (D.int .i64 (IntKind.wrap .i64 (t8 + (1 : Int)))))], [])) rfl (by kernel_rfl) trivial ?_
      rw [← Option.some.inj h] at hk
      refine runs_to (ts := [0, 1, 7, 8]) (T' := T_slices_IndexFunc_api_Region_region_Of_1_L1) (env' := [(0, (D.lit t0.1 25 fun i => (S_api_Region.d (t0.2 i)))), (1, (D.fn 34 (D.cons (D.lptr (S_api_Region.d t1_0)) D.nil))), (7, (D.int .i64 t7)), (8, (D.int .i64 (IntKind.wrap .i64 (t8 + (1 : Int)))))]) (h2 := []) (by kernel_rfl) (by kernel_rfl) trivial (Nat.zero_le _) trivial (And.intro (fun _ _ => (S_api_Region.inn _)) (And.intro (And.intro (S_api_Region.inn _) trivial) (And.intro trivial (And.intro trivial trivial)))) ?_
      exact hk
  · replace h := ifs_false h hb
    rw [← Option.some.inj h] at hk
    refine runs_to (ts := []) (T' := X_slices_IndexFunc_api_Region_region_Of_1_L1T) (env' := []) (h2 := []) (by kernel_rfl) (by kernel_rfl) trivial (Nat.zero_le _) trivial trivial ?_
    exact hk

theorem iter_slices_IndexFunc_api_Region_region_Of_1_L1 (fu : Nat) (t0 : (Nat × (Nat → S_api_Region))) (t1_0 : S_api_Region) (t7 : Int) {d : D} (k : Nat) (s : Int) {o : E_slices_IndexFunc_api_Region_region_Of_1_L1 ⊕ Int} (h : iter (fun s => F_slices_IndexFunc_api_Region_region_Of_1_L1 fu t0 t1_0 t7 s) k s = some o) (hx : X_slices_IndexFunc_api_Region_region_Of_1_L1 fu t0 t1_0 t7 d o) : N_slices_IndexFunc_api_Region_region_Of_1_L1 fu t0 t1_0 t7 d s :=
  iter_post (K := N_slices_IndexFunc_api_Region_region_Of_1_L1 fu t0 t1_0 t7 d) (X := X_slices_IndexFunc_api_Region_region_Of_1_L1 fu t0 t1_0 t7 d) (fun s _ h hk => run_slices_IndexFunc_api_Region_region_Of_1_L1 fu t0 t1_0 t7 s h hk) k s o h hx

/-- slices.IndexFunc[[]podesta/api.Region,podesta/api.Region] -/
def F_slices_IndexFunc_api_Region_region_Of_1 (fu : Nat) (t0 : (Nat × (Nat → S_api_Region))) (t1_0 : S_api_Region) : Option Int :=
  after (iter (fun s => F_slices_IndexFunc_api_Region_region_Of_1_L1 fu t0 t1_0 ((t0.1 : Nat) : Int) s) fu (0 : Int)) fun _ =>
  some (-1 : Int)

theorem run_slices_IndexFunc_api_Region_region_Of_1 (fu : Nat) (t0 : (Nat × (Nat → S_api_Region))) (t1_0 : S_api_Region) {d : D} {r : Int} (h : F_slices_IndexFunc_api_Region_region_Of_1 fu t0 t1_0 = some r) (hk : (K_slices_IndexFunc_api_Region_region_Of_1 d) r) : Runs Try.prog Try.f55 0 T_slices_IndexFunc_api_Region_region_Of_1 [(0, (D.lit t0.1 25 fun i => (S_api_Region.d (t0.2 i)))), (1, (D.fn 34 (D.cons (D.lptr (S_api_Region.d t1_0)) D.nil)))] [] d [] := by
  unfold F_slices_IndexFunc_api_Region_region_Of_1 at h
  refine runs_regions 2 [([], [0, 1]), ([], [0, 1, 7, 8])] (z := ([], [(0, (D.lit t0.1 25 fun i => (S_api_Region.d (t0.2 i)))), (1, (D.fn 34 (D.cons (D.lptr (S_api_Region.d t1_0)) D.nil))), (7, (D.int .i64 ((t0.1 : Nat) : Int))), (8, (D.int .i64 (0 : Int)))], [])) rfl (by kernel_rfl) trivial ?_
  refine runs_to (ts := [0, 1, 7, 8]) (T' := T_slices_IndexFunc_api_Region_region_Of_1_L1) (env' := [(0, (D.lit t0.1 25 fun i => (S_api_Region.d (t0.2 i)))), (1, (D.fn 34 (D.cons (D.lptr (S_api_Region.d t1_0)) D.nil))), (7, (D.int .i64 ((t0.1 : Nat) : Int))), (8, (D.int .i64 (0 : Int)))]) (h2 := []) (by kernel_rfl) (by kernel_rfl) trivial (Nat.zero_le _) trivial (And.intro (fun _ _ => (S_api_Region.inn _)) (And.intro (And.intro (S_api_Region.inn _) trivial) (And.intro trivial (And.intro trivial trivial)))) ?_
  rcases after_some h with ⟨e2, hi, h⟩ | hi
  · refine iter_slices_IndexFunc_api_Region_region_Of_1_L1 fu t0 t1_0 ((t0.1 : Nat) : Int) fu (0 : Int) hi ?_
    show Runs Try.prog Try.f55 0 X_slices_IndexFunc_api_Region_region_Of_1_L1T [] [] d []
    refine runs_regions 1 [([], [4])] (z := ([], [(4, (D.int .i64 (-1 : Int)))], [])) rfl (by kernel_rfl) trivial ?_
    rw [← Option.some.inj h] at hk
    obtain rfl : d = (D.int .i64 (-1 : Int)) := hk
    exact runs_ret (by kernel_rfl) trivial (Nat.le_refl 0) trivial trivial
  · exact iter_slices_IndexFunc_api_Region_region_Of_1_L1 fu t0 t1_0 ((t0.1 : Nat) : Int) fu (0 : Int) hi hk

theorem fc_slices_IndexFunc_api_Region_region_Of_1 (fu : Nat) (t0 : (Nat × (Nat → S_api_Region))) (t1_0 : S_api_Region) {r : Int} (h : F_slices_IndexFunc_api_Region_region_Of_1 fu t0 t1_0 = some r) : FC Try.prog 55 [(D.lit t0.1 25 fun i => (S_api_Region.d (t0.2 i))), (D.fn 34 (D.cons (D.lptr (S_api_Region.d t1_0)) D.nil))] [] (D.int .i64 r) [] := by
  refine fc_of_runs (fn := Try.f55) (c := Try.f55.body.getD .skip) (by kernel_rfl) (by kernel_rfl) ?_
  refine runs_to (ts := [0, 1]) (T' := T_slices_IndexFunc_api_Region_region_Of_1) (env' := [(0, (D.lit t0.1 25 fun i => (S_api_Region.d (t0.2 i)))), (1, (D.fn 34 (D.cons (D.lptr (S_api_Region.d t1_0)) D.nil)))]) (h2 := []) (by kernel_rfl) (by kernel_rfl) trivial (Nat.le_refl _) trivial (And.intro (fun _ _ => (S_api_Region.inn _)) (And.intro (And.intro (S_api_Region.inn _) trivial) trivial)) ?_
  exact run_slices_IndexFunc_api_Region_region_Of_1 fu t0 t1_0 h rfl

def K_slices_ContainsFunc_api_Region_region_Of_1 (d : D) (r : Bool) : Prop := d = (D.bool r)

noncomputable def T_slices_ContainsFunc_api_Region_region_Of_1 : List Item := norm 200 [.code (Try.f25.body.getD .skip)]

/-- slices.ContainsFunc[[]podesta/api.Region,podesta/api.Region] -/
def F_slices_ContainsFunc_api_Region_region_Of_1 (fu : Nat) (t0 : (Nat × (Nat → S_api_Region))) (t1_0 : S_api_Region) : Option Bool :=
  (F_slices_IndexFunc_api_Region_region_Of_1 fu t0 t1_0).bind fun r0 =>
  some (decide (r0 ≥ (0 : Int)))

theorem run_slices_ContainsFunc_api_Region_region_Of_1 (fu : Nat) (t0 : (Nat × (Nat → S_api_Region))) (t1_0 : S_api_Region) {d : D} {r : Bool} (h : F_slices_ContainsFunc_api_Region_region_Of_1 fu t0 t1_0 = some r) (hk : (K_slices_ContainsFunc_api_Region_region_Of_1 d) r) : Runs Try.prog Try.f25 0 T_slices_ContainsFunc_api_Region_region_Of_1 [(0, (D.lit t0.1 25 fun i => (S_api_Region.d (t0.2 i)))), (1, (D.fn 34 (D.cons (D.lptr (S_api_Region.d t1_0)) D.nil)))] [] d [] := by
  unfold F_slices_ContainsFunc_api_Region_region_Of_1 at h
  obtain ⟨r0, cr0, h⟩ := Option.bind_eq_some_iff.1 h
  refine runs_regions 2 [([], [0, 1]), ([(.d (D.int .i64 r0))], [4])] (z := ([FC Try.prog 55 [(D.lit t0.1 25 fun i => (S_api_Region.d (t0.2 i))), (D.fn 34 (D.cons (D.lptr (S_api_Region.d t1_0)) D.nil))] [] (D.int .i64 r0) [], All (List.map NoRow [(D.lit t0.1 25 fun i => (S_api_Region.d (t0.2 i))), (D.fn 34 (D.cons (D.lptr (S_api_Region.d t1_0)) D.nil))])], [(4, (D.bool (decide (r0 ≥ (0 : Int)))))], [])) rfl (by kernel_rfl) (And.intro (fc_slices_IndexFunc_api_Region_region_Of_1 fu t0 t1_0 cr0) (And.intro (And.intro (fun _ _ => (S_api_Region.inn _)) (And.intro (And.intro (S_api_Region.inn _) trivial) trivial)) trivial)) ?_
  rw [← Option.some.inj h] at hk
  obtain rfl : d = (D.bool (decide (r0 ≥ (0 : Int)))) := hk
  exact runs_ret (by kernel_rfl) trivial (Nat.le_refl 0) trivial trivial

theorem fc_slices_ContainsFunc_api_Region_region_Of_1 (fu : Nat) (t0 : (Nat × (Nat → S_api_Region))) (t1_0 : S_api_Region) {r : Bool} (h : F_slices_ContainsFunc_api_Region_region_Of_1 fu t0 t1_0 = some r) : FC Try.prog 25 [(D.lit t0.1 25 fun i => (S_api_Region.d (t0.2 i))), (D.fn 34 (D.cons (D.lptr (S_api_Region.d t1_0)) D.nil))] [] (D.bool r) [] := by
  refine fc_of_runs (fn := Try.f25) (c := Try.f25.body.getD .skip) (by kernel_rfl) (by kernel_rfl) ?_
  refine runs_to (ts := [0, 1]) (T' := T_slices_ContainsFunc_api_Region_region_Of_1) (env' := [(0, (D.lit t0.1 25 fun i => (S_api_Region.d (t0.2 i)))), (1, (D.fn 34 (D.cons (D.lptr (S_api_Region.d t1_0)) D.nil)))]) (h2 := []) (by kernel_rfl) (by kernel_rfl) trivial (Nat.le_refl _) trivial (And.intro (fun _ _ => (S_api_Region.inn _)) (And.intro (And.intro (S_api_Region.inn _) trivial) trivial)) ?_
  exact run_slices_ContainsFunc_api_Region_region_Of_1 fu t0 t1_0 h rfl

def K_region_Of (d : D) (r : (Nat × (Nat → S_api_Region))) : Prop := d = (D.lit r.1 25 fun i => (S_api_Region.d (r.2 i)))

noncomputable def T_region_Of : List Item := norm 200 [.code (Try.f10.body.getD .skip)]

noncomputable def T_region_Of_L1 : List Item := norm 200 (nxt (nxt (nxt T_region_Of)))

noncomputable def X_region_Of_L1T : List Item := norm 200 (cndF (nxt (nxt (nxt (nxt T_region_Of)))))

noncomputable def T_region_Of_L2 : List Item := norm 200 (nxt (nxt (nxt (nxt (cndF (nxt (nxt (nxt (nxt T_region_Of)))))))))

noncomputable def X_region_Of_L2T : List Item := norm 200 (cndF (nxt (nxt (nxt (nxt (nxt (cndF (nxt (nxt (nxt (nxt T_region_Of)))))))))))

abbrev E_region_Of_L1 := (Nat × (Nat → S_api_Region))

def N_region_Of_L1 (_fu : Nat) (t10 : (Nat × (Nat → S_api_Change))) (t11 : Int) (d : D) (s : (Int × (Nat × (Nat → S_api_Region)))) : Prop := Runs Try.prog Try.f10 0 T_region_Of_L1 [(3, (D.own 0)), (10, (D.lit t10.1 32 fun i => (S_api_Change.d (t10.2 i)))), (11, (D.int .i64 t11)), (12, (D.int .i64 s.1))] [some (.seq 30 s.2.1 25 (D.arr s.2.1 25 fun i => (S_api_Region.d (s.2.2 i))))] d []

def X_region_Of_L1 (_fu : Nat) (_t10 : (Nat × (Nat → S_api_Change))) (_t11 : Int) (d : D) : E_region_Of_L1 ⊕ (Nat × (Nat → S_api_Region)) → Prop
  | .inl e => Runs Try.prog Try.f10 0 X_region_Of_L1T [(3, (D.own 0))] [some (.seq 30 e.1 25 (D.arr e.1 25 fun i => (S_api_Region.d (e.2 i))))] d []
  | .inr o => (K_region_Of d) o

def F_region_Of_L1 (fu : Nat) (t10 : (Nat × (Nat → S_api_Change))) (t11 : Int) (t12 : Int) (m0 : (Nat × (Nat → S_api_Region))) : Option (Lo (Int × (Nat × (Nat → S_api_Region))) E_region_Of_L1 (Nat × (Nat → S_api_Region))) :=
  ifs (decide (t12 < t11)) (
    chk (0 ≤ t12 ∧ t12 < ((t10.1 : Nat) : Int)) <|
    (F_cube_Sound fu (t10.2 t12.toNat).f1.f1).bind fun r0 =>
    ifs r0 (
      chk (RoomOk (m0.1 + 1) 200) <|
      some (.next ((IntKind.wrap .i64 (t12 + (1 : Int))), ((m0.1 + 1), (fun i => if i < m0.1 then m0.2 i else (fun i => ([(S_api_Region.mk (t10.2 t12.toNat).f0 (t10.2 t12.toNat).f1.f1)] : List S_api_Region).getD i S_api_Region.z) (i - m0.1)))))) (
      some (.next ((IntKind.wrap .i64 (t12 + (1 : Int))), m0)))) (
    some (.exit m0))

theorem run_region_Of_L1 (fu : Nat) (t10 : (Nat × (Nat → S_api_Change))) (t11 : Int) (t12 : Int) (m0 : (Nat × (Nat → S_api_Region))) {d : D} {o : (Lo (Int × (Nat × (Nat → S_api_Region))) E_region_Of_L1 (Nat × (Nat → S_api_Region)))} (h : F_region_Of_L1 fu t10 t11 t12 m0 = some o) (hk : (Lo.post (N_region_Of_L1 fu t10 t11 d) (X_region_Of_L1 fu t10 t11 d)) o) : Runs Try.prog Try.f10 0 T_region_Of_L1 [(3, (D.own 0)), (10, (D.lit t10.1 32 fun i => (S_api_Change.d (t10.2 i)))), (11, (D.int .i64 t11)), (12, (D.int .i64 t12))] [some (.seq 30 m0.1 25 (D.arr m0.1 25 fun i => (S_api_Region.d (m0.2 i))))] d [] := by
  unfold F_region_Of_L1 at h
  refine runs_regions 1 [([], [3, 10, 11, 12, 13])] (z := ([], [(3, (D.own 0)), (10, (D.lit t10.1 32 fun i => (S_api_Change.d (t10.2 i)))), (11, (D.int .i64 t11)), (12, (D.int .i64 t12)), (13, (D.bool (decide (t12 < t11))))], [some (.seq 30 m0.1 25 (D.arr m0.1 25 fun i => (S_api_Region.d (m0.2 i))))])) rfl (by kernel_rfl) trivial ?_
  refine runs_if (b := (decide (t12 < t11))) (by kernel_rfl) (fun hb => ?_) (fun hb => ?_)
  · replace h := ifs_true h hb
    obtain ⟨p0, h⟩ := chk_some h
    obtain ⟨r0, cr0, h⟩ := Option.bind_eq_some_iff.1 h
    refine runs_regions 2 [([], [3, 5, 10, 11, 12]), ([(.d (D.bool r0))], [3, 5, 10, 11, 12, 19])] (z := ([(0 ≤ t12 ∧ t12 < ((t10.1 : Nat) : Int)), FC Try.prog 30 [(S_api_Cube.d (t10.2 t12.toNat).f1.f1)] [] (D.bool r0) [], All (List.map NoRow [(S_api_Cube.d (t10.2 t12.toNat).f1.f1)])], [(3, (D.own 0)), (5, (D.ptr 1 [])), (10, (D.lit t10.1 32 fun i => (S_api_Change.d (t10.2 i)))), (11, (D.int .i64 t11)), (12, (D.int .i64 t12)), (19, (D.bool r0))], [some (.seq 30 m0.1 25 (D.arr m0.1 25 fun i => (S_api_Region.d (m0.2 i)))), some (.box (S_api_Change.d (t10.2 t12.toNat)))])) rfl (by kernel_rfl) (And.intro p0 (And.intro (fc_cube_Sound fu (t10.2 t12.toNat).f1.f1 cr0) (And.intro (And.intro (S_api_Cube.inn _) trivial) trivial))) ?_
    refine runs_if (b := r0) (by kernel_rfl) (fun hb => ?_) (fun hb => ?_)
    · replace h := ifs_true h hb
      obtain ⟨p1, h⟩ := chk_some h
      refine runs_regions 2 [([(.lit fun i => (S_api_Region.d ((fun i => ([(S_api_Region.mk (t10.2 t12.toNat).f0 (t10.2 t12.toNat).f1.f1)] : List S_api_Region).getD i S_api_Region.z) i))), (.d (D.arr (m0.1 + 1) 25 fun i1 => (S_api_Region.d ((fun i => if i < m0.1 then m0.2 i else (fun i => ([(S_api_Region.mk (t10.2 t12.toNat).f0 (t10.2 t12.toNat).f1.f1)] : List S_api_Region).getD i S_api_Region.z) (i - m0.1)) i1))))], [3, 10, 11, 12]), ([], [3, 10, 11, 12])] (z := ([TabOk [(D.cons (D.int .i64 (t10.2 t12.toNat).f0) (D.cons (S_api_Cube.d (t10.2 t12.toNat).f1.f1) D.nil))] 25 (D.arr 1 25 fun i => (S_api_Region.d ((fun i => ([(S_api_Region.mk (t10.2 t12.toNat).f0 (t10.2 t12.toNat).f1.f1)] : List S_api_Region).getD i S_api_Region.z) i))), (RoomOk (m0.1 + 1) 200), CatOk (D.arr m0.1 25 fun i => (S_api_Region.d (m0.2 i))) (D.arr 1 25 fun i => (S_api_Region.d ((fun i => ([(S_api_Region.mk (t10.2 t12.toNat).f0 (t10.2 t12.toNat).f1.f1)] : List S_api_Region).getD i S_api_Region.z) i))) (D.arr (m0.1 + 1) 25 fun i1 => (S_api_Region.d ((fun i => if i < m0.1 then m0.2 i else (fun i => ([(S_api_Region.mk (t10.2 t12.toNat).f0 (t10.2 t12.toNat).f1.f1)] : List S_api_Region).getD i S_api_Region.z) (i - m0.1)) i1)))], [(3, (D.own 2)), (10, (D.lit t10.1 32 fun i => (S_api_Change.d (t10.2 i)))), (11, (D.int .i64 t11)), (12, (D.int .i64 (IntKind.wrap .i64 (t12 + (1 : Int)))))], [none, some (.box (S_api_Change.d (t10.2 t12.toNat))), some (.seq 30 (m0.1 + 1) 25 (D.arr (m0.1 + 1) 25 fun i1 => (S_api_Region.d ((fun i => if i < m0.1 then m0.2 i else (fun i => ([(S_api_Region.mk (t10.2 t12.toNat).f0 (t10.2 t12.toNat).f1.f1)] : List S_api_Region).getD i S_api_Region.z) (i - m0.1)) i1))))])) rfl (by kernel_rfl) (And.intro (tabOk_arr rfl (And.intro rfl trivial)) (And.intro p1 (And.intro (catOk_arr' rfl fun i => (d_ite (f := fun x : S_api_Region => (S_api_Region.d x)) rfl rfl).symm) trivial))) ?_
      rw [← Option.some.inj h] at hk
      refine runs_to (ts := [3, 10, 11, 12]) (T' := T_region_Of_L1) (env' := [(3, (D.own 2)), (10, (D.lit t10.1 32 fun i => (S_api_Change.d (t10.2 i)))), (11, (D.int .i64 t11)), (12, (D.int .i64 (IntKind.wrap .i64 (t12 + (1 : Int)))))]) (h2 := [none, some (.box (S_api_Change.d (t10.2 t12.toNat))), some (.seq 30 (m0.1 + 1) 25 (D.arr (m0.1 + 1) 25 fun i1 => (S_api_Region.d ((fun i => if i < m0.1 then m0.2 i else (fun i => ([(S_api_Region.mk (t10.2 t12.toNat).f0 (t10.2 t12.toNat).f1.f1)] : List S_api_Region).getD i S_api_Region.z) (i - m0.1)) i1))))]) (by kernel_rfl) (by kernel_rfl) (And.intro (.inl rfl) (And.intro (.inr rfl) (And.intro (.inr rfl) trivial))) (Nat.zero_le _) (And.intro (S_api_Change.inn _) (And.intro (fun _ _ => (S_api_Region.inn _)) trivial)) (And.intro (bel_of rfl) (And.intro (fun _ _ => (S_api_Change.inn _)) (And.intro trivial (And.intro trivial trivial)))) ?_
      refine runs_rename 0 2 (row := (.seq 30 (m0.1 + 1) 25 (D.arr (m0.1 + 1) 25 fun i1 => (S_api_Region.d ((fun i => if i < m0.1 then m0.2 i else (fun i => ([(S_api_Region.mk (t10.2 t12.toNat).f0 (t10.2 t12.toNat).f1.f1)] : List S_api_Region).getD i S_api_Region.z) (i - m0.1)) i1))))) (by decide) (Nat.zero_le _) rfl rfl (And.intro (S_api_Change.rnk _) (And.intro (fun _ _ => (S_api_Region.inn _)) trivial)) (And.intro (rn_own rfl) (And.intro (fun _ _ => (S_api_Change.inn _)) (And.intro trivial (And.intro trivial trivial)))) ?_
      refine runs_to (ts := [3, 10, 11, 12]) (T' := T_region_Of_L1) (env' := [(3, (D.own 0)), (10, (D.lit t10.1 32 fun i => (S_api_Change.d (t10.2 i)))), (11, (D.int .i64 t11)), (12, (D.int .i64 (IntKind.wrap .i64 (t12 + (1 : Int)))))]) (h2 := [some (.seq 30 (m0.1 + 1) 25 (D.arr (m0.1 + 1) 25 fun i1 => (S_api_Region.d ((fun i => if i < m0.1 then m0.2 i else (fun i => ([(S_api_Region.mk (t10.2 t12.toNat).f0 (t10.2 t12.toNat).f1.f1)] : List S_api_Region).getD i S_api_Region.z) (i - m0.1)) i1))))]) (by kernel_rfl) (by kernel_rfl) (And.intro (.inr rfl) trivial) (Nat.zero_le _) (And.intro (fun _ _ => (S_api_Region.inn _)) trivial) (And.intro (bel_of rfl) (And.intro (fun _ _ => (S_api_Change.inn _)) (And.intro trivial (And.intro trivial trivial)))) ?_
      exact hk
    · replace h := ifs_false h hb
      refine runs_regions 1 [([], [3, 10, 11, 12])] (z := ([], [(3, (D.own 0)), (10, (D.lit t10.1 32 fun i => (S_api_Change.d (t10.2 i)))), (11, (D.int .i64 t11)), (12, (D.int .i64 (IntKind.wrap .i64 (t12 + (1 : Int)))))], [some (.seq 30 m0.1 25 (D.arr m0.1 25 fun i => (S_api_Region.d (m0.2 i)))), some (.box (S_api_Change.d (t10.2 t12.toNat)))])) rfl (by kernel_rfl) trivial ?_
      rw [← Option.some.inj h] at hk
      refine runs_to (ts := [3, 10, 11, 12]) (T' := T_region_Of_L1) (env' := [(3, (D.own 0)), (10, (D.lit t10.1 32 fun i => (S_api_Change.d (t10.2 i)))), (11, (D.int .i64 t11)), (12, (D.int .i64 (IntKind.wrap .i64 (t12 + (1 : Int)))))]) (h2 := [some (.seq 30 m0.1 25 (D.arr m0.1 25 fun i => (S_api_Region.d (m0.2 i))))]) (by kernel_rfl) (by kernel_rfl) (And.intro (.inr rfl) trivial) (Nat.zero_le _) (And.intro (fun _ _ => (S_api_Region.inn _)) trivial) (And.intro (bel_of rfl) (And.intro (fun _ _ => (S_api_Change.inn _)) (And.intro trivial (And.intro trivial trivial)))) ?_
      exact hk
  · replace h := ifs_false h hb
    rw [← Option.some.inj h] at hk
    refine runs_to (ts := [3]) (T' := X_region_Of_L1T) (env' := [(3, (D.own 0))]) (h2 := [some (.seq 30 m0.1 25 (D.arr m0.1 25 fun i => (S_api_Region.d (m0.2 i))))]) (by kernel_rfl) (by kernel_rfl) (And.intro (.inr rfl) trivial) (Nat.zero_le _) (And.intro (fun _ _ => (S_api_Region.inn _)) trivial) (And.intro (bel_of rfl) trivial) ?_
    exact hk

theorem iter_region_Of_L1 (fu : Nat) (t10 : (Nat × (Nat → S_api_Change))) (t11 : Int) {d : D} (k : Nat) (s : (Int × (Nat × (Nat → S_api_Region)))) {o : E_region_Of_L1 ⊕ (Nat × (Nat → S_api_Region))} (h : iter (fun s => F_region_Of_L1 fu t10 t11 s.1 s.2) k s = some o) (hx : X_region_Of_L1 fu t10 t11 d o) : N_region_Of_L1 fu t10 t11 d s :=
  iter_post (K := N_region_Of_L1 fu t10 t11 d) (X := X_region_Of_L1 fu t10 t11 d) (fun s _ h hk => run_region_Of_L1 fu t10 t11 s.1 s.2 h hk) k s o h hx

abbrev E_region_Of_L2 := (Nat × (Nat → S_api_Region))

def N_region_Of_L2 (_fu : Nat) (t35 : Int) (m1 : (Nat × (Nat → S_api_Region))) (d : D) (s : (Int × (Nat × (Nat → S_api_Region)))) : Prop := Runs Try.prog Try.f10 0 T_region_Of_L2 [(3, (D.own 1)), (6, (D.own 2)), (34, (D.own 1)), (35, (D.int .i64 t35)), (36, (D.int .i64 s.1))] [none, some (.seq 30 m1.1 25 (D.arr m1.1 25 fun i => (S_api_Region.d (m1.2 i)))), some (.seq 30 s.2.1 25 (D.arr s.2.1 25 fun i => (S_api_Region.d (s.2.2 i))))] d []

def X_region_Of_L2 (_fu : Nat) (_t35 : Int) (_m1 : (Nat × (Nat → S_api_Region))) (d : D) : E_region_Of_L2 ⊕ (Nat × (Nat → S_api_Region)) → Prop
  | .inl e => Runs Try.prog Try.f10 0 X_region_Of_L2T [(6, (D.own 2))] [none, none, some (.seq 30 e.1 25 (D.arr e.1 25 fun i => (S_api_Region.d (e.2 i))))] d []
  | .inr o => (K_region_Of d) o

def F_region_Of_L2 (fu : Nat) (t35 : Int) (m1 : (Nat × (Nat → S_api_Region))) (t36 : Int) (m2 : (Nat × (Nat → S_api_Region))) : Option (Lo (Int × (Nat × (Nat → S_api_Region))) E_region_Of_L2 (Nat × (Nat → S_api_Region))) :=
  ifs (decide (t36 < t35)) (
    chk (0 ≤ t36 ∧ t36 < ((m1.1 : Nat) : Int)) <|
    chk (t36.toNat < m1.1) <|
    (F_slices_ContainsFunc_api_Region_region_Of_1 fu m1 (m1.2 t36.toNat)).bind fun r3 =>
    ifs (!r3) (
      chk (RoomOk (m2.1 + 1) 200) <|
      some (.next ((IntKind.wrap .i64 (t36 + (1 : Int))), ((m2.1 + 1), (fun i => if i < m2.1 then m2.2 i else (fun i => ([(m1.2 t36.toNat)] : List S_api_Region).getD i S_api_Region.z) (i - m2.1)))))) (
      some (.next ((IntKind.wrap .i64 (t36 + (1 : Int))), m2)))) (
    some (.exit m2))

theorem run_region_Of_L2 (fu : Nat) (t35 : Int) (m1 : (Nat × (Nat → S_api_Region))) (t36 : Int) (m2 : (Nat × (Nat → S_api_Region))) {d : D} {o : (Lo (Int × (Nat × (Nat → S_api_Region))) E_region_Of_L2 (Nat × (Nat → S_api_Region)))} (h : F_region_Of_L2 fu t35 m1 t36 m2 = some o) (hk : (Lo.post (N_region_Of_L2 fu t35 m1 d) (X_region_Of_L2 fu t35 m1 d)) o) : Runs Try.prog Try.f10 0 T_region_Of_L2 [(3, (D.own 1)), (6, (D.own 2)), (34, (D.own 1)), (35, (D.int .i64 t35)), (36, (D.int .i64 t36))] [none, some (.seq 30 m1.1 25 (D.arr m1.1 25 fun i => (S_api_Region.d (m1.2 i)))), some (.seq 30 m2.1 25 (D.arr m2.1 25 fun i => (S_api_Region.d (m2.2 i))))] d [] := by
  unfold F_region_Of_L2 at h
  refine runs_regions 1 [([], [3, 6, 34, 35, 36, 37])] (z := ([], [(3, (D.own 1)), (6, (D.own 2)), (34, (D.own 1)), (35, (D.int .i64 t35)), (36, (D.int .i64 t36)), (37, (D.bool (decide (t36 < t35))))], [none, some (.seq 30 m1.1 25 (D.arr m1.1 25 fun i => (S_api_Region.d (m1.2 i)))), some (.seq 30 m2.1 25 (D.arr m2.1 25 fun i => (S_api_Region.d (m2.2 i))))])) rfl (by kernel_rfl) trivial ?_
  refine runs_if (b := (decide (t36 < t35))) (by kernel_rfl) (fun hb => ?_) (fun hb => ?_)
  · replace h := ifs_true h hb
    obtain ⟨p3, h⟩ := chk_some h
    obtain ⟨p4, h⟩ := chk_some h
    refine runs_regions 1 [([], [3, 6, 8, 34, 35, 36])] (z := ([(0 ≤ t36 ∧ t36 < ((m1.1 : Nat) : Int)), (t36.toNat < m1.1)], [(3, (D.own 1)), (6, (D.own 2)), (8, (D.ptr 3 [])), (34, (D.own 1)), (35, (D.int .i64 t35)), (36, (D.int .i64 t36))], [none, some (.seq 30 m1.1 25 (D.arr m1.1 25 fun i => (S_api_Region.d (m1.2 i)))), some (.seq 30 m2.1 25 (D.arr m2.1 25 fun i => (S_api_Region.d (m2.2 i)))), some (.box (S_api_Region.d (m1.2 t36.toNat)))])) rfl (by kernel_rfl) (And.intro p3 (And.intro p4 trivial)) ?_
    refine runs_freeze 3 (row := (.box (S_api_Region.d (m1.2 t36.toNat)))) rfl ?_
    obtain ⟨r3, cr3, h⟩ := Option.bind_eq_some_iff.1 h
    refine runs_regions 2 [([], [3, 6, 8, 9, 34, 35, 36]), ([(.lend (D.bool r3))], [3, 6, 8, 34, 35, 36, 44])] (z := ([FC Try.prog 25 [(D.lit m1.1 25 fun i => (S_api_Region.d (m1.2 i))), (D.fn 34 (D.cons (D.lptr (S_api_Region.d (m1.2 t36.toNat))) D.nil))] [] (D.bool r3) [], All (List.map NoRow [(D.lit m1.1 25 fun i => (S_api_Region.d (m1.2 i))), (D.fn 34 (D.cons (D.lptr (S_api_Region.d (m1.2 t36.toNat))) D.nil))])], [(3, (D.own 1)), (6, (D.own 2)), (8, (D.lptr (S_api_Region.d (m1.2 t36.toNat)))), (34, (D.own 1)), (35, (D.int .i64 t35)), (36, (D.int .i64 t36)), (44, (D.bool (!r3)))], [none, some (.seq 30 m1.1 25 (D.arr m1.1 25 fun i => (S_api_Region.d (m1.2 i)))), some (.seq 30 m2.1 25 (D.arr m2.1 25 fun i => (S_api_Region.d (m2.2 i)))), none])) rfl (by kernel_rfl) (And.intro (fc_slices_ContainsFunc_api_Region_region_Of_1 fu m1 (m1.2 t36.toNat) cr3) (And.intro (And.intro (fun _ _ => (S_api_Region.inn _)) (And.intro (And.intro (S_api_Region.inn _) trivial) trivial)) trivial)) ?_
    refine runs_if (b := (!r3)) (by kernel_rfl) (fun hb => ?_) (fun hb => ?_)
    · replace h := ifs_true h hb
      obtain ⟨p5, h⟩ := chk_some h
      refine runs_regions 2 [([(.lit fun i => (S_api_Region.d ((fun i => ([(m1.2 t36.toNat)] : List S_api_Region).getD i S_api_Region.z) i))), (.d (D.arr (m2.1 + 1) 25 fun i => (S_api_Region.d ((fun i => if i < m2.1 then m2.2 i else (fun i => ([(m1.2 t36.toNat)] : List S_api_Region).getD i S_api_Region.z) (i - m2.1)) i))))], [3, 6, 34, 35, 36]), ([], [3, 6, 34, 35, 36])] (z := ([TabOk [(S_api_Region.d (m1.2 t36.toNat))] 25 (D.arr 1 25 fun i => (S_api_Region.d ((fun i => ([(m1.2 t36.toNat)] : List S_api_Region).getD i S_api_Region.z) i))), (RoomOk (m2.1 + 1) 200), CatOk (D.arr m2.1 25 fun i => (S_api_Region.d (m2.2 i))) (D.arr 1 25 fun i => (S_api_Region.d ((fun i => ([(m1.2 t36.toNat)] : List S_api_Region).getD i S_api_Region.z) i))) (D.arr (m2.1 + 1) 25 fun i => (S_api_Region.d ((fun i => if i < m2.1 then m2.2 i else (fun i => ([(m1.2 t36.toNat)] : List S_api_Region).getD i S_api_Region.z) (i - m2.1)) i)))], [(3, (D.own 1)), (6, (D.own 4)), (34, (D.own 1)), (35, (D.int .i64 t35)), (36, (D.int .i64 (IntKind.wrap .i64 (t36 + (1 : Int)))))], [none, some (.seq 30 m1.1 25 (D.arr m1.1 25 fun i => (S_api_Region.d (m1.2 i)))), none, none, some (.seq 30 (m2.1 + 1) 25 (D.arr (m2.1 + 1) 25 fun i => (S_api_Region.d ((fun i => if i < m2.1 then m2.2 i else (fun i => ([(m1.2 t36.toNat)] : List S_api_Region).getD i S_api_Region.z) (i - m2.1)) i))))])) rfl (by kernel_rfl) (And.intro (tabOk_arr rfl (And.intro rfl trivial)) (And.intro p5 (And.intro (catOk_arr' rfl fun i => (d_ite (f := fun x : S_api_Region => (S_api_Region.d x)) rfl rfl).symm) trivial))) ?_
      rw [← Option.some.inj h] at hk
      refine runs_to (ts := [3, 6, 34, 35, 36]) (T' := T_region_Of_L2) (env' := [(3, (D.own 1)), (6, (D.own 4)), (34, (D.own 1)), (35, (D.int .i64 t35)), (36, (D.int .i64 (IntKind.wrap .i64 (t36 + (1 : Int)))))]) (h2 := [none, some (.seq 30 m1.1 25 (D.arr m1.1 25 fun i => (S_api_Region.d (m1.2 i)))), none, none, some (.seq 30 (m2.1 + 1) 25 (D.arr (m2.1 + 1) 25 fun i => (S_api_Region.d ((fun i => if i < m2.1 then m2.2 i else (fun i => ([(m1.2 t36.toNat)] : List S_api_Region).getD i S_api_Region.z) (i - m2.1)) i))))]) (by kernel_rfl) (by kernel_rfl) (And.intro (.inl rfl) (And.intro (.inr rfl) (And.intro (.inl rfl) (And.intro (.inl rfl) (And.intro (.inr rfl) trivial))))) (Nat.zero_le _) (And.intro (fun _ _ => (S_api_Region.inn _)) (And.intro (fun _ _ => (S_api_Region.inn _)) trivial)) (And.intro (bel_of rfl) (And.intro (bel_of rfl) (And.intro (bel_of rfl) (And.intro trivial (And.intro trivial trivial))))) ?_
      refine runs_rename 2 4 (row := (.seq 30 (m2.1 + 1) 25 (D.arr (m2.1 + 1) 25 fun i => (S_api_Region.d ((fun i => if i < m2.1 then m2.2 i else (fun i => ([(m1.2 t36.toNat)] : List S_api_Region).getD i S_api_Region.z) (i - m2.1)) i))))) (by decide) (Nat.zero_le _) rfl rfl (And.intro (fun _ _ => (S_api_Region.inn _)) (And.intro (fun _ _ => (S_api_Region.inn _)) trivial)) (And.intro (rn_own rfl) (And.intro (rn_own rfl) (And.intro (rn_own rfl) (And.intro trivial (And.intro trivial trivial))))) ?_
      refine runs_to (ts := [3, 6, 34, 35, 36]) (T' := T_region_Of_L2) (env' := [(3, (D.own 1)), (6, (D.own 2)), (34, (D.own 1)), (35, (D.int .i64 t35)), (36, (D.int .i64 (IntKind.wrap .i64 (t36 + (1 : Int)))))]) (h2 := [none, some (.seq 30 m1.1 25 (D.arr m1.1 25 fun i => (S_api_Region.d (m1.2 i)))), some (.seq 30 (m2.1 + 1) 25 (D.arr (m2.1 + 1) 25 fun i => (S_api_Region.d ((fun i => if i < m2.1 then m2.2 i else (fun i => ([(m1.2 t36.toNat)] : List S_api_Region).getD i S_api_Region.z) (i - m2.1)) i))))]) (by kernel_rfl) (by kernel_rfl) (And.intro (.inl rfl) (And.intro (.inr rfl) (And.intro (.inr rfl) trivial))) (Nat.zero_le _) (And.intro (fun _ _ => (S_api_Region.inn _)) (And.intro (fun _ _ => (S_api_Region.inn _)) trivial)) (And.intro (bel_of rfl) (And.intro (bel_of rfl) (And.intro (bel_of rfl) (And.intro trivial (And.intro trivial trivial))))) ?_
      exact hk
    · replace h := ifs_false h hb
      refine runs_regions 1 [([], [3, 6, 34, 35, 36])] (z := ([], [(3, (D.own 1)), (6, (D.own 2)), (34, (D.own 1)), (35, (D.int .i64 t35)), (36, (D.int .i64 (IntKind.wrap .i64 (t36 + (1 : Int)))))], [none, some (.seq 30 m1.1 25 (D.arr m1.1 25 fun i => (S_api_Region.d (m1.2 i)))), some (.seq 30 m2.1 25 (D.arr m2.1 25 fun i => (S_api_Region.d (m2.2 i)))), none])) rfl (by kernel_rfl) trivial ?_
      rw [← Option.some.inj h] at hk
      refine runs_to (ts := [3, 6, 34, 35, 36]) (T' := T_region_Of_L2) (env' := [(3, (D.own 1)), (6, (D.own 2)), (34, (D.own 1)), (35, (D.int .i64 t35)), (36, (D.int .i64 (IntKind.wrap .i64 (t36 + (1 : Int)))))]) (h2 := [none, some (.seq 30 m1.1 25 (D.arr m1.1 25 fun i => (S_api_Region.d (m1.2 i)))), some (.seq 30 m2.1 25 (D.arr m2.1 25 fun i => (S_api_Region.d (m2.2 i))))]) (by kernel_rfl) (by kernel_rfl) (And.intro (.inl rfl) (And.intro (.inr rfl) (And.intro (.inr rfl) trivial))) (Nat.zero_le _) (And.intro (fun _ _ => (S_api_Region.inn _)) (And.intro (fun _ _ => (S_api_Region.inn _)) trivial)) (And.intro (bel_of rfl) (And.intro (bel_of rfl) (And.intro (bel_of rfl) (And.intro trivial (And.intro trivial trivial))))) ?_
      exact hk
  · replace h := ifs_false h hb
    rw [← Option.some.inj h] at hk
    refine runs_to (ts := [6]) (T' := X_region_Of_L2T) (env' := [(6, (D.own 2))]) (h2 := [none, none, some (.seq 30 m2.1 25 (D.arr m2.1 25 fun i => (S_api_Region.d (m2.2 i))))]) (by kernel_rfl) (by kernel_rfl) (And.intro (.inl rfl) (And.intro (.inl rfl) (And.intro (.inr rfl) trivial))) (Nat.zero_le _) (And.intro (fun _ _ => (S_api_Region.inn _)) trivial) (And.intro (bel_of rfl) trivial) ?_
    exact hk

theorem iter_region_Of_L2 (fu : Nat) (t35 : Int) (m1 : (Nat × (Nat → S_api_Region))) {d : D} (k : Nat) (s : (Int × (Nat × (Nat → S_api_Region)))) {o : E_region_Of_L2 ⊕ (Nat × (Nat → S_api_Region))} (h : iter (fun s => F_region_Of_L2 fu t35 m1 s.1 s.2) k s = some o) (hx : X_region_Of_L2 fu t35 m1 d o) : N_region_Of_L2 fu t35 m1 d s :=
  iter_post (K := N_region_Of_L2 fu t35 m1 d) (X := X_region_Of_L2 fu t35 m1 d) (fun s _ h hk => run_region_Of_L2 fu t35 m1 s.1 s.2 h hk) k s o h hx

/-- podesta/region.Of -/
def F_region_Of (fu : Nat) (t0 : (Nat × (Nat → S_api_Change))) : Option (Nat × (Nat → S_api_Region)) :=
  after (iter (fun s => F_region_Of_L1 fu t0 ((t0.1 : Nat) : Int) s.1 s.2) fu ((0 : Int), (0, (fun _ => S_api_Region.z)))) fun e3 =>
  (F_slices_SortFunc_region_compare e3).bind fun r1 =>
  (F_slices_Compact_api_Region fu r1).bind fun r2 =>
  after (iter (fun s => F_region_Of_L2 fu ((r2.1 : Nat) : Int) r2 s.1 s.2) fu ((0 : Int), (0, (fun _ => S_api_Region.z)))) fun e7 =>
  some e7

theorem run_region_Of (fu : Nat) (t0 : (Nat × (Nat → S_api_Change))) {d : D} {r : (Nat × (Nat → S_api_Region))} (h : F_region_Of fu t0 = some r) (hk : (K_region_Of d) r) : Runs Try.prog Try.f10 0 T_region_Of [(0, (D.lit t0.1 32 fun i => (S_api_Change.d (t0.2 i))))] [] d [] := by
  unfold F_region_Of at h
  refine runs_regions 3 [([], [0]), ([(.nil 30 25 (D.arr 0 25 fun i => (S_api_Region.d ((fun _ => S_api_Region.z) i))))], [0, 3]), ([], [3, 10, 11, 12])] (z := ([EmptyOk (D.arr 0 25 fun i => (S_api_Region.d ((fun _ => S_api_Region.z) i)))], [(3, (D.own 0)), (10, (D.lit t0.1 32 fun i => (S_api_Change.d (t0.2 i)))), (11, (D.int .i64 ((t0.1 : Nat) : Int))), (12, (D.int .i64 (0 : Int)))], [some (.seq 30 0 25 (D.arr 0 25 fun i => (S_api_Region.d ((fun _ => S_api_Region.z) i))))])) rfl (by kernel_rfl) (And.intro emptyOk_arr trivial) ?_
  refine runs_to (ts := [3, 10, 11, 12]) (T' := T_region_Of_L1) (env' := [(3, (D.own 0)), (10, (D.lit t0.1 32 fun i => (S_api_Change.d (t0.2 i)))), (11, (D.int .i64 ((t0.1 : Nat) : Int))), (12, (D.int .i64 (0 : Int)))]) (h2 := [some (.seq 30 0 25 (D.arr 0 25 fun i => (S_api_Region.d ((fun _ => S_api_Region.z) i))))]) (by kernel_rfl) (by kernel_rfl) (And.intro (.inr rfl) trivial) (Nat.zero_le _) (And.intro (fun _ _ => (S_api_Region.inn _)) trivial) (And.intro (bel_of rfl) (And.intro (fun _ _ => (S_api_Change.inn _)) (And.intro trivial (And.intro trivial trivial)))) ?_
  rcases after_some h with ⟨e3, hi, h⟩ | hi
  · refine iter_region_Of_L1 fu t0 ((t0.1 : Nat) : Int) fu ((0 : Int), (0, (fun _ => S_api_Region.z))) hi ?_
    show Runs Try.prog Try.f10 0 X_region_Of_L1T [(3, (D.own 0))] [some (.seq 30 e3.1 25 (D.arr e3.1 25 fun i => (S_api_Region.d (e3.2 i))))] d []
    obtain ⟨r1, cr1, h⟩ := Option.bind_eq_some_iff.1 h
    obtain ⟨r2, cr2, h⟩ := Option.bind_eq_some_iff.1 h
    refine runs_regions 4 [([(.rows ([0] : List Nat) [(D.own 0), (D.fn 32 D.nil)] ([(.seq 30 e3.1 25 (D.arr e3.1 25 fun i => (S_api_Region.d (e3.2 i))))] : List Row) ([some (.seq 30 r1.1 25 (D.arr r1.1 25 fun i => (S_api_Region.d (r1.2 i))))] : Heap) (D.tup D.nil))], [3]), ([(.rows ([0] : List Nat) [(D.own 0)] ([(.seq 30 r1.1 25 (D.arr r1.1 25 fun i => (S_api_Region.d (r1.2 i))))] : List Row) ([none, some (.seq 30 r2.1 25 (D.arr r2.1 25 fun i => (S_api_Region.d (r2.2 i))))] : Heap) (D.own 1))], [3]), ([(.nil 30 25 (D.arr 0 25 fun i => (S_api_Region.d ((fun _ => S_api_Region.z) i))))], [3, 6]), ([], [3, 6, 34, 35, 36])] (z := ([FC Try.prog 31 [(D.own 0), (D.fn 32 D.nil)] (List.map some ([(.seq 30 e3.1 25 (D.arr e3.1 25 fun i => (S_api_Region.d (e3.2 i))))] : List Row)) (D.tup D.nil) ([some (.seq 30 r1.1 25 (D.arr r1.1 25 fun i => (S_api_Region.d (r1.2 i))))] : Heap), [(D.own 0), (D.fn 32 D.nil)] = List.map (D.ren (emb ([0] : List Nat) 1)) [(D.own 0), (D.fn 32 D.nil)], RowsAt (emb ([0] : List Nat) 1) ([some (.seq 30 e3.1 25 (D.arr e3.1 25 fun i => (S_api_Region.d (e3.2 i))))] : Heap) ([0] : List Nat) ([(.seq 30 e3.1 25 (D.arr e3.1 25 fun i => (S_api_Region.d (e3.2 i))))] : List Row), HIn (Bel (List.length ([0] : List Nat))) (List.map some ([(.seq 30 e3.1 25 (D.arr e3.1 25 fun i => (S_api_Region.d (e3.2 i))))] : List Row)), AllIn (Bel (List.length ([0] : List Nat))) [(D.own 0), (D.fn 32 D.nil)], HIn (Bel (List.length ([some (.seq 30 r1.1 25 (D.arr r1.1 25 fun i => (S_api_Region.d (r1.2 i))))] : Heap))) ([some (.seq 30 r1.1 25 (D.arr r1.1 25 fun i => (S_api_Region.d (r1.2 i))))] : Heap), D.In (Bel (List.length ([some (.seq 30 r1.1 25 (D.arr r1.1 25 fun i => (S_api_Region.d (r1.2 i))))] : Heap))) (D.tup D.nil), FC Try.prog 33 [(D.own 0)] (List.map some ([(.seq 30 r1.1 25 (D.arr r1.1 25 fun i => (S_api_Region.d (r1.2 i))))] : List Row)) (D.own 1) ([none, some (.seq 30 r2.1 25 (D.arr r2.1 25 fun i => (S_api_Region.d (r2.2 i))))] : Heap), [(D.own 0)] = List.map (D.ren (emb ([0] : List Nat) 1)) [(D.own 0)], RowsAt (emb ([0] : List Nat) 1) ([some (.seq 30 r1.1 25 (D.arr r1.1 25 fun i => (S_api_Region.d (r1.2 i))))] : Heap) ([0] : List Nat) ([(.seq 30 r1.1 25 (D.arr r1.1 25 fun i => (S_api_Region.d (r1.2 i))))] : List Row), HIn (Bel (List.length ([0] : List Nat))) (List.map some ([(.seq 30 r1.1 25 (D.arr r1.1 25 fun i => (S_api_Region.d (r1.2 i))))] : List Row)), AllIn (Bel (List.length ([0] : List Nat))) [(D.own 0)], HIn (Bel (List.length ([none, some (.seq 30 r2.1 25 (D.arr r2.1 25 fun i => (S_api_Region.d (r2.2 i))))] : Heap))) ([none, some (.seq 30 r2.1 25 (D.arr r2.1 25 fun i => (S_api_Region.d (r2.2 i))))] : Heap), D.In (Bel (List.length ([none, some (.seq 30 r2.1 25 (D.arr r2.1 25 fun i => (S_api_Region.d (r2.2 i))))] : Heap))) (D.own 1), EmptyOk (D.arr 0 25 fun i => (S_api_Region.d ((fun _ => S_api_Region.z) i)))], [(3, (D.own 1)), (6, (D.own 2)), (34, (D.own 1)), (35, (D.int .i64 ((r2.1 : Nat) : Int))), (36, (D.int .i64 (0 : Int)))], [none, some (.seq 30 r2.1 25 (D.arr r2.1 25 fun i => (S_api_Region.d (r2.2 i)))), some (.seq 30 0 25 (D.arr 0 25 fun i => (S_api_Region.d ((fun _ => S_api_Region.z) i))))])) rfl (by kernel_rfl) (And.intro (fc_slices_SortFunc_region_compare e3 cr1) (And.intro rfl (And.intro (And.intro rfl trivial) (And.intro (And.intro (fun _ _ => (S_api_Region.inn _)) trivial) (And.intro (And.intro (bel_of rfl) (And.intro trivial trivial)) (And.intro (And.intro (fun _ _ => (S_api_Region.inn _)) trivial) (And.intro trivial (And.intro (fc_slices_Compact_api_Region fu r1 cr2) (And.intro rfl (And.intro (And.intro rfl trivial) (And.intro (And.intro (fun _ _ => (S_api_Region.inn _)) trivial) (And.intro (And.intro (bel_of rfl) trivial) (And.intro (And.intro (fun _ _ => (S_api_Region.inn _)) trivial) (And.intro (bel_of rfl) (And.intro emptyOk_arr trivial))))))))))))))) ?_
    refine runs_to (ts := [3, 6, 34, 35, 36]) (T' := T_region_Of_L2) (env' := [(3, (D.own 1)), (6, (D.own 2)), (34, (D.own 1)), (35, (D.int .i64 ((r2.1 : Nat) : Int))), (36, (D.int .i64 (0 : Int)))]) (h2 := [none, some (.seq 30 r2.1 25 (D.arr r2.1 25 fun i => (S_api_Region.d (r2.2 i)))), some (.seq 30 0 25 (D.arr 0 25 fun i => (S_api_Region.d ((fun _ => S_api_Region.z) i))))]) (by kernel_rfl) (by kernel_rfl) (And.intro (.inl rfl) (And.intro (.inr rfl) (And.intro (.inr rfl) trivial))) (Nat.zero_le _) (And.intro (fun _ _ => (S_api_Region.inn _)) (And.intro (fun _ _ => (S_api_Region.inn _)) trivial)) (And.intro (bel_of rfl) (And.intro (bel_of rfl) (And.intro (bel_of rfl) (And.intro trivial (And.intro trivial trivial))))) ?_
    rcases after_some h with ⟨e7, hi, h⟩ | hi
    · refine iter_region_Of_L2 fu ((r2.1 : Nat) : Int) r2 fu ((0 : Int), (0, (fun _ => S_api_Region.z))) hi ?_
      show Runs Try.prog Try.f10 0 X_region_Of_L2T [(6, (D.own 2))] [none, none, some (.seq 30 e7.1 25 (D.arr e7.1 25 fun i => (S_api_Region.d (e7.2 i))))] d []
      refine runs_regions 1 [([], [2])] (z := ([], [(2, (D.own 2))], [none, none, some (.seq 30 e7.1 25 (D.arr e7.1 25 fun i => (S_api_Region.d (e7.2 i))))])) rfl (by kernel_rfl) trivial ?_
      rw [← Option.some.inj h] at hk
      obtain rfl : d = (D.lit e7.1 25 fun i => (S_api_Region.d (e7.2 i))) := hk
      refine runs_freeze 2 (row := (.seq 30 e7.1 25 (D.arr e7.1 25 fun i => (S_api_Region.d (e7.2 i))))) rfl ?_
      exact runs_ret (by kernel_rfl) trivial (Nat.le_refl 0) trivial (fun _ _ => (S_api_Region.inn _))
    · exact iter_region_Of_L2 fu ((r2.1 : Nat) : Int) r2 fu ((0 : Int), (0, (fun _ => S_api_Region.z))) hi hk
  · exact iter_region_Of_L1 fu t0 ((t0.1 : Nat) : Int) fu ((0 : Int), (0, (fun _ => S_api_Region.z))) hi hk

theorem fc_region_Of (fu : Nat) (t0 : (Nat × (Nat → S_api_Change))) {r : (Nat × (Nat → S_api_Region))} (h : F_region_Of fu t0 = some r) : FC Try.prog 10 [(D.lit t0.1 32 fun i => (S_api_Change.d (t0.2 i)))] [] (D.lit r.1 25 fun i => (S_api_Region.d (r.2 i))) [] := by
  refine fc_of_runs (fn := Try.f10) (c := Try.f10.body.getD .skip) (by kernel_rfl) (by kernel_rfl) ?_
  refine runs_to (ts := [0]) (T' := T_region_Of) (env' := [(0, (D.lit t0.1 32 fun i => (S_api_Change.d (t0.2 i))))]) (h2 := []) (by kernel_rfl) (by kernel_rfl) trivial (Nat.le_refl _) trivial (And.intro (fun _ _ => (S_api_Change.inn _)) trivial) ?_
  exact run_region_Of fu t0 h rfl

def K_region_Touch_1_1 (d : D) (r : Bool) : Prop := d = (D.bool r)

noncomputable def T_region_Touch_1_1 : List Item := norm 200 [.code (Try.f27.body.getD .skip)]

/-- podesta/region.Touch 1 1 -/
def F_region_Touch_1_1 (fu : Nat) (t0 : S_api_Region) (t1 : S_api_Region) : Option Bool :=
  (F_cube_Meet fu t1.f1 t0.f1).bind fun r0 =>
  some (bif r0.2 then (t1.f0 == t0.f0) else false)

theorem run_region_Touch_1_1 (fu : Nat) (t0 : S_api_Region) (t1 : S_api_Region) {d : D} {r : Bool} (h : F_region_Touch_1_1 fu t0 t1 = some r) (hk : (K_region_Touch_1_1 d) r) : Runs Try.prog Try.f27 0 T_region_Touch_1_1 [(0, (S_api_Region.d t0)), (1, (D.lptr (S_api_Region.d t1)))] [] d [] := by
  unfold F_region_Touch_1_1 at h
  obtain ⟨r0, cr0, h⟩ := Option.bind_eq_some_iff.1 h
  refine runs_regions 3 [([], [1, 2]), ([(.d (D.tup (D.cons (S_api_Cube.d r0.1) (D.cons (D.bool r0.2) D.nil))))], [1, 2, 5]), ([], [3])] (z := ([FC Try.prog 28 [(S_api_Cube.d t1.f1), (S_api_Cube.d t0.f1)] [] (D.tup (D.cons (S_api_Cube.d r0.1) (D.cons (D.bool r0.2) D.nil))) [], All (List.map NoRow [(S_api_Cube.d t1.f1), (S_api_Cube.d t0.f1)]), (r0.2 = true → All [(r0.2 = true → r0.2 = true)]), (r0.2 = true → All [(r0.2 = true → r0.2 = true)]), (r0.2 = true → All [(r0.2 = true → r0.2 = true), (r0.2 = true → r0.2 = true)]), ((true && r0.2) = true → r0.2 = true)], [(3, (D.bool (bif r0.2 then (t1.f0 == t0.f0) else false)))], [some (.box (S_api_Region.d t0)), some (.box (S_api_Cube.d r0.1))])) rfl (by kernel_rfl) (And.intro (fc_cube_Meet fu t1.f1 t0.f1 cr0) (And.intro (And.intro (S_api_Cube.inn _) (And.intro (S_api_Cube.inn _) trivial)) (And.intro (fun _ => (And.intro (by first | exact fun h => h | exact fun h => (Bool.and_eq_true_iff.1 h).1 | simp_all) trivial)) (And.intro (fun _ => (And.intro (by first | exact fun h => h | exact fun h => (Bool.and_eq_true_iff.1 h).1 | simp_all) trivial)) (And.intro (fun _ => (And.intro (by first | exact fun h => h | exact fun h => (Bool.and_eq_true_iff.1 h).1 | simp_all) (And.intro (by first | exact fun h => h | exact fun h => (Bool.and_eq_true_iff.1 h).1 | simp_all) trivial))) (And.intro (by first | exact fun h => h | exact fun h => (Bool.and_eq_true_iff.1 h).1 | simp_all) trivial)))))) ?_
  rw [← Option.some.inj h] at hk
  obtain rfl : d = (D.bool (bif r0.2 then (t1.f0 == t0.f0) else false)) := hk
  exact runs_ret (by kernel_rfl) trivial (Nat.le_refl 0) trivial trivial

theorem fc_region_Touch_1_1 (fu : Nat) (t0 : S_api_Region) (t1 : S_api_Region) {r : Bool} (h : F_region_Touch_1_1 fu t0 t1 = some r) : FC Try.prog 27 [(S_api_Region.d t0), (D.lptr (S_api_Region.d t1))] [] (D.bool r) [] := by
  refine fc_of_runs (fn := Try.f27) (c := Try.f27.body.getD .skip) (by kernel_rfl) (by kernel_rfl) ?_
  refine runs_to (ts := [0, 1]) (T' := T_region_Touch_1_1) (env' := [(0, (S_api_Region.d t0)), (1, (D.lptr (S_api_Region.d t1)))]) (h2 := []) (by kernel_rfl) (by kernel_rfl) trivial (Nat.le_refl _) trivial (And.intro (S_api_Region.inn _) (And.intro (S_api_Region.inn _) trivial)) ?_
  exact run_region_Touch_1_1 fu t0 t1 h rfl

def K_slices_IndexFunc_api_Region_region_Touch_1_1 (d : D) (r : Int) : Prop := d = (D.int .i64 r)

noncomputable def T_slices_IndexFunc_api_Region_region_Touch_1_1 : List Item := norm 200 [.code (Try.f55.body.getD .skip)]

noncomputable def T_slices_IndexFunc_api_Region_region_Touch_1_1_L1 : List Item := norm 200 (nxt (nxt T_slices_IndexFunc_api_Region_region_Touch_1_1))

noncomputable def X_slices_IndexFunc_api_Region_region_Touch_1_1_L1T : List Item := norm 200 (cndF (nxt (nxt (nxt T_slices_IndexFunc_api_Region_region_Touch_1_1))))

abbrev E_slices_IndexFunc_api_Region_region_Touch_1_1_L1 := Unit

def N_slices_IndexFunc_api_Region_region_Touch_1_1_L1 (_fu : Nat) (t0 : (Nat × (Nat → S_api_Region))) (t1_0 : S_api_Region) (t7 : Int) (d : D) (s : Int) : Prop := Runs Try.prog Try.f55 0 T_slices_IndexFunc_api_Region_region_Touch_1_1_L1 [(0, (D.lit t0.1 25 fun i => (S_api_Region.d (t0.2 i)))), (1, (D.fn 27 (D.cons (D.lptr (S_api_Region.d t1_0)) D.nil))), (7, (D.int .i64 t7)), (8, (D.int .i64 s))] [] d []

def X_slices_IndexFunc_api_Region_region_Touch_1_1_L1 (_fu : Nat) (_t0 : (Nat × (Nat → S_api_Region))) (_t1_0 : S_api_Region) (_t7 : Int) (d : D) : E_slices_IndexFunc_api_Region_region_Touch_1_1_L1 ⊕ Int → Prop
  | .inl _ => Runs Try.prog Try.f55 0 X_slices_IndexFunc_api_Region_region_Touch_1_1_L1T [] [] d []
  | .inr o => (K_slices_IndexFunc_api_Region_region_Touch_1_1 d) o

def F_slices_IndexFunc_api_Region_region_Touch_1_1_L1 (fu : Nat) (t0 : (Nat × (Nat → S_api_Region))) (t1_0 : S_api_Region) (t7 : Int) (t8 : Int) : Option (Lo Int E_slices_IndexFunc_api_Region_region_Touch_1_1_L1 Int) :=
  ifs (decide (t8 < t7)) (
    chk (0 ≤ t8 ∧ t8 < ((t0.1 : Nat) : Int)) <|
    (F_region_Touch_1_1 fu (t0.2 t8.toNat) t1_0).bind fun r0 =>
    ifs r0 (
      some (.ret t8)) (
      some (.next (IntKind.wrap .i64 (t8 + (1 : Int)))))) (
    some (.exit ()))

theorem run_slices_IndexFunc_api_Region_region_Touch_1_1_L1 (fu : Nat) (t0 : (Nat × (Nat → S_api_Region))) (t1_0 : S_api_Region) (t7 : Int) (t8 : Int) {d : D} {o : (Lo Int E_slices_IndexFunc_api_Region_region_Touch_1_1_L1 Int)} (h : F_slices_IndexFunc_api_Region_region_Touch_1_1_L1 fu t0 t1_0 t7 t8 = some o) (hk : (Lo.post (N_slices_IndexFunc_api_Region_region_Touch_1_1_L1 fu t0 t1_0 t7 d) (X_slices_IndexFunc_api_Region_region_Touch_1_1_L1 fu t0 t1_0 t7 d)) o) : Runs Try.prog Try.f55 0 T_slices_IndexFunc_api_Region_region_Touch_1_1_L1 [(0, (D.lit t0.1 25 fun i => (S_api_Region.d (t0.2 i)))), (1, (D.fn 27 (D.cons (D.lptr (S_api_Region.d t1_0)) D.nil))), (7, (D.int .i64 t7)), (8, (D.int .i64 t8))] [] d [] := by
  unfold F_slices_IndexFunc_api_Region_region_Touch_1_1_L1 at h
  refine runs_regions 1 [([], [0, 1, 7, 8, 9])] (z := ([], [(0, (D.lit t0.1 25 fun i => (S_api_Region.d (t0.2 i)))), (1, (D.fn 27 (D.cons (D.lptr (S_api_Region.d t1_0)) D.nil))), (7, (D.int .i64 t7)), (8, (D.int .i64 t8)), (9, (D.bool (decide (t8 < t7))))], [])) rfl (by kernel_rfl) trivial ?_
  refine runs_if (b := (decide (t8 < t7))) (by kernel_rfl) (fun hb => ?_) (fun hb => ?_)
  · replace h := ifs_true h hb
    obtain ⟨p0, h⟩ := chk_some h
    obtain ⟨r0, cr0, h⟩ := Option.bind_eq_some_iff.1 h
    refine runs_regions 2 [([], [0, 1, 5, 7, 8]), ([(.d (D.bool r0))], [0, 1, 5, 7, 8, 16])] (z := ([(0 ≤ t8 ∧ t8 < ((t0.1 : Nat) : Int)), FC Try.prog 27 [(S_api_Region.d (t0.2 t8.toNat)), (D.lptr (S_api_Region.d t1_0))] [] (D.bool r0) [], All (List.map NoRow [(S_api_Region.d (t0.2 t8.toNat)), (D.lptr (S_api_Region.d t1_0))])], [(0, (D.lit t0.1 25 fun i => (S_api_Region.d (t0.2 i)))), (1, (D.fn 27 (D.cons (D.lptr (S_api_Region.d t1_0)) D.nil))), (5, (D.int .i64 t8)), (7, (D.int .i64 t7)), (8, (D.int .i64 t8)), (16, (D.bool r0))], [])) rfl (by kernel_rfl) (And.intro p0 (And.intro (fc_region_Touch_1_1 fu (t0.2 t8.toNat) t1_0 cr0) (And.intro (And.intro (S_api_Region.inn _) (And.intro (S_api_Region.inn _) trivial)) trivial))) ?_
    refine runs_if (b := r0) (by kernel_rfl) (fun hb => ?_) (fun hb => ?_)
    · replace h := ifs_true h hb
      refine runs_regions 1 [([], [4])] (z := ([], [(4, (D.int .i64 t8))], [])) rfl (by kernel_rfl) trivial ?_
      rw [← Option.some.inj h] at hk
      obtain rfl : d = (D.int .i64 t8) := hk
      exact runs_ret (by kernel_rfl) trivial (Nat.le_refl 0) trivial trivial
    · replace h := ifs_false h hb
      refine runs_regions 1 [([], [0, 1, 7, 8])] (z := ([], [(0, (D.lit t0.1 25 fun i => (S_api_Region.d (t0.2 i)))), (1, (D.fn 27 (D.cons (D.lptr (S_api_Region.d t1_0)) D.nil))), (7, (D.int .i64 t7)), (8, (D.int .i64 (IntKind.wrap .i64 (t8 + (1 : Int)))))], [])) rfl (by kernel_rfl) trivial ?_
      rw [← Option.some.inj h] at hk
      refine runs_to (ts := [0, 1, 7, 8]) (T' := T_slices_IndexFunc_api_Region_region_Touch_1_1_L1) (env' := [(0, (D.lit t0.1 25 fun i => (S_api_Region.d (t0.2 i)))), (1, (D.fn 27 (D.cons (D.lptr (S_api_Region.d t1_0)) D.nil))), (7, (D.int .i64 t7)), (8, (D.int .i64 (IntKind.wrap .i64 (t8 + (1 : Int)))))]) (h2 := []) (by kernel_rfl) (by kernel_rfl) trivial (Nat.zero_le _) trivial (And.intro (fun _ _ => (S_api_Region.inn _)) (And.intro (And.intro (S_api_Region.inn _) trivial) (And.intro trivial (And.intro trivial trivial)))) ?_
      exact hk
  · replace h := ifs_false h hb
    rw [← Option.some.inj h] at hk
    refine runs_to (ts := []) (T' := X_slices_IndexFunc_api_Region_region_Touch_1_1_L1T) (env' := []) (h2 := []) (by kernel_rfl) (by kernel_rfl) trivial (Nat.zero_le _) trivial trivial ?_
    exact hk

theorem iter_slices_IndexFunc_api_Region_region_Touch_1_1_L1 (fu : Nat) (t0 : (Nat × (Nat → S_api_Region))) (t1_0 : S_api_Region) (t7 : Int) {d : D} (k : Nat) (s : Int) {o : E_slices_IndexFunc_api_Region_region_Touch_1_1_L1 ⊕ Int} (h : iter (fun s => F_slices_IndexFunc_api_Region_region_Touch_1_1_L1 fu t0 t1_0 t7 s) k s = some o) (hx : X_slices_IndexFunc_api_Region_region_Touch_1_1_L1 fu t0 t1_0 t7 d o) : N_slices_IndexFunc_api_Region_region_Touch_1_1_L1 fu t0 t1_0 t7 d s :=
  iter_post (K := N_slices_IndexFunc_api_Region_region_Touch_1_1_L1 fu t0 t1_0 t7 d) (X := X_slices_IndexFunc_api_Region_region_Touch_1_1_L1 fu t0 t1_0 t7 d) (fun s _ h hk => run_slices_IndexFunc_api_Region_region_Touch_1_1_L1 fu t0 t1_0 t7 s h hk) k s o h hx

/-- slices.IndexFunc[[]podesta/api.Region,podesta/api.Region] -/
def F_slices_IndexFunc_api_Region_region_Touch_1_1 (fu : Nat) (t0 : (Nat × (Nat → S_api_Region))) (t1_0 : S_api_Region) : Option Int :=
  after (iter (fun s => F_slices_IndexFunc_api_Region_region_Touch_1_1_L1 fu t0 t1_0 ((t0.1 : Nat) : Int) s) fu (0 : Int)) fun _ =>
  some (-1 : Int)

theorem run_slices_IndexFunc_api_Region_region_Touch_1_1 (fu : Nat) (t0 : (Nat × (Nat → S_api_Region))) (t1_0 : S_api_Region) {d : D} {r : Int} (h : F_slices_IndexFunc_api_Region_region_Touch_1_1 fu t0 t1_0 = some r) (hk : (K_slices_IndexFunc_api_Region_region_Touch_1_1 d) r) : Runs Try.prog Try.f55 0 T_slices_IndexFunc_api_Region_region_Touch_1_1 [(0, (D.lit t0.1 25 fun i => (S_api_Region.d (t0.2 i)))), (1, (D.fn 27 (D.cons (D.lptr (S_api_Region.d t1_0)) D.nil)))] [] d [] := by
  unfold F_slices_IndexFunc_api_Region_region_Touch_1_1 at h
  refine runs_regions 2 [([], [0, 1]), ([], [0, 1, 7, 8])] (z := ([], [(0, (D.lit t0.1 25 fun i => (S_api_Region.d (t0.2 i)))), (1, (D.fn 27 (D.cons (D.lptr (S_api_Region.d t1_0)) D.nil))), (7, (D.int .i64 ((t0.1 : Nat) : Int))), (8, (D.int .i64 (0 : Int)))], [])) rfl (by kernel_rfl) trivial ?_
  refine runs_to (ts := [0, 1, 7, 8]) (T' := T_slices_IndexFunc_api_Region_region_Touch_1_1_L1) (env' := [(0, (D.lit t0.1 25 fun i => (S_api_Region.d (t0.2 i)))), (1, (D.fn 27 (D.cons (D.lptr (S_api_Region.d t1_0)) D.nil))), (7, (D.int .i64 ((t0.1 : Nat) : Int))), (8, (D.int .i64 (0 : Int)))]) (h2 := []) (by kernel_rfl) (by kernel_rfl) trivial (Nat.zero_le _) trivial (And.intro (fun _ _ => (S_api_Region.inn _)) (And.intro (And.intro (S_api_Region.inn _) trivial) (And.intro trivial (And.intro trivial trivial)))) ?_
  rcases after_some h with ⟨e2, hi, h⟩ | hi
  · refine iter_slices_IndexFunc_api_Region_region_Touch_1_1_L1 fu t0 t1_0 ((t0.1 : Nat) : Int) fu (0 : Int) hi ?_
    show Runs Try.prog Try.f55 0 X_slices_IndexFunc_api_Region_region_Touch_1_1_L1T [] [] d []
    refine runs_regions 1 [([], [4])] (z := ([], [(4, (D.int .i64 (-1 : Int)))], [])) rfl (by kernel_rfl) trivial ?_
    rw [← Option.some.inj h] at hk
    obtain rfl : d = (D.int .i64 (-1 : Int)) := hk
    exact runs_ret (by kernel_rfl) trivial (Nat.le_refl 0) trivial trivial
  · exact iter_slices_IndexFunc_api_Region_region_Touch_1_1_L1 fu t0 t1_0 ((t0.1 : Nat) : Int) fu (0 : Int) hi hk

theorem fc_slices_IndexFunc_api_Region_region_Touch_1_1 (fu : Nat) (t0 : (Nat × (Nat → S_api_Region))) (t1_0 : S_api_Region) {r : Int} (h : F_slices_IndexFunc_api_Region_region_Touch_1_1 fu t0 t1_0 = some r) : FC Try.prog 55 [(D.lit t0.1 25 fun i => (S_api_Region.d (t0.2 i))), (D.fn 27 (D.cons (D.lptr (S_api_Region.d t1_0)) D.nil))] [] (D.int .i64 r) [] := by
  refine fc_of_runs (fn := Try.f55) (c := Try.f55.body.getD .skip) (by kernel_rfl) (by kernel_rfl) ?_
  refine runs_to (ts := [0, 1]) (T' := T_slices_IndexFunc_api_Region_region_Touch_1_1) (env' := [(0, (D.lit t0.1 25 fun i => (S_api_Region.d (t0.2 i)))), (1, (D.fn 27 (D.cons (D.lptr (S_api_Region.d t1_0)) D.nil)))]) (h2 := []) (by kernel_rfl) (by kernel_rfl) trivial (Nat.le_refl _) trivial (And.intro (fun _ _ => (S_api_Region.inn _)) (And.intro (And.intro (S_api_Region.inn _) trivial) trivial)) ?_
  exact run_slices_IndexFunc_api_Region_region_Touch_1_1 fu t0 t1_0 h rfl

def K_slices_ContainsFunc_api_Region_region_Touch_1_1 (d : D) (r : Bool) : Prop := d = (D.bool r)

noncomputable def T_slices_ContainsFunc_api_Region_region_Touch_1_1 : List Item := norm 200 [.code (Try.f25.body.getD .skip)]

/-- slices.ContainsFunc[[]podesta/api.Region,podesta/api.Region] -/
def F_slices_ContainsFunc_api_Region_region_Touch_1_1 (fu : Nat) (t0 : (Nat × (Nat → S_api_Region))) (t1_0 : S_api_Region) : Option Bool :=
  (F_slices_IndexFunc_api_Region_region_Touch_1_1 fu t0 t1_0).bind fun r0 =>
  some (decide (r0 ≥ (0 : Int)))

theorem run_slices_ContainsFunc_api_Region_region_Touch_1_1 (fu : Nat) (t0 : (Nat × (Nat → S_api_Region))) (t1_0 : S_api_Region) {d : D} {r : Bool} (h : F_slices_ContainsFunc_api_Region_region_Touch_1_1 fu t0 t1_0 = some r) (hk : (K_slices_ContainsFunc_api_Region_region_Touch_1_1 d) r) : Runs Try.prog Try.f25 0 T_slices_ContainsFunc_api_Region_region_Touch_1_1 [(0, (D.lit t0.1 25 fun i => (S_api_Region.d (t0.2 i)))), (1, (D.fn 27 (D.cons (D.lptr (S_api_Region.d t1_0)) D.nil)))] [] d [] := by
  unfold F_slices_ContainsFunc_api_Region_region_Touch_1_1 at h
  obtain ⟨r0, cr0, h⟩ := Option.bind_eq_some_iff.1 h
  refine runs_regions 2 [([], [0, 1]), ([(.d (D.int .i64 r0))], [4])] (z := ([FC Try.prog 55 [(D.lit t0.1 25 fun i => (S_api_Region.d (t0.2 i))), (D.fn 27 (D.cons (D.lptr (S_api_Region.d t1_0)) D.nil))] [] (D.int .i64 r0) [], All (List.map NoRow [(D.lit t0.1 25 fun i => (S_api_Region.d (t0.2 i))), (D.fn 27 (D.cons (D.lptr (S_api_Region.d t1_0)) D.nil))])], [(4, (D.bool (decide (r0 ≥ (0 : Int)))))], [])) rfl (by kernel_rfl) (And.intro (fc_slices_IndexFunc_api_Region_region_Touch_1_1 fu t0 t1_0 cr0) (And.intro (And.intro (fun _ _ => (S_api_Region.inn _)) (And.intro (And.intro (S_api_Region.inn _) trivial) trivial)) trivial)) ?_
  rw [← Option.some.inj h] at hk
  obtain rfl : d = (D.bool (decide (r0 ≥ (0 : Int)))) := hk
  exact runs_ret (by kernel_rfl) trivial (Nat.le_refl 0) trivial trivial

theorem fc_slices_ContainsFunc_api_Region_region_Touch_1_1 (fu : Nat) (t0 : (Nat × (Nat → S_api_Region))) (t1_0 : S_api_Region) {r : Bool} (h : F_slices_ContainsFunc_api_Region_region_Touch_1_1 fu t0 t1_0 = some r) : FC Try.prog 25 [(D.lit t0.1 25 fun i => (S_api_Region.d (t0.2 i))), (D.fn 27 (D.cons (D.lptr (S_api_Region.d t1_0)) D.nil))] [] (D.bool r) [] := by
  refine fc_of_runs (fn := Try.f25) (c := Try.f25.body.getD .skip) (by kernel_rfl) (by kernel_rfl) ?_
  refine runs_to (ts := [0, 1]) (T' := T_slices_ContainsFunc_api_Region_region_Touch_1_1) (env' := [(0, (D.lit t0.1 25 fun i => (S_api_Region.d (t0.2 i)))), (1, (D.fn 27 (D.cons (D.lptr (S_api_Region.d t1_0)) D.nil)))]) (h2 := []) (by kernel_rfl) (by kernel_rfl) trivial (Nat.le_refl _) trivial (And.intro (fun _ _ => (S_api_Region.inn _)) (And.intro (And.intro (S_api_Region.inn _) trivial) trivial)) ?_
  exact run_slices_ContainsFunc_api_Region_region_Touch_1_1 fu t0 t1_0 h rfl

def K_region_Touch_1 (d : D) (r : Bool) : Prop := d = (D.bool r)

noncomputable def T_region_Touch_1 : List Item := norm 200 [.code (Try.f26.body.getD .skip)]

/-- podesta/region.Touch 1 -/
def F_region_Touch_1 (fu : Nat) (t0 : S_api_Region) (t1 : (Nat × (Nat → S_api_Region))) : Option Bool :=
  (F_slices_ContainsFunc_api_Region_region_Touch_1_1 fu t1 t0).bind fun r0 =>
  some r0

theorem run_region_Touch_1 (fu : Nat) (t0 : S_api_Region) (t1 : (Nat × (Nat → S_api_Region))) {d : D} {r : Bool} (h : F_region_Touch_1 fu t0 t1 = some r) (hk : (K_region_Touch_1 d) r) : Runs Try.prog Try.f26 0 T_region_Touch_1 [(0, (S_api_Region.d t0)), (1, (D.lptr (D.lit t1.1 25 fun i => (S_api_Region.d (t1.2 i)))))] [] d [] := by
  unfold F_region_Touch_1 at h
  refine runs_regions 1 [([], [1, 2])] (z := ([], [(1, (D.lptr (D.lit t1.1 25 fun i => (S_api_Region.d (t1.2 i))))), (2, (D.ptr 0 []))], [some (.box (S_api_Region.d t0))])) rfl (by kernel_rfl) trivial ?_
  refine runs_freeze 0 (row := (.box (S_api_Region.d t0))) rfl ?_
  obtain ⟨r0, cr0, h⟩ := Option.bind_eq_some_iff.1 h
  refine runs_regions 1 [([(.d (D.bool r0))], [3])] (z := ([FC Try.prog 25 [(D.lit t1.1 25 fun i => (S_api_Region.d (t1.2 i))), (D.fn 27 (D.cons (D.lptr (S_api_Region.d t0)) D.nil))] [] (D.bool r0) [], All (List.map NoRow [(D.lit t1.1 25 fun i => (S_api_Region.d (t1.2 i))), (D.fn 27 (D.cons (D.lptr (S_api_Region.d t0)) D.nil))])], [(3, (D.bool r0))], [none])) rfl (by kernel_rfl) (And.intro (fc_slices_ContainsFunc_api_Region_region_Touch_1_1 fu t1 t0 cr0) (And.intro (And.intro (fun _ _ => (S_api_Region.inn _)) (And.intro (And.intro (S_api_Region.inn _) trivial) trivial)) trivial)) ?_
  rw [← Option.some.inj h] at hk
  obtain rfl : d = (D.bool r0) := hk
  exact runs_ret (by kernel_rfl) trivial (Nat.le_refl 0) trivial trivial

theorem fc_region_Touch_1 (fu : Nat) (t0 : S_api_Region) (t1 : (Nat × (Nat → S_api_Region))) {r : Bool} (h : F_region_Touch_1 fu t0 t1 = some r) : FC Try.prog 26 [(S_api_Region.d t0), (D.lptr (D.lit t1.1 25 fun i => (S_api_Region.d (t1.2 i))))] [] (D.bool r) [] := by
  refine fc_of_runs (fn := Try.f26) (c := Try.f26.body.getD .skip) (by kernel_rfl) (by kernel_rfl) ?_
  refine runs_to (ts := [0, 1]) (T' := T_region_Touch_1) (env' := [(0, (S_api_Region.d t0)), (1, (D.lptr (D.lit t1.1 25 fun i => (S_api_Region.d (t1.2 i)))))]) (h2 := []) (by kernel_rfl) (by kernel_rfl) trivial (Nat.le_refl _) trivial (And.intro (S_api_Region.inn _) (And.intro (fun _ _ => (S_api_Region.inn _)) trivial)) ?_
  exact run_region_Touch_1 fu t0 t1 h rfl

def K_slices_IndexFunc_api_Region_region_Touch_1 (d : D) (r : Int) : Prop := d = (D.int .i64 r)

noncomputable def T_slices_IndexFunc_api_Region_region_Touch_1 : List Item := norm 200 [.code (Try.f55.body.getD .skip)]

noncomputable def T_slices_IndexFunc_api_Region_region_Touch_1_L1 : List Item := norm 200 (nxt (nxt T_slices_IndexFunc_api_Region_region_Touch_1))

noncomputable def X_slices_IndexFunc_api_Region_region_Touch_1_L1T : List Item := norm 200 (cndF (nxt (nxt (nxt T_slices_IndexFunc_api_Region_region_Touch_1))))

abbrev E_slices_IndexFunc_api_Region_region_Touch_1_L1 := Unit

def N_slices_IndexFunc_api_Region_region_Touch_1_L1 (_fu : Nat) (t0 : (Nat × (Nat → S_api_Region))) (t1_0 : (Nat × (Nat → S_api_Region))) (t7 : Int) (d : D) (s : Int) : Prop := Runs Try.prog Try.f55 0 T_slices_IndexFunc_api_Region_region_Touch_1_L1 [(0, (D.lit t0.1 25 fun i => (S_api_Region.d (t0.2 i)))), (1, (D.fn 26 (D.cons (D.lptr (D.lit t1_0.1 25 fun i => (S_api_Region.d (t1_0.2 i)))) D.nil))), (7, (D.int .i64 t7)), (8, (D.int .i64 s))] [] d []

def X_slices_IndexFunc_api_Region_region_Touch_1_L1 (_fu : Nat) (_t0 : (Nat × (Nat → S_api_Region))) (_t1_0 : (Nat × (Nat → S_api_Region))) (_t7 : Int) (d : D) : E_slices_IndexFunc_api_Region_region_Touch_1_L1 ⊕ Int → Prop
  | .inl _ => Runs Try.prog Try.f55 0 X_slices_IndexFunc_api_Region_region_Touch_1_L1T [] [] d []
  | .inr o => (K_slices_IndexFunc_api_Region_region_Touch_1 d) o

def F_slices_IndexFunc_api_Region_region_Touch_1_L1 (fu : Nat) (t0 : (Nat × (Nat → S_api_Region))) (t1_0 : (Nat × (Nat → S_api_Region))) (t7 : Int) (t8 : Int) : Option (Lo Int E_slices_IndexFunc_api_Region_region_Touch_1_L1 Int) :=
  ifs (decide (t8 < t7)) (
    chk (0 ≤ t8 ∧ t8 < ((t0.1 : Nat) : Int)) <|
    (F_region_Touch_1 fu (t0.2 t8.toNat) t1_0).bind fun r0 =>
    ifs r0 (
      some (.ret t8)) (
      some (.next (IntKind.wrap .i64 (t8 + (1 : Int)))))) (
    some (.exit ()))

theorem run_slices_IndexFunc_api_Region_region_Touch_1_L1 (fu : Nat) (t0 : (Nat × (Nat → S_api_Region))) (t1_0 : (Nat × (Nat → S_api_Region))) (t7 : Int) (t8 : Int) {d : D} {o : (Lo Int E_slices_IndexFunc_api_Region_region_Touch_1_L1 Int)} (h : F_slices_IndexFunc_api_Region_region_Touch_1_L1 fu t0 t1_0 t7 t8 = some o) (hk : (Lo.post (N_slices_IndexFunc_api_Region_region_Touch_1_L1 fu t0 t1_0 t7 d) (X_slices_IndexFunc_api_Region_region_Touch_1_L1 fu t0 t1_0 t7 d)) o) : Runs Try.prog Try.f55 0 T_slices_IndexFunc_api_Region_region_Touch_1_L1 [(0, (D.lit t0.1 25 fun i => (S_api_Region.d (t0.2 i)))), (1, (D.fn 26 (D.cons (D.lptr (D.lit t1_0.1 25 fun i => (S_api_Region.d (t1_0.2 i)))) D.nil))), (7, (D.int .i64 t7)), (8, (D.int .i64 t8))] [] d [] := by
  unfold F_slices_IndexFunc_api_Region_region_Touch_1_L1 at h
  refine runs_regions 1 [([], [0, 1, 7, 8, 9])] (z := ([], [(0, (D.lit t0.1 25 fun i => (S_api_Region.d (t0.2 i)))), (1, (D.fn 26 (D.cons (D.lptr (D.lit t1_0.1 25 fun i => (S_api_Region.d (t1_0.2 i)))) D.nil))), (7, (D.int .i64 t7)), (8, (D.int .i64 t8)), (9, (D.bool (decide (t8 < t7))))], [])) rfl (by kernel_rfl) trivial ?_
  refine runs_if (b := (decide (t8 < t7))) (by kernel_rfl) (fun hb => ?_) (fun hb => ?_)
  · replace h := ifs_true h hb
    obtain ⟨p0, h⟩ := chk_some h
    obtain ⟨r0, cr0, h⟩ := Option.bind_eq_some_iff.1 h
    refine runs_regions 2 [([], [0, 1, 5, 7, 8]), ([(.d (D.bool r0))], [0, 1, 5, 7, 8, 16])] (z := ([(0 ≤ t8 ∧ t8 < ((t0.1 : Nat) : Int)), FC Try.prog 26 [(S_api_Region.d (t0.2 t8.toNat)), (D.lptr (D.lit t1_0.1 25 fun i => (S_api_Region.d (t1_0.2 i))))] [] (D.bool r0) [], All (List.map NoRow [(S_api_Region.d (t0.2 t8.toNat)), (D.lptr (D.lit t1_0.1 25 fun i => (S_api_Region.d (t1_0.2 i))))])], [(0, (D.lit t0.1 25 fun i => (S_api_Region.d (t0.2 i)))), (1, (D.fn 26 (D.cons (D.lptr (D.lit t1_0.1 25 fun i => (S_api_Region.d (t1_0.2 i)))) D.nil))), (5, (D.int .i64 t8)), (7, (D.int .i64 t7)), (8, (D.int .i64 t8)), (16, (D.bool r0))], [])) rfl (by kernel_rfl) (And.intro p0 (And.intro (fc_region_Touch_1 fu (t0.2 t8.toNat) t1_0 cr0) (And.intro (And.intro (S_api_Region.inn _) (And.intro (fun _ _ => (S_api_Region.inn _)) trivial)) trivial))) ?_
    refine runs_if (b := r0) (by kernel_rfl) (fun hb => ?_) (fun hb => ?_)
    · replace h := ifs_true h hb
      refine runs_regions 1 [([], [4])] (z := ([], [(4, (D.int .i64 t8))], [])) rfl (by kernel_rfl) trivial ?_
      rw [← Option.some.inj h] at hk
      obtain rfl : d = (D.int .i64 t8) := hk
      exact runs_ret (by kernel_rfl) trivial (Nat.le_refl 0) trivial trivial
    · replace h := ifs_false h hb
      refine runs_regions 1 [([], [0, 1, 7, 8])] (z := ([], [(0, (D.lit t0.1 25 fun i => (S_api_Region.d (t0.2 i)))), (1, (D.fn 26 (D.cons (D.lptr (D.lit t1_0.1 25 fun i => (S_api_Region.d (t1_0.2 i)))) D.nil))), (7, (D.int .i64 t7)), (8, (D.int .i64 (IntKind.wrap .i64 (t8 + (1 : Int)))))], [])) rfl (by kernel_rfl) trivial ?_
      rw [← Option.some.inj h] at hk
      refine runs_to (ts := [0, 1, 7, 8]) (T' := T_slices_IndexFunc_api_Region_region_Touch_1_L1) (env' := [(0, (D.lit t0.1 25 fun i => (S_api_Region.d (t0.2 i)))), (1, (D.fn 26 (D.cons (D.lptr (D.lit t1_0.1 25 fun i => (S_api_Region.d (t1_0.2 i)))) D.nil))), (7, (D.int .i64 t7)), (8, (D.int .i64 (IntKind.wrap .i64 (t8 + (1 : Int)))))]) (h2 := []) (by kernel_rfl) (by kernel_rfl) trivial (Nat.zero_le _) trivial (And.intro (fun _ _ => (S_api_Region.inn _)) (And.intro (And.intro (fun _ _ => (S_api_Region.inn _)) trivial) (And.intro trivial (And.intro trivial trivial)))) ?_
      exact hk
  · replace h := ifs_false h hb
    rw [← Option.some.inj h] at hk
    refine runs_to (ts := []) (T' := X_slices_IndexFunc_api_Region_region_Touch_1_L1T) (env' := []) (h2 := []) (by kernel_rfl) (by kernel_rfl) trivial (Nat.zero_le _) trivial trivial ?_
    exact hk

theorem iter_slices_IndexFunc_api_Region_region_Touch_1_L1 (fu : Nat) (t0 : (Nat × (Nat → S_api_Region))) (t1_0 : (Nat × (Nat → S_api_Region))) (t7 : Int) {d : D} (k : Nat) (s : Int) {o : E_slices_IndexFunc_api_Region_region_Touch_1_L1 ⊕ Int} (h : iter (fun s => F_slices_IndexFunc_api_Region_region_Touch_1_L1 fu t0 t1_0 t7 s) k s = some o) (hx : X_slices_IndexFunc_api_Region_region_Touch_1_L1 fu t0 t1_0 t7 d o) : N_slices_IndexFunc_api_Region_region_Touch_1_L1 fu t0 t1_0 t7 d s :=
  iter_post (K := N_slices_IndexFunc_api_Region_region_Touch_1_L1 fu t0 t1_0 t7 d) (X := X_slices_IndexFunc_api_Region_region_Touch_1_L1 fu t0 t1_0 t7 d) (fun s _ h hk => run_slices_IndexFunc_api_Region_region_Touch_1_L1 fu t0 t1_0 t7 s h hk) k s o h hx

/-- slices.IndexFunc[[]podesta/api.Region,podesta/api.Region] -/
def F_slices_IndexFunc_api_Region_region_Touch_1 (fu : Nat) (t0 : (Nat × (Nat → S_api_Region))) (t1_0 : (Nat × (Nat → S_api_Region))) : Option Int :=
  after (iter (fun s => F_slices_IndexFunc_api_Region_region_Touch_1_L1 fu t0 t1_0 ((t0.1 : Nat) : Int) s) fu (0 : Int)) fun _ =>
  some (-1 : Int)

theorem run_slices_IndexFunc_api_Region_region_Touch_1 (fu : Nat) (t0 : (Nat × (Nat → S_api_Region))) (t1_0 : (Nat × (Nat → S_api_Region))) {d : D} {r : Int} (h : F_slices_IndexFunc_api_Region_region_Touch_1 fu t0 t1_0 = some r) (hk : (K_slices_IndexFunc_api_Region_region_Touch_1 d) r) : Runs Try.prog Try.f55 0 T_slices_IndexFunc_api_Region_region_Touch_1 [(0, (D.lit t0.1 25 fun i => (S_api_Region.d (t0.2 i)))), (1, (D.fn 26 (D.cons (D.lptr (D.lit t1_0.1 25 fun i => (S_api_Region.d (t1_0.2 i)))) D.nil)))] [] d [] := by
  unfold F_slices_IndexFunc_api_Region_region_Touch_1 at h
  refine runs_regions 2 [([], [0, 1]), ([], [0, 1, 7, 8])] (z := ([], [(0, (D.lit t0.1 25 fun i => (S_api_Region.d (t0.2 i)))), (1, (D.fn 26 (D.cons (D.lptr (D.lit t1_0.1 25 fun i => (S_api_Region.d (t1_0.2 i)))) D.nil))), (7, (D.int .i64 ((t0.1 : Nat) : Int))), (8, (D.int .i64 (0 : Int)))], [])) rfl (by kernel_rfl) trivial ?_
  refine runs_to (ts := [0, 1, 7, 8]) (T' := T_slices_IndexFunc_api_Region_region_Touch_1_L1) (env' := [(0, (D.lit t0.1 25 fun i => (S_api_Region.d (t0.2 i)))), (1, (D.fn 26 (D.cons (D.lptr (D.lit t1_0.1 25 fun i => (S_api_Region.d (t1_0.2 i)))) D.nil))), (7, (D.int .i64 ((t0.1 : Nat) : Int))), (8, (D.int .i64 (0 : Int)))]) (h2 := []) (by kernel_rfl) (by kernel_rfl) trivial (Nat.zero_le _) trivial (And.intro (fun _ _ => (S_api_Region.inn _)) (And.intro (And.intro (fun _ _ => (S_api_Region.inn _)) trivial) (And.intro trivial (And.intro trivial trivial)))) ?_
  rcases after_some h with ⟨e2, hi, h⟩ | hi
  · refine iter_slices_IndexFunc_api_Region_region_Touch_1_L1 fu t0 t1_0 ((t0.1 : Nat) : Int) fu (0 : Int) hi ?_
    show Runs Try.prog Try.f55 0 X_slices_IndexFunc_api_Region_region_Touch_1_L1T [] [] d []
    refine runs_regions 1 [([], [4])] (z := ([], [(4, (D.int .i64 (-1 : Int)))], [])) rfl (by kernel_rfl) trivial ?_
    rw [← Option.some.inj h] at hk
    obtain rfl : d = (D.int .i64 (-1 : Int)) := hk
    exact runs_ret (by kernel_rfl) trivial (Nat.le_refl 0) trivial trivial
  · exact iter_slices_IndexFunc_api_Region_region_Touch_1_L1 fu t0 t1_0 ((t0.1 : Nat) : Int) fu (0 : Int) hi hk

theorem fc_slices_IndexFunc_api_Region_region_Touch_1 (fu : Nat) (t0 : (Nat × (Nat → S_api_Region))) (t1_0 : (Nat × (Nat → S_api_Region))) {r : Int} (h : F_slices_IndexFunc_api_Region_region_Touch_1 fu t0 t1_0 = some r) : FC Try.prog 55 [(D.lit t0.1 25 fun i => (S_api_Region.d (t0.2 i))), (D.fn 26 (D.cons (D.lptr (D.lit t1_0.1 25 fun i => (S_api_Region.d (t1_0.2 i)))) D.nil))] [] (D.int .i64 r) [] := by
  refine fc_of_runs (fn := Try.f55) (c := Try.f55.body.getD .skip) (by kernel_rfl) (by kernel_rfl) ?_
  refine runs_to (ts := [0, 1]) (T' := T_slices_IndexFunc_api_Region_region_Touch_1) (env' := [(0, (D.lit t0.1 25 fun i => (S_api_Region.d (t0.2 i)))), (1, (D.fn 26 (D.cons (D.lptr (D.lit t1_0.1 25 fun i => (S_api_Region.d (t1_0.2 i)))) D.nil)))]) (h2 := []) (by kernel_rfl) (by kernel_rfl) trivial (Nat.le_refl _) trivial (And.intro (fun _ _ => (S_api_Region.inn _)) (And.intro (And.intro (fun _ _ => (S_api_Region.inn _)) trivial) trivial)) ?_
  exact run_slices_IndexFunc_api_Region_region_Touch_1 fu t0 t1_0 h rfl

def K_slices_ContainsFunc_api_Region_region_Touch_1 (d : D) (r : Bool) : Prop := d = (D.bool r)

noncomputable def T_slices_ContainsFunc_api_Region_region_Touch_1 : List Item := norm 200 [.code (Try.f25.body.getD .skip)]

/-- slices.ContainsFunc[[]podesta/api.Region,podesta/api.Region] -/
def F_slices_ContainsFunc_api_Region_region_Touch_1 (fu : Nat) (t0 : (Nat × (Nat → S_api_Region))) (t1_0 : (Nat × (Nat → S_api_Region))) : Option Bool :=
  (F_slices_IndexFunc_api_Region_region_Touch_1 fu t0 t1_0).bind fun r0 =>
  some (decide (r0 ≥ (0 : Int)))

theorem run_slices_ContainsFunc_api_Region_region_Touch_1 (fu : Nat) (t0 : (Nat × (Nat → S_api_Region))) (t1_0 : (Nat × (Nat → S_api_Region))) {d : D} {r : Bool} (h : F_slices_ContainsFunc_api_Region_region_Touch_1 fu t0 t1_0 = some r) (hk : (K_slices_ContainsFunc_api_Region_region_Touch_1 d) r) : Runs Try.prog Try.f25 0 T_slices_ContainsFunc_api_Region_region_Touch_1 [(0, (D.lit t0.1 25 fun i => (S_api_Region.d (t0.2 i)))), (1, (D.fn 26 (D.cons (D.lptr (D.lit t1_0.1 25 fun i => (S_api_Region.d (t1_0.2 i)))) D.nil)))] [] d [] := by
  unfold F_slices_ContainsFunc_api_Region_region_Touch_1 at h
  obtain ⟨r0, cr0, h⟩ := Option.bind_eq_some_iff.1 h
  refine runs_regions 2 [([], [0, 1]), ([(.d (D.int .i64 r0))], [4])] (z := ([FC Try.prog 55 [(D.lit t0.1 25 fun i => (S_api_Region.d (t0.2 i))), (D.fn 26 (D.cons (D.lptr (D.lit t1_0.1 25 fun i => (S_api_Region.d (t1_0.2 i)))) D.nil))] [] (D.int .i64 r0) [], All (List.map NoRow [(D.lit t0.1 25 fun i => (S_api_Region.d (t0.2 i))), (D.fn 26 (D.cons (D.lptr (D.lit t1_0.1 25 fun i => (S_api_Region.d (t1_0.2 i)))) D.nil))])], [(4, (D.bool (decide (r0 ≥ (0 : Int)))))], [])) rfl (by kernel_rfl) (And.intro (fc_slices_IndexFunc_api_Region_region_Touch_1 fu t0 t1_0 cr0) (And.intro (And.intro (fun _ _ => (S_api_Region.inn _)) (And.intro (And.intro (fun _ _ => (S_api_Region.inn _)) trivial) trivial)) trivial)) ?_
  rw [← Option.some.inj h] at hk
  obtain rfl : d = (D.bool (decide (r0 ≥ (0 : Int)))) := hk
  exact runs_ret (by kernel_rfl) trivial (Nat.le_refl 0) trivial trivial

theorem fc_slices_ContainsFunc_api_Region_region_Touch_1 (fu : Nat) (t0 : (Nat × (Nat → S_api_Region))) (t1_0 : (Nat × (Nat → S_api_Region))) {r : Bool} (h : F_slices_ContainsFunc_api_Region_region_Touch_1 fu t0 t1_0 = some r) : FC Try.prog 25 [(D.lit t0.1 25 fun i => (S_api_Region.d (t0.2 i))), (D.fn 26 (D.cons (D.lptr (D.lit t1_0.1 25 fun i => (S_api_Region.d (t1_0.2 i)))) D.nil))] [] (D.bool r) [] := by
  refine fc_of_runs (fn := Try.f25) (c := Try.f25.body.getD .skip) (by kernel_rfl) (by kernel_rfl) ?_
  refine runs_to (ts := [0, 1]) (T' := T_slices_ContainsFunc_api_Region_region_Touch_1) (env' := [(0, (D.lit t0.1 25 fun i => (S_api_Region.d (t0.2 i)))), (1, (D.fn 26 (D.cons (D.lptr (D.lit t1_0.1 25 fun i => (S_api_Region.d (t1_0.2 i)))) D.nil)))]) (h2 := []) (by kernel_rfl) (by kernel_rfl) trivial (Nat.le_refl _) trivial (And.intro (fun _ _ => (S_api_Region.inn _)) (And.intro (And.intro (fun _ _ => (S_api_Region.inn _)) trivial) trivial)) ?_
  exact run_slices_ContainsFunc_api_Region_region_Touch_1 fu t0 t1_0 h rfl

def K_region_Touch (d : D) (r : Bool) : Prop := d = (D.bool r)

noncomputable def T_region_Touch : List Item := norm 200 [.code (Try.f8.body.getD .skip)]

/-- podesta/region.Touch -/
def F_region_Touch (fu : Nat) (t0 : (Nat × (Nat → S_api_Region))) (t1 : (Nat × (Nat → S_api_Region))) : Option Bool :=
  (F_slices_ContainsFunc_api_Region_region_Touch_1 fu t0 t1).bind fun r0 =>
  some r0

theorem run_region_Touch (fu : Nat) (t0 : (Nat × (Nat → S_api_Region))) (t1 : (Nat × (Nat → S_api_Region))) {d : D} {r : Bool} (h : F_region_Touch fu t0 t1 = some r) (hk : (K_region_Touch d) r) : Runs Try.prog Try.f8 0 T_region_Touch [(0, (D.lit t0.1 25 fun i => (S_api_Region.d (t0.2 i)))), (1, (D.lit t1.1 25 fun i => (S_api_Region.d (t1.2 i))))] [] d [] := by
  unfold F_region_Touch at h
  refine runs_regions 1 [([], [0, 3])] (z := ([], [(0, (D.lit t0.1 25 fun i => (S_api_Region.d (t0.2 i)))), (3, (D.ptr 0 []))], [some (.box (D.lit t1.1 25 fun i => (S_api_Region.d (t1.2 i))))])) rfl (by kernel_rfl) trivial ?_
  refine runs_freeze 0 (row := (.box (D.lit t1.1 25 fun i => (S_api_Region.d (t1.2 i))))) rfl ?_
  obtain ⟨r0, cr0, h⟩ := Option.bind_eq_some_iff.1 h
  refine runs_regions 1 [([(.d (D.bool r0))], [4])] (z := ([FC Try.prog 25 [(D.lit t0.1 25 fun i => (S_api_Region.d (t0.2 i))), (D.fn 26 (D.cons (D.lptr (D.lit t1.1 25 fun i => (S_api_Region.d (t1.2 i)))) D.nil))] [] (D.bool r0) [], All (List.map NoRow [(D.lit t0.1 25 fun i => (S_api_Region.d (t0.2 i))), (D.fn 26 (D.cons (D.lptr (D.lit t1.1 25 fun i => (S_api_Region.d (t1.2 i)))) D.nil))])], [(4, (D.bool r0))], [none])) rfl (by kernel_rfl) (And.intro (fc_slices_ContainsFunc_api_Region_region_Touch_1 fu t0 t1 cr0) (And.intro (And.intro (fun _ _ => (S_api_Region.inn _)) (And.intro (And.intro (fun _ _ => (S_api_Region.inn _)) trivial) trivial)) trivial)) ?_
  rw [← Option.some.inj h] at hk
  obtain rfl : d = (D.bool r0) := hk
  exact runs_ret (by kernel_rfl) trivial (Nat.le_refl 0) trivial trivial

theorem fc_region_Touch (fu : Nat) (t0 : (Nat × (Nat → S_api_Region))) (t1 : (Nat × (Nat → S_api_Region))) {r : Bool} (h : F_region_Touch fu t0 t1 = some r) : FC Try.prog 8 [(D.lit t0.1 25 fun i => (S_api_Region.d (t0.2 i))), (D.lit t1.1 25 fun i => (S_api_Region.d (t1.2 i)))] [] (D.bool r) [] := by
  refine fc_of_runs (fn := Try.f8) (c := Try.f8.body.getD .skip) (by kernel_rfl) (by kernel_rfl) ?_
  refine runs_to (ts := [0, 1]) (T' := T_region_Touch) (env' := [(0, (D.lit t0.1 25 fun i => (S_api_Region.d (t0.2 i)))), (1, (D.lit t1.1 25 fun i => (S_api_Region.d (t1.2 i))))]) (h2 := []) (by kernel_rfl) (by kernel_rfl) trivial (Nat.le_refl _) trivial (And.intro (fun _ _ => (S_api_Region.inn _)) (And.intro (fun _ _ => (S_api_Region.inn _)) trivial)) ?_
  exact run_region_Touch fu t0 t1 h rfl

def K_law19_answers (d : D) (r : Bool) : Prop := d = (D.bool r)

noncomputable def T_law19_answers : List Item := norm 200 [.code (Try.f6.body.getD .skip)]

/-- podesta/podestalaw19.answers -/
def F_law19_answers (fu : Nat) : Option Bool :=
  (F_region_Of fu (3, (fun i => ([(S_api_Change.mk (2 : Int) (S_api_Mod.mk (0 : Int) (S_api_Cube.mk (fun _ => 0) (fun _ => 0)) (0 : Int) (0, fun _ => S_api_Act.z) (0 : Int) (0 : Int) (0 : Int) false)), (S_api_Change.mk (1 : Int) (S_api_Mod.mk (0 : Int) (S_api_Cube.mk (fun _ => 0) (fun _ => 0)) (0 : Int) (0, fun _ => S_api_Act.z) (0 : Int) (0 : Int) (0 : Int) false)), (S_api_Change.mk (2 : Int) (S_api_Mod.mk (0 : Int) (S_api_Cube.mk (fun _ => 0) (fun _ => 0)) (0 : Int) (0, fun _ => S_api_Act.z) (0 : Int) (0 : Int) (0 : Int) false))] : List S_api_Change).getD i S_api_Change.z))).bind fun r0 =>
  chk ((((r0.1 : Nat) : Int) == (2 : Int)) = true → (0 ≤ (0 : Int) ∧ (0 : Int) < ((r0.1 : Nat) : Int))) <|
  (callIf (bif (((r0.1 : Nat) : Int) == (2 : Int)) then ((r0.2 (0 : Int).toNat).f0 == (1 : Int)) else false) (F_region_Touch fu r0 r0) false).bind fun r1 =>
  some (bif (bif (((r0.1 : Nat) : Int) == (2 : Int)) then ((r0.2 (0 : Int).toNat).f0 == (1 : Int)) else false) then r1 else false)

theorem run_law19_answers (fu : Nat) {d : D} {r : Bool} (h : F_law19_answers fu = some r) (hk : (K_law19_answers d) r) : Runs Try.prog Try.f6 0 T_law19_answers [] [] d [] := by
  unfold F_law19_answers at h
  obtain ⟨r0, cr0, h⟩ := Option.bind_eq_some_iff.1 h
  obtain ⟨p0, h⟩ := chk_some h
  obtain ⟨r1, cr1, h⟩ := Option.bind_eq_some_iff.1 h
  refine runs_regions 3 [([], []), ([(.lit fun i => (S_api_Change.d ((fun i => ([(S_api_Change.mk (2 : Int) (S_api_Mod.mk (0 : Int) (S_api_Cube.mk (fun _ => 0) (fun _ => 0)) (0 : Int) (0, fun _ => S_api_Act.z) (0 : Int) (0 : Int) (0 : Int) false)), (S_api_Change.mk (1 : Int) (S_api_Mod.mk (0 : Int) (S_api_Cube.mk (fun _ => 0) (fun _ => 0)) (0 : Int) (0, fun _ => S_api_Act.z) (0 : Int) (0 : Int) (0 : Int) false)), (S_api_Change.mk (2 : Int) (S_api_Mod.mk (0 : Int) (S_api_Cube.mk (fun _ => 0) (fun _ => 0)) (0 : Int) (0, fun _ => S_api_Act.z) (0 : Int) (0 : Int) (0 : Int) false))] : List S_api_Change).getD i S_api_Change.z) i))), (.d (D.lit r0.1 25 fun i => (S_api_Region.d (r0.2 i))))], [1]), ([(.d (D.bool r1))], [0])] (z := ([TabOk [(D.cons (D.int .i64 (2 : Int)) (D.cons (D.cons (D.int .i64 (0 : Int)) (D.cons (D.cons (D.ints .u64 12 (fun _ => 0)) (D.cons (D.ints .u64 12 (fun _ => 0)) D.nil)) (D.cons (D.int .i64 (0 : Int)) (D.cons D.nils (D.cons (D.int .i64 (0 : Int)) (D.cons (D.int .i64 (0 : Int)) (D.cons (D.int .i64 (0 : Int)) (D.cons (D.bool false) D.nil)))))))) D.nil)), (D.cons (D.int .i64 (1 : Int)) (D.cons (D.cons (D.int .i64 (0 : Int)) (D.cons (D.cons (D.ints .u64 12 (fun _ => 0)) (D.cons (D.ints .u64 12 (fun _ => 0)) D.nil)) (D.cons (D.int .i64 (0 : Int)) (D.cons D.nils (D.cons (D.int .i64 (0 : Int)) (D.cons (D.int .i64 (0 : Int)) (D.cons (D.int .i64 (0 : Int)) (D.cons (D.bool false) D.nil)))))))) D.nil)), (D.cons (D.int .i64 (2 : Int)) (D.cons (D.cons (D.int .i64 (0 : Int)) (D.cons (D.cons (D.ints .u64 12 (fun _ => 0)) (D.cons (D.ints .u64 12 (fun _ => 0)) D.nil)) (D.cons (D.int .i64 (0 : Int)) (D.cons D.nils (D.cons (D.int .i64 (0 : Int)) (D.cons (D.int .i64 (0 : Int)) (D.cons (D.int .i64 (0 : Int)) (D.cons (D.bool false) D.nil)))))))) D.nil))] 32 (D.arr 3 32 fun i1 => (S_api_Change.d ((fun i => ([(S_api_Change.mk (2 : Int) (S_api_Mod.mk (0 : Int) (S_api_Cube.mk (fun _ => 0) (fun _ => 0)) (0 : Int) (0, fun _ => S_api_Act.z) (0 : Int) (0 : Int) (0 : Int) false)), (S_api_Change.mk (1 : Int) (S_api_Mod.mk (0 : Int) (S_api_Cube.mk (fun _ => 0) (fun _ => 0)) (0 : Int) (0, fun _ => S_api_Act.z) (0 : Int) (0 : Int) (0 : Int) false)), (S_api_Change.mk (2 : Int) (S_api_Mod.mk (0 : Int) (S_api_Cube.mk (fun _ => 0) (fun _ => 0)) (0 : Int) (0, fun _ => S_api_Act.z) (0 : Int) (0 : Int) (0 : Int) false))] : List S_api_Change).getD i S_api_Change.z) i1))), FC Try.prog 10 [(D.lit 3 32 fun i1 => (S_api_Change.d ((fun i => ([(S_api_Change.mk (2 : Int) (S_api_Mod.mk (0 : Int) (S_api_Cube.mk (fun _ => 0) (fun _ => 0)) (0 : Int) (0, fun _ => S_api_Act.z) (0 : Int) (0 : Int) (0 : Int) false)), (S_api_Change.mk (1 : Int) (S_api_Mod.mk (0 : Int) (S_api_Cube.mk (fun _ => 0) (fun _ => 0)) (0 : Int) (0, fun _ => S_api_Act.z) (0 : Int) (0 : Int) (0 : Int) false)), (S_api_Change.mk (2 : Int) (S_api_Mod.mk (0 : Int) (S_api_Cube.mk (fun _ => 0) (fun _ => 0)) (0 : Int) (0, fun _ => S_api_Act.z) (0 : Int) (0 : Int) (0 : Int) false))] : List S_api_Change).getD i S_api_Change.z) i1)))] [] (D.lit r0.1 25 fun i => (S_api_Region.d (r0.2 i))) [], All (List.map NoRow [(D.lit 3 32 fun i1 => (S_api_Change.d ((fun i => ([(S_api_Change.mk (2 : Int) (S_api_Mod.mk (0 : Int) (S_api_Cube.mk (fun _ => 0) (fun _ => 0)) (0 : Int) (0, fun _ => S_api_Act.z) (0 : Int) (0 : Int) (0 : Int) false)), (S_api_Change.mk (1 : Int) (S_api_Mod.mk (0 : Int) (S_api_Cube.mk (fun _ => 0) (fun _ => 0)) (0 : Int) (0, fun _ => S_api_Act.z) (0 : Int) (0 : Int) (0 : Int) false)), (S_api_Change.mk (2 : Int) (S_api_Mod.mk (0 : Int) (S_api_Cube.mk (fun _ => 0) (fun _ => 0)) (0 : Int) (0, fun _ => S_api_Act.z) (0 : Int) (0 : Int) (0 : Int) false))] : List S_api_Change).getD i S_api_Change.z) i1)))]), ((((r0.1 : Nat) : Int) == (2 : Int)) = true → All [((((r0.1 : Nat) : Int) == (2 : Int)) = true → (((r0.1 : Nat) : Int) == (2 : Int)) = true), (0 ≤ (0 : Int) ∧ (0 : Int) < ((r0.1 : Nat) : Int))]), ((((r0.1 : Nat) : Int) == (2 : Int)) = true → All [((((r0.1 : Nat) : Int) == (2 : Int)) = true → (((r0.1 : Nat) : Int) == (2 : Int)) = true)]), ((((r0.1 : Nat) : Int) == (2 : Int)) = true → All [((((r0.1 : Nat) : Int) == (2 : Int)) = true → (((r0.1 : Nat) : Int) == (2 : Int)) = true)]), ((((r0.1 : Nat) : Int) == (2 : Int)) = true → All [((((r0.1 : Nat) : Int) == (2 : Int)) = true → (((r0.1 : Nat) : Int) == (2 : Int)) = true)]), ((true && (((r0.1 : Nat) : Int) == (2 : Int))) = true → (((r0.1 : Nat) : Int) == (2 : Int)) = true), ((bif (((r0.1 : Nat) : Int) == (2 : Int)) then ((r0.2 (0 : Int).toNat).f0 == (1 : Int)) else false) = true → All [((bif (((r0.1 : Nat) : Int) == (2 : Int)) then ((r0.2 (0 : Int).toNat).f0 == (1 : Int)) else false) = true → (bif (((r0.1 : Nat) : Int) == (2 : Int)) then ((r0.2 (0 : Int).toNat).f0 == (1 : Int)) else false) = true), ((bif (((r0.1 : Nat) : Int) == (2 : Int)) then ((r0.2 (0 : Int).toNat).f0 == (1 : Int)) else false) = true → (bif (((r0.1 : Nat) : Int) == (2 : Int)) then ((r0.2 (0 : Int).toNat).f0 == (1 : Int)) else false) = true), FC Try.prog 8 [(D.lit r0.1 25 fun i => (S_api_Region.d (r0.2 i))), (D.lit r0.1 25 fun i => (S_api_Region.d (r0.2 i)))] [] (D.bool r1) [], All (List.map NoRow [(D.lit r0.1 25 fun i => (S_api_Region.d (r0.2 i))), (D.lit r0.1 25 fun i => (S_api_Region.d (r0.2 i)))])]), ((true && (bif (((r0.1 : Nat) : Int) == (2 : Int)) then ((r0.2 (0 : Int).toNat).f0 == (1 : Int)) else false)) = true → (bif (((r0.1 : Nat) : Int) == (2 : Int)) then ((r0.2 (0 : Int).toNat).f0 == (1 : Int)) else false) = true)], [(0, (D.bool (bif (bif (((r0.1 : Nat) : Int) == (2 : Int)) then ((r0.2 (0 : Int).toNat).f0 == (1 : Int)) else false) then r1 else false)))], [])) rfl (by kernel_rfl) (And.intro (tabOk_sub rfl (And.intro (dsub_cons dsub_refl (dsub_cons (dsub_cons dsub_refl (dsub_cons dsub_refl (dsub_cons dsub_refl (dsub_cons dsub_nils dsub_refl)))) dsub_refl)) (And.intro (dsub_cons dsub_refl (dsub_cons (dsub_cons dsub_refl (dsub_cons dsub_refl (dsub_cons dsub_refl (dsub_cons dsub_nils dsub_refl)))) dsub_refl)) (And.intro (dsub_cons dsub_refl (dsub_cons (dsub_cons dsub_refl (dsub_cons dsub_refl (dsub_cons dsub_refl (dsub_cons dsub_nils dsub_refl)))) dsub_refl)) trivial)))) (And.intro (fc_region_Of fu (3, (fun i => ([(S_api_Change.mk (2 : Int) (S_api_Mod.mk (0 : Int) (S_api_Cube.mk (fun _ => 0) (fun _ => 0)) (0 : Int) (0, fun _ => S_api_Act.z) (0 : Int) (0 : Int) (0 : Int) false)), (S_api_Change.mk (1 : Int) (S_api_Mod.mk (0 : Int) (S_api_Cube.mk (fun _ => 0) (fun _ => 0)) (0 : Int) (0, fun _ => S_api_Act.z) (0 : Int) (0 : Int) (0 : Int) false)), (S_api_Change.mk (2 : Int) (S_api_Mod.mk (0 : Int) (S_api_Cube.mk (fun _ => 0) (fun _ => 0)) (0 : Int) (0, fun _ => S_api_Act.z) (0 : Int) (0 : Int) (0 : Int) false))] : List S_api_Change).getD i S_api_Change.z)) cr0) (And.intro (And.intro (fun _ _ => (S_api_Change.inn _)) trivial) (And.intro (fun hg => (And.intro (by first | exact fun h => h | exact fun h => (Bool.and_eq_true_iff.1 h).1 | simp_all) (And.intro (p0 hg) trivial))) (And.intro (fun _ => (And.intro (by first | exact fun h => h | exact fun h => (Bool.and_eq_true_iff.1 h).1 | simp_all) trivial)) (And.intro (fun _ => (And.intro (by first | exact fun h => h | exact fun h => (Bool.and_eq_true_iff.1 h).1 | simp_all) trivial)) (And.intro (fun _ => (And.intro (by first | exact fun h => h | exact fun h => (Bool.and_eq_true_iff.1 h).1 | simp_all) trivial)) (And.intro (by first | exact fun h => h | exact fun h => (Bool.and_eq_true_iff.1 h).1 | simp_all) (And.intro (fun hg => (And.intro (by first | exact fun h => h | exact fun h => (Bool.and_eq_true_iff.1 h).1 | simp_all) (And.intro (by first | exact fun h => h | exact fun h => (Bool.and_eq_true_iff.1 h).1 | simp_all) (And.intro (fc_region_Touch fu r0 r0 (callIf_some cr1 hg)) (And.intro (And.intro (fun _ _ => (S_api_Region.inn _)) (And.intro (fun _ _ => (S_api_Region.inn _)) trivial)) trivial))))) (And.intro (by first | exact fun h => h | exact fun h => (Bool.and_eq_true_iff.1 h).1 | simp_all) trivial)))))))))) ?_
  rw [← Option.some.inj h] at hk
  obtain rfl : d = (D.bool (bif (bif (((r0.1 : Nat) : Int) == (2 : Int)) then ((r0.2 (0 : Int).toNat).f0 == (1 : Int)) else false) then r1 else false)) := hk
  exact runs_ret (by kernel_rfl) trivial (Nat.le_refl 0) trivial trivial

theorem fc_law19_answers (fu : Nat) {r : Bool} (h : F_law19_answers fu = some r) : FC Try.prog 6 [] [] (D.bool r) [] := by
  refine fc_of_runs (fn := Try.f6) (c := Try.f6.body.getD .skip) (by kernel_rfl) (by kernel_rfl) ?_
  refine runs_to (ts := []) (T' := T_law19_answers) (env' := []) (h2 := []) (by kernel_rfl) (by kernel_rfl) trivial (Nat.le_refl _) trivial trivial ?_
  exact run_law19_answers fu h rfl

def K_ref19_Region (d : D) (r : (Nat × (Nat → S_api_Region))) : Prop := d = (D.lit r.1 25 fun i => (S_api_Region.d (r.2 i)))

noncomputable def T_ref19_Region : List Item := norm 200 [.code (Try.f15.body.getD .skip)]

noncomputable def T_ref19_Region_L2 : List Item := norm 200 (nxt (nxt (nxt (cndT (nxt (nxt (nxt (nxt T_ref19_Region))))))))

noncomputable def X_ref19_Region_L2T : List Item := norm 200 (cndF (nxt (nxt (nxt (nxt (cndT (nxt (nxt (nxt (nxt T_ref19_Region))))))))))

noncomputable def T_ref19_Region_L3 : List Item := norm 200 (nxt (nxt (nxt (cndF (nxt (cndF (nxt (nxt (nxt (nxt (cndT (nxt (nxt (nxt (nxt T_ref19_Region)))))))))))))))

noncomputable def X_ref19_Region_L3T : List Item := norm 200 (cndT (nxt (cndF (nxt (nxt (nxt (nxt (cndT (nxt (nxt (nxt (nxt T_ref19_Region))))))))))))

noncomputable def T_ref19_Region_L1 : List Item := norm 200 (nxt (nxt (nxt T_ref19_Region)))

noncomputable def X_ref19_Region_L1T : List Item := norm 200 (cndF (nxt (nxt (nxt (nxt T_ref19_Region)))))

abbrev E_ref19_Region_L1 := (Nat × (Nat → S_api_Region))

def N_ref19_Region_L1 (_fu : Nat) (t0 : (Nat × (Nat → S_api_Change))) (d : D) (s : (Int × (Nat × (Nat → S_api_Region)))) : Prop := Runs Try.prog Try.f15 0 T_ref19_Region_L1 [(0, (D.lit t0.1 32 fun i => (S_api_Change.d (t0.2 i)))), (3, (D.own 0)), (4, (D.int .i64 s.1))] [some (.seq 30 s.2.1 25 (D.arr s.2.1 25 fun i => (S_api_Region.d (s.2.2 i))))] d []

def X_ref19_Region_L1 (_fu : Nat) (_t0 : (Nat × (Nat → S_api_Change))) (d : D) : E_ref19_Region_L1 ⊕ (Nat × (Nat → S_api_Region)) → Prop
  | .inl e => Runs Try.prog Try.f15 0 X_ref19_Region_L1T [(3, (D.own 0))] [some (.seq 30 e.1 25 (D.arr e.1 25 fun i => (S_api_Region.d (e.2 i))))] d []
  | .inr o => (K_ref19_Region d) o

abbrev E_ref19_Region_L2 := Bool

def N_ref19_Region_L2 (_fu : Nat) (t0 : (Nat × (Nat → S_api_Change))) (t4 : Int) (m0 : (Nat × (Nat → S_api_Region))) (m1 : S_api_Cube) (d : D) (s : (Bool × Int)) : Prop := Runs Try.prog Try.f15 0 T_ref19_Region_L2 [(0, (D.lit t0.1 32 fun i => (S_api_Change.d (t0.2 i)))), (3, (D.own 0)), (4, (D.int .i64 t4)), (5, (D.ptr 1 [])), (6, (D.bool s.1)), (7, (D.int .i64 s.2))] [some (.seq 30 m0.1 25 (D.arr m0.1 25 fun i => (S_api_Region.d (m0.2 i)))), some (.box (S_api_Cube.d m1))] d []

def X_ref19_Region_L2 (fu : Nat) (t0 : (Nat × (Nat → S_api_Change))) (t4 : Int) (m0 : (Nat × (Nat → S_api_Region))) (m1 : S_api_Cube) (d : D) : E_ref19_Region_L2 ⊕ (Lo (Int × (Nat × (Nat → S_api_Region))) E_ref19_Region_L1 (Nat × (Nat → S_api_Region))) → Prop
  | .inl e => Runs Try.prog Try.f15 0 X_ref19_Region_L2T [(0, (D.lit t0.1 32 fun i => (S_api_Change.d (t0.2 i)))), (3, (D.own 0)), (4, (D.int .i64 t4)), (5, (D.ptr 1 [])), (6, (D.bool e))] [some (.seq 30 m0.1 25 (D.arr m0.1 25 fun i => (S_api_Region.d (m0.2 i)))), some (.box (S_api_Cube.d m1))] d []
  | .inr o => (Lo.post (N_ref19_Region_L1 fu t0 d) (X_ref19_Region_L1 fu t0 d)) o

def F_ref19_Region_L2 (fu : Nat) (t0 : (Nat × (Nat → S_api_Change))) (t4 : Int) (_m0 : (Nat × (Nat → S_api_Region))) (m1 : S_api_Cube) (t6 : Bool) (t7 : Int) : Option (Lo (Bool × Int) E_ref19_Region_L2 (Lo (Int × (Nat × (Nat → S_api_Region))) E_ref19_Region_L1 (Nat × (Nat → S_api_Region)))) :=
  ifs (bif (decide (t7 < ((t0.1 : Nat) : Int))) then t6 else false) (
    chk (0 ≤ t7 ∧ t7 < ((t0.1 : Nat) : Int)) <|
    chk ((t7 != t4) = true → (0 ≤ t7 ∧ t7 < ((t0.1 : Nat) : Int))) <|
    chk ((t7 != t4) = true → (0 ≤ t4 ∧ t4 < ((t0.1 : Nat) : Int))) <|
    (callIf (bif (t7 != t4) then ((t0.2 t7.toNat).f0 == (t0.2 t4.toNat).f0) else false) (F_ref01_Within fu m1 (t0.2 t7.toNat).f1.f1) false).bind fun r1 =>
    ifs (bif (bif (bif (t7 != t4) then ((t0.2 t7.toNat).f0 == (t0.2 t4.toNat).f0) else false) then r1 else false) then (bif (!(((List.range 12).all fun i => m1.f0 i == (t0.2 t7.toNat).f1.f1.f0 i) && (((List.range 12).all fun i => m1.f1 i == (t0.2 t7.toNat).f1.f1.f1 i) && true))) then true else (decide (t7 < t4))) else false) (
      some (.next (false, (IntKind.wrap .i64 (t7 + (1 : Int)))))) (
      some (.next (t6, (IntKind.wrap .i64 (t7 + (1 : Int))))))) (
    some (.exit t6))

theorem run_ref19_Region_L2 (fu : Nat) (t0 : (Nat × (Nat → S_api_Change))) (t4 : Int) (m0 : (Nat × (Nat → S_api_Region))) (m1 : S_api_Cube) (t6 : Bool) (t7 : Int) {d : D} {o : (Lo (Bool × Int) E_ref19_Region_L2 (Lo (Int × (Nat × (Nat → S_api_Region))) E_ref19_Region_L1 (Nat × (Nat → S_api_Region))))} (h : F_ref19_Region_L2 fu t0 t4 m0 m1 t6 t7 = some o) (hk : (Lo.post (N_ref19_Region_L2 fu t0 t4 m0 m1 d) (X_ref19_Region_L2 fu t0 t4 m0 m1 d)) o) : Runs Try.prog Try.f15 0 T_ref19_Region_L2 [(0, (D.lit t0.1 32 fun i => (S_api_Change.d (t0.2 i)))), (3, (D.own 0)), (4, (D.int .i64 t4)), (5, (D.ptr 1 [])), (6, (D.bool t6)), (7, (D.int .i64 t7))] [some (.seq 30 m0.1 25 (D.arr m0.1 25 fun i => (S_api_Region.d (m0.2 i)))), some (.box (S_api_Cube.d m1))] d [] := by
  unfold F_ref19_Region_L2 at h
  refine runs_regions 1 [([], [0, 3, 4, 5, 6, 7, 31])] (z := ([((true && (decide (t7 < ((t0.1 : Nat) : Int)))) = true → (decide (t7 < ((t0.1 : Nat) : Int))) = true)], [(0, (D.lit t0.1 32 fun i => (S_api_Change.d (t0.2 i)))), (3, (D.own 0)), (4, (D.int .i64 t4)), (5, (D.ptr 1 [])), (6, (D.bool t6)), (7, (D.int .i64 t7)), (31, (D.bool (bif (decide (t7 < ((t0.1 : Nat) : Int))) then t6 else false)))], [some (.seq 30 m0.1 25 (D.arr m0.1 25 fun i => (S_api_Region.d (m0.2 i)))), some (.box (S_api_Cube.d m1))])) rfl (by kernel_rfl) (And.intro (by first | exact fun h => h | exact fun h => (Bool.and_eq_true_iff.1 h).1 | simp_all) trivial) ?_
  refine runs_if (b := (bif (decide (t7 < ((t0.1 : Nat) : Int))) then t6 else false)) (by kernel_rfl) (fun hb => ?_) (fun hb => ?_)
  · replace h := ifs_true h hb
    obtain ⟨p1, h⟩ := chk_some h
    obtain ⟨p2, h⟩ := chk_some h
    obtain ⟨p3, h⟩ := chk_some h
    obtain ⟨r1, cr1, h⟩ := Option.bind_eq_some_iff.1 h
    refine runs_regions 2 [([], [0, 3, 4, 5, 6, 7, 8]), ([(.d (D.bool r1))], [0, 3, 4, 5, 6, 7, 70])] (z := ([(0 ≤ t7 ∧ t7 < ((t0.1 : Nat) : Int)), ((t7 != t4) = true → All [((t7 != t4) = true → (t7 != t4) = true), ((t7 != t4) = true → (t7 != t4) = true), (0 ≤ t7 ∧ t7 < ((t0.1 : Nat) : Int))]), ((t7 != t4) = true → All [((t7 != t4) = true → (t7 != t4) = true)]), ((t7 != t4) = true → All [((t7 != t4) = true → (t7 != t4) = true)]), ((t7 != t4) = true → All [((t7 != t4) = true → (t7 != t4) = true), ((t7 != t4) = true → (t7 != t4) = true), (0 ≤ t4 ∧ t4 < ((t0.1 : Nat) : Int))]), ((t7 != t4) = true → All [((t7 != t4) = true → (t7 != t4) = true)]), ((t7 != t4) = true → All [((t7 != t4) = true → (t7 != t4) = true)]), ((t7 != t4) = true → All [((t7 != t4) = true → (t7 != t4) = true), ((t7 != t4) = true → (t7 != t4) = true)]), ((true && (t7 != t4)) = true → (t7 != t4) = true), ((bif (t7 != t4) then ((t0.2 t7.toNat).f0 == (t0.2 t4.toNat).f0) else false) = true → All [((bif (t7 != t4) then ((t0.2 t7.toNat).f0 == (t0.2 t4.toNat).f0) else false) = true → (bif (t7 != t4) then ((t0.2 t7.toNat).f0 == (t0.2 t4.toNat).f0) else false) = true), ((bif (t7 != t4) then ((t0.2 t7.toNat).f0 == (t0.2 t4.toNat).f0) else false) = true → (bif (t7 != t4) then ((t0.2 t7.toNat).f0 == (t0.2 t4.toNat).f0) else false) = true), FC Try.prog 14 [(S_api_Cube.d m1), (S_api_Cube.d (t0.2 t7.toNat).f1.f1)] [] (D.bool r1) [], All (List.map NoRow [(S_api_Cube.d m1), (S_api_Cube.d (t0.2 t7.toNat).f1.f1)])]), ((true && (bif (t7 != t4) then ((t0.2 t7.toNat).f0 == (t0.2 t4.toNat).f0) else false)) = true → (bif (t7 != t4) then ((t0.2 t7.toNat).f0 == (t0.2 t4.toNat).f0) else false) = true), ((bif (bif (t7 != t4) then ((t0.2 t7.toNat).f0 == (t0.2 t4.toNat).f0) else false) then r1 else false) = true → All [((bif (bif (t7 != t4) then ((t0.2 t7.toNat).f0 == (t0.2 t4.toNat).f0) else false) then r1 else false) = true → (bif (bif (t7 != t4) then ((t0.2 t7.toNat).f0 == (t0.2 t4.toNat).f0) else false) then r1 else false) = true), ((bif (bif (t7 != t4) then ((t0.2 t7.toNat).f0 == (t0.2 t4.toNat).f0) else false) then r1 else false) = true → (bif (bif (t7 != t4) then ((t0.2 t7.toNat).f0 == (t0.2 t4.toNat).f0) else false) then r1 else false) = true)]), ((bif (bif (t7 != t4) then ((t0.2 t7.toNat).f0 == (t0.2 t4.toNat).f0) else false) then r1 else false) = true → All [((bif (bif (t7 != t4) then ((t0.2 t7.toNat).f0 == (t0.2 t4.toNat).f0) else false) then r1 else false) = true → (bif (bif (t7 != t4) then ((t0.2 t7.toNat).f0 == (t0.2 t4.toNat).f0) else false) then r1 else false) = true)]), (((bif (bif (t7 != t4) then ((t0.2 t7.toNat).f0 == (t0.2 t4.toNat).f0) else false) then r1 else false) && (!(!(((List.range 12).all fun i => m1.f0 i == (t0.2 t7.toNat).f1.f1.f0 i) && (((List.range 12).all fun i => m1.f1 i == (t0.2 t7.toNat).f1.f1.f1 i) && true))))) = true → All [(((bif (bif (t7 != t4) then ((t0.2 t7.toNat).f0 == (t0.2 t4.toNat).f0) else false) then r1 else false) && (!(!(((List.range 12).all fun i => m1.f0 i == (t0.2 t7.toNat).f1.f1.f0 i) && (((List.range 12).all fun i => m1.f1 i == (t0.2 t7.toNat).f1.f1.f1 i) && true))))) = true → ((bif (bif (t7 != t4) then ((t0.2 t7.toNat).f0 == (t0.2 t4.toNat).f0) else false) then r1 else false) && (!(!(((List.range 12).all fun i => m1.f0 i == (t0.2 t7.toNat).f1.f1.f0 i) && (((List.range 12).all fun i => m1.f1 i == (t0.2 t7.toNat).f1.f1.f1 i) && true))))) = true), (((bif (bif (t7 != t4) then ((t0.2 t7.toNat).f0 == (t0.2 t4.toNat).f0) else false) then r1 else false) && (!(!(((List.range 12).all fun i => m1.f0 i == (t0.2 t7.toNat).f1.f1.f0 i) && (((List.range 12).all fun i => m1.f1 i == (t0.2 t7.toNat).f1.f1.f1 i) && true))))) = true → ((bif (bif (t7 != t4) then ((t0.2 t7.toNat).f0 == (t0.2 t4.toNat).f0) else false) then r1 else false) && (!(!(((List.range 12).all fun i => m1.f0 i == (t0.2 t7.toNat).f1.f1.f0 i) && (((List.range 12).all fun i => m1.f1 i == (t0.2 t7.toNat).f1.f1.f1 i) && true))))) = true)]), ((bif (bif (t7 != t4) then ((t0.2 t7.toNat).f0 == (t0.2 t4.toNat).f0) else false) then r1 else false) = true → All [((bif (bif (t7 != t4) then ((t0.2 t7.toNat).f0 == (t0.2 t4.toNat).f0) else false) then r1 else false) = true → (bif (bif (t7 != t4) then ((t0.2 t7.toNat).f0 == (t0.2 t4.toNat).f0) else false) then r1 else false) = true), (((bif (bif (t7 != t4) then ((t0.2 t7.toNat).f0 == (t0.2 t4.toNat).f0) else false) then r1 else false) && !(!(((List.range 12).all fun i => m1.f0 i == (t0.2 t7.toNat).f1.f1.f0 i) && (((List.range 12).all fun i => m1.f1 i == (t0.2 t7.toNat).f1.f1.f1 i) && true)))) = true → ((bif (bif (t7 != t4) then ((t0.2 t7.toNat).f0 == (t0.2 t4.toNat).f0) else false) then r1 else false) && (!(!(((List.range 12).all fun i => m1.f0 i == (t0.2 t7.toNat).f1.f1.f0 i) && (((List.range 12).all fun i => m1.f1 i == (t0.2 t7.toNat).f1.f1.f1 i) && true))))) = true)]), ((true && (bif (bif (t7 != t4) then ((t0.2 t7.toNat).f0 == (t0.2 t4.toNat).f0) else false) then r1 else false)) = true → (bif (bif (t7 != t4) then ((t0.2 t7.toNat).f0 == (t0.2 t4.toNat).f0) else false) then r1 else false) = true)], [(0, (D.lit t0.1 32 fun i => (S_api_Change.d (t0.2 i)))), (3, (D.own 0)), (4, (D.int .i64 t4)), (5, (D.ptr 1 [])), (6, (D.bool t6)), (7, (D.int .i64 t7)), (70, (D.bool (bif (bif (bif (t7 != t4) then ((t0.2 t7.toNat).f0 == (t0.2 t4.toNat).f0) else false) then r1 else false) then (bif (!(((List.range 12).all fun i => m1.f0 i == (t0.2 t7.toNat).f1.f1.f0 i) && (((List.range 12).all fun i => m1.f1 i == (t0.2 t7.toNat).f1.f1.f1 i) && true))) then true else (decide (t7 < t4))) else false)))], [some (.seq 30 m0.1 25 (D.arr m0.1 25 fun i => (S_api_Region.d (m0.2 i)))), some (.box (S_api_Cube.d m1)), some (.box (S_api_Cube.d (t0.2 t7.toNat).f1.f1))])) rfl (by kernel_rfl) (And.intro p1 (And.intro (fun hg => (And.intro (by first | exact fun h => h | exact fun h => (Bool.and_eq_true_iff.1 h).1 | simp_all) (And.intro (by first | exact fun h => h | exact fun h => (Bool.and_eq_true_iff.1 h).1 | simp_all) (And.intro (p2 hg) trivial)))) (And.intro (fun _ => (And.intro (by first | exact fun h => h | exact fun h => (Bool.and_eq_true_iff.1 h).1 | simp_all) trivial)) (And.intro (fun _ => (And.intro (by first | exact fun h => h | exact fun h => (Bool.and_eq_true_iff.1 h).1 | simp_all) trivial)) (And.intro (fun hg => (And.intro (by first | exact fun h => h | exact fun h => (Bool.and_eq_true_iff.1 h).1 | simp_all) (And.intro (by first | exact fun h => h | exact fun h => (Bool.and_eq_true_iff.1 h).1 | simp_all) (And.intro (p3 hg) trivial)))) (And.intro (fun _ => (And.intro (by first | exact fun h => h | exact fun h => (Bool.and_eq_true_iff.1 h).1 | simp_all) trivial)) (And.intro (fun _ => (And.intro (by first | exact fun h => h | exact fun h => (Bool.and_eq_true_iff.1 h).1 | simp_all) trivial)) (And.intro (fun _ => (And.intro (by first | exact fun h => h | exact fun h => (Bool.and_eq_true_iff.1 h).1 | simp_all) (And.intro (by first | exact fun h => h | exact fun h => (Bool.and_eq_true_iff.1 h).1 | simp_all) trivial))) (And.intro (by first | exact fun h => h | exact fun h => (Bool.and_eq_true_iff.1 h).1 | simp_all) (And.intro (fun hg => (And.intro (by first | exact fun h => h | exact fun h => (Bool.and_eq_true_iff.1 h).1 | simp_all) (And.intro (by first | exact fun h => h | exact fun h => (Bool.and_eq_true_iff.1 h).1 | simp_all) (And.intro (fc_ref01_Within fu m1 (t0.2 t7.toNat).f1.f1 (callIf_some cr1 hg)) (And.intro (And.intro (S_api_Cube.inn _) (And.intro (S_api_Cube.inn _) trivial)) trivial))))) (And.intro (by first | exact fun h => h | exact fun h => (Bool.and_eq_true_iff.1 h).1 | simp_all) (And.intro (fun _ => (And.intro (by first | exact fun h => h | exact fun h => (Bool.and_eq_true_iff.1 h).1 | simp_all) (And.intro (by first | exact fun h => h | exact fun h => (Bool.and_eq_true_iff.1 h).1 | simp_all) trivial))) (And.intro (fun _ => (And.intro (by first | exact fun h => h | exact fun h => (Bool.and_eq_true_iff.1 h).1 | simp_all) trivial)) (And.intro (fun _ => (And.intro (by first | exact fun h => h | exact fun h => (Bool.and_eq_true_iff.1 h).1 | simp_all) (And.intro (by first | exact fun h => h | exact fun h => (Bool.and_eq_true_iff.1 h).1 | simp_all) trivial))) (And.intro (fun _ => (And.intro (by first | exact fun h => h | exact fun h => (Bool.and_eq_true_iff.1 h).1 | simp_all) (And.intro (by first | exact fun h => h | exact fun h => (Bool.and_eq_true_iff.1 h).1 | simp_all) trivial))) (And.intro (by first | exact fun h => h | exact fun h => (Bool.and_eq_true_iff.1 h).1 | simp_all) trivial)))))))))))))))) ?_
    refine runs_if (b := (bif (bif (bif (t7 != t4) then ((t0.2 t7.toNat).f0 == (t0.2 t4.toNat).f0) else false) then r1 else false) then (bif (!(((List.range 12).all fun i => m1.f0 i == (t0.2 t7.toNat).f1.f1.f0 i) && (((List.range 12).all fun i => m1.f1 i == (t0.2 t7.toNat).f1.f1.f1 i) && true))) then true else (decide (t7 < t4))) else false)) (by kernel_rfl) (fun hb => ?_) (fun hb => ?_)
    · replace h := ifs_true h hb
      refine runs_regions 2 [([], [0, 3, 4, 5, 6, 7]), ([], [0, 3, 4, 5, 6, 7])] (z := ([], [(0, (D.lit t0.1 32 fun i => (S_api_Change.d (t0.2 i)))), (3, (D.own 0)), (4, (D.int .i64 t4)), (5, (D.ptr 1 [])), (6, (D.bool false)), (7, (D.int .i64 (IntKind.wrap .i64 (t7 + (1 : Int)))))], [some (.seq 30 m0.1 25 (D.arr m0.1 25 fun i => (S_api_Region.d (m0.2 i)))), some (.box (S_api_Cube.d m1)), some (.box (S_api_Cube.d (t0.2 t7.toNat).f1.f1))])) rfl (by kernel_rfl) trivial ?_
      rw [← Option.some.inj h] at hk
      refine runs_to (ts := [0, 3, 4, 5, 6, 7]) (T' := T_ref19_Region_L2) (env' := [(0, (D.lit t0.1 32 fun i => (S_api_Change.d (t0.2 i)))), (3, (D.own 0)), (4, (D.int .i64 t4)), (5, (D.ptr 1 [])), (6, (D.bool false)), (7, (D.int .i64 (IntKind.wrap .i64 (t7 + (1 : Int)))))]) (h2 := [some (.seq 30 m0.1 25 (D.arr m0.1 25 fun i => (S_api_Region.d (m0.2 i)))), some (.box (S_api_Cube.d m1))]) (by kernel_rfl) (by kernel_rfl) (And.intro (.inr rfl) (And.intro (.inr rfl) trivial)) (Nat.zero_le _) (And.intro (fun _ _ => (S_api_Region.inn _)) (And.intro (S_api_Cube.inn _) trivial)) (And.intro (fun _ _ => (S_api_Change.inn _)) (And.intro (bel_of rfl) (And.intro trivial (And.intro (bel_of rfl) (And.intro trivial (And.intro trivial trivial)))))) ?_
      exact hk
    · replace h := ifs_false h hb
      refine runs_regions 1 [([], [0, 3, 4, 5, 6, 7])] (z := ([], [(0, (D.lit t0.1 32 fun i => (S_api_Change.d (t0.2 i)))), (3, (D.own 0)), (4, (D.int .i64 t4)), (5, (D.ptr 1 [])), (6, (D.bool t6)), (7, (D.int .i64 (IntKind.wrap .i64 (t7 + (1 : Int)))))], [some (.seq 30 m0.1 25 (D.arr m0.1 25 fun i => (S_api_Region.d (m0.2 i)))), some (.box (S_api_Cube.d m1)), some (.box (S_api_Cube.d (t0.2 t7.toNat).f1.f1))])) rfl (by kernel_rfl) trivial ?_
      rw [← Option.some.inj h] at hk
      refine runs_to (ts := [0, 3, 4, 5, 6, 7]) (T' := T_ref19_Region_L2) (env' := [(0, (D.lit t0.1 32 fun i => (S_api_Change.d (t0.2 i)))), (3, (D.own 0)), (4, (D.int .i64 t4)), (5, (D.ptr 1 [])), (6, (D.bool t6)), (7, (D.int .i64 (IntKind.wrap .i64 (t7 + (1 : Int)))))]) (h2 := [some (.seq 30 m0.1 25 (D.arr m0.1 25 fun i => (S_api_Region.d (m0.2 i)))), some (.box (S_api_Cube.d m1))]) (by kernel_rfl) (by kernel_rfl) (And.intro (.inr rfl) (And.intro (.inr rfl) trivial)) (Nat.zero_le _) (And.intro (fun _ _ => (S_api_Region.inn _)) (And.intro (S_api_Cube.inn _) trivial)) (And.intro (fun _ _ => (S_api_Change.inn _)) (And.intro (bel_of rfl) (And.intro trivial (And.intro (bel_of rfl) (And.intro trivial (And.intro trivial trivial)))))) ?_
      exact hk
  · replace h := ifs_false h hb
    rw [← Option.some.inj h] at hk
    refine runs_to (ts := [0, 3, 4, 5, 6]) (T' := X_ref19_Region_L2T) (env' := [(0, (D.lit t0.1 32 fun i => (S_api_Change.d (t0.2 i)))), (3, (D.own 0)), (4, (D.int .i64 t4)), (5, (D.ptr 1 [])), (6, (D.bool t6))]) (h2 := [some (.seq 30 m0.1 25 (D.arr m0.1 25 fun i => (S_api_Region.d (m0.2 i)))), some (.box (S_api_Cube.d m1))]) (by kernel_rfl) (by kernel_rfl) (And.intro (.inr rfl) (And.intro (.inr rfl) trivial)) (Nat.zero_le _) (And.intro (fun _ _ => (S_api_Region.inn _)) (And.intro (S_api_Cube.inn _) trivial)) (And.intro (fun _ _ => (S_api_Change.inn _)) (And.intro (bel_of rfl) (And.intro trivial (And.intro (bel_of rfl) (And.intro trivial trivial))))) ?_
    exact hk

theorem iter_ref19_Region_L2 (fu : Nat) (t0 : (Nat × (Nat → S_api_Change))) (t4 : Int) (m0 : (Nat × (Nat → S_api_Region))) (m1 : S_api_Cube) {d : D} (k : Nat) (s : (Bool × Int)) {o : E_ref19_Region_L2 ⊕ (Lo (Int × (Nat × (Nat → S_api_Region))) E_ref19_Region_L1 (Nat × (Nat → S_api_Region)))} (h : iter (fun s => F_ref19_Region_L2 fu t0 t4 m0 m1 s.1 s.2) k s = some o) (hx : X_ref19_Region_L2 fu t0 t4 m0 m1 d o) : N_ref19_Region_L2 fu t0 t4 m0 m1 d s :=
  iter_post (K := N_ref19_Region_L2 fu t0 t4 m0 m1 d) (X := X_ref19_Region_L2 fu t0 t4 m0 m1 d) (fun s _ h hk => run_ref19_Region_L2 fu t0 t4 m0 m1 s.1 s.2 h hk) k s o h hx

abbrev E_ref19_Region_L3 := (Nat × (Nat → S_api_Region))

def N_ref19_Region_L3 (_fu : Nat) (t0 : (Nat × (Nat → S_api_Change))) (t4 : Int) (d : D) (s : (Int × (Nat × (Nat → S_api_Region)))) : Prop := Runs Try.prog Try.f15 0 T_ref19_Region_L3 [(0, (D.lit t0.1 32 fun i => (S_api_Change.d (t0.2 i)))), (3, (D.own 3)), (4, (D.int .i64 t4)), (10, (D.int .i64 s.1))] [none, none, none, some (.seq 30 s.2.1 25 (D.arr s.2.1 25 fun i => (S_api_Region.d (s.2.2 i))))] d []

def X_ref19_Region_L3 (fu : Nat) (t0 : (Nat × (Nat → S_api_Change))) (t4 : Int) (d : D) : E_ref19_Region_L3 ⊕ (Lo (Int × (Nat × (Nat → S_api_Region))) E_ref19_Region_L1 (Nat × (Nat → S_api_Region))) → Prop
  | .inl e => Runs Try.prog Try.f15 0 X_ref19_Region_L3T [(0, (D.lit t0.1 32 fun i => (S_api_Change.d (t0.2 i)))), (3, (D.own 3)), (4, (D.int .i64 t4))] [none, none, none, some (.seq 30 e.1 25 (D.arr e.1 25 fun i => (S_api_Region.d (e.2 i))))] d []
  | .inr o => (Lo.post (N_ref19_Region_L1 fu t0 d) (X_ref19_Region_L1 fu t0 d)) o

def F_ref19_Region_L3 (fu : Nat) (_t0 : (Nat × (Nat → S_api_Change))) (_t4 : Int) (t10 : Int) (m3 : (Nat × (Nat → S_api_Region))) : Option (Lo (Int × (Nat × (Nat → S_api_Region))) E_ref19_Region_L3 (Lo (Int × (Nat × (Nat → S_api_Region))) E_ref19_Region_L1 (Nat × (Nat → S_api_Region)))) :=
  chk ((decide (t10 > (0 : Int))) = true → (0 ≤ t10 ∧ t10 < ((m3.1 : Nat) : Int))) <|
  chk ((decide (t10 > (0 : Int))) = true → (t10.toNat < m3.1)) <|
  chk ((decide (t10 > (0 : Int))) = true → (0 ≤ (IntKind.wrap .i64 (t10 - (1 : Int))) ∧ (IntKind.wrap .i64 (t10 - (1 : Int))) < ((m3.1 : Nat) : Int))) <|
  chk ((decide (t10 > (0 : Int))) = true → ((IntKind.wrap .i64 (t10 - (1 : Int))).toNat < m3.1)) <|
  chk (((decide (t10 > (0 : Int))) && (!(decide ((m3.2 t10.toNat).f0 < (m3.2 (IntKind.wrap .i64 (t10 - (1 : Int))).toNat).f0)))) = true → (0 ≤ t10 ∧ t10 < ((m3.1 : Nat) : Int))) <|
  chk (((decide (t10 > (0 : Int))) && (!(decide ((m3.2 t10.toNat).f0 < (m3.2 (IntKind.wrap .i64 (t10 - (1 : Int))).toNat).f0)))) = true → (t10.toNat < m3.1)) <|
  chk (((decide (t10 > (0 : Int))) && (!(decide ((m3.2 t10.toNat).f0 < (m3.2 (IntKind.wrap .i64 (t10 - (1 : Int))).toNat).f0)))) = true → (0 ≤ (IntKind.wrap .i64 (t10 - (1 : Int))) ∧ (IntKind.wrap .i64 (t10 - (1 : Int))) < ((m3.1 : Nat) : Int))) <|
  chk (((decide (t10 > (0 : Int))) && (!(decide ((m3.2 t10.toNat).f0 < (m3.2 (IntKind.wrap .i64 (t10 - (1 : Int))).toNat).f0)))) = true → ((IntKind.wrap .i64 (t10 - (1 : Int))).toNat < m3.1)) <|
  chk ((((decide (t10 > (0 : Int))) && (!(decide ((m3.2 t10.toNat).f0 < (m3.2 (IntKind.wrap .i64 (t10 - (1 : Int))).toNat).f0)))) && ((m3.2 t10.toNat).f0 == (m3.2 (IntKind.wrap .i64 (t10 - (1 : Int))).toNat).f0)) = true → (0 ≤ t10 ∧ t10 < ((m3.1 : Nat) : Int))) <|
  chk ((((decide (t10 > (0 : Int))) && (!(decide ((m3.2 t10.toNat).f0 < (m3.2 (IntKind.wrap .i64 (t10 - (1 : Int))).toNat).f0)))) && ((m3.2 t10.toNat).f0 == (m3.2 (IntKind.wrap .i64 (t10 - (1 : Int))).toNat).f0)) = true → (t10.toNat < m3.1)) <|
  chk ((((decide (t10 > (0 : Int))) && (!(decide ((m3.2 t10.toNat).f0 < (m3.2 (IntKind.wrap .i64 (t10 - (1 : Int))).toNat).f0)))) && ((m3.2 t10.toNat).f0 == (m3.2 (IntKind.wrap .i64 (t10 - (1 : Int))).toNat).f0)) = true → (0 ≤ (IntKind.wrap .i64 (t10 - (1 : Int))) ∧ (IntKind.wrap .i64 (t10 - (1 : Int))) < ((m3.1 : Nat) : Int))) <|
  chk ((((decide (t10 > (0 : Int))) && (!(decide ((m3.2 t10.toNat).f0 < (m3.2 (IntKind.wrap .i64 (t10 - (1 : Int))).toNat).f0)))) && ((m3.2 t10.toNat).f0 == (m3.2 (IntKind.wrap .i64 (t10 - (1 : Int))).toNat).f0)) = true → ((IntKind.wrap .i64 (t10 - (1 : Int))).toNat < m3.1)) <|
  (callIf (((decide (t10 > (0 : Int))) && (!(decide ((m3.2 t10.toNat).f0 < (m3.2 (IntKind.wrap .i64 (t10 - (1 : Int))).toNat).f0)))) && ((m3.2 t10.toNat).f0 == (m3.2 (IntKind.wrap .i64 (t10 - (1 : Int))).toNat).f0)) (F_ref01_Compare fu (m3.2 t10.toNat).f1 (m3.2 (IntKind.wrap .i64 (t10 - (1 : Int))).toNat).f1) (0 : Int)).bind fun r2 =>
  ifs (bif (decide (t10 > (0 : Int))) then (bif (decide ((m3.2 t10.toNat).f0 < (m3.2 (IntKind.wrap .i64 (t10 - (1 : Int))).toNat).f0)) then true else (bif ((m3.2 t10.toNat).f0 == (m3.2 (IntKind.wrap .i64 (t10 - (1 : Int))).toNat).f0) then (decide (r2 < (0 : Int))) else false)) else false) (
    chk (0 ≤ (IntKind.wrap .i64 (t10 - (1 : Int))) ∧ (IntKind.wrap .i64 (t10 - (1 : Int))) < ((m3.1 : Nat) : Int)) <|
    chk ((IntKind.wrap .i64 (t10 - (1 : Int))).toNat < m3.1) <|
    chk (0 ≤ t10 ∧ t10 < ((m3.1 : Nat) : Int)) <|
    chk (t10.toNat < m3.1) <|
    chk (0 ≤ t10 ∧ t10 < ((m3.1 : Nat) : Int)) <|
    chk (t10.toNat < m3.1) <|
    chk (0 ≤ (IntKind.wrap .i64 (t10 - (1 : Int))) ∧ (IntKind.wrap .i64 (t10 - (1 : Int))) < ((m3.1 : Nat) : Int)) <|
    chk ((IntKind.wrap .i64 (t10 - (1 : Int))).toNat < m3.1) <|
    some (.next ((IntKind.wrap .i64 (t10 - (1 : Int))), (m3.1, (fun j => if j = (IntKind.wrap .i64 (t10 - (1 : Int))).toNat then (m3.2 t10.toNat) else (fun j => if j = t10.toNat then (m3.2 (IntKind.wrap .i64 (t10 - (1 : Int))).toNat) else m3.2 j) j))))) (
    some (.exit m3))

theorem run_ref19_Region_L3 (fu : Nat) (t0 : (Nat × (Nat → S_api_Change))) (t4 : Int) (t10 : Int) (m3 : (Nat × (Nat → S_api_Region))) {d : D} {o : (Lo (Int × (Nat × (Nat → S_api_Region))) E_ref19_Region_L3 (Lo (Int × (Nat × (Nat → S_api_Region))) E_ref19_Region_L1 (Nat × (Nat → S_api_Region))))} (h : F_ref19_Region_L3 fu t0 t4 t10 m3 = some o) (hk : (Lo.post (N_ref19_Region_L3 fu t0 t4 d) (X_ref19_Region_L3 fu t0 t4 d)) o) : Runs Try.prog Try.f15 0 T_ref19_Region_L3 [(0, (D.lit t0.1 32 fun i => (S_api_Change.d (t0.2 i)))), (3, (D.own 3)), (4, (D.int .i64 t4)), (10, (D.int .i64 t10))] [none, none, none, some (.seq 30 m3.1 25 (D.arr m3.1 25 fun i => (S_api_Region.d (m3.2 i))))] d [] := by
  unfold F_ref19_Region_L3 at h
  obtain ⟨p7, h⟩ := chk_some h
  obtain ⟨p8, h⟩ := chk_some h
  obtain ⟨p9, h⟩ := chk_some h
  obtain ⟨p10, h⟩ := chk_some h
  obtain ⟨p11, h⟩ := chk_some h
  obtain ⟨p12, h⟩ := chk_some h
  obtain ⟨p13, h⟩ := chk_some h
  obtain ⟨p14, h⟩ := chk_some h
  obtain ⟨p15, h⟩ := chk_some h
  obtain ⟨p16, h⟩ := chk_some h
  obtain ⟨p17, h⟩ := chk_some h
  obtain ⟨p18, h⟩ := chk_some h
  obtain ⟨r2, cr2, h⟩ := Option.bind_eq_some_iff.1 h
  refine runs_regions 1 [([(.d (D.int .i64 r2))], [0, 3, 4, 10, 131])] (z := ([((decide (t10 > (0 : Int))) = true → All [((decide (t10 > (0 : Int))) = true → (decide (t10 > (0 : Int))) = true), ((decide (t10 > (0 : Int))) = true → (decide (t10 > (0 : Int))) = true), (0 ≤ t10 ∧ t10 < ((m3.1 : Nat) : Int))]), ((decide (t10 > (0 : Int))) = true → All [((decide (t10 > (0 : Int))) = true → (decide (t10 > (0 : Int))) = true)]), ((decide (t10 > (0 : Int))) = true → All [((decide (t10 > (0 : Int))) = true → (decide (t10 > (0 : Int))) = true), (t10.toNat < m3.1)]), ((decide (t10 > (0 : Int))) = true → All [((decide (t10 > (0 : Int))) = true → (decide (t10 > (0 : Int))) = true)]), ((decide (t10 > (0 : Int))) = true → All [((decide (t10 > (0 : Int))) = true → (decide (t10 > (0 : Int))) = true), ((decide (t10 > (0 : Int))) = true → (decide (t10 > (0 : Int))) = true), (0 ≤ (IntKind.wrap .i64 (t10 - (1 : Int))) ∧ (IntKind.wrap .i64 (t10 - (1 : Int))) < ((m3.1 : Nat) : Int))]), ((decide (t10 > (0 : Int))) = true → All [((decide (t10 > (0 : Int))) = true → (decide (t10 > (0 : Int))) = true)]), ((decide (t10 > (0 : Int))) = true → All [((decide (t10 > (0 : Int))) = true → (decide (t10 > (0 : Int))) = true), ((IntKind.wrap .i64 (t10 - (1 : Int))).toNat < m3.1)]), ((decide (t10 > (0 : Int))) = true → All [((decide (t10 > (0 : Int))) = true → (decide (t10 > (0 : Int))) = true), ((decide (t10 > (0 : Int))) = true → (decide (t10 > (0 : Int))) = true)]), ((decide (t10 > (0 : Int))) = true → All [((decide (t10 > (0 : Int))) = true → (decide (t10 > (0 : Int))) = true)]), (((decide (t10 > (0 : Int))) && (!(decide ((m3.2 t10.toNat).f0 < (m3.2 (IntKind.wrap .i64 (t10 - (1 : Int))).toNat).f0)))) = true → All [(((decide (t10 > (0 : Int))) && (!(decide ((m3.2 t10.toNat).f0 < (m3.2 (IntKind.wrap .i64 (t10 - (1 : Int))).toNat).f0)))) = true → ((decide (t10 > (0 : Int))) && (!(decide ((m3.2 t10.toNat).f0 < (m3.2 (IntKind.wrap .i64 (t10 - (1 : Int))).toNat).f0)))) = true), (((decide (t10 > (0 : Int))) && (!(decide ((m3.2 t10.toNat).f0 < (m3.2 (IntKind.wrap .i64 (t10 - (1 : Int))).toNat).f0)))) = true → ((decide (t10 > (0 : Int))) && (!(decide ((m3.2 t10.toNat).f0 < (m3.2 (IntKind.wrap .i64 (t10 - (1 : Int))).toNat).f0)))) = true), (0 ≤ t10 ∧ t10 < ((m3.1 : Nat) : Int))]), (((decide (t10 > (0 : Int))) && (!(decide ((m3.2 t10.toNat).f0 < (m3.2 (IntKind.wrap .i64 (t10 - (1 : Int))).toNat).f0)))) = true → All [(((decide (t10 > (0 : Int))) && (!(decide ((m3.2 t10.toNat).f0 < (m3.2 (IntKind.wrap .i64 (t10 - (1 : Int))).toNat).f0)))) = true → ((decide (t10 > (0 : Int))) && (!(decide ((m3.2 t10.toNat).f0 < (m3.2 (IntKind.wrap .i64 (t10 - (1 : Int))).toNat).f0)))) = true)]), (((decide (t10 > (0 : Int))) && (!(decide ((m3.2 t10.toNat).f0 < (m3.2 (IntKind.wrap .i64 (t10 - (1 : Int))).toNat).f0)))) = true → All [(((decide (t10 > (0 : Int))) && (!(decide ((m3.2 t10.toNat).f0 < (m3.2 (IntKind.wrap .i64 (t10 - (1 : Int))).toNat).f0)))) = true → ((decide (t10 > (0 : Int))) && (!(decide ((m3.2 t10.toNat).f0 < (m3.2 (IntKind.wrap .i64 (t10 - (1 : Int))).toNat).f0)))) = true), (t10.toNat < m3.1)]), (((decide (t10 > (0 : Int))) && (!(decide ((m3.2 t10.toNat).f0 < (m3.2 (IntKind.wrap .i64 (t10 - (1 : Int))).toNat).f0)))) = true → All [(((decide (t10 > (0 : Int))) && (!(decide ((m3.2 t10.toNat).f0 < (m3.2 (IntKind.wrap .i64 (t10 - (1 : Int))).toNat).f0)))) = true → ((decide (t10 > (0 : Int))) && (!(decide ((m3.2 t10.toNat).f0 < (m3.2 (IntKind.wrap .i64 (t10 - (1 : Int))).toNat).f0)))) = true)]), (((decide (t10 > (0 : Int))) && (!(decide ((m3.2 t10.toNat).f0 < (m3.2 (IntKind.wrap .i64 (t10 - (1 : Int))).toNat).f0)))) = true → All [(((decide (t10 > (0 : Int))) && (!(decide ((m3.2 t10.toNat).f0 < (m3.2 (IntKind.wrap .i64 (t10 - (1 : Int))).toNat).f0)))) = true → ((decide (t10 > (0 : Int))) && (!(decide ((m3.2 t10.toNat).f0 < (m3.2 (IntKind.wrap .i64 (t10 - (1 : Int))).toNat).f0)))) = true), (((decide (t10 > (0 : Int))) && (!(decide ((m3.2 t10.toNat).f0 < (m3.2 (IntKind.wrap .i64 (t10 - (1 : Int))).toNat).f0)))) = true → ((decide (t10 > (0 : Int))) && (!(decide ((m3.2 t10.toNat).f0 < (m3.2 (IntKind.wrap .i64 (t10 - (1 : Int))).toNat).f0)))) = true), (0 ≤ (IntKind.wrap .i64 (t10 - (1 : Int))) ∧ (IntKind.wrap .i64 (t10 - (1 : Int))) < ((m3.1 : Nat) : Int))]), (((decide (t10 > (0 : Int))) && (!(decide ((m3.2 t10.toNat).f0 < (m3.2 (IntKind.wrap .i64 (t10 - (1 : Int))).toNat).f0)))) = true → All [(((decide (t10 > (0 : Int))) && (!(decide ((m3.2 t10.toNat).f0 < (m3.2 (IntKind.wrap .i64 (t10 - (1 : Int))).toNat).f0)))) = true → ((decide (t10 > (0 : Int))) && (!(decide ((m3.2 t10.toNat).f0 < (m3.2 (IntKind.wrap .i64 (t10 - (1 : Int))).toNat).f0)))) = true)]), (((decide (t10 > (0 : Int))) && (!(decide ((m3.2 t10.toNat).f0 < (m3.2 (IntKind.wrap .i64 (t10 - (1 : Int))).toNat).f0)))) = true → All [(((decide (t10 > (0 : Int))) && (!(decide ((m3.2 t10.toNat).f0 < (m3.2 (IntKind.wrap .i64 (t10 - (1 : Int))).toNat).f0)))) = true → ((decide (t10 > (0 : Int))) && (!(decide ((m3.2 t10.toNat).f0 < (m3.2 (IntKind.wrap .i64 (t10 - (1 : Int))).toNat).f0)))) = true), ((IntKind.wrap .i64 (t10 - (1 : Int))).toNat < m3.1)]), (((decide (t10 > (0 : Int))) && (!(decide ((m3.2 t10.toNat).f0 < (m3.2 (IntKind.wrap .i64 (t10 - (1 : Int))).toNat).f0)))) = true → All [(((decide (t10 > (0 : Int))) && (!(decide ((m3.2 t10.toNat).f0 < (m3.2 (IntKind.wrap .i64 (t10 - (1 : Int))).toNat).f0)))) = true → ((decide (t10 > (0 : Int))) && (!(decide ((m3.2 t10.toNat).f0 < (m3.2 (IntKind.wrap .i64 (t10 - (1 : Int))).toNat).f0)))) = true), (((decide (t10 > (0 : Int))) && (!(decide ((m3.2 t10.toNat).f0 < (m3.2 (IntKind.wrap .i64 (t10 - (1 : Int))).toNat).f0)))) = true → ((decide (t10 > (0 : Int))) && (!(decide ((m3.2 t10.toNat).f0 < (m3.2 (IntKind.wrap .i64 (t10 - (1 : Int))).toNat).f0)))) = true)]), (((decide (t10 > (0 : Int))) && (!(decide ((m3.2 t10.toNat).f0 < (m3.2 (IntKind.wrap .i64 (t10 - (1 : Int))).toNat).f0)))) = true → All [(((decide (t10 > (0 : Int))) && (!(decide ((m3.2 t10.toNat).f0 < (m3.2 (IntKind.wrap .i64 (t10 - (1 : Int))).toNat).f0)))) = true → ((decide (t10 > (0 : Int))) && (!(decide ((m3.2 t10.toNat).f0 < (m3.2 (IntKind.wrap .i64 (t10 - (1 : Int))).toNat).f0)))) = true)]), ((((decide (t10 > (0 : Int))) && (!(decide ((m3.2 t10.toNat).f0 < (m3.2 (IntKind.wrap .i64 (t10 - (1 : Int))).toNat).f0)))) && ((m3.2 t10.toNat).f0 == (m3.2 (IntKind.wrap .i64 (t10 - (1 : Int))).toNat).f0)) = true → All [((((decide (t10 > (0 : Int))) && (!(decide ((m3.2 t10.toNat).f0 < (m3.2 (IntKind.wrap .i64 (t10 - (1 : Int))).toNat).f0)))) && ((m3.2 t10.toNat).f0 == (m3.2 (IntKind.wrap .i64 (t10 - (1 : Int))).toNat).f0)) = true → (((decide (t10 > (0 : Int))) && (!(decide ((m3.2 t10.toNat).f0 < (m3.2 (IntKind.wrap .i64 (t10 - (1 : Int))).toNat).f0)))) && ((m3.2 t10.toNat).f0 == (m3.2 (IntKind.wrap .i64 (t10 - (1 : Int))).toNat).f0)) = true), ((((decide (t10 > (0 : Int))) && (!(decide ((m3.2 t10.toNat).f0 < (m3.2 (IntKind.wrap .i64 (t10 - (1 : Int))).toNat).f0)))) && ((m3.2 t10.toNat).f0 == (m3.2 (IntKind.wrap .i64 (t10 - (1 : Int))).toNat).f0)) = true → (((decide (t10 > (0 : Int))) && (!(decide ((m3.2 t10.toNat).f0 < (m3.2 (IntKind.wrap .i64 (t10 - (1 : Int))).toNat).f0)))) && ((m3.2 t10.toNat).f0 == (m3.2 (IntKind.wrap .i64 (t10 - (1 : Int))).toNat).f0)) = true), (0 ≤ t10 ∧ t10 < ((m3.1 : Nat) : Int))]), ((((decide (t10 > (0 : Int))) && (!(decide ((m3.2 t10.toNat).f0 < (m3.2 (IntKind.wrap .i64 (t10 - (1 : Int))).toNat).f0)))) && ((m3.2 t10.toNat).f0 == (m3.2 (IntKind.wrap .i64 (t10 - (1 : Int))).toNat).f0)) = true → All [((((decide (t10 > (0 : Int))) && (!(decide ((m3.2 t10.toNat).f0 < (m3.2 (IntKind.wrap .i64 (t10 - (1 : Int))).toNat).f0)))) && ((m3.2 t10.toNat).f0 == (m3.2 (IntKind.wrap .i64 (t10 - (1 : Int))).toNat).f0)) = true → (((decide (t10 > (0 : Int))) && (!(decide ((m3.2 t10.toNat).f0 < (m3.2 (IntKind.wrap .i64 (t10 - (1 : Int))).toNat).f0)))) && ((m3.2 t10.toNat).f0 == (m3.2 (IntKind.wrap .i64 (t10 - (1 : Int))).toNat).f0)) = true)]), ((((decide (t10 > (0 : Int))) && (!(decide ((m3.2 t10.toNat).f0 < (m3.2 (IntKind.wrap .i64 (t10 - (1 : Int))).toNat).f0)))) && ((m3.2 t10.toNat).f0 == (m3.2 (IntKind.wrap .i64 (t10 - (1 : Int))).toNat).f0)) = true → All [((((decide (t10 > (0 : Int))) && (!(decide ((m3.2 t10.toNat).f0 < (m3.2 (IntKind.wrap .i64 (t10 - (1 : Int))).toNat).f0)))) && ((m3.2 t10.toNat).f0 == (m3.2 (IntKind.wrap .i64 (t10 - (1 : Int))).toNat).f0)) = true → (((decide (t10 > (0 : Int))) && (!(decide ((m3.2 t10.toNat).f0 < (m3.2 (IntKind.wrap .i64 (t10 - (1 : Int))).toNat).f0)))) && ((m3.2 t10.toNat).f0 == (m3.2 (IntKind.wrap .i64 (t10 - (1 : Int))).toNat).f0)) = true), (t10.toNat < m3.1)]), ((((decide (t10 > (0 : Int))) && (!(decide ((m3.2 t10.toNat).f0 < (m3.2 (IntKind.wrap .i64 (t10 - (1 : Int))).toNat).f0)))) && ((m3.2 t10.toNat).f0 == (m3.2 (IntKind.wrap .i64 (t10 - (1 : Int))).toNat).f0)) = true → All [((((decide (t10 > (0 : Int))) && (!(decide ((m3.2 t10.toNat).f0 < (m3.2 (IntKind.wrap .i64 (t10 - (1 : Int))).toNat).f0)))) && ((m3.2 t10.toNat).f0 == (m3.2 (IntKind.wrap .i64 (t10 - (1 : Int))).toNat).f0)) = true → (((decide (t10 > (0 : Int))) && (!(decide ((m3.2 t10.toNat).f0 < (m3.2 (IntKind.wrap .i64 (t10 - (1 : Int))).toNat).f0)))) && ((m3.2 t10.toNat).f0 == (m3.2 (IntKind.wrap .i64 (t10 - (1 : Int))).toNat).f0)) = true)]), ((((decide (t10 > (0 : Int))) && (!(decide ((m3.2 t10.toNat).f0 < (m3.2 (IntKind.wrap .i64 (t10 - (1 : Int))).toNat).f0)))) && ((m3.2 t10.toNat).f0 == (m3.2 (IntKind.wrap .i64 (t10 - (1 : Int))).toNat).f0)) = true → All [((((decide (t10 > (0 : Int))) && (!(decide ((m3.2 t10.toNat).f0 < (m3.2 (IntKind.wrap .i64 (t10 - (1 : Int))).toNat).f0)))) && ((m3.2 t10.toNat).f0 == (m3.2 (IntKind.wrap .i64 (t10 - (1 : Int))).toNat).f0)) = true → (((decide (t10 > (0 : Int))) && (!(decide ((m3.2 t10.toNat).f0 < (m3.2 (IntKind.wrap .i64 (t10 - (1 : Int))).toNat).f0)))) && ((m3.2 t10.toNat).f0 == (m3.2 (IntKind.wrap .i64 (t10 - (1 : Int))).toNat).f0)) = true), ((((decide (t10 > (0 : Int))) && (!(decide ((m3.2 t10.toNat).f0 < (m3.2 (IntKind.wrap .i64 (t10 - (1 : Int))).toNat).f0)))) && ((m3.2 t10.toNat).f0 == (m3.2 (IntKind.wrap .i64 (t10 - (1 : Int))).toNat).f0)) = true → (((decide (t10 > (0 : Int))) && (!(decide ((m3.2 t10.toNat).f0 < (m3.2 (IntKind.wrap .i64 (t10 - (1 : Int))).toNat).f0)))) && ((m3.2 t10.toNat).f0 == (m3.2 (IntKind.wrap .i64 (t10 - (1 : Int))).toNat).f0)) = true), (0 ≤ (IntKind.wrap .i64 (t10 - (1 : Int))) ∧ (IntKind.wrap .i64 (t10 - (1 : Int))) < ((m3.1 : Nat) : Int))]), ((((decide (t10 > (0 : Int))) && (!(decide ((m3.2 t10.toNat).f0 < (m3.2 (IntKind.wrap .i64 (t10 - (1 : Int))).toNat).f0)))) && ((m3.2 t10.toNat).f0 == (m3.2 (IntKind.wrap .i64 (t10 - (1 : Int))).toNat).f0)) = true → All [((((decide (t10 > (0 : Int))) && (!(decide ((m3.2 t10.toNat).f0 < (m3.2 (IntKind.wrap .i64 (t10 - (1 : Int))).toNat).f0)))) && ((m3.2 t10.toNat).f0 == (m3.2 (IntKind.wrap .i64 (t10 - (1 : Int))).toNat).f0)) = true → (((decide (t10 > (0 : Int))) && (!(decide ((m3.2 t10.toNat).f0 < (m3.2 (IntKind.wrap .i64 (t10 - (1 : Int))).toNat).f0)))) && ((m3.2 t10.toNat).f0 == (m3.2 (IntKind.wrap .i64 (t10 - (1 : Int))).toNat).f0)) = true)]), ((((decide (t10 > (0 : Int))) && (!(decide ((m3.2 t10.toNat).f0 < (m3.2 (IntKind.wrap .i64 (t10 - (1 : Int))).toNat).f0)))) && ((m3.2 t10.toNat).f0 == (m3.2 (IntKind.wrap .i64 (t10 - (1 : Int))).toNat).f0)) = true → All [((((decide (t10 > (0 : Int))) && (!(decide ((m3.2 t10.toNat).f0 < (m3.2 (IntKind.wrap .i64 (t10 - (1 : Int))).toNat).f0)))) && ((m3.2 t10.toNat).f0 == (m3.2 (IntKind.wrap .i64 (t10 - (1 : Int))).toNat).f0)) = true → (((decide (t10 > (0 : Int))) && (!(decide ((m3.2 t10.toNat).f0 < (m3.2 (IntKind.wrap .i64 (t10 - (1 : Int))).toNat).f0)))) && ((m3.2 t10.toNat).f0 == (m3.2 (IntKind.wrap .i64 (t10 - (1 : Int))).toNat).f0)) = true), ((IntKind.wrap .i64 (t10 - (1 : Int))).toNat < m3.1)]), ((((decide (t10 > (0 : Int))) && (!(decide ((m3.2 t10.toNat).f0 < (m3.2 (IntKind.wrap .i64 (t10 - (1 : Int))).toNat).f0)))) && ((m3.2 t10.toNat).f0 == (m3.2 (IntKind.wrap .i64 (t10 - (1 : Int))).toNat).f0)) = true → All [((((decide (t10 > (0 : Int))) && (!(decide ((m3.2 t10.toNat).f0 < (m3.2 (IntKind.wrap .i64 (t10 - (1 : Int))).toNat).f0)))) && ((m3.2 t10.toNat).f0 == (m3.2 (IntKind.wrap .i64 (t10 - (1 : Int))).toNat).f0)) = true → (((decide (t10 > (0 : Int))) && (!(decide ((m3.2 t10.toNat).f0 < (m3.2 (IntKind.wrap .i64 (t10 - (1 : Int))).toNat).f0)))) && ((m3.2 t10.toNat).f0 == (m3.2 (IntKind.wrap .i64 (t10 - (1 : Int))).toNat).f0)) = true), ((((decide (t10 > (0 : Int))) && (!(decide ((m3.2 t10.toNat).f0 < (m3.2 (IntKind.wrap .i64 (t10 - (1 : Int))).toNat).f0)))) && ((m3.2 t10.toNat).f0 == (m3.2 (IntKind.wrap .i64 (t10 - (1 : Int))).toNat).f0)) = true → (((decide (t10 > (0 : Int))) && (!(decide ((m3.2 t10.toNat).f0 < (m3.2 (IntKind.wrap .i64 (t10 - (1 : Int))).toNat).f0)))) && ((m3.2 t10.toNat).f0 == (m3.2 (IntKind.wrap .i64 (t10 - (1 : Int))).toNat).f0)) = true), FC Try.prog 45 [(S_api_Cube.d (m3.2 t10.toNat).f1), (S_api_Cube.d (m3.2 (IntKind.wrap .i64 (t10 - (1 : Int))).toNat).f1)] [] (D.int .i64 r2) [], All (List.map NoRow [(S_api_Cube.d (m3.2 t10.toNat).f1), (S_api_Cube.d (m3.2 (IntKind.wrap .i64 (t10 - (1 : Int))).toNat).f1)])]), ((((decide (t10 > (0 : Int))) && (!(decide ((m3.2 t10.toNat).f0 < (m3.2 (IntKind.wrap .i64 (t10 - (1 : Int))).toNat).f0)))) && ((m3.2 t10.toNat).f0 == (m3.2 (IntKind.wrap .i64 (t10 - (1 : Int))).toNat).f0)) = true → All [((((decide (t10 > (0 : Int))) && (!(decide ((m3.2 t10.toNat).f0 < (m3.2 (IntKind.wrap .i64 (t10 - (1 : Int))).toNat).f0)))) && ((m3.2 t10.toNat).f0 == (m3.2 (IntKind.wrap .i64 (t10 - (1 : Int))).toNat).f0)) = true → (((decide (t10 > (0 : Int))) && (!(decide ((m3.2 t10.toNat).f0 < (m3.2 (IntKind.wrap .i64 (t10 - (1 : Int))).toNat).f0)))) && ((m3.2 t10.toNat).f0 == (m3.2 (IntKind.wrap .i64 (t10 - (1 : Int))).toNat).f0)) = true)]), (((decide (t10 > (0 : Int))) && (!(decide ((m3.2 t10.toNat).f0 < (m3.2 (IntKind.wrap .i64 (t10 - (1 : Int))).toNat).f0)))) = true → All [(((decide (t10 > (0 : Int))) && (!(decide ((m3.2 t10.toNat).f0 < (m3.2 (IntKind.wrap .i64 (t10 - (1 : Int))).toNat).f0)))) = true → ((decide (t10 > (0 : Int))) && (!(decide ((m3.2 t10.toNat).f0 < (m3.2 (IntKind.wrap .i64 (t10 - (1 : Int))).toNat).f0)))) = true), ((((decide (t10 > (0 : Int))) && (!(decide ((m3.2 t10.toNat).f0 < (m3.2 (IntKind.wrap .i64 (t10 - (1 : Int))).toNat).f0)))) && ((m3.2 t10.toNat).f0 == (m3.2 (IntKind.wrap .i64 (t10 - (1 : Int))).toNat).f0)) = true → (((decide (t10 > (0 : Int))) && (!(decide ((m3.2 t10.toNat).f0 < (m3.2 (IntKind.wrap .i64 (t10 - (1 : Int))).toNat).f0)))) && ((m3.2 t10.toNat).f0 == (m3.2 (IntKind.wrap .i64 (t10 - (1 : Int))).toNat).f0)) = true)]), ((decide (t10 > (0 : Int))) = true → All [((decide (t10 > (0 : Int))) = true → (decide (t10 > (0 : Int))) = true), (((decide (t10 > (0 : Int))) && !(decide ((m3.2 t10.toNat).f0 < (m3.2 (IntKind.wrap .i64 (t10 - (1 : Int))).toNat).f0))) = true → ((decide (t10 > (0 : Int))) && (!(decide ((m3.2 t10.toNat).f0 < (m3.2 (IntKind.wrap .i64 (t10 - (1 : Int))).toNat).f0)))) = true)]), ((true && (decide (t10 > (0 : Int)))) = true → (decide (t10 > (0 : Int))) = true)], [(0, (D.lit t0.1 32 fun i => (S_api_Change.d (t0.2 i)))), (3, (D.own 3)), (4, (D.int .i64 t4)), (10, (D.int .i64 t10)), (131, (D.bool (bif (decide (t10 > (0 : Int))) then (bif (decide ((m3.2 t10.toNat).f0 < (m3.2 (IntKind.wrap .i64 (t10 - (1 : Int))).toNat).f0)) then true else (bif ((m3.2 t10.toNat).f0 == (m3.2 (IntKind.wrap .i64 (t10 - (1 : Int))).toNat).f0) then (decide (r2 < (0 : Int))) else false)) else false)))], [none, none, none, some (.seq 30 m3.1 25 (D.arr m3.1 25 fun i => (S_api_Region.d (m3.2 i))))])) rfl (by kernel_rfl) (And.intro (fun hg => (And.intro (by first | exact fun h => h | exact fun h => (Bool.and_eq_true_iff.1 h).1 | simp_all) (And.intro (by first | exact fun h => h | exact fun h => (Bool.and_eq_true_iff.1 h).1 | simp_all) (And.intro (p7 hg) trivial)))) (And.intro (fun _ => (And.intro (by first | exact fun h => h | exact fun h => (Bool.and_eq_true_iff.1 h).1 | simp_all) trivial)) (And.intro (fun hg => (And.intro (by first | exact fun h => h | exact fun h => (Bool.and_eq_true_iff.1 h).1 | simp_all) (And.intro (p8 hg) trivial))) (And.intro (fun _ => (And.intro (by first | exact fun h => h | exact fun h => (Bool.and_eq_true_iff.1 h).1 | simp_all) trivial)) (And.intro (fun hg => (And.intro (by first | exact fun h => h | exact fun h => (Bool.and_eq_true_iff.1 h).1 | simp_all) (And.intro (by first | exact fun h => h | exact fun h => (Bool.and_eq_true_iff.1 h).1 | simp_all) (And.intro (p9 hg) trivial)))) (And.intro (fun _ => (And.intro (by first | exact fun h => h | exact fun h => (Bool.and_eq_true_iff.1 h).1 | simp_all) trivial)) (And.intro (fun hg => (And.intro (by first | exact fun h => h | exact fun h => (Bool.and_eq_true_iff.1 h).1 | simp_all) (And.intro (p10 hg) trivial))) (And.intro (fun _ => (And.intro (by first | exact fun h => h | exact fun h => (Bool.and_eq_true_iff.1 h).1 | simp_all) (And.intro (by first | exact fun h => h | exact fun h => (Bool.and_eq_true_iff.1 h).1 | simp_all) trivial))) (And.intro (fun _ => (And.intro (by first | exact fun h => h | exact fun h => (Bool.and_eq_true_iff.1 h).1 | simp_all) trivial)) (And.intro (fun hg => (And.intro (by first | exact fun h => h | exact fun h => (Bool.and_eq_true_iff.1 h).1 | simp_all) (And.intro (by first | exact fun h => h | exact fun h => (Bool.and_eq_true_iff.1 h).1 | simp_all) (And.intro (p11 hg) trivial)))) (And.intro (fun _ => (And.intro (by first | exact fun h => h | exact fun h => (Bool.and_eq_true_iff.1 h).1 | simp_all) trivial)) (And.intro (fun hg => (And.intro (by first | exact fun h => h | exact fun h => (Bool.and_eq_true_iff.1 h).1 | simp_all) (And.intro (p12 hg) trivial))) (And.intro (fun _ => (And.intro (by first | exact fun h => h | exact fun h => (Bool.and_eq_true_iff.1 h).1 | simp_all) trivial)) (And.intro (fun hg => (And.intro (by first | exact fun h => h | exact fun h => (Bool.and_eq_true_iff.1 h).1 | simp_all) (And.intro (by first | exact fun h => h | exact fun h => (Bool.and_eq_true_iff.1 h).1 | simp_all) (And.intro (p13 hg) trivial)))) (And.intro (fun _ => (And.intro (by first | exact fun h => h | exact fun h => (Bool.and_eq_true_iff.1 h).1 | simp_all) trivial)) (And.intro (fun hg => (And.intro (by first | exact fun h => h | exact fun h => (Bool.and_eq_true_iff.1 h).1 | simp_all) (And.intro (p14 hg) trivial))) (And.intro (fun _ => (And.intro (by first | exact fun h => h | exact fun h => (Bool.and_eq_true_iff.1 h).1 | simp_all) (And.intro (by first | exact fun h => h | exact fun h => (Bool.and_eq_true_iff.1 h).1 | simp_all) trivial))) (And.intro (fun _ => (And.intro (by first | exact fun h => h | exact fun h => (Bool.and_eq_true_iff.1 h).1 | simp_all) trivial)) (And.intro (fun hg => (And.intro (by first | exact fun h => h | exact fun h => (Bool.and_eq_true_iff.1 h).1 | simp_all) (And.intro (by first | exact fun h => h | exact fun h => (Bool.and_eq_true_iff.1 h).1 | simp_all) (And.intro (p15 hg) trivial)))) (And.intro (fun _ => (And.intro (by first | exact fun h => h | exact fun h => (Bool.and_eq_true_iff.1 h).1 | simp_all) trivial)) (And.intro (fun hg => (And.intro (by first | exact fun h => h | exact fun h => (Bool.and_eq_true_iff.1 h).1 | simp_all) (And.intro (p16 hg) trivial))) (And.intro (fun _ => (And.intro (by first | exact fun h => h | exact fun h => (Bool.and_eq_true_iff.1 h).1 | simp_all) trivial)) (And.intro (fun hg => (And.intro (by first | exact fun h => h | exact fun h => (Bool.and_eq_true_iff.1 h).1 | simp_all) (And.intro (by first | exact fun h => h | exact fun h => (Bool.and_eq_true_iff.1 h).1 | simp_all) (And.intro (p17 hg) trivial)))) (And.intro (fun _ => (And.intro (by first | exact fun h => h | exact fun h => (Bool.and_eq_true_iff.1 h).1 | simp_all) trivial)) (And.intro (fun hg => (And.intro (by first | exact fun h => h | exact fun h => (Bool.and_eq_true_iff.1 h).1 | simp_all) (And.intro (p18 hg) trivial))) (And.intro (fun hg => (And.intro (by first | exact fun h => h | exact fun h => (Bool.and_eq_true_iff.1 h).1 | simp_all) (And.intro (by first | exact fun h => h | exact fun h => (Bool.and_eq_true_iff.1 h).1 | simp_all) (And.intro (fc_ref01_Compare fu (m3.2 t10.toNat).f1 (m3.2 (IntKind.wrap .i64 (t10 - (1 : Int))).toNat).f1 (callIf_some cr2 hg)) (And.intro (And.intro (S_api_Cube.inn _) (And.intro (S_api_Cube.inn _) trivial)) trivial))))) (And.intro (fun _ => (And.intro (by first | exact fun h => h | exact fun h => (Bool.and_eq_true_iff.1 h).1 | simp_all) trivial)) (And.intro (fun _ => (And.intro (by first | exact fun h => h | exact fun h => (Bool.and_eq_true_iff.1 h).1 | simp_all) (And.intro (by first | exact fun h => h | exact fun h => (Bool.and_eq_true_iff.1 h).1 | simp_all) trivial))) (And.intro (fun _ => (And.intro (by first | exact fun h => h | exact fun h => (Bool.and_eq_true_iff.1 h).1 | simp_all) (And.intro (by first | exact fun h => h | exact fun h => (Bool.and_eq_true_iff.1 h).1 | simp_all) trivial))) (And.intro (by first | exact fun h => h | exact fun h => (Bool.and_eq_true_iff.1 h).1 | simp_all) trivial)))))))))))))))))))))))))))))) ?_
  refine runs_if (b := (bif (decide (t10 > (0 : Int))) then (bif (decide ((m3.2 t10.toNat).f0 < (m3.2 (IntKind.wrap .i64 (t10 - (1 : Int))).toNat).f0)) then true else (bif ((m3.2 t10.toNat).f0 == (m3.2 (IntKind.wrap .i64 (t10 - (1 : Int))).toNat).f0) then (decide (r2 < (0 : Int))) else false)) else false)) (by kernel_rfl) (fun hb => ?_) (fun hb => ?_)
  · replace h := ifs_true h hb
    obtain ⟨p19, h⟩ := chk_some h
    obtain ⟨p20, h⟩ := chk_some h
    obtain ⟨p21, h⟩ := chk_some h
    obtain ⟨p22, h⟩ := chk_some h
    obtain ⟨p23, h⟩ := chk_some h
    obtain ⟨p24, h⟩ := chk_some h
    obtain ⟨p25, h⟩ := chk_some h
    obtain ⟨p26, h⟩ := chk_some h
    refine runs_regions 1 [([], [0, 3, 4, 10])] (z := ([(0 ≤ (IntKind.wrap .i64 (t10 - (1 : Int))) ∧ (IntKind.wrap .i64 (t10 - (1 : Int))) < ((m3.1 : Nat) : Int)), ((IntKind.wrap .i64 (t10 - (1 : Int))).toNat < m3.1), (0 ≤ t10 ∧ t10 < ((m3.1 : Nat) : Int)), (t10.toNat < m3.1), (0 ≤ t10 ∧ t10 < ((m3.1 : Nat) : Int)), (t10.toNat < m3.1), (0 ≤ (IntKind.wrap .i64 (t10 - (1 : Int))) ∧ (IntKind.wrap .i64 (t10 - (1 : Int))) < ((m3.1 : Nat) : Int)), ((IntKind.wrap .i64 (t10 - (1 : Int))).toNat < m3.1)], [(0, (D.lit t0.1 32 fun i => (S_api_Change.d (t0.2 i)))), (3, (D.own 3)), (4, (D.int .i64 t4)), (10, (D.int .i64 t10))], [none, none, none, some (.seq 30 m3.1 25 (D.arr m3.1 25 fun j => (if j = (IntKind.wrap .i64 (t10 - (1 : Int))).toNat then (S_api_Region.d (m3.2 t10.toNat)) else (if j = t10.toNat then (S_api_Region.d (m3.2 (IntKind.wrap .i64 (t10 - (1 : Int))).toNat)) else (S_api_Region.d (m3.2 j))))))])) rfl (by kernel_rfl) (And.intro p19 (And.intro p20 (And.intro p21 (And.intro p22 (And.intro p23 (And.intro p24 (And.intro p25 (And.intro p26 trivial)))))))) ?_
    refine cast_fun (F := fun q => Runs Try.prog Try.f15 0 _ [(0, (D.lit t0.1 32 fun i => (S_api_Change.d (t0.2 i)))), (3, (D.own 3)), (4, (D.int .i64 t4)), (10, (D.int .i64 t10))] [none, none, none, some (.seq 30 m3.1 25 (D.arr m3.1 25 q))] d []) (funext fun j => (show (if j = (IntKind.wrap .i64 (t10 - (1 : Int))).toNat then (S_api_Region.d (m3.2 t10.toNat)) else (if j = t10.toNat then (S_api_Region.d (m3.2 (IntKind.wrap .i64 (t10 - (1 : Int))).toNat)) else (S_api_Region.d (m3.2 j)))) = (fun x : S_api_Region => (S_api_Region.d x)) ((fun j => if j = (IntKind.wrap .i64 (t10 - (1 : Int))).toNat then (m3.2 t10.toNat) else (fun j => if j = t10.toNat then (m3.2 (IntKind.wrap .i64 (t10 - (1 : Int))).toNat) else m3.2 j) j) j) from (d_ite (f := fun x : S_api_Region => (S_api_Region.d x)) rfl (d_ite (f := fun x : S_api_Region => (S_api_Region.d x)) rfl rfl)))) ?_
    refine runs_regions 1 [([], [0, 3, 4, 10])] (z := ([], [(0, (D.lit t0.1 32 fun i => (S_api_Change.d (t0.2 i)))), (3, (D.own 3)), (4, (D.int .i64 t4)), (10, (D.int .i64 (IntKind.wrap .i64 (t10 - (1 : Int)))))], [none, none, none, some (.seq 30 m3.1 25 (D.arr m3.1 25 fun i => (S_api_Region.d ((fun j => if j = (IntKind.wrap .i64 (t10 - (1 : Int))).toNat then (m3.2 t10.toNat) else (fun j => if j = t10.toNat then (m3.2 (IntKind.wrap .i64 (t10 - (1 : Int))).toNat) else m3.2 j) j) i))))])) rfl (by kernel_rfl) trivial ?_
    rw [← Option.some.inj h] at hk
    refine runs_to (ts := [0, 3, 4, 10]) (T' := T_ref19_Region_L3) (env' := [(0, (D.lit t0.1 32 fun i => (S_api_Change.d (t0.2 i)))), (3, (D.own 3)), (4, (D.int .i64 t4)), (10, (D.int .i64 (IntKind.wrap .i64 (t10 - (1 : Int)))))]) (h2 := [none, none, none, some (.seq 30 m3.1 25 (D.arr m3.1 25 fun i => (S_api_Region.d ((fun j => if j = (IntKind.wrap .i64 (t10 - (1 : Int))).toNat then (m3.2 t10.toNat) else (fun j => if j = t10.toNat then (m3.2 (IntKind.wrap .i64 (t10 - (1 : Int))).toNat) else m3.2 j) j) i))))]) (by kernel_rfl) (by kernel_rfl) (And.intro (.inl rfl) (And.intro (.inl rfl) (And.intro (.inl rfl) (And.intro (.inr rfl) trivial)))) (Nat.zero_le _) (And.intro (fun _ _ => (S_api_Region.inn _)) trivial) (And.intro (fun _ _ => (S_api_Change.inn _)) (And.intro (bel_of rfl) (And.intro trivial (And.intro trivial trivial)))) ?_
    exact hk
  · replace h := ifs_false h hb
    rw [← Option.some.inj h] at hk
    refine runs_to (ts := [0, 3, 4]) (T' := X_ref19_Region_L3T) (env' := [(0, (D.lit t0.1 32 fun i => (S_api_Change.d (t0.2 i)))), (3, (D.own 3)), (4, (D.int .i64 t4))]) (h2 := [none, none, none, some (.seq 30 m3.1 25 (D.arr m3.1 25 fun i => (S_api_Region.d (m3.2 i))))]) (by kernel_rfl) (by kernel_rfl) (And.intro (.inl rfl) (And.intro (.inl rfl) (And.intro (.inl rfl) (And.intro (.inr rfl) trivial)))) (Nat.zero_le _) (And.intro (fun _ _ => (S_api_Region.inn _)) trivial) (And.intro (fun _ _ => (S_api_Change.inn _)) (And.intro (bel_of rfl) (And.intro trivial trivial))) ?_
    exact hk

theorem iter_ref19_Region_L3 (fu : Nat) (t0 : (Nat × (Nat → S_api_Change))) (t4 : Int) {d : D} (k : Nat) (s : (Int × (Nat × (Nat → S_api_Region)))) {o : E_ref19_Region_L3 ⊕ (Lo (Int × (Nat × (Nat → S_api_Region))) E_ref19_Region_L1 (Nat × (Nat → S_api_Region)))} (h : iter (fun s => F_ref19_Region_L3 fu t0 t4 s.1 s.2) k s = some o) (hx : X_ref19_Region_L3 fu t0 t4 d o) : N_ref19_Region_L3 fu t0 t4 d s :=
  iter_post (K := N_ref19_Region_L3 fu t0 t4 d) (X := X_ref19_Region_L3 fu t0 t4 d) (fun s _ h hk => run_ref19_Region_L3 fu t0 t4 s.1 s.2 h hk) k s o h hx

def F_ref19_Region_L1 (fu : Nat) (t0 : (Nat × (Nat → S_api_Change))) (t4 : Int) (m0 : (Nat × (Nat → S_api_Region))) : Option (Lo (Int × (Nat × (Nat → S_api_Region))) E_ref19_Region_L1 (Nat × (Nat → S_api_Region))) :=
  ifs (decide (t4 < ((t0.1 : Nat) : Int))) (
    chk (0 ≤ t4 ∧ t4 < ((t0.1 : Nat) : Int)) <|
    (F_ref01_Cube fu (t0.2 t4.toNat).f1.f1).bind fun r0 =>
    after (iter (fun s => F_ref19_Region_L2 fu t0 t4 m0 (t0.2 t4.toNat).f1.f1 s.1 s.2) fu (r0, (0 : Int))) fun e5 =>
    ifs (!e5) (
      some (.next ((IntKind.wrap .i64 (t4 + (1 : Int))), m0))) (
      chk (0 ≤ t4 ∧ t4 < ((t0.1 : Nat) : Int)) <|
      chk (RoomOk (m0.1 + 1) 200) <|
      after (iter (fun s => F_ref19_Region_L3 fu t0 t4 s.1 s.2) fu ((IntKind.wrap .i64 ((((m0.1 + 1) : Nat) : Int) - (1 : Int))), ((m0.1 + 1), (fun i => if i < m0.1 then m0.2 i else (fun i => ([(S_api_Region.mk (t0.2 t4.toNat).f0 (t0.2 t4.toNat).f1.f1)] : List S_api_Region).getD i S_api_Region.z) (i - m0.1))))) fun e28 =>
      some (.next ((IntKind.wrap .i64 (t4 + (1 : Int))), e28)))) (
    some (.exit m0))

theorem run_ref19_Region_L1 (fu : Nat) (t0 : (Nat × (Nat → S_api_Change))) (t4 : Int) (m0 : (Nat × (Nat → S_api_Region))) {d : D} {o : (Lo (Int × (Nat × (Nat → S_api_Region))) E_ref19_Region_L1 (Nat × (Nat → S_api_Region)))} (h : F_ref19_Region_L1 fu t0 t4 m0 = some o) (hk : (Lo.post (N_ref19_Region_L1 fu t0 d) (X_ref19_Region_L1 fu t0 d)) o) : Runs Try.prog Try.f15 0 T_ref19_Region_L1 [(0, (D.lit t0.1 32 fun i => (S_api_Change.d (t0.2 i)))), (3, (D.own 0)), (4, (D.int .i64 t4))] [some (.seq 30 m0.1 25 (D.arr m0.1 25 fun i => (S_api_Region.d (m0.2 i))))] d [] := by
  unfold F_ref19_Region_L1 at h
  refine runs_regions 1 [([], [0, 3, 4, 14])] (z := ([], [(0, (D.lit t0.1 32 fun i => (S_api_Change.d (t0.2 i)))), (3, (D.own 0)), (4, (D.int .i64 t4)), (14, (D.bool (decide (t4 < ((t0.1 : Nat) : Int)))))], [some (.seq 30 m0.1 25 (D.arr m0.1 25 fun i => (S_api_Region.d (m0.2 i))))])) rfl (by kernel_rfl) trivial ?_
  refine runs_if (b := (decide (t4 < ((t0.1 : Nat) : Int)))) (by kernel_rfl) (fun hb => ?_) (fun hb => ?_)
  · replace h := ifs_true h hb
    obtain ⟨p0, h⟩ := chk_some h
    obtain ⟨r0, cr0, h⟩ := Option.bind_eq_some_iff.1 h
    refine runs_regions 3 [([], [0, 3, 4, 5]), ([(.d (D.bool r0))], [0, 3, 4, 5, 6]), ([], [0, 3, 4, 5, 6, 7])] (z := ([(0 ≤ t4 ∧ t4 < ((t0.1 : Nat) : Int)), FC Try.prog 36 [(S_api_Cube.d (t0.2 t4.toNat).f1.f1)] [] (D.bool r0) [], All (List.map NoRow [(S_api_Cube.d (t0.2 t4.toNat).f1.f1)])], [(0, (D.lit t0.1 32 fun i => (S_api_Change.d (t0.2 i)))), (3, (D.own 0)), (4, (D.int .i64 t4)), (5, (D.ptr 1 [])), (6, (D.bool r0)), (7, (D.int .i64 (0 : Int)))], [some (.seq 30 m0.1 25 (D.arr m0.1 25 fun i => (S_api_Region.d (m0.2 i)))), some (.box (S_api_Cube.d (t0.2 t4.toNat).f1.f1))])) rfl (by kernel_rfl) (And.intro p0 (And.intro (fc_ref01_Cube fu (t0.2 t4.toNat).f1.f1 cr0) (And.intro (And.intro (S_api_Cube.inn _) trivial) trivial))) ?_
    refine runs_to (ts := [0, 3, 4, 5, 6, 7]) (T' := T_ref19_Region_L2) (env' := [(0, (D.lit t0.1 32 fun i => (S_api_Change.d (t0.2 i)))), (3, (D.own 0)), (4, (D.int .i64 t4)), (5, (D.ptr 1 [])), (6, (D.bool r0)), (7, (D.int .i64 (0 : Int)))]) (h2 := [some (.seq 30 m0.1 25 (D.arr m0.1 25 fun i => (S_api_Region.d (m0.2 i)))), some (.box (S_api_Cube.d (t0.2 t4.toNat).f1.f1))]) (by kernel_rfl) (by kernel_rfl) (And.intro (.inr rfl) (And.intro (.inr rfl) trivial)) (Nat.zero_le _) (And.intro (fun _ _ => (S_api_Region.inn _)) (And.intro (S_api_Cube.inn _) trivial)) (And.intro (fun _ _ => (S_api_Change.inn _)) (And.intro (bel_of rfl) (And.intro trivial (And.intro (bel_of rfl) (And.intro trivial (And.intro trivial trivial)))))) ?_
    rcases after_some h with ⟨e5, hi, h⟩ | hi
    · refine iter_ref19_Region_L2 fu t0 t4 m0 (t0.2 t4.toNat).f1.f1 fu (r0, (0 : Int)) hi ?_
      show Runs Try.prog Try.f15 0 X_ref19_Region_L2T [(0, (D.lit t0.1 32 fun i => (S_api_Change.d (t0.2 i)))), (3, (D.own 0)), (4, (D.int .i64 t4)), (5, (D.ptr 1 [])), (6, (D.bool e5))] [some (.seq 30 m0.1 25 (D.arr m0.1 25 fun i => (S_api_Region.d (m0.2 i)))), some (.box (S_api_Cube.d (t0.2 t4.toNat).f1.f1))] d []
      refine runs_regions 1 [([], [0, 3, 4, 5, 72])] (z := ([], [(0, (D.lit t0.1 32 fun i => (S_api_Change.d (t0.2 i)))), (3, (D.own 0)), (4, (D.int .i64 t4)), (5, (D.ptr 1 [])), (72, (D.bool (!e5)))], [some (.seq 30 m0.1 25 (D.arr m0.1 25 fun i => (S_api_Region.d (m0.2 i)))), some (.box (S_api_Cube.d (t0.2 t4.toNat).f1.f1))])) rfl (by kernel_rfl) trivial ?_
      refine runs_if (b := (!e5)) (by kernel_rfl) (fun hb => ?_) (fun hb => ?_)
      · replace h := ifs_true h hb
        refine runs_regions 1 [([], [0, 3, 4])] (z := ([], [(0, (D.lit t0.1 32 fun i => (S_api_Change.d (t0.2 i)))), (3, (D.own 0)), (4, (D.int .i64 (IntKind.wrap .i64 (t4 + (1 : Int)))))], [some (.seq 30 m0.1 25 (D.arr m0.1 25 fun i => (S_api_Region.d (m0.2 i)))), some (.box (S_api_Cube.d (t0.2 t4.toNat).f1.f1))])) rfl (by kernel_rfl) trivial ?_
        rw [← Option.some.inj h] at hk
        refine runs_to (ts := [0, 3, 4]) (T' := T_ref19_Region_L1) (env' := [(0, (D.lit t0.1 32 fun i => (S_api_Change.d (t0.2 i)))), (3, (D.own 0)), (4, (D.int .i64 (IntKind.wrap .i64 (t4 + (1 : Int)))))]) (h2 := [some (.seq 30 m0.1 25 (D.arr m0.1 25 fun i => (S_api_Region.d (m0.2 i))))]) (by kernel_rfl) (by kernel_rfl) (And.intro (.inr rfl) trivial) (Nat.zero_le _) (And.intro (fun _ _ => (S_api_Region.inn _)) trivial) (And.intro (fun _ _ => (S_api_Change.inn _)) (And.intro (bel_of rfl) (And.intro trivial trivial))) ?_
        exact hk
      · replace h := ifs_false h hb
        obtain ⟨p5, h⟩ := chk_some h
        obtain ⟨p6, h⟩ := chk_some h
        refine runs_regions 3 [([], [0, 3, 4, 9]), ([(.lit fun i => (S_api_Region.d ((fun i => ([(S_api_Region.mk (t0.2 t4.toNat).f0 (t0.2 t4.toNat).f1.f1)] : List S_api_Region).getD i S_api_Region.z) i))), (.d (D.arr (m0.1 + 1) 25 fun i1 => (S_api_Region.d ((fun i => if i < m0.1 then m0.2 i else (fun i => ([(S_api_Region.mk (t0.2 t4.toNat).f0 (t0.2 t4.toNat).f1.f1)] : List S_api_Region).getD i S_api_Region.z) (i - m0.1)) i1))))], [0, 3, 4]), ([], [0, 3, 4, 10])] (z := ([(0 ≤ t4 ∧ t4 < ((t0.1 : Nat) : Int)), TabOk [(D.cons (D.int .i64 (t0.2 t4.toNat).f0) (D.cons (S_api_Cube.d (t0.2 t4.toNat).f1.f1) D.nil))] 25 (D.arr 1 25 fun i => (S_api_Region.d ((fun i => ([(S_api_Region.mk (t0.2 t4.toNat).f0 (t0.2 t4.toNat).f1.f1)] : List S_api_Region).getD i S_api_Region.z) i))), (RoomOk (m0.1 + 1) 200), CatOk (D.arr m0.1 25 fun i => (S_api_Region.d (m0.2 i))) (D.arr 1 25 fun i => (S_api_Region.d ((fun i => ([(S_api_Region.mk (t0.2 t4.toNat).f0 (t0.2 t4.toNat).f1.f1)] : List S_api_Region).getD i S_api_Region.z) i))) (D.arr (m0.1 + 1) 25 fun i1 => (S_api_Region.d ((fun i => if i < m0.1 then m0.2 i else (fun i => ([(S_api_Region.mk (t0.2 t4.toNat).f0 (t0.2 t4.toNat).f1.f1)] : List S_api_Region).getD i S_api_Region.z) (i - m0.1)) i1)))], [(0, (D.lit t0.1 32 fun i => (S_api_Change.d (t0.2 i)))), (3, (D.own 3)), (4, (D.int .i64 t4)), (10, (D.int .i64 (IntKind.wrap .i64 ((((m0.1 + 1) : Nat) : Int) - (1 : Int)))))], [none, some (.box (S_api_Cube.d (t0.2 t4.toNat).f1.f1)), some (.box (D.cons (D.int .i64 (t0.2 t4.toNat).f0) (D.cons (S_api_Cube.d (t0.2 t4.toNat).f1.f1) D.nil))), some (.seq 30 (m0.1 + 1) 25 (D.arr (m0.1 + 1) 25 fun i1 => (S_api_Region.d ((fun i => if i < m0.1 then m0.2 i else (fun i => ([(S_api_Region.mk (t0.2 t4.toNat).f0 (t0.2 t4.toNat).f1.f1)] : List S_api_Region).getD i S_api_Region.z) (i - m0.1)) i1))))])) rfl (by kernel_rfl) (And.intro p5 (And.intro (tabOk_arr rfl (And.intro rfl trivial)) (And.intro p6 (And.intro (catOk_arr' rfl fun i => (d_ite (f := fun x : S_api_Region => (S_api_Region.d x)) rfl rfl).symm) trivial)))) ?_
        refine runs_to (ts := [0, 3, 4, 10]) (T' := T_ref19_Region_L3) (env' := [(0, (D.lit t0.1 32 fun i => (S_api_Change.d (t0.2 i)))), (3, (D.own 3)), (4, (D.int .i64 t4)), (10, (D.int .i64 (IntKind.wrap .i64 ((((m0.1 + 1) : Nat) : Int) - (1 : Int)))))]) (h2 := [none, none, none, some (.seq 30 (m0.1 + 1) 25 (D.arr (m0.1 + 1) 25 fun i1 => (S_api_Region.d ((fun i => if i < m0.1 then m0.2 i else (fun i => ([(S_api_Region.mk (t0.2 t4.toNat).f0 (t0.2 t4.toNat).f1.f1)] : List S_api_Region).getD i S_api_Region.z) (i - m0.1)) i1))))]) (by kernel_rfl) (by kernel_rfl) (And.intro (.inl rfl) (And.intro (.inl rfl) (And.intro (.inl rfl) (And.intro (.inr rfl) trivial)))) (Nat.zero_le _) (And.intro (fun _ _ => (S_api_Region.inn _)) trivial) (And.intro (fun _ _ => (S_api_Change.inn _)) (And.intro (bel_of rfl) (And.intro trivial (And.intro trivial trivial)))) ?_
        rcases after_some h with ⟨e28, hi, h⟩ | hi
        · refine iter_ref19_Region_L3 fu t0 t4 fu ((IntKind.wrap .i64 ((((m0.1 + 1) : Nat) : Int) - (1 : Int))), ((m0.1 + 1), (fun i => if i < m0.1 then m0.2 i else (fun i => ([(S_api_Region.mk (t0.2 t4.toNat).f0 (t0.2 t4.toNat).f1.f1)] : List S_api_Region).getD i S_api_Region.z) (i - m0.1)))) hi ?_
          show Runs Try.prog Try.f15 0 X_ref19_Region_L3T [(0, (D.lit t0.1 32 fun i => (S_api_Change.d (t0.2 i)))), (3, (D.own 3)), (4, (D.int .i64 t4))] [none, none, none, some (.seq 30 e28.1 25 (D.arr e28.1 25 fun i => (S_api_Region.d (e28.2 i))))] d []
          refine runs_regions 1 [([], [0, 3, 4])] (z := ([], [(0, (D.lit t0.1 32 fun i => (S_api_Change.d (t0.2 i)))), (3, (D.own 3)), (4, (D.int .i64 (IntKind.wrap .i64 (t4 + (1 : Int)))))], [none, none, none, some (.seq 30 e28.1 25 (D.arr e28.1 25 fun i => (S_api_Region.d (e28.2 i))))])) rfl (by kernel_rfl) trivial ?_
          rw [← Option.some.inj h] at hk
          refine runs_to (ts := [0, 3, 4]) (T' := T_ref19_Region_L1) (env' := [(0, (D.lit t0.1 32 fun i => (S_api_Change.d (t0.2 i)))), (3, (D.own 3)), (4, (D.int .i64 (IntKind.wrap .i64 (t4 + (1 : Int)))))]) (h2 := [none, none, none, some (.seq 30 e28.1 25 (D.arr e28.1 25 fun i => (S_api_Region.d (e28.2 i))))]) (by kernel_rfl) (by kernel_rfl) (And.intro (.inl rfl) (And.intro (.inl rfl) (And.intro (.inl rfl) (And.intro (.inr rfl) trivial)))) (Nat.zero_le _) (And.intro (fun _ _ => (S_api_Region.inn _)) trivial) (And.intro (fun _ _ => (S_api_Change.inn _)) (And.intro (bel_of rfl) (And.intro trivial trivial))) ?_
          refine runs_rename 0 3 (row := (.seq 30 e28.1 25 (D.arr e28.1 25 fun i => (S_api_Region.d (e28.2 i))))) (by decide) (Nat.zero_le _) rfl rfl (And.intro (fun _ _ => (S_api_Region.inn _)) trivial) (And.intro (fun _ _ => (S_api_Change.inn _)) (And.intro (rn_own rfl) (And.intro trivial trivial))) ?_
          refine runs_to (ts := [0, 3, 4]) (T' := T_ref19_Region_L1) (env' := [(0, (D.lit t0.1 32 fun i => (S_api_Change.d (t0.2 i)))), (3, (D.own 0)), (4, (D.int .i64 (IntKind.wrap .i64 (t4 + (1 : Int)))))]) (h2 := [some (.seq 30 e28.1 25 (D.arr e28.1 25 fun i => (S_api_Region.d (e28.2 i))))]) (by kernel_rfl) (by kernel_rfl) (And.intro (.inr rfl) trivial) (Nat.zero_le _) (And.intro (fun _ _ => (S_api_Region.inn _)) trivial) (And.intro (fun _ _ => (S_api_Change.inn _)) (And.intro (bel_of rfl) (And.intro trivial trivial))) ?_
          exact hk
        · exact iter_ref19_Region_L3 fu t0 t4 fu ((IntKind.wrap .i64 ((((m0.1 + 1) : Nat) : Int) - (1 : Int))), ((m0.1 + 1), (fun i => if i < m0.1 then m0.2 i else (fun i => ([(S_api_Region.mk (t0.2 t4.toNat).f0 (t0.2 t4.toNat).f1.f1)] : List S_api_Region).getD i S_api_Region.z) (i - m0.1)))) hi hk
    · exact iter_ref19_Region_L2 fu t0 t4 m0 (t0.2 t4.toNat).f1.f1 fu (r0, (0 : Int)) hi hk
  · replace h := ifs_false h hb
    rw [← Option.some.inj h] at hk
    refine runs_to (ts := [3]) (T' := X_ref19_Region_L1T) (env' := [(3, (D.own 0))]) (h2 := [some (.seq 30 m0.1 25 (D.arr m0.1 25 fun i => (S_api_Region.d (m0.2 i))))]) (by kernel_rfl) (by kernel_rfl) (And.intro (.inr rfl) trivial) (Nat.zero_le _) (And.intro (fun _ _ => (S_api_Region.inn _)) trivial) (And.intro (bel_of rfl) trivial) ?_
    exact hk

theorem iter_ref19_Region_L1 (fu : Nat) (t0 : (Nat × (Nat → S_api_Change))) {d : D} (k : Nat) (s : (Int × (Nat × (Nat → S_api_Region)))) {o : E_ref19_Region_L1 ⊕ (Nat × (Nat → S_api_Region))} (h : iter (fun s => F_ref19_Region_L1 fu t0 s.1 s.2) k s = some o) (hx : X_ref19_Region_L1 fu t0 d o) : N_ref19_Region_L1 fu t0 d s :=
  iter_post (K := N_ref19_Region_L1 fu t0 d) (X := X_ref19_Region_L1 fu t0 d) (fun s _ h hk => run_ref19_Region_L1 fu t0 s.1 s.2 h hk) k s o h hx

/-- podesta/podestaref19.Region -/
def F_ref19_Region (fu : Nat) (t0 : (Nat × (Nat → S_api_Change))) : Option (Nat × (Nat → S_api_Region)) :=
  after (iter (fun s => F_ref19_Region_L1 fu t0 s.1 s.2) fu ((0 : Int), (0, (fun _ => S_api_Region.z)))) fun e29 =>
  some e29

theorem run_ref19_Region (fu : Nat) (t0 : (Nat × (Nat → S_api_Change))) {d : D} {r : (Nat × (Nat → S_api_Region))} (h : F_ref19_Region fu t0 = some r) (hk : (K_ref19_Region d) r) : Runs Try.prog Try.f15 0 T_ref19_Region [(0, (D.lit t0.1 32 fun i => (S_api_Change.d (t0.2 i))))] [] d [] := by
  unfold F_ref19_Region at h
  refine runs_regions 3 [([], [0]), ([(.nil 30 25 (D.arr 0 25 fun i => (S_api_Region.d ((fun _ => S_api_Region.z) i))))], [0, 3]), ([], [0, 3, 4])] (z := ([EmptyOk (D.arr 0 25 fun i => (S_api_Region.d ((fun _ => S_api_Region.z) i)))], [(0, (D.lit t0.1 32 fun i => (S_api_Change.d (t0.2 i)))), (3, (D.own 0)), (4, (D.int .i64 (0 : Int)))], [some (.seq 30 0 25 (D.arr 0 25 fun i => (S_api_Region.d ((fun _ => S_api_Region.z) i))))])) rfl (by kernel_rfl) (And.intro emptyOk_arr trivial) ?_
  refine runs_to (ts := [0, 3, 4]) (T' := T_ref19_Region_L1) (env' := [(0, (D.lit t0.1 32 fun i => (S_api_Change.d (t0.2 i)))), (3, (D.own 0)), (4, (D.int .i64 (0 : Int)))]) (h2 := [some (.seq 30 0 25 (D.arr 0 25 fun i => (S_api_Region.d ((fun _ => S_api_Region.z) i))))]) (by kernel_rfl) (by kernel_rfl) (And.intro (.inr rfl) trivial) (Nat.zero_le _) (And.intro (fun _ _ => (S_api_Region.inn _)) trivial) (And.intro (fun _ _ => (S_api_Change.inn _)) (And.intro (bel_of rfl) (And.intro trivial trivial))) ?_
  rcases after_some h with ⟨e29, hi, h⟩ | hi
  · refine iter_ref19_Region_L1 fu t0 fu ((0 : Int), (0, (fun _ => S_api_Region.z))) hi ?_
    show Runs Try.prog Try.f15 0 X_ref19_Region_L1T [(3, (D.own 0))] [some (.seq 30 e29.1 25 (D.arr e29.1 25 fun i => (S_api_Region.d (e29.2 i))))] d []
    refine runs_regions 1 [([], [2])] (z := ([], [(2, (D.own 0))], [some (.seq 30 e29.1 25 (D.arr e29.1 25 fun i => (S_api_Region.d (e29.2 i))))])) rfl (by kernel_rfl) trivial ?_
    rw [← Option.some.inj h] at hk
    obtain rfl : d = (D.lit e29.1 25 fun i => (S_api_Region.d (e29.2 i))) := hk
    refine runs_freeze 0 (row := (.seq 30 e29.1 25 (D.arr e29.1 25 fun i => (S_api_Region.d (e29.2 i))))) rfl ?_
    exact runs_ret (by kernel_rfl) trivial (Nat.le_refl 0) trivial (fun _ _ => (S_api_Region.inn _))
  · exact iter_ref19_Region_L1 fu t0 fu ((0 : Int), (0, (fun _ => S_api_Region.z))) hi hk

theorem fc_ref19_Region (fu : Nat) (t0 : (Nat × (Nat → S_api_Change))) {r : (Nat × (Nat → S_api_Region))} (h : F_ref19_Region fu t0 = some r) : FC Try.prog 15 [(D.lit t0.1 32 fun i => (S_api_Change.d (t0.2 i)))] [] (D.lit r.1 25 fun i => (S_api_Region.d (r.2 i))) [] := by
  refine fc_of_runs (fn := Try.f15) (c := Try.f15.body.getD .skip) (by kernel_rfl) (by kernel_rfl) ?_
  refine runs_to (ts := [0]) (T' := T_ref19_Region) (env' := [(0, (D.lit t0.1 32 fun i => (S_api_Change.d (t0.2 i))))]) (h2 := []) (by kernel_rfl) (by kernel_rfl) trivial (Nat.le_refl _) trivial (And.intro (fun _ _ => (S_api_Change.inn _)) trivial) ?_
  exact run_ref19_Region fu t0 h rfl

def K_region_For (d : D) (r : (Nat × (Nat → S_api_Mod))) : Prop := d = (D.lit r.1 31 fun i => (S_api_Mod.d (r.2 i)))

noncomputable def T_region_For : List Item := norm 200 [.code (Try.f16.body.getD .skip)]

noncomputable def T_region_For_L1 : List Item := norm 200 (nxt (nxt (nxt T_region_For)))

noncomputable def X_region_For_L1T : List Item := norm 200 (cndF (nxt (nxt (nxt (nxt T_region_For)))))

abbrev E_region_For_L1 := (Nat × (Nat → S_api_Mod))

def N_region_For_L1 (_fu : Nat) (t1 : Int) (t9 : (Nat × (Nat → S_api_Change))) (t10 : Int) (d : D) (s : (Int × (Nat × (Nat → S_api_Mod)))) : Prop := Runs Try.prog Try.f16 0 T_region_For_L1 [(1, (D.int .i64 t1)), (5, (D.own 0)), (9, (D.lit t9.1 32 fun i => (S_api_Change.d (t9.2 i)))), (10, (D.int .i64 t10)), (11, (D.int .i64 s.1))] [some (.seq 39 s.2.1 31 (D.arr s.2.1 31 fun i => (S_api_Mod.d (s.2.2 i))))] d []

def X_region_For_L1 (_fu : Nat) (_t1 : Int) (_t9 : (Nat × (Nat → S_api_Change))) (_t10 : Int) (d : D) : E_region_For_L1 ⊕ (Nat × (Nat → S_api_Mod)) → Prop
  | .inl e => Runs Try.prog Try.f16 0 X_region_For_L1T [(5, (D.own 0))] [some (.seq 39 e.1 31 (D.arr e.1 31 fun i => (S_api_Mod.d (e.2 i))))] d []
  | .inr o => (K_region_For d) o

def F_region_For_L1 (_fu : Nat) (t1 : Int) (t9 : (Nat × (Nat → S_api_Change))) (t10 : Int) (t11 : Int) (m0 : (Nat × (Nat → S_api_Mod))) : Option (Lo (Int × (Nat × (Nat → S_api_Mod))) E_region_For_L1 (Nat × (Nat → S_api_Mod))) :=
  ifs (decide (t11 < t10)) (
    chk (0 ≤ t11 ∧ t11 < ((t9.1 : Nat) : Int)) <|
    ifs ((t9.2 t11.toNat).f0 == t1) (
      (F_slices_Clone_api_Act (t9.2 t11.toNat).f1.f3).bind fun r0 =>
      (F_slices_Clip_api_Act r0).bind fun r1 =>
      chk (RoomOk (m0.1 + 1) 264) <|
      some (.next ((IntKind.wrap .i64 (t11 + (1 : Int))), ((m0.1 + 1), (fun i => if i < m0.1 then m0.2 i else (fun i => ([(S_api_Mod.mk (t9.2 t11.toNat).f1.f0 (t9.2 t11.toNat).f1.f1 (t9.2 t11.toNat).f1.f2 r1 (t9.2 t11.toNat).f1.f4 (t9.2 t11.toNat).f1.f5 (t9.2 t11.toNat).f1.f6 (t9.2 t11.toNat).f1.f7)] : List S_api_Mod).getD i S_api_Mod.z) (i - m0.1)))))) (
      some (.next ((IntKind.wrap .i64 (t11 + (1 : Int))), m0)))) (
    some (.exit m0))

theorem run_region_For_L1 (fu : Nat) (t1 : Int) (t9 : (Nat × (Nat → S_api_Change))) (t10 : Int) (t11 : Int) (m0 : (Nat × (Nat → S_api_Mod))) {d : D} {o : (Lo (Int × (Nat × (Nat → S_api_Mod))) E_region_For_L1 (Nat × (Nat → S_api_Mod)))} (h : F_region_For_L1 fu t1 t9 t10 t11 m0 = some o) (hk : (Lo.post (N_region_For_L1 fu t1 t9 t10 d) (X_region_For_L1 fu t1 t9 t10 d)) o) : Runs Try.prog Try.f16 0 T_region_For_L1 [(1, (D.int .i64 t1)), (5, (D.own 0)), (9, (D.lit t9.1 32 fun i => (S_api_Change.d (t9.2 i)))), (10, (D.int .i64 t10)), (11, (D.int .i64 t11))] [some (.seq 39 m0.1 31 (D.arr m0.1 31 fun i => (S_api_Mod.d (m0.2 i))))] d [] := by
  unfold F_region_For_L1 at h
  refine runs_regions 1 [([], [1, 5, 9, 10, 11, 12])] (z := ([], [(1, (D.int .i64 t1)), (5, (D.own 0)), (9, (D.lit t9.1 32 fun i => (S_api_Change.d (t9.2 i)))), (10, (D.int .i64 t10)), (11, (D.int .i64 t11)), (12, (D.bool (decide (t11 < t10))))], [some (.seq 39 m0.1 31 (D.arr m0.1 31 fun i => (S_api_Mod.d (m0.2 i))))])) rfl (by kernel_rfl) trivial ?_
  refine runs_if (b := (decide (t11 < t10))) (by kernel_rfl) (fun hb => ?_) (fun hb => ?_)
  · replace h := ifs_true h hb
    obtain ⟨p0, h⟩ := chk_some h
    refine runs_regions 2 [([], [1, 5, 7, 9, 10, 11]), ([], [1, 5, 7, 9, 10, 11, 18])] (z := ([(0 ≤ t11 ∧ t11 < ((t9.1 : Nat) : Int))], [(1, (D.int .i64 t1)), (5, (D.own 0)), (7, (D.ptr 1 [])), (9, (D.lit t9.1 32 fun i => (S_api_Change.d (t9.2 i)))), (10, (D.int .i64 t10)), (11, (D.int .i64 t11)), (18, (D.bool ((t9.2 t11.toNat).f0 == t1)))], [some (.seq 39 m0.1 31 (D.arr m0.1 31 fun i => (S_api_Mod.d (m0.2 i)))), some (.box (S_api_Change.d (t9.2 t11.toNat)))])) rfl (by kernel_rfl) (And.intro p0 trivial) ?_
    refine runs_if (b := ((t9.2 t11.toNat).f0 == t1)) (by kernel_rfl) (fun hb => ?_) (fun hb => ?_)
    · replace h := ifs_true h hb
      obtain ⟨r0, cr0, h⟩ := Option.bind_eq_some_iff.1 h
      obtain ⟨r1, cr1, h⟩ := Option.bind_eq_some_iff.1 h
      obtain ⟨p1, h⟩ := chk_some h
      refine runs_regions 4 [([], [1, 5, 8, 9, 10, 11]), ([(.rows ([] : List Nat) [(D.lit (t9.2 t11.toNat).f1.f3.1 4 fun i => (S_api_Act.d ((t9.2 t11.toNat).f1.f3.2 i)))] ([] : List Row) ([some (.seq 79 r0.1 4 (D.arr r0.1 4 fun i => (S_api_Act.d (r0.2 i))))] : Heap) (D.own 0)), (.die 3 (D.lit r1.1 4 fun i => (S_api_Act.d (r1.2 i))))], [1, 5, 8, 9, 10, 11]), ([(.lit fun i => (S_api_Mod.d ((fun i => ([(S_api_Mod.mk (t9.2 t11.toNat).f1.f0 (t9.2 t11.toNat).f1.f1 (t9.2 t11.toNat).f1.f2 r1 (t9.2 t11.toNat).f1.f4 (t9.2 t11.toNat).f1.f5 (t9.2 t11.toNat).f1.f6 (t9.2 t11.toNat).f1.f7)] : List S_api_Mod).getD i S_api_Mod.z) i))), (.d (D.arr (m0.1 + 1) 31 fun i1 => (S_api_Mod.d ((fun i => if i < m0.1 then m0.2 i else (fun i => ([(S_api_Mod.mk (t9.2 t11.toNat).f1.f0 (t9.2 t11.toNat).f1.f1 (t9.2 t11.toNat).f1.f2 r1 (t9.2 t11.toNat).f1.f4 (t9.2 t11.toNat).f1.f5 (t9.2 t11.toNat).f1.f6 (t9.2 t11.toNat).f1.f7)] : List S_api_Mod).getD i S_api_Mod.z) (i - m0.1)) i1))))], [1, 5, 9, 10, 11]), ([], [1, 5, 9, 10, 11])] (z := ([FC Try.prog 47 [(D.lit (t9.2 t11.toNat).f1.f3.1 4 fun i => (S_api_Act.d ((t9.2 t11.toNat).f1.f3.2 i)))] (List.map some ([] : List Row)) (D.own 0) ([some (.seq 79 r0.1 4 (D.arr r0.1 4 fun i => (S_api_Act.d (r0.2 i))))] : Heap), [(D.lit (t9.2 t11.toNat).f1.f3.1 4 fun i => (S_api_Act.d ((t9.2 t11.toNat).f1.f3.2 i)))] = List.map (D.ren (emb ([] : List Nat) 3)) [(D.lit (t9.2 t11.toNat).f1.f3.1 4 fun i => (S_api_Act.d ((t9.2 t11.toNat).f1.f3.2 i)))], RowsAt (emb ([] : List Nat) 3) ([some (.seq 39 m0.1 31 (D.arr m0.1 31 fun i => (S_api_Mod.d (m0.2 i)))), some (.box (S_api_Change.d (t9.2 t11.toNat))), some (.box (S_api_Mod.d (t9.2 t11.toNat).f1))] : Heap) ([] : List Nat) ([] : List Row), HIn (Bel (List.length ([] : List Nat))) (List.map some ([] : List Row)), AllIn (Bel (List.length ([] : List Nat))) [(D.lit (t9.2 t11.toNat).f1.f3.1 4 fun i => (S_api_Act.d ((t9.2 t11.toNat).f1.f3.2 i)))], HIn (Bel (List.length ([some (.seq 79 r0.1 4 (D.arr r0.1 4 fun i => (S_api_Act.d (r0.2 i))))] : Heap))) ([some (.seq 79 r0.1 4 (D.arr r0.1 4 fun i => (S_api_Act.d (r0.2 i))))] : Heap), D.In (Bel (List.length ([some (.seq 79 r0.1 4 (D.arr r0.1 4 fun i => (S_api_Act.d (r0.2 i))))] : Heap))) (D.own 0), FC Try.prog 46 [(D.lit r0.1 4 fun i => (S_api_Act.d (r0.2 i)))] [] (D.lit r1.1 4 fun i => (S_api_Act.d (r1.2 i))) [], All (List.map NoRow [(D.lit r0.1 4 fun i => (S_api_Act.d (r0.2 i)))]), TabOk [(D.cons (D.int .i64 (t9.2 t11.toNat).f1.f0) (D.cons (S_api_Cube.d (t9.2 t11.toNat).f1.f1) (D.cons (D.int .i64 (t9.2 t11.toNat).f1.f2) (D.cons (D.lit r1.1 4 fun i => (S_api_Act.d (r1.2 i))) (D.cons (D.int .i64 (t9.2 t11.toNat).f1.f4) (D.cons (D.int .i64 (t9.2 t11.toNat).f1.f5) (D.cons (D.int .i64 (t9.2 t11.toNat).f1.f6) (D.cons (D.bool (t9.2 t11.toNat).f1.f7) D.nil))))))))] 31 (D.arr 1 31 fun i => (S_api_Mod.d ((fun i => ([(S_api_Mod.mk (t9.2 t11.toNat).f1.f0 (t9.2 t11.toNat).f1.f1 (t9.2 t11.toNat).f1.f2 r1 (t9.2 t11.toNat).f1.f4 (t9.2 t11.toNat).f1.f5 (t9.2 t11.toNat).f1.f6 (t9.2 t11.toNat).f1.f7)] : List S_api_Mod).getD i S_api_Mod.z) i))), (RoomOk (m0.1 + 1) 264), CatOk (D.arr m0.1 31 fun i => (S_api_Mod.d (m0.2 i))) (D.arr 1 31 fun i => (S_api_Mod.d ((fun i => ([(S_api_Mod.mk (t9.2 t11.toNat).f1.f0 (t9.2 t11.toNat).f1.f1 (t9.2 t11.toNat).f1.f2 r1 (t9.2 t11.toNat).f1.f4 (t9.2 t11.toNat).f1.f5 (t9.2 t11.toNat).f1.f6 (t9.2 t11.toNat).f1.f7)] : List S_api_Mod).getD i S_api_Mod.z) i))) (D.arr (m0.1 + 1) 31 fun i1 => (S_api_Mod.d ((fun i => if i < m0.1 then m0.2 i else (fun i => ([(S_api_Mod.mk (t9.2 t11.toNat).f1.f0 (t9.2 t11.toNat).f1.f1 (t9.2 t11.toNat).f1.f2 r1 (t9.2 t11.toNat).f1.f4 (t9.2 t11.toNat).f1.f5 (t9.2 t11.toNat).f1.f6 (t9.2 t11.toNat).f1.f7)] : List S_api_Mod).getD i S_api_Mod.z) (i - m0.1)) i1)))], [(1, (D.int .i64 t1)), (5, (D.own 4)), (9, (D.lit t9.1 32 fun i => (S_api_Change.d (t9.2 i)))), (10, (D.int .i64 t10)), (11, (D.int .i64 (IntKind.wrap .i64 (t11 + (1 : Int)))))], [none, some (.box (S_api_Change.d (t9.2 t11.toNat))), some (.box (D.cons (D.int .i64 (t9.2 t11.toNat).f1.f0) (D.cons (S_api_Cube.d (t9.2 t11.toNat).f1.f1) (D.cons (D.int .i64 (t9.2 t11.toNat).f1.f2) (D.cons (D.lit r1.1 4 fun i => (S_api_Act.d (r1.2 i))) (D.cons (D.int .i64 (t9.2 t11.toNat).f1.f4) (D.cons (D.int .i64 (t9.2 t11.toNat).f1.f5) (D.cons (D.int .i64 (t9.2 t11.toNat).f1.f6) (D.cons (D.bool (t9.2 t11.toNat).f1.f7) D.nil))))))))), none, some (.seq 39 (m0.1 + 1) 31 (D.arr (m0.1 + 1) 31 fun i1 => (S_api_Mod.d ((fun i => if i < m0.1 then m0.2 i else (fun i => ([(S_api_Mod.mk (t9.2 t11.toNat).f1.f0 (t9.2 t11.toNat).f1.f1 (t9.2 t11.toNat).f1.f2 r1 (t9.2 t11.toNat).f1.f4 (t9.2 t11.toNat).f1.f5 (t9.2 t11.toNat).f1.f6 (t9.2 t11.toNat).f1.f7)] : List S_api_Mod).getD i S_api_Mod.z) (i - m0.1)) i1))))])) rfl (by kernel_rfl) (And.intro (fc_slices_Clone_api_Act (t9.2 t11.toNat).f1.f3 cr0) (And.intro rfl (And.intro trivial (And.intro trivial (And.intro (And.intro (fun _ _ => (S_api_Act.inn _)) trivial) (And.intro (And.intro (fun _ _ => (S_api_Act.inn _)) trivial) (And.intro (bel_of rfl) (And.intro (fc_slices_Clip_api_Act r0 cr1) (And.intro (And.intro (fun _ _ => (S_api_Act.inn _)) trivial) (And.intro (tabOk_arr rfl (And.intro rfl trivial)) (And.intro p1 (And.intro (catOk_arr' rfl fun i => (d_ite (f := fun x : S_api_Mod => (S_api_Mod.d x)) rfl rfl).symm) trivial)))))))))))) ?_
      rw [← Option.some.inj h] at hk
      refine runs_to (ts := [1, 5, 9, 10, 11]) (T' := T_region_For_L1) (env' := [(1, (D.int .i64 t1)), (5, (D.own 4)), (9, (D.lit t9.1 32 fun i => (S_api_Change.d (t9.2 i)))), (10, (D.int .i64 t10)), (11, (D.int .i64 (IntKind.wrap .i64 (t11 + (1 : Int)))))]) (h2 := [none, some (.box (S_api_Change.d (t9.2 t11.toNat))), some (.box (D.cons (D.int .i64 (t9.2 t11.toNat).f1.f0) (D.cons (S_api_Cube.d (t9.2 t11.toNat).f1.f1) (D.cons (D.int .i64 (t9.2 t11.toNat).f1.f2) (D.cons (D.lit r1.1 4 fun i => (S_api_Act.d (r1.2 i))) (D.cons (D.int .i64 (t9.2 t11.toNat).f1.f4) (D.cons (D.int .i64 (t9.2 t11.toNat).f1.f5) (D.cons (D.int .i64 (t9.2 t11.toNat).f1.f6) (D.cons (D.bool (t9.2 t11.toNat).f1.f7) D.nil))))))))), none, some (.seq 39 (m0.1 + 1) 31 (D.arr (m0.1 + 1) 31 fun i1 => (S_api_Mod.d ((fun i => if i < m0.1 then m0.2 i else (fun i => ([(S_api_Mod.mk (t9.2 t11.toNat).f1.f0 (t9.2 t11.toNat).f1.f1 (t9.2 t11.toNat).f1.f2 r1 (t9.2 t11.toNat).f1.f4 (t9.2 t11.toNat).f1.f5 (t9.2 t11.toNat).f1.f6 (t9.2 t11.toNat).f1.f7)] : List S_api_Mod).getD i S_api_Mod.z) (i - m0.1)) i1))))]) (by kernel_rfl) (by kernel_rfl) (And.intro (.inl rfl) (And.intro (.inr rfl) (And.intro (.inr rfl) (And.intro (.inl rfl) (And.intro (.inr rfl) trivial))))) (Nat.zero_le _) (And.intro (S_api_Change.inn _) (And.intro (And.intro trivial (And.intro (S_api_Cube.inn _) (And.intro trivial (And.intro (fun _ _ => (S_api_Act.inn _)) (And.intro trivial (And.intro trivial (And.intro trivial (And.intro trivial trivial)))))))) (And.intro (fun _ _ => (S_api_Mod.inn _)) trivial))) (And.intro trivial (And.intro (bel_of rfl) (And.intro (fun _ _ => (S_api_Change.inn _)) (And.intro trivial (And.intro trivial trivial))))) ?_
      refine runs_rename 0 4 (row := (.seq 39 (m0.1 + 1) 31 (D.arr (m0.1 + 1) 31 fun i1 => (S_api_Mod.d ((fun i => if i < m0.1 then m0.2 i else (fun i => ([(S_api_Mod.mk (t9.2 t11.toNat).f1.f0 (t9.2 t11.toNat).f1.f1 (t9.2 t11.toNat).f1.f2 r1 (t9.2 t11.toNat).f1.f4 (t9.2 t11.toNat).f1.f5 (t9.2 t11.toNat).f1.f6 (t9.2 t11.toNat).f1.f7)] : List S_api_Mod).getD i S_api_Mod.z) (i - m0.1)) i1))))) (by decide) (Nat.zero_le _) rfl rfl (And.intro (S_api_Change.rnk _) (And.intro (And.intro trivial (And.intro (S_api_Cube.rnk _) (And.intro trivial (And.intro (fun _ _ => (S_api_Act.inn _)) (And.intro trivial (And.intro trivial (And.intro trivial (And.intro trivial trivial)))))))) (And.intro (fun _ _ => (S_api_Mod.inn _)) trivial))) (And.intro trivial (And.intro (rn_own rfl) (And.intro (fun _ _ => (S_api_Change.inn _)) (And.intro trivial (And.intro trivial trivial))))) ?_
      refine runs_to (ts := [1, 5, 9, 10, 11]) (T' := T_region_For_L1) (env' := [(1, (D.int .i64 t1)), (5, (D.own 0)), (9, (D.lit t9.1 32 fun i => (S_api_Change.d (t9.2 i)))), (10, (D.int .i64 t10)), (11, (D.int .i64 (IntKind.wrap .i64 (t11 + (1 : Int)))))]) (h2 := [some (.seq 39 (m0.1 + 1) 31 (D.arr (m0.1 + 1) 31 fun i1 => (S_api_Mod.d ((fun i => if i < m0.1 then m0.2 i else (fun i => ([(S_api_Mod.mk (t9.2 t11.toNat).f1.f0 (t9.2 t11.toNat).f1.f1 (t9.2 t11.toNat).f1.f2 r1 (t9.2 t11.toNat).f1.f4 (t9.2 t11.toNat).f1.f5 (t9.2 t11.toNat).f1.f6 (t9.2 t11.toNat).f1.f7)] : List S_api_Mod).getD i S_api_Mod.z) (i - m0.1)) i1))))]) (by kernel_rfl) (by kernel_rfl) (And.intro (.inr rfl) trivial) (Nat.zero_le _) (And.intro (fun _ _ => (S_api_Mod.inn _)) trivial) (And.intro trivial (And.intro (bel_of rfl) (And.intro (fun _ _ => (S_api_Change.inn _)) (And.intro trivial (And.intro trivial trivial))))) ?_
      exact hk
    · replace h := ifs_false h hb
      refine runs_regions 1 [([], [1, 5, 9, 10, 11])] (z := ([], [(1, (D.int .i64 t1)), (5, (D.own 0)), (9, (D.lit t9.1 32 fun i => (S_api_Change.d (t9.2 i)))), (10, (D.int .i64 t10)), (11, (D.int .i64 (IntKind.wrap .i64 (t11 + (1 : Int)))))], [some (.seq 39 m0.1 31 (D.arr m0.1 31 fun i => (S_api_Mod.d (m0.2 i)))), some (.box (S_api_Change.d (t9.2 t11.toNat)))])) rfl (by kernel_rfl) trivial ?_
      rw [← Option.some.inj h] at hk
      refine runs_to (ts := [1, 5, 9, 10, 11]) (T' := T_region_For_L1) (env' := [(1, (D.int .i64 t1)), (5, (D.own 0)), (9, (D.lit t9.1 32 fun i => (S_api_Change.d (t9.2 i)))), (10, (D.int .i64 t10)), (11, (D.int .i64 (IntKind.wrap .i64 (t11 + (1 : Int)))))]) (h2 := [some (.seq 39 m0.1 31 (D.arr m0.1 31 fun i => (S_api_Mod.d (m0.2 i))))]) (by kernel_rfl) (by kernel_rfl) (And.intro (.inr rfl) trivial) (Nat.zero_le _) (And.intro (fun _ _ => (S_api_Mod.inn _)) trivial) (And.intro trivial (And.intro (bel_of rfl) (And.intro (fun _ _ => (S_api_Change.inn _)) (And.intro trivial (And.intro trivial trivial))))) ?_
      exact hk
  · replace h := ifs_false h hb
    rw [← Option.some.inj h] at hk
    refine runs_to (ts := [5]) (T' := X_region_For_L1T) (env' := [(5, (D.own 0))]) (h2 := [some (.seq 39 m0.1 31 (D.arr m0.1 31 fun i => (S_api_Mod.d (m0.2 i))))]) (by kernel_rfl) (by kernel_rfl) (And.intro (.inr rfl) trivial) (Nat.zero_le _) (And.intro (fun _ _ => (S_api_Mod.inn _)) trivial) (And.intro (bel_of rfl) trivial) ?_
    exact hk

theorem iter_region_For_L1 (fu : Nat) (t1 : Int) (t9 : (Nat × (Nat → S_api_Change))) (t10 : Int) {d : D} (k : Nat) (s : (Int × (Nat × (Nat → S_api_Mod)))) {o : E_region_For_L1 ⊕ (Nat × (Nat → S_api_Mod))} (h : iter (fun s => F_region_For_L1 fu t1 t9 t10 s.1 s.2) k s = some o) (hx : X_region_For_L1 fu t1 t9 t10 d o) : N_region_For_L1 fu t1 t9 t10 d s :=
  iter_post (K := N_region_For_L1 fu t1 t9 t10 d) (X := X_region_For_L1 fu t1 t9 t10 d) (fun s _ h hk => run_region_For_L1 fu t1 t9 t10 s.1 s.2 h hk) k s o h hx

/-- podesta/region.For -/
def F_region_For (fu : Nat) (t0 : (Nat × (Nat → S_api_Change))) (t1 : Int) : Option (Nat × (Nat → S_api_Mod)) :=
  after (iter (fun s => F_region_For_L1 fu t1 t0 ((t0.1 : Nat) : Int) s.1 s.2) fu ((0 : Int), (0, (fun _ => S_api_Mod.z)))) fun e3 =>
  some e3

theorem run_region_For (fu : Nat) (t0 : (Nat × (Nat → S_api_Change))) (t1 : Int) {d : D} {r : (Nat × (Nat → S_api_Mod))} (h : F_region_For fu t0 t1 = some r) (hk : (K_region_For d) r) : Runs Try.prog Try.f16 0 T_region_For [(0, (D.lit t0.1 32 fun i => (S_api_Change.d (t0.2 i)))), (1, (D.int .i64 t1))] [] d [] := by
  unfold F_region_For at h
  refine runs_regions 3 [([], [0, 1]), ([(.nil 39 31 (D.arr 0 31 fun i => (S_api_Mod.d ((fun _ => S_api_Mod.z) i))))], [0, 1, 5]), ([], [1, 5, 9, 10, 11])] (z := ([EmptyOk (D.arr 0 31 fun i => (S_api_Mod.d ((fun _ => S_api_Mod.z) i)))], [(1, (D.int .i64 t1)), (5, (D.own 0)), (9, (D.lit t0.1 32 fun i => (S_api_Change.d (t0.2 i)))), (10, (D.int .i64 ((t0.1 : Nat) : Int))), (11, (D.int .i64 (0 : Int)))], [some (.seq 39 0 31 (D.arr 0 31 fun i => (S_api_Mod.d ((fun _ => S_api_Mod.z) i))))])) rfl (by kernel_rfl) (And.intro emptyOk_arr trivial) ?_
  refine runs_to (ts := [1, 5, 9, 10, 11]) (T' := T_region_For_L1) (env' := [(1, (D.int .i64 t1)), (5, (D.own 0)), (9, (D.lit t0.1 32 fun i => (S_api_Change.d (t0.2 i)))), (10, (D.int .i64 ((t0.1 : Nat) : Int))), (11, (D.int .i64 (0 : Int)))]) (h2 := [some (.seq 39 0 31 (D.arr 0 31 fun i => (S_api_Mod.d ((fun _ => S_api_Mod.z) i))))]) (by kernel_rfl) (by kernel_rfl) (And.intro (.inr rfl) trivial) (Nat.zero_le _) (And.intro (fun _ _ => (S_api_Mod.inn _)) trivial) (And.intro trivial (And.intro (bel_of rfl) (And.intro (fun _ _ => (S_api_Change.inn _)) (And.intro trivial (And.intro trivial trivial))))) ?_
  rcases after_some h with ⟨e3, hi, h⟩ | hi
  · refine iter_region_For_L1 fu t1 t0 ((t0.1 : Nat) : Int) fu ((0 : Int), (0, (fun _ => S_api_Mod.z))) hi ?_
    show Runs Try.prog Try.f16 0 X_region_For_L1T [(5, (D.own 0))] [some (.seq 39 e3.1 31 (D.arr e3.1 31 fun i => (S_api_Mod.d (e3.2 i))))] d []
    refine runs_regions 1 [([], [4])] (z := ([], [(4, (D.own 0))], [some (.seq 39 e3.1 31 (D.arr e3.1 31 fun i => (S_api_Mod.d (e3.2 i))))])) rfl (by kernel_rfl) trivial ?_
    rw [← Option.some.inj h] at hk
    obtain rfl : d = (D.lit e3.1 31 fun i => (S_api_Mod.d (e3.2 i))) := hk
    refine runs_freeze 0 (row := (.seq 39 e3.1 31 (D.arr e3.1 31 fun i => (S_api_Mod.d (e3.2 i))))) rfl ?_
    exact runs_ret (by kernel_rfl) trivial (Nat.le_refl 0) trivial (fun _ _ => (S_api_Mod.inn _))
  · exact iter_region_For_L1 fu t1 t0 ((t0.1 : Nat) : Int) fu ((0 : Int), (0, (fun _ => S_api_Mod.z))) hi hk

theorem fc_region_For (fu : Nat) (t0 : (Nat × (Nat → S_api_Change))) (t1 : Int) {r : (Nat × (Nat → S_api_Mod))} (h : F_region_For fu t0 t1 = some r) : FC Try.prog 16 [(D.lit t0.1 32 fun i => (S_api_Change.d (t0.2 i))), (D.int .i64 t1)] [] (D.lit r.1 31 fun i => (S_api_Mod.d (r.2 i))) [] := by
  refine fc_of_runs (fn := Try.f16) (c := Try.f16.body.getD .skip) (by kernel_rfl) (by kernel_rfl) ?_
  refine runs_to (ts := [0, 1]) (T' := T_region_For) (env' := [(0, (D.lit t0.1 32 fun i => (S_api_Change.d (t0.2 i)))), (1, (D.int .i64 t1))]) (h2 := []) (by kernel_rfl) (by kernel_rfl) trivial (Nat.le_refl _) trivial (And.intro (fun _ _ => (S_api_Change.inn _)) (And.intro trivial trivial)) ?_
  exact run_region_For fu t0 t1 h rfl

def K_ref19_For (d : D) (r : (Nat × (Nat → S_api_Mod))) : Prop := d = (D.lit r.1 31 fun i => (S_api_Mod.d (r.2 i)))

noncomputable def T_ref19_For : List Item := norm 200 [.code (Try.f17.body.getD .skip)]

noncomputable def T_ref19_For_L1 : List Item := norm 200 (nxt (nxt (nxt T_ref19_For)))

noncomputable def X_ref19_For_L1T : List Item := norm 200 (cndF (nxt (nxt (nxt (nxt T_ref19_For)))))

abbrev E_ref19_For_L1 := (Nat × (Nat → S_api_Mod))

def N_ref19_For_L1 (_fu : Nat) (t0 : (Nat × (Nat → S_api_Change))) (t1 : Int) (d : D) (s : (Int × (Nat × (Nat → S_api_Mod)))) : Prop := Runs Try.prog Try.f17 0 T_ref19_For_L1 [(0, (D.lit t0.1 32 fun i => (S_api_Change.d (t0.2 i)))), (1, (D.int .i64 t1)), (5, (D.own 0)), (6, (D.int .i64 s.1))] [some (.seq 39 s.2.1 31 (D.arr s.2.1 31 fun i => (S_api_Mod.d (s.2.2 i))))] d []

def X_ref19_For_L1 (_fu : Nat) (_t0 : (Nat × (Nat → S_api_Change))) (_t1 : Int) (d : D) : E_ref19_For_L1 ⊕ (Nat × (Nat → S_api_Mod)) → Prop
  | .inl e => Runs Try.prog Try.f17 0 X_ref19_For_L1T [(5, (D.own 0))] [some (.seq 39 e.1 31 (D.arr e.1 31 fun i => (S_api_Mod.d (e.2 i))))] d []
  | .inr o => (K_ref19_For d) o

def F_ref19_For_L1 (_fu : Nat) (t0 : (Nat × (Nat → S_api_Change))) (t1 : Int) (t6 : Int) (m0 : (Nat × (Nat → S_api_Mod))) : Option (Lo (Int × (Nat × (Nat → S_api_Mod))) E_ref19_For_L1 (Nat × (Nat → S_api_Mod))) :=
  ifs (decide (t6 < ((t0.1 : Nat) : Int))) (
    chk (0 ≤ t6 ∧ t6 < ((t0.1 : Nat) : Int)) <|
    ifs ((t0.2 t6.toNat).f0 == t1) (
      chk (0 ≤ t6 ∧ t6 < ((t0.1 : Nat) : Int)) <|
      chk (RoomOk (m0.1 + 1) 264) <|
      some (.next ((IntKind.wrap .i64 (t6 + (1 : Int))), ((m0.1 + 1), (fun i => if i < m0.1 then m0.2 i else (fun i => ([(t0.2 t6.toNat).f1] : List S_api_Mod).getD i S_api_Mod.z) (i - m0.1)))))) (
      some (.next ((IntKind.wrap .i64 (t6 + (1 : Int))), m0)))) (
    some (.exit m0))

theorem run_ref19_For_L1 (fu : Nat) (t0 : (Nat × (Nat → S_api_Change))) (t1 : Int) (t6 : Int) (m0 : (Nat × (Nat → S_api_Mod))) {d : D} {o : (Lo (Int × (Nat × (Nat → S_api_Mod))) E_ref19_For_L1 (Nat × (Nat → S_api_Mod)))} (h : F_ref19_For_L1 fu t0 t1 t6 m0 = some o) (hk : (Lo.post (N_ref19_For_L1 fu t0 t1 d) (X_ref19_For_L1 fu t0 t1 d)) o) : Runs Try.prog Try.f17 0 T_ref19_For_L1 [(0, (D.lit t0.1 32 fun i => (S_api_Change.d (t0.2 i)))), (1, (D.int .i64 t1)), (5, (D.own 0)), (6, (D.int .i64 t6))] [some (.seq 39 m0.1 31 (D.arr m0.1 31 fun i => (S_api_Mod.d (m0.2 i))))] d [] := by
  unfold F_ref19_For_L1 at h
  refine runs_regions 1 [([], [0, 1, 5, 6, 10])] (z := ([], [(0, (D.lit t0.1 32 fun i => (S_api_Change.d (t0.2 i)))), (1, (D.int .i64 t1)), (5, (D.own 0)), (6, (D.int .i64 t6)), (10, (D.bool (decide (t6 < ((t0.1 : Nat) : Int)))))], [some (.seq 39 m0.1 31 (D.arr m0.1 31 fun i => (S_api_Mod.d (m0.2 i))))])) rfl (by kernel_rfl) trivial ?_
  refine runs_if (b := (decide (t6 < ((t0.1 : Nat) : Int)))) (by kernel_rfl) (fun hb => ?_) (fun hb => ?_)
  · replace h := ifs_true h hb
    obtain ⟨p0, h⟩ := chk_some h
    refine runs_regions 1 [([], [0, 1, 5, 6, 19])] (z := ([(0 ≤ t6 ∧ t6 < ((t0.1 : Nat) : Int))], [(0, (D.lit t0.1 32 fun i => (S_api_Change.d (t0.2 i)))), (1, (D.int .i64 t1)), (5, (D.own 0)), (6, (D.int .i64 t6)), (19, (D.bool ((t0.2 t6.toNat).f0 == t1)))], [some (.seq 39 m0.1 31 (D.arr m0.1 31 fun i => (S_api_Mod.d (m0.2 i))))])) rfl (by kernel_rfl) (And.intro p0 trivial) ?_
    refine runs_if (b := ((t0.2 t6.toNat).f0 == t1)) (by kernel_rfl) (fun hb => ?_) (fun hb => ?_)
    · replace h := ifs_true h hb
      obtain ⟨p1, h⟩ := chk_some h
      obtain ⟨p2, h⟩ := chk_some h
      refine runs_regions 2 [([(.lit fun i => (S_api_Mod.d ((fun i => ([(t0.2 t6.toNat).f1] : List S_api_Mod).getD i S_api_Mod.z) i))), (.d (D.arr (m0.1 + 1) 31 fun i => (S_api_Mod.d ((fun i => if i < m0.1 then m0.2 i else (fun i => ([(t0.2 t6.toNat).f1] : List S_api_Mod).getD i S_api_Mod.z) (i - m0.1)) i))))], [0, 1, 5, 6]), ([], [0, 1, 5, 6])] (z := ([(0 ≤ t6 ∧ t6 < ((t0.1 : Nat) : Int)), TabOk [(S_api_Mod.d (t0.2 t6.toNat).f1)] 31 (D.arr 1 31 fun i => (S_api_Mod.d ((fun i => ([(t0.2 t6.toNat).f1] : List S_api_Mod).getD i S_api_Mod.z) i))), (RoomOk (m0.1 + 1) 264), CatOk (D.arr m0.1 31 fun i => (S_api_Mod.d (m0.2 i))) (D.arr 1 31 fun i => (S_api_Mod.d ((fun i => ([(t0.2 t6.toNat).f1] : List S_api_Mod).getD i S_api_Mod.z) i))) (D.arr (m0.1 + 1) 31 fun i => (S_api_Mod.d ((fun i => if i < m0.1 then m0.2 i else (fun i => ([(t0.2 t6.toNat).f1] : List S_api_Mod).getD i S_api_Mod.z) (i - m0.1)) i)))], [(0, (D.lit t0.1 32 fun i => (S_api_Change.d (t0.2 i)))), (1, (D.int .i64 t1)), (5, (D.own 1)), (6, (D.int .i64 (IntKind.wrap .i64 (t6 + (1 : Int)))))], [none, some (.seq 39 (m0.1 + 1) 31 (D.arr (m0.1 + 1) 31 fun i => (S_api_Mod.d ((fun i => if i < m0.1 then m0.2 i else (fun i => ([(t0.2 t6.toNat).f1] : List S_api_Mod).getD i S_api_Mod.z) (i - m0.1)) i))))])) rfl (by kernel_rfl) (And.intro p1 (And.intro (tabOk_arr rfl (And.intro rfl trivial)) (And.intro p2 (And.intro (catOk_arr' rfl fun i => (d_ite (f := fun x : S_api_Mod => (S_api_Mod.d x)) rfl rfl).symm) trivial)))) ?_
      rw [← Option.some.inj h] at hk
      refine runs_to (ts := [0, 1, 5, 6]) (T' := T_ref19_For_L1) (env' := [(0, (D.lit t0.1 32 fun i => (S_api_Change.d (t0.2 i)))), (1, (D.int .i64 t1)), (5, (D.own 1)), (6, (D.int .i64 (IntKind.wrap .i64 (t6 + (1 : Int)))))]) (h2 := [none, some (.seq 39 (m0.1 + 1) 31 (D.arr (m0.1 + 1) 31 fun i => (S_api_Mod.d ((fun i => if i < m0.1 then m0.2 i else (fun i => ([(t0.2 t6.toNat).f1] : List S_api_Mod).getD i S_api_Mod.z) (i - m0.1)) i))))]) (by kernel_rfl) (by kernel_rfl) (And.intro (.inl rfl) (And.intro (.inr rfl) trivial)) (Nat.zero_le _) (And.intro (fun _ _ => (S_api_Mod.inn _)) trivial) (And.intro (fun _ _ => (S_api_Change.inn _)) (And.intro trivial (And.intro (bel_of rfl) (And.intro trivial trivial)))) ?_
      refine runs_rename 0 1 (row := (.seq 39 (m0.1 + 1) 31 (D.arr (m0.1 + 1) 31 fun i => (S_api_Mod.d ((fun i => if i < m0.1 then m0.2 i else (fun i => ([(t0.2 t6.toNat).f1] : List S_api_Mod).getD i S_api_Mod.z) (i - m0.1)) i))))) (by decide) (Nat.zero_le _) rfl rfl (And.intro (fun _ _ => (S_api_Mod.inn _)) trivial) (And.intro (fun _ _ => (S_api_Change.inn _)) (And.intro trivial (And.intro (rn_own rfl) (And.intro trivial trivial)))) ?_
      refine runs_to (ts := [0, 1, 5, 6]) (T' := T_ref19_For_L1) (env' := [(0, (D.lit t0.1 32 fun i => (S_api_Change.d (t0.2 i)))), (1, (D.int .i64 t1)), (5, (D.own 0)), (6, (D.int .i64 (IntKind.wrap .i64 (t6 + (1 : Int)))))]) (h2 := [some (.seq 39 (m0.1 + 1) 31 (D.arr (m0.1 + 1) 31 fun i => (S_api_Mod.d ((fun i => if i < m0.1 then m0.2 i else (fun i => ([(t0.2 t6.toNat).f1] : List S_api_Mod).getD i S_api_Mod.z) (i - m0.1)) i))))]) (by kernel_rfl) (by kernel_rfl) (And.intro (.inr rfl) trivial) (Nat.zero_le _) (And.intro (fun _ _ => (S_api_Mod.inn _)) trivial) (And.intro (fun _ _ => (S_api_Change.inn _)) (And.intro trivial (And.intro (bel_of rfl) (And.intro trivial trivial)))) ?_
      exact hk
    · replace h := ifs_false h hb
      refine runs_regions 1 [([], [0, 1, 5, 6])] (z := ([], [(0, (D.lit t0.1 32 fun i => (S_api_Change.d (t0.2 i)))), (1, (D.int .i64 t1)), (5, (D.own 0)), (6, (D.int .i64 (IntKind.wrap .i64 (t6 + (1 : Int)))))], [some (.seq 39 m0.1 31 (D.arr m0.1 31 fun i => (S_api_Mod.d (m0.2 i))))])) rfl (by kernel_rfl) trivial ?_
      rw [← Option.some.inj h] at hk
      refine runs_to (ts := [0, 1, 5, 6]) (T' := T_ref19_For_L1) (env' := [(0, (D.lit t0.1 32 fun i => (S_api_Change.d (t0.2 i)))), (1, (D.int .i64 t1)), (5, (D.own 0)), (6, (D.int .i64 (IntKind.wrap .i64 (t6 + (1 : Int)))))]) (h2 := [some (.seq 39 m0.1 31 (D.arr m0.1 31 fun i => (S_api_Mod.d (m0.2 i))))]) (by kernel_rfl) (by kernel_rfl) (And.intro (.inr rfl) trivial) (Nat.zero_le _) (And.intro (fun _ _ => (S_api_Mod.inn _)) trivial) (And.intro (fun _ _ => (S_api_Change.inn _)) (And.intro trivial (And.intro (bel_of rfl) (And.intro trivial trivial)))) ?_
      exact hk
  · replace h := ifs_false h hb
    rw [← Option.some.inj h] at hk
    refine runs_to (ts := [5]) (T' := X_ref19_For_L1T) (env' := [(5, (D.own 0))]) (h2 := [some (.seq 39 m0.1 31 (D.arr m0.1 31 fun i => (S_api_Mod.d (m0.2 i))))]) (by kernel_rfl) (by kernel_rfl) (And.intro (.inr rfl) trivial) (Nat.zero_le _) (And.intro (fun _ _ => (S_api_Mod.inn _)) trivial) (And.intro (bel_of rfl) trivial) ?_
    exact hk

theorem iter_ref19_For_L1 (fu : Nat) (t0 : (Nat × (Nat → S_api_Change))) (t1 : Int) {d : D} (k : Nat) (s : (Int × (Nat × (Nat → S_api_Mod)))) {o : E_ref19_For_L1 ⊕ (Nat × (Nat → S_api_Mod))} (h : iter (fun s => F_ref19_For_L1 fu t0 t1 s.1 s.2) k s = some o) (hx : X_ref19_For_L1 fu t0 t1 d o) : N_ref19_For_L1 fu t0 t1 d s :=
  iter_post (K := N_ref19_For_L1 fu t0 t1 d) (X := X_ref19_For_L1 fu t0 t1 d) (fun s _ h hk => run_ref19_For_L1 fu t0 t1 s.1 s.2 h hk) k s o h hx

/-- podesta/podestaref19.For -/
def F_ref19_For (fu : Nat) (t0 : (Nat × (Nat → S_api_Change))) (t1 : Int) : Option (Nat × (Nat → S_api_Mod)) :=
  after (iter (fun s => F_ref19_For_L1 fu t0 t1 s.1 s.2) fu ((0 : Int), (0, (fun _ => S_api_Mod.z)))) fun e4 =>
  some e4

theorem run_ref19_For (fu : Nat) (t0 : (Nat × (Nat → S_api_Change))) (t1 : Int) {d : D} {r : (Nat × (Nat → S_api_Mod))} (h : F_ref19_For fu t0 t1 = some r) (hk : (K_ref19_For d) r) : Runs Try.prog Try.f17 0 T_ref19_For [(0, (D.lit t0.1 32 fun i => (S_api_Change.d (t0.2 i)))), (1, (D.int .i64 t1))] [] d [] := by
  unfold F_ref19_For at h
  refine runs_regions 3 [([], [0, 1]), ([(.nil 39 31 (D.arr 0 31 fun i => (S_api_Mod.d ((fun _ => S_api_Mod.z) i))))], [0, 1, 5]), ([], [0, 1, 5, 6])] (z := ([EmptyOk (D.arr 0 31 fun i => (S_api_Mod.d ((fun _ => S_api_Mod.z) i)))], [(0, (D.lit t0.1 32 fun i => (S_api_Change.d (t0.2 i)))), (1, (D.int .i64 t1)), (5, (D.own 0)), (6, (D.int .i64 (0 : Int)))], [some (.seq 39 0 31 (D.arr 0 31 fun i => (S_api_Mod.d ((fun _ => S_api_Mod.z) i))))])) rfl (by kernel_rfl) (And.intro emptyOk_arr trivial) ?_
  refine runs_to (ts := [0, 1, 5, 6]) (T' := T_ref19_For_L1) (env' := [(0, (D.lit t0.1 32 fun i => (S_api_Change.d (t0.2 i)))), (1, (D.int .i64 t1)), (5, (D.own 0)), (6, (D.int .i64 (0 : Int)))]) (h2 := [some (.seq 39 0 31 (D.arr 0 31 fun i => (S_api_Mod.d ((fun _ => S_api_Mod.z) i))))]) (by kernel_rfl) (by kernel_rfl) (And.intro (.inr rfl) trivial) (Nat.zero_le _) (And.intro (fun _ _ => (S_api_Mod.inn _)) trivial) (And.intro (fun _ _ => (S_api_Change.inn _)) (And.intro trivial (And.intro (bel_of rfl) (And.intro trivial trivial)))) ?_
  rcases after_some h with ⟨e4, hi, h⟩ | hi
  · refine iter_ref19_For_L1 fu t0 t1 fu ((0 : Int), (0, (fun _ => S_api_Mod.z))) hi ?_
    show Runs Try.prog Try.f17 0 X_ref19_For_L1T [(5, (D.own 0))] [some (.seq 39 e4.1 31 (D.arr e4.1 31 fun i => (S_api_Mod.d (e4.2 i))))] d []
    refine runs_regions 1 [([], [4])] (z := ([], [(4, (D.own 0))], [some (.seq 39 e4.1 31 (D.arr e4.1 31 fun i => (S_api_Mod.d (e4.2 i))))])) rfl (by kernel_rfl) trivial ?_
    rw [← Option.some.inj h] at hk
    obtain rfl : d = (D.lit e4.1 31 fun i => (S_api_Mod.d (e4.2 i))) := hk
    refine runs_freeze 0 (row := (.seq 39 e4.1 31 (D.arr e4.1 31 fun i => (S_api_Mod.d (e4.2 i))))) rfl ?_
    exact runs_ret (by kernel_rfl) trivial (Nat.le_refl 0) trivial (fun _ _ => (S_api_Mod.inn _))
  · exact iter_ref19_For_L1 fu t0 t1 fu ((0 : Int), (0, (fun _ => S_api_Mod.z))) hi hk

theorem fc_ref19_For (fu : Nat) (t0 : (Nat × (Nat → S_api_Change))) (t1 : Int) {r : (Nat × (Nat → S_api_Mod))} (h : F_ref19_For fu t0 t1 = some r) : FC Try.prog 17 [(D.lit t0.1 32 fun i => (S_api_Change.d (t0.2 i))), (D.int .i64 t1)] [] (D.lit r.1 31 fun i => (S_api_Mod.d (r.2 i))) [] := by
  refine fc_of_runs (fn := Try.f17) (c := Try.f17.body.getD .skip) (by kernel_rfl) (by kernel_rfl) ?_
  refine runs_to (ts := [0, 1]) (T' := T_ref19_For) (env' := [(0, (D.lit t0.1 32 fun i => (S_api_Change.d (t0.2 i)))), (1, (D.int .i64 t1))]) (h2 := []) (by kernel_rfl) (by kernel_rfl) trivial (Nat.le_refl _) trivial (And.intro (fun _ _ => (S_api_Change.inn _)) (And.intro trivial trivial)) ?_
  exact run_ref19_For fu t0 t1 h rfl

def K_slices_Compact_int (d : D) (hp : Heap) (r : (Nat × (Nat → Int))) : Prop := d = (D.own 1) ∧ hp = [none, some (.seq 3 r.1 1 (D.ints .i64 r.1 r.2))]

noncomputable def T_slices_Compact_int : List Item := norm 200 [.code (Try.f50.body.getD .skip)]

noncomputable def T_slices_Compact_int_L2 : List Item := norm 200 (nxt (nxt (cndT (nxt (cndT (nxt (nxt (cndF (nxt (nxt T_slices_Compact_int))))))))))

noncomputable def X_slices_Compact_int_L2T : List Item := norm 200 (cndF (nxt (nxt (nxt (cndT (nxt (cndT (nxt (nxt (cndF (nxt (nxt T_slices_Compact_int))))))))))))

noncomputable def T_slices_Compact_int_L1 : List Item := norm 200 (nxt (cndF (nxt (nxt T_slices_Compact_int))))

noncomputable def X_slices_Compact_int_L1T : List Item := norm 200 (cndF (nxt (nxt (cndF (nxt (nxt T_slices_Compact_int))))))

abbrev E_slices_Compact_int_L1 := Unit

def N_slices_Compact_int_L1 (_fu : Nat) (m0 : (Nat × (Nat → Int))) (d : D) (hp : Heap) (s : Int) : Prop := Runs Try.prog Try.f50 1 T_slices_Compact_int_L1 [(0, (D.own 0)), (3, (D.int .i64 s))] [some (.seq 3 m0.1 1 (D.ints .i64 m0.1 m0.2))] d hp

def X_slices_Compact_int_L1 (_fu : Nat) (m0 : (Nat × (Nat → Int))) (d : D) (hp : Heap) : E_slices_Compact_int_L1 ⊕ (Nat × (Nat → Int)) → Prop
  | .inl _ => Runs Try.prog Try.f50 1 X_slices_Compact_int_L1T [(0, (D.own 0))] [some (.seq 3 m0.1 1 (D.ints .i64 m0.1 m0.2))] d hp
  | .inr o => (K_slices_Compact_int d hp) o

abbrev E_slices_Compact_int_L2 := (Int × (Nat × (Nat → Int)))

def N_slices_Compact_int_L2 (_fu : Nat) (_m0 : (Nat × (Nat → Int))) (t4_lo : Nat) (t4_n : Nat) (d : D) (hp : Heap) (s : (Int × Int × (Nat × (Nat → Int)))) : Prop := Runs Try.prog Try.f50 1 T_slices_Compact_int_L2 [(0, (D.own 0)), (3, (D.int .i64 s.1)), (4, (D.view 0 t4_lo t4_n 1)), (5, (D.int .i64 s.2.1))] [some (.seq 3 s.2.2.1 1 (D.ints .i64 s.2.2.1 s.2.2.2))] d hp

def X_slices_Compact_int_L2 (fu : Nat) (m0 : (Nat × (Nat → Int))) (_t4_lo : Nat) (_t4_n : Nat) (d : D) (hp : Heap) : E_slices_Compact_int_L2 ⊕ (Lo Int E_slices_Compact_int_L1 (Nat × (Nat → Int))) → Prop
  | .inl e => Runs Try.prog Try.f50 1 X_slices_Compact_int_L2T [(0, (D.own 0)), (3, (D.int .i64 e.1))] [some (.seq 3 e.2.1 1 (D.ints .i64 e.2.1 e.2.2))] d hp
  | .inr o => (Lo.post (N_slices_Compact_int_L1 fu m0 d hp) (X_slices_Compact_int_L1 fu m0 d hp)) o

def F_slices_Compact_int_L2 (_fu : Nat) (_m0 : (Nat × (Nat → Int))) (t4_lo : Nat) (t4_n : Nat) (t3 : Int) (t5 : Int) (m0x : (Nat × (Nat → Int))) : Option (Lo (Int × Int × (Nat × (Nat → Int))) E_slices_Compact_int_L2 (Lo Int E_slices_Compact_int_L1 (Nat × (Nat → Int)))) :=
  ifs (decide (t5 < ((t4_n : Nat) : Int))) (
    chk (0 ≤ t5 ∧ t5 < ((t4_n : Nat) : Int)) <|
    chk ((t4_lo + t5.toNat) < m0x.1) <|
    chk (0 ≤ (IntKind.wrap .i64 (t5 - (1 : Int))) ∧ (IntKind.wrap .i64 (t5 - (1 : Int))) < ((t4_n : Nat) : Int)) <|
    chk ((t4_lo + (IntKind.wrap .i64 (t5 - (1 : Int))).toNat) < m0x.1) <|
    ifs ((m0x.2 (t4_lo + t5.toNat)) != (m0x.2 (t4_lo + (IntKind.wrap .i64 (t5 - (1 : Int))).toNat))) (
      chk (0 ≤ t5 ∧ t5 < ((t4_n : Nat) : Int)) <|
      chk ((t4_lo + t5.toNat) < m0x.1) <|
      chk (0 ≤ t3 ∧ t3 < ((m0x.1 : Nat) : Int)) <|
      chk (t3.toNat < m0x.1) <|
      some (.next ((IntKind.wrap .i64 (t3 + (1 : Int))), (IntKind.wrap .i64 (t5 + (1 : Int))), (m0x.1, (fun j => if j = t3.toNat then (m0x.2 (t4_lo + t5.toNat)) else m0x.2 j))))) (
      some (.next (t3, (IntKind.wrap .i64 (t5 + (1 : Int))), m0x)))) (
    some (.exit (t3, m0x)))

theorem run_slices_Compact_int_L2 (fu : Nat) (m0 : (Nat × (Nat → Int))) (t4_lo : Nat) (t4_n : Nat) (t3 : Int) (t5 : Int) (m0x : (Nat × (Nat → Int))) {d : D} {hp : Heap} {o : (Lo (Int × Int × (Nat × (Nat → Int))) E_slices_Compact_int_L2 (Lo Int E_slices_Compact_int_L1 (Nat × (Nat → Int))))} (h : F_slices_Compact_int_L2 fu m0 t4_lo t4_n t3 t5 m0x = some o) (hk : (Lo.post (N_slices_Compact_int_L2 fu m0 t4_lo t4_n d hp) (X_slices_Compact_int_L2 fu m0 t4_lo t4_n d hp)) o) : Runs Try.prog Try.f50 1 T_slices_Compact_int_L2 [(0, (D.own 0)), (3, (D.int .i64 t3)), (4, (D.view 0 t4_lo t4_n 1)), (5, (D.int .i64 t5))] [some (.seq 3 m0x.1 1 (D.ints .i64 m0x.1 m0x.2))] d hp := by
  unfold F_slices_Compact_int_L2 at h
  refine runs_regions 1 [([], [0, 3, 4, 5, 32])] (z := ([], [(0, (D.own 0)), (3, (D.int .i64 t3)), (4, (D.view 0 t4_lo t4_n 1)), (5, (D.int .i64 t5)), (32, (D.bool (decide (t5 < ((t4_n : Nat) : Int)))))], [some (.seq 3 m0x.1 1 (D.ints .i64 m0x.1 m0x.2))])) rfl (by kernel_rfl) trivial ?_
  refine runs_if (b := (decide (t5 < ((t4_n : Nat) : Int)))) (by kernel_rfl) (fun hb => ?_) (fun hb => ?_)
  · replace h := ifs_true h hb
    obtain ⟨p5, h⟩ := chk_some h
    obtain ⟨p6, h⟩ := chk_some h
    obtain ⟨p7, h⟩ := chk_some h
    obtain ⟨p8, h⟩ := chk_some h
    refine runs_regions 1 [([], [0, 3, 4, 5, 44])] (z := ([(0 ≤ t5 ∧ t5 < ((t4_n : Nat) : Int)), ((t4_lo + t5.toNat) < m0x.1), (0 ≤ (IntKind.wrap .i64 (t5 - (1 : Int))) ∧ (IntKind.wrap .i64 (t5 - (1 : Int))) < ((t4_n : Nat) : Int)), ((t4_lo + (IntKind.wrap .i64 (t5 - (1 : Int))).toNat) < m0x.1)], [(0, (D.own 0)), (3, (D.int .i64 t3)), (4, (D.view 0 t4_lo t4_n 1)), (5, (D.int .i64 t5)), (44, (D.bool ((m0x.2 (t4_lo + t5.toNat)) != (m0x.2 (t4_lo + (IntKind.wrap .i64 (t5 - (1 : Int))).toNat)))))], [some (.seq 3 m0x.1 1 (D.ints .i64 m0x.1 m0x.2))])) rfl (by kernel_rfl) (And.intro p5 (And.intro p6 (And.intro p7 (And.intro p8 trivial)))) ?_
    refine runs_if (b := ((m0x.2 (t4_lo + t5.toNat)) != (m0x.2 (t4_lo + (IntKind.wrap .i64 (t5 - (1 : Int))).toNat)))) (by kernel_rfl) (fun hb => ?_) (fun hb => ?_)
    · replace h := ifs_true h hb
      obtain ⟨p9, h⟩ := chk_some h
      obtain ⟨p10, h⟩ := chk_some h
      obtain ⟨p11, h⟩ := chk_some h
      obtain ⟨p12, h⟩ := chk_some h
      refine runs_regions 3 [([], [0, 3, 4, 5]), ([], [0, 3, 4, 5]), ([], [0, 3, 4, 5])] (z := ([(0 ≤ t5 ∧ t5 < ((t4_n : Nat) : Int)), ((t4_lo + t5.toNat) < m0x.1), (0 ≤ t3 ∧ t3 < ((m0x.1 : Nat) : Int)), (t3.toNat < m0x.1)], [(0, (D.own 0)), (3, (D.int .i64 (IntKind.wrap .i64 (t3 + (1 : Int))))), (4, (D.view 0 t4_lo t4_n 1)), (5, (D.int .i64 (IntKind.wrap .i64 (t5 + (1 : Int)))))], [some (.seq 3 m0x.1 1 (D.ints .i64 m0x.1 (fun j => if j = t3.toNat then (m0x.2 (t4_lo + t5.toNat)) else m0x.2 j)))])) rfl (by kernel_rfl) (And.intro p9 (And.intro p10 (And.intro p11 (And.intro p12 trivial)))) ?_
      rw [← Option.some.inj h] at hk
      refine runs_to (ts := [0, 3, 4, 5]) (T' := T_slices_Compact_int_L2) (env' := [(0, (D.own 0)), (3, (D.int .i64 (IntKind.wrap .i64 (t3 + (1 : Int))))), (4, (D.view 0 t4_lo t4_n 1)), (5, (D.int .i64 (IntKind.wrap .i64 (t5 + (1 : Int)))))]) (h2 := [some (.seq 3 m0x.1 1 (D.ints .i64 m0x.1 (fun j => if j = t3.toNat then (m0x.2 (t4_lo + t5.toNat)) else m0x.2 j)))]) (by kernel_rfl) (by kernel_rfl) (And.intro (.inr rfl) trivial) (Nat.le_of_ble_eq_true rfl) (And.intro trivial trivial) (And.intro (bel_of rfl) (And.intro trivial (And.intro (bel_of rfl) (And.intro trivial trivial)))) ?_
      exact hk
    · replace h := ifs_false h hb
      refine runs_regions 1 [([], [0, 3, 4, 5])] (z := ([], [(0, (D.own 0)), (3, (D.int .i64 t3)), (4, (D.view 0 t4_lo t4_n 1)), (5, (D.int .i64 (IntKind.wrap .i64 (t5 + (1 : Int)))))], [some (.seq 3 m0x.1 1 (D.ints .i64 m0x.1 m0x.2))])) rfl (by kernel_rfl) trivial ?_
      rw [← Option.some.inj h] at hk
      refine runs_to (ts := [0, 3, 4, 5]) (T' := T_slices_Compact_int_L2) (env' := [(0, (D.own 0)), (3, (D.int .i64 t3)), (4, (D.view 0 t4_lo t4_n 1)), (5, (D.int .i64 (IntKind.wrap .i64 (t5 + (1 : Int)))))]) (h2 := [some (.seq 3 m0x.1 1 (D.ints .i64 m0x.1 m0x.2))]) (by kernel_rfl) (by kernel_rfl) (And.intro (.inr rfl) trivial) (Nat.le_of_ble_eq_true rfl) (And.intro trivial trivial) (And.intro (bel_of rfl) (And.intro trivial (And.intro (bel_of rfl) (And.intro trivial trivial)))) ?_
      exact hk
  · replace h := ifs_false h hb
    rw [← Option.some.inj h] at hk
    refine runs_to (ts := [0, 3]) (T' := X_slices_Compact_int_L2T) (env' := [(0, (D.own 0)), (3, (D.int .i64 t3))]) (h2 := [some (.seq 3 m0x.1 1 (D.ints .i64 m0x.1 m0x.2))]) (by kernel_rfl) (by kernel_rfl) (And.intro (.inr rfl) trivial) (Nat.le_of_ble_eq_true rfl) (And.intro trivial trivial) (And.intro (bel_of rfl) (And.intro trivial trivial)) ?_
    exact hk

theorem iter_slices_Compact_int_L2 (fu : Nat) (m0 : (Nat × (Nat → Int))) (t4_lo : Nat) (t4_n : Nat) {d : D} {hp : Heap} (k : Nat) (s : (Int × Int × (Nat × (Nat → Int)))) {o : E_slices_Compact_int_L2 ⊕ (Lo Int E_slices_Compact_int_L1 (Nat × (Nat → Int)))} (h : iter (fun s => F_slices_Compact_int_L2 fu m0 t4_lo t4_n s.1 s.2.1 s.2.2) k s = some o) (hx : X_slices_Compact_int_L2 fu m0 t4_lo t4_n d hp o) : N_slices_Compact_int_L2 fu m0 t4_lo t4_n d hp s :=
  iter_post (K := N_slices_Compact_int_L2 fu m0 t4_lo t4_n d hp) (X := X_slices_Compact_int_L2 fu m0 t4_lo t4_n d hp) (fun s _ h hk => run_slices_Compact_int_L2 fu m0 t4_lo t4_n s.1 s.2.1 s.2.2 h hk) k s o h hx

def F_slices_Compact_int_L1 (fu : Nat) (m0 : (Nat × (Nat → Int))) (t3 : Int) : Option (Lo Int E_slices_Compact_int_L1 (Nat × (Nat → Int))) :=
  ifs (decide (t3 < ((m0.1 : Nat) : Int))) (
    chk (0 ≤ t3 ∧ t3 < ((m0.1 : Nat) : Int)) <|
    chk (t3.toNat < m0.1) <|
    chk (0 ≤ (IntKind.wrap .i64 (t3 - (1 : Int))) ∧ (IntKind.wrap .i64 (t3 - (1 : Int))) < ((m0.1 : Nat) : Int)) <|
    chk ((IntKind.wrap .i64 (t3 - (1 : Int))).toNat < m0.1) <|
    ifs ((m0.2 t3.toNat) == (m0.2 (IntKind.wrap .i64 (t3 - (1 : Int))).toNat)) (
      chk (0 ≤ t3 ∧ t3 ≤ ((m0.1 : Nat) : Int) ∧ ((m0.1 : Nat) : Int) ≤ ((m0.1 : Nat) : Int)) <|
      after (iter (fun s => F_slices_Compact_int_L2 fu m0 (t3).toNat ((((m0.1 : Nat) : Int)).toNat - (t3).toNat) s.1 s.2.1 s.2.2) fu (t3, (1 : Int), m0)) fun e14 =>
      chk (0 ≤ e14.1 ∧ e14.1 ≤ ((e14.2.1 : Nat) : Int) ∧ ((e14.2.1 : Nat) : Int) ≤ ((e14.2.1 : Nat) : Int)) <|
      chk ((e14.1).toNat + ((((e14.2.1 : Nat) : Int)).toNat - (e14.1).toNat) ≤ e14.2.1) <|
      chk (0 ≤ (0 : Int) ∧ (0 : Int) ≤ e14.1 ∧ e14.1 ≤ ((e14.2.1 : Nat) : Int)) <|
      chk (((e14.1).toNat - ((0 : Int)).toNat) ≤ e14.2.1) <|
      some (.ret (((e14.1).toNat - ((0 : Int)).toNat), (fun i => if (e14.1).toNat ≤ i ∧ i < (e14.1).toNat + ((((e14.2.1 : Nat) : Int)).toNat - (e14.1).toNat) then 0 else e14.2.2 i)))) (
      some (.next (IntKind.wrap .i64 (t3 + (1 : Int)))))) (
    some (.exit ()))

theorem run_slices_Compact_int_L1 (fu : Nat) (m0 : (Nat × (Nat → Int))) (t3 : Int) {d : D} {hp : Heap} {o : (Lo Int E_slices_Compact_int_L1 (Nat × (Nat → Int)))} (h : F_slices_Compact_int_L1 fu m0 t3 = some o) (hk : (Lo.post (N_slices_Compact_int_L1 fu m0 d hp) (X_slices_Compact_int_L1 fu m0 d hp)) o) : Runs Try.prog Try.f50 1 T_slices_Compact_int_L1 [(0, (D.own 0)), (3, (D.int .i64 t3))] [some (.seq 3 m0.1 1 (D.ints .i64 m0.1 m0.2))] d hp := by
  unfold F_slices_Compact_int_L1 at h
  refine runs_regions 1 [([], [0, 3, 13])] (z := ([], [(0, (D.own 0)), (3, (D.int .i64 t3)), (13, (D.bool (decide (t3 < ((m0.1 : Nat) : Int)))))], [some (.seq 3 m0.1 1 (D.ints .i64 m0.1 m0.2))])) rfl (by kernel_rfl) trivial ?_
  refine runs_if (b := (decide (t3 < ((m0.1 : Nat) : Int)))) (by kernel_rfl) (fun hb => ?_) (fun hb => ?_)
  · replace h := ifs_true h hb
    obtain ⟨p0, h⟩ := chk_some h
    obtain ⟨p1, h⟩ := chk_some h
    obtain ⟨p2, h⟩ := chk_some h
    obtain ⟨p3, h⟩ := chk_some h
    refine runs_regions 1 [([], [0, 3, 25])] (z := ([(0 ≤ t3 ∧ t3 < ((m0.1 : Nat) : Int)), (t3.toNat < m0.1), (0 ≤ (IntKind.wrap .i64 (t3 - (1 : Int))) ∧ (IntKind.wrap .i64 (t3 - (1 : Int))) < ((m0.1 : Nat) : Int)), ((IntKind.wrap .i64 (t3 - (1 : Int))).toNat < m0.1)], [(0, (D.own 0)), (3, (D.int .i64 t3)), (25, (D.bool ((m0.2 t3.toNat) == (m0.2 (IntKind.wrap .i64 (t3 - (1 : Int))).toNat))))], [some (.seq 3 m0.1 1 (D.ints .i64 m0.1 m0.2))])) rfl (by kernel_rfl) (And.intro p0 (And.intro p1 (And.intro p2 (And.intro p3 trivial)))) ?_
    refine runs_if (b := ((m0.2 t3.toNat) == (m0.2 (IntKind.wrap .i64 (t3 - (1 : Int))).toNat))) (by kernel_rfl) (fun hb => ?_) (fun hb => ?_)
    · replace h := ifs_true h hb
      obtain ⟨p4, h⟩ := chk_some h
      refine runs_regions 2 [([], [0, 3, 4]), ([], [0, 3, 4, 5])] (z := ([(0 ≤ t3 ∧ t3 ≤ ((m0.1 : Nat) : Int) ∧ ((m0.1 : Nat) : Int) ≤ ((m0.1 : Nat) : Int))], [(0, (D.own 0)), (3, (D.int .i64 t3)), (4, (D.view 0 (t3).toNat ((((m0.1 : Nat) : Int)).toNat - (t3).toNat) 1)), (5, (D.int .i64 (1 : Int)))], [some (.seq 3 m0.1 1 (D.ints .i64 m0.1 m0.2))])) rfl (by kernel_rfl) (And.intro p4 trivial) ?_
      refine runs_to (ts := [0, 3, 4, 5]) (T' := T_slices_Compact_int_L2) (env' := [(0, (D.own 0)), (3, (D.int .i64 t3)), (4, (D.view 0 (t3).toNat ((((m0.1 : Nat) : Int)).toNat - (t3).toNat) 1)), (5, (D.int .i64 (1 : Int)))]) (h2 := [some (.seq 3 m0.1 1 (D.ints .i64 m0.1 m0.2))]) (by kernel_rfl) (by kernel_rfl) (And.intro (.inr rfl) trivial) (Nat.le_of_ble_eq_true rfl) (And.intro trivial trivial) (And.intro (bel_of rfl) (And.intro trivial (And.intro (bel_of rfl) (And.intro trivial trivial)))) ?_
      rcases after_some h with ⟨e14, hi, h⟩ | hi
      · refine iter_slices_Compact_int_L2 fu m0 (t3).toNat ((((m0.1 : Nat) : Int)).toNat - (t3).toNat) fu (t3, (1 : Int), m0) hi ?_
        show Runs Try.prog Try.f50 1 X_slices_Compact_int_L2T [(0, (D.own 0)), (3, (D.int .i64 e14.1))] [some (.seq 3 e14.2.1 1 (D.ints .i64 e14.2.1 e14.2.2))] d hp
        obtain ⟨p14, h⟩ := chk_some h
        obtain ⟨p15, h⟩ := chk_some h
        obtain ⟨p16, h⟩ := chk_some h
        refine runs_regions 2 [([(.d (D.ints .i64 e14.2.1 (fun i => if (e14.1).toNat ≤ i ∧ i < (e14.1).toNat + ((((e14.2.1 : Nat) : Int)).toNat - (e14.1).toNat) then 0 else e14.2.2 i)))], [0, 3]), ([], [2])] (z := ([(0 ≤ e14.1 ∧ e14.1 ≤ ((e14.2.1 : Nat) : Int) ∧ ((e14.2.1 : Nat) : Int) ≤ ((e14.2.1 : Nat) : Int)), ((e14.1).toNat + ((((e14.2.1 : Nat) : Int)).toNat - (e14.1).toNat) ≤ e14.2.1), ClearOk e14.2.1 (e14.1).toNat ((((e14.2.1 : Nat) : Int)).toNat - (e14.1).toNat) 1 (D.int .i64 (0 : Int)) (D.ints .i64 e14.2.1 e14.2.2) (D.ints .i64 e14.2.1 (fun i => if (e14.1).toNat ≤ i ∧ i < (e14.1).toNat + ((((e14.2.1 : Nat) : Int)).toNat - (e14.1).toNat) then 0 else e14.2.2 i)), (0 ≤ (0 : Int) ∧ (0 : Int) ≤ e14.1 ∧ e14.1 ≤ ((e14.2.1 : Nat) : Int))], [(2, (D.view 0 ((0 : Int)).toNat ((e14.1).toNat - ((0 : Int)).toNat) 1))], [some (.seq 3 e14.2.1 1 (D.ints .i64 e14.2.1 (fun i => if (e14.1).toNat ≤ i ∧ i < (e14.1).toNat + ((((e14.2.1 : Nat) : Int)).toNat - (e14.1).toNat) then 0 else e14.2.2 i)))])) rfl (by kernel_rfl) (And.intro p14 (And.intro p15 (And.intro (clearOk_ints fun i => rfl) (And.intro p16 trivial)))) ?_
        obtain ⟨p17, h⟩ := chk_some h
        rw [← Option.some.inj h] at hk
        obtain ⟨rfl, rfl⟩ : d = (D.own 1) ∧ hp = [none, some (.seq 3 ((e14.1).toNat - ((0 : Int)).toNat) 1 (D.ints .i64 ((e14.1).toNat - ((0 : Int)).toNat) (fun i => if (e14.1).toNat ≤ i ∧ i < (e14.1).toNat + ((((e14.2.1 : Nat) : Int)).toNat - (e14.1).toNat) then 0 else e14.2.2 i)))] := hk
        refine runs_keep (ts := [2]) (env' := [(2, (D.view 0 ((0 : Int)).toNat ((e14.1).toNat - ((0 : Int)).toNat) 1))]) (h2 := [some (.seq 3 e14.2.1 1 (D.ints .i64 e14.2.1 (fun i => if (e14.1).toNat ≤ i ∧ i < (e14.1).toNat + ((((e14.2.1 : Nat) : Int)).toNat - (e14.1).toNat) then 0 else e14.2.2 i)))]) (by kernel_rfl) (And.intro (.inr rfl) trivial) (Nat.le_of_ble_eq_true rfl) (And.intro trivial trivial) (And.intro (bel_of rfl) trivial) ?_
        refine runs_trunc 2 0 (el := 3) (n := e14.2.1) (m := ((e14.1).toNat - ((0 : Int)).toNat)) (sz := 1) (d := (D.ints .i64 e14.2.1 (fun i => if (e14.1).toNat ≤ i ∧ i < (e14.1).toNat + ((((e14.2.1 : Nat) : Int)).toNat - (e14.1).toNat) then 0 else e14.2.2 i))) (d' := (D.ints .i64 ((e14.1).toNat - ((0 : Int)).toNat) (fun i => if (e14.1).toNat ≤ i ∧ i < (e14.1).toNat + ((((e14.2.1 : Nat) : Int)).toNat - (e14.1).toNat) then 0 else e14.2.2 i))) (by kernel_rfl) rfl p17 (truncOk_ints p17) ?_
        exact runs_ret (h2 := [none, some (.seq 3 ((e14.1).toNat - ((0 : Int)).toNat) 1 (D.ints .i64 ((e14.1).toNat - ((0 : Int)).toNat) (fun i => if (e14.1).toNat ≤ i ∧ i < (e14.1).toNat + ((((e14.2.1 : Nat) : Int)).toNat - (e14.1).toNat) then 0 else e14.2.2 i)))]) (by kernel_rfl) (And.intro (.inl rfl) (And.intro (.inr rfl) trivial)) (Nat.le_of_ble_eq_true rfl) (And.intro trivial trivial) (bel_of rfl)
      · exact iter_slices_Compact_int_L2 fu m0 (t3).toNat ((((m0.1 : Nat) : Int)).toNat - (t3).toNat) fu (t3, (1 : Int), m0) hi hk
    · replace h := ifs_false h hb
      refine runs_regions 1 [([], [0, 3])] (z := ([], [(0, (D.own 0)), (3, (D.int .i64 (IntKind.wrap .i64 (t3 + (1 : Int)))))], [some (.seq 3 m0.1 1 (D.ints .i64 m0.1 m0.2))])) rfl (by kernel_rfl) trivial ?_
      rw [← Option.some.inj h] at hk
      refine runs_to (ts := [0, 3]) (T' := T_slices_Compact_int_L1) (env' := [(0, (D.own 0)), (3, (D.int .i64 (IntKind.wrap .i64 (t3 + (1 : Int)))))]) (h2 := [some (.seq 3 m0.1 1 (D.ints .i64 m0.1 m0.2))]) (by kernel_rfl) (by kernel_rfl) (And.intro (.inr rfl) trivial) (Nat.le_of_ble_eq_true rfl) (And.intro trivial trivial) (And.intro (bel_of rfl) (And.intro trivial trivial)) ?_
      exact hk
  · replace h := ifs_false h hb
    rw [← Option.some.inj h] at hk
    refine runs_to (ts := [0]) (T' := X_slices_Compact_int_L1T) (env' := [(0, (D.own 0))]) (h2 := [some (.seq 3 m0.1 1 (D.ints .i64 m0.1 m0.2))]) (by kernel_rfl) (by kernel_rfl) (And.intro (.inr rfl) trivial) (Nat.le_of_ble_eq_true rfl) (And.intro trivial trivial) (And.intro (bel_of rfl) trivial) ?_
    exact hk

theorem iter_slices_Compact_int_L1 (fu : Nat) (m0 : (Nat × (Nat → Int))) {d : D} {hp : Heap} (k : Nat) (s : Int) {o : E_slices_Compact_int_L1 ⊕ (Nat × (Nat → Int))} (h : iter (fun s => F_slices_Compact_int_L1 fu m0 s) k s = some o) (hx : X_slices_Compact_int_L1 fu m0 d hp o) : N_slices_Compact_int_L1 fu m0 d hp s :=
  iter_post (K := N_slices_Compact_int_L1 fu m0 d hp) (X := X_slices_Compact_int_L1 fu m0 d hp) (fun s _ h hk => run_slices_Compact_int_L1 fu m0 s h hk) k s o h hx

/-- slices.Compact[[]int,int] -/
def F_slices_Compact_int (fu : Nat) (t0 : (Nat × (Nat → Int))) : Option (Nat × (Nat → Int)) :=
  ifs (decide (((t0.1 : Nat) : Int) < (2 : Int))) (
    some t0) (
    after (iter (fun s => F_slices_Compact_int_L1 fu t0 s) fu (1 : Int)) fun _ =>
    some t0)

theorem run_slices_Compact_int (fu : Nat) (t0 : (Nat × (Nat → Int))) {d : D} {hp : Heap} {r : (Nat × (Nat → Int))} (h : F_slices_Compact_int fu t0 = some r) (hk : (K_slices_Compact_int d hp) r) : Runs Try.prog Try.f50 1 T_slices_Compact_int [(0, (D.own 0))] [some (.seq 3 t0.1 1 (D.ints .i64 t0.1 t0.2))] d hp := by
  unfold F_slices_Compact_int at h
  refine runs_regions 2 [([], [0]), ([], [0, 8])] (z := ([], [(0, (D.own 0)), (8, (D.bool (decide (((t0.1 : Nat) : Int) < (2 : Int)))))], [some (.seq 3 t0.1 1 (D.ints .i64 t0.1 t0.2))])) rfl (by kernel_rfl) trivial ?_
  refine runs_if (b := (decide (((t0.1 : Nat) : Int) < (2 : Int)))) (by kernel_rfl) (fun hb => ?_) (fun hb => ?_)
  · replace h := ifs_true h hb
    refine runs_regions 1 [([], [2])] (z := ([], [(2, (D.own 0))], [some (.seq 3 t0.1 1 (D.ints .i64 t0.1 t0.2))])) rfl (by kernel_rfl) trivial ?_
    rw [← Option.some.inj h] at hk
    obtain ⟨rfl, rfl⟩ : d = (D.own 1) ∧ hp = [none, some (.seq 3 t0.1 1 (D.ints .i64 t0.1 t0.2))] := hk
    refine runs_keep (ts := [2]) (env' := [(2, (D.own 0))]) (h2 := [some (.seq 3 t0.1 1 (D.ints .i64 t0.1 t0.2))]) (by kernel_rfl) (And.intro (.inr rfl) trivial) (Nat.le_of_ble_eq_true rfl) (And.intro trivial trivial) (And.intro (bel_of rfl) trivial) ?_
    refine runs_pad ?_
    refine runs_rename 1 0 (row := (.seq 3 t0.1 1 (D.ints .i64 t0.1 t0.2))) (by decide) (by decide) rfl rfl (And.intro trivial trivial) (And.intro (rn_own rfl) trivial) ?_
    exact runs_ret (h2 := [none, some (.seq 3 t0.1 1 (D.ints .i64 t0.1 t0.2))]) (by kernel_rfl) (And.intro (.inl rfl) (And.intro (.inr rfl) trivial)) (Nat.le_of_ble_eq_true rfl) (And.intro trivial trivial) (bel_of rfl)
  · replace h := ifs_false h hb
    refine runs_regions 1 [([], [0, 3])] (z := ([], [(0, (D.own 0)), (3, (D.int .i64 (1 : Int)))], [some (.seq 3 t0.1 1 (D.ints .i64 t0.1 t0.2))])) rfl (by kernel_rfl) trivial ?_
    refine runs_to (ts := [0, 3]) (T' := T_slices_Compact_int_L1) (env' := [(0, (D.own 0)), (3, (D.int .i64 (1 : Int)))]) (h2 := [some (.seq 3 t0.1 1 (D.ints .i64 t0.1 t0.2))]) (by kernel_rfl) (by kernel_rfl) (And.intro (.inr rfl) trivial) (Nat.le_of_ble_eq_true rfl) (And.intro trivial trivial) (And.intro (bel_of rfl) (And.intro trivial trivial)) ?_
    rcases after_some h with ⟨e19, hi, h⟩ | hi
    · refine iter_slices_Compact_int_L1 fu t0 fu (1 : Int) hi ?_
      show Runs Try.prog Try.f50 1 X_slices_Compact_int_L1T [(0, (D.own 0))] [some (.seq 3 t0.1 1 (D.ints .i64 t0.1 t0.2))] d hp
      refine runs_regions 1 [([], [2])] (z := ([], [(2, (D.own 0))], [some (.seq 3 t0.1 1 (D.ints .i64 t0.1 t0.2))])) rfl (by kernel_rfl) trivial ?_
      rw [← Option.some.inj h] at hk
      obtain ⟨rfl, rfl⟩ : d = (D.own 1) ∧ hp = [none, some (.seq 3 t0.1 1 (D.ints .i64 t0.1 t0.2))] := hk
      refine runs_keep (ts := [2]) (env' := [(2, (D.own 0))]) (h2 := [some (.seq 3 t0.1 1 (D.ints .i64 t0.1 t0.2))]) (by kernel_rfl) (And.intro (.inr rfl) trivial) (Nat.le_of_ble_eq_true rfl) (And.intro trivial trivial) (And.intro (bel_of rfl) trivial) ?_
      refine runs_pad ?_
      refine runs_rename 1 0 (row := (.seq 3 t0.1 1 (D.ints .i64 t0.1 t0.2))) (by decide) (by decide) rfl rfl (And.intro trivial trivial) (And.intro (rn_own rfl) trivial) ?_
      exact runs_ret (h2 := [none, some (.seq 3 t0.1 1 (D.ints .i64 t0.1 t0.2))]) (by kernel_rfl) (And.intro (.inl rfl) (And.intro (.inr rfl) trivial)) (Nat.le_of_ble_eq_true rfl) (And.intro trivial trivial) (bel_of rfl)
    · exact iter_slices_Compact_int_L1 fu t0 fu (1 : Int) hi hk

theorem fc_slices_Compact_int (fu : Nat) (t0 : (Nat × (Nat → Int))) {r : (Nat × (Nat → Int))} (h : F_slices_Compact_int fu t0 = some r) : FC Try.prog 50 [(D.own 0)] [some (.seq 3 t0.1 1 (D.ints .i64 t0.1 t0.2))] (D.own 1) [none, some (.seq 3 r.1 1 (D.ints .i64 r.1 r.2))] := by
  refine fc_of_runs (fn := Try.f50) (c := Try.f50.body.getD .skip) (by kernel_rfl) (by kernel_rfl) ?_
  refine runs_to (ts := [0]) (T' := T_slices_Compact_int) (env' := [(0, (D.own 0))]) (h2 := [some (.seq 3 t0.1 1 (D.ints .i64 t0.1 t0.2))]) (by kernel_rfl) (by kernel_rfl) (And.intro (.inr rfl) trivial) (Nat.le_refl _) (And.intro trivial trivial) (And.intro (bel_of rfl) trivial) ?_
  exact run_slices_Compact_int fu t0 h ⟨rfl, rfl⟩

def K_slices_Clip_int (d : D) (r : (Nat × (Nat → Int))) : Prop := d = (D.lit r.1 1 fun i => (D.int .i64 (r.2 i)))

noncomputable def T_slices_Clip_int : List Item := norm 200 [.code (Try.f49.body.getD .skip)]

/-- slices.Clip[[]int,int] -/
def F_slices_Clip_int (t0 : (Nat × (Nat → Int))) : Option (Nat × (Nat → Int)) :=
  chk (0 ≤ ((t0.1 : Nat) : Int) ∧ ((t0.1 : Nat) : Int) ≤ ((t0.1 : Nat) : Int)) <|
  some ((((t0.1 : Nat) : Int)).toNat, t0.2)

theorem run_slices_Clip_int (t0 : (Nat × (Nat → Int))) {d : D} {r : (Nat × (Nat → Int))} (h : F_slices_Clip_int t0 = some r) (hk : (K_slices_Clip_int d) r) : Runs Try.prog Try.f49 0 T_slices_Clip_int [(0, (D.lit t0.1 1 fun i => (D.int .i64 (t0.2 i))))] [] d [] := by
  unfold F_slices_Clip_int at h
  obtain ⟨p0, h⟩ := chk_some h
  refine runs_regions 2 [([], [0]), ([], [2])] (z := ([(0 ≤ ((t0.1 : Nat) : Int) ∧ ((t0.1 : Nat) : Int) ≤ ((t0.1 : Nat) : Int)), (((t0.1 : Nat) : Int) = ((t0.1 : Nat) : Int))], [(2, (D.lit (((t0.1 : Nat) : Int)).toNat 1 fun i => (D.int .i64 (t0.2 i))))], [])) rfl (by kernel_rfl) (And.intro p0 (And.intro rfl trivial)) ?_
  rw [← Option.some.inj h] at hk
  obtain rfl : d = (D.lit (((t0.1 : Nat) : Int)).toNat 1 fun i => (D.int .i64 (t0.2 i))) := hk
  exact runs_ret (by kernel_rfl) trivial (Nat.le_refl 0) trivial (fun _ _ => trivial)

theorem fc_slices_Clip_int (t0 : (Nat × (Nat → Int))) {r : (Nat × (Nat → Int))} (h : F_slices_Clip_int t0 = some r) : FC Try.prog 49 [(D.lit t0.1 1 fun i => (D.int .i64 (t0.2 i)))] [] (D.lit r.1 1 fun i => (D.int .i64 (r.2 i))) [] := by
  refine fc_of_runs (fn := Try.f49) (c := Try.f49.body.getD .skip) (by kernel_rfl) (by kernel_rfl) ?_
  refine runs_to (ts := [0]) (T' := T_slices_Clip_int) (env' := [(0, (D.lit t0.1 1 fun i => (D.int .i64 (t0.2 i))))]) (h2 := []) (by kernel_rfl) (by kernel_rfl) trivial (Nat.le_refl _) trivial (And.intro (fun _ _ => trivial) trivial) ?_
  exact run_slices_Clip_int t0 h rfl

def K_region_Units (d : D) (r : (Nat × (Nat → Int))) : Prop := d = (D.lit r.1 1 fun i => (D.int .i64 (r.2 i)))

noncomputable def T_region_Units : List Item := norm 200 [.code (Try.f19.body.getD .skip)]

noncomputable def T_region_Units_L1 : List Item := norm 200 (nxt (nxt (nxt T_region_Units)))

noncomputable def X_region_Units_L1T : List Item := norm 200 (cndF (nxt (nxt (nxt (nxt T_region_Units)))))

abbrev E_region_Units_L1 := (Nat × (Nat → Int))

def N_region_Units_L1 (_fu : Nat) (t6 : (Nat × (Nat → S_api_Change))) (t7 : Int) (d : D) (s : (Int × (Nat × (Nat → Int)))) : Prop := Runs Try.prog Try.f19 0 T_region_Units_L1 [(3, (D.own 0)), (6, (D.lit t6.1 32 fun i => (S_api_Change.d (t6.2 i)))), (7, (D.int .i64 t7)), (8, (D.int .i64 s.1))] [some (.seq 3 s.2.1 1 (D.ints .i64 s.2.1 s.2.2))] d []

end Go.Proofs.Ytffkolbogcpjjaa
