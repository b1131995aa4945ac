/- What the functions compute, each proved to do so (printed by pgen.py). -/
import Derived.Test.YteaghbcenjhjhaaDoorProg
import Derived.Test.YteaghbcenjhjhaaDoorPodK
import Derived.Test.YteaghbcenjhjhaaDoorLexC
namespace Go.Proofs.YteaghbcenjhjhaaDoor
open Go Go.Pod Go.Proofs

def K_ref15_letter (d : D) (r : Bool) : Prop := d = (D.bool r)

noncomputable def T_ref15_letter : List Item := norm 200 [.code (Tryd.f8.body.getD .skip)]

/-- podesta/podestaref15.letter -/
def F_ref15_letter (t0 : Int) : Option Bool :=
  some (bif (bif (bif (decide (t0 ≥ (97 : Int))) then (decide (t0 ≤ (122 : Int))) else false) then true else (bif (decide (t0 ≥ (65 : Int))) then (decide (t0 ≤ (90 : Int))) else false)) then true else (t0 == (95 : Int)))

theorem run_ref15_letter (t0 : Int) {d : D} {r : Bool} (h : F_ref15_letter t0 = some r) (hk : (K_ref15_letter d) r) : Runs Tryd.prog Tryd.f8 0 T_ref15_letter [(0, (D.int .u8 t0))] [] d [] := by
  unfold F_ref15_letter at h
  refine runs_regions 2 [([], [0]), ([], [2])] (z := ([((decide (t0 ≥ (97 : Int))) = true → All [((decide (t0 ≥ (97 : Int))) = true → (decide (t0 ≥ (97 : Int))) = true)]), ((true && (decide (t0 ≥ (97 : Int)))) = true → (decide (t0 ≥ (97 : Int))) = true), ((!(bif (decide (t0 ≥ (97 : Int))) then (decide (t0 ≤ (122 : Int))) else false)) = true → All [((!(bif (decide (t0 ≥ (97 : Int))) then (decide (t0 ≤ (122 : Int))) else false)) = true → (!(bif (decide (t0 ≥ (97 : Int))) then (decide (t0 ≤ (122 : Int))) else false)) = true)]), ((!(bif (decide (t0 ≥ (97 : Int))) then (decide (t0 ≤ (122 : Int))) else false)) = true → All [((!(bif (decide (t0 ≥ (97 : Int))) then (decide (t0 ≤ (122 : Int))) else false)) = true → (!(bif (decide (t0 ≥ (97 : Int))) then (decide (t0 ≤ (122 : Int))) else false)) = true)]), (((!(bif (decide (t0 ≥ (97 : Int))) then (decide (t0 ≤ (122 : Int))) else false)) && (decide (t0 ≥ (65 : Int)))) = true → All [(((!(bif (decide (t0 ≥ (97 : Int))) then (decide (t0 ≤ (122 : Int))) else false)) && (decide (t0 ≥ (65 : Int)))) = true → ((!(bif (decide (t0 ≥ (97 : Int))) then (decide (t0 ≤ (122 : Int))) else false)) && (decide (t0 ≥ (65 : Int)))) = true)]), ((!(bif (decide (t0 ≥ (97 : Int))) then (decide (t0 ≤ (122 : Int))) else false)) = true → All [((!(bif (decide (t0 ≥ (97 : Int))) then (decide (t0 ≤ (122 : Int))) else false)) = true → (!(bif (decide (t0 ≥ (97 : Int))) then (decide (t0 ≤ (122 : Int))) else false)) = true), (((!(bif (decide (t0 ≥ (97 : Int))) then (decide (t0 ≤ (122 : Int))) else false)) && (decide (t0 ≥ (65 : Int)))) = true → ((!(bif (decide (t0 ≥ (97 : Int))) then (decide (t0 ≤ (122 : Int))) else false)) && (decide (t0 ≥ (65 : Int)))) = true)]), ((true && !(bif (decide (t0 ≥ (97 : Int))) then (decide (t0 ≤ (122 : Int))) else false)) = true → (!(bif (decide (t0 ≥ (97 : Int))) then (decide (t0 ≤ (122 : Int))) else false)) = true), ((!(bif (bif (decide (t0 ≥ (97 : Int))) then (decide (t0 ≤ (122 : Int))) else false) then true else (bif (decide (t0 ≥ (65 : Int))) then (decide (t0 ≤ (90 : Int))) else false))) = true → All [((!(bif (bif (decide (t0 ≥ (97 : Int))) then (decide (t0 ≤ (122 : Int))) else false) then true else (bif (decide (t0 ≥ (65 : Int))) then (decide (t0 ≤ (90 : Int))) else false))) = true → (!(bif (bif (decide (t0 ≥ (97 : Int))) then (decide (t0 ≤ (122 : Int))) else false) then true else (bif (decide (t0 ≥ (65 : Int))) then (decide (t0 ≤ (90 : Int))) else false))) = true)]), ((true && !(bif (bif (decide (t0 ≥ (97 : Int))) then (decide (t0 ≤ (122 : Int))) else false) then true else (bif (decide (t0 ≥ (65 : Int))) then (decide (t0 ≤ (90 : Int))) else false))) = true → (!(bif (bif (decide (t0 ≥ (97 : Int))) then (decide (t0 ≤ (122 : Int))) else false) then true else (bif (decide (t0 ≥ (65 : Int))) then (decide (t0 ≤ (90 : Int))) else false))) = true)], [(2, (D.bool (bif (bif (bif (decide (t0 ≥ (97 : Int))) then (decide (t0 ≤ (122 : Int))) else false) then true else (bif (decide (t0 ≥ (65 : Int))) then (decide (t0 ≤ (90 : Int))) else false)) then true else (t0 == (95 : Int)))))], [])) rfl (by kernel_rfl) (And.intro (fun _ => (And.intro (by first | exact fun h => h | exact fun h => (Bool.and_eq_true_iff.1 h).1 | simp_all) trivial)) (And.intro (by first | exact fun h => h | exact fun h => (Bool.and_eq_true_iff.1 h).1 | simp_all) (And.intro (fun _ => (And.intro (by first | exact fun h => h | exact fun h => (Bool.and_eq_true_iff.1 h).1 | simp_all) trivial)) (And.intro (fun _ => (And.intro (by first | exact fun h => h | exact fun h => (Bool.and_eq_true_iff.1 h).1 | simp_all) trivial)) (And.intro (fun _ => (And.intro (by first | exact fun h => h | exact fun h => (Bool.and_eq_true_iff.1 h).1 | simp_all) trivial)) (And.intro (fun _ => (And.intro (by first | exact fun h => h | exact fun h => (Bool.and_eq_true_iff.1 h).1 | simp_all) (And.intro (by first | exact fun h => h | exact fun h => (Bool.and_eq_true_iff.1 h).1 | simp_all) trivial))) (And.intro (by first | exact fun h => h | exact fun h => (Bool.and_eq_true_iff.1 h).1 | simp_all) (And.intro (fun _ => (And.intro (by first | exact fun h => h | exact fun h => (Bool.and_eq_true_iff.1 h).1 | simp_all) trivial)) (And.intro (by first | exact fun h => h | exact fun h => (Bool.and_eq_true_iff.1 h).1 | simp_all) trivial))))))))) ?_
  rw [← Option.some.inj h] at hk
  obtain rfl : d = (D.bool (bif (bif (bif (decide (t0 ≥ (97 : Int))) then (decide (t0 ≤ (122 : Int))) else false) then true else (bif (decide (t0 ≥ (65 : Int))) then (decide (t0 ≤ (90 : Int))) else false)) then true else (t0 == (95 : Int)))) := hk
  exact runs_ret (by kernel_rfl) trivial (Nat.le_refl 0) trivial trivial

theorem fc_ref15_letter (t0 : Int) {r : Bool} (h : F_ref15_letter t0 = some r) : FC Tryd.prog 8 [(D.int .u8 t0)] [] (D.bool r) [] := by
  refine fc_of_runs (fn := Tryd.f8) (c := Tryd.f8.body.getD .skip) (by kernel_rfl) (by kernel_rfl) ?_
  refine runs_to (ts := [0]) (T' := T_ref15_letter) (env' := [(0, (D.int .u8 t0))]) (h2 := []) (by kernel_rfl) (by kernel_rfl) trivial (Nat.le_refl _) trivial (And.intro trivial trivial) ?_
  exact run_ref15_letter t0 h rfl

def K_ref15_digit (d : D) (r : Bool) : Prop := d = (D.bool r)

noncomputable def T_ref15_digit : List Item := norm 200 [.code (Tryd.f9.body.getD .skip)]

/-- podesta/podestaref15.digit -/
def F_ref15_digit (t0 : Int) : Option Bool :=
  some (bif (decide (t0 ≥ (48 : Int))) then (decide (t0 ≤ (57 : Int))) else false)

theorem run_ref15_digit (t0 : Int) {d : D} {r : Bool} (h : F_ref15_digit t0 = some r) (hk : (K_ref15_digit d) r) : Runs Tryd.prog Tryd.f9 0 T_ref15_digit [(0, (D.int .u8 t0))] [] d [] := by
  unfold F_ref15_digit at h
  refine runs_regions 2 [([], [0]), ([], [2])] (z := ([((decide (t0 ≥ (48 : Int))) = true → All [((decide (t0 ≥ (48 : Int))) = true → (decide (t0 ≥ (48 : Int))) = true)]), ((true && (decide (t0 ≥ (48 : Int)))) = true → (decide (t0 ≥ (48 : Int))) = true)], [(2, (D.bool (bif (decide (t0 ≥ (48 : Int))) then (decide (t0 ≤ (57 : Int))) else false)))], [])) rfl (by kernel_rfl) (And.intro (fun _ => (And.intro (by first | exact fun h => h | exact fun h => (Bool.and_eq_true_iff.1 h).1 | simp_all) trivial)) (And.intro (by first | exact fun h => h | exact fun h => (Bool.and_eq_true_iff.1 h).1 | simp_all) trivial)) ?_
  rw [← Option.some.inj h] at hk
  obtain rfl : d = (D.bool (bif (decide (t0 ≥ (48 : Int))) then (decide (t0 ≤ (57 : Int))) else false)) := hk
  exact runs_ret (by kernel_rfl) trivial (Nat.le_refl 0) trivial trivial

theorem fc_ref15_digit (t0 : Int) {r : Bool} (h : F_ref15_digit t0 = some r) : FC Tryd.prog 9 [(D.int .u8 t0)] [] (D.bool r) [] := by
  refine fc_of_runs (fn := Tryd.f9) (c := Tryd.f9.body.getD .skip) (by kernel_rfl) (by kernel_rfl) ?_
  refine runs_to (ts := [0]) (T' := T_ref15_digit) (env' := [(0, (D.int .u8 t0))]) (h2 := []) (by kernel_rfl) (by kernel_rfl) trivial (Nat.le_refl _) trivial (And.intro trivial trivial) ?_
  exact run_ref15_digit t0 h rfl

def K_ref15_Word (d : D) (r : Bool) : Prop := d = (D.bool r)

noncomputable def T_ref15_Word : List Item := norm 200 [.code (Tryd.f4.body.getD .skip)]

noncomputable def T_ref15_Word_L1 : List Item := norm 200 (nxt (nxt T_ref15_Word))

noncomputable def X_ref15_Word_L1T : List Item := norm 200 (cndF (nxt (nxt (nxt T_ref15_Word))))

abbrev E_ref15_Word_L1 := Unit

def N_ref15_Word_L1 (_fu : Nat) (t0 : ByteArray) (d : D) (s : Int) : Prop := Runs Tryd.prog Tryd.f4 0 T_ref15_Word_L1 [(0, (D.str t0)), (3, (D.int .i64 s))] [] d []

def X_ref15_Word_L1 (_fu : Nat) (t0 : ByteArray) (d : D) : E_ref15_Word_L1 ⊕ Bool → Prop
  | .inl _ => Runs Tryd.prog Tryd.f4 0 X_ref15_Word_L1T [(0, (D.str t0))] [] d []
  | .inr o => (K_ref15_Word d) o

def F_ref15_Word_L1 (_fu : Nat) (t0 : ByteArray) (t3 : Int) : Option (Lo Int E_ref15_Word_L1 Bool) :=
  ifs (decide (t3 < (t0.size : Int))) (
    chk (0 ≤ t3 ∧ t3 < (t0.size : Int)) <|
    (F_ref15_letter (((t0[t3.toNat]?).getD 0).toNat : Int)).bind fun r0 =>
    chk (((!r0) && (!(t3 == (0 : Int)))) = true → (0 ≤ t3 ∧ t3 < (t0.size : Int))) <|
    (callIf ((!r0) && (!(t3 == (0 : Int)))) (F_ref15_digit (((t0[t3.toNat]?).getD 0).toNat : Int)) false).bind fun r1 =>
    ifs (bif (!r0) then (bif (t3 == (0 : Int)) then true else (!r1)) else false) (
      some (.ret false)) (
      some (.next (IntKind.wrap .i64 (t3 + (1 : Int)))))) (
    some (.exit ()))

theorem run_ref15_Word_L1 (fu : Nat) (t0 : ByteArray) (t3 : Int) {d : D} {o : (Lo Int E_ref15_Word_L1 Bool)} (h : F_ref15_Word_L1 fu t0 t3 = some o) (hk : (Lo.post (N_ref15_Word_L1 fu t0 d) (X_ref15_Word_L1 fu t0 d)) o) : Runs Tryd.prog Tryd.f4 0 T_ref15_Word_L1 [(0, (D.str t0)), (3, (D.int .i64 t3))] [] d [] := by
  unfold F_ref15_Word_L1 at h
  refine runs_regions 1 [([], [0, 3, 7])] (z := ([], [(0, (D.str t0)), (3, (D.int .i64 t3)), (7, (D.bool (decide (t3 < (t0.size : Int)))))], [])) rfl (by kernel_rfl) trivial ?_
  refine runs_if (b := (decide (t3 < (t0.size : Int)))) (by kernel_rfl) (fun hb => ?_) (fun hb => ?_)
  · replace h := ifs_true h hb
    obtain ⟨p0, h⟩ := chk_some h
    obtain ⟨r0, cr0, h⟩ := Option.bind_eq_some_iff.1 h
    obtain ⟨p1, h⟩ := chk_some h
    obtain ⟨r1, cr1, h⟩ := Option.bind_eq_some_iff.1 h
    refine runs_regions 1 [([(.d (D.bool r0)), (.d (D.bool r1))], [0, 3, 25])] (z := ([(0 ≤ t3 ∧ t3 < (t0.size : Int)), FC Tryd.prog 8 [(D.int .u8 (((t0[t3.toNat]?).getD 0).toNat : Int))] [] (D.bool r0) [], All (List.map NoRow [(D.int .u8 (((t0[t3.toNat]?).getD 0).toNat : Int))]), ((!r0) = true → All [((!r0) = true → (!r0) = true)]), ((!r0) = true → All [((!r0) = true → (!r0) = true)]), (((!r0) && (!(t3 == (0 : Int)))) = true → All [(((!r0) && (!(t3 == (0 : Int)))) = true → ((!r0) && (!(t3 == (0 : Int)))) = true), (((!r0) && (!(t3 == (0 : Int)))) = true → ((!r0) && (!(t3 == (0 : Int)))) = true), (0 ≤ t3 ∧ t3 < (t0.size : Int))]), (((!r0) && (!(t3 == (0 : Int)))) = true → All [(((!r0) && (!(t3 == (0 : Int)))) = true → ((!r0) && (!(t3 == (0 : Int)))) = true), FC Tryd.prog 9 [(D.int .u8 (((t0[t3.toNat]?).getD 0).toNat : Int))] [] (D.bool r1) [], All (List.map NoRow [(D.int .u8 (((t0[t3.toNat]?).getD 0).toNat : Int))])]), (((!r0) && (!(t3 == (0 : Int)))) = true → All [(((!r0) && (!(t3 == (0 : Int)))) = true → ((!r0) && (!(t3 == (0 : Int)))) = true)]), ((!r0) = true → All [((!r0) = true → (!r0) = true), (((!r0) && !(t3 == (0 : Int))) = true → ((!r0) && (!(t3 == (0 : Int)))) = true)]), ((true && (!r0)) = true → (!r0) = true)], [(0, (D.str t0)), (3, (D.int .i64 t3)), (25, (D.bool (bif (!r0) then (bif (t3 == (0 : Int)) then true else (!r1)) else false)))], [])) rfl (by kernel_rfl) (And.intro p0 (And.intro (fc_ref15_letter (((t0[t3.toNat]?).getD 0).toNat : Int) cr0) (And.intro (And.intro trivial trivial) (And.intro (fun _ => (And.intro (by first | exact fun h => h | exact fun h => (Bool.and_eq_true_iff.1 h).1 | simp_all) trivial)) (And.intro (fun _ => (And.intro (by first | exact fun h => h | exact fun h => (Bool.and_eq_true_iff.1 h).1 | simp_all) trivial)) (And.intro (fun hg => (And.intro (by first | exact fun h => h | exact fun h => (Bool.and_eq_true_iff.1 h).1 | simp_all) (And.intro (by first | exact fun h => h | exact fun h => (Bool.and_eq_true_iff.1 h).1 | simp_all) (And.intro (p1 hg) trivial)))) (And.intro (fun hg => (And.intro (by first | exact fun h => h | exact fun h => (Bool.and_eq_true_iff.1 h).1 | simp_all) (And.intro (fc_ref15_digit (((t0[t3.toNat]?).getD 0).toNat : Int) (callIf_some cr1 hg)) (And.intro (And.intro trivial trivial) trivial)))) (And.intro (fun _ => (And.intro (by first | exact fun h => h | exact fun h => (Bool.and_eq_true_iff.1 h).1 | simp_all) trivial)) (And.intro (fun _ => (And.intro (by first | exact fun h => h | exact fun h => (Bool.and_eq_true_iff.1 h).1 | simp_all) (And.intro (by first | exact fun h => h | exact fun h => (Bool.and_eq_true_iff.1 h).1 | simp_all) trivial))) (And.intro (by first | exact fun h => h | exact fun h => (Bool.and_eq_true_iff.1 h).1 | simp_all) trivial)))))))))) ?_
    refine runs_if (b := (bif (!r0) then (bif (t3 == (0 : Int)) then true else (!r1)) else false)) (by kernel_rfl) (fun hb => ?_) (fun hb => ?_)
    · replace h := ifs_true h hb
      refine runs_regions 1 [([], [2])] (z := ([], [(2, (D.bool false))], [])) rfl (by kernel_rfl) trivial ?_
      rw [← Option.some.inj h] at hk
      obtain rfl : d = (D.bool false) := hk
      exact runs_ret (by kernel_rfl) trivial (Nat.le_refl 0) trivial trivial
    · replace h := ifs_false h hb
      refine runs_regions 1 [([], [0, 3])] (z := ([], [(0, (D.str t0)), (3, (D.int .i64 (IntKind.wrap .i64 (t3 + (1 : Int)))))], [])) rfl (by kernel_rfl) trivial ?_
      rw [← Option.some.inj h] at hk
      refine runs_to (ts := [0, 3]) (T' := T_ref15_Word_L1) (env' := [(0, (D.str t0)), (3, (D.int .i64 (IntKind.wrap .i64 (t3 + (1 : Int)))))]) (h2 := []) (by kernel_rfl) (by kernel_rfl) trivial (Nat.zero_le _) trivial (And.intro trivial (And.intro trivial trivial)) ?_
      exact hk
  · replace h := ifs_false h hb
    rw [← Option.some.inj h] at hk
    refine runs_to (ts := [0]) (T' := X_ref15_Word_L1T) (env' := [(0, (D.str t0))]) (h2 := []) (by kernel_rfl) (by kernel_rfl) trivial (Nat.zero_le _) trivial (And.intro trivial trivial) ?_
    exact hk

theorem iter_ref15_Word_L1 (fu : Nat) (t0 : ByteArray) {d : D} (k : Nat) (s : Int) {o : E_ref15_Word_L1 ⊕ Bool} (h : iter (fun s => F_ref15_Word_L1 fu t0 s) k s = some o) (hx : X_ref15_Word_L1 fu t0 d o) : N_ref15_Word_L1 fu t0 d s :=
  iter_post (K := N_ref15_Word_L1 fu t0 d) (X := X_ref15_Word_L1 fu t0 d) (fun s _ h hk => run_ref15_Word_L1 fu t0 s h hk) k s o h hx

/-- podesta/podestaref15.Word -/
def F_ref15_Word (fu : Nat) (t0 : ByteArray) : Option Bool :=
  after (iter (fun s => F_ref15_Word_L1 fu t0 s) fu (0 : Int)) fun _ =>
  some (bif (decide ((t0.size : Int) ≥ (1 : Int))) then (decide ((t0.size : Int) ≤ (32 : Int))) else false)

theorem run_ref15_Word (fu : Nat) (t0 : ByteArray) {d : D} {r : Bool} (h : F_ref15_Word fu t0 = some r) (hk : (K_ref15_Word d) r) : Runs Tryd.prog Tryd.f4 0 T_ref15_Word [(0, (D.str t0))] [] d [] := by
  unfold F_ref15_Word at h
  refine runs_regions 2 [([], [0]), ([], [0, 3])] (z := ([], [(0, (D.str t0)), (3, (D.int .i64 (0 : Int)))], [])) rfl (by kernel_rfl) trivial ?_
  refine runs_to (ts := [0, 3]) (T' := T_ref15_Word_L1) (env' := [(0, (D.str t0)), (3, (D.int .i64 (0 : Int)))]) (h2 := []) (by kernel_rfl) (by kernel_rfl) trivial (Nat.zero_le _) trivial (And.intro trivial (And.intro trivial trivial)) ?_
  rcases after_some h with ⟨e3, hi, h⟩ | hi
  · refine iter_ref15_Word_L1 fu t0 fu (0 : Int) hi ?_
    show Runs Tryd.prog Tryd.f4 0 X_ref15_Word_L1T [(0, (D.str t0))] [] d []
    refine runs_regions 1 [([], [2])] (z := ([((decide ((t0.size : Int) ≥ (1 : Int))) = true → All [((decide ((t0.size : Int) ≥ (1 : Int))) = true → (decide ((t0.size : Int) ≥ (1 : Int))) = true)]), ((decide ((t0.size : Int) ≥ (1 : Int))) = true → All [((decide ((t0.size : Int) ≥ (1 : Int))) = true → (decide ((t0.size : Int) ≥ (1 : Int))) = true)]), ((true && (decide ((t0.size : Int) ≥ (1 : Int)))) = true → (decide ((t0.size : Int) ≥ (1 : Int))) = true)], [(2, (D.bool (bif (decide ((t0.size : Int) ≥ (1 : Int))) then (decide ((t0.size : Int) ≤ (32 : Int))) else false)))], [])) rfl (by kernel_rfl) (And.intro (fun _ => (And.intro (by first | exact fun h => h | exact fun h => (Bool.and_eq_true_iff.1 h).1 | simp_all) trivial)) (And.intro (fun _ => (And.intro (by first | exact fun h => h | exact fun h => (Bool.and_eq_true_iff.1 h).1 | simp_all) trivial)) (And.intro (by first | exact fun h => h | exact fun h => (Bool.and_eq_true_iff.1 h).1 | simp_all) trivial))) ?_
    rw [← Option.some.inj h] at hk
    obtain rfl : d = (D.bool (bif (decide ((t0.size : Int) ≥ (1 : Int))) then (decide ((t0.size : Int) ≤ (32 : Int))) else false)) := hk
    exact runs_ret (by kernel_rfl) trivial (Nat.le_refl 0) trivial trivial
  · exact iter_ref15_Word_L1 fu t0 fu (0 : Int) hi hk

theorem fc_ref15_Word (fu : Nat) (t0 : ByteArray) {r : Bool} (h : F_ref15_Word fu t0 = some r) : FC Tryd.prog 4 [(D.str t0)] [] (D.bool r) [] := by
  refine fc_of_runs (fn := Tryd.f4) (c := Tryd.f4.body.getD .skip) (by kernel_rfl) (by kernel_rfl) ?_
  refine runs_to (ts := [0]) (T' := T_ref15_Word) (env' := [(0, (D.str t0))]) (h2 := []) (by kernel_rfl) (by kernel_rfl) trivial (Nat.le_refl _) trivial (And.intro trivial trivial) ?_
  exact run_ref15_Word fu t0 h rfl

def K_lex_digit (d : D) (r : Bool) : Prop := d = (D.bool r)

noncomputable def T_lex_digit : List Item := norm 200 [.code (Tryd.f25.body.getD .skip)]

/-- podesta/lex.digit -/
def F_lex_digit (t0 : Int) : Option Bool :=
  some (bif (decide (t0 ≥ (48 : Int))) then (decide (t0 ≤ (57 : Int))) else false)

theorem run_lex_digit (t0 : Int) {d : D} {r : Bool} (h : F_lex_digit t0 = some r) (hk : (K_lex_digit d) r) : Runs Tryd.prog Tryd.f25 0 T_lex_digit [(0, (D.int .u8 t0))] [] d [] := by
  unfold F_lex_digit at h
  refine runs_regions 2 [([], [0]), ([], [2])] (z := ([((decide (t0 ≥ (48 : Int))) = true → All [((decide (t0 ≥ (48 : Int))) = true → (decide (t0 ≥ (48 : Int))) = true)]), ((true && (decide (t0 ≥ (48 : Int)))) = true → (decide (t0 ≥ (48 : Int))) = true)], [(2, (D.bool (bif (decide (t0 ≥ (48 : Int))) then (decide (t0 ≤ (57 : Int))) else false)))], [])) rfl (by kernel_rfl) (And.intro (fun _ => (And.intro (by first | exact fun h => h | exact fun h => (Bool.and_eq_true_iff.1 h).1 | simp_all) trivial)) (And.intro (by first | exact fun h => h | exact fun h => (Bool.and_eq_true_iff.1 h).1 | simp_all) trivial)) ?_
  rw [← Option.some.inj h] at hk
  obtain rfl : d = (D.bool (bif (decide (t0 ≥ (48 : Int))) then (decide (t0 ≤ (57 : Int))) else false)) := hk
  exact runs_ret (by kernel_rfl) trivial (Nat.le_refl 0) trivial trivial

theorem fc_lex_digit (t0 : Int) {r : Bool} (h : F_lex_digit t0 = some r) : FC Tryd.prog 25 [(D.int .u8 t0)] [] (D.bool r) [] := by
  refine fc_of_runs (fn := Tryd.f25) (c := Tryd.f25.body.getD .skip) (by kernel_rfl) (by kernel_rfl) ?_
  refine runs_to (ts := [0]) (T' := T_lex_digit) (env' := [(0, (D.int .u8 t0))]) (h2 := []) (by kernel_rfl) (by kernel_rfl) trivial (Nat.le_refl _) trivial (And.intro trivial trivial) ?_
  exact run_lex_digit t0 h rfl

def K_lex_all_lex_digit (d : D) (r : Bool) : Prop := d = (D.bool r)

noncomputable def T_lex_all_lex_digit : List Item := norm 200 [.code (Tryd.f35.body.getD .skip)]

noncomputable def T_lex_all_lex_digit_L1 : List Item := norm 200 (nxt (nxt T_lex_all_lex_digit))

noncomputable def X_lex_all_lex_digit_L1T : List Item := norm 200 (cndF (nxt (nxt (nxt T_lex_all_lex_digit))))

abbrev E_lex_all_lex_digit_L1 := Unit

def N_lex_all_lex_digit_L1 (_fu : Nat) (t0 : ByteArray) (t7 : Int) (d : D) (s : Int) : Prop := Runs Tryd.prog Tryd.f35 0 T_lex_all_lex_digit_L1 [(0, (D.str t0)), (1, (D.fn 25 D.nil)), (7, (D.int .i64 t7)), (8, (D.int .i64 s))] [] d []

def X_lex_all_lex_digit_L1 (_fu : Nat) (_t0 : ByteArray) (_t7 : Int) (d : D) : E_lex_all_lex_digit_L1 ⊕ Bool → Prop
  | .inl _ => Runs Tryd.prog Tryd.f35 0 X_lex_all_lex_digit_L1T [] [] d []
  | .inr o => (K_lex_all_lex_digit d) o

def F_lex_all_lex_digit_L1 (_fu : Nat) (t0 : ByteArray) (t7 : Int) (t8 : Int) : Option (Lo Int E_lex_all_lex_digit_L1 Bool) :=
  ifs (decide (t8 < t7)) (
    chk (0 ≤ t8 ∧ t8 < (t0.size : Int)) <|
    (F_lex_digit (((t0[t8.toNat]?).getD 0).toNat : Int)).bind fun r0 =>
    ifs (!r0) (
      some (.ret false)) (
      some (.next (IntKind.wrap .i64 (t8 + (1 : Int)))))) (
    some (.exit ()))

theorem run_lex_all_lex_digit_L1 (fu : Nat) (t0 : ByteArray) (t7 : Int) (t8 : Int) {d : D} {o : (Lo Int E_lex_all_lex_digit_L1 Bool)} (h : F_lex_all_lex_digit_L1 fu t0 t7 t8 = some o) (hk : (Lo.post (N_lex_all_lex_digit_L1 fu t0 t7 d) (X_lex_all_lex_digit_L1 fu t0 t7 d)) o) : Runs Tryd.prog Tryd.f35 0 T_lex_all_lex_digit_L1 [(0, (D.str t0)), (1, (D.fn 25 D.nil)), (7, (D.int .i64 t7)), (8, (D.int .i64 t8))] [] d [] := by
  unfold F_lex_all_lex_digit_L1 at h
  refine runs_regions 1 [([], [0, 1, 7, 8, 9])] (z := ([], [(0, (D.str t0)), (1, (D.fn 25 D.nil)), (7, (D.int .i64 t7)), (8, (D.int .i64 t8)), (9, (D.bool (decide (t8 < t7))))], [])) rfl (by kernel_rfl) trivial ?_
  refine runs_if (b := (decide (t8 < t7))) (by kernel_rfl) (fun hb => ?_) (fun hb => ?_)
  · replace h := ifs_true h hb
    obtain ⟨p0, h⟩ := chk_some h
    obtain ⟨r0, cr0, h⟩ := Option.bind_eq_some_iff.1 h
    refine runs_regions 2 [([], [0, 1, 5, 7, 8]), ([(.d (D.bool r0))], [0, 1, 7, 8, 16])] (z := ([(0 ≤ t8 ∧ t8 < (t0.size : Int)), FC Tryd.prog 25 [(D.int .u8 (((t0[t8.toNat]?).getD 0).toNat : Int))] [] (D.bool r0) [], All (List.map NoRow [(D.int .u8 (((t0[t8.toNat]?).getD 0).toNat : Int))])], [(0, (D.str t0)), (1, (D.fn 25 D.nil)), (7, (D.int .i64 t7)), (8, (D.int .i64 t8)), (16, (D.bool (!r0)))], [])) rfl (by kernel_rfl) (And.intro p0 (And.intro (fc_lex_digit (((t0[t8.toNat]?).getD 0).toNat : Int) cr0) (And.intro (And.intro trivial trivial) trivial))) ?_
    refine runs_if (b := (!r0)) (by kernel_rfl) (fun hb => ?_) (fun hb => ?_)
    · replace h := ifs_true h hb
      refine runs_regions 1 [([], [4])] (z := ([], [(4, (D.bool false))], [])) rfl (by kernel_rfl) trivial ?_
      rw [← Option.some.inj h] at hk
      obtain rfl : d = (D.bool false) := hk
      exact runs_ret (by kernel_rfl) trivial (Nat.le_refl 0) trivial trivial
    · replace h := ifs_false h hb
      refine runs_regions 1 [([], [0, 1, 7, 8])] (z := ([], [(0, (D.str t0)), (1, (D.fn 25 D.nil)), (7, (D.int .i64 t7)), (8, (D.int .i64 (IntKind.wrap .i64 (t8 + (1 : Int)))))], [])) rfl (by kernel_rfl) trivial ?_
      rw [← Option.some.inj h] at hk
      refine runs_to (ts := [0, 1, 7, 8]) (T' := T_lex_all_lex_digit_L1) (env' := [(0, (D.str t0)), (1, (D.fn 25 D.nil)), (7, (D.int .i64 t7)), (8, (D.int .i64 (IntKind.wrap .i64 (t8 + (1 : Int)))))]) (h2 := []) (by kernel_rfl) (by kernel_rfl) trivial (Nat.zero_le _) trivial (And.intro trivial (And.intro trivial (And.intro trivial (And.intro trivial trivial)))) ?_
      exact hk
  · replace h := ifs_false h hb
    rw [← Option.some.inj h] at hk
    refine runs_to (ts := []) (T' := X_lex_all_lex_digit_L1T) (env' := []) (h2 := []) (by kernel_rfl) (by kernel_rfl) trivial (Nat.zero_le _) trivial trivial ?_
    exact hk

theorem iter_lex_all_lex_digit_L1 (fu : Nat) (t0 : ByteArray) (t7 : Int) {d : D} (k : Nat) (s : Int) {o : E_lex_all_lex_digit_L1 ⊕ Bool} (h : iter (fun s => F_lex_all_lex_digit_L1 fu t0 t7 s) k s = some o) (hx : X_lex_all_lex_digit_L1 fu t0 t7 d o) : N_lex_all_lex_digit_L1 fu t0 t7 d s :=
  iter_post (K := N_lex_all_lex_digit_L1 fu t0 t7 d) (X := X_lex_all_lex_digit_L1 fu t0 t7 d) (fun s _ h hk => run_lex_all_lex_digit_L1 fu t0 t7 s h hk) k s o h hx

/-- podesta/lex.all -/
def F_lex_all_lex_digit (fu : Nat) (t0 : ByteArray) : Option Bool :=
  after (iter (fun s => F_lex_all_lex_digit_L1 fu t0 (t0.size : Int) s) fu (0 : Int)) fun _ =>
  some true

theorem run_lex_all_lex_digit (fu : Nat) (t0 : ByteArray) {d : D} {r : Bool} (h : F_lex_all_lex_digit fu t0 = some r) (hk : (K_lex_all_lex_digit d) r) : Runs Tryd.prog Tryd.f35 0 T_lex_all_lex_digit [(0, (D.str t0)), (1, (D.fn 25 D.nil))] [] d [] := by
  unfold F_lex_all_lex_digit at h
  refine runs_regions 2 [([], [0, 1]), ([], [0, 1, 7, 8])] (z := ([], [(0, (D.str t0)), (1, (D.fn 25 D.nil)), (7, (D.int .i64 (t0.size : Int))), (8, (D.int .i64 (0 : Int)))], [])) rfl (by kernel_rfl) trivial ?_
  refine runs_to (ts := [0, 1, 7, 8]) (T' := T_lex_all_lex_digit_L1) (env' := [(0, (D.str t0)), (1, (D.fn 25 D.nil)), (7, (D.int .i64 (t0.size : Int))), (8, (D.int .i64 (0 : Int)))]) (h2 := []) (by kernel_rfl) (by kernel_rfl) trivial (Nat.zero_le _) trivial (And.intro trivial (And.intro trivial (And.intro trivial (And.intro trivial trivial)))) ?_
  rcases after_some h with ⟨e2, hi, h⟩ | hi
  · refine iter_lex_all_lex_digit_L1 fu t0 (t0.size : Int) fu (0 : Int) hi ?_
    show Runs Tryd.prog Tryd.f35 0 X_lex_all_lex_digit_L1T [] [] d []
    refine runs_regions 1 [([], [4])] (z := ([], [(4, (D.bool true))], [])) rfl (by kernel_rfl) trivial ?_
    rw [← Option.some.inj h] at hk
    obtain rfl : d = (D.bool true) := hk
    exact runs_ret (by kernel_rfl) trivial (Nat.le_refl 0) trivial trivial
  · exact iter_lex_all_lex_digit_L1 fu t0 (t0.size : Int) fu (0 : Int) hi hk

theorem fc_lex_all_lex_digit (fu : Nat) (t0 : ByteArray) {r : Bool} (h : F_lex_all_lex_digit fu t0 = some r) : FC Tryd.prog 35 [(D.str t0), (D.fn 25 D.nil)] [] (D.bool r) [] := by
  refine fc_of_runs (fn := Tryd.f35) (c := Tryd.f35.body.getD .skip) (by kernel_rfl) (by kernel_rfl) ?_
  refine runs_to (ts := [0, 1]) (T' := T_lex_all_lex_digit) (env' := [(0, (D.str t0)), (1, (D.fn 25 D.nil))]) (h2 := []) (by kernel_rfl) (by kernel_rfl) trivial (Nat.le_refl _) trivial (And.intro trivial (And.intro trivial trivial)) ?_
  exact run_lex_all_lex_digit fu t0 h rfl

def K_lex_Digits (d : D) (r : Bool) : Prop := d = (D.bool r)

noncomputable def T_lex_Digits : List Item := norm 200 [.code (Tryd.f27.body.getD .skip)]

/-- podesta/lex.Digits -/
def F_lex_Digits (fu : Nat) (t0 : ByteArray) : Option Bool :=
  (F_strconv_ParseInt t0 (10 : Int) (64 : Int)).bind fun r0 =>
  (callIf (bif (decide ((t0.size : Int) ≤ (19 : Int))) then (!(t0.toList == (⟨#[]⟩ : ByteArray).toList)) else false) (F_lex_all_lex_digit fu t0) false).bind fun r1 =>
  some (bif (bif (bif (decide ((t0.size : Int) ≤ (19 : Int))) then (!(t0.toList == (⟨#[]⟩ : ByteArray).toList)) else false) then r1 else false) then r0.2 else false)

theorem run_lex_Digits (fu : Nat) (t0 : ByteArray) {d : D} {r : Bool} (h : F_lex_Digits fu t0 = some r) (hk : (K_lex_Digits d) r) : Runs Tryd.prog Tryd.f27 0 T_lex_Digits [(0, (D.str t0))] [] d [] := by
  unfold F_lex_Digits at h
  obtain ⟨r0, cr0, h⟩ := Option.bind_eq_some_iff.1 h
  obtain ⟨r1, cr1, h⟩ := Option.bind_eq_some_iff.1 h
  refine runs_regions 3 [([], [0]), ([(.d (D.tup (D.cons (D.int .i64 r0.1) (D.cons (D.err r0.2) D.nil))))], [0, 4]), ([(.d (D.bool r1))], [2])] (z := ([FC Tryd.prog 37 [(D.str t0), (D.int .i64 (10 : Int)), (D.int .i64 (64 : Int))] [] (D.tup (D.cons (D.int .i64 r0.1) (D.cons (D.err r0.2) D.nil))) [], All (List.map NoRow [(D.str t0), (D.int .i64 (10 : Int)), (D.int .i64 (64 : Int))]), ((decide ((t0.size : Int) ≤ (19 : Int))) = true → All [((decide ((t0.size : Int) ≤ (19 : Int))) = true → (decide ((t0.size : Int) ≤ (19 : Int))) = true)]), ((true && (decide ((t0.size : Int) ≤ (19 : Int)))) = true → (decide ((t0.size : Int) ≤ (19 : Int))) = true), ((bif (decide ((t0.size : Int) ≤ (19 : Int))) then (!(t0.toList == (⟨#[]⟩ : ByteArray).toList)) else false) = true → All [((bif (decide ((t0.size : Int) ≤ (19 : Int))) then (!(t0.toList == (⟨#[]⟩ : ByteArray).toList)) else false) = true → (bif (decide ((t0.size : Int) ≤ (19 : Int))) then (!(t0.toList == (⟨#[]⟩ : ByteArray).toList)) else false) = true), FC Tryd.prog 35 [(D.str t0), (D.fn 25 D.nil)] [] (D.bool r1) [], All (List.map NoRow [(D.str t0), (D.fn 25 D.nil)])]), ((true && (bif (decide ((t0.size : Int) ≤ (19 : Int))) then (!(t0.toList == (⟨#[]⟩ : ByteArray).toList)) else false)) = true → (bif (decide ((t0.size : Int) ≤ (19 : Int))) then (!(t0.toList == (⟨#[]⟩ : ByteArray).toList)) else false) = true), ((bif (bif (decide ((t0.size : Int) ≤ (19 : Int))) then (!(t0.toList == (⟨#[]⟩ : ByteArray).toList)) else false) then r1 else false) = true → All [((bif (bif (decide ((t0.size : Int) ≤ (19 : Int))) then (!(t0.toList == (⟨#[]⟩ : ByteArray).toList)) else false) then r1 else false) = true → (bif (bif (decide ((t0.size : Int) ≤ (19 : Int))) then (!(t0.toList == (⟨#[]⟩ : ByteArray).toList)) else false) then r1 else false) = true)]), ((true && (bif (bif (decide ((t0.size : Int) ≤ (19 : Int))) then (!(t0.toList == (⟨#[]⟩ : ByteArray).toList)) else false) then r1 else false)) = true → (bif (bif (decide ((t0.size : Int) ≤ (19 : Int))) then (!(t0.toList == (⟨#[]⟩ : ByteArray).toList)) else false) then r1 else false) = true)], [(2, (D.bool (bif (bif (bif (decide ((t0.size : Int) ≤ (19 : Int))) then (!(t0.toList == (⟨#[]⟩ : ByteArray).toList)) else false) then r1 else false) then r0.2 else false)))], [])) rfl (by kernel_rfl) (And.intro (fc_strconv_ParseInt t0 (10 : Int) (64 : Int) cr0) (And.intro (And.intro trivial (And.intro trivial (And.intro trivial trivial))) (And.intro (fun _ => (And.intro (by first | exact fun h => h | exact fun h => (Bool.and_eq_true_iff.1 h).1 | simp_all) trivial)) (And.intro (by first | exact fun h => h | exact fun h => (Bool.and_eq_true_iff.1 h).1 | simp_all) (And.intro (fun hg => (And.intro (by first | exact fun h => h | exact fun h => (Bool.and_eq_true_iff.1 h).1 | simp_all) (And.intro (fc_lex_all_lex_digit fu t0 (callIf_some cr1 hg)) (And.intro (And.intro trivial (And.intro trivial trivial)) trivial)))) (And.intro (by first | exact fun h => h | exact fun h => (Bool.and_eq_true_iff.1 h).1 | simp_all) (And.intro (fun _ => (And.intro (by first | exact fun h => h | exact fun h => (Bool.and_eq_true_iff.1 h).1 | simp_all) trivial)) (And.intro (by first | exact fun h => h | exact fun h => (Bool.and_eq_true_iff.1 h).1 | simp_all) trivial)))))))) ?_
  rw [← Option.some.inj h] at hk
  obtain rfl : d = (D.bool (bif (bif (bif (decide ((t0.size : Int) ≤ (19 : Int))) then (!(t0.toList == (⟨#[]⟩ : ByteArray).toList)) else false) then r1 else false) then r0.2 else false)) := hk
  exact runs_ret (by kernel_rfl) trivial (Nat.le_refl 0) trivial trivial

theorem fc_lex_Digits (fu : Nat) (t0 : ByteArray) {r : Bool} (h : F_lex_Digits fu t0 = some r) : FC Tryd.prog 27 [(D.str t0)] [] (D.bool r) [] := by
  refine fc_of_runs (fn := Tryd.f27) (c := Tryd.f27.body.getD .skip) (by kernel_rfl) (by kernel_rfl) ?_
  refine runs_to (ts := [0]) (T' := T_lex_Digits) (env' := [(0, (D.str t0))]) (h2 := []) (by kernel_rfl) (by kernel_rfl) trivial (Nat.le_refl _) trivial (And.intro trivial trivial) ?_
  exact run_lex_Digits fu t0 h rfl

def K_lex_letter (d : D) (r : Bool) : Prop := d = (D.bool r)

noncomputable def T_lex_letter : List Item := norm 200 [.code (Tryd.f23.body.getD .skip)]

/-- podesta/lex.letter -/
def F_lex_letter (t0 : Int) : Option Bool :=
  some (bif (bif (bif (decide (t0 ≥ (97 : Int))) then (decide (t0 ≤ (122 : Int))) else false) then true else (bif (decide (t0 ≥ (65 : Int))) then (decide (t0 ≤ (90 : Int))) else false)) then true else (t0 == (95 : Int)))

theorem run_lex_letter (t0 : Int) {d : D} {r : Bool} (h : F_lex_letter t0 = some r) (hk : (K_lex_letter d) r) : Runs Tryd.prog Tryd.f23 0 T_lex_letter [(0, (D.int .u8 t0))] [] d [] := by
  unfold F_lex_letter at h
  refine runs_regions 2 [([], [0]), ([], [2])] (z := ([((decide (t0 ≥ (97 : Int))) = true → All [((decide (t0 ≥ (97 : Int))) = true → (decide (t0 ≥ (97 : Int))) = true)]), ((true && (decide (t0 ≥ (97 : Int)))) = true → (decide (t0 ≥ (97 : Int))) = true), ((!(bif (decide (t0 ≥ (97 : Int))) then (decide (t0 ≤ (122 : Int))) else false)) = true → All [((!(bif (decide (t0 ≥ (97 : Int))) then (decide (t0 ≤ (122 : Int))) else false)) = true → (!(bif (decide (t0 ≥ (97 : Int))) then (decide (t0 ≤ (122 : Int))) else false)) = true)]), ((!(bif (decide (t0 ≥ (97 : Int))) then (decide (t0 ≤ (122 : Int))) else false)) = true → All [((!(bif (decide (t0 ≥ (97 : Int))) then (decide (t0 ≤ (122 : Int))) else false)) = true → (!(bif (decide (t0 ≥ (97 : Int))) then (decide (t0 ≤ (122 : Int))) else false)) = true)]), (((!(bif (decide (t0 ≥ (97 : Int))) then (decide (t0 ≤ (122 : Int))) else false)) && (decide (t0 ≥ (65 : Int)))) = true → All [(((!(bif (decide (t0 ≥ (97 : Int))) then (decide (t0 ≤ (122 : Int))) else false)) && (decide (t0 ≥ (65 : Int)))) = true → ((!(bif (decide (t0 ≥ (97 : Int))) then (decide (t0 ≤ (122 : Int))) else false)) && (decide (t0 ≥ (65 : Int)))) = true)]), ((!(bif (decide (t0 ≥ (97 : Int))) then (decide (t0 ≤ (122 : Int))) else false)) = true → All [((!(bif (decide (t0 ≥ (97 : Int))) then (decide (t0 ≤ (122 : Int))) else false)) = true → (!(bif (decide (t0 ≥ (97 : Int))) then (decide (t0 ≤ (122 : Int))) else false)) = true), (((!(bif (decide (t0 ≥ (97 : Int))) then (decide (t0 ≤ (122 : Int))) else false)) && (decide (t0 ≥ (65 : Int)))) = true → ((!(bif (decide (t0 ≥ (97 : Int))) then (decide (t0 ≤ (122 : Int))) else false)) && (decide (t0 ≥ (65 : Int)))) = true)]), ((true && !(bif (decide (t0 ≥ (97 : Int))) then (decide (t0 ≤ (122 : Int))) else false)) = true → (!(bif (decide (t0 ≥ (97 : Int))) then (decide (t0 ≤ (122 : Int))) else false)) = true), ((!(bif (bif (decide (t0 ≥ (97 : Int))) then (decide (t0 ≤ (122 : Int))) else false) then true else (bif (decide (t0 ≥ (65 : Int))) then (decide (t0 ≤ (90 : Int))) else false))) = true → All [((!(bif (bif (decide (t0 ≥ (97 : Int))) then (decide (t0 ≤ (122 : Int))) else false) then true else (bif (decide (t0 ≥ (65 : Int))) then (decide (t0 ≤ (90 : Int))) else false))) = true → (!(bif (bif (decide (t0 ≥ (97 : Int))) then (decide (t0 ≤ (122 : Int))) else false) then true else (bif (decide (t0 ≥ (65 : Int))) then (decide (t0 ≤ (90 : Int))) else false))) = true)]), ((true && !(bif (bif (decide (t0 ≥ (97 : Int))) then (decide (t0 ≤ (122 : Int))) else false) then true else (bif (decide (t0 ≥ (65 : Int))) then (decide (t0 ≤ (90 : Int))) else false))) = true → (!(bif (bif (decide (t0 ≥ (97 : Int))) then (decide (t0 ≤ (122 : Int))) else false) then true else (bif (decide (t0 ≥ (65 : Int))) then (decide (t0 ≤ (90 : Int))) else false))) = true)], [(2, (D.bool (bif (bif (bif (decide (t0 ≥ (97 : Int))) then (decide (t0 ≤ (122 : Int))) else false) then true else (bif (decide (t0 ≥ (65 : Int))) then (decide (t0 ≤ (90 : Int))) else false)) then true else (t0 == (95 : Int)))))], [])) rfl (by kernel_rfl) (And.intro (fun _ => (And.intro (by first | exact fun h => h | exact fun h => (Bool.and_eq_true_iff.1 h).1 | simp_all) trivial)) (And.intro (by first | exact fun h => h | exact fun h => (Bool.and_eq_true_iff.1 h).1 | simp_all) (And.intro (fun _ => (And.intro (by first | exact fun h => h | exact fun h => (Bool.and_eq_true_iff.1 h).1 | simp_all) trivial)) (And.intro (fun _ => (And.intro (by first | exact fun h => h | exact fun h => (Bool.and_eq_true_iff.1 h).1 | simp_all) trivial)) (And.intro (fun _ => (And.intro (by first | exact fun h => h | exact fun h => (Bool.and_eq_true_iff.1 h).1 | simp_all) trivial)) (And.intro (fun _ => (And.intro (by first | exact fun h => h | exact fun h => (Bool.and_eq_true_iff.1 h).1 | simp_all) (And.intro (by first | exact fun h => h | exact fun h => (Bool.and_eq_true_iff.1 h).1 | simp_all) trivial))) (And.intro (by first | exact fun h => h | exact fun h => (Bool.and_eq_true_iff.1 h).1 | simp_all) (And.intro (fun _ => (And.intro (by first | exact fun h => h | exact fun h => (Bool.and_eq_true_iff.1 h).1 | simp_all) trivial)) (And.intro (by first | exact fun h => h | exact fun h => (Bool.and_eq_true_iff.1 h).1 | simp_all) trivial))))))))) ?_
  rw [← Option.some.inj h] at hk
  obtain rfl : d = (D.bool (bif (bif (bif (decide (t0 ≥ (97 : Int))) then (decide (t0 ≤ (122 : Int))) else false) then true else (bif (decide (t0 ≥ (65 : Int))) then (decide (t0 ≤ (90 : Int))) else false)) then true else (t0 == (95 : Int)))) := hk
  exact runs_ret (by kernel_rfl) trivial (Nat.le_refl 0) trivial trivial

theorem fc_lex_letter (t0 : Int) {r : Bool} (h : F_lex_letter t0 = some r) : FC Tryd.prog 23 [(D.int .u8 t0)] [] (D.bool r) [] := by
  refine fc_of_runs (fn := Tryd.f23) (c := Tryd.f23.body.getD .skip) (by kernel_rfl) (by kernel_rfl) ?_
  refine runs_to (ts := [0]) (T' := T_lex_letter) (env' := [(0, (D.int .u8 t0))]) (h2 := []) (by kernel_rfl) (by kernel_rfl) trivial (Nat.le_refl _) trivial (And.intro trivial trivial) ?_
  exact run_lex_letter t0 h rfl

def K_lex_Word_1 (d : D) (r : Bool) : Prop := d = (D.bool r)

noncomputable def T_lex_Word_1 : List Item := norm 200 [.code (Tryd.f36.body.getD .skip)]

/-- podesta/lex.Word 1 -/
def F_lex_Word_1 (t0 : Int) : Option Bool :=
  (F_lex_letter t0).bind fun r0 =>
  (callIf (!r0) (F_lex_digit t0) false).bind fun r1 =>
  some (bif r0 then true else r1)

theorem run_lex_Word_1 (t0 : Int) {d : D} {r : Bool} (h : F_lex_Word_1 t0 = some r) (hk : (K_lex_Word_1 d) r) : Runs Tryd.prog Tryd.f36 0 T_lex_Word_1 [(0, (D.int .u8 t0))] [] d [] := by
  unfold F_lex_Word_1 at h
  obtain ⟨r0, cr0, h⟩ := Option.bind_eq_some_iff.1 h
  obtain ⟨r1, cr1, h⟩ := Option.bind_eq_some_iff.1 h
  refine runs_regions 2 [([], [0]), ([(.d (D.bool r0)), (.d (D.bool r1))], [2])] (z := ([FC Tryd.prog 23 [(D.int .u8 t0)] [] (D.bool r0) [], All (List.map NoRow [(D.int .u8 t0)]), ((!r0) = true → All [((!r0) = true → (!r0) = true), FC Tryd.prog 25 [(D.int .u8 t0)] [] (D.bool r1) [], All (List.map NoRow [(D.int .u8 t0)])]), ((true && !r0) = true → (!r0) = true)], [(2, (D.bool (bif r0 then true else r1)))], [])) rfl (by kernel_rfl) (And.intro (fc_lex_letter t0 cr0) (And.intro (And.intro trivial trivial) (And.intro (fun hg => (And.intro (by first | exact fun h => h | exact fun h => (Bool.and_eq_true_iff.1 h).1 | simp_all) (And.intro (fc_lex_digit t0 (callIf_some cr1 hg)) (And.intro (And.intro trivial trivial) trivial)))) (And.intro (by first | exact fun h => h | exact fun h => (Bool.and_eq_true_iff.1 h).1 | simp_all) trivial)))) ?_
  rw [← Option.some.inj h] at hk
  obtain rfl : d = (D.bool (bif r0 then true else r1)) := hk
  exact runs_ret (by kernel_rfl) trivial (Nat.le_refl 0) trivial trivial

theorem fc_lex_Word_1 (t0 : Int) {r : Bool} (h : F_lex_Word_1 t0 = some r) : FC Tryd.prog 36 [(D.int .u8 t0)] [] (D.bool r) [] := by
  refine fc_of_runs (fn := Tryd.f36) (c := Tryd.f36.body.getD .skip) (by kernel_rfl) (by kernel_rfl) ?_
  refine runs_to (ts := [0]) (T' := T_lex_Word_1) (env' := [(0, (D.int .u8 t0))]) (h2 := []) (by kernel_rfl) (by kernel_rfl) trivial (Nat.le_refl _) trivial (And.intro trivial trivial) ?_
  exact run_lex_Word_1 t0 h rfl

def K_lex_all_lex_Word_1 (d : D) (r : Bool) : Prop := d = (D.bool r)

noncomputable def T_lex_all_lex_Word_1 : List Item := norm 200 [.code (Tryd.f35.body.getD .skip)]

noncomputable def T_lex_all_lex_Word_1_L1 : List Item := norm 200 (nxt (nxt T_lex_all_lex_Word_1))

noncomputable def X_lex_all_lex_Word_1_L1T : List Item := norm 200 (cndF (nxt (nxt (nxt T_lex_all_lex_Word_1))))

abbrev E_lex_all_lex_Word_1_L1 := Unit

def N_lex_all_lex_Word_1_L1 (_fu : Nat) (t0 : ByteArray) (t7 : Int) (d : D) (s : Int) : Prop := Runs Tryd.prog Tryd.f35 0 T_lex_all_lex_Word_1_L1 [(0, (D.str t0)), (1, (D.fn 36 D.nil)), (7, (D.int .i64 t7)), (8, (D.int .i64 s))] [] d []

def X_lex_all_lex_Word_1_L1 (_fu : Nat) (_t0 : ByteArray) (_t7 : Int) (d : D) : E_lex_all_lex_Word_1_L1 ⊕ Bool → Prop
  | .inl _ => Runs Tryd.prog Tryd.f35 0 X_lex_all_lex_Word_1_L1T [] [] d []
  | .inr o => (K_lex_all_lex_Word_1 d) o

def F_lex_all_lex_Word_1_L1 (_fu : Nat) (t0 : ByteArray) (t7 : Int) (t8 : Int) : Option (Lo Int E_lex_all_lex_Word_1_L1 Bool) :=
  ifs (decide (t8 < t7)) (
    chk (0 ≤ t8 ∧ t8 < (t0.size : Int)) <|
    (F_lex_Word_1 (((t0[t8.toNat]?).getD 0).toNat : Int)).bind fun r0 =>
    ifs (!r0) (
      some (.ret false)) (
      some (.next (IntKind.wrap .i64 (t8 + (1 : Int)))))) (
    some (.exit ()))

theorem run_lex_all_lex_Word_1_L1 (fu : Nat) (t0 : ByteArray) (t7 : Int) (t8 : Int) {d : D} {o : (Lo Int E_lex_all_lex_Word_1_L1 Bool)} (h : F_lex_all_lex_Word_1_L1 fu t0 t7 t8 = some o) (hk : (Lo.post (N_lex_all_lex_Word_1_L1 fu t0 t7 d) (X_lex_all_lex_Word_1_L1 fu t0 t7 d)) o) : Runs Tryd.prog Tryd.f35 0 T_lex_all_lex_Word_1_L1 [(0, (D.str t0)), (1, (D.fn 36 D.nil)), (7, (D.int .i64 t7)), (8, (D.int .i64 t8))] [] d [] := by
  unfold F_lex_all_lex_Word_1_L1 at h
  refine runs_regions 1 [([], [0, 1, 7, 8, 9])] (z := ([], [(0, (D.str t0)), (1, (D.fn 36 D.nil)), (7, (D.int .i64 t7)), (8, (D.int .i64 t8)), (9, (D.bool (decide (t8 < t7))))], [])) rfl (by kernel_rfl) trivial ?_
  refine runs_if (b := (decide (t8 < t7))) (by kernel_rfl) (fun hb => ?_) (fun hb => ?_)
  · replace h := ifs_true h hb
    obtain ⟨p0, h⟩ := chk_some h
    obtain ⟨r0, cr0, h⟩ := Option.bind_eq_some_iff.1 h
    refine runs_regions 2 [([], [0, 1, 5, 7, 8]), ([(.d (D.bool r0))], [0, 1, 7, 8, 16])] (z := ([(0 ≤ t8 ∧ t8 < (t0.size : Int)), FC Tryd.prog 36 [(D.int .u8 (((t0[t8.toNat]?).getD 0).toNat : Int))] [] (D.bool r0) [], All (List.map NoRow [(D.int .u8 (((t0[t8.toNat]?).getD 0).toNat : Int))])], [(0, (D.str t0)), (1, (D.fn 36 D.nil)), (7, (D.int .i64 t7)), (8, (D.int .i64 t8)), (16, (D.bool (!r0)))], [])) rfl (by kernel_rfl) (And.intro p0 (And.intro (fc_lex_Word_1 (((t0[t8.toNat]?).getD 0).toNat : Int) cr0) (And.intro (And.intro trivial trivial) trivial))) ?_
    refine runs_if (b := (!r0)) (by kernel_rfl) (fun hb => ?_) (fun hb => ?_)
    · replace h := ifs_true h hb
      refine runs_regions 1 [([], [4])] (z := ([], [(4, (D.bool false))], [])) rfl (by kernel_rfl) trivial ?_
      rw [← Option.some.inj h] at hk
      obtain rfl : d = (D.bool false) := hk
      exact runs_ret (by kernel_rfl) trivial (Nat.le_refl 0) trivial trivial
    · replace h := ifs_false h hb
      refine runs_regions 1 [([], [0, 1, 7, 8])] (z := ([], [(0, (D.str t0)), (1, (D.fn 36 D.nil)), (7, (D.int .i64 t7)), (8, (D.int .i64 (IntKind.wrap .i64 (t8 + (1 : Int)))))], [])) rfl (by kernel_rfl) trivial ?_
      rw [← Option.some.inj h] at hk
      refine runs_to (ts := [0, 1, 7, 8]) (T' := T_lex_all_lex_Word_1_L1) (env' := [(0, (D.str t0)), (1, (D.fn 36 D.nil)), (7, (D.int .i64 t7)), (8, (D.int .i64 (IntKind.wrap .i64 (t8 + (1 : Int)))))]) (h2 := []) (by kernel_rfl) (by kernel_rfl) trivial (Nat.zero_le _) trivial (And.intro trivial (And.intro trivial (And.intro trivial (And.intro trivial trivial)))) ?_
      exact hk
  · replace h := ifs_false h hb
    rw [← Option.some.inj h] at hk
    refine runs_to (ts := []) (T' := X_lex_all_lex_Word_1_L1T) (env' := []) (h2 := []) (by kernel_rfl) (by kernel_rfl) trivial (Nat.zero_le _) trivial trivial ?_
    exact hk

theorem iter_lex_all_lex_Word_1_L1 (fu : Nat) (t0 : ByteArray) (t7 : Int) {d : D} (k : Nat) (s : Int) {o : E_lex_all_lex_Word_1_L1 ⊕ Bool} (h : iter (fun s => F_lex_all_lex_Word_1_L1 fu t0 t7 s) k s = some o) (hx : X_lex_all_lex_Word_1_L1 fu t0 t7 d o) : N_lex_all_lex_Word_1_L1 fu t0 t7 d s :=
  iter_post (K := N_lex_all_lex_Word_1_L1 fu t0 t7 d) (X := X_lex_all_lex_Word_1_L1 fu t0 t7 d) (fun s _ h hk => run_lex_all_lex_Word_1_L1 fu t0 t7 s h hk) k s o h hx

/-- podesta/lex.all -/
def F_lex_all_lex_Word_1 (fu : Nat) (t0 : ByteArray) : Option Bool :=
  after (iter (fun s => F_lex_all_lex_Word_1_L1 fu t0 (t0.size : Int) s) fu (0 : Int)) fun _ =>
  some true

theorem run_lex_all_lex_Word_1 (fu : Nat) (t0 : ByteArray) {d : D} {r : Bool} (h : F_lex_all_lex_Word_1 fu t0 = some r) (hk : (K_lex_all_lex_Word_1 d) r) : Runs Tryd.prog Tryd.f35 0 T_lex_all_lex_Word_1 [(0, (D.str t0)), (1, (D.fn 36 D.nil))] [] d [] := by
  unfold F_lex_all_lex_Word_1 at h
  refine runs_regions 2 [([], [0, 1]), ([], [0, 1, 7, 8])] (z := ([], [(0, (D.str t0)), (1, (D.fn 36 D.nil)), (7, (D.int .i64 (t0.size : Int))), (8, (D.int .i64 (0 : Int)))], [])) rfl (by kernel_rfl) trivial ?_
  refine runs_to (ts := [0, 1, 7, 8]) (T' := T_lex_all_lex_Word_1_L1) (env' := [(0, (D.str t0)), (1, (D.fn 36 D.nil)), (7, (D.int .i64 (t0.size : Int))), (8, (D.int .i64 (0 : Int)))]) (h2 := []) (by kernel_rfl) (by kernel_rfl) trivial (Nat.zero_le _) trivial (And.intro trivial (And.intro trivial (And.intro trivial (And.intro trivial trivial)))) ?_
  rcases after_some h with ⟨e2, hi, h⟩ | hi
  · refine iter_lex_all_lex_Word_1_L1 fu t0 (t0.size : Int) fu (0 : Int) hi ?_
    show Runs Tryd.prog Tryd.f35 0 X_lex_all_lex_Word_1_L1T [] [] d []
    refine runs_regions 1 [([], [4])] (z := ([], [(4, (D.bool true))], [])) rfl (by kernel_rfl) trivial ?_
    rw [← Option.some.inj h] at hk
    obtain rfl : d = (D.bool true) := hk
    exact runs_ret (by kernel_rfl) trivial (Nat.le_refl 0) trivial trivial
  · exact iter_lex_all_lex_Word_1_L1 fu t0 (t0.size : Int) fu (0 : Int) hi hk

theorem fc_lex_all_lex_Word_1 (fu : Nat) (t0 : ByteArray) {r : Bool} (h : F_lex_all_lex_Word_1 fu t0 = some r) : FC Tryd.prog 35 [(D.str t0), (D.fn 36 D.nil)] [] (D.bool r) [] := by
  refine fc_of_runs (fn := Tryd.f35) (c := Tryd.f35.body.getD .skip) (by kernel_rfl) (by kernel_rfl) ?_
  refine runs_to (ts := [0, 1]) (T' := T_lex_all_lex_Word_1) (env' := [(0, (D.str t0)), (1, (D.fn 36 D.nil))]) (h2 := []) (by kernel_rfl) (by kernel_rfl) trivial (Nat.le_refl _) trivial (And.intro trivial (And.intro trivial trivial)) ?_
  exact run_lex_all_lex_Word_1 fu t0 h rfl

def K_lex_Word (d : D) (r : Bool) : Prop := d = (D.bool r)

noncomputable def T_lex_Word : List Item := norm 200 [.code (Tryd.f26.body.getD .skip)]

/-- podesta/lex.Word -/
def F_lex_Word (fu : Nat) (t0 : ByteArray) : Option Bool :=
  chk ((bif (!(t0.toList == (⟨#[]⟩ : ByteArray).toList)) then (decide ((t0.size : Int) ≤ (32 : Int))) else false) = true → (0 ≤ (0 : Int) ∧ (0 : Int) < (t0.size : Int))) <|
  (callIf (bif (!(t0.toList == (⟨#[]⟩ : ByteArray).toList)) then (decide ((t0.size : Int) ≤ (32 : Int))) else false) (F_lex_letter (((t0[(0 : Int).toNat]?).getD 0).toNat : Int)) false).bind fun r0 =>
  (callIf (bif (bif (!(t0.toList == (⟨#[]⟩ : ByteArray).toList)) then (decide ((t0.size : Int) ≤ (32 : Int))) else false) then r0 else false) (F_lex_all_lex_Word_1 fu t0) false).bind fun r1 =>
  some (bif (bif (bif (!(t0.toList == (⟨#[]⟩ : ByteArray).toList)) then (decide ((t0.size : Int) ≤ (32 : Int))) else false) then r0 else false) then r1 else false)

theorem run_lex_Word (fu : Nat) (t0 : ByteArray) {d : D} {r : Bool} (h : F_lex_Word fu t0 = some r) (hk : (K_lex_Word d) r) : Runs Tryd.prog Tryd.f26 0 T_lex_Word [(0, (D.str t0))] [] d [] := by
  unfold F_lex_Word at h
  obtain ⟨p0, h⟩ := chk_some h
  obtain ⟨r0, cr0, h⟩ := Option.bind_eq_some_iff.1 h
  obtain ⟨r1, cr1, h⟩ := Option.bind_eq_some_iff.1 h
  refine runs_regions 2 [([], [0]), ([(.d (D.bool r0)), (.d (D.bool r1))], [2])] (z := ([((!(t0.toList == (⟨#[]⟩ : ByteArray).toList)) = true → All [((!(t0.toList == (⟨#[]⟩ : ByteArray).toList)) = true → (!(t0.toList == (⟨#[]⟩ : ByteArray).toList)) = true)]), ((!(t0.toList == (⟨#[]⟩ : ByteArray).toList)) = true → All [((!(t0.toList == (⟨#[]⟩ : ByteArray).toList)) = true → (!(t0.toList == (⟨#[]⟩ : ByteArray).toList)) = true)]), ((true && (!(t0.toList == (⟨#[]⟩ : ByteArray).toList))) = true → (!(t0.toList == (⟨#[]⟩ : ByteArray).toList)) = true), ((bif (!(t0.toList == (⟨#[]⟩ : ByteArray).toList)) then (decide ((t0.size : Int) ≤ (32 : Int))) else false) = true → All [((bif (!(t0.toList == (⟨#[]⟩ : ByteArray).toList)) then (decide ((t0.size : Int) ≤ (32 : Int))) else false) = true → (bif (!(t0.toList == (⟨#[]⟩ : ByteArray).toList)) then (decide ((t0.size : Int) ≤ (32 : Int))) else false) = true), (0 ≤ (0 : Int) ∧ (0 : Int) < (t0.size : Int))]), ((bif (!(t0.toList == (⟨#[]⟩ : ByteArray).toList)) then (decide ((t0.size : Int) ≤ (32 : Int))) else false) = true → All [((bif (!(t0.toList == (⟨#[]⟩ : ByteArray).toList)) then (decide ((t0.size : Int) ≤ (32 : Int))) else false) = true → (bif (!(t0.toList == (⟨#[]⟩ : ByteArray).toList)) then (decide ((t0.size : Int) ≤ (32 : Int))) else false) = true), FC Tryd.prog 23 [(D.int .u8 (((t0[(0 : Int).toNat]?).getD 0).toNat : Int))] [] (D.bool r0) [], All (List.map NoRow [(D.int .u8 (((t0[(0 : Int).toNat]?).getD 0).toNat : Int))])]), ((true && (bif (!(t0.toList == (⟨#[]⟩ : ByteArray).toList)) then (decide ((t0.size : Int) ≤ (32 : Int))) else false)) = true → (bif (!(t0.toList == (⟨#[]⟩ : ByteArray).toList)) then (decide ((t0.size : Int) ≤ (32 : Int))) else false) = true), ((bif (bif (!(t0.toList == (⟨#[]⟩ : ByteArray).toList)) then (decide ((t0.size : Int) ≤ (32 : Int))) else false) then r0 else false) = true → All [((bif (bif (!(t0.toList == (⟨#[]⟩ : ByteArray).toList)) then (decide ((t0.size : Int) ≤ (32 : Int))) else false) then r0 else false) = true → (bif (bif (!(t0.toList == (⟨#[]⟩ : ByteArray).toList)) then (decide ((t0.size : Int) ≤ (32 : Int))) else false) then r0 else false) = true), FC Tryd.prog 35 [(D.str t0), (D.fn 36 D.nil)] [] (D.bool r1) [], All (List.map NoRow [(D.str t0), (D.fn 36 D.nil)])]), ((true && (bif (bif (!(t0.toList == (⟨#[]⟩ : ByteArray).toList)) then (decide ((t0.size : Int) ≤ (32 : Int))) else false) then r0 else false)) = true → (bif (bif (!(t0.toList == (⟨#[]⟩ : ByteArray).toList)) then (decide ((t0.size : Int) ≤ (32 : Int))) else false) then r0 else false) = true)], [(2, (D.bool (bif (bif (bif (!(t0.toList == (⟨#[]⟩ : ByteArray).toList)) then (decide ((t0.size : Int) ≤ (32 : Int))) else false) then r0 else false) then r1 else false)))], [])) rfl (by kernel_rfl) (And.intro (fun _ => (And.intro (by first | exact fun h => h | exact fun h => (Bool.and_eq_true_iff.1 h).1 | simp_all) trivial)) (And.intro (fun _ => (And.intro (by first | exact fun h => h | exact fun h => (Bool.and_eq_true_iff.1 h).1 | simp_all) trivial)) (And.intro (by first | exact fun h => h | exact fun h => (Bool.and_eq_true_iff.1 h).1 | simp_all) (And.intro (fun hg => (And.intro (by first | exact fun h => h | exact fun h => (Bool.and_eq_true_iff.1 h).1 | simp_all) (And.intro (p0 hg) trivial))) (And.intro (fun hg => (And.intro (by first | exact fun h => h | exact fun h => (Bool.and_eq_true_iff.1 h).1 | simp_all) (And.intro (fc_lex_letter (((t0[(0 : Int).toNat]?).getD 0).toNat : Int) (callIf_some cr0 hg)) (And.intro (And.intro trivial trivial) trivial)))) (And.intro (by first | exact fun h => h | exact fun h => (Bool.and_eq_true_iff.1 h).1 | simp_all) (And.intro (fun hg => (And.intro (by first | exact fun h => h | exact fun h => (Bool.and_eq_true_iff.1 h).1 | simp_all) (And.intro (fc_lex_all_lex_Word_1 fu t0 (callIf_some cr1 hg)) (And.intro (And.intro trivial (And.intro trivial trivial)) trivial)))) (And.intro (by first | exact fun h => h | exact fun h => (Bool.and_eq_true_iff.1 h).1 | simp_all) trivial)))))))) ?_
  rw [← Option.some.inj h] at hk
  obtain rfl : d = (D.bool (bif (bif (bif (!(t0.toList == (⟨#[]⟩ : ByteArray).toList)) then (decide ((t0.size : Int) ≤ (32 : Int))) else false) then r0 else false) then r1 else false)) := hk
  exact runs_ret (by kernel_rfl) trivial (Nat.le_refl 0) trivial trivial

theorem fc_lex_Word (fu : Nat) (t0 : ByteArray) {r : Bool} (h : F_lex_Word fu t0 = some r) : FC Tryd.prog 26 [(D.str t0)] [] (D.bool r) [] := by
  refine fc_of_runs (fn := Tryd.f26) (c := Tryd.f26.body.getD .skip) (by kernel_rfl) (by kernel_rfl) ?_
  refine runs_to (ts := [0]) (T' := T_lex_Word) (env' := [(0, (D.str t0))]) (h2 := []) (by kernel_rfl) (by kernel_rfl) trivial (Nat.le_refl _) trivial (And.intro trivial trivial) ?_
  exact run_lex_Word fu t0 h rfl

def K_lex_next_1 (d : D) (r : Bool) : Prop := d = (D.bool r)

noncomputable def T_lex_next_1 : List Item := norm 200 [.code (Tryd.f24.body.getD .skip)]

/-- podesta/lex.next 1 -/
def F_lex_next_1 (t0 : Int) : Option Bool :=
  (F_lex_letter t0).bind fun r0 =>
  (callIf (!r0) (F_lex_digit t0) false).bind fun r1 =>
  some (bif r0 then true else r1)

theorem run_lex_next_1 (t0 : Int) {d : D} {r : Bool} (h : F_lex_next_1 t0 = some r) (hk : (K_lex_next_1 d) r) : Runs Tryd.prog Tryd.f24 0 T_lex_next_1 [(0, (D.int .u8 t0))] [] d [] := by
  unfold F_lex_next_1 at h
  obtain ⟨r0, cr0, h⟩ := Option.bind_eq_some_iff.1 h
  obtain ⟨r1, cr1, h⟩ := Option.bind_eq_some_iff.1 h
  refine runs_regions 2 [([], [0]), ([(.d (D.bool r0)), (.d (D.bool r1))], [2])] (z := ([FC Tryd.prog 23 [(D.int .u8 t0)] [] (D.bool r0) [], All (List.map NoRow [(D.int .u8 t0)]), ((!r0) = true → All [((!r0) = true → (!r0) = true), FC Tryd.prog 25 [(D.int .u8 t0)] [] (D.bool r1) [], All (List.map NoRow [(D.int .u8 t0)])]), ((true && !r0) = true → (!r0) = true)], [(2, (D.bool (bif r0 then true else r1)))], [])) rfl (by kernel_rfl) (And.intro (fc_lex_letter t0 cr0) (And.intro (And.intro trivial trivial) (And.intro (fun hg => (And.intro (by first | exact fun h => h | exact fun h => (Bool.and_eq_true_iff.1 h).1 | simp_all) (And.intro (fc_lex_digit t0 (callIf_some cr1 hg)) (And.intro (And.intro trivial trivial) trivial)))) (And.intro (by first | exact fun h => h | exact fun h => (Bool.and_eq_true_iff.1 h).1 | simp_all) trivial)))) ?_
  rw [← Option.some.inj h] at hk
  obtain rfl : d = (D.bool (bif r0 then true else r1)) := hk
  exact runs_ret (by kernel_rfl) trivial (Nat.le_refl 0) trivial trivial

theorem fc_lex_next_1 (t0 : Int) {r : Bool} (h : F_lex_next_1 t0 = some r) : FC Tryd.prog 24 [(D.int .u8 t0)] [] (D.bool r) [] := by
  refine fc_of_runs (fn := Tryd.f24) (c := Tryd.f24.body.getD .skip) (by kernel_rfl) (by kernel_rfl) ?_
  refine runs_to (ts := [0]) (T' := T_lex_next_1) (env' := [(0, (D.int .u8 t0))]) (h2 := []) (by kernel_rfl) (by kernel_rfl) trivial (Nat.le_refl _) trivial (And.intro trivial trivial) ?_
  exact run_lex_next_1 t0 h rfl

end Go.Proofs.YteaghbcenjhjhaaDoor
