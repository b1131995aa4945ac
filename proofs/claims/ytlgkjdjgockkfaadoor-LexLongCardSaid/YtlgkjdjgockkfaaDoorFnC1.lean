/- What the functions compute, each proved to do so (printed by pgen.py). -/
import Derived.Test.YtlgkjdjgockkfaaDoorProg
import Derived.Test.YtlgkjdjgockkfaaDoorPodK
import Derived.Test.YtlgkjdjgockkfaaDoorLexC
namespace Go.Proofs.YtlgkjdjgockkfaaDoor
open Go Go.Pod Go.Proofs

structure S_api_Token where
  f0 : ByteArray
  f1 : Int

def S_api_Token.d (x : S_api_Token) : D := (D.cons (D.str x.f0) (D.cons (D.int .i64 x.f1) D.nil))

def S_api_Token.wf (x : S_api_Token) : Prop := x.f0.size ≤ maxLen ∧ (Lit.int .i64 x.f1).wf = true ∧ True

structure S_api_Fault where
  f0 : Int
  f1 : Int

def S_api_Fault.d (x : S_api_Fault) : D := (D.cons (D.int .i64 x.f0) (D.cons (D.int .i64 x.f1) D.nil))

def S_api_Fault.wf (x : S_api_Fault) : Prop := (Lit.int .i64 x.f0).wf = true ∧ (Lit.int .i64 x.f1).wf = true ∧ True

def K_lex_blanks_1 (d : D) (r : Bool) : Prop := d = (D.bool r)

noncomputable def T_lex_blanks_1 : List Item := norm 200 [.code (Tryd.f26.body.getD .skip)]

/-- podesta/lex.blanks 1 -/
def F_lex_blanks_1 (t0 : Int) : Option Bool :=
  some (t0 != (10 : Int))

theorem run_lex_blanks_1 (t0 : Int) {d : D} {r : Bool} (h : F_lex_blanks_1 t0 = some r) (hk : K_lex_blanks_1 d r) : Runs Tryd.prog Tryd.f26 0 T_lex_blanks_1 [(0, (D.int .u8 t0))] [] d [] := by
  unfold F_lex_blanks_1 at h
  refine runs_regions 2 [([], [0]), ([], [2])] (z := ([], [(2, (D.bool (t0 != (10 : Int))))], [])) rfl (by kernel_rfl) trivial ?_
  rw [← Option.some.inj h] at hk
  obtain rfl : d = (D.bool (t0 != (10 : Int))) := hk
  exact runs_ret (by kernel_rfl) trivial (Nat.le_refl 0) trivial trivial

theorem fc_lex_blanks_1 (t0 : Int) {r : Bool} (h : F_lex_blanks_1 t0 = some r) : FC Tryd.prog 26 [(D.int .u8 t0)] [] (D.bool r) [] := by
  refine fc_of_runs (fn := Tryd.f26) (c := Tryd.f26.body.getD .skip) (by kernel_rfl) (by kernel_rfl) ?_
  refine runs_to (ts := [0]) (T' := T_lex_blanks_1) (env' := [(0, (D.int .u8 t0))]) (h2 := []) (by kernel_rfl) (by kernel_rfl) trivial (Nat.le_refl 0) trivial (And.intro trivial trivial) ?_
  exact run_lex_blanks_1 t0 h rfl

def K_lex_run_lex_blanks_1 (d : D) (r : Int) : Prop := d = (D.int .i64 r)

noncomputable def T_lex_run_lex_blanks_1 : List Item := norm 200 [.code (Tryd.f25.body.getD .skip)]

noncomputable def T_lex_run_lex_blanks_1_L1 : List Item := norm 200 (nxt (nxt T_lex_run_lex_blanks_1))

noncomputable def X_lex_run_lex_blanks_1_L1T : List Item := norm 200 (cndF (nxt (nxt (nxt T_lex_run_lex_blanks_1))))

abbrev E_lex_run_lex_blanks_1_L1 := Int

def N_lex_run_lex_blanks_1_L1 (_fu : Nat) (t0 : ByteArray) (t1 : Int) (d : D) (s : Int) : Prop := Runs Tryd.prog Tryd.f25 0 T_lex_run_lex_blanks_1_L1 [(0, (D.str t0)), (1, (D.int .i64 t1)), (2, (D.fn 26 D.nil)), (7, (D.int .i64 s))] [] d []

def X_lex_run_lex_blanks_1_L1 (_fu : Nat) (_t0 : ByteArray) (_t1 : Int) (d : D) : E_lex_run_lex_blanks_1_L1 ⊕ Int → Prop
  | .inl e => Runs Tryd.prog Tryd.f25 0 X_lex_run_lex_blanks_1_L1T [(7, (D.int .i64 e))] [] d []
  | .inr o => (K_lex_run_lex_blanks_1 d) o

def F_lex_run_lex_blanks_1_L1 (_fu : Nat) (t0 : ByteArray) (t1 : Int) (t7 : Int) : Option (Lo Int E_lex_run_lex_blanks_1_L1 Int) :=
  chk ((decide ((IntKind.wrap .i64 (t1 + t7)) < (t0.size : Int))) = true → (0 ≤ (IntKind.wrap .i64 (t1 + t7)) ∧ (IntKind.wrap .i64 (t1 + t7)) < (t0.size : Int))) <|
  (callIf (decide ((IntKind.wrap .i64 (t1 + t7)) < (t0.size : Int))) (F_lex_blanks_1 (((t0[(IntKind.wrap .i64 (t1 + t7)).toNat]?).getD 0).toNat : Int)) false).bind fun r0 =>
  ifs (bif (decide ((IntKind.wrap .i64 (t1 + t7)) < (t0.size : Int))) then r0 else false) (
    some (.next (IntKind.wrap .i64 (t7 + (1 : Int))))) (
    some (.exit t7))

theorem run_lex_run_lex_blanks_1_L1 (fu : Nat) (t0 : ByteArray) (t1 : Int) (t7 : Int) {d : D} {o : (Lo Int E_lex_run_lex_blanks_1_L1 Int)} (h : F_lex_run_lex_blanks_1_L1 fu t0 t1 t7 = some o) (hk : (Lo.post (N_lex_run_lex_blanks_1_L1 fu t0 t1 d) (X_lex_run_lex_blanks_1_L1 fu t0 t1 d)) o) : Runs Tryd.prog Tryd.f25 0 T_lex_run_lex_blanks_1_L1 [(0, (D.str t0)), (1, (D.int .i64 t1)), (2, (D.fn 26 D.nil)), (7, (D.int .i64 t7))] [] d [] := by
  unfold F_lex_run_lex_blanks_1_L1 at h
  obtain ⟨p0, h⟩ := chk_some h
  obtain ⟨r0, cr0, h⟩ := Option.bind_eq_some_iff.1 h
  refine runs_regions 1 [([(.d (D.bool r0))], [0, 1, 2, 7, 22])] (z := ([((decide ((IntKind.wrap .i64 (t1 + t7)) < (t0.size : Int))) = true → All [((decide ((IntKind.wrap .i64 (t1 + t7)) < (t0.size : Int))) = true → (decide ((IntKind.wrap .i64 (t1 + t7)) < (t0.size : Int))) = true), ((decide ((IntKind.wrap .i64 (t1 + t7)) < (t0.size : Int))) = true → (decide ((IntKind.wrap .i64 (t1 + t7)) < (t0.size : Int))) = true)]), ((decide ((IntKind.wrap .i64 (t1 + t7)) < (t0.size : Int))) = true → All [((decide ((IntKind.wrap .i64 (t1 + t7)) < (t0.size : Int))) = true → (decide ((IntKind.wrap .i64 (t1 + t7)) < (t0.size : Int))) = true), ((decide ((IntKind.wrap .i64 (t1 + t7)) < (t0.size : Int))) = true → (decide ((IntKind.wrap .i64 (t1 + t7)) < (t0.size : Int))) = true), (0 ≤ (IntKind.wrap .i64 (t1 + t7)) ∧ (IntKind.wrap .i64 (t1 + t7)) < (t0.size : Int))]), ((decide ((IntKind.wrap .i64 (t1 + t7)) < (t0.size : Int))) = true → All [((decide ((IntKind.wrap .i64 (t1 + t7)) < (t0.size : Int))) = true → (decide ((IntKind.wrap .i64 (t1 + t7)) < (t0.size : Int))) = true), ((decide ((IntKind.wrap .i64 (t1 + t7)) < (t0.size : Int))) = true → (decide ((IntKind.wrap .i64 (t1 + t7)) < (t0.size : Int))) = true), FC Tryd.prog 26 [(D.int .u8 (((t0[(IntKind.wrap .i64 (t1 + t7)).toNat]?).getD 0).toNat : Int))] [] (D.bool r0) [], All (List.map NoRow [(D.int .u8 (((t0[(IntKind.wrap .i64 (t1 + t7)).toNat]?).getD 0).toNat : Int))])]), ((true && (decide ((IntKind.wrap .i64 (t1 + t7)) < (t0.size : Int)))) = true → (decide ((IntKind.wrap .i64 (t1 + t7)) < (t0.size : Int))) = true)], [(0, (D.str t0)), (1, (D.int .i64 t1)), (2, (D.fn 26 D.nil)), (7, (D.int .i64 t7)), (22, (D.bool (bif (decide ((IntKind.wrap .i64 (t1 + t7)) < (t0.size : Int))) then r0 else false)))], [])) rfl (by kernel_rfl) (And.intro (fun _ => (And.intro (by first | exact fun h => h | exact fun h => (Bool.and_eq_true_iff.1 h).1 | simp_all) (And.intro (by first | exact fun h => h | exact fun h => (Bool.and_eq_true_iff.1 h).1 | simp_all) trivial))) (And.intro (fun hg => (And.intro (by first | exact fun h => h | exact fun h => (Bool.and_eq_true_iff.1 h).1 | simp_all) (And.intro (by first | exact fun h => h | exact fun h => (Bool.and_eq_true_iff.1 h).1 | simp_all) (And.intro (p0 hg) trivial)))) (And.intro (fun hg => (And.intro (by first | exact fun h => h | exact fun h => (Bool.and_eq_true_iff.1 h).1 | simp_all) (And.intro (by first | exact fun h => h | exact fun h => (Bool.and_eq_true_iff.1 h).1 | simp_all) (And.intro (fc_lex_blanks_1 (((t0[(IntKind.wrap .i64 (t1 + t7)).toNat]?).getD 0).toNat : Int) (callIf_some cr0 hg)) (And.intro (And.intro trivial trivial) trivial))))) (And.intro (by first | exact fun h => h | exact fun h => (Bool.and_eq_true_iff.1 h).1 | simp_all) trivial)))) ?_
  refine runs_if (b := (bif (decide ((IntKind.wrap .i64 (t1 + t7)) < (t0.size : Int))) then r0 else false)) (by kernel_rfl) (fun hb => ?_) (fun hb => ?_)
  · replace h := ifs_true h hb
    refine runs_regions 1 [([], [0, 1, 2, 7])] (z := ([], [(0, (D.str t0)), (1, (D.int .i64 t1)), (2, (D.fn 26 D.nil)), (7, (D.int .i64 (IntKind.wrap .i64 (t7 + (1 : Int)))))], [])) rfl (by kernel_rfl) trivial ?_
    rw [← Option.some.inj h] at hk
    refine runs_to (ts := [0, 1, 2, 7]) (T' := T_lex_run_lex_blanks_1_L1) (env' := [(0, (D.str t0)), (1, (D.int .i64 t1)), (2, (D.fn 26 D.nil)), (7, (D.int .i64 (IntKind.wrap .i64 (t7 + (1 : Int)))))]) (h2 := []) (by kernel_rfl) (by kernel_rfl) trivial (Nat.zero_le _) trivial (And.intro trivial (And.intro trivial (And.intro trivial (And.intro trivial trivial)))) ?_
    exact hk
  · replace h := ifs_false h hb
    rw [← Option.some.inj h] at hk
    refine runs_to (ts := [7]) (T' := X_lex_run_lex_blanks_1_L1T) (env' := [(7, (D.int .i64 t7))]) (h2 := []) (by kernel_rfl) (by kernel_rfl) trivial (Nat.zero_le _) trivial (And.intro trivial trivial) ?_
    exact hk

theorem iter_lex_run_lex_blanks_1_L1 (fu : Nat) (t0 : ByteArray) (t1 : Int) {d : D} (k : Nat) (s : Int) {o : E_lex_run_lex_blanks_1_L1 ⊕ Int} (h : iter (fun s => F_lex_run_lex_blanks_1_L1 fu t0 t1 s) k s = some o) (hx : X_lex_run_lex_blanks_1_L1 fu t0 t1 d o) : N_lex_run_lex_blanks_1_L1 fu t0 t1 d s :=
  iter_post (K := N_lex_run_lex_blanks_1_L1 fu t0 t1 d) (X := X_lex_run_lex_blanks_1_L1 fu t0 t1 d) (fun s _ h hk => run_lex_run_lex_blanks_1_L1 fu t0 t1 s h hk) k s o h hx

/-- podesta/lex.run -/
def F_lex_run_lex_blanks_1 (fu : Nat) (t0 : ByteArray) (t1 : Int) : Option Int :=
  after (iter (fun s => F_lex_run_lex_blanks_1_L1 fu t0 t1 s) fu (0 : Int)) fun e2 =>
  some e2

theorem run_lex_run_lex_blanks_1 (fu : Nat) (t0 : ByteArray) (t1 : Int) {d : D} {r : Int} (h : F_lex_run_lex_blanks_1 fu t0 t1 = some r) (hk : K_lex_run_lex_blanks_1 d r) : Runs Tryd.prog Tryd.f25 0 T_lex_run_lex_blanks_1 [(0, (D.str t0)), (1, (D.int .i64 t1)), (2, (D.fn 26 D.nil))] [] d [] := by
  unfold F_lex_run_lex_blanks_1 at h
  refine runs_regions 2 [([], [0, 1, 2]), ([], [0, 1, 2, 7])] (z := ([], [(0, (D.str t0)), (1, (D.int .i64 t1)), (2, (D.fn 26 D.nil)), (7, (D.int .i64 (0 : Int)))], [])) rfl (by kernel_rfl) trivial ?_
  refine runs_to (ts := [0, 1, 2, 7]) (T' := T_lex_run_lex_blanks_1_L1) (env' := [(0, (D.str t0)), (1, (D.int .i64 t1)), (2, (D.fn 26 D.nil)), (7, (D.int .i64 (0 : Int)))]) (h2 := []) (by kernel_rfl) (by kernel_rfl) trivial (Nat.zero_le _) trivial (And.intro trivial (And.intro trivial (And.intro trivial (And.intro trivial trivial)))) ?_
  rcases after_some h with ⟨e2, hi, h⟩ | hi
  · refine iter_lex_run_lex_blanks_1_L1 fu t0 t1 fu (0 : Int) hi ?_
    show Runs Tryd.prog Tryd.f25 0 X_lex_run_lex_blanks_1_L1T [(7, (D.int .i64 e2))] [] d []
    refine runs_regions 1 [([], [6])] (z := ([], [(6, (D.int .i64 e2))], [])) rfl (by kernel_rfl) trivial ?_
    rw [← Option.some.inj h] at hk
    obtain rfl : d = (D.int .i64 e2) := hk
    exact runs_ret (by kernel_rfl) trivial (Nat.le_refl 0) trivial trivial
  · exact iter_lex_run_lex_blanks_1_L1 fu t0 t1 fu (0 : Int) hi hk

theorem fc_lex_run_lex_blanks_1 (fu : Nat) (t0 : ByteArray) (t1 : Int) {r : Int} (h : F_lex_run_lex_blanks_1 fu t0 t1 = some r) : FC Tryd.prog 25 [(D.str t0), (D.int .i64 t1), (D.fn 26 D.nil)] [] (D.int .i64 r) [] := by
  refine fc_of_runs (fn := Tryd.f25) (c := Tryd.f25.body.getD .skip) (by kernel_rfl) (by kernel_rfl) ?_
  refine runs_to (ts := [0, 1, 2]) (T' := T_lex_run_lex_blanks_1) (env' := [(0, (D.str t0)), (1, (D.int .i64 t1)), (2, (D.fn 26 D.nil))]) (h2 := []) (by kernel_rfl) (by kernel_rfl) trivial (Nat.le_refl 0) trivial (And.intro trivial (And.intro trivial (And.intro trivial trivial))) ?_
  exact run_lex_run_lex_blanks_1 fu t0 t1 h rfl

def K_lex_blanks (d : D) (r : Int) : Prop := d = (D.int .i64 r)

noncomputable def T_lex_blanks : List Item := norm 200 [.code (Tryd.f15.body.getD .skip)]

noncomputable def T_lex_blanks_J1 : List Item := norm 200 (cndT (nxt (nxt (nxt (cndT (nxt (nxt (nxt T_lex_blanks))))))))

noncomputable def T_lex_blanks_L1 : List Item := norm 200 (nxt (nxt T_lex_blanks))

noncomputable def X_lex_blanks_L1T : List Item := norm 200 (cndF (nxt (nxt (nxt T_lex_blanks))))

abbrev E_lex_blanks_L1 := Int

def N_lex_blanks_L1 (_fu : Nat) (t0 : ByteArray) (t1 : Int) (d : D) (s : Int) : Prop := Runs Tryd.prog Tryd.f15 0 T_lex_blanks_L1 [(0, (D.str t0)), (1, (D.int .i64 t1)), (5, (D.int .i64 s))] [] d []

def X_lex_blanks_L1 (_fu : Nat) (_t0 : ByteArray) (_t1 : Int) (d : D) : E_lex_blanks_L1 ⊕ Int → Prop
  | .inl e => Runs Tryd.prog Tryd.f15 0 X_lex_blanks_L1T [(5, (D.int .i64 e))] [] d []
  | .inr o => (K_lex_blanks d) o

def F_lex_blanks_J1 (fu : Nat) (t0 : ByteArray) (t1 : Int) (t5 : Int) (t18 : Int) (t20 : Bool) : Option (Lo Int E_lex_blanks_L1 Int) :=
  ifs t20 (
    some (.next (IntKind.wrap .i64 (t5 + (1 : Int))))) (
    ifs (t18 == (35 : Int)) (
      (F_lex_run_lex_blanks_1 fu t0 (IntKind.wrap .i64 (t1 + t5))).bind fun r0 =>
      some (.next (IntKind.wrap .i64 (t5 + r0)))) (
      some (.ret t5)))

theorem run_lex_blanks_J1 (fu : Nat) (t0 : ByteArray) (t1 : Int) (t5 : Int) (t18 : Int) (t20 : Bool) {d : D} {o : (Lo Int E_lex_blanks_L1 Int)} (h : F_lex_blanks_J1 fu t0 t1 t5 t18 t20 = some o) (hk : (Lo.post (N_lex_blanks_L1 fu t0 t1 d) (X_lex_blanks_L1 fu t0 t1 d)) o) : Runs Tryd.prog Tryd.f15 0 T_lex_blanks_J1 [(0, (D.str t0)), (1, (D.int .i64 t1)), (5, (D.int .i64 t5)), (18, (D.int .u8 t18)), (20, (D.bool t20))] [] d [] := by
  unfold F_lex_blanks_J1 at h
  refine runs_if (b := t20) (by kernel_rfl) (fun hb => ?_) (fun hb => ?_)
  · replace h := ifs_true h hb
    refine runs_regions 1 [([], [0, 1, 5])] (z := ([], [(0, (D.str t0)), (1, (D.int .i64 t1)), (5, (D.int .i64 (IntKind.wrap .i64 (t5 + (1 : Int)))))], [])) rfl (by kernel_rfl) trivial ?_
    rw [← Option.some.inj h] at hk
    refine runs_to (ts := [0, 1, 5]) (T' := T_lex_blanks_L1) (env' := [(0, (D.str t0)), (1, (D.int .i64 t1)), (5, (D.int .i64 (IntKind.wrap .i64 (t5 + (1 : Int)))))]) (h2 := []) (by kernel_rfl) (by kernel_rfl) trivial (Nat.zero_le _) trivial (And.intro trivial (And.intro trivial (And.intro trivial trivial))) ?_
    exact hk
  · replace h := ifs_false h hb
    refine runs_regions 1 [([], [0, 1, 5, 27])] (z := ([], [(0, (D.str t0)), (1, (D.int .i64 t1)), (5, (D.int .i64 t5)), (27, (D.bool (t18 == (35 : Int))))], [])) rfl (by kernel_rfl) trivial ?_
    refine runs_if (b := (t18 == (35 : Int))) (by kernel_rfl) (fun hb => ?_) (fun hb => ?_)
    · replace h := ifs_true h hb
      obtain ⟨r0, cr0, h⟩ := Option.bind_eq_some_iff.1 h
      refine runs_regions 1 [([(.d (D.int .i64 r0))], [0, 1, 5])] (z := ([FC Tryd.prog 25 [(D.str t0), (D.int .i64 (IntKind.wrap .i64 (t1 + t5))), (D.fn 26 D.nil)] [] (D.int .i64 r0) [], All (List.map NoRow [(D.str t0), (D.int .i64 (IntKind.wrap .i64 (t1 + t5))), (D.fn 26 D.nil)])], [(0, (D.str t0)), (1, (D.int .i64 t1)), (5, (D.int .i64 (IntKind.wrap .i64 (t5 + r0))))], [])) rfl (by kernel_rfl) (And.intro (fc_lex_run_lex_blanks_1 fu t0 (IntKind.wrap .i64 (t1 + t5)) cr0) (And.intro (And.intro trivial (And.intro trivial (And.intro trivial trivial))) trivial)) ?_
      rw [← Option.some.inj h] at hk
      refine runs_to (ts := [0, 1, 5]) (T' := T_lex_blanks_L1) (env' := [(0, (D.str t0)), (1, (D.int .i64 t1)), (5, (D.int .i64 (IntKind.wrap .i64 (t5 + r0))))]) (h2 := []) (by kernel_rfl) (by kernel_rfl) trivial (Nat.zero_le _) trivial (And.intro trivial (And.intro trivial (And.intro trivial trivial))) ?_
      exact hk
    · replace h := ifs_false h hb
      refine runs_regions 1 [([], [4])] (z := ([], [(4, (D.int .i64 t5))], [])) rfl (by kernel_rfl) trivial ?_
      rw [← Option.some.inj h] at hk
      obtain rfl : d = (D.int .i64 t5) := hk
      exact runs_ret (by kernel_rfl) trivial (Nat.le_refl 0) trivial trivial

def F_lex_blanks_L1 (fu : Nat) (t0 : ByteArray) (t1 : Int) (t5 : Int) : Option (Lo Int E_lex_blanks_L1 Int) :=
  ifs (decide ((IntKind.wrap .i64 (t1 + t5)) < (t0.size : Int))) (
    chk (0 ≤ (IntKind.wrap .i64 (t1 + t5)) ∧ (IntKind.wrap .i64 (t1 + t5)) < (t0.size : Int)) <|
    ifs ((((t0[(IntKind.wrap .i64 (t1 + t5)).toNat]?).getD 0).toNat : Int) == (32 : Int)) (
      F_lex_blanks_J1 fu t0 t1 t5 (((t0[(IntKind.wrap .i64 (t1 + t5)).toNat]?).getD 0).toNat : Int) ((((t0[(IntKind.wrap .i64 (t1 + t5)).toNat]?).getD 0).toNat : Int) == (32 : Int))) (
      ifs ((((t0[(IntKind.wrap .i64 (t1 + t5)).toNat]?).getD 0).toNat : Int) == (9 : Int)) (
        F_lex_blanks_J1 fu t0 t1 t5 (((t0[(IntKind.wrap .i64 (t1 + t5)).toNat]?).getD 0).toNat : Int) ((((t0[(IntKind.wrap .i64 (t1 + t5)).toNat]?).getD 0).toNat : Int) == (9 : Int))) (
        ifs ((((t0[(IntKind.wrap .i64 (t1 + t5)).toNat]?).getD 0).toNat : Int) == (10 : Int)) (
          F_lex_blanks_J1 fu t0 t1 t5 (((t0[(IntKind.wrap .i64 (t1 + t5)).toNat]?).getD 0).toNat : Int) ((((t0[(IntKind.wrap .i64 (t1 + t5)).toNat]?).getD 0).toNat : Int) == (10 : Int))) (
          F_lex_blanks_J1 fu t0 t1 t5 (((t0[(IntKind.wrap .i64 (t1 + t5)).toNat]?).getD 0).toNat : Int) ((((t0[(IntKind.wrap .i64 (t1 + t5)).toNat]?).getD 0).toNat : Int) == (13 : Int)))))) (
    some (.exit t5))

theorem run_lex_blanks_L1 (fu : Nat) (t0 : ByteArray) (t1 : Int) (t5 : Int) {d : D} {o : (Lo Int E_lex_blanks_L1 Int)} (h : F_lex_blanks_L1 fu t0 t1 t5 = some o) (hk : (Lo.post (N_lex_blanks_L1 fu t0 t1 d) (X_lex_blanks_L1 fu t0 t1 d)) o) : Runs Tryd.prog Tryd.f15 0 T_lex_blanks_L1 [(0, (D.str t0)), (1, (D.int .i64 t1)), (5, (D.int .i64 t5))] [] d [] := by
  unfold F_lex_blanks_L1 at h
  refine runs_regions 1 [([], [0, 1, 5, 12])] (z := ([], [(0, (D.str t0)), (1, (D.int .i64 t1)), (5, (D.int .i64 t5)), (12, (D.bool (decide ((IntKind.wrap .i64 (t1 + t5)) < (t0.size : Int)))))], [])) rfl (by kernel_rfl) trivial ?_
  refine runs_if (b := (decide ((IntKind.wrap .i64 (t1 + t5)) < (t0.size : Int)))) (by kernel_rfl) (fun hb => ?_) (fun hb => ?_)
  · replace h := ifs_true h hb
    obtain ⟨p0, h⟩ := chk_some h
    refine runs_regions 3 [([], [0, 1, 5, 6]), ([], [0, 1, 5, 18]), ([], [0, 1, 5, 18, 20])] (z := ([(0 ≤ (IntKind.wrap .i64 (t1 + t5)) ∧ (IntKind.wrap .i64 (t1 + t5)) < (t0.size : Int))], [(0, (D.str t0)), (1, (D.int .i64 t1)), (5, (D.int .i64 t5)), (18, (D.int .u8 (((t0[(IntKind.wrap .i64 (t1 + t5)).toNat]?).getD 0).toNat : Int))), (20, (D.bool ((((t0[(IntKind.wrap .i64 (t1 + t5)).toNat]?).getD 0).toNat : Int) == (32 : Int))))], [])) rfl (by kernel_rfl) (And.intro p0 trivial) ?_
    refine runs_if (b := ((((t0[(IntKind.wrap .i64 (t1 + t5)).toNat]?).getD 0).toNat : Int) == (32 : Int))) (by kernel_rfl) (fun hb => ?_) (fun hb => ?_)
    · replace h := ifs_true h hb
      refine runs_to (ts := [0, 1, 5, 18, 20]) (T' := T_lex_blanks_J1) (env' := [(0, (D.str t0)), (1, (D.int .i64 t1)), (5, (D.int .i64 t5)), (18, (D.int .u8 (((t0[(IntKind.wrap .i64 (t1 + t5)).toNat]?).getD 0).toNat : Int))), (20, (D.bool ((((t0[(IntKind.wrap .i64 (t1 + t5)).toNat]?).getD 0).toNat : Int) == (32 : Int))))]) (h2 := []) (by kernel_rfl) (by kernel_rfl) trivial (Nat.zero_le _) trivial (And.intro trivial (And.intro trivial (And.intro trivial (And.intro trivial (And.intro trivial trivial))))) ?_
      exact run_lex_blanks_J1 fu t0 t1 t5 (((t0[(IntKind.wrap .i64 (t1 + t5)).toNat]?).getD 0).toNat : Int) ((((t0[(IntKind.wrap .i64 (t1 + t5)).toNat]?).getD 0).toNat : Int) == (32 : Int)) h hk
    · replace h := ifs_false h hb
      refine runs_regions 1 [([], [0, 1, 5, 18, 20])] (z := ([], [(0, (D.str t0)), (1, (D.int .i64 t1)), (5, (D.int .i64 t5)), (18, (D.int .u8 (((t0[(IntKind.wrap .i64 (t1 + t5)).toNat]?).getD 0).toNat : Int))), (20, (D.bool ((((t0[(IntKind.wrap .i64 (t1 + t5)).toNat]?).getD 0).toNat : Int) == (9 : Int))))], [])) rfl (by kernel_rfl) trivial ?_
      refine runs_if (b := ((((t0[(IntKind.wrap .i64 (t1 + t5)).toNat]?).getD 0).toNat : Int) == (9 : Int))) (by kernel_rfl) (fun hb => ?_) (fun hb => ?_)
      · replace h := ifs_true h hb
        refine runs_to (ts := [0, 1, 5, 18, 20]) (T' := T_lex_blanks_J1) (env' := [(0, (D.str t0)), (1, (D.int .i64 t1)), (5, (D.int .i64 t5)), (18, (D.int .u8 (((t0[(IntKind.wrap .i64 (t1 + t5)).toNat]?).getD 0).toNat : Int))), (20, (D.bool ((((t0[(IntKind.wrap .i64 (t1 + t5)).toNat]?).getD 0).toNat : Int) == (9 : Int))))]) (h2 := []) (by kernel_rfl) (by kernel_rfl) trivial (Nat.zero_le _) trivial (And.intro trivial (And.intro trivial (And.intro trivial (And.intro trivial (And.intro trivial trivial))))) ?_
        exact run_lex_blanks_J1 fu t0 t1 t5 (((t0[(IntKind.wrap .i64 (t1 + t5)).toNat]?).getD 0).toNat : Int) ((((t0[(IntKind.wrap .i64 (t1 + t5)).toNat]?).getD 0).toNat : Int) == (9 : Int)) h hk
      · replace h := ifs_false h hb
        refine runs_regions 1 [([], [0, 1, 5, 18, 20])] (z := ([], [(0, (D.str t0)), (1, (D.int .i64 t1)), (5, (D.int .i64 t5)), (18, (D.int .u8 (((t0[(IntKind.wrap .i64 (t1 + t5)).toNat]?).getD 0).toNat : Int))), (20, (D.bool ((((t0[(IntKind.wrap .i64 (t1 + t5)).toNat]?).getD 0).toNat : Int) == (10 : Int))))], [])) rfl (by kernel_rfl) trivial ?_
        refine runs_if (b := ((((t0[(IntKind.wrap .i64 (t1 + t5)).toNat]?).getD 0).toNat : Int) == (10 : Int))) (by kernel_rfl) (fun hb => ?_) (fun hb => ?_)
        · replace h := ifs_true h hb
          refine runs_to (ts := [0, 1, 5, 18, 20]) (T' := T_lex_blanks_J1) (env' := [(0, (D.str t0)), (1, (D.int .i64 t1)), (5, (D.int .i64 t5)), (18, (D.int .u8 (((t0[(IntKind.wrap .i64 (t1 + t5)).toNat]?).getD 0).toNat : Int))), (20, (D.bool ((((t0[(IntKind.wrap .i64 (t1 + t5)).toNat]?).getD 0).toNat : Int) == (10 : Int))))]) (h2 := []) (by kernel_rfl) (by kernel_rfl) trivial (Nat.zero_le _) trivial (And.intro trivial (And.intro trivial (And.intro trivial (And.intro trivial (And.intro trivial trivial))))) ?_
          exact run_lex_blanks_J1 fu t0 t1 t5 (((t0[(IntKind.wrap .i64 (t1 + t5)).toNat]?).getD 0).toNat : Int) ((((t0[(IntKind.wrap .i64 (t1 + t5)).toNat]?).getD 0).toNat : Int) == (10 : Int)) h hk
        · replace h := ifs_false h hb
          refine runs_regions 1 [([], [0, 1, 5, 18, 20])] (z := ([], [(0, (D.str t0)), (1, (D.int .i64 t1)), (5, (D.int .i64 t5)), (18, (D.int .u8 (((t0[(IntKind.wrap .i64 (t1 + t5)).toNat]?).getD 0).toNat : Int))), (20, (D.bool ((((t0[(IntKind.wrap .i64 (t1 + t5)).toNat]?).getD 0).toNat : Int) == (13 : Int))))], [])) rfl (by kernel_rfl) trivial ?_
          refine runs_to (ts := [0, 1, 5, 18, 20]) (T' := T_lex_blanks_J1) (env' := [(0, (D.str t0)), (1, (D.int .i64 t1)), (5, (D.int .i64 t5)), (18, (D.int .u8 (((t0[(IntKind.wrap .i64 (t1 + t5)).toNat]?).getD 0).toNat : Int))), (20, (D.bool ((((t0[(IntKind.wrap .i64 (t1 + t5)).toNat]?).getD 0).toNat : Int) == (13 : Int))))]) (h2 := []) (by kernel_rfl) (by kernel_rfl) trivial (Nat.zero_le _) trivial (And.intro trivial (And.intro trivial (And.intro trivial (And.intro trivial (And.intro trivial trivial))))) ?_
          exact run_lex_blanks_J1 fu t0 t1 t5 (((t0[(IntKind.wrap .i64 (t1 + t5)).toNat]?).getD 0).toNat : Int) ((((t0[(IntKind.wrap .i64 (t1 + t5)).toNat]?).getD 0).toNat : Int) == (13 : Int)) h hk
  · replace h := ifs_false h hb
    rw [← Option.some.inj h] at hk
    refine runs_to (ts := [5]) (T' := X_lex_blanks_L1T) (env' := [(5, (D.int .i64 t5))]) (h2 := []) (by kernel_rfl) (by kernel_rfl) trivial (Nat.zero_le _) trivial (And.intro trivial trivial) ?_
    exact hk

theorem iter_lex_blanks_L1 (fu : Nat) (t0 : ByteArray) (t1 : Int) {d : D} (k : Nat) (s : Int) {o : E_lex_blanks_L1 ⊕ Int} (h : iter (fun s => F_lex_blanks_L1 fu t0 t1 s) k s = some o) (hx : X_lex_blanks_L1 fu t0 t1 d o) : N_lex_blanks_L1 fu t0 t1 d s :=
  iter_post (K := N_lex_blanks_L1 fu t0 t1 d) (X := X_lex_blanks_L1 fu t0 t1 d) (fun s _ h hk => run_lex_blanks_L1 fu t0 t1 s h hk) k s o h hx

/-- podesta/lex.blanks -/
def F_lex_blanks (fu : Nat) (t0 : ByteArray) (t1 : Int) : Option Int :=
  after (iter (fun s => F_lex_blanks_L1 fu t0 t1 s) fu (0 : Int)) fun e2 =>
  some e2

theorem run_lex_blanks (fu : Nat) (t0 : ByteArray) (t1 : Int) {d : D} {r : Int} (h : F_lex_blanks fu t0 t1 = some r) (hk : K_lex_blanks d r) : Runs Tryd.prog Tryd.f15 0 T_lex_blanks [(0, (D.str t0)), (1, (D.int .i64 t1))] [] d [] := by
  unfold F_lex_blanks at h
  refine runs_regions 2 [([], [0, 1]), ([], [0, 1, 5])] (z := ([], [(0, (D.str t0)), (1, (D.int .i64 t1)), (5, (D.int .i64 (0 : Int)))], [])) rfl (by kernel_rfl) trivial ?_
  refine runs_to (ts := [0, 1, 5]) (T' := T_lex_blanks_L1) (env' := [(0, (D.str t0)), (1, (D.int .i64 t1)), (5, (D.int .i64 (0 : Int)))]) (h2 := []) (by kernel_rfl) (by kernel_rfl) trivial (Nat.zero_le _) trivial (And.intro trivial (And.intro trivial (And.intro trivial trivial))) ?_
  rcases after_some h with ⟨e2, hi, h⟩ | hi
  · refine iter_lex_blanks_L1 fu t0 t1 fu (0 : Int) hi ?_
    show Runs Tryd.prog Tryd.f15 0 X_lex_blanks_L1T [(5, (D.int .i64 e2))] [] d []
    refine runs_regions 1 [([], [4])] (z := ([], [(4, (D.int .i64 e2))], [])) rfl (by kernel_rfl) trivial ?_
    rw [← Option.some.inj h] at hk
    obtain rfl : d = (D.int .i64 e2) := hk
    exact runs_ret (by kernel_rfl) trivial (Nat.le_refl 0) trivial trivial
  · exact iter_lex_blanks_L1 fu t0 t1 fu (0 : Int) hi hk

theorem fc_lex_blanks (fu : Nat) (t0 : ByteArray) (t1 : Int) {r : Int} (h : F_lex_blanks fu t0 t1 = some r) : FC Tryd.prog 15 [(D.str t0), (D.int .i64 t1)] [] (D.int .i64 r) [] := by
  refine fc_of_runs (fn := Tryd.f15) (c := Tryd.f15.body.getD .skip) (by kernel_rfl) (by kernel_rfl) ?_
  refine runs_to (ts := [0, 1]) (T' := T_lex_blanks) (env' := [(0, (D.str t0)), (1, (D.int .i64 t1))]) (h2 := []) (by kernel_rfl) (by kernel_rfl) trivial (Nat.le_refl 0) trivial (And.intro trivial (And.intro trivial trivial)) ?_
  exact run_lex_blanks fu t0 t1 h rfl

def K_lex_letter (d : D) (r : Bool) : Prop := d = (D.bool r)

noncomputable def T_lex_letter : List Item := norm 200 [.code (Tryd.f20.body.getD .skip)]

/-- podesta/lex.letter -/
def F_lex_letter (t0 : Int) : Option Bool :=
  some (bif (bif (bif (decide (t0 ≥ (97 : Int))) then (decide (t0 ≤ (122 : Int))) else false) then true else (bif (decide (t0 ≥ (65 : Int))) then (decide (t0 ≤ (90 : Int))) else false)) then true else (t0 == (95 : Int)))

theorem run_lex_letter (t0 : Int) {d : D} {r : Bool} (h : F_lex_letter t0 = some r) (hk : K_lex_letter d r) : Runs Tryd.prog Tryd.f20 0 T_lex_letter [(0, (D.int .u8 t0))] [] d [] := by
  unfold F_lex_letter at h
  refine runs_regions 2 [([], [0]), ([], [2])] (z := ([((decide (t0 ≥ (97 : Int))) = true → All [((decide (t0 ≥ (97 : Int))) = true → (decide (t0 ≥ (97 : Int))) = true)]), ((true && (decide (t0 ≥ (97 : Int)))) = true → (decide (t0 ≥ (97 : Int))) = true), ((!(bif (decide (t0 ≥ (97 : Int))) then (decide (t0 ≤ (122 : Int))) else false)) = true → All [((!(bif (decide (t0 ≥ (97 : Int))) then (decide (t0 ≤ (122 : Int))) else false)) = true → (!(bif (decide (t0 ≥ (97 : Int))) then (decide (t0 ≤ (122 : Int))) else false)) = true)]), ((!(bif (decide (t0 ≥ (97 : Int))) then (decide (t0 ≤ (122 : Int))) else false)) = true → All [((!(bif (decide (t0 ≥ (97 : Int))) then (decide (t0 ≤ (122 : Int))) else false)) = true → (!(bif (decide (t0 ≥ (97 : Int))) then (decide (t0 ≤ (122 : Int))) else false)) = true)]), (((!(bif (decide (t0 ≥ (97 : Int))) then (decide (t0 ≤ (122 : Int))) else false)) && (decide (t0 ≥ (65 : Int)))) = true → All [(((!(bif (decide (t0 ≥ (97 : Int))) then (decide (t0 ≤ (122 : Int))) else false)) && (decide (t0 ≥ (65 : Int)))) = true → ((!(bif (decide (t0 ≥ (97 : Int))) then (decide (t0 ≤ (122 : Int))) else false)) && (decide (t0 ≥ (65 : Int)))) = true)]), ((!(bif (decide (t0 ≥ (97 : Int))) then (decide (t0 ≤ (122 : Int))) else false)) = true → All [((!(bif (decide (t0 ≥ (97 : Int))) then (decide (t0 ≤ (122 : Int))) else false)) = true → (!(bif (decide (t0 ≥ (97 : Int))) then (decide (t0 ≤ (122 : Int))) else false)) = true), (((!(bif (decide (t0 ≥ (97 : Int))) then (decide (t0 ≤ (122 : Int))) else false)) && (decide (t0 ≥ (65 : Int)))) = true → ((!(bif (decide (t0 ≥ (97 : Int))) then (decide (t0 ≤ (122 : Int))) else false)) && (decide (t0 ≥ (65 : Int)))) = true)]), ((true && !(bif (decide (t0 ≥ (97 : Int))) then (decide (t0 ≤ (122 : Int))) else false)) = true → (!(bif (decide (t0 ≥ (97 : Int))) then (decide (t0 ≤ (122 : Int))) else false)) = true), ((!(bif (bif (decide (t0 ≥ (97 : Int))) then (decide (t0 ≤ (122 : Int))) else false) then true else (bif (decide (t0 ≥ (65 : Int))) then (decide (t0 ≤ (90 : Int))) else false))) = true → All [((!(bif (bif (decide (t0 ≥ (97 : Int))) then (decide (t0 ≤ (122 : Int))) else false) then true else (bif (decide (t0 ≥ (65 : Int))) then (decide (t0 ≤ (90 : Int))) else false))) = true → (!(bif (bif (decide (t0 ≥ (97 : Int))) then (decide (t0 ≤ (122 : Int))) else false) then true else (bif (decide (t0 ≥ (65 : Int))) then (decide (t0 ≤ (90 : Int))) else false))) = true)]), ((true && !(bif (bif (decide (t0 ≥ (97 : Int))) then (decide (t0 ≤ (122 : Int))) else false) then true else (bif (decide (t0 ≥ (65 : Int))) then (decide (t0 ≤ (90 : Int))) else false))) = true → (!(bif (bif (decide (t0 ≥ (97 : Int))) then (decide (t0 ≤ (122 : Int))) else false) then true else (bif (decide (t0 ≥ (65 : Int))) then (decide (t0 ≤ (90 : Int))) else false))) = true)], [(2, (D.bool (bif (bif (bif (decide (t0 ≥ (97 : Int))) then (decide (t0 ≤ (122 : Int))) else false) then true else (bif (decide (t0 ≥ (65 : Int))) then (decide (t0 ≤ (90 : Int))) else false)) then true else (t0 == (95 : Int)))))], [])) rfl (by kernel_rfl) (And.intro (fun _ => (And.intro (by first | exact fun h => h | exact fun h => (Bool.and_eq_true_iff.1 h).1 | simp_all) trivial)) (And.intro (by first | exact fun h => h | exact fun h => (Bool.and_eq_true_iff.1 h).1 | simp_all) (And.intro (fun _ => (And.intro (by first | exact fun h => h | exact fun h => (Bool.and_eq_true_iff.1 h).1 | simp_all) trivial)) (And.intro (fun _ => (And.intro (by first | exact fun h => h | exact fun h => (Bool.and_eq_true_iff.1 h).1 | simp_all) trivial)) (And.intro (fun _ => (And.intro (by first | exact fun h => h | exact fun h => (Bool.and_eq_true_iff.1 h).1 | simp_all) trivial)) (And.intro (fun _ => (And.intro (by first | exact fun h => h | exact fun h => (Bool.and_eq_true_iff.1 h).1 | simp_all) (And.intro (by first | exact fun h => h | exact fun h => (Bool.and_eq_true_iff.1 h).1 | simp_all) trivial))) (And.intro (by first | exact fun h => h | exact fun h => (Bool.and_eq_true_iff.1 h).1 | simp_all) (And.intro (fun _ => (And.intro (by first | exact fun h => h | exact fun h => (Bool.and_eq_true_iff.1 h).1 | simp_all) trivial)) (And.intro (by first | exact fun h => h | exact fun h => (Bool.and_eq_true_iff.1 h).1 | simp_all) trivial))))))))) ?_
  rw [← Option.some.inj h] at hk
  obtain rfl : d = (D.bool (bif (bif (bif (decide (t0 ≥ (97 : Int))) then (decide (t0 ≤ (122 : Int))) else false) then true else (bif (decide (t0 ≥ (65 : Int))) then (decide (t0 ≤ (90 : Int))) else false)) then true else (t0 == (95 : Int)))) := hk
  exact runs_ret (by kernel_rfl) trivial (Nat.le_refl 0) trivial trivial

theorem fc_lex_letter (t0 : Int) {r : Bool} (h : F_lex_letter t0 = some r) : FC Tryd.prog 20 [(D.int .u8 t0)] [] (D.bool r) [] := by
  refine fc_of_runs (fn := Tryd.f20) (c := Tryd.f20.body.getD .skip) (by kernel_rfl) (by kernel_rfl) ?_
  refine runs_to (ts := [0]) (T' := T_lex_letter) (env' := [(0, (D.int .u8 t0))]) (h2 := []) (by kernel_rfl) (by kernel_rfl) trivial (Nat.le_refl 0) trivial (And.intro trivial trivial) ?_
  exact run_lex_letter t0 h rfl

def K_lex_digit (d : D) (r : Bool) : Prop := d = (D.bool r)

noncomputable def T_lex_digit : List Item := norm 200 [.code (Tryd.f23.body.getD .skip)]

/-- podesta/lex.digit -/
def F_lex_digit (t0 : Int) : Option Bool :=
  some (bif (decide (t0 ≥ (48 : Int))) then (decide (t0 ≤ (57 : Int))) else false)

theorem run_lex_digit (t0 : Int) {d : D} {r : Bool} (h : F_lex_digit t0 = some r) (hk : K_lex_digit d r) : Runs Tryd.prog Tryd.f23 0 T_lex_digit [(0, (D.int .u8 t0))] [] d [] := by
  unfold F_lex_digit at h
  refine runs_regions 2 [([], [0]), ([], [2])] (z := ([((decide (t0 ≥ (48 : Int))) = true → All [((decide (t0 ≥ (48 : Int))) = true → (decide (t0 ≥ (48 : Int))) = true)]), ((true && (decide (t0 ≥ (48 : Int)))) = true → (decide (t0 ≥ (48 : Int))) = true)], [(2, (D.bool (bif (decide (t0 ≥ (48 : Int))) then (decide (t0 ≤ (57 : Int))) else false)))], [])) rfl (by kernel_rfl) (And.intro (fun _ => (And.intro (by first | exact fun h => h | exact fun h => (Bool.and_eq_true_iff.1 h).1 | simp_all) trivial)) (And.intro (by first | exact fun h => h | exact fun h => (Bool.and_eq_true_iff.1 h).1 | simp_all) trivial)) ?_
  rw [← Option.some.inj h] at hk
  obtain rfl : d = (D.bool (bif (decide (t0 ≥ (48 : Int))) then (decide (t0 ≤ (57 : Int))) else false)) := hk
  exact runs_ret (by kernel_rfl) trivial (Nat.le_refl 0) trivial trivial

theorem fc_lex_digit (t0 : Int) {r : Bool} (h : F_lex_digit t0 = some r) : FC Tryd.prog 23 [(D.int .u8 t0)] [] (D.bool r) [] := by
  refine fc_of_runs (fn := Tryd.f23) (c := Tryd.f23.body.getD .skip) (by kernel_rfl) (by kernel_rfl) ?_
  refine runs_to (ts := [0]) (T' := T_lex_digit) (env' := [(0, (D.int .u8 t0))]) (h2 := []) (by kernel_rfl) (by kernel_rfl) trivial (Nat.le_refl 0) trivial (And.intro trivial trivial) ?_
  exact run_lex_digit t0 h rfl

def K_lex_next_1 (d : D) (r : Bool) : Prop := d = (D.bool r)

noncomputable def T_lex_next_1 : List Item := norm 200 [.code (Tryd.f27.body.getD .skip)]

/-- podesta/lex.next 1 -/
def F_lex_next_1 (t0 : Int) : Option Bool :=
  (F_lex_letter t0).bind fun r0 =>
  (callIf (!r0) (F_lex_digit t0) false).bind fun r1 =>
  some (bif r0 then true else r1)

theorem run_lex_next_1 (t0 : Int) {d : D} {r : Bool} (h : F_lex_next_1 t0 = some r) (hk : K_lex_next_1 d r) : Runs Tryd.prog Tryd.f27 0 T_lex_next_1 [(0, (D.int .u8 t0))] [] d [] := by
  unfold F_lex_next_1 at h
  obtain ⟨r0, cr0, h⟩ := Option.bind_eq_some_iff.1 h
  obtain ⟨r1, cr1, h⟩ := Option.bind_eq_some_iff.1 h
  refine runs_regions 2 [([], [0]), ([(.d (D.bool r0)), (.d (D.bool r1))], [2])] (z := ([FC Tryd.prog 20 [(D.int .u8 t0)] [] (D.bool r0) [], All (List.map NoRow [(D.int .u8 t0)]), ((!r0) = true → All [((!r0) = true → (!r0) = true), FC Tryd.prog 23 [(D.int .u8 t0)] [] (D.bool r1) [], All (List.map NoRow [(D.int .u8 t0)])]), ((true && !r0) = true → (!r0) = true)], [(2, (D.bool (bif r0 then true else r1)))], [])) rfl (by kernel_rfl) (And.intro (fc_lex_letter t0 cr0) (And.intro (And.intro trivial trivial) (And.intro (fun hg => (And.intro (by first | exact fun h => h | exact fun h => (Bool.and_eq_true_iff.1 h).1 | simp_all) (And.intro (fc_lex_digit t0 (callIf_some cr1 hg)) (And.intro (And.intro trivial trivial) trivial)))) (And.intro (by first | exact fun h => h | exact fun h => (Bool.and_eq_true_iff.1 h).1 | simp_all) trivial)))) ?_
  rw [← Option.some.inj h] at hk
  obtain rfl : d = (D.bool (bif r0 then true else r1)) := hk
  exact runs_ret (by kernel_rfl) trivial (Nat.le_refl 0) trivial trivial

theorem fc_lex_next_1 (t0 : Int) {r : Bool} (h : F_lex_next_1 t0 = some r) : FC Tryd.prog 27 [(D.int .u8 t0)] [] (D.bool r) [] := by
  refine fc_of_runs (fn := Tryd.f27) (c := Tryd.f27.body.getD .skip) (by kernel_rfl) (by kernel_rfl) ?_
  refine runs_to (ts := [0]) (T' := T_lex_next_1) (env' := [(0, (D.int .u8 t0))]) (h2 := []) (by kernel_rfl) (by kernel_rfl) trivial (Nat.le_refl 0) trivial (And.intro trivial trivial) ?_
  exact run_lex_next_1 t0 h rfl

def K_lex_run_lex_next_1 (d : D) (r : Int) : Prop := d = (D.int .i64 r)

noncomputable def T_lex_run_lex_next_1 : List Item := norm 200 [.code (Tryd.f25.body.getD .skip)]

noncomputable def T_lex_run_lex_next_1_L1 : List Item := norm 200 (nxt (nxt T_lex_run_lex_next_1))

noncomputable def X_lex_run_lex_next_1_L1T : List Item := norm 200 (cndF (nxt (nxt (nxt T_lex_run_lex_next_1))))

abbrev E_lex_run_lex_next_1_L1 := Int

def N_lex_run_lex_next_1_L1 (_fu : Nat) (t0 : ByteArray) (t1 : Int) (d : D) (s : Int) : Prop := Runs Tryd.prog Tryd.f25 0 T_lex_run_lex_next_1_L1 [(0, (D.str t0)), (1, (D.int .i64 t1)), (2, (D.fn 27 D.nil)), (7, (D.int .i64 s))] [] d []

def X_lex_run_lex_next_1_L1 (_fu : Nat) (_t0 : ByteArray) (_t1 : Int) (d : D) : E_lex_run_lex_next_1_L1 ⊕ Int → Prop
  | .inl e => Runs Tryd.prog Tryd.f25 0 X_lex_run_lex_next_1_L1T [(7, (D.int .i64 e))] [] d []
  | .inr o => (K_lex_run_lex_next_1 d) o

def F_lex_run_lex_next_1_L1 (_fu : Nat) (t0 : ByteArray) (t1 : Int) (t7 : Int) : Option (Lo Int E_lex_run_lex_next_1_L1 Int) :=
  chk ((decide ((IntKind.wrap .i64 (t1 + t7)) < (t0.size : Int))) = true → (0 ≤ (IntKind.wrap .i64 (t1 + t7)) ∧ (IntKind.wrap .i64 (t1 + t7)) < (t0.size : Int))) <|
  (callIf (decide ((IntKind.wrap .i64 (t1 + t7)) < (t0.size : Int))) (F_lex_next_1 (((t0[(IntKind.wrap .i64 (t1 + t7)).toNat]?).getD 0).toNat : Int)) false).bind fun r0 =>
  ifs (bif (decide ((IntKind.wrap .i64 (t1 + t7)) < (t0.size : Int))) then r0 else false) (
    some (.next (IntKind.wrap .i64 (t7 + (1 : Int))))) (
    some (.exit t7))

theorem run_lex_run_lex_next_1_L1 (fu : Nat) (t0 : ByteArray) (t1 : Int) (t7 : Int) {d : D} {o : (Lo Int E_lex_run_lex_next_1_L1 Int)} (h : F_lex_run_lex_next_1_L1 fu t0 t1 t7 = some o) (hk : (Lo.post (N_lex_run_lex_next_1_L1 fu t0 t1 d) (X_lex_run_lex_next_1_L1 fu t0 t1 d)) o) : Runs Tryd.prog Tryd.f25 0 T_lex_run_lex_next_1_L1 [(0, (D.str t0)), (1, (D.int .i64 t1)), (2, (D.fn 27 D.nil)), (7, (D.int .i64 t7))] [] d [] := by
  unfold F_lex_run_lex_next_1_L1 at h
  obtain ⟨p0, h⟩ := chk_some h
  obtain ⟨r0, cr0, h⟩ := Option.bind_eq_some_iff.1 h
  refine runs_regions 1 [([(.d (D.bool r0))], [0, 1, 2, 7, 22])] (z := ([((decide ((IntKind.wrap .i64 (t1 + t7)) < (t0.size : Int))) = true → All [((decide ((IntKind.wrap .i64 (t1 + t7)) < (t0.size : Int))) = true → (decide ((IntKind.wrap .i64 (t1 + t7)) < (t0.size : Int))) = true), ((decide ((IntKind.wrap .i64 (t1 + t7)) < (t0.size : Int))) = true → (decide ((IntKind.wrap .i64 (t1 + t7)) < (t0.size : Int))) = true)]), ((decide ((IntKind.wrap .i64 (t1 + t7)) < (t0.size : Int))) = true → All [((decide ((IntKind.wrap .i64 (t1 + t7)) < (t0.size : Int))) = true → (decide ((IntKind.wrap .i64 (t1 + t7)) < (t0.size : Int))) = true), ((decide ((IntKind.wrap .i64 (t1 + t7)) < (t0.size : Int))) = true → (decide ((IntKind.wrap .i64 (t1 + t7)) < (t0.size : Int))) = true), (0 ≤ (IntKind.wrap .i64 (t1 + t7)) ∧ (IntKind.wrap .i64 (t1 + t7)) < (t0.size : Int))]), ((decide ((IntKind.wrap .i64 (t1 + t7)) < (t0.size : Int))) = true → All [((decide ((IntKind.wrap .i64 (t1 + t7)) < (t0.size : Int))) = true → (decide ((IntKind.wrap .i64 (t1 + t7)) < (t0.size : Int))) = true), ((decide ((IntKind.wrap .i64 (t1 + t7)) < (t0.size : Int))) = true → (decide ((IntKind.wrap .i64 (t1 + t7)) < (t0.size : Int))) = true), FC Tryd.prog 27 [(D.int .u8 (((t0[(IntKind.wrap .i64 (t1 + t7)).toNat]?).getD 0).toNat : Int))] [] (D.bool r0) [], All (List.map NoRow [(D.int .u8 (((t0[(IntKind.wrap .i64 (t1 + t7)).toNat]?).getD 0).toNat : Int))])]), ((true && (decide ((IntKind.wrap .i64 (t1 + t7)) < (t0.size : Int)))) = true → (decide ((IntKind.wrap .i64 (t1 + t7)) < (t0.size : Int))) = true)], [(0, (D.str t0)), (1, (D.int .i64 t1)), (2, (D.fn 27 D.nil)), (7, (D.int .i64 t7)), (22, (D.bool (bif (decide ((IntKind.wrap .i64 (t1 + t7)) < (t0.size : Int))) then r0 else false)))], [])) rfl (by kernel_rfl) (And.intro (fun _ => (And.intro (by first | exact fun h => h | exact fun h => (Bool.and_eq_true_iff.1 h).1 | simp_all) (And.intro (by first | exact fun h => h | exact fun h => (Bool.and_eq_true_iff.1 h).1 | simp_all) trivial))) (And.intro (fun hg => (And.intro (by first | exact fun h => h | exact fun h => (Bool.and_eq_true_iff.1 h).1 | simp_all) (And.intro (by first | exact fun h => h | exact fun h => (Bool.and_eq_true_iff.1 h).1 | simp_all) (And.intro (p0 hg) trivial)))) (And.intro (fun hg => (And.intro (by first | exact fun h => h | exact fun h => (Bool.and_eq_true_iff.1 h).1 | simp_all) (And.intro (by first | exact fun h => h | exact fun h => (Bool.and_eq_true_iff.1 h).1 | simp_all) (And.intro (fc_lex_next_1 (((t0[(IntKind.wrap .i64 (t1 + t7)).toNat]?).getD 0).toNat : Int) (callIf_some cr0 hg)) (And.intro (And.intro trivial trivial) trivial))))) (And.intro (by first | exact fun h => h | exact fun h => (Bool.and_eq_true_iff.1 h).1 | simp_all) trivial)))) ?_
  refine runs_if (b := (bif (decide ((IntKind.wrap .i64 (t1 + t7)) < (t0.size : Int))) then r0 else false)) (by kernel_rfl) (fun hb => ?_) (fun hb => ?_)
  · replace h := ifs_true h hb
    refine runs_regions 1 [([], [0, 1, 2, 7])] (z := ([], [(0, (D.str t0)), (1, (D.int .i64 t1)), (2, (D.fn 27 D.nil)), (7, (D.int .i64 (IntKind.wrap .i64 (t7 + (1 : Int)))))], [])) rfl (by kernel_rfl) trivial ?_
    rw [← Option.some.inj h] at hk
    refine runs_to (ts := [0, 1, 2, 7]) (T' := T_lex_run_lex_next_1_L1) (env' := [(0, (D.str t0)), (1, (D.int .i64 t1)), (2, (D.fn 27 D.nil)), (7, (D.int .i64 (IntKind.wrap .i64 (t7 + (1 : Int)))))]) (h2 := []) (by kernel_rfl) (by kernel_rfl) trivial (Nat.zero_le _) trivial (And.intro trivial (And.intro trivial (And.intro trivial (And.intro trivial trivial)))) ?_
    exact hk
  · replace h := ifs_false h hb
    rw [← Option.some.inj h] at hk
    refine runs_to (ts := [7]) (T' := X_lex_run_lex_next_1_L1T) (env' := [(7, (D.int .i64 t7))]) (h2 := []) (by kernel_rfl) (by kernel_rfl) trivial (Nat.zero_le _) trivial (And.intro trivial trivial) ?_
    exact hk

theorem iter_lex_run_lex_next_1_L1 (fu : Nat) (t0 : ByteArray) (t1 : Int) {d : D} (k : Nat) (s : Int) {o : E_lex_run_lex_next_1_L1 ⊕ Int} (h : iter (fun s => F_lex_run_lex_next_1_L1 fu t0 t1 s) k s = some o) (hx : X_lex_run_lex_next_1_L1 fu t0 t1 d o) : N_lex_run_lex_next_1_L1 fu t0 t1 d s :=
  iter_post (K := N_lex_run_lex_next_1_L1 fu t0 t1 d) (X := X_lex_run_lex_next_1_L1 fu t0 t1 d) (fun s _ h hk => run_lex_run_lex_next_1_L1 fu t0 t1 s h hk) k s o h hx

/-- podesta/lex.run -/
def F_lex_run_lex_next_1 (fu : Nat) (t0 : ByteArray) (t1 : Int) : Option Int :=
  after (iter (fun s => F_lex_run_lex_next_1_L1 fu t0 t1 s) fu (0 : Int)) fun e2 =>
  some e2

theorem run_lex_run_lex_next_1 (fu : Nat) (t0 : ByteArray) (t1 : Int) {d : D} {r : Int} (h : F_lex_run_lex_next_1 fu t0 t1 = some r) (hk : K_lex_run_lex_next_1 d r) : Runs Tryd.prog Tryd.f25 0 T_lex_run_lex_next_1 [(0, (D.str t0)), (1, (D.int .i64 t1)), (2, (D.fn 27 D.nil))] [] d [] := by
  unfold F_lex_run_lex_next_1 at h
  refine runs_regions 2 [([], [0, 1, 2]), ([], [0, 1, 2, 7])] (z := ([], [(0, (D.str t0)), (1, (D.int .i64 t1)), (2, (D.fn 27 D.nil)), (7, (D.int .i64 (0 : Int)))], [])) rfl (by kernel_rfl) trivial ?_
  refine runs_to (ts := [0, 1, 2, 7]) (T' := T_lex_run_lex_next_1_L1) (env' := [(0, (D.str t0)), (1, (D.int .i64 t1)), (2, (D.fn 27 D.nil)), (7, (D.int .i64 (0 : Int)))]) (h2 := []) (by kernel_rfl) (by kernel_rfl) trivial (Nat.zero_le _) trivial (And.intro trivial (And.intro trivial (And.intro trivial (And.intro trivial trivial)))) ?_
  rcases after_some h with ⟨e2, hi, h⟩ | hi
  · refine iter_lex_run_lex_next_1_L1 fu t0 t1 fu (0 : Int) hi ?_
    show Runs Tryd.prog Tryd.f25 0 X_lex_run_lex_next_1_L1T [(7, (D.int .i64 e2))] [] d []
    refine runs_regions 1 [([], [6])] (z := ([], [(6, (D.int .i64 e2))], [])) rfl (by kernel_rfl) trivial ?_
    rw [← Option.some.inj h] at hk
    obtain rfl : d = (D.int .i64 e2) := hk
    exact runs_ret (by kernel_rfl) trivial (Nat.le_refl 0) trivial trivial
  · exact iter_lex_run_lex_next_1_L1 fu t0 t1 fu (0 : Int) hi hk

theorem fc_lex_run_lex_next_1 (fu : Nat) (t0 : ByteArray) (t1 : Int) {r : Int} (h : F_lex_run_lex_next_1 fu t0 t1 = some r) : FC Tryd.prog 25 [(D.str t0), (D.int .i64 t1), (D.fn 27 D.nil)] [] (D.int .i64 r) [] := by
  refine fc_of_runs (fn := Tryd.f25) (c := Tryd.f25.body.getD .skip) (by kernel_rfl) (by kernel_rfl) ?_
  refine runs_to (ts := [0, 1, 2]) (T' := T_lex_run_lex_next_1) (env' := [(0, (D.str t0)), (1, (D.int .i64 t1)), (2, (D.fn 27 D.nil))]) (h2 := []) (by kernel_rfl) (by kernel_rfl) trivial (Nat.le_refl 0) trivial (And.intro trivial (And.intro trivial (And.intro trivial trivial))) ?_
  exact run_lex_run_lex_next_1 fu t0 t1 h rfl

def K_lex_Word_1 (d : D) (r : Bool) : Prop := d = (D.bool r)

noncomputable def T_lex_Word_1 : List Item := norm 200 [.code (Tryd.f22.body.getD .skip)]

/-- podesta/lex.Word 1 -/
def F_lex_Word_1 (t0 : Int) : Option Bool :=
  (F_lex_letter t0).bind fun r0 =>
  (callIf (!r0) (F_lex_digit t0) false).bind fun r1 =>
  some (bif r0 then true else r1)

theorem run_lex_Word_1 (t0 : Int) {d : D} {r : Bool} (h : F_lex_Word_1 t0 = some r) (hk : K_lex_Word_1 d r) : Runs Tryd.prog Tryd.f22 0 T_lex_Word_1 [(0, (D.int .u8 t0))] [] d [] := by
  unfold F_lex_Word_1 at h
  obtain ⟨r0, cr0, h⟩ := Option.bind_eq_some_iff.1 h
  obtain ⟨r1, cr1, h⟩ := Option.bind_eq_some_iff.1 h
  refine runs_regions 2 [([], [0]), ([(.d (D.bool r0)), (.d (D.bool r1))], [2])] (z := ([FC Tryd.prog 20 [(D.int .u8 t0)] [] (D.bool r0) [], All (List.map NoRow [(D.int .u8 t0)]), ((!r0) = true → All [((!r0) = true → (!r0) = true), FC Tryd.prog 23 [(D.int .u8 t0)] [] (D.bool r1) [], All (List.map NoRow [(D.int .u8 t0)])]), ((true && !r0) = true → (!r0) = true)], [(2, (D.bool (bif r0 then true else r1)))], [])) rfl (by kernel_rfl) (And.intro (fc_lex_letter t0 cr0) (And.intro (And.intro trivial trivial) (And.intro (fun hg => (And.intro (by first | exact fun h => h | exact fun h => (Bool.and_eq_true_iff.1 h).1 | simp_all) (And.intro (fc_lex_digit t0 (callIf_some cr1 hg)) (And.intro (And.intro trivial trivial) trivial)))) (And.intro (by first | exact fun h => h | exact fun h => (Bool.and_eq_true_iff.1 h).1 | simp_all) trivial)))) ?_
  rw [← Option.some.inj h] at hk
  obtain rfl : d = (D.bool (bif r0 then true else r1)) := hk
  exact runs_ret (by kernel_rfl) trivial (Nat.le_refl 0) trivial trivial

theorem fc_lex_Word_1 (t0 : Int) {r : Bool} (h : F_lex_Word_1 t0 = some r) : FC Tryd.prog 22 [(D.int .u8 t0)] [] (D.bool r) [] := by
  refine fc_of_runs (fn := Tryd.f22) (c := Tryd.f22.body.getD .skip) (by kernel_rfl) (by kernel_rfl) ?_
  refine runs_to (ts := [0]) (T' := T_lex_Word_1) (env' := [(0, (D.int .u8 t0))]) (h2 := []) (by kernel_rfl) (by kernel_rfl) trivial (Nat.le_refl 0) trivial (And.intro trivial trivial) ?_
  exact run_lex_Word_1 t0 h rfl

def K_lex_all_lex_Word_1 (d : D) (r : Bool) : Prop := d = (D.bool r)

noncomputable def T_lex_all_lex_Word_1 : List Item := norm 200 [.code (Tryd.f21.body.getD .skip)]

noncomputable def T_lex_all_lex_Word_1_L1 : List Item := norm 200 (nxt (nxt T_lex_all_lex_Word_1))

noncomputable def X_lex_all_lex_Word_1_L1T : List Item := norm 200 (cndF (nxt (nxt (nxt T_lex_all_lex_Word_1))))

abbrev E_lex_all_lex_Word_1_L1 := Unit

def N_lex_all_lex_Word_1_L1 (_fu : Nat) (t0 : ByteArray) (t7 : Int) (d : D) (s : Int) : Prop := Runs Tryd.prog Tryd.f21 0 T_lex_all_lex_Word_1_L1 [(0, (D.str t0)), (1, (D.fn 22 D.nil)), (7, (D.int .i64 t7)), (8, (D.int .i64 s))] [] d []

def X_lex_all_lex_Word_1_L1 (_fu : Nat) (_t0 : ByteArray) (_t7 : Int) (d : D) : E_lex_all_lex_Word_1_L1 ⊕ Bool → Prop
  | .inl _ => Runs Tryd.prog Tryd.f21 0 X_lex_all_lex_Word_1_L1T [] [] d []
  | .inr o => (K_lex_all_lex_Word_1 d) o

def F_lex_all_lex_Word_1_L1 (_fu : Nat) (t0 : ByteArray) (t7 : Int) (t8 : Int) : Option (Lo Int E_lex_all_lex_Word_1_L1 Bool) :=
  ifs (decide (t8 < t7)) (
    chk (0 ≤ t8 ∧ t8 < (t0.size : Int)) <|
    (F_lex_Word_1 (((t0[t8.toNat]?).getD 0).toNat : Int)).bind fun r0 =>
    ifs (!r0) (
      some (.ret false)) (
      some (.next (IntKind.wrap .i64 (t8 + (1 : Int)))))) (
    some (.exit ()))

theorem run_lex_all_lex_Word_1_L1 (fu : Nat) (t0 : ByteArray) (t7 : Int) (t8 : Int) {d : D} {o : (Lo Int E_lex_all_lex_Word_1_L1 Bool)} (h : F_lex_all_lex_Word_1_L1 fu t0 t7 t8 = some o) (hk : (Lo.post (N_lex_all_lex_Word_1_L1 fu t0 t7 d) (X_lex_all_lex_Word_1_L1 fu t0 t7 d)) o) : Runs Tryd.prog Tryd.f21 0 T_lex_all_lex_Word_1_L1 [(0, (D.str t0)), (1, (D.fn 22 D.nil)), (7, (D.int .i64 t7)), (8, (D.int .i64 t8))] [] d [] := by
  unfold F_lex_all_lex_Word_1_L1 at h
  refine runs_regions 1 [([], [0, 1, 7, 8, 9])] (z := ([], [(0, (D.str t0)), (1, (D.fn 22 D.nil)), (7, (D.int .i64 t7)), (8, (D.int .i64 t8)), (9, (D.bool (decide (t8 < t7))))], [])) rfl (by kernel_rfl) trivial ?_
  refine runs_if (b := (decide (t8 < t7))) (by kernel_rfl) (fun hb => ?_) (fun hb => ?_)
  · replace h := ifs_true h hb
    obtain ⟨p0, h⟩ := chk_some h
    obtain ⟨r0, cr0, h⟩ := Option.bind_eq_some_iff.1 h
    refine runs_regions 2 [([], [0, 1, 5, 7, 8]), ([(.d (D.bool r0))], [0, 1, 7, 8, 16])] (z := ([(0 ≤ t8 ∧ t8 < (t0.size : Int)), FC Tryd.prog 22 [(D.int .u8 (((t0[t8.toNat]?).getD 0).toNat : Int))] [] (D.bool r0) [], All (List.map NoRow [(D.int .u8 (((t0[t8.toNat]?).getD 0).toNat : Int))])], [(0, (D.str t0)), (1, (D.fn 22 D.nil)), (7, (D.int .i64 t7)), (8, (D.int .i64 t8)), (16, (D.bool (!r0)))], [])) rfl (by kernel_rfl) (And.intro p0 (And.intro (fc_lex_Word_1 (((t0[t8.toNat]?).getD 0).toNat : Int) cr0) (And.intro (And.intro trivial trivial) trivial))) ?_
    refine runs_if (b := (!r0)) (by kernel_rfl) (fun hb => ?_) (fun hb => ?_)
    · replace h := ifs_true h hb
      refine runs_regions 1 [([], [4])] (z := ([], [(4, (D.bool false))], [])) rfl (by kernel_rfl) trivial ?_
      rw [← Option.some.inj h] at hk
      obtain rfl : d = (D.bool false) := hk
      exact runs_ret (by kernel_rfl) trivial (Nat.le_refl 0) trivial trivial
    · replace h := ifs_false h hb
      refine runs_regions 1 [([], [0, 1, 7, 8])] (z := ([], [(0, (D.str t0)), (1, (D.fn 22 D.nil)), (7, (D.int .i64 t7)), (8, (D.int .i64 (IntKind.wrap .i64 (t8 + (1 : Int)))))], [])) rfl (by kernel_rfl) trivial ?_
      rw [← Option.some.inj h] at hk
      refine runs_to (ts := [0, 1, 7, 8]) (T' := T_lex_all_lex_Word_1_L1) (env' := [(0, (D.str t0)), (1, (D.fn 22 D.nil)), (7, (D.int .i64 t7)), (8, (D.int .i64 (IntKind.wrap .i64 (t8 + (1 : Int)))))]) (h2 := []) (by kernel_rfl) (by kernel_rfl) trivial (Nat.zero_le _) trivial (And.intro trivial (And.intro trivial (And.intro trivial (And.intro trivial trivial)))) ?_
      exact hk
  · replace h := ifs_false h hb
    rw [← Option.some.inj h] at hk
    refine runs_to (ts := []) (T' := X_lex_all_lex_Word_1_L1T) (env' := []) (h2 := []) (by kernel_rfl) (by kernel_rfl) trivial (Nat.zero_le _) trivial trivial ?_
    exact hk

theorem iter_lex_all_lex_Word_1_L1 (fu : Nat) (t0 : ByteArray) (t7 : Int) {d : D} (k : Nat) (s : Int) {o : E_lex_all_lex_Word_1_L1 ⊕ Bool} (h : iter (fun s => F_lex_all_lex_Word_1_L1 fu t0 t7 s) k s = some o) (hx : X_lex_all_lex_Word_1_L1 fu t0 t7 d o) : N_lex_all_lex_Word_1_L1 fu t0 t7 d s :=
  iter_post (K := N_lex_all_lex_Word_1_L1 fu t0 t7 d) (X := X_lex_all_lex_Word_1_L1 fu t0 t7 d) (fun s _ h hk => run_lex_all_lex_Word_1_L1 fu t0 t7 s h hk) k s o h hx

/-- podesta/lex.all -/
def F_lex_all_lex_Word_1 (fu : Nat) (t0 : ByteArray) : Option Bool :=
  after (iter (fun s => F_lex_all_lex_Word_1_L1 fu t0 (t0.size : Int) s) fu (0 : Int)) fun _ =>
  some true

theorem run_lex_all_lex_Word_1 (fu : Nat) (t0 : ByteArray) {d : D} {r : Bool} (h : F_lex_all_lex_Word_1 fu t0 = some r) (hk : K_lex_all_lex_Word_1 d r) : Runs Tryd.prog Tryd.f21 0 T_lex_all_lex_Word_1 [(0, (D.str t0)), (1, (D.fn 22 D.nil))] [] d [] := by
  unfold F_lex_all_lex_Word_1 at h
  refine runs_regions 2 [([], [0, 1]), ([], [0, 1, 7, 8])] (z := ([], [(0, (D.str t0)), (1, (D.fn 22 D.nil)), (7, (D.int .i64 (t0.size : Int))), (8, (D.int .i64 (0 : Int)))], [])) rfl (by kernel_rfl) trivial ?_
  refine runs_to (ts := [0, 1, 7, 8]) (T' := T_lex_all_lex_Word_1_L1) (env' := [(0, (D.str t0)), (1, (D.fn 22 D.nil)), (7, (D.int .i64 (t0.size : Int))), (8, (D.int .i64 (0 : Int)))]) (h2 := []) (by kernel_rfl) (by kernel_rfl) trivial (Nat.zero_le _) trivial (And.intro trivial (And.intro trivial (And.intro trivial (And.intro trivial trivial)))) ?_
  rcases after_some h with ⟨e2, hi, h⟩ | hi
  · refine iter_lex_all_lex_Word_1_L1 fu t0 (t0.size : Int) fu (0 : Int) hi ?_
    show Runs Tryd.prog Tryd.f21 0 X_lex_all_lex_Word_1_L1T [] [] d []
    refine runs_regions 1 [([], [4])] (z := ([], [(4, (D.bool true))], [])) rfl (by kernel_rfl) trivial ?_
    rw [← Option.some.inj h] at hk
    obtain rfl : d = (D.bool true) := hk
    exact runs_ret (by kernel_rfl) trivial (Nat.le_refl 0) trivial trivial
  · exact iter_lex_all_lex_Word_1_L1 fu t0 (t0.size : Int) fu (0 : Int) hi hk

theorem fc_lex_all_lex_Word_1 (fu : Nat) (t0 : ByteArray) {r : Bool} (h : F_lex_all_lex_Word_1 fu t0 = some r) : FC Tryd.prog 21 [(D.str t0), (D.fn 22 D.nil)] [] (D.bool r) [] := by
  refine fc_of_runs (fn := Tryd.f21) (c := Tryd.f21.body.getD .skip) (by kernel_rfl) (by kernel_rfl) ?_
  refine runs_to (ts := [0, 1]) (T' := T_lex_all_lex_Word_1) (env' := [(0, (D.str t0)), (1, (D.fn 22 D.nil))]) (h2 := []) (by kernel_rfl) (by kernel_rfl) trivial (Nat.le_refl 0) trivial (And.intro trivial (And.intro trivial trivial)) ?_
  exact run_lex_all_lex_Word_1 fu t0 h rfl

def K_lex_Word (d : D) (r : Bool) : Prop := d = (D.bool r)

noncomputable def T_lex_Word : List Item := norm 200 [.code (Tryd.f11.body.getD .skip)]

/-- podesta/lex.Word -/
def F_lex_Word (fu : Nat) (t0 : ByteArray) : Option Bool :=
  chk ((bif (!(t0.toList == (⟨#[]⟩ : ByteArray).toList)) then (decide ((t0.size : Int) ≤ (32 : Int))) else false) = true → (0 ≤ (0 : Int) ∧ (0 : Int) < (t0.size : Int))) <|
  (callIf (bif (!(t0.toList == (⟨#[]⟩ : ByteArray).toList)) then (decide ((t0.size : Int) ≤ (32 : Int))) else false) (F_lex_letter (((t0[(0 : Int).toNat]?).getD 0).toNat : Int)) false).bind fun r0 =>
  (callIf (bif (bif (!(t0.toList == (⟨#[]⟩ : ByteArray).toList)) then (decide ((t0.size : Int) ≤ (32 : Int))) else false) then r0 else false) (F_lex_all_lex_Word_1 fu t0) false).bind fun r1 =>
  some (bif (bif (bif (!(t0.toList == (⟨#[]⟩ : ByteArray).toList)) then (decide ((t0.size : Int) ≤ (32 : Int))) else false) then r0 else false) then r1 else false)

theorem run_lex_Word (fu : Nat) (t0 : ByteArray) {d : D} {r : Bool} (h : F_lex_Word fu t0 = some r) (hk : K_lex_Word d r) : Runs Tryd.prog Tryd.f11 0 T_lex_Word [(0, (D.str t0))] [] d [] := by
  unfold F_lex_Word at h
  obtain ⟨p0, h⟩ := chk_some h
  obtain ⟨r0, cr0, h⟩ := Option.bind_eq_some_iff.1 h
  obtain ⟨r1, cr1, h⟩ := Option.bind_eq_some_iff.1 h
  refine runs_regions 2 [([], [0]), ([(.d (D.bool r0)), (.d (D.bool r1))], [2])] (z := ([((!(t0.toList == (⟨#[]⟩ : ByteArray).toList)) = true → All [((!(t0.toList == (⟨#[]⟩ : ByteArray).toList)) = true → (!(t0.toList == (⟨#[]⟩ : ByteArray).toList)) = true)]), ((!(t0.toList == (⟨#[]⟩ : ByteArray).toList)) = true → All [((!(t0.toList == (⟨#[]⟩ : ByteArray).toList)) = true → (!(t0.toList == (⟨#[]⟩ : ByteArray).toList)) = true)]), ((true && (!(t0.toList == (⟨#[]⟩ : ByteArray).toList))) = true → (!(t0.toList == (⟨#[]⟩ : ByteArray).toList)) = true), ((bif (!(t0.toList == (⟨#[]⟩ : ByteArray).toList)) then (decide ((t0.size : Int) ≤ (32 : Int))) else false) = true → All [((bif (!(t0.toList == (⟨#[]⟩ : ByteArray).toList)) then (decide ((t0.size : Int) ≤ (32 : Int))) else false) = true → (bif (!(t0.toList == (⟨#[]⟩ : ByteArray).toList)) then (decide ((t0.size : Int) ≤ (32 : Int))) else false) = true), (0 ≤ (0 : Int) ∧ (0 : Int) < (t0.size : Int))]), ((bif (!(t0.toList == (⟨#[]⟩ : ByteArray).toList)) then (decide ((t0.size : Int) ≤ (32 : Int))) else false) = true → All [((bif (!(t0.toList == (⟨#[]⟩ : ByteArray).toList)) then (decide ((t0.size : Int) ≤ (32 : Int))) else false) = true → (bif (!(t0.toList == (⟨#[]⟩ : ByteArray).toList)) then (decide ((t0.size : Int) ≤ (32 : Int))) else false) = true), FC Tryd.prog 20 [(D.int .u8 (((t0[(0 : Int).toNat]?).getD 0).toNat : Int))] [] (D.bool r0) [], All (List.map NoRow [(D.int .u8 (((t0[(0 : Int).toNat]?).getD 0).toNat : Int))])]), ((true && (bif (!(t0.toList == (⟨#[]⟩ : ByteArray).toList)) then (decide ((t0.size : Int) ≤ (32 : Int))) else false)) = true → (bif (!(t0.toList == (⟨#[]⟩ : ByteArray).toList)) then (decide ((t0.size : Int) ≤ (32 : Int))) else false) = true), ((bif (bif (!(t0.toList == (⟨#[]⟩ : ByteArray).toList)) then (decide ((t0.size : Int) ≤ (32 : Int))) else false) then r0 else false) = true → All [((bif (bif (!(t0.toList == (⟨#[]⟩ : ByteArray).toList)) then (decide ((t0.size : Int) ≤ (32 : Int))) else false) then r0 else false) = true → (bif (bif (!(t0.toList == (⟨#[]⟩ : ByteArray).toList)) then (decide ((t0.size : Int) ≤ (32 : Int))) else false) then r0 else false) = true), FC Tryd.prog 21 [(D.str t0), (D.fn 22 D.nil)] [] (D.bool r1) [], All (List.map NoRow [(D.str t0), (D.fn 22 D.nil)])]), ((true && (bif (bif (!(t0.toList == (⟨#[]⟩ : ByteArray).toList)) then (decide ((t0.size : Int) ≤ (32 : Int))) else false) then r0 else false)) = true → (bif (bif (!(t0.toList == (⟨#[]⟩ : ByteArray).toList)) then (decide ((t0.size : Int) ≤ (32 : Int))) else false) then r0 else false) = true)], [(2, (D.bool (bif (bif (bif (!(t0.toList == (⟨#[]⟩ : ByteArray).toList)) then (decide ((t0.size : Int) ≤ (32 : Int))) else false) then r0 else false) then r1 else false)))], [])) rfl (by kernel_rfl) (And.intro (fun _ => (And.intro (by first | exact fun h => h | exact fun h => (Bool.and_eq_true_iff.1 h).1 | simp_all) trivial)) (And.intro (fun _ => (And.intro (by first | exact fun h => h | exact fun h => (Bool.and_eq_true_iff.1 h).1 | simp_all) trivial)) (And.intro (by first | exact fun h => h | exact fun h => (Bool.and_eq_true_iff.1 h).1 | simp_all) (And.intro (fun hg => (And.intro (by first | exact fun h => h | exact fun h => (Bool.and_eq_true_iff.1 h).1 | simp_all) (And.intro (p0 hg) trivial))) (And.intro (fun hg => (And.intro (by first | exact fun h => h | exact fun h => (Bool.and_eq_true_iff.1 h).1 | simp_all) (And.intro (fc_lex_letter (((t0[(0 : Int).toNat]?).getD 0).toNat : Int) (callIf_some cr0 hg)) (And.intro (And.intro trivial trivial) trivial)))) (And.intro (by first | exact fun h => h | exact fun h => (Bool.and_eq_true_iff.1 h).1 | simp_all) (And.intro (fun hg => (And.intro (by first | exact fun h => h | exact fun h => (Bool.and_eq_true_iff.1 h).1 | simp_all) (And.intro (fc_lex_all_lex_Word_1 fu t0 (callIf_some cr1 hg)) (And.intro (And.intro trivial (And.intro trivial trivial)) trivial)))) (And.intro (by first | exact fun h => h | exact fun h => (Bool.and_eq_true_iff.1 h).1 | simp_all) trivial)))))))) ?_
  rw [← Option.some.inj h] at hk
  obtain rfl : d = (D.bool (bif (bif (bif (!(t0.toList == (⟨#[]⟩ : ByteArray).toList)) then (decide ((t0.size : Int) ≤ (32 : Int))) else false) then r0 else false) then r1 else false)) := hk
  exact runs_ret (by kernel_rfl) trivial (Nat.le_refl 0) trivial trivial

theorem fc_lex_Word (fu : Nat) (t0 : ByteArray) {r : Bool} (h : F_lex_Word fu t0 = some r) : FC Tryd.prog 11 [(D.str t0)] [] (D.bool r) [] := by
  refine fc_of_runs (fn := Tryd.f11) (c := Tryd.f11.body.getD .skip) (by kernel_rfl) (by kernel_rfl) ?_
  refine runs_to (ts := [0]) (T' := T_lex_Word) (env' := [(0, (D.str t0))]) (h2 := []) (by kernel_rfl) (by kernel_rfl) trivial (Nat.le_refl 0) trivial (And.intro trivial trivial) ?_
  exact run_lex_Word fu t0 h rfl

def K_lex_run_lex_digit (d : D) (r : Int) : Prop := d = (D.int .i64 r)

noncomputable def T_lex_run_lex_digit : List Item := norm 200 [.code (Tryd.f25.body.getD .skip)]

noncomputable def T_lex_run_lex_digit_L1 : List Item := norm 200 (nxt (nxt T_lex_run_lex_digit))

noncomputable def X_lex_run_lex_digit_L1T : List Item := norm 200 (cndF (nxt (nxt (nxt T_lex_run_lex_digit))))

abbrev E_lex_run_lex_digit_L1 := Int

def N_lex_run_lex_digit_L1 (_fu : Nat) (t0 : ByteArray) (t1 : Int) (d : D) (s : Int) : Prop := Runs Tryd.prog Tryd.f25 0 T_lex_run_lex_digit_L1 [(0, (D.str t0)), (1, (D.int .i64 t1)), (2, (D.fn 23 D.nil)), (7, (D.int .i64 s))] [] d []

def X_lex_run_lex_digit_L1 (_fu : Nat) (_t0 : ByteArray) (_t1 : Int) (d : D) : E_lex_run_lex_digit_L1 ⊕ Int → Prop
  | .inl e => Runs Tryd.prog Tryd.f25 0 X_lex_run_lex_digit_L1T [(7, (D.int .i64 e))] [] d []
  | .inr o => (K_lex_run_lex_digit d) o

def F_lex_run_lex_digit_L1 (_fu : Nat) (t0 : ByteArray) (t1 : Int) (t7 : Int) : Option (Lo Int E_lex_run_lex_digit_L1 Int) :=
  chk ((decide ((IntKind.wrap .i64 (t1 + t7)) < (t0.size : Int))) = true → (0 ≤ (IntKind.wrap .i64 (t1 + t7)) ∧ (IntKind.wrap .i64 (t1 + t7)) < (t0.size : Int))) <|
  (callIf (decide ((IntKind.wrap .i64 (t1 + t7)) < (t0.size : Int))) (F_lex_digit (((t0[(IntKind.wrap .i64 (t1 + t7)).toNat]?).getD 0).toNat : Int)) false).bind fun r0 =>
  ifs (bif (decide ((IntKind.wrap .i64 (t1 + t7)) < (t0.size : Int))) then r0 else false) (
    some (.next (IntKind.wrap .i64 (t7 + (1 : Int))))) (
    some (.exit t7))

theorem run_lex_run_lex_digit_L1 (fu : Nat) (t0 : ByteArray) (t1 : Int) (t7 : Int) {d : D} {o : (Lo Int E_lex_run_lex_digit_L1 Int)} (h : F_lex_run_lex_digit_L1 fu t0 t1 t7 = some o) (hk : (Lo.post (N_lex_run_lex_digit_L1 fu t0 t1 d) (X_lex_run_lex_digit_L1 fu t0 t1 d)) o) : Runs Tryd.prog Tryd.f25 0 T_lex_run_lex_digit_L1 [(0, (D.str t0)), (1, (D.int .i64 t1)), (2, (D.fn 23 D.nil)), (7, (D.int .i64 t7))] [] d [] := by
  unfold F_lex_run_lex_digit_L1 at h
  obtain ⟨p0, h⟩ := chk_some h
  obtain ⟨r0, cr0, h⟩ := Option.bind_eq_some_iff.1 h
  refine runs_regions 1 [([(.d (D.bool r0))], [0, 1, 2, 7, 22])] (z := ([((decide ((IntKind.wrap .i64 (t1 + t7)) < (t0.size : Int))) = true → All [((decide ((IntKind.wrap .i64 (t1 + t7)) < (t0.size : Int))) = true → (decide ((IntKind.wrap .i64 (t1 + t7)) < (t0.size : Int))) = true), ((decide ((IntKind.wrap .i64 (t1 + t7)) < (t0.size : Int))) = true → (decide ((IntKind.wrap .i64 (t1 + t7)) < (t0.size : Int))) = true)]), ((decide ((IntKind.wrap .i64 (t1 + t7)) < (t0.size : Int))) = true → All [((decide ((IntKind.wrap .i64 (t1 + t7)) < (t0.size : Int))) = true → (decide ((IntKind.wrap .i64 (t1 + t7)) < (t0.size : Int))) = true), ((decide ((IntKind.wrap .i64 (t1 + t7)) < (t0.size : Int))) = true → (decide ((IntKind.wrap .i64 (t1 + t7)) < (t0.size : Int))) = true), (0 ≤ (IntKind.wrap .i64 (t1 + t7)) ∧ (IntKind.wrap .i64 (t1 + t7)) < (t0.size : Int))]), ((decide ((IntKind.wrap .i64 (t1 + t7)) < (t0.size : Int))) = true → All [((decide ((IntKind.wrap .i64 (t1 + t7)) < (t0.size : Int))) = true → (decide ((IntKind.wrap .i64 (t1 + t7)) < (t0.size : Int))) = true), ((decide ((IntKind.wrap .i64 (t1 + t7)) < (t0.size : Int))) = true → (decide ((IntKind.wrap .i64 (t1 + t7)) < (t0.size : Int))) = true), FC Tryd.prog 23 [(D.int .u8 (((t0[(IntKind.wrap .i64 (t1 + t7)).toNat]?).getD 0).toNat : Int))] [] (D.bool r0) [], All (List.map NoRow [(D.int .u8 (((t0[(IntKind.wrap .i64 (t1 + t7)).toNat]?).getD 0).toNat : Int))])]), ((true && (decide ((IntKind.wrap .i64 (t1 + t7)) < (t0.size : Int)))) = true → (decide ((IntKind.wrap .i64 (t1 + t7)) < (t0.size : Int))) = true)], [(0, (D.str t0)), (1, (D.int .i64 t1)), (2, (D.fn 23 D.nil)), (7, (D.int .i64 t7)), (22, (D.bool (bif (decide ((IntKind.wrap .i64 (t1 + t7)) < (t0.size : Int))) then r0 else false)))], [])) rfl (by kernel_rfl) (And.intro (fun _ => (And.intro (by first | exact fun h => h | exact fun h => (Bool.and_eq_true_iff.1 h).1 | simp_all) (And.intro (by first | exact fun h => h | exact fun h => (Bool.and_eq_true_iff.1 h).1 | simp_all) trivial))) (And.intro (fun hg => (And.intro (by first | exact fun h => h | exact fun h => (Bool.and_eq_true_iff.1 h).1 | simp_all) (And.intro (by first | exact fun h => h | exact fun h => (Bool.and_eq_true_iff.1 h).1 | simp_all) (And.intro (p0 hg) trivial)))) (And.intro (fun hg => (And.intro (by first | exact fun h => h | exact fun h => (Bool.and_eq_true_iff.1 h).1 | simp_all) (And.intro (by first | exact fun h => h | exact fun h => (Bool.and_eq_true_iff.1 h).1 | simp_all) (And.intro (fc_lex_digit (((t0[(IntKind.wrap .i64 (t1 + t7)).toNat]?).getD 0).toNat : Int) (callIf_some cr0 hg)) (And.intro (And.intro trivial trivial) trivial))))) (And.intro (by first | exact fun h => h | exact fun h => (Bool.and_eq_true_iff.1 h).1 | simp_all) trivial)))) ?_
  refine runs_if (b := (bif (decide ((IntKind.wrap .i64 (t1 + t7)) < (t0.size : Int))) then r0 else false)) (by kernel_rfl) (fun hb => ?_) (fun hb => ?_)
  · replace h := ifs_true h hb
    refine runs_regions 1 [([], [0, 1, 2, 7])] (z := ([], [(0, (D.str t0)), (1, (D.int .i64 t1)), (2, (D.fn 23 D.nil)), (7, (D.int .i64 (IntKind.wrap .i64 (t7 + (1 : Int)))))], [])) rfl (by kernel_rfl) trivial ?_
    rw [← Option.some.inj h] at hk
    refine runs_to (ts := [0, 1, 2, 7]) (T' := T_lex_run_lex_digit_L1) (env' := [(0, (D.str t0)), (1, (D.int .i64 t1)), (2, (D.fn 23 D.nil)), (7, (D.int .i64 (IntKind.wrap .i64 (t7 + (1 : Int)))))]) (h2 := []) (by kernel_rfl) (by kernel_rfl) trivial (Nat.zero_le _) trivial (And.intro trivial (And.intro trivial (And.intro trivial (And.intro trivial trivial)))) ?_
    exact hk
  · replace h := ifs_false h hb
    rw [← Option.some.inj h] at hk
    refine runs_to (ts := [7]) (T' := X_lex_run_lex_digit_L1T) (env' := [(7, (D.int .i64 t7))]) (h2 := []) (by kernel_rfl) (by kernel_rfl) trivial (Nat.zero_le _) trivial (And.intro trivial trivial) ?_
    exact hk

theorem iter_lex_run_lex_digit_L1 (fu : Nat) (t0 : ByteArray) (t1 : Int) {d : D} (k : Nat) (s : Int) {o : E_lex_run_lex_digit_L1 ⊕ Int} (h : iter (fun s => F_lex_run_lex_digit_L1 fu t0 t1 s) k s = some o) (hx : X_lex_run_lex_digit_L1 fu t0 t1 d o) : N_lex_run_lex_digit_L1 fu t0 t1 d s :=
  iter_post (K := N_lex_run_lex_digit_L1 fu t0 t1 d) (X := X_lex_run_lex_digit_L1 fu t0 t1 d) (fun s _ h hk => run_lex_run_lex_digit_L1 fu t0 t1 s h hk) k s o h hx

/-- podesta/lex.run -/
def F_lex_run_lex_digit (fu : Nat) (t0 : ByteArray) (t1 : Int) : Option Int :=
  after (iter (fun s => F_lex_run_lex_digit_L1 fu t0 t1 s) fu (0 : Int)) fun e2 =>
  some e2

theorem run_lex_run_lex_digit (fu : Nat) (t0 : ByteArray) (t1 : Int) {d : D} {r : Int} (h : F_lex_run_lex_digit fu t0 t1 = some r) (hk : K_lex_run_lex_digit d r) : Runs Tryd.prog Tryd.f25 0 T_lex_run_lex_digit [(0, (D.str t0)), (1, (D.int .i64 t1)), (2, (D.fn 23 D.nil))] [] d [] := by
  unfold F_lex_run_lex_digit at h
  refine runs_regions 2 [([], [0, 1, 2]), ([], [0, 1, 2, 7])] (z := ([], [(0, (D.str t0)), (1, (D.int .i64 t1)), (2, (D.fn 23 D.nil)), (7, (D.int .i64 (0 : Int)))], [])) rfl (by kernel_rfl) trivial ?_
  refine runs_to (ts := [0, 1, 2, 7]) (T' := T_lex_run_lex_digit_L1) (env' := [(0, (D.str t0)), (1, (D.int .i64 t1)), (2, (D.fn 23 D.nil)), (7, (D.int .i64 (0 : Int)))]) (h2 := []) (by kernel_rfl) (by kernel_rfl) trivial (Nat.zero_le _) trivial (And.intro trivial (And.intro trivial (And.intro trivial (And.intro trivial trivial)))) ?_
  rcases after_some h with ⟨e2, hi, h⟩ | hi
  · refine iter_lex_run_lex_digit_L1 fu t0 t1 fu (0 : Int) hi ?_
    show Runs Tryd.prog Tryd.f25 0 X_lex_run_lex_digit_L1T [(7, (D.int .i64 e2))] [] d []
    refine runs_regions 1 [([], [6])] (z := ([], [(6, (D.int .i64 e2))], [])) rfl (by kernel_rfl) trivial ?_
    rw [← Option.some.inj h] at hk
    obtain rfl : d = (D.int .i64 e2) := hk
    exact runs_ret (by kernel_rfl) trivial (Nat.le_refl 0) trivial trivial
  · exact iter_lex_run_lex_digit_L1 fu t0 t1 fu (0 : Int) hi hk

theorem fc_lex_run_lex_digit (fu : Nat) (t0 : ByteArray) (t1 : Int) {r : Int} (h : F_lex_run_lex_digit fu t0 t1 = some r) : FC Tryd.prog 25 [(D.str t0), (D.int .i64 t1), (D.fn 23 D.nil)] [] (D.int .i64 r) [] := by
  refine fc_of_runs (fn := Tryd.f25) (c := Tryd.f25.body.getD .skip) (by kernel_rfl) (by kernel_rfl) ?_
  refine runs_to (ts := [0, 1, 2]) (T' := T_lex_run_lex_digit) (env' := [(0, (D.str t0)), (1, (D.int .i64 t1)), (2, (D.fn 23 D.nil))]) (h2 := []) (by kernel_rfl) (by kernel_rfl) trivial (Nat.le_refl 0) trivial (And.intro trivial (And.intro trivial (And.intro trivial trivial))) ?_
  exact run_lex_run_lex_digit fu t0 t1 h rfl

def K_lex_all_lex_digit (d : D) (r : Bool) : Prop := d = (D.bool r)

noncomputable def T_lex_all_lex_digit : List Item := norm 200 [.code (Tryd.f21.body.getD .skip)]

noncomputable def T_lex_all_lex_digit_L1 : List Item := norm 200 (nxt (nxt T_lex_all_lex_digit))

noncomputable def X_lex_all_lex_digit_L1T : List Item := norm 200 (cndF (nxt (nxt (nxt T_lex_all_lex_digit))))

abbrev E_lex_all_lex_digit_L1 := Unit

def N_lex_all_lex_digit_L1 (_fu : Nat) (t0 : ByteArray) (t7 : Int) (d : D) (s : Int) : Prop := Runs Tryd.prog Tryd.f21 0 T_lex_all_lex_digit_L1 [(0, (D.str t0)), (1, (D.fn 23 D.nil)), (7, (D.int .i64 t7)), (8, (D.int .i64 s))] [] d []

def X_lex_all_lex_digit_L1 (_fu : Nat) (_t0 : ByteArray) (_t7 : Int) (d : D) : E_lex_all_lex_digit_L1 ⊕ Bool → Prop
  | .inl _ => Runs Tryd.prog Tryd.f21 0 X_lex_all_lex_digit_L1T [] [] d []
  | .inr o => (K_lex_all_lex_digit d) o

def F_lex_all_lex_digit_L1 (_fu : Nat) (t0 : ByteArray) (t7 : Int) (t8 : Int) : Option (Lo Int E_lex_all_lex_digit_L1 Bool) :=
  ifs (decide (t8 < t7)) (
    chk (0 ≤ t8 ∧ t8 < (t0.size : Int)) <|
    (F_lex_digit (((t0[t8.toNat]?).getD 0).toNat : Int)).bind fun r0 =>
    ifs (!r0) (
      some (.ret false)) (
      some (.next (IntKind.wrap .i64 (t8 + (1 : Int)))))) (
    some (.exit ()))

theorem run_lex_all_lex_digit_L1 (fu : Nat) (t0 : ByteArray) (t7 : Int) (t8 : Int) {d : D} {o : (Lo Int E_lex_all_lex_digit_L1 Bool)} (h : F_lex_all_lex_digit_L1 fu t0 t7 t8 = some o) (hk : (Lo.post (N_lex_all_lex_digit_L1 fu t0 t7 d) (X_lex_all_lex_digit_L1 fu t0 t7 d)) o) : Runs Tryd.prog Tryd.f21 0 T_lex_all_lex_digit_L1 [(0, (D.str t0)), (1, (D.fn 23 D.nil)), (7, (D.int .i64 t7)), (8, (D.int .i64 t8))] [] d [] := by
  unfold F_lex_all_lex_digit_L1 at h
  refine runs_regions 1 [([], [0, 1, 7, 8, 9])] (z := ([], [(0, (D.str t0)), (1, (D.fn 23 D.nil)), (7, (D.int .i64 t7)), (8, (D.int .i64 t8)), (9, (D.bool (decide (t8 < t7))))], [])) rfl (by kernel_rfl) trivial ?_
  refine runs_if (b := (decide (t8 < t7))) (by kernel_rfl) (fun hb => ?_) (fun hb => ?_)
  · replace h := ifs_true h hb
    obtain ⟨p0, h⟩ := chk_some h
    obtain ⟨r0, cr0, h⟩ := Option.bind_eq_some_iff.1 h
    refine runs_regions 2 [([], [0, 1, 5, 7, 8]), ([(.d (D.bool r0))], [0, 1, 7, 8, 16])] (z := ([(0 ≤ t8 ∧ t8 < (t0.size : Int)), FC Tryd.prog 23 [(D.int .u8 (((t0[t8.toNat]?).getD 0).toNat : Int))] [] (D.bool r0) [], All (List.map NoRow [(D.int .u8 (((t0[t8.toNat]?).getD 0).toNat : Int))])], [(0, (D.str t0)), (1, (D.fn 23 D.nil)), (7, (D.int .i64 t7)), (8, (D.int .i64 t8)), (16, (D.bool (!r0)))], [])) rfl (by kernel_rfl) (And.intro p0 (And.intro (fc_lex_digit (((t0[t8.toNat]?).getD 0).toNat : Int) cr0) (And.intro (And.intro trivial trivial) trivial))) ?_
    refine runs_if (b := (!r0)) (by kernel_rfl) (fun hb => ?_) (fun hb => ?_)
    · replace h := ifs_true h hb
      refine runs_regions 1 [([], [4])] (z := ([], [(4, (D.bool false))], [])) rfl (by kernel_rfl) trivial ?_
      rw [← Option.some.inj h] at hk
      obtain rfl : d = (D.bool false) := hk
      exact runs_ret (by kernel_rfl) trivial (Nat.le_refl 0) trivial trivial
    · replace h := ifs_false h hb
      refine runs_regions 1 [([], [0, 1, 7, 8])] (z := ([], [(0, (D.str t0)), (1, (D.fn 23 D.nil)), (7, (D.int .i64 t7)), (8, (D.int .i64 (IntKind.wrap .i64 (t8 + (1 : Int)))))], [])) rfl (by kernel_rfl) trivial ?_
      rw [← Option.some.inj h] at hk
      refine runs_to (ts := [0, 1, 7, 8]) (T' := T_lex_all_lex_digit_L1) (env' := [(0, (D.str t0)), (1, (D.fn 23 D.nil)), (7, (D.int .i64 t7)), (8, (D.int .i64 (IntKind.wrap .i64 (t8 + (1 : Int)))))]) (h2 := []) (by kernel_rfl) (by kernel_rfl) trivial (Nat.zero_le _) trivial (And.intro trivial (And.intro trivial (And.intro trivial (And.intro trivial trivial)))) ?_
      exact hk
  · replace h := ifs_false h hb
    rw [← Option.some.inj h] at hk
    refine runs_to (ts := []) (T' := X_lex_all_lex_digit_L1T) (env' := []) (h2 := []) (by kernel_rfl) (by kernel_rfl) trivial (Nat.zero_le _) trivial trivial ?_
    exact hk

theorem iter_lex_all_lex_digit_L1 (fu : Nat) (t0 : ByteArray) (t7 : Int) {d : D} (k : Nat) (s : Int) {o : E_lex_all_lex_digit_L1 ⊕ Bool} (h : iter (fun s => F_lex_all_lex_digit_L1 fu t0 t7 s) k s = some o) (hx : X_lex_all_lex_digit_L1 fu t0 t7 d o) : N_lex_all_lex_digit_L1 fu t0 t7 d s :=
  iter_post (K := N_lex_all_lex_digit_L1 fu t0 t7 d) (X := X_lex_all_lex_digit_L1 fu t0 t7 d) (fun s _ h hk => run_lex_all_lex_digit_L1 fu t0 t7 s h hk) k s o h hx

/-- podesta/lex.all -/
def F_lex_all_lex_digit (fu : Nat) (t0 : ByteArray) : Option Bool :=
  after (iter (fun s => F_lex_all_lex_digit_L1 fu t0 (t0.size : Int) s) fu (0 : Int)) fun _ =>
  some true

theorem run_lex_all_lex_digit (fu : Nat) (t0 : ByteArray) {d : D} {r : Bool} (h : F_lex_all_lex_digit fu t0 = some r) (hk : K_lex_all_lex_digit d r) : Runs Tryd.prog Tryd.f21 0 T_lex_all_lex_digit [(0, (D.str t0)), (1, (D.fn 23 D.nil))] [] d [] := by
  unfold F_lex_all_lex_digit at h
  refine runs_regions 2 [([], [0, 1]), ([], [0, 1, 7, 8])] (z := ([], [(0, (D.str t0)), (1, (D.fn 23 D.nil)), (7, (D.int .i64 (t0.size : Int))), (8, (D.int .i64 (0 : Int)))], [])) rfl (by kernel_rfl) trivial ?_
  refine runs_to (ts := [0, 1, 7, 8]) (T' := T_lex_all_lex_digit_L1) (env' := [(0, (D.str t0)), (1, (D.fn 23 D.nil)), (7, (D.int .i64 (t0.size : Int))), (8, (D.int .i64 (0 : Int)))]) (h2 := []) (by kernel_rfl) (by kernel_rfl) trivial (Nat.zero_le _) trivial (And.intro trivial (And.intro trivial (And.intro trivial (And.intro trivial trivial)))) ?_
  rcases after_some h with ⟨e2, hi, h⟩ | hi
  · refine iter_lex_all_lex_digit_L1 fu t0 (t0.size : Int) fu (0 : Int) hi ?_
    show Runs Tryd.prog Tryd.f21 0 X_lex_all_lex_digit_L1T [] [] d []
    refine runs_regions 1 [([], [4])] (z := ([], [(4, (D.bool true))], [])) rfl (by kernel_rfl) trivial ?_
    rw [← Option.some.inj h] at hk
    obtain rfl : d = (D.bool true) := hk
    exact runs_ret (by kernel_rfl) trivial (Nat.le_refl 0) trivial trivial
  · exact iter_lex_all_lex_digit_L1 fu t0 (t0.size : Int) fu (0 : Int) hi hk

theorem fc_lex_all_lex_digit (fu : Nat) (t0 : ByteArray) {r : Bool} (h : F_lex_all_lex_digit fu t0 = some r) : FC Tryd.prog 21 [(D.str t0), (D.fn 23 D.nil)] [] (D.bool r) [] := by
  refine fc_of_runs (fn := Tryd.f21) (c := Tryd.f21.body.getD .skip) (by kernel_rfl) (by kernel_rfl) ?_
  refine runs_to (ts := [0, 1]) (T' := T_lex_all_lex_digit) (env' := [(0, (D.str t0)), (1, (D.fn 23 D.nil))]) (h2 := []) (by kernel_rfl) (by kernel_rfl) trivial (Nat.le_refl 0) trivial (And.intro trivial (And.intro trivial trivial)) ?_
  exact run_lex_all_lex_digit fu t0 h rfl

def K_lex_Digits (d : D) (r : Bool) : Prop := d = (D.bool r)

noncomputable def T_lex_Digits : List Item := norm 200 [.code (Tryd.f13.body.getD .skip)]

/-- podesta/lex.Digits -/
def F_lex_Digits (fu : Nat) (t0 : ByteArray) : Option Bool :=
  (F_strconv_ParseInt t0 (10 : Int) (64 : Int)).bind fun r0 =>
  (callIf (bif (decide ((t0.size : Int) ≤ (19 : Int))) then (!(t0.toList == (⟨#[]⟩ : ByteArray).toList)) else false) (F_lex_all_lex_digit fu t0) false).bind fun r1 =>
  some (bif (bif (bif (decide ((t0.size : Int) ≤ (19 : Int))) then (!(t0.toList == (⟨#[]⟩ : ByteArray).toList)) else false) then r1 else false) then r0.2 else false)

theorem run_lex_Digits (fu : Nat) (t0 : ByteArray) {d : D} {r : Bool} (h : F_lex_Digits fu t0 = some r) (hk : K_lex_Digits d r) : Runs Tryd.prog Tryd.f13 0 T_lex_Digits [(0, (D.str t0))] [] d [] := by
  unfold F_lex_Digits at h
  obtain ⟨r0, cr0, h⟩ := Option.bind_eq_some_iff.1 h
  obtain ⟨r1, cr1, h⟩ := Option.bind_eq_some_iff.1 h
  refine runs_regions 3 [([], [0]), ([(.d (D.tup (D.cons (D.int .i64 r0.1) (D.cons (D.err r0.2) D.nil))))], [0, 4]), ([(.d (D.bool r1))], [2])] (z := ([FC Tryd.prog 24 [(D.str t0), (D.int .i64 (10 : Int)), (D.int .i64 (64 : Int))] [] (D.tup (D.cons (D.int .i64 r0.1) (D.cons (D.err r0.2) D.nil))) [], All (List.map NoRow [(D.str t0), (D.int .i64 (10 : Int)), (D.int .i64 (64 : Int))]), ((decide ((t0.size : Int) ≤ (19 : Int))) = true → All [((decide ((t0.size : Int) ≤ (19 : Int))) = true → (decide ((t0.size : Int) ≤ (19 : Int))) = true)]), ((true && (decide ((t0.size : Int) ≤ (19 : Int)))) = true → (decide ((t0.size : Int) ≤ (19 : Int))) = true), ((bif (decide ((t0.size : Int) ≤ (19 : Int))) then (!(t0.toList == (⟨#[]⟩ : ByteArray).toList)) else false) = true → All [((bif (decide ((t0.size : Int) ≤ (19 : Int))) then (!(t0.toList == (⟨#[]⟩ : ByteArray).toList)) else false) = true → (bif (decide ((t0.size : Int) ≤ (19 : Int))) then (!(t0.toList == (⟨#[]⟩ : ByteArray).toList)) else false) = true), FC Tryd.prog 21 [(D.str t0), (D.fn 23 D.nil)] [] (D.bool r1) [], All (List.map NoRow [(D.str t0), (D.fn 23 D.nil)])]), ((true && (bif (decide ((t0.size : Int) ≤ (19 : Int))) then (!(t0.toList == (⟨#[]⟩ : ByteArray).toList)) else false)) = true → (bif (decide ((t0.size : Int) ≤ (19 : Int))) then (!(t0.toList == (⟨#[]⟩ : ByteArray).toList)) else false) = true), ((bif (bif (decide ((t0.size : Int) ≤ (19 : Int))) then (!(t0.toList == (⟨#[]⟩ : ByteArray).toList)) else false) then r1 else false) = true → All [((bif (bif (decide ((t0.size : Int) ≤ (19 : Int))) then (!(t0.toList == (⟨#[]⟩ : ByteArray).toList)) else false) then r1 else false) = true → (bif (bif (decide ((t0.size : Int) ≤ (19 : Int))) then (!(t0.toList == (⟨#[]⟩ : ByteArray).toList)) else false) then r1 else false) = true)]), ((true && (bif (bif (decide ((t0.size : Int) ≤ (19 : Int))) then (!(t0.toList == (⟨#[]⟩ : ByteArray).toList)) else false) then r1 else false)) = true → (bif (bif (decide ((t0.size : Int) ≤ (19 : Int))) then (!(t0.toList == (⟨#[]⟩ : ByteArray).toList)) else false) then r1 else false) = true)], [(2, (D.bool (bif (bif (bif (decide ((t0.size : Int) ≤ (19 : Int))) then (!(t0.toList == (⟨#[]⟩ : ByteArray).toList)) else false) then r1 else false) then r0.2 else false)))], [])) rfl (by kernel_rfl) (And.intro (fc_strconv_ParseInt t0 (10 : Int) (64 : Int) cr0) (And.intro (And.intro trivial (And.intro trivial (And.intro trivial trivial))) (And.intro (fun _ => (And.intro (by first | exact fun h => h | exact fun h => (Bool.and_eq_true_iff.1 h).1 | simp_all) trivial)) (And.intro (by first | exact fun h => h | exact fun h => (Bool.and_eq_true_iff.1 h).1 | simp_all) (And.intro (fun hg => (And.intro (by first | exact fun h => h | exact fun h => (Bool.and_eq_true_iff.1 h).1 | simp_all) (And.intro (fc_lex_all_lex_digit fu t0 (callIf_some cr1 hg)) (And.intro (And.intro trivial (And.intro trivial trivial)) trivial)))) (And.intro (by first | exact fun h => h | exact fun h => (Bool.and_eq_true_iff.1 h).1 | simp_all) (And.intro (fun _ => (And.intro (by first | exact fun h => h | exact fun h => (Bool.and_eq_true_iff.1 h).1 | simp_all) trivial)) (And.intro (by first | exact fun h => h | exact fun h => (Bool.and_eq_true_iff.1 h).1 | simp_all) trivial)))))))) ?_
  rw [← Option.some.inj h] at hk
  obtain rfl : d = (D.bool (bif (bif (bif (decide ((t0.size : Int) ≤ (19 : Int))) then (!(t0.toList == (⟨#[]⟩ : ByteArray).toList)) else false) then r1 else false) then r0.2 else false)) := hk
  exact runs_ret (by kernel_rfl) trivial (Nat.le_refl 0) trivial trivial

theorem fc_lex_Digits (fu : Nat) (t0 : ByteArray) {r : Bool} (h : F_lex_Digits fu t0 = some r) : FC Tryd.prog 13 [(D.str t0)] [] (D.bool r) [] := by
  refine fc_of_runs (fn := Tryd.f13) (c := Tryd.f13.body.getD .skip) (by kernel_rfl) (by kernel_rfl) ?_
  refine runs_to (ts := [0]) (T' := T_lex_Digits) (env' := [(0, (D.str t0))]) (h2 := []) (by kernel_rfl) (by kernel_rfl) trivial (Nat.le_refl 0) trivial (And.intro trivial trivial) ?_
  exact run_lex_Digits fu t0 h rfl

def K_internal_stringslite_HasPrefix (d : D) (r : Bool) : Prop := d = (D.bool r)

noncomputable def T_internal_stringslite_HasPrefix : List Item := norm 200 [.code (Tryd.f38.body.getD .skip)]

/-- internal/stringslite.HasPrefix -/
def F_internal_stringslite_HasPrefix (t0 : ByteArray) (t1 : ByteArray) : Option Bool :=
  chk ((decide ((t0.size : Int) ≥ (t1.size : Int))) = true → (0 ≤ (0 : Int) ∧ (0 : Int) ≤ (t1.size : Int) ∧ (t1.size : Int) ≤ (t0.size : Int))) <|
  some (bif (decide ((t0.size : Int) ≥ (t1.size : Int))) then ((t0.extract ((0 : Int)).toNat ((t1.size : Int)).toNat).toList == t1.toList) else false)

theorem run_internal_stringslite_HasPrefix (t0 : ByteArray) (t1 : ByteArray) {d : D} {r : Bool} (h : F_internal_stringslite_HasPrefix t0 t1 = some r) (hk : K_internal_stringslite_HasPrefix d r) : Runs Tryd.prog Tryd.f38 0 T_internal_stringslite_HasPrefix [(0, (D.str t0)), (1, (D.str t1))] [] d [] := by
  unfold F_internal_stringslite_HasPrefix at h
  obtain ⟨p0, h⟩ := chk_some h
  refine runs_regions 2 [([], [0, 1]), ([], [4])] (z := ([((decide ((t0.size : Int) ≥ (t1.size : Int))) = true → All [((decide ((t0.size : Int) ≥ (t1.size : Int))) = true → (decide ((t0.size : Int) ≥ (t1.size : Int))) = true)]), ((decide ((t0.size : Int) ≥ (t1.size : Int))) = true → All [((decide ((t0.size : Int) ≥ (t1.size : Int))) = true → (decide ((t0.size : Int) ≥ (t1.size : Int))) = true), ((decide ((t0.size : Int) ≥ (t1.size : Int))) = true → (decide ((t0.size : Int) ≥ (t1.size : Int))) = true), (0 ≤ (0 : Int) ∧ (0 : Int) ≤ (t1.size : Int) ∧ (t1.size : Int) ≤ (t0.size : Int))]), ((decide ((t0.size : Int) ≥ (t1.size : Int))) = true → All [((decide ((t0.size : Int) ≥ (t1.size : Int))) = true → (decide ((t0.size : Int) ≥ (t1.size : Int))) = true), ((decide ((t0.size : Int) ≥ (t1.size : Int))) = true → (decide ((t0.size : Int) ≥ (t1.size : Int))) = true)]), ((true && (decide ((t0.size : Int) ≥ (t1.size : Int)))) = true → (decide ((t0.size : Int) ≥ (t1.size : Int))) = true)], [(4, (D.bool (bif (decide ((t0.size : Int) ≥ (t1.size : Int))) then ((t0.extract ((0 : Int)).toNat ((t1.size : Int)).toNat).toList == t1.toList) else false)))], [])) rfl (by kernel_rfl) (And.intro (fun _ => (And.intro (by first | exact fun h => h | exact fun h => (Bool.and_eq_true_iff.1 h).1 | simp_all) trivial)) (And.intro (fun hg => (And.intro (by first | exact fun h => h | exact fun h => (Bool.and_eq_true_iff.1 h).1 | simp_all) (And.intro (by first | exact fun h => h | exact fun h => (Bool.and_eq_true_iff.1 h).1 | simp_all) (And.intro (p0 hg) trivial)))) (And.intro (fun _ => (And.intro (by first | exact fun h => h | exact fun h => (Bool.and_eq_true_iff.1 h).1 | simp_all) (And.intro (by first | exact fun h => h | exact fun h => (Bool.and_eq_true_iff.1 h).1 | simp_all) trivial))) (And.intro (by first | exact fun h => h | exact fun h => (Bool.and_eq_true_iff.1 h).1 | simp_all) trivial)))) ?_
  rw [← Option.some.inj h] at hk
  obtain rfl : d = (D.bool (bif (decide ((t0.size : Int) ≥ (t1.size : Int))) then ((t0.extract ((0 : Int)).toNat ((t1.size : Int)).toNat).toList == t1.toList) else false)) := hk
  exact runs_ret (by kernel_rfl) trivial (Nat.le_refl 0) trivial trivial

theorem fc_internal_stringslite_HasPrefix (t0 : ByteArray) (t1 : ByteArray) {r : Bool} (h : F_internal_stringslite_HasPrefix t0 t1 = some r) : FC Tryd.prog 38 [(D.str t0), (D.str t1)] [] (D.bool r) [] := by
  refine fc_of_runs (fn := Tryd.f38) (c := Tryd.f38.body.getD .skip) (by kernel_rfl) (by kernel_rfl) ?_
  refine runs_to (ts := [0, 1]) (T' := T_internal_stringslite_HasPrefix) (env' := [(0, (D.str t0)), (1, (D.str t1))]) (h2 := []) (by kernel_rfl) (by kernel_rfl) trivial (Nat.le_refl 0) trivial (And.intro trivial (And.intro trivial trivial)) ?_
  exact run_internal_stringslite_HasPrefix t0 t1 h rfl

def K_strings_HasPrefix (d : D) (r : Bool) : Prop := d = (D.bool r)

noncomputable def T_strings_HasPrefix : List Item := norm 200 [.code (Tryd.f31.body.getD .skip)]

/-- strings.HasPrefix -/
def F_strings_HasPrefix (t0 : ByteArray) (t1 : ByteArray) : Option Bool :=
  (F_internal_stringslite_HasPrefix t0 t1).bind fun r0 =>
  some r0

theorem run_strings_HasPrefix (t0 : ByteArray) (t1 : ByteArray) {d : D} {r : Bool} (h : F_strings_HasPrefix t0 t1 = some r) (hk : K_strings_HasPrefix d r) : Runs Tryd.prog Tryd.f31 0 T_strings_HasPrefix [(0, (D.str t0)), (1, (D.str t1))] [] d [] := by
  unfold F_strings_HasPrefix at h
  obtain ⟨r0, cr0, h⟩ := Option.bind_eq_some_iff.1 h
  refine runs_regions 2 [([], [0, 1]), ([(.d (D.bool r0))], [4])] (z := ([FC Tryd.prog 38 [(D.str t0), (D.str t1)] [] (D.bool r0) [], All (List.map NoRow [(D.str t0), (D.str t1)])], [(4, (D.bool r0))], [])) rfl (by kernel_rfl) (And.intro (fc_internal_stringslite_HasPrefix t0 t1 cr0) (And.intro (And.intro trivial (And.intro trivial trivial)) trivial)) ?_
  rw [← Option.some.inj h] at hk
  obtain rfl : d = (D.bool r0) := hk
  exact runs_ret (by kernel_rfl) trivial (Nat.le_refl 0) trivial trivial

theorem fc_strings_HasPrefix (t0 : ByteArray) (t1 : ByteArray) {r : Bool} (h : F_strings_HasPrefix t0 t1 = some r) : FC Tryd.prog 31 [(D.str t0), (D.str t1)] [] (D.bool r) [] := by
  refine fc_of_runs (fn := Tryd.f31) (c := Tryd.f31.body.getD .skip) (by kernel_rfl) (by kernel_rfl) ?_
  refine runs_to (ts := [0, 1]) (T' := T_strings_HasPrefix) (env' := [(0, (D.str t0)), (1, (D.str t1))]) (h2 := []) (by kernel_rfl) (by kernel_rfl) trivial (Nat.le_refl 0) trivial (And.intro trivial (And.intro trivial trivial)) ?_
  exact run_strings_HasPrefix t0 t1 h rfl

def K_strings_IndexByte (d : D) (r : Int) : Prop := d = (D.int .i64 r)

noncomputable def T_strings_IndexByte : List Item := norm 200 [.code (Tryd.f32.body.getD .skip)]

/-- strings.IndexByte -/
def F_strings_IndexByte (t0 : ByteArray) (t1 : Int) : Option Int :=
  (F_internal_stringslite_IndexByte t0 t1).bind fun r0 =>
  some r0

theorem run_strings_IndexByte (t0 : ByteArray) (t1 : Int) {d : D} {r : Int} (h : F_strings_IndexByte t0 t1 = some r) (hk : K_strings_IndexByte d r) : Runs Tryd.prog Tryd.f32 0 T_strings_IndexByte [(0, (D.str t0)), (1, (D.int .u8 t1))] [] d [] := by
  unfold F_strings_IndexByte at h
  obtain ⟨r0, cr0, h⟩ := Option.bind_eq_some_iff.1 h
  refine runs_regions 2 [([], [0, 1]), ([(.d (D.int .i64 r0))], [4])] (z := ([FC Tryd.prog 39 [(D.str t0), (D.int .u8 t1)] [] (D.int .i64 r0) [], All (List.map NoRow [(D.str t0), (D.int .u8 t1)])], [(4, (D.int .i64 r0))], [])) rfl (by kernel_rfl) (And.intro (fc_internal_stringslite_IndexByte t0 t1 cr0) (And.intro (And.intro trivial (And.intro trivial trivial)) trivial)) ?_
  rw [← Option.some.inj h] at hk
  obtain rfl : d = (D.int .i64 r0) := hk
  exact runs_ret (by kernel_rfl) trivial (Nat.le_refl 0) trivial trivial

theorem fc_strings_IndexByte (t0 : ByteArray) (t1 : Int) {r : Int} (h : F_strings_IndexByte t0 t1 = some r) : FC Tryd.prog 32 [(D.str t0), (D.int .u8 t1)] [] (D.int .i64 r) [] := by
  refine fc_of_runs (fn := Tryd.f32) (c := Tryd.f32.body.getD .skip) (by kernel_rfl) (by kernel_rfl) ?_
  refine runs_to (ts := [0, 1]) (T' := T_strings_IndexByte) (env' := [(0, (D.str t0)), (1, (D.int .u8 t1))]) (h2 := []) (by kernel_rfl) (by kernel_rfl) trivial (Nat.le_refl 0) trivial (And.intro trivial (And.intro trivial trivial)) ?_
  exact run_strings_IndexByte t0 t1 h rfl

def K_lex_sign (d : D) (r : Int) : Prop := d = (D.int .i64 r)

noncomputable def T_lex_sign : List Item := norm 200 [.code (Tryd.f28.body.getD .skip)]

noncomputable def T_lex_sign_L1 : List Item := norm 200 (nxt (nxt T_lex_sign))

noncomputable def X_lex_sign_L1T : List Item := norm 200 (cndF (nxt (nxt (nxt T_lex_sign))))

abbrev E_lex_sign_L1 := Unit

def N_lex_sign_L1 (_fu : Nat) (t0 : ByteArray) (t5 : (Nat → ByteArray)) (d : D) (s : Int) : Prop := Runs Tryd.prog Tryd.f28 0 T_lex_sign_L1 [(0, (D.str t0)), (5, (D.arr 6 1 fun i => (D.str (t5 i)))), (6, (D.int .i64 s))] [] d []

def X_lex_sign_L1 (_fu : Nat) (t0 : ByteArray) (_t5 : (Nat → ByteArray)) (d : D) : E_lex_sign_L1 ⊕ Int → Prop
  | .inl _ => Runs Tryd.prog Tryd.f28 0 X_lex_sign_L1T [(0, (D.str t0))] [] d []
  | .inr o => (K_lex_sign d) o

def F_lex_sign_L1 (_fu : Nat) (t0 : ByteArray) (t5 : (Nat → ByteArray)) (t6 : Int) : Option (Lo Int E_lex_sign_L1 Int) :=
  ifs (decide (t6 < (6 : Int))) (
    chk (0 ≤ t6 ∧ t6 < ((6 : Nat) : Int)) <|
    chk (t6.toNat < 6) <|
    (F_strings_HasPrefix t0 (t5 t6.toNat)).bind fun r0 =>
    ifs r0 (
      some (.ret (2 : Int))) (
      some (.next (IntKind.wrap .i64 (t6 + (1 : Int)))))) (
    some (.exit ()))

theorem run_lex_sign_L1 (fu : Nat) (t0 : ByteArray) (t5 : (Nat → ByteArray)) (t6 : Int) {d : D} {o : (Lo Int E_lex_sign_L1 Int)} (h : F_lex_sign_L1 fu t0 t5 t6 = some o) (hk : (Lo.post (N_lex_sign_L1 fu t0 t5 d) (X_lex_sign_L1 fu t0 t5 d)) o) : Runs Tryd.prog Tryd.f28 0 T_lex_sign_L1 [(0, (D.str t0)), (5, (D.arr 6 1 fun i => (D.str (t5 i)))), (6, (D.int .i64 t6))] [] d [] := by
  unfold F_lex_sign_L1 at h
  refine runs_regions 1 [([], [0, 5, 6, 7])] (z := ([], [(0, (D.str t0)), (5, (D.arr 6 1 fun i => (D.str (t5 i)))), (6, (D.int .i64 t6)), (7, (D.bool (decide (t6 < (6 : Int)))))], [])) rfl (by kernel_rfl) trivial ?_
  refine runs_if (b := (decide (t6 < (6 : Int)))) (by kernel_rfl) (fun hb => ?_) (fun hb => ?_)
  · replace h := ifs_true h hb
    obtain ⟨p0, h⟩ := chk_some h
    obtain ⟨p1, h⟩ := chk_some h
    obtain ⟨r0, cr0, h⟩ := Option.bind_eq_some_iff.1 h
    refine runs_regions 2 [([], [0, 4, 5, 6]), ([(.d (D.bool r0))], [0, 5, 6, 11])] (z := ([(0 ≤ t6 ∧ t6 < ((6 : Nat) : Int)), (t6.toNat < 6), FC Tryd.prog 31 [(D.str t0), (D.str (t5 t6.toNat))] [] (D.bool r0) [], All (List.map NoRow [(D.str t0), (D.str (t5 t6.toNat))])], [(0, (D.str t0)), (5, (D.arr 6 1 fun i => (D.str (t5 i)))), (6, (D.int .i64 t6)), (11, (D.bool r0))], [])) rfl (by kernel_rfl) (And.intro p0 (And.intro p1 (And.intro (fc_strings_HasPrefix t0 (t5 t6.toNat) cr0) (And.intro (And.intro trivial (And.intro trivial trivial)) trivial)))) ?_
    refine runs_if (b := r0) (by kernel_rfl) (fun hb => ?_) (fun hb => ?_)
    · replace h := ifs_true h hb
      refine runs_regions 1 [([], [2])] (z := ([], [(2, (D.int .i64 (2 : Int)))], [])) rfl (by kernel_rfl) trivial ?_
      rw [← Option.some.inj h] at hk
      obtain rfl : d = (D.int .i64 (2 : Int)) := hk
      exact runs_ret (by kernel_rfl) trivial (Nat.le_refl 0) trivial trivial
    · replace h := ifs_false h hb
      refine runs_regions 1 [([], [0, 5, 6])] (z := ([], [(0, (D.str t0)), (5, (D.arr 6 1 fun i => (D.str (t5 i)))), (6, (D.int .i64 (IntKind.wrap .i64 (t6 + (1 : Int)))))], [])) rfl (by kernel_rfl) trivial ?_
      rw [← Option.some.inj h] at hk
      refine runs_to (ts := [0, 5, 6]) (T' := T_lex_sign_L1) (env' := [(0, (D.str t0)), (5, (D.arr 6 1 fun i => (D.str (t5 i)))), (6, (D.int .i64 (IntKind.wrap .i64 (t6 + (1 : Int)))))]) (h2 := []) (by kernel_rfl) (by kernel_rfl) trivial (Nat.zero_le _) trivial (And.intro trivial (And.intro (fun _ _ => trivial) (And.intro trivial trivial))) ?_
      exact hk
  · replace h := ifs_false h hb
    rw [← Option.some.inj h] at hk
    refine runs_to (ts := [0]) (T' := X_lex_sign_L1T) (env' := [(0, (D.str t0))]) (h2 := []) (by kernel_rfl) (by kernel_rfl) trivial (Nat.zero_le _) trivial (And.intro trivial trivial) ?_
    exact hk

theorem iter_lex_sign_L1 (fu : Nat) (t0 : ByteArray) (t5 : (Nat → ByteArray)) {d : D} (k : Nat) (s : Int) {o : E_lex_sign_L1 ⊕ Int} (h : iter (fun s => F_lex_sign_L1 fu t0 t5 s) k s = some o) (hx : X_lex_sign_L1 fu t0 t5 d o) : N_lex_sign_L1 fu t0 t5 d s :=
  iter_post (K := N_lex_sign_L1 fu t0 t5 d) (X := X_lex_sign_L1 fu t0 t5 d) (fun s _ h hk => run_lex_sign_L1 fu t0 t5 s h hk) k s o h hx

/-- podesta/lex.sign -/
def F_lex_sign (fu : Nat) (t0 : ByteArray) : Option Int :=
  after (iter (fun s => F_lex_sign_L1 fu t0 (fun j => if j = 5 then (⟨#[62, 61]⟩ : ByteArray) else (fun j => if j = 4 then (⟨#[60, 61]⟩ : ByteArray) else (fun j => if j = 3 then (⟨#[33, 61]⟩ : ByteArray) else (fun j => if j = 2 then (⟨#[61, 61]⟩ : ByteArray) else (fun j => if j = 1 then (⟨#[38, 38]⟩ : ByteArray) else (fun j => if j = 0 then (⟨#[124, 124]⟩ : ByteArray) else (fun _ => (⟨#[]⟩ : ByteArray)) j) j) j) j) j) j) s) fu (0 : Int)) fun _ =>
  chk (0 ≤ (0 : Int) ∧ (0 : Int) < (t0.size : Int)) <|
  (F_strings_IndexByte (⟨#[60, 62, 43, 45, 42, 47, 37, 33, 61, 40, 41, 123, 125, 91, 93, 44, 59]⟩ : ByteArray) (((t0[(0 : Int).toNat]?).getD 0).toNat : Int)).bind fun r1 =>
  ifs (decide (r1 ≥ (0 : Int))) (
    some (1 : Int)) (
    some (0 : Int))

theorem run_lex_sign (fu : Nat) (t0 : ByteArray) {d : D} {r : Int} (h : F_lex_sign fu t0 = some r) (hk : K_lex_sign d r) : Runs Tryd.prog Tryd.f28 0 T_lex_sign [(0, (D.str t0))] [] d [] := by
  unfold F_lex_sign at h
  refine runs_regions 2 [([], [0]), ([], [0, 5, 6])] (z := ([(0 < 6), (1 < 6), (2 < 6), (3 < 6), (4 < 6), (5 < 6)], [(0, (D.str t0)), (5, (D.arr 6 1 fun j => (if j = 5 then (D.str (⟨#[62, 61]⟩ : ByteArray)) else (if j = 4 then (D.str (⟨#[60, 61]⟩ : ByteArray)) else (if j = 3 then (D.str (⟨#[33, 61]⟩ : ByteArray)) else (if j = 2 then (D.str (⟨#[61, 61]⟩ : ByteArray)) else (if j = 1 then (D.str (⟨#[38, 38]⟩ : ByteArray)) else (if j = 0 then (D.str (⟨#[124, 124]⟩ : ByteArray)) else (D.str ((fun _ => (⟨#[]⟩ : ByteArray)) j)))))))))), (6, (D.int .i64 (0 : Int)))], [])) rfl (by kernel_rfl) (And.intro (by decide) (And.intro (by decide) (And.intro (by decide) (And.intro (by decide) (And.intro (by decide) (And.intro (by decide) trivial)))))) ?_
  refine cast_fun (F := fun q => Runs Tryd.prog Tryd.f28 0 _ [(0, (D.str t0)), (5, (D.arr 6 1 q)), (6, (D.int .i64 (0 : Int)))] [] d []) (funext fun j => (show (if j = 5 then (D.str (⟨#[62, 61]⟩ : ByteArray)) else (if j = 4 then (D.str (⟨#[60, 61]⟩ : ByteArray)) else (if j = 3 then (D.str (⟨#[33, 61]⟩ : ByteArray)) else (if j = 2 then (D.str (⟨#[61, 61]⟩ : ByteArray)) else (if j = 1 then (D.str (⟨#[38, 38]⟩ : ByteArray)) else (if j = 0 then (D.str (⟨#[124, 124]⟩ : ByteArray)) else (D.str ((fun _ => (⟨#[]⟩ : ByteArray)) j)))))))) = (fun x : ByteArray => (D.str x)) ((fun j => if j = 5 then (⟨#[62, 61]⟩ : ByteArray) else (fun j => if j = 4 then (⟨#[60, 61]⟩ : ByteArray) else (fun j => if j = 3 then (⟨#[33, 61]⟩ : ByteArray) else (fun j => if j = 2 then (⟨#[61, 61]⟩ : ByteArray) else (fun j => if j = 1 then (⟨#[38, 38]⟩ : ByteArray) else (fun j => if j = 0 then (⟨#[124, 124]⟩ : ByteArray) else (fun _ => (⟨#[]⟩ : ByteArray)) j) j) j) j) j) j) j) from (d_ite (f := fun x : ByteArray => (D.str x)) rfl (d_ite (f := fun x : ByteArray => (D.str x)) rfl (d_ite (f := fun x : ByteArray => (D.str x)) rfl (d_ite (f := fun x : ByteArray => (D.str x)) rfl (d_ite (f := fun x : ByteArray => (D.str x)) rfl (d_ite (f := fun x : ByteArray => (D.str x)) rfl rfl)))))))) ?_
  refine runs_to (ts := [0, 5, 6]) (T' := T_lex_sign_L1) (env' := [(0, (D.str t0)), (5, (D.arr 6 1 fun i => (D.str ((fun j => if j = 5 then (⟨#[62, 61]⟩ : ByteArray) else (fun j => if j = 4 then (⟨#[60, 61]⟩ : ByteArray) else (fun j => if j = 3 then (⟨#[33, 61]⟩ : ByteArray) else (fun j => if j = 2 then (⟨#[61, 61]⟩ : ByteArray) else (fun j => if j = 1 then (⟨#[38, 38]⟩ : ByteArray) else (fun j => if j = 0 then (⟨#[124, 124]⟩ : ByteArray) else (fun _ => (⟨#[]⟩ : ByteArray)) j) j) j) j) j) j) i)))), (6, (D.int .i64 (0 : Int)))]) (h2 := []) (by kernel_rfl) (by kernel_rfl) trivial (Nat.zero_le _) trivial (And.intro trivial (And.intro (fun _ _ => trivial) (And.intro trivial trivial))) ?_
  rcases after_some h with ⟨e3, hi, h⟩ | hi
  · refine iter_lex_sign_L1 fu t0 (fun j => if j = 5 then (⟨#[62, 61]⟩ : ByteArray) else (fun j => if j = 4 then (⟨#[60, 61]⟩ : ByteArray) else (fun j => if j = 3 then (⟨#[33, 61]⟩ : ByteArray) else (fun j => if j = 2 then (⟨#[61, 61]⟩ : ByteArray) else (fun j => if j = 1 then (⟨#[38, 38]⟩ : ByteArray) else (fun j => if j = 0 then (⟨#[124, 124]⟩ : ByteArray) else (fun _ => (⟨#[]⟩ : ByteArray)) j) j) j) j) j) j) fu (0 : Int) hi ?_
    show Runs Tryd.prog Tryd.f28 0 X_lex_sign_L1T [(0, (D.str t0))] [] d []
    obtain ⟨p3, h⟩ := chk_some h
    obtain ⟨r1, cr1, h⟩ := Option.bind_eq_some_iff.1 h
    refine runs_regions 1 [([(.d (D.int .i64 r1))], [16])] (z := ([(0 ≤ (0 : Int) ∧ (0 : Int) < (t0.size : Int)), FC Tryd.prog 32 [(D.str (⟨#[60, 62, 43, 45, 42, 47, 37, 33, 61, 40, 41, 123, 125, 91, 93, 44, 59]⟩ : ByteArray)), (D.int .u8 (((t0[(0 : Int).toNat]?).getD 0).toNat : Int))] [] (D.int .i64 r1) [], All (List.map NoRow [(D.str (⟨#[60, 62, 43, 45, 42, 47, 37, 33, 61, 40, 41, 123, 125, 91, 93, 44, 59]⟩ : ByteArray)), (D.int .u8 (((t0[(0 : Int).toNat]?).getD 0).toNat : Int))])], [(16, (D.bool (decide (r1 ≥ (0 : Int)))))], [])) rfl (by kernel_rfl) (And.intro p3 (And.intro (fc_strings_IndexByte (⟨#[60, 62, 43, 45, 42, 47, 37, 33, 61, 40, 41, 123, 125, 91, 93, 44, 59]⟩ : ByteArray) (((t0[(0 : Int).toNat]?).getD 0).toNat : Int) cr1) (And.intro (And.intro trivial (And.intro trivial trivial)) trivial))) ?_
    refine runs_if (b := (decide (r1 ≥ (0 : Int)))) (by kernel_rfl) (fun hb => ?_) (fun hb => ?_)
    · replace h := ifs_true h hb
      refine runs_regions 1 [([], [2])] (z := ([], [(2, (D.int .i64 (1 : Int)))], [])) rfl (by kernel_rfl) trivial ?_
      rw [← Option.some.inj h] at hk
      obtain rfl : d = (D.int .i64 (1 : Int)) := hk
      exact runs_ret (by kernel_rfl) trivial (Nat.le_refl 0) trivial trivial
    · replace h := ifs_false h hb
      refine runs_regions 1 [([], [2])] (z := ([], [(2, (D.int .i64 (0 : Int)))], [])) rfl (by kernel_rfl) trivial ?_
      rw [← Option.some.inj h] at hk
      obtain rfl : d = (D.int .i64 (0 : Int)) := hk
      exact runs_ret (by kernel_rfl) trivial (Nat.le_refl 0) trivial trivial
  · exact iter_lex_sign_L1 fu t0 (fun j => if j = 5 then (⟨#[62, 61]⟩ : ByteArray) else (fun j => if j = 4 then (⟨#[60, 61]⟩ : ByteArray) else (fun j => if j = 3 then (⟨#[33, 61]⟩ : ByteArray) else (fun j => if j = 2 then (⟨#[61, 61]⟩ : ByteArray) else (fun j => if j = 1 then (⟨#[38, 38]⟩ : ByteArray) else (fun j => if j = 0 then (⟨#[124, 124]⟩ : ByteArray) else (fun _ => (⟨#[]⟩ : ByteArray)) j) j) j) j) j) j) fu (0 : Int) hi hk

theorem fc_lex_sign (fu : Nat) (t0 : ByteArray) {r : Int} (h : F_lex_sign fu t0 = some r) : FC Tryd.prog 28 [(D.str t0)] [] (D.int .i64 r) [] := by
  refine fc_of_runs (fn := Tryd.f28) (c := Tryd.f28.body.getD .skip) (by kernel_rfl) (by kernel_rfl) ?_
  refine runs_to (ts := [0]) (T' := T_lex_sign) (env' := [(0, (D.str t0))]) (h2 := []) (by kernel_rfl) (by kernel_rfl) trivial (Nat.le_refl 0) trivial (And.intro trivial trivial) ?_
  exact run_lex_sign fu t0 h rfl

def K_lex_next (d : D) (r : Int) : Prop := d = (D.int .i64 r)

noncomputable def T_lex_next : List Item := norm 200 [.code (Tryd.f16.body.getD .skip)]

/-- podesta/lex.next -/
def F_lex_next (fu : Nat) (t0 : ByteArray) (t1 : Int) : Option Int :=
  chk (0 ≤ t1 ∧ t1 < (t0.size : Int)) <|
  (F_lex_letter (((t0[t1.toNat]?).getD 0).toNat : Int)).bind fun r0 =>
  ifs r0 (
    (F_lex_run_lex_next_1 fu t0 t1).bind fun r1 =>
    chk (0 ≤ t1 ∧ t1 ≤ (IntKind.wrap .i64 (t1 + r1)) ∧ (IntKind.wrap .i64 (t1 + r1)) ≤ (t0.size : Int)) <|
    (F_lex_Word fu (t0.extract (t1).toNat ((IntKind.wrap .i64 (t1 + r1))).toNat)).bind fun r2 =>
    ifs (!r2) (
      some (0 : Int)) (
      some r1)) (
    (F_lex_digit (((t0[t1.toNat]?).getD 0).toNat : Int)).bind fun r3 =>
    ifs r3 (
      (F_lex_run_lex_digit fu t0 t1).bind fun r4 =>
      chk (0 ≤ t1 ∧ t1 ≤ (IntKind.wrap .i64 (t1 + r4)) ∧ (IntKind.wrap .i64 (t1 + r4)) ≤ (t0.size : Int)) <|
      (F_lex_Digits fu (t0.extract (t1).toNat ((IntKind.wrap .i64 (t1 + r4))).toNat)).bind fun r5 =>
      ifs (!r5) (
        some (0 : Int)) (
        some r4)) (
      chk (0 ≤ t1 ∧ t1 ≤ (t0.size : Int) ∧ (t0.size : Int) ≤ (t0.size : Int)) <|
      (F_lex_sign fu (t0.extract (t1).toNat ((t0.size : Int)).toNat)).bind fun r6 =>
      some r6))

theorem run_lex_next (fu : Nat) (t0 : ByteArray) (t1 : Int) {d : D} {r : Int} (h : F_lex_next fu t0 t1 = some r) (hk : K_lex_next d r) : Runs Tryd.prog Tryd.f16 0 T_lex_next [(0, (D.str t0)), (1, (D.int .i64 t1))] [] d [] := by
  unfold F_lex_next at h
  obtain ⟨p0, h⟩ := chk_some h
  obtain ⟨r0, cr0, h⟩ := Option.bind_eq_some_iff.1 h
  refine runs_regions 3 [([], [0, 1]), ([], [0, 1, 5]), ([(.d (D.bool r0))], [0, 1, 5, 11])] (z := ([(0 ≤ t1 ∧ t1 < (t0.size : Int)), FC Tryd.prog 20 [(D.int .u8 (((t0[t1.toNat]?).getD 0).toNat : Int))] [] (D.bool r0) [], All (List.map NoRow [(D.int .u8 (((t0[t1.toNat]?).getD 0).toNat : Int))])], [(0, (D.str t0)), (1, (D.int .i64 t1)), (5, (D.int .u8 (((t0[t1.toNat]?).getD 0).toNat : Int))), (11, (D.bool r0))], [])) rfl (by kernel_rfl) (And.intro p0 (And.intro (fc_lex_letter (((t0[t1.toNat]?).getD 0).toNat : Int) cr0) (And.intro (And.intro trivial trivial) trivial))) ?_
  refine runs_if (b := r0) (by kernel_rfl) (fun hb => ?_) (fun hb => ?_)
  · replace h := ifs_true h hb
    obtain ⟨r1, cr1, h⟩ := Option.bind_eq_some_iff.1 h
    obtain ⟨p1, h⟩ := chk_some h
    obtain ⟨r2, cr2, h⟩ := Option.bind_eq_some_iff.1 h
    refine runs_regions 2 [([(.d (D.int .i64 r1))], [0, 1, 6]), ([(.d (D.bool r2))], [6, 24])] (z := ([FC Tryd.prog 25 [(D.str t0), (D.int .i64 t1), (D.fn 27 D.nil)] [] (D.int .i64 r1) [], All (List.map NoRow [(D.str t0), (D.int .i64 t1), (D.fn 27 D.nil)]), (0 ≤ t1 ∧ t1 ≤ (IntKind.wrap .i64 (t1 + r1)) ∧ (IntKind.wrap .i64 (t1 + r1)) ≤ (t0.size : Int)), FC Tryd.prog 11 [(D.str (t0.extract (t1).toNat ((IntKind.wrap .i64 (t1 + r1))).toNat))] [] (D.bool r2) [], All (List.map NoRow [(D.str (t0.extract (t1).toNat ((IntKind.wrap .i64 (t1 + r1))).toNat))])], [(6, (D.int .i64 r1)), (24, (D.bool (!r2)))], [])) rfl (by kernel_rfl) (And.intro (fc_lex_run_lex_next_1 fu t0 t1 cr1) (And.intro (And.intro trivial (And.intro trivial (And.intro trivial trivial))) (And.intro p1 (And.intro (fc_lex_Word fu (t0.extract (t1).toNat ((IntKind.wrap .i64 (t1 + r1))).toNat) cr2) (And.intro (And.intro trivial trivial) trivial))))) ?_
    refine runs_if (b := (!r2)) (by kernel_rfl) (fun hb => ?_) (fun hb => ?_)
    · replace h := ifs_true h hb
      refine runs_regions 1 [([], [4])] (z := ([], [(4, (D.int .i64 (0 : Int)))], [])) rfl (by kernel_rfl) trivial ?_
      rw [← Option.some.inj h] at hk
      obtain rfl : d = (D.int .i64 (0 : Int)) := hk
      exact runs_ret (by kernel_rfl) trivial (Nat.le_refl 0) trivial trivial
    · replace h := ifs_false h hb
      refine runs_regions 1 [([], [4])] (z := ([], [(4, (D.int .i64 r1))], [])) rfl (by kernel_rfl) trivial ?_
      rw [← Option.some.inj h] at hk
      obtain rfl : d = (D.int .i64 r1) := hk
      exact runs_ret (by kernel_rfl) trivial (Nat.le_refl 0) trivial trivial
  · replace h := ifs_false h hb
    obtain ⟨r3, cr3, h⟩ := Option.bind_eq_some_iff.1 h
    refine runs_regions 1 [([(.d (D.bool r3))], [0, 1, 26])] (z := ([FC Tryd.prog 23 [(D.int .u8 (((t0[t1.toNat]?).getD 0).toNat : Int))] [] (D.bool r3) [], All (List.map NoRow [(D.int .u8 (((t0[t1.toNat]?).getD 0).toNat : Int))])], [(0, (D.str t0)), (1, (D.int .i64 t1)), (26, (D.bool r3))], [])) rfl (by kernel_rfl) (And.intro (fc_lex_digit (((t0[t1.toNat]?).getD 0).toNat : Int) cr3) (And.intro (And.intro trivial trivial) trivial)) ?_
    refine runs_if (b := r3) (by kernel_rfl) (fun hb => ?_) (fun hb => ?_)
    · replace h := ifs_true h hb
      obtain ⟨r4, cr4, h⟩ := Option.bind_eq_some_iff.1 h
      obtain ⟨p2, h⟩ := chk_some h
      obtain ⟨r5, cr5, h⟩ := Option.bind_eq_some_iff.1 h
      refine runs_regions 2 [([(.d (D.int .i64 r4))], [0, 1, 7]), ([(.d (D.bool r5))], [7, 39])] (z := ([FC Tryd.prog 25 [(D.str t0), (D.int .i64 t1), (D.fn 23 D.nil)] [] (D.int .i64 r4) [], All (List.map NoRow [(D.str t0), (D.int .i64 t1), (D.fn 23 D.nil)]), (0 ≤ t1 ∧ t1 ≤ (IntKind.wrap .i64 (t1 + r4)) ∧ (IntKind.wrap .i64 (t1 + r4)) ≤ (t0.size : Int)), FC Tryd.prog 13 [(D.str (t0.extract (t1).toNat ((IntKind.wrap .i64 (t1 + r4))).toNat))] [] (D.bool r5) [], All (List.map NoRow [(D.str (t0.extract (t1).toNat ((IntKind.wrap .i64 (t1 + r4))).toNat))])], [(7, (D.int .i64 r4)), (39, (D.bool (!r5)))], [])) rfl (by kernel_rfl) (And.intro (fc_lex_run_lex_digit fu t0 t1 cr4) (And.intro (And.intro trivial (And.intro trivial (And.intro trivial trivial))) (And.intro p2 (And.intro (fc_lex_Digits fu (t0.extract (t1).toNat ((IntKind.wrap .i64 (t1 + r4))).toNat) cr5) (And.intro (And.intro trivial trivial) trivial))))) ?_
      refine runs_if (b := (!r5)) (by kernel_rfl) (fun hb => ?_) (fun hb => ?_)
      · replace h := ifs_true h hb
        refine runs_regions 1 [([], [4])] (z := ([], [(4, (D.int .i64 (0 : Int)))], [])) rfl (by kernel_rfl) trivial ?_
        rw [← Option.some.inj h] at hk
        obtain rfl : d = (D.int .i64 (0 : Int)) := hk
        exact runs_ret (by kernel_rfl) trivial (Nat.le_refl 0) trivial trivial
      · replace h := ifs_false h hb
        refine runs_regions 1 [([], [4])] (z := ([], [(4, (D.int .i64 r4))], [])) rfl (by kernel_rfl) trivial ?_
        rw [← Option.some.inj h] at hk
        obtain rfl : d = (D.int .i64 r4) := hk
        exact runs_ret (by kernel_rfl) trivial (Nat.le_refl 0) trivial trivial
    · replace h := ifs_false h hb
      obtain ⟨p3, h⟩ := chk_some h
      obtain ⟨r6, cr6, h⟩ := Option.bind_eq_some_iff.1 h
      refine runs_regions 1 [([(.d (D.int .i64 r6))], [4])] (z := ([(0 ≤ t1 ∧ t1 ≤ (t0.size : Int) ∧ (t0.size : Int) ≤ (t0.size : Int)), FC Tryd.prog 28 [(D.str (t0.extract (t1).toNat ((t0.size : Int)).toNat))] [] (D.int .i64 r6) [], All (List.map NoRow [(D.str (t0.extract (t1).toNat ((t0.size : Int)).toNat))])], [(4, (D.int .i64 r6))], [])) rfl (by kernel_rfl) (And.intro p3 (And.intro (fc_lex_sign fu (t0.extract (t1).toNat ((t0.size : Int)).toNat) cr6) (And.intro (And.intro trivial trivial) trivial))) ?_
      rw [← Option.some.inj h] at hk
      obtain rfl : d = (D.int .i64 r6) := hk
      exact runs_ret (by kernel_rfl) trivial (Nat.le_refl 0) trivial trivial

theorem fc_lex_next (fu : Nat) (t0 : ByteArray) (t1 : Int) {r : Int} (h : F_lex_next fu t0 t1 = some r) : FC Tryd.prog 16 [(D.str t0), (D.int .i64 t1)] [] (D.int .i64 r) [] := by
  refine fc_of_runs (fn := Tryd.f16) (c := Tryd.f16.body.getD .skip) (by kernel_rfl) (by kernel_rfl) ?_
  refine runs_to (ts := [0, 1]) (T' := T_lex_next) (env' := [(0, (D.str t0)), (1, (D.int .i64 t1))]) (h2 := []) (by kernel_rfl) (by kernel_rfl) trivial (Nat.le_refl 0) trivial (And.intro trivial (And.intro trivial trivial)) ?_
  exact run_lex_next fu t0 t1 h rfl

def K_lex_Scan (d : D) (r : ((Nat × (Nat → S_api_Token)) × S_api_Fault)) : Prop := d = (D.tup (D.cons (D.lit r.1.1 2 fun i => (D.cons (D.str (r.1.2 i).f0) (D.cons (D.int .i64 (r.1.2 i).f1) D.nil))) (D.cons (D.cons (D.int .i64 r.2.f0) (D.cons (D.int .i64 r.2.f1) D.nil)) D.nil)))

noncomputable def T_lex_Scan : List Item := norm 200 [.code (Tryd.f9.body.getD .skip)]

noncomputable def T_lex_Scan_L1 : List Item := norm 200 (nxt (nxt (cndF (nxt (nxt T_lex_Scan)))))

noncomputable def X_lex_Scan_L1T : List Item := norm 200 (cndF (nxt (nxt (nxt (cndF (nxt (nxt T_lex_Scan)))))))

abbrev E_lex_Scan_L1 := (Nat × (Nat → S_api_Token))

def N_lex_Scan_L1 (_fu : Nat) (t0 : ByteArray) (m0 : S_api_Fault) (d : D) (s : (Int × (Nat × (Nat → S_api_Token)))) : Prop := Runs Tryd.prog Tryd.f9 0 T_lex_Scan_L1 [(0, (D.str t0)), (3, (D.ptr 0 [])), (4, (D.own 1)), (5, (D.int .i64 s.1))] [some (.box (D.cons (D.int .i64 m0.f0) (D.cons (D.int .i64 m0.f1) D.nil))), some (.seq 30 s.2.1 2 (D.arr s.2.1 2 fun i => (D.cons (D.str (s.2.2 i).f0) (D.cons (D.int .i64 (s.2.2 i).f1) D.nil))))] d []

def X_lex_Scan_L1 (_fu : Nat) (_t0 : ByteArray) (m0 : S_api_Fault) (d : D) : E_lex_Scan_L1 ⊕ ((Nat × (Nat → S_api_Token)) × S_api_Fault) → Prop
  | .inl e => Runs Tryd.prog Tryd.f9 0 X_lex_Scan_L1T [(3, (D.ptr 0 [])), (4, (D.own 1))] [some (.box (D.cons (D.int .i64 m0.f0) (D.cons (D.int .i64 m0.f1) D.nil))), some (.seq 30 e.1 2 (D.arr e.1 2 fun i => (D.cons (D.str (e.2 i).f0) (D.cons (D.int .i64 (e.2 i).f1) D.nil))))] d []
  | .inr o => (K_lex_Scan d) o

def F_lex_Scan_L1 (fu : Nat) (t0 : ByteArray) (_m0 : S_api_Fault) (t5 : Int) (m1 : (Nat × (Nat → S_api_Token))) : Option (Lo (Int × (Nat × (Nat → S_api_Token))) E_lex_Scan_L1 ((Nat × (Nat → S_api_Token)) × S_api_Fault)) :=
  ifs (decide (t5 < (t0.size : Int))) (
    (F_lex_next fu t0 t5).bind fun r1 =>
    ifs (r1 == (0 : Int)) (
      some (.ret ((0, (fun _ => (S_api_Token.mk (⟨#[]⟩ : ByteArray) (0 : Int)))), (S_api_Fault.mk (15 : Int) t5)))) (
      chk (0 ≤ t5 ∧ t5 ≤ (IntKind.wrap .i64 (t5 + r1)) ∧ (IntKind.wrap .i64 (t5 + r1)) ≤ (t0.size : Int)) <|
      chk (RoomOk (m1.1 + 1) 24) <|
      (F_lex_blanks fu t0 (IntKind.wrap .i64 (t5 + r1))).bind fun r2 =>
      some (.next ((IntKind.wrap .i64 ((IntKind.wrap .i64 (t5 + r1)) + r2)), ((m1.1 + 1), (fun i => if i < m1.1 then m1.2 i else (fun i => ([(S_api_Token.mk (t0.extract (t5).toNat ((IntKind.wrap .i64 (t5 + r1))).toNat) t5)] : List S_api_Token).getD i (S_api_Token.mk (⟨#[]⟩ : ByteArray) (0 : Int))) (i - m1.1))))))) (
    some (.exit m1))

theorem run_lex_Scan_L1 (fu : Nat) (t0 : ByteArray) (m0 : S_api_Fault) (t5 : Int) (m1 : (Nat × (Nat → S_api_Token))) {d : D} {o : (Lo (Int × (Nat × (Nat → S_api_Token))) E_lex_Scan_L1 ((Nat × (Nat → S_api_Token)) × S_api_Fault))} (h : F_lex_Scan_L1 fu t0 m0 t5 m1 = some o) (hk : (Lo.post (N_lex_Scan_L1 fu t0 m0 d) (X_lex_Scan_L1 fu t0 m0 d)) o) : Runs Tryd.prog Tryd.f9 0 T_lex_Scan_L1 [(0, (D.str t0)), (3, (D.ptr 0 [])), (4, (D.own 1)), (5, (D.int .i64 t5))] [some (.box (D.cons (D.int .i64 m0.f0) (D.cons (D.int .i64 m0.f1) D.nil))), some (.seq 30 m1.1 2 (D.arr m1.1 2 fun i => (D.cons (D.str (m1.2 i).f0) (D.cons (D.int .i64 (m1.2 i).f1) D.nil))))] d [] := by
  unfold F_lex_Scan_L1 at h
  refine runs_regions 1 [([], [0, 3, 4, 5, 16])] (z := ([], [(0, (D.str t0)), (3, (D.ptr 0 [])), (4, (D.own 1)), (5, (D.int .i64 t5)), (16, (D.bool (decide (t5 < (t0.size : Int)))))], [some (.box (D.cons (D.int .i64 m0.f0) (D.cons (D.int .i64 m0.f1) D.nil))), some (.seq 30 m1.1 2 (D.arr m1.1 2 fun i => (D.cons (D.str (m1.2 i).f0) (D.cons (D.int .i64 (m1.2 i).f1) D.nil))))])) rfl (by kernel_rfl) trivial ?_
  refine runs_if (b := (decide (t5 < (t0.size : Int)))) (by kernel_rfl) (fun hb => ?_) (fun hb => ?_)
  · replace h := ifs_true h hb
    obtain ⟨r1, cr1, h⟩ := Option.bind_eq_some_iff.1 h
    refine runs_regions 2 [([(.d (D.int .i64 r1))], [0, 3, 4, 5, 6]), ([], [0, 3, 4, 5, 6, 26])] (z := ([FC Tryd.prog 16 [(D.str t0), (D.int .i64 t5)] [] (D.int .i64 r1) [], All (List.map NoRow [(D.str t0), (D.int .i64 t5)])], [(0, (D.str t0)), (3, (D.ptr 0 [])), (4, (D.own 1)), (5, (D.int .i64 t5)), (6, (D.int .i64 r1)), (26, (D.bool (r1 == (0 : Int))))], [some (.box (D.cons (D.int .i64 m0.f0) (D.cons (D.int .i64 m0.f1) D.nil))), some (.seq 30 m1.1 2 (D.arr m1.1 2 fun i => (D.cons (D.str (m1.2 i).f0) (D.cons (D.int .i64 (m1.2 i).f1) D.nil))))])) rfl (by kernel_rfl) (And.intro (fc_lex_next fu t0 t5 cr1) (And.intro (And.intro trivial (And.intro trivial trivial)) trivial)) ?_
    refine runs_if (b := (r1 == (0 : Int))) (by kernel_rfl) (fun hb => ?_) (fun hb => ?_)
    · replace h := ifs_true h hb
      refine runs_regions 1 [([], [2, 3])] (z := ([], [(2, D.nils), (3, (D.ptr 0 []))], [some (.box (D.cons (D.int .i64 (15 : Int)) (D.cons (D.int .i64 t5) D.nil))), some (.seq 30 m1.1 2 (D.arr m1.1 2 fun i => (D.cons (D.str (m1.2 i).f0) (D.cons (D.int .i64 (m1.2 i).f1) D.nil))))])) rfl (by kernel_rfl) trivial ?_
      rw [← Option.some.inj h] at hk
      obtain rfl : d = (D.tup (D.cons (D.lit 0 2 fun i => (D.cons (D.str ((fun _ => (S_api_Token.mk (⟨#[]⟩ : ByteArray) (0 : Int))) i).f0) (D.cons (D.int .i64 ((fun _ => (S_api_Token.mk (⟨#[]⟩ : ByteArray) (0 : Int))) i).f1) D.nil))) (D.cons (D.cons (D.int .i64 (15 : Int)) (D.cons (D.int .i64 t5) D.nil)) D.nil))) := hk
      refine runs_nils 2 2 (fun i => (D.cons (D.str ((fun _ => (S_api_Token.mk (⟨#[]⟩ : ByteArray) (0 : Int))) i).f0) (D.cons (D.int .i64 ((fun _ => (S_api_Token.mk (⟨#[]⟩ : ByteArray) (0 : Int))) i).f1) D.nil))) (by kernel_rfl) ?_
      exact runs_ret (by kernel_rfl) trivial (Nat.le_refl 0) trivial (And.intro (fun _ _ => (And.intro trivial (And.intro trivial trivial))) (And.intro (And.intro trivial (And.intro trivial trivial)) trivial))
    · replace h := ifs_false h hb
      obtain ⟨p0, h⟩ := chk_some h
      obtain ⟨p1, h⟩ := chk_some h
      obtain ⟨r2, cr2, h⟩ := Option.bind_eq_some_iff.1 h
      refine runs_regions 3 [([(.lit fun i => (D.cons (D.str ((fun i => ([(S_api_Token.mk (t0.extract (t5).toNat ((IntKind.wrap .i64 (t5 + r1))).toNat) t5)] : List S_api_Token).getD i (S_api_Token.mk (⟨#[]⟩ : ByteArray) (0 : Int))) i).f0) (D.cons (D.int .i64 ((fun i => ([(S_api_Token.mk (t0.extract (t5).toNat ((IntKind.wrap .i64 (t5 + r1))).toNat) t5)] : List S_api_Token).getD i (S_api_Token.mk (⟨#[]⟩ : ByteArray) (0 : Int))) i).f1) D.nil))), (.d (D.arr (m1.1 + 1) 2 fun i => (D.cons (D.str ((fun i => if i < m1.1 then m1.2 i else (fun i => ([(S_api_Token.mk (t0.extract (t5).toNat ((IntKind.wrap .i64 (t5 + r1))).toNat) t5)] : List S_api_Token).getD i (S_api_Token.mk (⟨#[]⟩ : ByteArray) (0 : Int))) (i - m1.1)) i).f0) (D.cons (D.int .i64 ((fun i => if i < m1.1 then m1.2 i else (fun i => ([(S_api_Token.mk (t0.extract (t5).toNat ((IntKind.wrap .i64 (t5 + r1))).toNat) t5)] : List S_api_Token).getD i (S_api_Token.mk (⟨#[]⟩ : ByteArray) (0 : Int))) (i - m1.1)) i).f1) D.nil))))], [0, 3, 4, 5, 6]), ([], [0, 3, 4, 5]), ([(.d (D.int .i64 r2))], [0, 3, 4, 5])] (z := ([(0 ≤ t5 ∧ t5 ≤ (IntKind.wrap .i64 (t5 + r1)) ∧ (IntKind.wrap .i64 (t5 + r1)) ≤ (t0.size : Int)), TabOk [(D.cons (D.str (t0.extract (t5).toNat ((IntKind.wrap .i64 (t5 + r1))).toNat)) (D.cons (D.int .i64 t5) D.nil))] 2 (D.arr 1 2 fun i => (D.cons (D.str ((fun i => ([(S_api_Token.mk (t0.extract (t5).toNat ((IntKind.wrap .i64 (t5 + r1))).toNat) t5)] : List S_api_Token).getD i (S_api_Token.mk (⟨#[]⟩ : ByteArray) (0 : Int))) i).f0) (D.cons (D.int .i64 ((fun i => ([(S_api_Token.mk (t0.extract (t5).toNat ((IntKind.wrap .i64 (t5 + r1))).toNat) t5)] : List S_api_Token).getD i (S_api_Token.mk (⟨#[]⟩ : ByteArray) (0 : Int))) i).f1) D.nil))), (RoomOk (m1.1 + 1) 24), CatOk (D.arr m1.1 2 fun i => (D.cons (D.str (m1.2 i).f0) (D.cons (D.int .i64 (m1.2 i).f1) D.nil))) (D.arr 1 2 fun i => (D.cons (D.str ((fun i => ([(S_api_Token.mk (t0.extract (t5).toNat ((IntKind.wrap .i64 (t5 + r1))).toNat) t5)] : List S_api_Token).getD i (S_api_Token.mk (⟨#[]⟩ : ByteArray) (0 : Int))) i).f0) (D.cons (D.int .i64 ((fun i => ([(S_api_Token.mk (t0.extract (t5).toNat ((IntKind.wrap .i64 (t5 + r1))).toNat) t5)] : List S_api_Token).getD i (S_api_Token.mk (⟨#[]⟩ : ByteArray) (0 : Int))) i).f1) D.nil))) (D.arr (m1.1 + 1) 2 fun i => (D.cons (D.str ((fun i => if i < m1.1 then m1.2 i else (fun i => ([(S_api_Token.mk (t0.extract (t5).toNat ((IntKind.wrap .i64 (t5 + r1))).toNat) t5)] : List S_api_Token).getD i (S_api_Token.mk (⟨#[]⟩ : ByteArray) (0 : Int))) (i - m1.1)) i).f0) (D.cons (D.int .i64 ((fun i => if i < m1.1 then m1.2 i else (fun i => ([(S_api_Token.mk (t0.extract (t5).toNat ((IntKind.wrap .i64 (t5 + r1))).toNat) t5)] : List S_api_Token).getD i (S_api_Token.mk (⟨#[]⟩ : ByteArray) (0 : Int))) (i - m1.1)) i).f1) D.nil))), FC Tryd.prog 15 [(D.str t0), (D.int .i64 (IntKind.wrap .i64 (t5 + r1)))] [] (D.int .i64 r2) [], All (List.map NoRow [(D.str t0), (D.int .i64 (IntKind.wrap .i64 (t5 + r1)))])], [(0, (D.str t0)), (3, (D.ptr 0 [])), (4, (D.own 2)), (5, (D.int .i64 (IntKind.wrap .i64 ((IntKind.wrap .i64 (t5 + r1)) + r2))))], [some (.box (D.cons (D.int .i64 m0.f0) (D.cons (D.int .i64 m0.f1) D.nil))), none, some (.seq 30 (m1.1 + 1) 2 (D.arr (m1.1 + 1) 2 fun i => (D.cons (D.str ((fun i => if i < m1.1 then m1.2 i else (fun i => ([(S_api_Token.mk (t0.extract (t5).toNat ((IntKind.wrap .i64 (t5 + r1))).toNat) t5)] : List S_api_Token).getD i (S_api_Token.mk (⟨#[]⟩ : ByteArray) (0 : Int))) (i - m1.1)) i).f0) (D.cons (D.int .i64 ((fun i => if i < m1.1 then m1.2 i else (fun i => ([(S_api_Token.mk (t0.extract (t5).toNat ((IntKind.wrap .i64 (t5 + r1))).toNat) t5)] : List S_api_Token).getD i (S_api_Token.mk (⟨#[]⟩ : ByteArray) (0 : Int))) (i - m1.1)) i).f1) D.nil))))])) rfl (by kernel_rfl) (And.intro p0 (And.intro (tabOk_arr rfl (And.intro rfl trivial)) (And.intro p1 (And.intro (catOk_arr' rfl fun i => (d_ite (f := fun x : S_api_Token => (D.cons (D.str x.f0) (D.cons (D.int .i64 x.f1) D.nil))) rfl rfl).symm) (And.intro (fc_lex_blanks fu t0 (IntKind.wrap .i64 (t5 + r1)) cr2) (And.intro (And.intro trivial (And.intro trivial trivial)) trivial)))))) ?_
      rw [← Option.some.inj h] at hk
      refine runs_to (ts := [0, 3, 4, 5]) (T' := T_lex_Scan_L1) (env' := [(0, (D.str t0)), (3, (D.ptr 0 [])), (4, (D.own 2)), (5, (D.int .i64 (IntKind.wrap .i64 ((IntKind.wrap .i64 (t5 + r1)) + r2))))]) (h2 := [some (.box (D.cons (D.int .i64 m0.f0) (D.cons (D.int .i64 m0.f1) D.nil))), none, some (.seq 30 (m1.1 + 1) 2 (D.arr (m1.1 + 1) 2 fun i => (D.cons (D.str ((fun i => if i < m1.1 then m1.2 i else (fun i => ([(S_api_Token.mk (t0.extract (t5).toNat ((IntKind.wrap .i64 (t5 + r1))).toNat) t5)] : List S_api_Token).getD i (S_api_Token.mk (⟨#[]⟩ : ByteArray) (0 : Int))) (i - m1.1)) i).f0) (D.cons (D.int .i64 ((fun i => if i < m1.1 then m1.2 i else (fun i => ([(S_api_Token.mk (t0.extract (t5).toNat ((IntKind.wrap .i64 (t5 + r1))).toNat) t5)] : List S_api_Token).getD i (S_api_Token.mk (⟨#[]⟩ : ByteArray) (0 : Int))) (i - m1.1)) i).f1) D.nil))))]) (by kernel_rfl) (by kernel_rfl) (And.intro (.inr rfl) (And.intro (.inl rfl) (And.intro (.inr rfl) trivial))) (Nat.zero_le _) (And.intro (And.intro trivial (And.intro trivial trivial)) (And.intro (fun _ _ => (And.intro trivial (And.intro trivial trivial))) trivial)) (And.intro trivial (And.intro (bel_of rfl) (And.intro (bel_of rfl) (And.intro trivial trivial)))) ?_
      refine runs_rename 1 2 (row := (.seq 30 (m1.1 + 1) 2 (D.arr (m1.1 + 1) 2 fun i => (D.cons (D.str ((fun i => if i < m1.1 then m1.2 i else (fun i => ([(S_api_Token.mk (t0.extract (t5).toNat ((IntKind.wrap .i64 (t5 + r1))).toNat) t5)] : List S_api_Token).getD i (S_api_Token.mk (⟨#[]⟩ : ByteArray) (0 : Int))) (i - m1.1)) i).f0) (D.cons (D.int .i64 ((fun i => if i < m1.1 then m1.2 i else (fun i => ([(S_api_Token.mk (t0.extract (t5).toNat ((IntKind.wrap .i64 (t5 + r1))).toNat) t5)] : List S_api_Token).getD i (S_api_Token.mk (⟨#[]⟩ : ByteArray) (0 : Int))) (i - m1.1)) i).f1) D.nil))))) (by decide) (Nat.zero_le _) rfl rfl (And.intro (And.intro trivial (And.intro trivial trivial)) (And.intro (fun _ _ => (And.intro trivial (And.intro trivial trivial))) trivial)) (And.intro trivial (And.intro (rn_ptr rfl) (And.intro (rn_own rfl) (And.intro trivial trivial)))) ?_
      refine runs_to (ts := [0, 3, 4, 5]) (T' := T_lex_Scan_L1) (env' := [(0, (D.str t0)), (3, (D.ptr 0 [])), (4, (D.own 1)), (5, (D.int .i64 (IntKind.wrap .i64 ((IntKind.wrap .i64 (t5 + r1)) + r2))))]) (h2 := [some (.box (D.cons (D.int .i64 m0.f0) (D.cons (D.int .i64 m0.f1) D.nil))), some (.seq 30 (m1.1 + 1) 2 (D.arr (m1.1 + 1) 2 fun i => (D.cons (D.str ((fun i => if i < m1.1 then m1.2 i else (fun i => ([(S_api_Token.mk (t0.extract (t5).toNat ((IntKind.wrap .i64 (t5 + r1))).toNat) t5)] : List S_api_Token).getD i (S_api_Token.mk (⟨#[]⟩ : ByteArray) (0 : Int))) (i - m1.1)) i).f0) (D.cons (D.int .i64 ((fun i => if i < m1.1 then m1.2 i else (fun i => ([(S_api_Token.mk (t0.extract (t5).toNat ((IntKind.wrap .i64 (t5 + r1))).toNat) t5)] : List S_api_Token).getD i (S_api_Token.mk (⟨#[]⟩ : ByteArray) (0 : Int))) (i - m1.1)) i).f1) D.nil))))]) (by kernel_rfl) (by kernel_rfl) (And.intro (.inr rfl) (And.intro (.inr rfl) trivial)) (Nat.zero_le _) (And.intro (And.intro trivial (And.intro trivial trivial)) (And.intro (fun _ _ => (And.intro trivial (And.intro trivial trivial))) trivial)) (And.intro trivial (And.intro (bel_of rfl) (And.intro (bel_of rfl) (And.intro trivial trivial)))) ?_
      exact hk
  · replace h := ifs_false h hb
    rw [← Option.some.inj h] at hk
    refine runs_to (ts := [3, 4]) (T' := X_lex_Scan_L1T) (env' := [(3, (D.ptr 0 [])), (4, (D.own 1))]) (h2 := [some (.box (D.cons (D.int .i64 m0.f0) (D.cons (D.int .i64 m0.f1) D.nil))), some (.seq 30 m1.1 2 (D.arr m1.1 2 fun i => (D.cons (D.str (m1.2 i).f0) (D.cons (D.int .i64 (m1.2 i).f1) D.nil))))]) (by kernel_rfl) (by kernel_rfl) (And.intro (.inr rfl) (And.intro (.inr rfl) trivial)) (Nat.zero_le _) (And.intro (And.intro trivial (And.intro trivial trivial)) (And.intro (fun _ _ => (And.intro trivial (And.intro trivial trivial))) trivial)) (And.intro (bel_of rfl) (And.intro (bel_of rfl) trivial)) ?_
    exact hk

theorem iter_lex_Scan_L1 (fu : Nat) (t0 : ByteArray) (m0 : S_api_Fault) {d : D} (k : Nat) (s : (Int × (Nat × (Nat → S_api_Token)))) {o : E_lex_Scan_L1 ⊕ ((Nat × (Nat → S_api_Token)) × S_api_Fault)} (h : iter (fun s => F_lex_Scan_L1 fu t0 m0 s.1 s.2) k s = some o) (hx : X_lex_Scan_L1 fu t0 m0 d o) : N_lex_Scan_L1 fu t0 m0 d s :=
  iter_post (K := N_lex_Scan_L1 fu t0 m0 d) (X := X_lex_Scan_L1 fu t0 m0 d) (fun s _ h hk => run_lex_Scan_L1 fu t0 m0 s.1 s.2 h hk) k s o h hx

/-- podesta/lex.Scan -/
def F_lex_Scan (fu : Nat) (t0 : ByteArray) : Option ((Nat × (Nat → S_api_Token)) × S_api_Fault) :=
  ifs (decide ((t0.size : Int) > (16384 : Int))) (
    some ((0, (fun _ => (S_api_Token.mk (⟨#[]⟩ : ByteArray) (0 : Int)))), (S_api_Fault.mk (13 : Int) (16384 : Int)))) (
    (F_lex_blanks fu t0 (0 : Int)).bind fun r0 =>
    after (iter (fun s => F_lex_Scan_L1 fu t0 (S_api_Fault.mk (0 : Int) (0 : Int)) s.1 s.2) fu (r0, (0, (fun _ => (S_api_Token.mk (⟨#[]⟩ : ByteArray) (0 : Int)))))) fun e3 =>
    some (e3, (S_api_Fault.mk (0 : Int) (0 : Int))))

theorem run_lex_Scan (fu : Nat) (t0 : ByteArray) {d : D} {r : ((Nat × (Nat → S_api_Token)) × S_api_Fault)} (h : F_lex_Scan fu t0 = some r) (hk : K_lex_Scan d r) : Runs Tryd.prog Tryd.f9 0 T_lex_Scan [(0, (D.str t0))] [] d [] := by
  unfold F_lex_Scan at h
  refine runs_regions 2 [([], [0, 3]), ([], [0, 3, 9])] (z := ([], [(0, (D.str t0)), (3, (D.ptr 0 [])), (9, (D.bool (decide ((t0.size : Int) > (16384 : Int)))))], [some (.box (D.cons (D.int .i64 (0 : Int)) (D.cons (D.int .i64 (0 : Int)) D.nil)))])) rfl (by kernel_rfl) trivial ?_
  refine runs_if (b := (decide ((t0.size : Int) > (16384 : Int)))) (by kernel_rfl) (fun hb => ?_) (fun hb => ?_)
  · replace h := ifs_true h hb
    refine runs_regions 1 [([], [2, 3])] (z := ([], [(2, D.nils), (3, (D.ptr 0 []))], [some (.box (D.cons (D.int .i64 (13 : Int)) (D.cons (D.int .i64 (16384 : Int)) D.nil)))])) rfl (by kernel_rfl) trivial ?_
    rw [← Option.some.inj h] at hk
    obtain rfl : d = (D.tup (D.cons (D.lit 0 2 fun i => (D.cons (D.str ((fun _ => (S_api_Token.mk (⟨#[]⟩ : ByteArray) (0 : Int))) i).f0) (D.cons (D.int .i64 ((fun _ => (S_api_Token.mk (⟨#[]⟩ : ByteArray) (0 : Int))) i).f1) D.nil))) (D.cons (D.cons (D.int .i64 (13 : Int)) (D.cons (D.int .i64 (16384 : Int)) D.nil)) D.nil))) := hk
    refine runs_nils 2 2 (fun i => (D.cons (D.str ((fun _ => (S_api_Token.mk (⟨#[]⟩ : ByteArray) (0 : Int))) i).f0) (D.cons (D.int .i64 ((fun _ => (S_api_Token.mk (⟨#[]⟩ : ByteArray) (0 : Int))) i).f1) D.nil))) (by kernel_rfl) ?_
    exact runs_ret (by kernel_rfl) trivial (Nat.le_refl 0) trivial (And.intro (fun _ _ => (And.intro trivial (And.intro trivial trivial))) (And.intro (And.intro trivial (And.intro trivial trivial)) trivial))
  · replace h := ifs_false h hb
    obtain ⟨r0, cr0, h⟩ := Option.bind_eq_some_iff.1 h
    refine runs_regions 2 [([(.nil 30 2 (D.arr 0 2 fun i => (D.cons (D.str ((fun _ => (S_api_Token.mk (⟨#[]⟩ : ByteArray) (0 : Int))) i).f0) (D.cons (D.int .i64 ((fun _ => (S_api_Token.mk (⟨#[]⟩ : ByteArray) (0 : Int))) i).f1) D.nil))))], [0, 3, 4]), ([(.d (D.int .i64 r0))], [0, 3, 4, 5])] (z := ([EmptyOk (D.arr 0 2 fun i => (D.cons (D.str ((fun _ => (S_api_Token.mk (⟨#[]⟩ : ByteArray) (0 : Int))) i).f0) (D.cons (D.int .i64 ((fun _ => (S_api_Token.mk (⟨#[]⟩ : ByteArray) (0 : Int))) i).f1) D.nil))), FC Tryd.prog 15 [(D.str t0), (D.int .i64 (0 : Int))] [] (D.int .i64 r0) [], All (List.map NoRow [(D.str t0), (D.int .i64 (0 : Int))])], [(0, (D.str t0)), (3, (D.ptr 0 [])), (4, (D.own 1)), (5, (D.int .i64 r0))], [some (.box (D.cons (D.int .i64 (0 : Int)) (D.cons (D.int .i64 (0 : Int)) D.nil))), some (.seq 30 0 2 (D.arr 0 2 fun i => (D.cons (D.str ((fun _ => (S_api_Token.mk (⟨#[]⟩ : ByteArray) (0 : Int))) i).f0) (D.cons (D.int .i64 ((fun _ => (S_api_Token.mk (⟨#[]⟩ : ByteArray) (0 : Int))) i).f1) D.nil))))])) rfl (by kernel_rfl) (And.intro emptyOk_arr (And.intro (fc_lex_blanks fu t0 (0 : Int) cr0) (And.intro (And.intro trivial (And.intro trivial trivial)) trivial))) ?_
    refine runs_to (ts := [0, 3, 4, 5]) (T' := T_lex_Scan_L1) (env' := [(0, (D.str t0)), (3, (D.ptr 0 [])), (4, (D.own 1)), (5, (D.int .i64 r0))]) (h2 := [some (.box (D.cons (D.int .i64 (0 : Int)) (D.cons (D.int .i64 (0 : Int)) D.nil))), some (.seq 30 0 2 (D.arr 0 2 fun i => (D.cons (D.str ((fun _ => (S_api_Token.mk (⟨#[]⟩ : ByteArray) (0 : Int))) i).f0) (D.cons (D.int .i64 ((fun _ => (S_api_Token.mk (⟨#[]⟩ : ByteArray) (0 : Int))) i).f1) D.nil))))]) (by kernel_rfl) (by kernel_rfl) (And.intro (.inr rfl) (And.intro (.inr rfl) trivial)) (Nat.zero_le _) (And.intro (And.intro trivial (And.intro trivial trivial)) (And.intro (fun _ _ => (And.intro trivial (And.intro trivial trivial))) trivial)) (And.intro trivial (And.intro (bel_of rfl) (And.intro (bel_of rfl) (And.intro trivial trivial)))) ?_
    rcases after_some h with ⟨e3, hi, h⟩ | hi
    · refine iter_lex_Scan_L1 fu t0 (S_api_Fault.mk (0 : Int) (0 : Int)) fu (r0, (0, (fun _ => (S_api_Token.mk (⟨#[]⟩ : ByteArray) (0 : Int))))) hi ?_
      show Runs Tryd.prog Tryd.f9 0 X_lex_Scan_L1T [(3, (D.ptr 0 [])), (4, (D.own 1))] [some (.box (D.cons (D.int .i64 (0 : Int)) (D.cons (D.int .i64 (0 : Int)) D.nil))), some (.seq 30 e3.1 2 (D.arr e3.1 2 fun i => (D.cons (D.str (e3.2 i).f0) (D.cons (D.int .i64 (e3.2 i).f1) D.nil))))] d []
      refine runs_regions 1 [([], [2, 3])] (z := ([], [(2, (D.own 1)), (3, (D.ptr 0 []))], [some (.box (D.cons (D.int .i64 (0 : Int)) (D.cons (D.int .i64 (0 : Int)) D.nil))), some (.seq 30 e3.1 2 (D.arr e3.1 2 fun i => (D.cons (D.str (e3.2 i).f0) (D.cons (D.int .i64 (e3.2 i).f1) D.nil))))])) rfl (by kernel_rfl) trivial ?_
      rw [← Option.some.inj h] at hk
      obtain rfl : d = (D.tup (D.cons (D.lit e3.1 2 fun i => (D.cons (D.str (e3.2 i).f0) (D.cons (D.int .i64 (e3.2 i).f1) D.nil))) (D.cons (D.cons (D.int .i64 (0 : Int)) (D.cons (D.int .i64 (0 : Int)) D.nil)) D.nil))) := hk
      refine runs_freeze 1 (row := (.seq 30 e3.1 2 (D.arr e3.1 2 fun i => (D.cons (D.str (e3.2 i).f0) (D.cons (D.int .i64 (e3.2 i).f1) D.nil))))) rfl ?_
      exact runs_ret (by kernel_rfl) trivial (Nat.le_refl 0) trivial (And.intro (fun _ _ => (And.intro trivial (And.intro trivial trivial))) (And.intro (And.intro trivial (And.intro trivial trivial)) trivial))
    · exact iter_lex_Scan_L1 fu t0 (S_api_Fault.mk (0 : Int) (0 : Int)) fu (r0, (0, (fun _ => (S_api_Token.mk (⟨#[]⟩ : ByteArray) (0 : Int))))) hi hk

theorem fc_lex_Scan (fu : Nat) (t0 : ByteArray) {r : ((Nat × (Nat → S_api_Token)) × S_api_Fault)} (h : F_lex_Scan fu t0 = some r) : FC Tryd.prog 9 [(D.str t0)] [] (D.tup (D.cons (D.lit r.1.1 2 fun i => (D.cons (D.str (r.1.2 i).f0) (D.cons (D.int .i64 (r.1.2 i).f1) D.nil))) (D.cons (D.cons (D.int .i64 r.2.f0) (D.cons (D.int .i64 r.2.f1) D.nil)) D.nil))) [] := by
  refine fc_of_runs (fn := Tryd.f9) (c := Tryd.f9.body.getD .skip) (by kernel_rfl) (by kernel_rfl) ?_
  refine runs_to (ts := [0]) (T' := T_lex_Scan) (env' := [(0, (D.str t0))]) (h2 := []) (by kernel_rfl) (by kernel_rfl) trivial (Nat.le_refl 0) trivial (And.intro trivial trivial) ?_
  exact run_lex_Scan fu t0 h rfl

def K_law15_answers (d : D) (r : Bool) : Prop := d = (D.bool r)

noncomputable def T_law15_answers : List Item := norm 200 [.code (Tryd.f8.body.getD .skip)]

/-- podesta/podestalaw15.answers -/
def F_law15_answers (fu : Nat) : Option Bool :=
  (F_lex_Scan fu (⟨#[97, 60, 61, 53, 32, 35, 32, 120]⟩ : ByteArray)).bind fun r0 =>
  chk ((bif (r0.2.f0 == (0 : Int)) then (((r0.1.1 : Nat) : Int) == (3 : Int)) else false) = true → (0 ≤ (1 : Int) ∧ (1 : Int) < ((r0.1.1 : Nat) : Int))) <|
  (callIf (bif (bif (r0.2.f0 == (0 : Int)) then (((r0.1.1 : Nat) : Int) == (3 : Int)) else false) then ((r0.1.2 (1 : Int).toNat).f0.toList == (⟨#[60, 61]⟩ : ByteArray).toList) else false) (F_lex_Word fu (⟨#[97, 95, 49]⟩ : ByteArray)) false).bind fun r1 =>
  some (bif (bif (bif (r0.2.f0 == (0 : Int)) then (((r0.1.1 : Nat) : Int) == (3 : Int)) else false) then ((r0.1.2 (1 : Int).toNat).f0.toList == (⟨#[60, 61]⟩ : ByteArray).toList) else false) then r1 else false)

theorem run_law15_answers (fu : Nat) {d : D} {r : Bool} (h : F_law15_answers fu = some r) (hk : K_law15_answers d r) : Runs Tryd.prog Tryd.f8 0 T_law15_answers [] [] d [] := by
  unfold F_law15_answers at h
  obtain ⟨r0, cr0, h⟩ := Option.bind_eq_some_iff.1 h
  obtain ⟨p0, h⟩ := chk_some h
  obtain ⟨r1, cr1, h⟩ := Option.bind_eq_some_iff.1 h
  refine runs_regions 3 [([], []), ([(.d (D.tup (D.cons (D.lit r0.1.1 2 fun i => (D.cons (D.str (r0.1.2 i).f0) (D.cons (D.int .i64 (r0.1.2 i).f1) D.nil))) (D.cons (D.cons (D.int .i64 r0.2.f0) (D.cons (D.int .i64 r0.2.f1) D.nil)) D.nil))))], [1, 2]), ([(.d (D.bool r1))], [0])] (z := ([FC Tryd.prog 9 [(D.str (⟨#[97, 60, 61, 53, 32, 35, 32, 120]⟩ : ByteArray))] [] (D.tup (D.cons (D.lit r0.1.1 2 fun i => (D.cons (D.str (r0.1.2 i).f0) (D.cons (D.int .i64 (r0.1.2 i).f1) D.nil))) (D.cons (D.cons (D.int .i64 r0.2.f0) (D.cons (D.int .i64 r0.2.f1) D.nil)) D.nil))) [], All (List.map NoRow [(D.str (⟨#[97, 60, 61, 53, 32, 35, 32, 120]⟩ : ByteArray))]), ((r0.2.f0 == (0 : Int)) = true → All [((r0.2.f0 == (0 : Int)) = true → (r0.2.f0 == (0 : Int)) = true)]), ((r0.2.f0 == (0 : Int)) = true → All [((r0.2.f0 == (0 : Int)) = true → (r0.2.f0 == (0 : Int)) = true)]), ((true && (r0.2.f0 == (0 : Int))) = true → (r0.2.f0 == (0 : Int)) = true), ((bif (r0.2.f0 == (0 : Int)) then (((r0.1.1 : Nat) : Int) == (3 : Int)) else false) = true → All [((bif (r0.2.f0 == (0 : Int)) then (((r0.1.1 : Nat) : Int) == (3 : Int)) else false) = true → (bif (r0.2.f0 == (0 : Int)) then (((r0.1.1 : Nat) : Int) == (3 : Int)) else false) = true), (0 ≤ (1 : Int) ∧ (1 : Int) < ((r0.1.1 : Nat) : Int))]), ((bif (r0.2.f0 == (0 : Int)) then (((r0.1.1 : Nat) : Int) == (3 : Int)) else false) = true → All [((bif (r0.2.f0 == (0 : Int)) then (((r0.1.1 : Nat) : Int) == (3 : Int)) else false) = true → (bif (r0.2.f0 == (0 : Int)) then (((r0.1.1 : Nat) : Int) == (3 : Int)) else false) = true)]), ((bif (r0.2.f0 == (0 : Int)) then (((r0.1.1 : Nat) : Int) == (3 : Int)) else false) = true → All [((bif (r0.2.f0 == (0 : Int)) then (((r0.1.1 : Nat) : Int) == (3 : Int)) else false) = true → (bif (r0.2.f0 == (0 : Int)) then (((r0.1.1 : Nat) : Int) == (3 : Int)) else false) = true)]), ((bif (r0.2.f0 == (0 : Int)) then (((r0.1.1 : Nat) : Int) == (3 : Int)) else false) = true → All [((bif (r0.2.f0 == (0 : Int)) then (((r0.1.1 : Nat) : Int) == (3 : Int)) else false) = true → (bif (r0.2.f0 == (0 : Int)) then (((r0.1.1 : Nat) : Int) == (3 : Int)) else false) = true)]), ((true && (bif (r0.2.f0 == (0 : Int)) then (((r0.1.1 : Nat) : Int) == (3 : Int)) else false)) = true → (bif (r0.2.f0 == (0 : Int)) then (((r0.1.1 : Nat) : Int) == (3 : Int)) else false) = true), ((bif (bif (r0.2.f0 == (0 : Int)) then (((r0.1.1 : Nat) : Int) == (3 : Int)) else false) then ((r0.1.2 (1 : Int).toNat).f0.toList == (⟨#[60, 61]⟩ : ByteArray).toList) else false) = true → All [FC Tryd.prog 11 [(D.str (⟨#[97, 95, 49]⟩ : ByteArray))] [] (D.bool r1) [], All (List.map NoRow [(D.str (⟨#[97, 95, 49]⟩ : ByteArray))])]), ((true && (bif (bif (r0.2.f0 == (0 : Int)) then (((r0.1.1 : Nat) : Int) == (3 : Int)) else false) then ((r0.1.2 (1 : Int).toNat).f0.toList == (⟨#[60, 61]⟩ : ByteArray).toList) else false)) = true → (bif (bif (r0.2.f0 == (0 : Int)) then (((r0.1.1 : Nat) : Int) == (3 : Int)) else false) then ((r0.1.2 (1 : Int).toNat).f0.toList == (⟨#[60, 61]⟩ : ByteArray).toList) else false) = true)], [(0, (D.bool (bif (bif (bif (r0.2.f0 == (0 : Int)) then (((r0.1.1 : Nat) : Int) == (3 : Int)) else false) then ((r0.1.2 (1 : Int).toNat).f0.toList == (⟨#[60, 61]⟩ : ByteArray).toList) else false) then r1 else false)))], [some (.box (D.cons (D.int .i64 r0.2.f0) (D.cons (D.int .i64 r0.2.f1) D.nil)))])) rfl (by kernel_rfl) (And.intro (fc_lex_Scan fu (⟨#[97, 60, 61, 53, 32, 35, 32, 120]⟩ : ByteArray) cr0) (And.intro (And.intro trivial trivial) (And.intro (fun _ => (And.intro (by first | exact fun h => h | exact fun h => (Bool.and_eq_true_iff.1 h).1 | simp_all) trivial)) (And.intro (fun _ => (And.intro (by first | exact fun h => h | exact fun h => (Bool.and_eq_true_iff.1 h).1 | simp_all) trivial)) (And.intro (by first | exact fun h => h | exact fun h => (Bool.and_eq_true_iff.1 h).1 | simp_all) (And.intro (fun hg => (And.intro (by first | exact fun h => h | exact fun h => (Bool.and_eq_true_iff.1 h).1 | simp_all) (And.intro (p0 hg) trivial))) (And.intro (fun _ => (And.intro (by first | exact fun h => h | exact fun h => (Bool.and_eq_true_iff.1 h).1 | simp_all) trivial)) (And.intro (fun _ => (And.intro (by first | exact fun h => h | exact fun h => (Bool.and_eq_true_iff.1 h).1 | simp_all) trivial)) (And.intro (fun _ => (And.intro (by first | exact fun h => h | exact fun h => (Bool.and_eq_true_iff.1 h).1 | simp_all) trivial)) (And.intro (by first | exact fun h => h | exact fun h => (Bool.and_eq_true_iff.1 h).1 | simp_all) (And.intro (fun hg => (And.intro (fc_lex_Word fu (⟨#[97, 95, 49]⟩ : ByteArray) (callIf_some cr1 hg)) (And.intro (And.intro trivial trivial) trivial))) (And.intro (by first | exact fun h => h | exact fun h => (Bool.and_eq_true_iff.1 h).1 | simp_all) trivial)))))))))))) ?_
  rw [← Option.some.inj h] at hk
  obtain rfl : d = (D.bool (bif (bif (bif (r0.2.f0 == (0 : Int)) then (((r0.1.1 : Nat) : Int) == (3 : Int)) else false) then ((r0.1.2 (1 : Int).toNat).f0.toList == (⟨#[60, 61]⟩ : ByteArray).toList) else false) then r1 else false)) := hk
  exact runs_ret (by kernel_rfl) trivial (Nat.le_refl 0) trivial trivial

theorem fc_law15_answers (fu : Nat) {r : Bool} (h : F_law15_answers fu = some r) : FC Tryd.prog 8 [] [] (D.bool r) [] := by
  refine fc_of_runs (fn := Tryd.f8) (c := Tryd.f8.body.getD .skip) (by kernel_rfl) (by kernel_rfl) ?_
  refine runs_to (ts := []) (T' := T_law15_answers) (env' := []) (h2 := []) (by kernel_rfl) (by kernel_rfl) trivial (Nat.le_refl 0) trivial trivial ?_
  exact run_law15_answers fu h rfl

def K_ref15_letter (d : D) (r : Bool) : Prop := d = (D.bool r)

noncomputable def T_ref15_letter : List Item := norm 200 [.code (Tryd.f17.body.getD .skip)]

/-- podesta/podestaref15.letter -/
def F_ref15_letter (t0 : Int) : Option Bool :=
  some (bif (bif (bif (decide (t0 ≥ (97 : Int))) then (decide (t0 ≤ (122 : Int))) else false) then true else (bif (decide (t0 ≥ (65 : Int))) then (decide (t0 ≤ (90 : Int))) else false)) then true else (t0 == (95 : Int)))

theorem run_ref15_letter (t0 : Int) {d : D} {r : Bool} (h : F_ref15_letter t0 = some r) (hk : K_ref15_letter d r) : Runs Tryd.prog Tryd.f17 0 T_ref15_letter [(0, (D.int .u8 t0))] [] d [] := by
  unfold F_ref15_letter at h
  refine runs_regions 2 [([], [0]), ([], [2])] (z := ([((decide (t0 ≥ (97 : Int))) = true → All [((decide (t0 ≥ (97 : Int))) = true → (decide (t0 ≥ (97 : Int))) = true)]), ((true && (decide (t0 ≥ (97 : Int)))) = true → (decide (t0 ≥ (97 : Int))) = true), ((!(bif (decide (t0 ≥ (97 : Int))) then (decide (t0 ≤ (122 : Int))) else false)) = true → All [((!(bif (decide (t0 ≥ (97 : Int))) then (decide (t0 ≤ (122 : Int))) else false)) = true → (!(bif (decide (t0 ≥ (97 : Int))) then (decide (t0 ≤ (122 : Int))) else false)) = true)]), ((!(bif (decide (t0 ≥ (97 : Int))) then (decide (t0 ≤ (122 : Int))) else false)) = true → All [((!(bif (decide (t0 ≥ (97 : Int))) then (decide (t0 ≤ (122 : Int))) else false)) = true → (!(bif (decide (t0 ≥ (97 : Int))) then (decide (t0 ≤ (122 : Int))) else false)) = true)]), (((!(bif (decide (t0 ≥ (97 : Int))) then (decide (t0 ≤ (122 : Int))) else false)) && (decide (t0 ≥ (65 : Int)))) = true → All [(((!(bif (decide (t0 ≥ (97 : Int))) then (decide (t0 ≤ (122 : Int))) else false)) && (decide (t0 ≥ (65 : Int)))) = true → ((!(bif (decide (t0 ≥ (97 : Int))) then (decide (t0 ≤ (122 : Int))) else false)) && (decide (t0 ≥ (65 : Int)))) = true)]), ((!(bif (decide (t0 ≥ (97 : Int))) then (decide (t0 ≤ (122 : Int))) else false)) = true → All [((!(bif (decide (t0 ≥ (97 : Int))) then (decide (t0 ≤ (122 : Int))) else false)) = true → (!(bif (decide (t0 ≥ (97 : Int))) then (decide (t0 ≤ (122 : Int))) else false)) = true), (((!(bif (decide (t0 ≥ (97 : Int))) then (decide (t0 ≤ (122 : Int))) else false)) && (decide (t0 ≥ (65 : Int)))) = true → ((!(bif (decide (t0 ≥ (97 : Int))) then (decide (t0 ≤ (122 : Int))) else false)) && (decide (t0 ≥ (65 : Int)))) = true)]), ((true && !(bif (decide (t0 ≥ (97 : Int))) then (decide (t0 ≤ (122 : Int))) else false)) = true → (!(bif (decide (t0 ≥ (97 : Int))) then (decide (t0 ≤ (122 : Int))) else false)) = true), ((!(bif (bif (decide (t0 ≥ (97 : Int))) then (decide (t0 ≤ (122 : Int))) else false) then true else (bif (decide (t0 ≥ (65 : Int))) then (decide (t0 ≤ (90 : Int))) else false))) = true → All [((!(bif (bif (decide (t0 ≥ (97 : Int))) then (decide (t0 ≤ (122 : Int))) else false) then true else (bif (decide (t0 ≥ (65 : Int))) then (decide (t0 ≤ (90 : Int))) else false))) = true → (!(bif (bif (decide (t0 ≥ (97 : Int))) then (decide (t0 ≤ (122 : Int))) else false) then true else (bif (decide (t0 ≥ (65 : Int))) then (decide (t0 ≤ (90 : Int))) else false))) = true)]), ((true && !(bif (bif (decide (t0 ≥ (97 : Int))) then (decide (t0 ≤ (122 : Int))) else false) then true else (bif (decide (t0 ≥ (65 : Int))) then (decide (t0 ≤ (90 : Int))) else false))) = true → (!(bif (bif (decide (t0 ≥ (97 : Int))) then (decide (t0 ≤ (122 : Int))) else false) then true else (bif (decide (t0 ≥ (65 : Int))) then (decide (t0 ≤ (90 : Int))) else false))) = true)], [(2, (D.bool (bif (bif (bif (decide (t0 ≥ (97 : Int))) then (decide (t0 ≤ (122 : Int))) else false) then true else (bif (decide (t0 ≥ (65 : Int))) then (decide (t0 ≤ (90 : Int))) else false)) then true else (t0 == (95 : Int)))))], [])) rfl (by kernel_rfl) (And.intro (fun _ => (And.intro (by first | exact fun h => h | exact fun h => (Bool.and_eq_true_iff.1 h).1 | simp_all) trivial)) (And.intro (by first | exact fun h => h | exact fun h => (Bool.and_eq_true_iff.1 h).1 | simp_all) (And.intro (fun _ => (And.intro (by first | exact fun h => h | exact fun h => (Bool.and_eq_true_iff.1 h).1 | simp_all) trivial)) (And.intro (fun _ => (And.intro (by first | exact fun h => h | exact fun h => (Bool.and_eq_true_iff.1 h).1 | simp_all) trivial)) (And.intro (fun _ => (And.intro (by first | exact fun h => h | exact fun h => (Bool.and_eq_true_iff.1 h).1 | simp_all) trivial)) (And.intro (fun _ => (And.intro (by first | exact fun h => h | exact fun h => (Bool.and_eq_true_iff.1 h).1 | simp_all) (And.intro (by first | exact fun h => h | exact fun h => (Bool.and_eq_true_iff.1 h).1 | simp_all) trivial))) (And.intro (by first | exact fun h => h | exact fun h => (Bool.and_eq_true_iff.1 h).1 | simp_all) (And.intro (fun _ => (And.intro (by first | exact fun h => h | exact fun h => (Bool.and_eq_true_iff.1 h).1 | simp_all) trivial)) (And.intro (by first | exact fun h => h | exact fun h => (Bool.and_eq_true_iff.1 h).1 | simp_all) trivial))))))))) ?_
  rw [← Option.some.inj h] at hk
  obtain rfl : d = (D.bool (bif (bif (bif (decide (t0 ≥ (97 : Int))) then (decide (t0 ≤ (122 : Int))) else false) then true else (bif (decide (t0 ≥ (65 : Int))) then (decide (t0 ≤ (90 : Int))) else false)) then true else (t0 == (95 : Int)))) := hk
  exact runs_ret (by kernel_rfl) trivial (Nat.le_refl 0) trivial trivial

theorem fc_ref15_letter (t0 : Int) {r : Bool} (h : F_ref15_letter t0 = some r) : FC Tryd.prog 17 [(D.int .u8 t0)] [] (D.bool r) [] := by
  refine fc_of_runs (fn := Tryd.f17) (c := Tryd.f17.body.getD .skip) (by kernel_rfl) (by kernel_rfl) ?_
  refine runs_to (ts := [0]) (T' := T_ref15_letter) (env' := [(0, (D.int .u8 t0))]) (h2 := []) (by kernel_rfl) (by kernel_rfl) trivial (Nat.le_refl 0) trivial (And.intro trivial trivial) ?_
  exact run_ref15_letter t0 h rfl

def K_ref15_digit (d : D) (r : Bool) : Prop := d = (D.bool r)

noncomputable def T_ref15_digit : List Item := norm 200 [.code (Tryd.f18.body.getD .skip)]

/-- podesta/podestaref15.digit -/
def F_ref15_digit (t0 : Int) : Option Bool :=
  some (bif (decide (t0 ≥ (48 : Int))) then (decide (t0 ≤ (57 : Int))) else false)

theorem run_ref15_digit (t0 : Int) {d : D} {r : Bool} (h : F_ref15_digit t0 = some r) (hk : K_ref15_digit d r) : Runs Tryd.prog Tryd.f18 0 T_ref15_digit [(0, (D.int .u8 t0))] [] d [] := by
  unfold F_ref15_digit at h
  refine runs_regions 2 [([], [0]), ([], [2])] (z := ([((decide (t0 ≥ (48 : Int))) = true → All [((decide (t0 ≥ (48 : Int))) = true → (decide (t0 ≥ (48 : Int))) = true)]), ((true && (decide (t0 ≥ (48 : Int)))) = true → (decide (t0 ≥ (48 : Int))) = true)], [(2, (D.bool (bif (decide (t0 ≥ (48 : Int))) then (decide (t0 ≤ (57 : Int))) else false)))], [])) rfl (by kernel_rfl) (And.intro (fun _ => (And.intro (by first | exact fun h => h | exact fun h => (Bool.and_eq_true_iff.1 h).1 | simp_all) trivial)) (And.intro (by first | exact fun h => h | exact fun h => (Bool.and_eq_true_iff.1 h).1 | simp_all) trivial)) ?_
  rw [← Option.some.inj h] at hk
  obtain rfl : d = (D.bool (bif (decide (t0 ≥ (48 : Int))) then (decide (t0 ≤ (57 : Int))) else false)) := hk
  exact runs_ret (by kernel_rfl) trivial (Nat.le_refl 0) trivial trivial

theorem fc_ref15_digit (t0 : Int) {r : Bool} (h : F_ref15_digit t0 = some r) : FC Tryd.prog 18 [(D.int .u8 t0)] [] (D.bool r) [] := by
  refine fc_of_runs (fn := Tryd.f18) (c := Tryd.f18.body.getD .skip) (by kernel_rfl) (by kernel_rfl) ?_
  refine runs_to (ts := [0]) (T' := T_ref15_digit) (env' := [(0, (D.int .u8 t0))]) (h2 := []) (by kernel_rfl) (by kernel_rfl) trivial (Nat.le_refl 0) trivial (And.intro trivial trivial) ?_
  exact run_ref15_digit t0 h rfl

def K_ref15_Word (d : D) (r : Bool) : Prop := d = (D.bool r)

noncomputable def T_ref15_Word : List Item := norm 200 [.code (Tryd.f12.body.getD .skip)]

noncomputable def T_ref15_Word_L1 : List Item := norm 200 (nxt (nxt T_ref15_Word))

noncomputable def X_ref15_Word_L1T : List Item := norm 200 (cndF (nxt (nxt (nxt T_ref15_Word))))

abbrev E_ref15_Word_L1 := Unit

def N_ref15_Word_L1 (_fu : Nat) (t0 : ByteArray) (d : D) (s : Int) : Prop := Runs Tryd.prog Tryd.f12 0 T_ref15_Word_L1 [(0, (D.str t0)), (3, (D.int .i64 s))] [] d []

def X_ref15_Word_L1 (_fu : Nat) (t0 : ByteArray) (d : D) : E_ref15_Word_L1 ⊕ Bool → Prop
  | .inl _ => Runs Tryd.prog Tryd.f12 0 X_ref15_Word_L1T [(0, (D.str t0))] [] d []
  | .inr o => (K_ref15_Word d) o

def F_ref15_Word_L1 (_fu : Nat) (t0 : ByteArray) (t3 : Int) : Option (Lo Int E_ref15_Word_L1 Bool) :=
  ifs (decide (t3 < (t0.size : Int))) (
    chk (0 ≤ t3 ∧ t3 < (t0.size : Int)) <|
    (F_ref15_letter (((t0[t3.toNat]?).getD 0).toNat : Int)).bind fun r0 =>
    chk (((!r0) && (!(t3 == (0 : Int)))) = true → (0 ≤ t3 ∧ t3 < (t0.size : Int))) <|
    (callIf ((!r0) && (!(t3 == (0 : Int)))) (F_ref15_digit (((t0[t3.toNat]?).getD 0).toNat : Int)) false).bind fun r1 =>
    ifs (bif (!r0) then (bif (t3 == (0 : Int)) then true else (!r1)) else false) (
      some (.ret false)) (
      some (.next (IntKind.wrap .i64 (t3 + (1 : Int)))))) (
    some (.exit ()))

theorem run_ref15_Word_L1 (fu : Nat) (t0 : ByteArray) (t3 : Int) {d : D} {o : (Lo Int E_ref15_Word_L1 Bool)} (h : F_ref15_Word_L1 fu t0 t3 = some o) (hk : (Lo.post (N_ref15_Word_L1 fu t0 d) (X_ref15_Word_L1 fu t0 d)) o) : Runs Tryd.prog Tryd.f12 0 T_ref15_Word_L1 [(0, (D.str t0)), (3, (D.int .i64 t3))] [] d [] := by
  unfold F_ref15_Word_L1 at h
  refine runs_regions 1 [([], [0, 3, 7])] (z := ([], [(0, (D.str t0)), (3, (D.int .i64 t3)), (7, (D.bool (decide (t3 < (t0.size : Int)))))], [])) rfl (by kernel_rfl) trivial ?_
  refine runs_if (b := (decide (t3 < (t0.size : Int)))) (by kernel_rfl) (fun hb => ?_) (fun hb => ?_)
  · replace h := ifs_true h hb
    obtain ⟨p0, h⟩ := chk_some h
    obtain ⟨r0, cr0, h⟩ := Option.bind_eq_some_iff.1 h
    obtain ⟨p1, h⟩ := chk_some h
    obtain ⟨r1, cr1, h⟩ := Option.bind_eq_some_iff.1 h
    refine runs_regions 1 [([(.d (D.bool r0)), (.d (D.bool r1))], [0, 3, 25])] (z := ([(0 ≤ t3 ∧ t3 < (t0.size : Int)), FC Tryd.prog 17 [(D.int .u8 (((t0[t3.toNat]?).getD 0).toNat : Int))] [] (D.bool r0) [], All (List.map NoRow [(D.int .u8 (((t0[t3.toNat]?).getD 0).toNat : Int))]), ((!r0) = true → All [((!r0) = true → (!r0) = true)]), ((!r0) = true → All [((!r0) = true → (!r0) = true)]), (((!r0) && (!(t3 == (0 : Int)))) = true → All [(((!r0) && (!(t3 == (0 : Int)))) = true → ((!r0) && (!(t3 == (0 : Int)))) = true), (((!r0) && (!(t3 == (0 : Int)))) = true → ((!r0) && (!(t3 == (0 : Int)))) = true), (0 ≤ t3 ∧ t3 < (t0.size : Int))]), (((!r0) && (!(t3 == (0 : Int)))) = true → All [(((!r0) && (!(t3 == (0 : Int)))) = true → ((!r0) && (!(t3 == (0 : Int)))) = true), FC Tryd.prog 18 [(D.int .u8 (((t0[t3.toNat]?).getD 0).toNat : Int))] [] (D.bool r1) [], All (List.map NoRow [(D.int .u8 (((t0[t3.toNat]?).getD 0).toNat : Int))])]), (((!r0) && (!(t3 == (0 : Int)))) = true → All [(((!r0) && (!(t3 == (0 : Int)))) = true → ((!r0) && (!(t3 == (0 : Int)))) = true)]), ((!r0) = true → All [((!r0) = true → (!r0) = true), (((!r0) && !(t3 == (0 : Int))) = true → ((!r0) && (!(t3 == (0 : Int)))) = true)]), ((true && (!r0)) = true → (!r0) = true)], [(0, (D.str t0)), (3, (D.int .i64 t3)), (25, (D.bool (bif (!r0) then (bif (t3 == (0 : Int)) then true else (!r1)) else false)))], [])) rfl (by kernel_rfl) (And.intro p0 (And.intro (fc_ref15_letter (((t0[t3.toNat]?).getD 0).toNat : Int) cr0) (And.intro (And.intro trivial trivial) (And.intro (fun _ => (And.intro (by first | exact fun h => h | exact fun h => (Bool.and_eq_true_iff.1 h).1 | simp_all) trivial)) (And.intro (fun _ => (And.intro (by first | exact fun h => h | exact fun h => (Bool.and_eq_true_iff.1 h).1 | simp_all) trivial)) (And.intro (fun hg => (And.intro (by first | exact fun h => h | exact fun h => (Bool.and_eq_true_iff.1 h).1 | simp_all) (And.intro (by first | exact fun h => h | exact fun h => (Bool.and_eq_true_iff.1 h).1 | simp_all) (And.intro (p1 hg) trivial)))) (And.intro (fun hg => (And.intro (by first | exact fun h => h | exact fun h => (Bool.and_eq_true_iff.1 h).1 | simp_all) (And.intro (fc_ref15_digit (((t0[t3.toNat]?).getD 0).toNat : Int) (callIf_some cr1 hg)) (And.intro (And.intro trivial trivial) trivial)))) (And.intro (fun _ => (And.intro (by first | exact fun h => h | exact fun h => (Bool.and_eq_true_iff.1 h).1 | simp_all) trivial)) (And.intro (fun _ => (And.intro (by first | exact fun h => h | exact fun h => (Bool.and_eq_true_iff.1 h).1 | simp_all) (And.intro (by first | exact fun h => h | exact fun h => (Bool.and_eq_true_iff.1 h).1 | simp_all) trivial))) (And.intro (by first | exact fun h => h | exact fun h => (Bool.and_eq_true_iff.1 h).1 | simp_all) trivial)))))))))) ?_
    refine runs_if (b := (bif (!r0) then (bif (t3 == (0 : Int)) then true else (!r1)) else false)) (by kernel_rfl) (fun hb => ?_) (fun hb => ?_)
    · replace h := ifs_true h hb
      refine runs_regions 1 [([], [2])] (z := ([], [(2, (D.bool false))], [])) rfl (by kernel_rfl) trivial ?_
      rw [← Option.some.inj h] at hk
      obtain rfl : d = (D.bool false) := hk
      exact runs_ret (by kernel_rfl) trivial (Nat.le_refl 0) trivial trivial
    · replace h := ifs_false h hb
      refine runs_regions 1 [([], [0, 3])] (z := ([], [(0, (D.str t0)), (3, (D.int .i64 (IntKind.wrap .i64 (t3 + (1 : Int)))))], [])) rfl (by kernel_rfl) trivial ?_
      rw [← Option.some.inj h] at hk
      refine runs_to (ts := [0, 3]) (T' := T_ref15_Word_L1) (env' := [(0, (D.str t0)), (3, (D.int .i64 (IntKind.wrap .i64 (t3 + (1 : Int)))))]) (h2 := []) (by kernel_rfl) (by kernel_rfl) trivial (Nat.zero_le _) trivial (And.intro trivial (And.intro trivial trivial)) ?_
      exact hk
  · replace h := ifs_false h hb
    rw [← Option.some.inj h] at hk
    refine runs_to (ts := [0]) (T' := X_ref15_Word_L1T) (env' := [(0, (D.str t0))]) (h2 := []) (by kernel_rfl) (by kernel_rfl) trivial (Nat.zero_le _) trivial (And.intro trivial trivial) ?_
    exact hk

theorem iter_ref15_Word_L1 (fu : Nat) (t0 : ByteArray) {d : D} (k : Nat) (s : Int) {o : E_ref15_Word_L1 ⊕ Bool} (h : iter (fun s => F_ref15_Word_L1 fu t0 s) k s = some o) (hx : X_ref15_Word_L1 fu t0 d o) : N_ref15_Word_L1 fu t0 d s :=
  iter_post (K := N_ref15_Word_L1 fu t0 d) (X := X_ref15_Word_L1 fu t0 d) (fun s _ h hk => run_ref15_Word_L1 fu t0 s h hk) k s o h hx

/-- podesta/podestaref15.Word -/
def F_ref15_Word (fu : Nat) (t0 : ByteArray) : Option Bool :=
  after (iter (fun s => F_ref15_Word_L1 fu t0 s) fu (0 : Int)) fun _ =>
  some (bif (decide ((t0.size : Int) ≥ (1 : Int))) then (decide ((t0.size : Int) ≤ (32 : Int))) else false)

theorem run_ref15_Word (fu : Nat) (t0 : ByteArray) {d : D} {r : Bool} (h : F_ref15_Word fu t0 = some r) (hk : K_ref15_Word d r) : Runs Tryd.prog Tryd.f12 0 T_ref15_Word [(0, (D.str t0))] [] d [] := by
  unfold F_ref15_Word at h
  refine runs_regions 2 [([], [0]), ([], [0, 3])] (z := ([], [(0, (D.str t0)), (3, (D.int .i64 (0 : Int)))], [])) rfl (by kernel_rfl) trivial ?_
  refine runs_to (ts := [0, 3]) (T' := T_ref15_Word_L1) (env' := [(0, (D.str t0)), (3, (D.int .i64 (0 : Int)))]) (h2 := []) (by kernel_rfl) (by kernel_rfl) trivial (Nat.zero_le _) trivial (And.intro trivial (And.intro trivial trivial)) ?_
  rcases after_some h with ⟨e3, hi, h⟩ | hi
  · refine iter_ref15_Word_L1 fu t0 fu (0 : Int) hi ?_
    show Runs Tryd.prog Tryd.f12 0 X_ref15_Word_L1T [(0, (D.str t0))] [] d []
    refine runs_regions 1 [([], [2])] (z := ([((decide ((t0.size : Int) ≥ (1 : Int))) = true → All [((decide ((t0.size : Int) ≥ (1 : Int))) = true → (decide ((t0.size : Int) ≥ (1 : Int))) = true)]), ((decide ((t0.size : Int) ≥ (1 : Int))) = true → All [((decide ((t0.size : Int) ≥ (1 : Int))) = true → (decide ((t0.size : Int) ≥ (1 : Int))) = true)]), ((true && (decide ((t0.size : Int) ≥ (1 : Int)))) = true → (decide ((t0.size : Int) ≥ (1 : Int))) = true)], [(2, (D.bool (bif (decide ((t0.size : Int) ≥ (1 : Int))) then (decide ((t0.size : Int) ≤ (32 : Int))) else false)))], [])) rfl (by kernel_rfl) (And.intro (fun _ => (And.intro (by first | exact fun h => h | exact fun h => (Bool.and_eq_true_iff.1 h).1 | simp_all) trivial)) (And.intro (fun _ => (And.intro (by first | exact fun h => h | exact fun h => (Bool.and_eq_true_iff.1 h).1 | simp_all) trivial)) (And.intro (by first | exact fun h => h | exact fun h => (Bool.and_eq_true_iff.1 h).1 | simp_all) trivial))) ?_
    rw [← Option.some.inj h] at hk
    obtain rfl : d = (D.bool (bif (decide ((t0.size : Int) ≥ (1 : Int))) then (decide ((t0.size : Int) ≤ (32 : Int))) else false)) := hk
    exact runs_ret (by kernel_rfl) trivial (Nat.le_refl 0) trivial trivial
  · exact iter_ref15_Word_L1 fu t0 fu (0 : Int) hi hk

theorem fc_ref15_Word (fu : Nat) (t0 : ByteArray) {r : Bool} (h : F_ref15_Word fu t0 = some r) : FC Tryd.prog 12 [(D.str t0)] [] (D.bool r) [] := by
  refine fc_of_runs (fn := Tryd.f12) (c := Tryd.f12.body.getD .skip) (by kernel_rfl) (by kernel_rfl) ?_
  refine runs_to (ts := [0]) (T' := T_ref15_Word) (env' := [(0, (D.str t0))]) (h2 := []) (by kernel_rfl) (by kernel_rfl) trivial (Nat.le_refl 0) trivial (And.intro trivial trivial) ?_
  exact run_ref15_Word fu t0 h rfl

def K_ref15_Digits (d : D) (r : Bool) : Prop := d = (D.bool r)

noncomputable def T_ref15_Digits : List Item := norm 200 [.code (Tryd.f14.body.getD .skip)]

noncomputable def T_ref15_Digits_L1 : List Item := norm 200 (nxt (nxt (nxt T_ref15_Digits)))

noncomputable def X_ref15_Digits_L1T : List Item := norm 200 (cndF (nxt (nxt (nxt (nxt T_ref15_Digits)))))

abbrev E_ref15_Digits_L1 := Int

def N_ref15_Digits_L1 (_fu : Nat) (t0 : ByteArray) (d : D) (s : (Int × Int)) : Prop := Runs Tryd.prog Tryd.f14 0 T_ref15_Digits_L1 [(0, (D.str t0)), (3, (D.int .u64 s.1)), (4, (D.int .i64 s.2))] [] d []

def X_ref15_Digits_L1 (_fu : Nat) (t0 : ByteArray) (d : D) : E_ref15_Digits_L1 ⊕ Bool → Prop
  | .inl e => Runs Tryd.prog Tryd.f14 0 X_ref15_Digits_L1T [(0, (D.str t0)), (3, (D.int .u64 e))] [] d []
  | .inr o => (K_ref15_Digits d) o

def F_ref15_Digits_L1 (_fu : Nat) (t0 : ByteArray) (t3 : Int) (t4 : Int) : Option (Lo (Int × Int) E_ref15_Digits_L1 Bool) :=
  ifs (decide (t4 < (t0.size : Int))) (
    chk (0 ≤ t4 ∧ t4 < (t0.size : Int)) <|
    (F_ref15_digit (((t0[t4.toNat]?).getD 0).toNat : Int)).bind fun r0 =>
    ifs (bif (!r0) then true else (decide (t4 ≥ (19 : Int)))) (
      some (.ret false)) (
      chk (0 ≤ t4 ∧ t4 < (t0.size : Int)) <|
      some (.next ((IntKind.wrap .u64 ((IntKind.wrap .u64 (t3 * (10 : Int))) + (IntKind.wrap .u64 (IntKind.wrap .u8 ((((t0[t4.toNat]?).getD 0).toNat : Int) - (48 : Int)))))), (IntKind.wrap .i64 (t4 + (1 : Int))))))) (
    some (.exit t3))

theorem run_ref15_Digits_L1 (fu : Nat) (t0 : ByteArray) (t3 : Int) (t4 : Int) {d : D} {o : (Lo (Int × Int) E_ref15_Digits_L1 Bool)} (h : F_ref15_Digits_L1 fu t0 t3 t4 = some o) (hk : (Lo.post (N_ref15_Digits_L1 fu t0 d) (X_ref15_Digits_L1 fu t0 d)) o) : Runs Tryd.prog Tryd.f14 0 T_ref15_Digits_L1 [(0, (D.str t0)), (3, (D.int .u64 t3)), (4, (D.int .i64 t4))] [] d [] := by
  unfold F_ref15_Digits_L1 at h
  refine runs_regions 1 [([], [0, 3, 4, 8])] (z := ([], [(0, (D.str t0)), (3, (D.int .u64 t3)), (4, (D.int .i64 t4)), (8, (D.bool (decide (t4 < (t0.size : Int)))))], [])) rfl (by kernel_rfl) trivial ?_
  refine runs_if (b := (decide (t4 < (t0.size : Int)))) (by kernel_rfl) (fun hb => ?_) (fun hb => ?_)
  · replace h := ifs_true h hb
    obtain ⟨p0, h⟩ := chk_some h
    obtain ⟨r0, cr0, h⟩ := Option.bind_eq_some_iff.1 h
    refine runs_regions 1 [([(.d (D.bool r0))], [0, 3, 4, 19])] (z := ([(0 ≤ t4 ∧ t4 < (t0.size : Int)), FC Tryd.prog 18 [(D.int .u8 (((t0[t4.toNat]?).getD 0).toNat : Int))] [] (D.bool r0) [], All (List.map NoRow [(D.int .u8 (((t0[t4.toNat]?).getD 0).toNat : Int))]), ((!(!r0)) = true → All [((!(!r0)) = true → (!(!r0)) = true)]), ((true && !(!r0)) = true → (!(!r0)) = true)], [(0, (D.str t0)), (3, (D.int .u64 t3)), (4, (D.int .i64 t4)), (19, (D.bool (bif (!r0) then true else (decide (t4 ≥ (19 : Int))))))], [])) rfl (by kernel_rfl) (And.intro p0 (And.intro (fc_ref15_digit (((t0[t4.toNat]?).getD 0).toNat : Int) cr0) (And.intro (And.intro trivial trivial) (And.intro (fun _ => (And.intro (by first | exact fun h => h | exact fun h => (Bool.and_eq_true_iff.1 h).1 | simp_all) trivial)) (And.intro (by first | exact fun h => h | exact fun h => (Bool.and_eq_true_iff.1 h).1 | simp_all) trivial))))) ?_
    refine runs_if (b := (bif (!r0) then true else (decide (t4 ≥ (19 : Int))))) (by kernel_rfl) (fun hb => ?_) (fun hb => ?_)
    · replace h := ifs_true h hb
      refine runs_regions 1 [([], [2])] (z := ([], [(2, (D.bool false))], [])) rfl (by kernel_rfl) trivial ?_
      rw [← Option.some.inj h] at hk
      obtain rfl : d = (D.bool false) := hk
      exact runs_ret (by kernel_rfl) trivial (Nat.le_refl 0) trivial trivial
    · replace h := ifs_false h hb
      obtain ⟨p1, h⟩ := chk_some h
      refine runs_regions 2 [([], [0, 3, 4]), ([], [0, 3, 4])] (z := ([(0 ≤ t4 ∧ t4 < (t0.size : Int))], [(0, (D.str t0)), (3, (D.int .u64 (IntKind.wrap .u64 ((IntKind.wrap .u64 (t3 * (10 : Int))) + (IntKind.wrap .u64 (IntKind.wrap .u8 ((((t0[t4.toNat]?).getD 0).toNat : Int) - (48 : Int)))))))), (4, (D.int .i64 (IntKind.wrap .i64 (t4 + (1 : Int)))))], [])) rfl (by kernel_rfl) (And.intro p1 trivial) ?_
      rw [← Option.some.inj h] at hk
      refine runs_to (ts := [0, 3, 4]) (T' := T_ref15_Digits_L1) (env' := [(0, (D.str t0)), (3, (D.int .u64 (IntKind.wrap .u64 ((IntKind.wrap .u64 (t3 * (10 : Int))) + (IntKind.wrap .u64 (IntKind.wrap .u8 ((((t0[t4.toNat]?).getD 0).toNat : Int) - (48 : Int)))))))), (4, (D.int .i64 (IntKind.wrap .i64 (t4 + (1 : Int)))))]) (h2 := []) (by kernel_rfl) (by kernel_rfl) trivial (Nat.zero_le _) trivial (And.intro trivial (And.intro trivial (And.intro trivial trivial))) ?_
      exact hk
  · replace h := ifs_false h hb
    rw [← Option.some.inj h] at hk
    refine runs_to (ts := [0, 3]) (T' := X_ref15_Digits_L1T) (env' := [(0, (D.str t0)), (3, (D.int .u64 t3))]) (h2 := []) (by kernel_rfl) (by kernel_rfl) trivial (Nat.zero_le _) trivial (And.intro trivial (And.intro trivial trivial)) ?_
    exact hk

theorem iter_ref15_Digits_L1 (fu : Nat) (t0 : ByteArray) {d : D} (k : Nat) (s : (Int × Int)) {o : E_ref15_Digits_L1 ⊕ Bool} (h : iter (fun s => F_ref15_Digits_L1 fu t0 s.1 s.2) k s = some o) (hx : X_ref15_Digits_L1 fu t0 d o) : N_ref15_Digits_L1 fu t0 d s :=
  iter_post (K := N_ref15_Digits_L1 fu t0 d) (X := X_ref15_Digits_L1 fu t0 d) (fun s _ h hk => run_ref15_Digits_L1 fu t0 s.1 s.2 h hk) k s o h hx

/-- podesta/podestaref15.Digits -/
def F_ref15_Digits (fu : Nat) (t0 : ByteArray) : Option Bool :=
  after (iter (fun s => F_ref15_Digits_L1 fu t0 s.1 s.2) fu ((0 : Int), (0 : Int))) fun e3 =>
  some (bif (decide ((t0.size : Int) ≥ (1 : Int))) then (decide (e3 < (9223372036854775808 : Int))) else false)

theorem run_ref15_Digits (fu : Nat) (t0 : ByteArray) {d : D} {r : Bool} (h : F_ref15_Digits fu t0 = some r) (hk : K_ref15_Digits d r) : Runs Tryd.prog Tryd.f14 0 T_ref15_Digits [(0, (D.str t0))] [] d [] := by
  unfold F_ref15_Digits at h
  refine runs_regions 3 [([], [0]), ([], [0, 3]), ([], [0, 3, 4])] (z := ([], [(0, (D.str t0)), (3, (D.int .u64 (0 : Int))), (4, (D.int .i64 (0 : Int)))], [])) rfl (by kernel_rfl) trivial ?_
  refine runs_to (ts := [0, 3, 4]) (T' := T_ref15_Digits_L1) (env' := [(0, (D.str t0)), (3, (D.int .u64 (0 : Int))), (4, (D.int .i64 (0 : Int)))]) (h2 := []) (by kernel_rfl) (by kernel_rfl) trivial (Nat.zero_le _) trivial (And.intro trivial (And.intro trivial (And.intro trivial trivial))) ?_
  rcases after_some h with ⟨e3, hi, h⟩ | hi
  · refine iter_ref15_Digits_L1 fu t0 fu ((0 : Int), (0 : Int)) hi ?_
    show Runs Tryd.prog Tryd.f14 0 X_ref15_Digits_L1T [(0, (D.str t0)), (3, (D.int .u64 e3))] [] d []
    refine runs_regions 1 [([], [2])] (z := ([((decide ((t0.size : Int) ≥ (1 : Int))) = true → All [((decide ((t0.size : Int) ≥ (1 : Int))) = true → (decide ((t0.size : Int) ≥ (1 : Int))) = true)]), ((true && (decide ((t0.size : Int) ≥ (1 : Int)))) = true → (decide ((t0.size : Int) ≥ (1 : Int))) = true)], [(2, (D.bool (bif (decide ((t0.size : Int) ≥ (1 : Int))) then (decide (e3 < (9223372036854775808 : Int))) else false)))], [])) rfl (by kernel_rfl) (And.intro (fun _ => (And.intro (by first | exact fun h => h | exact fun h => (Bool.and_eq_true_iff.1 h).1 | simp_all) trivial)) (And.intro (by first | exact fun h => h | exact fun h => (Bool.and_eq_true_iff.1 h).1 | simp_all) trivial)) ?_
    rw [← Option.some.inj h] at hk
    obtain rfl : d = (D.bool (bif (decide ((t0.size : Int) ≥ (1 : Int))) then (decide (e3 < (9223372036854775808 : Int))) else false)) := hk
    exact runs_ret (by kernel_rfl) trivial (Nat.le_refl 0) trivial trivial
  · exact iter_ref15_Digits_L1 fu t0 fu ((0 : Int), (0 : Int)) hi hk

theorem fc_ref15_Digits (fu : Nat) (t0 : ByteArray) {r : Bool} (h : F_ref15_Digits fu t0 = some r) : FC Tryd.prog 14 [(D.str t0)] [] (D.bool r) [] := by
  refine fc_of_runs (fn := Tryd.f14) (c := Tryd.f14.body.getD .skip) (by kernel_rfl) (by kernel_rfl) ?_
  refine runs_to (ts := [0]) (T' := T_ref15_Digits) (env' := [(0, (D.str t0))]) (h2 := []) (by kernel_rfl) (by kernel_rfl) trivial (Nat.le_refl 0) trivial (And.intro trivial trivial) ?_
  exact run_ref15_Digits fu t0 h rfl

def K_law15_LexWords (d : D) (r : Bool) : Prop := d = (D.bool r)

noncomputable def T_law15_LexWords : List Item := norm 200 [.code (Tryd.f4.body.getD .skip)]

/-- podesta/podestalaw15.LexWords -/
def F_law15_LexWords (fu : Nat) (t0 : ByteArray) : Option Bool :=
  ifs (decide ((t0.size : Int) > (1000 : Int))) (
    (F_law15_answers fu).bind fun r0 =>
    some r0) (
    (F_law15_answers fu).bind fun r1 =>
    (callIf r1 (F_lex_Word fu t0) false).bind fun r2 =>
    (callIf r1 (F_ref15_Word fu t0) false).bind fun r3 =>
    (callIf (bif r1 then (r2 == r3) else false) (F_lex_Digits fu t0) false).bind fun r4 =>
    (callIf (bif r1 then (r2 == r3) else false) (F_ref15_Digits fu t0) false).bind fun r5 =>
    (callIf (bif (bif r1 then (r2 == r3) else false) then (r4 == r5) else false) (F_lex_Word fu t0) false).bind fun r6 =>
    (callIf ((bif (bif r1 then (r2 == r3) else false) then (r4 == r5) else false) && r6) (F_lex_Digits fu t0) false).bind fun r7 =>
    some (bif (bif (bif r1 then (r2 == r3) else false) then (r4 == r5) else false) then (!(bif r6 then r7 else false)) else false))

theorem run_law15_LexWords (fu : Nat) (t0 : ByteArray) {d : D} {r : Bool} (h : F_law15_LexWords fu t0 = some r) (hk : K_law15_LexWords d r) : Runs Tryd.prog Tryd.f4 0 T_law15_LexWords [(0, (D.str t0))] [] d [] := by
  unfold F_law15_LexWords at h
  refine runs_regions 2 [([], [0]), ([], [0, 5])] (z := ([], [(0, (D.str t0)), (5, (D.bool (decide ((t0.size : Int) > (1000 : Int)))))], [])) rfl (by kernel_rfl) trivial ?_
  refine runs_if (b := (decide ((t0.size : Int) > (1000 : Int)))) (by kernel_rfl) (fun hb => ?_) (fun hb => ?_)
  · replace h := ifs_true h hb
    obtain ⟨r0, cr0, h⟩ := Option.bind_eq_some_iff.1 h
    refine runs_regions 1 [([(.d (D.bool r0))], [2])] (z := ([FC Tryd.prog 8 [] [] (D.bool r0) [], All (List.map NoRow [])], [(2, (D.bool r0))], [])) rfl (by kernel_rfl) (And.intro (fc_law15_answers fu cr0) (And.intro trivial trivial)) ?_
    rw [← Option.some.inj h] at hk
    obtain rfl : d = (D.bool r0) := hk
    exact runs_ret (by kernel_rfl) trivial (Nat.le_refl 0) trivial trivial
  · replace h := ifs_false h hb
    obtain ⟨r1, cr1, h⟩ := Option.bind_eq_some_iff.1 h
    obtain ⟨r2, cr2, h⟩ := Option.bind_eq_some_iff.1 h
    obtain ⟨r3, cr3, h⟩ := Option.bind_eq_some_iff.1 h
    obtain ⟨r4, cr4, h⟩ := Option.bind_eq_some_iff.1 h
    obtain ⟨r5, cr5, h⟩ := Option.bind_eq_some_iff.1 h
    obtain ⟨r6, cr6, h⟩ := Option.bind_eq_some_iff.1 h
    obtain ⟨r7, cr7, h⟩ := Option.bind_eq_some_iff.1 h
    refine runs_regions 1 [([(.d (D.bool r1)), (.d (D.bool r2)), (.d (D.bool r3)), (.d (D.bool r4)), (.d (D.bool r5)), (.d (D.bool r6)), (.d (D.bool r7))], [2])] (z := ([FC Tryd.prog 8 [] [] (D.bool r1) [], All (List.map NoRow []), (r1 = true → All [(r1 = true → r1 = true), FC Tryd.prog 11 [(D.str t0)] [] (D.bool r2) [], All (List.map NoRow [(D.str t0)])]), (r1 = true → All [(r1 = true → r1 = true), FC Tryd.prog 12 [(D.str t0)] [] (D.bool r3) [], All (List.map NoRow [(D.str t0)])]), (r1 = true → All [(r1 = true → r1 = true), (r1 = true → r1 = true)]), ((true && r1) = true → r1 = true), ((bif r1 then (r2 == r3) else false) = true → All [((bif r1 then (r2 == r3) else false) = true → (bif r1 then (r2 == r3) else false) = true), FC Tryd.prog 13 [(D.str t0)] [] (D.bool r4) [], All (List.map NoRow [(D.str t0)])]), ((bif r1 then (r2 == r3) else false) = true → All [((bif r1 then (r2 == r3) else false) = true → (bif r1 then (r2 == r3) else false) = true), FC Tryd.prog 14 [(D.str t0)] [] (D.bool r5) [], All (List.map NoRow [(D.str t0)])]), ((bif r1 then (r2 == r3) else false) = true → All [((bif r1 then (r2 == r3) else false) = true → (bif r1 then (r2 == r3) else false) = true), ((bif r1 then (r2 == r3) else false) = true → (bif r1 then (r2 == r3) else false) = true)]), ((true && (bif r1 then (r2 == r3) else false)) = true → (bif r1 then (r2 == r3) else false) = true), ((bif (bif r1 then (r2 == r3) else false) then (r4 == r5) else false) = true → All [((bif (bif r1 then (r2 == r3) else false) then (r4 == r5) else false) = true → (bif (bif r1 then (r2 == r3) else false) then (r4 == r5) else false) = true), FC Tryd.prog 11 [(D.str t0)] [] (D.bool r6) [], All (List.map NoRow [(D.str t0)])]), ((bif (bif r1 then (r2 == r3) else false) then (r4 == r5) else false) = true → All [((bif (bif r1 then (r2 == r3) else false) then (r4 == r5) else false) = true → (bif (bif r1 then (r2 == r3) else false) then (r4 == r5) else false) = true)]), (((bif (bif r1 then (r2 == r3) else false) then (r4 == r5) else false) && r6) = true → All [(((bif (bif r1 then (r2 == r3) else false) then (r4 == r5) else false) && r6) = true → ((bif (bif r1 then (r2 == r3) else false) then (r4 == r5) else false) && r6) = true), FC Tryd.prog 13 [(D.str t0)] [] (D.bool r7) [], All (List.map NoRow [(D.str t0)])]), ((bif (bif r1 then (r2 == r3) else false) then (r4 == r5) else false) = true → All [((bif (bif r1 then (r2 == r3) else false) then (r4 == r5) else false) = true → (bif (bif r1 then (r2 == r3) else false) then (r4 == r5) else false) = true), (((bif (bif r1 then (r2 == r3) else false) then (r4 == r5) else false) && r6) = true → ((bif (bif r1 then (r2 == r3) else false) then (r4 == r5) else false) && r6) = true)]), ((bif (bif r1 then (r2 == r3) else false) then (r4 == r5) else false) = true → All [((bif (bif r1 then (r2 == r3) else false) then (r4 == r5) else false) = true → (bif (bif r1 then (r2 == r3) else false) then (r4 == r5) else false) = true)]), ((true && (bif (bif r1 then (r2 == r3) else false) then (r4 == r5) else false)) = true → (bif (bif r1 then (r2 == r3) else false) then (r4 == r5) else false) = true)], [(2, (D.bool (bif (bif (bif r1 then (r2 == r3) else false) then (r4 == r5) else false) then (!(bif r6 then r7 else false)) else false)))], [])) rfl (by kernel_rfl) (And.intro (fc_law15_answers fu cr1) (And.intro trivial (And.intro (fun hg => (And.intro (by first | exact fun h => h | exact fun h => (Bool.and_eq_true_iff.1 h).1 | simp_all) (And.intro (fc_lex_Word fu t0 (callIf_some cr2 hg)) (And.intro (And.intro trivial trivial) trivial)))) (And.intro (fun hg => (And.intro (by first | exact fun h => h | exact fun h => (Bool.and_eq_true_iff.1 h).1 | simp_all) (And.intro (fc_ref15_Word fu t0 (callIf_some cr3 hg)) (And.intro (And.intro trivial trivial) trivial)))) (And.intro (fun _ => (And.intro (by first | exact fun h => h | exact fun h => (Bool.and_eq_true_iff.1 h).1 | simp_all) (And.intro (by first | exact fun h => h | exact fun h => (Bool.and_eq_true_iff.1 h).1 | simp_all) trivial))) (And.intro (by first | exact fun h => h | exact fun h => (Bool.and_eq_true_iff.1 h).1 | simp_all) (And.intro (fun hg => (And.intro (by first | exact fun h => h | exact fun h => (Bool.and_eq_true_iff.1 h).1 | simp_all) (And.intro (fc_lex_Digits fu t0 (callIf_some cr4 hg)) (And.intro (And.intro trivial trivial) trivial)))) (And.intro (fun hg => (And.intro (by first | exact fun h => h | exact fun h => (Bool.and_eq_true_iff.1 h).1 | simp_all) (And.intro (fc_ref15_Digits fu t0 (callIf_some cr5 hg)) (And.intro (And.intro trivial trivial) trivial)))) (And.intro (fun _ => (And.intro (by first | exact fun h => h | exact fun h => (Bool.and_eq_true_iff.1 h).1 | simp_all) (And.intro (by first | exact fun h => h | exact fun h => (Bool.and_eq_true_iff.1 h).1 | simp_all) trivial))) (And.intro (by first | exact fun h => h | exact fun h => (Bool.and_eq_true_iff.1 h).1 | simp_all) (And.intro (fun hg => (And.intro (by first | exact fun h => h | exact fun h => (Bool.and_eq_true_iff.1 h).1 | simp_all) (And.intro (fc_lex_Word fu t0 (callIf_some cr6 hg)) (And.intro (And.intro trivial trivial) trivial)))) (And.intro (fun _ => (And.intro (by first | exact fun h => h | exact fun h => (Bool.and_eq_true_iff.1 h).1 | simp_all) trivial)) (And.intro (fun hg => (And.intro (by first | exact fun h => h | exact fun h => (Bool.and_eq_true_iff.1 h).1 | simp_all) (And.intro (fc_lex_Digits fu t0 (callIf_some cr7 hg)) (And.intro (And.intro trivial trivial) trivial)))) (And.intro (fun _ => (And.intro (by first | exact fun h => h | exact fun h => (Bool.and_eq_true_iff.1 h).1 | simp_all) (And.intro (by first | exact fun h => h | exact fun h => (Bool.and_eq_true_iff.1 h).1 | simp_all) trivial))) (And.intro (fun _ => (And.intro (by first | exact fun h => h | exact fun h => (Bool.and_eq_true_iff.1 h).1 | simp_all) trivial)) (And.intro (by first | exact fun h => h | exact fun h => (Bool.and_eq_true_iff.1 h).1 | simp_all) trivial)))))))))))))))) ?_
    rw [← Option.some.inj h] at hk
    obtain rfl : d = (D.bool (bif (bif (bif r1 then (r2 == r3) else false) then (r4 == r5) else false) then (!(bif r6 then r7 else false)) else false)) := hk
    exact runs_ret (by kernel_rfl) trivial (Nat.le_refl 0) trivial trivial

theorem fc_law15_LexWords (fu : Nat) (t0 : ByteArray) {r : Bool} (h : F_law15_LexWords fu t0 = some r) : FC Tryd.prog 4 [(D.str t0)] [] (D.bool r) [] := by
  refine fc_of_runs (fn := Tryd.f4) (c := Tryd.f4.body.getD .skip) (by kernel_rfl) (by kernel_rfl) ?_
  refine runs_to (ts := [0]) (T' := T_law15_LexWords) (env' := [(0, (D.str t0))]) (h2 := []) (by kernel_rfl) (by kernel_rfl) trivial (Nat.le_refl 0) trivial (And.intro trivial trivial) ?_
  exact run_law15_LexWords fu t0 h rfl

def K_ref15_signs (d : D) (r : (Nat × (Nat → ByteArray))) : Prop := d = (D.lit r.1 1 fun i => (D.str (r.2 i)))

noncomputable def T_ref15_signs : List Item := norm 200 [.code (Tryd.f19.body.getD .skip)]

/-- podesta/podestaref15.signs -/
def F_ref15_signs : Option (Nat × (Nat → ByteArray)) :=
  some (23, (fun i => ([(⟨#[124, 124]⟩ : ByteArray), (⟨#[38, 38]⟩ : ByteArray), (⟨#[61, 61]⟩ : ByteArray), (⟨#[33, 61]⟩ : ByteArray), (⟨#[60, 61]⟩ : ByteArray), (⟨#[62, 61]⟩ : ByteArray), (⟨#[60]⟩ : ByteArray), (⟨#[62]⟩ : ByteArray), (⟨#[43]⟩ : ByteArray), (⟨#[45]⟩ : ByteArray), (⟨#[42]⟩ : ByteArray), (⟨#[47]⟩ : ByteArray), (⟨#[37]⟩ : ByteArray), (⟨#[33]⟩ : ByteArray), (⟨#[61]⟩ : ByteArray), (⟨#[40]⟩ : ByteArray), (⟨#[41]⟩ : ByteArray), (⟨#[123]⟩ : ByteArray), (⟨#[125]⟩ : ByteArray), (⟨#[91]⟩ : ByteArray), (⟨#[93]⟩ : ByteArray), (⟨#[44]⟩ : ByteArray), (⟨#[59]⟩ : ByteArray)] : List ByteArray).getD i (⟨#[]⟩ : ByteArray)))

theorem run_ref15_signs {d : D} {r : (Nat × (Nat → ByteArray))} (h : F_ref15_signs = some r) (hk : K_ref15_signs d r) : Runs Tryd.prog Tryd.f19 0 T_ref15_signs [] [] d [] := by
  unfold F_ref15_signs at h
  refine runs_regions 2 [([], []), ([(.lit fun i => (D.str ((fun i => ([(⟨#[124, 124]⟩ : ByteArray), (⟨#[38, 38]⟩ : ByteArray), (⟨#[61, 61]⟩ : ByteArray), (⟨#[33, 61]⟩ : ByteArray), (⟨#[60, 61]⟩ : ByteArray), (⟨#[62, 61]⟩ : ByteArray), (⟨#[60]⟩ : ByteArray), (⟨#[62]⟩ : ByteArray), (⟨#[43]⟩ : ByteArray), (⟨#[45]⟩ : ByteArray), (⟨#[42]⟩ : ByteArray), (⟨#[47]⟩ : ByteArray), (⟨#[37]⟩ : ByteArray), (⟨#[33]⟩ : ByteArray), (⟨#[61]⟩ : ByteArray), (⟨#[40]⟩ : ByteArray), (⟨#[41]⟩ : ByteArray), (⟨#[123]⟩ : ByteArray), (⟨#[125]⟩ : ByteArray), (⟨#[91]⟩ : ByteArray), (⟨#[93]⟩ : ByteArray), (⟨#[44]⟩ : ByteArray), (⟨#[59]⟩ : ByteArray)] : List ByteArray).getD i (⟨#[]⟩ : ByteArray)) i)))], [0])] (z := ([TabOk [(D.str (⟨#[124, 124]⟩ : ByteArray)), (D.str (⟨#[38, 38]⟩ : ByteArray)), (D.str (⟨#[61, 61]⟩ : ByteArray)), (D.str (⟨#[33, 61]⟩ : ByteArray)), (D.str (⟨#[60, 61]⟩ : ByteArray)), (D.str (⟨#[62, 61]⟩ : ByteArray)), (D.str (⟨#[60]⟩ : ByteArray)), (D.str (⟨#[62]⟩ : ByteArray)), (D.str (⟨#[43]⟩ : ByteArray)), (D.str (⟨#[45]⟩ : ByteArray)), (D.str (⟨#[42]⟩ : ByteArray)), (D.str (⟨#[47]⟩ : ByteArray)), (D.str (⟨#[37]⟩ : ByteArray)), (D.str (⟨#[33]⟩ : ByteArray)), (D.str (⟨#[61]⟩ : ByteArray)), (D.str (⟨#[40]⟩ : ByteArray)), (D.str (⟨#[41]⟩ : ByteArray)), (D.str (⟨#[123]⟩ : ByteArray)), (D.str (⟨#[125]⟩ : ByteArray)), (D.str (⟨#[91]⟩ : ByteArray)), (D.str (⟨#[93]⟩ : ByteArray)), (D.str (⟨#[44]⟩ : ByteArray)), (D.str (⟨#[59]⟩ : ByteArray))] 1 (D.arr 23 1 fun i => (D.str ((fun i => ([(⟨#[124, 124]⟩ : ByteArray), (⟨#[38, 38]⟩ : ByteArray), (⟨#[61, 61]⟩ : ByteArray), (⟨#[33, 61]⟩ : ByteArray), (⟨#[60, 61]⟩ : ByteArray), (⟨#[62, 61]⟩ : ByteArray), (⟨#[60]⟩ : ByteArray), (⟨#[62]⟩ : ByteArray), (⟨#[43]⟩ : ByteArray), (⟨#[45]⟩ : ByteArray), (⟨#[42]⟩ : ByteArray), (⟨#[47]⟩ : ByteArray), (⟨#[37]⟩ : ByteArray), (⟨#[33]⟩ : ByteArray), (⟨#[61]⟩ : ByteArray), (⟨#[40]⟩ : ByteArray), (⟨#[41]⟩ : ByteArray), (⟨#[123]⟩ : ByteArray), (⟨#[125]⟩ : ByteArray), (⟨#[91]⟩ : ByteArray), (⟨#[93]⟩ : ByteArray), (⟨#[44]⟩ : ByteArray), (⟨#[59]⟩ : ByteArray)] : List ByteArray).getD i (⟨#[]⟩ : ByteArray)) i)))], [(0, (D.lit 23 1 fun i => (D.str ((fun i => ([(⟨#[124, 124]⟩ : ByteArray), (⟨#[38, 38]⟩ : ByteArray), (⟨#[61, 61]⟩ : ByteArray), (⟨#[33, 61]⟩ : ByteArray), (⟨#[60, 61]⟩ : ByteArray), (⟨#[62, 61]⟩ : ByteArray), (⟨#[60]⟩ : ByteArray), (⟨#[62]⟩ : ByteArray), (⟨#[43]⟩ : ByteArray), (⟨#[45]⟩ : ByteArray), (⟨#[42]⟩ : ByteArray), (⟨#[47]⟩ : ByteArray), (⟨#[37]⟩ : ByteArray), (⟨#[33]⟩ : ByteArray), (⟨#[61]⟩ : ByteArray), (⟨#[40]⟩ : ByteArray), (⟨#[41]⟩ : ByteArray), (⟨#[123]⟩ : ByteArray), (⟨#[125]⟩ : ByteArray), (⟨#[91]⟩ : ByteArray), (⟨#[93]⟩ : ByteArray), (⟨#[44]⟩ : ByteArray), (⟨#[59]⟩ : ByteArray)] : List ByteArray).getD i (⟨#[]⟩ : ByteArray)) i))))], [])) rfl (by kernel_rfl) (And.intro (tabOk_arr rfl (And.intro rfl (And.intro rfl (And.intro rfl (And.intro rfl (And.intro rfl (And.intro rfl (And.intro rfl (And.intro rfl (And.intro rfl (And.intro rfl (And.intro rfl (And.intro rfl (And.intro rfl (And.intro rfl (And.intro rfl (And.intro rfl (And.intro rfl (And.intro rfl (And.intro rfl (And.intro rfl (And.intro rfl (And.intro rfl (And.intro rfl trivial)))))))))))))))))))))))) trivial) ?_
  rw [← Option.some.inj h] at hk
  obtain rfl : d = (D.lit 23 1 fun i => (D.str ((fun i => ([(⟨#[124, 124]⟩ : ByteArray), (⟨#[38, 38]⟩ : ByteArray), (⟨#[61, 61]⟩ : ByteArray), (⟨#[33, 61]⟩ : ByteArray), (⟨#[60, 61]⟩ : ByteArray), (⟨#[62, 61]⟩ : ByteArray), (⟨#[60]⟩ : ByteArray), (⟨#[62]⟩ : ByteArray), (⟨#[43]⟩ : ByteArray), (⟨#[45]⟩ : ByteArray), (⟨#[42]⟩ : ByteArray), (⟨#[47]⟩ : ByteArray), (⟨#[37]⟩ : ByteArray), (⟨#[33]⟩ : ByteArray), (⟨#[61]⟩ : ByteArray), (⟨#[40]⟩ : ByteArray), (⟨#[41]⟩ : ByteArray), (⟨#[123]⟩ : ByteArray), (⟨#[125]⟩ : ByteArray), (⟨#[91]⟩ : ByteArray), (⟨#[93]⟩ : ByteArray), (⟨#[44]⟩ : ByteArray), (⟨#[59]⟩ : ByteArray)] : List ByteArray).getD i (⟨#[]⟩ : ByteArray)) i))) := hk
  exact runs_ret (by kernel_rfl) trivial (Nat.le_refl 0) trivial (fun _ _ => trivial)

theorem fc_ref15_signs {r : (Nat × (Nat → ByteArray))} (h : F_ref15_signs = some r) : FC Tryd.prog 19 [] [] (D.lit r.1 1 fun i => (D.str (r.2 i))) [] := by
  refine fc_of_runs (fn := Tryd.f19) (c := Tryd.f19.body.getD .skip) (by kernel_rfl) (by kernel_rfl) ?_
  refine runs_to (ts := []) (T' := T_ref15_signs) (env' := []) (h2 := []) (by kernel_rfl) (by kernel_rfl) trivial (Nat.le_refl 0) trivial trivial ?_
  exact run_ref15_signs h rfl

def K_ref15_Scan (d : D) (r : ((Nat × (Nat → S_api_Token)) × S_api_Fault)) : Prop := d = (D.tup (D.cons (D.lit r.1.1 2 fun i => (D.cons (D.str (r.1.2 i).f0) (D.cons (D.int .i64 (r.1.2 i).f1) D.nil))) (D.cons (D.cons (D.int .i64 r.2.f0) (D.cons (D.int .i64 r.2.f1) D.nil)) D.nil)))

noncomputable def T_ref15_Scan : List Item := norm 200 [.code (Tryd.f10.body.getD .skip)]

noncomputable def T_ref15_Scan_L2 : List Item := norm 200 (cndT (nxt (cndF (nxt (nxt (cndT (nxt (nxt (nxt (cndF (nxt (nxt T_ref15_Scan))))))))))))

noncomputable def X_ref15_Scan_L2T : List Item := norm 200 (nxt (nxt (cndF (nxt (nxt T_ref15_Scan)))))

noncomputable def T_ref15_Scan_L3 : List Item := norm 200 (cndT (nxt (nxt (cndF (nxt (cndF (nxt (nxt (cndT (nxt (nxt (nxt (cndF (nxt (nxt T_ref15_Scan)))))))))))))))

noncomputable def X_ref15_Scan_L3T : List Item := norm 200 (cndF (nxt (cndT (nxt (nxt (cndF (nxt (cndF (nxt (nxt (cndT (nxt (nxt (nxt (cndF (nxt (nxt T_ref15_Scan)))))))))))))))))

noncomputable def T_ref15_Scan_L4 : List Item := norm 200 (nxt (nxt (cndF (nxt (nxt (cndF (nxt (cndF (nxt (nxt (cndT (nxt (nxt (nxt (cndF (nxt (nxt T_ref15_Scan)))))))))))))))))

noncomputable def X_ref15_Scan_L4T : List Item := norm 200 (cndF (nxt (nxt (nxt (cndF (nxt (nxt (cndF (nxt (cndF (nxt (nxt (cndT (nxt (nxt (nxt (cndF (nxt (nxt T_ref15_Scan)))))))))))))))))))

noncomputable def T_ref15_Scan_J1 : List Item := norm 200 (cndF (nxt (nxt (cndF (nxt (cndF (nxt (nxt (cndT (nxt (nxt (nxt (cndF (nxt (nxt T_ref15_Scan)))))))))))))))

noncomputable def T_ref15_Scan_L1 : List Item := norm 200 (nxt (nxt (cndF (nxt (nxt T_ref15_Scan)))))

noncomputable def X_ref15_Scan_L1T : List Item := norm 200 (cndF (nxt (nxt (nxt (cndF (nxt (nxt T_ref15_Scan)))))))

abbrev E_ref15_Scan_L1 := (Nat × (Nat → S_api_Token))

def N_ref15_Scan_L1 (_fu : Nat) (t0 : ByteArray) (m0 : S_api_Fault) (d : D) (s : (Int × (Nat × (Nat → S_api_Token)))) : Prop := Runs Tryd.prog Tryd.f10 0 T_ref15_Scan_L1 [(0, (D.str t0)), (3, (D.ptr 0 [])), (4, (D.own 1)), (5, (D.int .i64 s.1))] [some (.box (D.cons (D.int .i64 m0.f0) (D.cons (D.int .i64 m0.f1) D.nil))), some (.seq 30 s.2.1 2 (D.arr s.2.1 2 fun i => (D.cons (D.str (s.2.2 i).f0) (D.cons (D.int .i64 (s.2.2 i).f1) D.nil))))] d []

def X_ref15_Scan_L1 (_fu : Nat) (_t0 : ByteArray) (m0 : S_api_Fault) (d : D) : E_ref15_Scan_L1 ⊕ ((Nat × (Nat → S_api_Token)) × S_api_Fault) → Prop
  | .inl e => Runs Tryd.prog Tryd.f10 0 X_ref15_Scan_L1T [(3, (D.ptr 0 [])), (4, (D.own 1))] [some (.box (D.cons (D.int .i64 m0.f0) (D.cons (D.int .i64 m0.f1) D.nil))), some (.seq 30 e.1 2 (D.arr e.1 2 fun i => (D.cons (D.str (e.2 i).f0) (D.cons (D.int .i64 (e.2 i).f1) D.nil))))] d []
  | .inr o => (K_ref15_Scan d) o

abbrev E_ref15_Scan_L2 := Int

def N_ref15_Scan_L2 (_fu : Nat) (t0 : ByteArray) (m0 : S_api_Fault) (m1 : (Nat × (Nat → S_api_Token))) (d : D) (s : Int) : Prop := Runs Tryd.prog Tryd.f10 0 T_ref15_Scan_L2 [(0, (D.str t0)), (3, (D.ptr 0 [])), (4, (D.own 1)), (5, (D.int .i64 s))] [some (.box (D.cons (D.int .i64 m0.f0) (D.cons (D.int .i64 m0.f1) D.nil))), some (.seq 30 m1.1 2 (D.arr m1.1 2 fun i => (D.cons (D.str (m1.2 i).f0) (D.cons (D.int .i64 (m1.2 i).f1) D.nil))))] d []

def X_ref15_Scan_L2 (fu : Nat) (t0 : ByteArray) (m0 : S_api_Fault) (m1 : (Nat × (Nat → S_api_Token))) (d : D) : E_ref15_Scan_L2 ⊕ (Lo (Int × (Nat × (Nat → S_api_Token))) E_ref15_Scan_L1 ((Nat × (Nat → S_api_Token)) × S_api_Fault)) → Prop
  | .inl e => Runs Tryd.prog Tryd.f10 0 X_ref15_Scan_L2T [(0, (D.str t0)), (3, (D.ptr 0 [])), (4, (D.own 1)), (5, (D.int .i64 e))] [some (.box (D.cons (D.int .i64 m0.f0) (D.cons (D.int .i64 m0.f1) D.nil))), some (.seq 30 m1.1 2 (D.arr m1.1 2 fun i => (D.cons (D.str (m1.2 i).f0) (D.cons (D.int .i64 (m1.2 i).f1) D.nil))))] d []
  | .inr o => (Lo.post (N_ref15_Scan_L1 fu t0 m0 d) (X_ref15_Scan_L1 fu t0 m0 d)) o

def F_ref15_Scan_L2 (_fu : Nat) (t0 : ByteArray) (_m0 : S_api_Fault) (_m1 : (Nat × (Nat → S_api_Token))) (t5 : Int) : Option (Lo Int E_ref15_Scan_L2 (Lo (Int × (Nat × (Nat → S_api_Token))) E_ref15_Scan_L1 ((Nat × (Nat → S_api_Token)) × S_api_Fault))) :=
  chk ((decide (t5 < (t0.size : Int))) = true → (0 ≤ t5 ∧ t5 < (t0.size : Int))) <|
  ifs (bif (decide (t5 < (t0.size : Int))) then ((((t0[t5.toNat]?).getD 0).toNat : Int) != (10 : Int)) else false) (
    some (.next (IntKind.wrap .i64 (t5 + (1 : Int))))) (
    some (.exit t5))

theorem run_ref15_Scan_L2 (fu : Nat) (t0 : ByteArray) (m0 : S_api_Fault) (m1 : (Nat × (Nat → S_api_Token))) (t5 : Int) {d : D} {o : (Lo Int E_ref15_Scan_L2 (Lo (Int × (Nat × (Nat → S_api_Token))) E_ref15_Scan_L1 ((Nat × (Nat → S_api_Token)) × S_api_Fault)))} (h : F_ref15_Scan_L2 fu t0 m0 m1 t5 = some o) (hk : (Lo.post (N_ref15_Scan_L2 fu t0 m0 m1 d) (X_ref15_Scan_L2 fu t0 m0 m1 d)) o) : Runs Tryd.prog Tryd.f10 0 T_ref15_Scan_L2 [(0, (D.str t0)), (3, (D.ptr 0 [])), (4, (D.own 1)), (5, (D.int .i64 t5))] [some (.box (D.cons (D.int .i64 m0.f0) (D.cons (D.int .i64 m0.f1) D.nil))), some (.seq 30 m1.1 2 (D.arr m1.1 2 fun i => (D.cons (D.str (m1.2 i).f0) (D.cons (D.int .i64 (m1.2 i).f1) D.nil))))] d [] := by
  unfold F_ref15_Scan_L2 at h
  obtain ⟨p1, h⟩ := chk_some h
  refine runs_regions 1 [([], [0, 3, 4, 5, 49])] (z := ([((decide (t5 < (t0.size : Int))) = true → All [((decide (t5 < (t0.size : Int))) = true → (decide (t5 < (t0.size : Int))) = true), ((decide (t5 < (t0.size : Int))) = true → (decide (t5 < (t0.size : Int))) = true), (0 ≤ t5 ∧ t5 < (t0.size : Int))]), ((decide (t5 < (t0.size : Int))) = true → All [((decide (t5 < (t0.size : Int))) = true → (decide (t5 < (t0.size : Int))) = true)]), ((true && (decide (t5 < (t0.size : Int)))) = true → (decide (t5 < (t0.size : Int))) = true)], [(0, (D.str t0)), (3, (D.ptr 0 [])), (4, (D.own 1)), (5, (D.int .i64 t5)), (49, (D.bool (bif (decide (t5 < (t0.size : Int))) then ((((t0[t5.toNat]?).getD 0).toNat : Int) != (10 : Int)) else false)))], [some (.box (D.cons (D.int .i64 m0.f0) (D.cons (D.int .i64 m0.f1) D.nil))), some (.seq 30 m1.1 2 (D.arr m1.1 2 fun i => (D.cons (D.str (m1.2 i).f0) (D.cons (D.int .i64 (m1.2 i).f1) D.nil))))])) rfl (by kernel_rfl) (And.intro (fun hg => (And.intro (by first | exact fun h => h | exact fun h => (Bool.and_eq_true_iff.1 h).1 | simp_all) (And.intro (by first | exact fun h => h | exact fun h => (Bool.and_eq_true_iff.1 h).1 | simp_all) (And.intro (p1 hg) trivial)))) (And.intro (fun _ => (And.intro (by first | exact fun h => h | exact fun h => (Bool.and_eq_true_iff.1 h).1 | simp_all) trivial)) (And.intro (by first | exact fun h => h | exact fun h => (Bool.and_eq_true_iff.1 h).1 | simp_all) trivial))) ?_
  refine runs_if (b := (bif (decide (t5 < (t0.size : Int))) then ((((t0[t5.toNat]?).getD 0).toNat : Int) != (10 : Int)) else false)) (by kernel_rfl) (fun hb => ?_) (fun hb => ?_)
  · replace h := ifs_true h hb
    refine runs_regions 1 [([], [0, 3, 4, 5])] (z := ([], [(0, (D.str t0)), (3, (D.ptr 0 [])), (4, (D.own 1)), (5, (D.int .i64 (IntKind.wrap .i64 (t5 + (1 : Int)))))], [some (.box (D.cons (D.int .i64 m0.f0) (D.cons (D.int .i64 m0.f1) D.nil))), some (.seq 30 m1.1 2 (D.arr m1.1 2 fun i => (D.cons (D.str (m1.2 i).f0) (D.cons (D.int .i64 (m1.2 i).f1) D.nil))))])) rfl (by kernel_rfl) trivial ?_
    rw [← Option.some.inj h] at hk
    refine runs_to (ts := [0, 3, 4, 5]) (T' := T_ref15_Scan_L2) (env' := [(0, (D.str t0)), (3, (D.ptr 0 [])), (4, (D.own 1)), (5, (D.int .i64 (IntKind.wrap .i64 (t5 + (1 : Int)))))]) (h2 := [some (.box (D.cons (D.int .i64 m0.f0) (D.cons (D.int .i64 m0.f1) D.nil))), some (.seq 30 m1.1 2 (D.arr m1.1 2 fun i => (D.cons (D.str (m1.2 i).f0) (D.cons (D.int .i64 (m1.2 i).f1) D.nil))))]) (by kernel_rfl) (by kernel_rfl) (And.intro (.inr rfl) (And.intro (.inr rfl) trivial)) (Nat.zero_le _) (And.intro (And.intro trivial (And.intro trivial trivial)) (And.intro (fun _ _ => (And.intro trivial (And.intro trivial trivial))) trivial)) (And.intro trivial (And.intro (bel_of rfl) (And.intro (bel_of rfl) (And.intro trivial trivial)))) ?_
    exact hk
  · replace h := ifs_false h hb
    rw [← Option.some.inj h] at hk
    refine runs_to (ts := [0, 3, 4, 5]) (T' := X_ref15_Scan_L2T) (env' := [(0, (D.str t0)), (3, (D.ptr 0 [])), (4, (D.own 1)), (5, (D.int .i64 t5))]) (h2 := [some (.box (D.cons (D.int .i64 m0.f0) (D.cons (D.int .i64 m0.f1) D.nil))), some (.seq 30 m1.1 2 (D.arr m1.1 2 fun i => (D.cons (D.str (m1.2 i).f0) (D.cons (D.int .i64 (m1.2 i).f1) D.nil))))]) (by kernel_rfl) (by kernel_rfl) (And.intro (.inr rfl) (And.intro (.inr rfl) trivial)) (Nat.zero_le _) (And.intro (And.intro trivial (And.intro trivial trivial)) (And.intro (fun _ _ => (And.intro trivial (And.intro trivial trivial))) trivial)) (And.intro trivial (And.intro (bel_of rfl) (And.intro (bel_of rfl) (And.intro trivial trivial)))) ?_
    exact hk

theorem iter_ref15_Scan_L2 (fu : Nat) (t0 : ByteArray) (m0 : S_api_Fault) (m1 : (Nat × (Nat → S_api_Token))) {d : D} (k : Nat) (s : Int) {o : E_ref15_Scan_L2 ⊕ (Lo (Int × (Nat × (Nat → S_api_Token))) E_ref15_Scan_L1 ((Nat × (Nat → S_api_Token)) × S_api_Fault))} (h : iter (fun s => F_ref15_Scan_L2 fu t0 m0 m1 s) k s = some o) (hx : X_ref15_Scan_L2 fu t0 m0 m1 d o) : N_ref15_Scan_L2 fu t0 m0 m1 d s :=
  iter_post (K := N_ref15_Scan_L2 fu t0 m0 m1 d) (X := X_ref15_Scan_L2 fu t0 m0 m1 d) (fun s _ h hk => run_ref15_Scan_L2 fu t0 m0 m1 s h hk) k s o h hx

abbrev E_ref15_Scan_L3 := Int

def N_ref15_Scan_L3 (_fu : Nat) (t0 : ByteArray) (m0 : S_api_Fault) (t5 : Int) (t6 : Int) (m1 : (Nat × (Nat → S_api_Token))) (d : D) (s : Int) : Prop := Runs Tryd.prog Tryd.f10 0 T_ref15_Scan_L3 [(0, (D.str t0)), (3, (D.ptr 0 [])), (4, (D.own 1)), (5, (D.int .i64 t5)), (6, (D.int .u8 t6)), (7, (D.int .i64 s))] [some (.box (D.cons (D.int .i64 m0.f0) (D.cons (D.int .i64 m0.f1) D.nil))), some (.seq 30 m1.1 2 (D.arr m1.1 2 fun i => (D.cons (D.str (m1.2 i).f0) (D.cons (D.int .i64 (m1.2 i).f1) D.nil))))] d []

def X_ref15_Scan_L3 (fu : Nat) (t0 : ByteArray) (m0 : S_api_Fault) (t5 : Int) (_t6 : Int) (m1 : (Nat × (Nat → S_api_Token))) (d : D) : E_ref15_Scan_L3 ⊕ (Lo (Int × (Nat × (Nat → S_api_Token))) E_ref15_Scan_L1 ((Nat × (Nat → S_api_Token)) × S_api_Fault)) → Prop
  | .inl e => Runs Tryd.prog Tryd.f10 0 X_ref15_Scan_L3T [(0, (D.str t0)), (3, (D.ptr 0 [])), (4, (D.own 1)), (5, (D.int .i64 t5)), (7, (D.int .i64 e))] [some (.box (D.cons (D.int .i64 m0.f0) (D.cons (D.int .i64 m0.f1) D.nil))), some (.seq 30 m1.1 2 (D.arr m1.1 2 fun i => (D.cons (D.str (m1.2 i).f0) (D.cons (D.int .i64 (m1.2 i).f1) D.nil))))] d []
  | .inr o => (Lo.post (N_ref15_Scan_L1 fu t0 m0 d) (X_ref15_Scan_L1 fu t0 m0 d)) o

def F_ref15_Scan_L3 (_fu : Nat) (t0 : ByteArray) (_m0 : S_api_Fault) (t5 : Int) (t6 : Int) (_m1 : (Nat × (Nat → S_api_Token))) (t7 : Int) : Option (Lo Int E_ref15_Scan_L3 (Lo (Int × (Nat × (Nat → S_api_Token))) E_ref15_Scan_L1 ((Nat × (Nat → S_api_Token)) × S_api_Fault))) :=
  chk ((decide ((IntKind.wrap .i64 (t5 + t7)) < (t0.size : Int))) = true → (0 ≤ (IntKind.wrap .i64 (t5 + t7)) ∧ (IntKind.wrap .i64 (t5 + t7)) < (t0.size : Int))) <|
  (callIf (decide ((IntKind.wrap .i64 (t5 + t7)) < (t0.size : Int))) (F_ref15_digit (((t0[(IntKind.wrap .i64 (t5 + t7)).toNat]?).getD 0).toNat : Int)) false).bind fun r2 =>
  (callIf ((decide ((IntKind.wrap .i64 (t5 + t7)) < (t0.size : Int))) && (!r2)) (F_ref15_letter t6) false).bind fun r3 =>
  chk ((((decide ((IntKind.wrap .i64 (t5 + t7)) < (t0.size : Int))) && (!r2)) && r3) = true → (0 ≤ (IntKind.wrap .i64 (t5 + t7)) ∧ (IntKind.wrap .i64 (t5 + t7)) < (t0.size : Int))) <|
  (callIf (((decide ((IntKind.wrap .i64 (t5 + t7)) < (t0.size : Int))) && (!r2)) && r3) (F_ref15_letter (((t0[(IntKind.wrap .i64 (t5 + t7)).toNat]?).getD 0).toNat : Int)) false).bind fun r4 =>
  ifs (bif (decide ((IntKind.wrap .i64 (t5 + t7)) < (t0.size : Int))) then (bif r2 then true else (bif r3 then r4 else false)) else false) (
    some (.next (IntKind.wrap .i64 (t7 + (1 : Int))))) (
    some (.exit t7))

theorem run_ref15_Scan_L3 (fu : Nat) (t0 : ByteArray) (m0 : S_api_Fault) (t5 : Int) (t6 : Int) (m1 : (Nat × (Nat → S_api_Token))) (t7 : Int) {d : D} {o : (Lo Int E_ref15_Scan_L3 (Lo (Int × (Nat × (Nat → S_api_Token))) E_ref15_Scan_L1 ((Nat × (Nat → S_api_Token)) × S_api_Fault)))} (h : F_ref15_Scan_L3 fu t0 m0 t5 t6 m1 t7 = some o) (hk : (Lo.post (N_ref15_Scan_L3 fu t0 m0 t5 t6 m1 d) (X_ref15_Scan_L3 fu t0 m0 t5 t6 m1 d)) o) : Runs Tryd.prog Tryd.f10 0 T_ref15_Scan_L3 [(0, (D.str t0)), (3, (D.ptr 0 [])), (4, (D.own 1)), (5, (D.int .i64 t5)), (6, (D.int .u8 t6)), (7, (D.int .i64 t7))] [some (.box (D.cons (D.int .i64 m0.f0) (D.cons (D.int .i64 m0.f1) D.nil))), some (.seq 30 m1.1 2 (D.arr m1.1 2 fun i => (D.cons (D.str (m1.2 i).f0) (D.cons (D.int .i64 (m1.2 i).f1) D.nil))))] d [] := by
  unfold F_ref15_Scan_L3 at h
  obtain ⟨p3, h⟩ := chk_some h
  obtain ⟨r2, cr2, h⟩ := Option.bind_eq_some_iff.1 h
  obtain ⟨r3, cr3, h⟩ := Option.bind_eq_some_iff.1 h
  obtain ⟨p4, h⟩ := chk_some h
  obtain ⟨r4, cr4, h⟩ := Option.bind_eq_some_iff.1 h
  refine runs_regions 1 [([(.d (D.bool r2)), (.d (D.bool r3)), (.d (D.bool r4))], [0, 3, 4, 5, 6, 7, 83])] (z := ([((decide ((IntKind.wrap .i64 (t5 + t7)) < (t0.size : Int))) = true → All [((decide ((IntKind.wrap .i64 (t5 + t7)) < (t0.size : Int))) = true → (decide ((IntKind.wrap .i64 (t5 + t7)) < (t0.size : Int))) = true), ((decide ((IntKind.wrap .i64 (t5 + t7)) < (t0.size : Int))) = true → (decide ((IntKind.wrap .i64 (t5 + t7)) < (t0.size : Int))) = true)]), ((decide ((IntKind.wrap .i64 (t5 + t7)) < (t0.size : Int))) = true → All [((decide ((IntKind.wrap .i64 (t5 + t7)) < (t0.size : Int))) = true → (decide ((IntKind.wrap .i64 (t5 + t7)) < (t0.size : Int))) = true), ((decide ((IntKind.wrap .i64 (t5 + t7)) < (t0.size : Int))) = true → (decide ((IntKind.wrap .i64 (t5 + t7)) < (t0.size : Int))) = true), (0 ≤ (IntKind.wrap .i64 (t5 + t7)) ∧ (IntKind.wrap .i64 (t5 + t7)) < (t0.size : Int))]), ((decide ((IntKind.wrap .i64 (t5 + t7)) < (t0.size : Int))) = true → All [((decide ((IntKind.wrap .i64 (t5 + t7)) < (t0.size : Int))) = true → (decide ((IntKind.wrap .i64 (t5 + t7)) < (t0.size : Int))) = true), FC Tryd.prog 18 [(D.int .u8 (((t0[(IntKind.wrap .i64 (t5 + t7)).toNat]?).getD 0).toNat : Int))] [] (D.bool r2) [], All (List.map NoRow [(D.int .u8 (((t0[(IntKind.wrap .i64 (t5 + t7)).toNat]?).getD 0).toNat : Int))])]), ((decide ((IntKind.wrap .i64 (t5 + t7)) < (t0.size : Int))) = true → All [((decide ((IntKind.wrap .i64 (t5 + t7)) < (t0.size : Int))) = true → (decide ((IntKind.wrap .i64 (t5 + t7)) < (t0.size : Int))) = true)]), (((decide ((IntKind.wrap .i64 (t5 + t7)) < (t0.size : Int))) && (!r2)) = true → All [(((decide ((IntKind.wrap .i64 (t5 + t7)) < (t0.size : Int))) && (!r2)) = true → ((decide ((IntKind.wrap .i64 (t5 + t7)) < (t0.size : Int))) && (!r2)) = true), FC Tryd.prog 17 [(D.int .u8 t6)] [] (D.bool r3) [], All (List.map NoRow [(D.int .u8 t6)])]), (((decide ((IntKind.wrap .i64 (t5 + t7)) < (t0.size : Int))) && (!r2)) = true → All [(((decide ((IntKind.wrap .i64 (t5 + t7)) < (t0.size : Int))) && (!r2)) = true → ((decide ((IntKind.wrap .i64 (t5 + t7)) < (t0.size : Int))) && (!r2)) = true)]), ((((decide ((IntKind.wrap .i64 (t5 + t7)) < (t0.size : Int))) && (!r2)) && r3) = true → All [((((decide ((IntKind.wrap .i64 (t5 + t7)) < (t0.size : Int))) && (!r2)) && r3) = true → (((decide ((IntKind.wrap .i64 (t5 + t7)) < (t0.size : Int))) && (!r2)) && r3) = true), ((((decide ((IntKind.wrap .i64 (t5 + t7)) < (t0.size : Int))) && (!r2)) && r3) = true → (((decide ((IntKind.wrap .i64 (t5 + t7)) < (t0.size : Int))) && (!r2)) && r3) = true)]), ((((decide ((IntKind.wrap .i64 (t5 + t7)) < (t0.size : Int))) && (!r2)) && r3) = true → All [((((decide ((IntKind.wrap .i64 (t5 + t7)) < (t0.size : Int))) && (!r2)) && r3) = true → (((decide ((IntKind.wrap .i64 (t5 + t7)) < (t0.size : Int))) && (!r2)) && r3) = true), ((((decide ((IntKind.wrap .i64 (t5 + t7)) < (t0.size : Int))) && (!r2)) && r3) = true → (((decide ((IntKind.wrap .i64 (t5 + t7)) < (t0.size : Int))) && (!r2)) && r3) = true), (0 ≤ (IntKind.wrap .i64 (t5 + t7)) ∧ (IntKind.wrap .i64 (t5 + t7)) < (t0.size : Int))]), ((((decide ((IntKind.wrap .i64 (t5 + t7)) < (t0.size : Int))) && (!r2)) && r3) = true → All [((((decide ((IntKind.wrap .i64 (t5 + t7)) < (t0.size : Int))) && (!r2)) && r3) = true → (((decide ((IntKind.wrap .i64 (t5 + t7)) < (t0.size : Int))) && (!r2)) && r3) = true), FC Tryd.prog 17 [(D.int .u8 (((t0[(IntKind.wrap .i64 (t5 + t7)).toNat]?).getD 0).toNat : Int))] [] (D.bool r4) [], All (List.map NoRow [(D.int .u8 (((t0[(IntKind.wrap .i64 (t5 + t7)).toNat]?).getD 0).toNat : Int))])]), (((decide ((IntKind.wrap .i64 (t5 + t7)) < (t0.size : Int))) && (!r2)) = true → All [(((decide ((IntKind.wrap .i64 (t5 + t7)) < (t0.size : Int))) && (!r2)) = true → ((decide ((IntKind.wrap .i64 (t5 + t7)) < (t0.size : Int))) && (!r2)) = true), ((((decide ((IntKind.wrap .i64 (t5 + t7)) < (t0.size : Int))) && (!r2)) && r3) = true → (((decide ((IntKind.wrap .i64 (t5 + t7)) < (t0.size : Int))) && (!r2)) && r3) = true)]), ((decide ((IntKind.wrap .i64 (t5 + t7)) < (t0.size : Int))) = true → All [((decide ((IntKind.wrap .i64 (t5 + t7)) < (t0.size : Int))) = true → (decide ((IntKind.wrap .i64 (t5 + t7)) < (t0.size : Int))) = true), (((decide ((IntKind.wrap .i64 (t5 + t7)) < (t0.size : Int))) && !r2) = true → ((decide ((IntKind.wrap .i64 (t5 + t7)) < (t0.size : Int))) && (!r2)) = true)]), ((true && (decide ((IntKind.wrap .i64 (t5 + t7)) < (t0.size : Int)))) = true → (decide ((IntKind.wrap .i64 (t5 + t7)) < (t0.size : Int))) = true)], [(0, (D.str t0)), (3, (D.ptr 0 [])), (4, (D.own 1)), (5, (D.int .i64 t5)), (6, (D.int .u8 t6)), (7, (D.int .i64 t7)), (83, (D.bool (bif (decide ((IntKind.wrap .i64 (t5 + t7)) < (t0.size : Int))) then (bif r2 then true else (bif r3 then r4 else false)) else false)))], [some (.box (D.cons (D.int .i64 m0.f0) (D.cons (D.int .i64 m0.f1) D.nil))), some (.seq 30 m1.1 2 (D.arr m1.1 2 fun i => (D.cons (D.str (m1.2 i).f0) (D.cons (D.int .i64 (m1.2 i).f1) D.nil))))])) rfl (by kernel_rfl) (And.intro (fun _ => (And.intro (by first | exact fun h => h | exact fun h => (Bool.and_eq_true_iff.1 h).1 | simp_all) (And.intro (by first | exact fun h => h | exact fun h => (Bool.and_eq_true_iff.1 h).1 | simp_all) trivial))) (And.intro (fun hg => (And.intro (by first | exact fun h => h | exact fun h => (Bool.and_eq_true_iff.1 h).1 | simp_all) (And.intro (by first | exact fun h => h | exact fun h => (Bool.and_eq_true_iff.1 h).1 | simp_all) (And.intro (p3 hg) trivial)))) (And.intro (fun hg => (And.intro (by first | exact fun h => h | exact fun h => (Bool.and_eq_true_iff.1 h).1 | simp_all) (And.intro (fc_ref15_digit (((t0[(IntKind.wrap .i64 (t5 + t7)).toNat]?).getD 0).toNat : Int) (callIf_some cr2 hg)) (And.intro (And.intro trivial trivial) trivial)))) (And.intro (fun _ => (And.intro (by first | exact fun h => h | exact fun h => (Bool.and_eq_true_iff.1 h).1 | simp_all) trivial)) (And.intro (fun hg => (And.intro (by first | exact fun h => h | exact fun h => (Bool.and_eq_true_iff.1 h).1 | simp_all) (And.intro (fc_ref15_letter t6 (callIf_some cr3 hg)) (And.intro (And.intro trivial trivial) trivial)))) (And.intro (fun _ => (And.intro (by first | exact fun h => h | exact fun h => (Bool.and_eq_true_iff.1 h).1 | simp_all) trivial)) (And.intro (fun _ => (And.intro (by first | exact fun h => h | exact fun h => (Bool.and_eq_true_iff.1 h).1 | simp_all) (And.intro (by first | exact fun h => h | exact fun h => (Bool.and_eq_true_iff.1 h).1 | simp_all) trivial))) (And.intro (fun hg => (And.intro (by first | exact fun h => h | exact fun h => (Bool.and_eq_true_iff.1 h).1 | simp_all) (And.intro (by first | exact fun h => h | exact fun h => (Bool.and_eq_true_iff.1 h).1 | simp_all) (And.intro (p4 hg) trivial)))) (And.intro (fun hg => (And.intro (by first | exact fun h => h | exact fun h => (Bool.and_eq_true_iff.1 h).1 | simp_all) (And.intro (fc_ref15_letter (((t0[(IntKind.wrap .i64 (t5 + t7)).toNat]?).getD 0).toNat : Int) (callIf_some cr4 hg)) (And.intro (And.intro trivial trivial) trivial)))) (And.intro (fun _ => (And.intro (by first | exact fun h => h | exact fun h => (Bool.and_eq_true_iff.1 h).1 | simp_all) (And.intro (by first | exact fun h => h | exact fun h => (Bool.and_eq_true_iff.1 h).1 | simp_all) trivial))) (And.intro (fun _ => (And.intro (by first | exact fun h => h | exact fun h => (Bool.and_eq_true_iff.1 h).1 | simp_all) (And.intro (by first | exact fun h => h | exact fun h => (Bool.and_eq_true_iff.1 h).1 | simp_all) trivial))) (And.intro (by first | exact fun h => h | exact fun h => (Bool.and_eq_true_iff.1 h).1 | simp_all) trivial)))))))))))) ?_
  refine runs_if (b := (bif (decide ((IntKind.wrap .i64 (t5 + t7)) < (t0.size : Int))) then (bif r2 then true else (bif r3 then r4 else false)) else false)) (by kernel_rfl) (fun hb => ?_) (fun hb => ?_)
  · replace h := ifs_true h hb
    refine runs_regions 1 [([], [0, 3, 4, 5, 6, 7])] (z := ([], [(0, (D.str t0)), (3, (D.ptr 0 [])), (4, (D.own 1)), (5, (D.int .i64 t5)), (6, (D.int .u8 t6)), (7, (D.int .i64 (IntKind.wrap .i64 (t7 + (1 : Int)))))], [some (.box (D.cons (D.int .i64 m0.f0) (D.cons (D.int .i64 m0.f1) D.nil))), some (.seq 30 m1.1 2 (D.arr m1.1 2 fun i => (D.cons (D.str (m1.2 i).f0) (D.cons (D.int .i64 (m1.2 i).f1) D.nil))))])) rfl (by kernel_rfl) trivial ?_
    rw [← Option.some.inj h] at hk
    refine runs_to (ts := [0, 3, 4, 5, 6, 7]) (T' := T_ref15_Scan_L3) (env' := [(0, (D.str t0)), (3, (D.ptr 0 [])), (4, (D.own 1)), (5, (D.int .i64 t5)), (6, (D.int .u8 t6)), (7, (D.int .i64 (IntKind.wrap .i64 (t7 + (1 : Int)))))]) (h2 := [some (.box (D.cons (D.int .i64 m0.f0) (D.cons (D.int .i64 m0.f1) D.nil))), some (.seq 30 m1.1 2 (D.arr m1.1 2 fun i => (D.cons (D.str (m1.2 i).f0) (D.cons (D.int .i64 (m1.2 i).f1) D.nil))))]) (by kernel_rfl) (by kernel_rfl) (And.intro (.inr rfl) (And.intro (.inr rfl) trivial)) (Nat.zero_le _) (And.intro (And.intro trivial (And.intro trivial trivial)) (And.intro (fun _ _ => (And.intro trivial (And.intro trivial trivial))) trivial)) (And.intro trivial (And.intro (bel_of rfl) (And.intro (bel_of rfl) (And.intro trivial (And.intro trivial (And.intro trivial trivial)))))) ?_
    exact hk
  · replace h := ifs_false h hb
    rw [← Option.some.inj h] at hk
    refine runs_to (ts := [0, 3, 4, 5, 7]) (T' := X_ref15_Scan_L3T) (env' := [(0, (D.str t0)), (3, (D.ptr 0 [])), (4, (D.own 1)), (5, (D.int .i64 t5)), (7, (D.int .i64 t7))]) (h2 := [some (.box (D.cons (D.int .i64 m0.f0) (D.cons (D.int .i64 m0.f1) D.nil))), some (.seq 30 m1.1 2 (D.arr m1.1 2 fun i => (D.cons (D.str (m1.2 i).f0) (D.cons (D.int .i64 (m1.2 i).f1) D.nil))))]) (by kernel_rfl) (by kernel_rfl) (And.intro (.inr rfl) (And.intro (.inr rfl) trivial)) (Nat.zero_le _) (And.intro (And.intro trivial (And.intro trivial trivial)) (And.intro (fun _ _ => (And.intro trivial (And.intro trivial trivial))) trivial)) (And.intro trivial (And.intro (bel_of rfl) (And.intro (bel_of rfl) (And.intro trivial (And.intro trivial trivial))))) ?_
    exact hk

theorem iter_ref15_Scan_L3 (fu : Nat) (t0 : ByteArray) (m0 : S_api_Fault) (t5 : Int) (t6 : Int) (m1 : (Nat × (Nat → S_api_Token))) {d : D} (k : Nat) (s : Int) {o : E_ref15_Scan_L3 ⊕ (Lo (Int × (Nat × (Nat → S_api_Token))) E_ref15_Scan_L1 ((Nat × (Nat → S_api_Token)) × S_api_Fault))} (h : iter (fun s => F_ref15_Scan_L3 fu t0 m0 t5 t6 m1 s) k s = some o) (hx : X_ref15_Scan_L3 fu t0 m0 t5 t6 m1 d o) : N_ref15_Scan_L3 fu t0 m0 t5 t6 m1 d s :=
  iter_post (K := N_ref15_Scan_L3 fu t0 m0 t5 t6 m1 d) (X := X_ref15_Scan_L3 fu t0 m0 t5 t6 m1 d) (fun s _ h hk => run_ref15_Scan_L3 fu t0 m0 t5 t6 m1 s h hk) k s o h hx

abbrev E_ref15_Scan_L4 := Int

def N_ref15_Scan_L4 (_fu : Nat) (t0 : ByteArray) (m0 : S_api_Fault) (t5 : Int) (t9 : (Nat × (Nat → ByteArray))) (m1 : (Nat × (Nat → S_api_Token))) (d : D) (s : (Int × Int)) : Prop := Runs Tryd.prog Tryd.f10 0 T_ref15_Scan_L4 [(0, (D.str t0)), (3, (D.ptr 0 [])), (4, (D.own 1)), (5, (D.int .i64 t5)), (7, (D.int .i64 s.1)), (9, (D.lit t9.1 1 fun i => (D.str (t9.2 i)))), (10, (D.int .i64 s.2))] [some (.box (D.cons (D.int .i64 m0.f0) (D.cons (D.int .i64 m0.f1) D.nil))), some (.seq 30 m1.1 2 (D.arr m1.1 2 fun i => (D.cons (D.str (m1.2 i).f0) (D.cons (D.int .i64 (m1.2 i).f1) D.nil))))] d []

def X_ref15_Scan_L4 (fu : Nat) (t0 : ByteArray) (m0 : S_api_Fault) (t5 : Int) (_t9 : (Nat × (Nat → ByteArray))) (m1 : (Nat × (Nat → S_api_Token))) (d : D) : E_ref15_Scan_L4 ⊕ (Lo (Int × (Nat × (Nat → S_api_Token))) E_ref15_Scan_L1 ((Nat × (Nat → S_api_Token)) × S_api_Fault)) → Prop
  | .inl e => Runs Tryd.prog Tryd.f10 0 X_ref15_Scan_L4T [(0, (D.str t0)), (3, (D.ptr 0 [])), (4, (D.own 1)), (5, (D.int .i64 t5)), (7, (D.int .i64 e))] [some (.box (D.cons (D.int .i64 m0.f0) (D.cons (D.int .i64 m0.f1) D.nil))), some (.seq 30 m1.1 2 (D.arr m1.1 2 fun i => (D.cons (D.str (m1.2 i).f0) (D.cons (D.int .i64 (m1.2 i).f1) D.nil))))] d []
  | .inr o => (Lo.post (N_ref15_Scan_L1 fu t0 m0 d) (X_ref15_Scan_L1 fu t0 m0 d)) o

def F_ref15_Scan_L4 (_fu : Nat) (t0 : ByteArray) (_m0 : S_api_Fault) (t5 : Int) (t9 : (Nat × (Nat → ByteArray))) (_m1 : (Nat × (Nat → S_api_Token))) (t7 : Int) (t10 : Int) : Option (Lo (Int × Int) E_ref15_Scan_L4 (Lo (Int × (Nat × (Nat → S_api_Token))) E_ref15_Scan_L1 ((Nat × (Nat → S_api_Token)) × S_api_Fault))) :=
  ifs (bif (decide (t10 < ((t9.1 : Nat) : Int))) then (t7 == (0 : Int)) else false) (
    chk (0 ≤ t10 ∧ t10 < ((t9.1 : Nat) : Int)) <|
    chk ((decide ((IntKind.wrap .i64 (t5 + ((t9.2 t10.toNat).size : Int))) ≤ (t0.size : Int))) = true → (0 ≤ t10 ∧ t10 < ((t9.1 : Nat) : Int))) <|
    chk ((decide ((IntKind.wrap .i64 (t5 + ((t9.2 t10.toNat).size : Int))) ≤ (t0.size : Int))) = true → (0 ≤ t5 ∧ t5 ≤ (IntKind.wrap .i64 (t5 + ((t9.2 t10.toNat).size : Int))) ∧ (IntKind.wrap .i64 (t5 + ((t9.2 t10.toNat).size : Int))) ≤ (t0.size : Int))) <|
    chk ((decide ((IntKind.wrap .i64 (t5 + ((t9.2 t10.toNat).size : Int))) ≤ (t0.size : Int))) = true → (0 ≤ t10 ∧ t10 < ((t9.1 : Nat) : Int))) <|
    ifs (bif (decide ((IntKind.wrap .i64 (t5 + ((t9.2 t10.toNat).size : Int))) ≤ (t0.size : Int))) then ((t0.extract (t5).toNat ((IntKind.wrap .i64 (t5 + ((t9.2 t10.toNat).size : Int)))).toNat).toList == (t9.2 t10.toNat).toList) else false) (
      chk (0 ≤ t10 ∧ t10 < ((t9.1 : Nat) : Int)) <|
      some (.next (((t9.2 t10.toNat).size : Int), (IntKind.wrap .i64 (t10 + (1 : Int)))))) (
      some (.next (t7, (IntKind.wrap .i64 (t10 + (1 : Int))))))) (
    some (.exit t7))

theorem run_ref15_Scan_L4 (fu : Nat) (t0 : ByteArray) (m0 : S_api_Fault) (t5 : Int) (t9 : (Nat × (Nat → ByteArray))) (m1 : (Nat × (Nat → S_api_Token))) (t7 : Int) (t10 : Int) {d : D} {o : (Lo (Int × Int) E_ref15_Scan_L4 (Lo (Int × (Nat × (Nat → S_api_Token))) E_ref15_Scan_L1 ((Nat × (Nat → S_api_Token)) × S_api_Fault)))} (h : F_ref15_Scan_L4 fu t0 m0 t5 t9 m1 t7 t10 = some o) (hk : (Lo.post (N_ref15_Scan_L4 fu t0 m0 t5 t9 m1 d) (X_ref15_Scan_L4 fu t0 m0 t5 t9 m1 d)) o) : Runs Tryd.prog Tryd.f10 0 T_ref15_Scan_L4 [(0, (D.str t0)), (3, (D.ptr 0 [])), (4, (D.own 1)), (5, (D.int .i64 t5)), (7, (D.int .i64 t7)), (9, (D.lit t9.1 1 fun i => (D.str (t9.2 i)))), (10, (D.int .i64 t10))] [some (.box (D.cons (D.int .i64 m0.f0) (D.cons (D.int .i64 m0.f1) D.nil))), some (.seq 30 m1.1 2 (D.arr m1.1 2 fun i => (D.cons (D.str (m1.2 i).f0) (D.cons (D.int .i64 (m1.2 i).f1) D.nil))))] d [] := by
  unfold F_ref15_Scan_L4 at h
  refine runs_regions 1 [([], [0, 3, 4, 5, 7, 9, 10, 110])] (z := ([((decide (t10 < ((t9.1 : Nat) : Int))) = true → All [((decide (t10 < ((t9.1 : Nat) : Int))) = true → (decide (t10 < ((t9.1 : Nat) : Int))) = true)]), ((true && (decide (t10 < ((t9.1 : Nat) : Int)))) = true → (decide (t10 < ((t9.1 : Nat) : Int))) = true)], [(0, (D.str t0)), (3, (D.ptr 0 [])), (4, (D.own 1)), (5, (D.int .i64 t5)), (7, (D.int .i64 t7)), (9, (D.lit t9.1 1 fun i => (D.str (t9.2 i)))), (10, (D.int .i64 t10)), (110, (D.bool (bif (decide (t10 < ((t9.1 : Nat) : Int))) then (t7 == (0 : Int)) else false)))], [some (.box (D.cons (D.int .i64 m0.f0) (D.cons (D.int .i64 m0.f1) D.nil))), some (.seq 30 m1.1 2 (D.arr m1.1 2 fun i => (D.cons (D.str (m1.2 i).f0) (D.cons (D.int .i64 (m1.2 i).f1) D.nil))))])) rfl (by kernel_rfl) (And.intro (fun _ => (And.intro (by first | exact fun h => h | exact fun h => (Bool.and_eq_true_iff.1 h).1 | simp_all) trivial)) (And.intro (by first | exact fun h => h | exact fun h => (Bool.and_eq_true_iff.1 h).1 | simp_all) trivial)) ?_
  refine runs_if (b := (bif (decide (t10 < ((t9.1 : Nat) : Int))) then (t7 == (0 : Int)) else false)) (by kernel_rfl) (fun hb => ?_) (fun hb => ?_)
  · replace h := ifs_true h hb
    obtain ⟨p7, h⟩ := chk_some h
    obtain ⟨p8, h⟩ := chk_some h
    obtain ⟨p9, h⟩ := chk_some h
    obtain ⟨p10, h⟩ := chk_some h
    refine runs_regions 1 [([], [0, 3, 4, 5, 7, 9, 10, 139])] (z := ([(0 ≤ t10 ∧ t10 < ((t9.1 : Nat) : Int)), ((decide ((IntKind.wrap .i64 (t5 + ((t9.2 t10.toNat).size : Int))) ≤ (t0.size : Int))) = true → All [((decide ((IntKind.wrap .i64 (t5 + ((t9.2 t10.toNat).size : Int))) ≤ (t0.size : Int))) = true → (decide ((IntKind.wrap .i64 (t5 + ((t9.2 t10.toNat).size : Int))) ≤ (t0.size : Int))) = true), ((decide ((IntKind.wrap .i64 (t5 + ((t9.2 t10.toNat).size : Int))) ≤ (t0.size : Int))) = true → (decide ((IntKind.wrap .i64 (t5 + ((t9.2 t10.toNat).size : Int))) ≤ (t0.size : Int))) = true), (0 ≤ t10 ∧ t10 < ((t9.1 : Nat) : Int))]), ((decide ((IntKind.wrap .i64 (t5 + ((t9.2 t10.toNat).size : Int))) ≤ (t0.size : Int))) = true → All [((decide ((IntKind.wrap .i64 (t5 + ((t9.2 t10.toNat).size : Int))) ≤ (t0.size : Int))) = true → (decide ((IntKind.wrap .i64 (t5 + ((t9.2 t10.toNat).size : Int))) ≤ (t0.size : Int))) = true)]), ((decide ((IntKind.wrap .i64 (t5 + ((t9.2 t10.toNat).size : Int))) ≤ (t0.size : Int))) = true → All [((decide ((IntKind.wrap .i64 (t5 + ((t9.2 t10.toNat).size : Int))) ≤ (t0.size : Int))) = true → (decide ((IntKind.wrap .i64 (t5 + ((t9.2 t10.toNat).size : Int))) ≤ (t0.size : Int))) = true)]), ((decide ((IntKind.wrap .i64 (t5 + ((t9.2 t10.toNat).size : Int))) ≤ (t0.size : Int))) = true → All [((decide ((IntKind.wrap .i64 (t5 + ((t9.2 t10.toNat).size : Int))) ≤ (t0.size : Int))) = true → (decide ((IntKind.wrap .i64 (t5 + ((t9.2 t10.toNat).size : Int))) ≤ (t0.size : Int))) = true), ((decide ((IntKind.wrap .i64 (t5 + ((t9.2 t10.toNat).size : Int))) ≤ (t0.size : Int))) = true → (decide ((IntKind.wrap .i64 (t5 + ((t9.2 t10.toNat).size : Int))) ≤ (t0.size : Int))) = true)]), ((decide ((IntKind.wrap .i64 (t5 + ((t9.2 t10.toNat).size : Int))) ≤ (t0.size : Int))) = true → All [((decide ((IntKind.wrap .i64 (t5 + ((t9.2 t10.toNat).size : Int))) ≤ (t0.size : Int))) = true → (decide ((IntKind.wrap .i64 (t5 + ((t9.2 t10.toNat).size : Int))) ≤ (t0.size : Int))) = true), ((decide ((IntKind.wrap .i64 (t5 + ((t9.2 t10.toNat).size : Int))) ≤ (t0.size : Int))) = true → (decide ((IntKind.wrap .i64 (t5 + ((t9.2 t10.toNat).size : Int))) ≤ (t0.size : Int))) = true), ((decide ((IntKind.wrap .i64 (t5 + ((t9.2 t10.toNat).size : Int))) ≤ (t0.size : Int))) = true → (decide ((IntKind.wrap .i64 (t5 + ((t9.2 t10.toNat).size : Int))) ≤ (t0.size : Int))) = true), (0 ≤ t5 ∧ t5 ≤ (IntKind.wrap .i64 (t5 + ((t9.2 t10.toNat).size : Int))) ∧ (IntKind.wrap .i64 (t5 + ((t9.2 t10.toNat).size : Int))) ≤ (t0.size : Int))]), ((decide ((IntKind.wrap .i64 (t5 + ((t9.2 t10.toNat).size : Int))) ≤ (t0.size : Int))) = true → All [((decide ((IntKind.wrap .i64 (t5 + ((t9.2 t10.toNat).size : Int))) ≤ (t0.size : Int))) = true → (decide ((IntKind.wrap .i64 (t5 + ((t9.2 t10.toNat).size : Int))) ≤ (t0.size : Int))) = true), ((decide ((IntKind.wrap .i64 (t5 + ((t9.2 t10.toNat).size : Int))) ≤ (t0.size : Int))) = true → (decide ((IntKind.wrap .i64 (t5 + ((t9.2 t10.toNat).size : Int))) ≤ (t0.size : Int))) = true), (0 ≤ t10 ∧ t10 < ((t9.1 : Nat) : Int))]), ((decide ((IntKind.wrap .i64 (t5 + ((t9.2 t10.toNat).size : Int))) ≤ (t0.size : Int))) = true → All [((decide ((IntKind.wrap .i64 (t5 + ((t9.2 t10.toNat).size : Int))) ≤ (t0.size : Int))) = true → (decide ((IntKind.wrap .i64 (t5 + ((t9.2 t10.toNat).size : Int))) ≤ (t0.size : Int))) = true)]), ((decide ((IntKind.wrap .i64 (t5 + ((t9.2 t10.toNat).size : Int))) ≤ (t0.size : Int))) = true → All [((decide ((IntKind.wrap .i64 (t5 + ((t9.2 t10.toNat).size : Int))) ≤ (t0.size : Int))) = true → (decide ((IntKind.wrap .i64 (t5 + ((t9.2 t10.toNat).size : Int))) ≤ (t0.size : Int))) = true), ((decide ((IntKind.wrap .i64 (t5 + ((t9.2 t10.toNat).size : Int))) ≤ (t0.size : Int))) = true → (decide ((IntKind.wrap .i64 (t5 + ((t9.2 t10.toNat).size : Int))) ≤ (t0.size : Int))) = true)]), ((true && (decide ((IntKind.wrap .i64 (t5 + ((t9.2 t10.toNat).size : Int))) ≤ (t0.size : Int)))) = true → (decide ((IntKind.wrap .i64 (t5 + ((t9.2 t10.toNat).size : Int))) ≤ (t0.size : Int))) = true)], [(0, (D.str t0)), (3, (D.ptr 0 [])), (4, (D.own 1)), (5, (D.int .i64 t5)), (7, (D.int .i64 t7)), (9, (D.lit t9.1 1 fun i => (D.str (t9.2 i)))), (10, (D.int .i64 t10)), (139, (D.bool (bif (decide ((IntKind.wrap .i64 (t5 + ((t9.2 t10.toNat).size : Int))) ≤ (t0.size : Int))) then ((t0.extract (t5).toNat ((IntKind.wrap .i64 (t5 + ((t9.2 t10.toNat).size : Int)))).toNat).toList == (t9.2 t10.toNat).toList) else false)))], [some (.box (D.cons (D.int .i64 m0.f0) (D.cons (D.int .i64 m0.f1) D.nil))), some (.seq 30 m1.1 2 (D.arr m1.1 2 fun i => (D.cons (D.str (m1.2 i).f0) (D.cons (D.int .i64 (m1.2 i).f1) D.nil))))])) rfl (by kernel_rfl) (And.intro p7 (And.intro (fun hg => (And.intro (by first | exact fun h => h | exact fun h => (Bool.and_eq_true_iff.1 h).1 | simp_all) (And.intro (by first | exact fun h => h | exact fun h => (Bool.and_eq_true_iff.1 h).1 | simp_all) (And.intro (p8 hg) trivial)))) (And.intro (fun _ => (And.intro (by first | exact fun h => h | exact fun h => (Bool.and_eq_true_iff.1 h).1 | simp_all) trivial)) (And.intro (fun _ => (And.intro (by first | exact fun h => h | exact fun h => (Bool.and_eq_true_iff.1 h).1 | simp_all) trivial)) (And.intro (fun _ => (And.intro (by first | exact fun h => h | exact fun h => (Bool.and_eq_true_iff.1 h).1 | simp_all) (And.intro (by first | exact fun h => h | exact fun h => (Bool.and_eq_true_iff.1 h).1 | simp_all) trivial))) (And.intro (fun hg => (And.intro (by first | exact fun h => h | exact fun h => (Bool.and_eq_true_iff.1 h).1 | simp_all) (And.intro (by first | exact fun h => h | exact fun h => (Bool.and_eq_true_iff.1 h).1 | simp_all) (And.intro (by first | exact fun h => h | exact fun h => (Bool.and_eq_true_iff.1 h).1 | simp_all) (And.intro (p9 hg) trivial))))) (And.intro (fun hg => (And.intro (by first | exact fun h => h | exact fun h => (Bool.and_eq_true_iff.1 h).1 | simp_all) (And.intro (by first | exact fun h => h | exact fun h => (Bool.and_eq_true_iff.1 h).1 | simp_all) (And.intro (p10 hg) trivial)))) (And.intro (fun _ => (And.intro (by first | exact fun h => h | exact fun h => (Bool.and_eq_true_iff.1 h).1 | simp_all) trivial)) (And.intro (fun _ => (And.intro (by first | exact fun h => h | exact fun h => (Bool.and_eq_true_iff.1 h).1 | simp_all) (And.intro (by first | exact fun h => h | exact fun h => (Bool.and_eq_true_iff.1 h).1 | simp_all) trivial))) (And.intro (by first | exact fun h => h | exact fun h => (Bool.and_eq_true_iff.1 h).1 | simp_all) trivial)))))))))) ?_
    refine runs_if (b := (bif (decide ((IntKind.wrap .i64 (t5 + ((t9.2 t10.toNat).size : Int))) ≤ (t0.size : Int))) then ((t0.extract (t5).toNat ((IntKind.wrap .i64 (t5 + ((t9.2 t10.toNat).size : Int)))).toNat).toList == (t9.2 t10.toNat).toList) else false)) (by kernel_rfl) (fun hb => ?_) (fun hb => ?_)
    · replace h := ifs_true h hb
      obtain ⟨p11, h⟩ := chk_some h
      refine runs_regions 2 [([], [0, 3, 4, 5, 7, 9, 10]), ([], [0, 3, 4, 5, 7, 9, 10])] (z := ([(0 ≤ t10 ∧ t10 < ((t9.1 : Nat) : Int))], [(0, (D.str t0)), (3, (D.ptr 0 [])), (4, (D.own 1)), (5, (D.int .i64 t5)), (7, (D.int .i64 ((t9.2 t10.toNat).size : Int))), (9, (D.lit t9.1 1 fun i => (D.str (t9.2 i)))), (10, (D.int .i64 (IntKind.wrap .i64 (t10 + (1 : Int)))))], [some (.box (D.cons (D.int .i64 m0.f0) (D.cons (D.int .i64 m0.f1) D.nil))), some (.seq 30 m1.1 2 (D.arr m1.1 2 fun i => (D.cons (D.str (m1.2 i).f0) (D.cons (D.int .i64 (m1.2 i).f1) D.nil))))])) rfl (by kernel_rfl) (And.intro p11 trivial) ?_
      rw [← Option.some.inj h] at hk
      refine runs_to (ts := [0, 3, 4, 5, 7, 9, 10]) (T' := T_ref15_Scan_L4) (env' := [(0, (D.str t0)), (3, (D.ptr 0 [])), (4, (D.own 1)), (5, (D.int .i64 t5)), (7, (D.int .i64 ((t9.2 t10.toNat).size : Int))), (9, (D.lit t9.1 1 fun i => (D.str (t9.2 i)))), (10, (D.int .i64 (IntKind.wrap .i64 (t10 + (1 : Int)))))]) (h2 := [some (.box (D.cons (D.int .i64 m0.f0) (D.cons (D.int .i64 m0.f1) D.nil))), some (.seq 30 m1.1 2 (D.arr m1.1 2 fun i => (D.cons (D.str (m1.2 i).f0) (D.cons (D.int .i64 (m1.2 i).f1) D.nil))))]) (by kernel_rfl) (by kernel_rfl) (And.intro (.inr rfl) (And.intro (.inr rfl) trivial)) (Nat.zero_le _) (And.intro (And.intro trivial (And.intro trivial trivial)) (And.intro (fun _ _ => (And.intro trivial (And.intro trivial trivial))) trivial)) (And.intro trivial (And.intro (bel_of rfl) (And.intro (bel_of rfl) (And.intro trivial (And.intro trivial (And.intro (fun _ _ => trivial) (And.intro trivial trivial))))))) ?_
      exact hk
    · replace h := ifs_false h hb
      refine runs_regions 1 [([], [0, 3, 4, 5, 7, 9, 10])] (z := ([], [(0, (D.str t0)), (3, (D.ptr 0 [])), (4, (D.own 1)), (5, (D.int .i64 t5)), (7, (D.int .i64 t7)), (9, (D.lit t9.1 1 fun i => (D.str (t9.2 i)))), (10, (D.int .i64 (IntKind.wrap .i64 (t10 + (1 : Int)))))], [some (.box (D.cons (D.int .i64 m0.f0) (D.cons (D.int .i64 m0.f1) D.nil))), some (.seq 30 m1.1 2 (D.arr m1.1 2 fun i => (D.cons (D.str (m1.2 i).f0) (D.cons (D.int .i64 (m1.2 i).f1) D.nil))))])) rfl (by kernel_rfl) trivial ?_
      rw [← Option.some.inj h] at hk
      refine runs_to (ts := [0, 3, 4, 5, 7, 9, 10]) (T' := T_ref15_Scan_L4) (env' := [(0, (D.str t0)), (3, (D.ptr 0 [])), (4, (D.own 1)), (5, (D.int .i64 t5)), (7, (D.int .i64 t7)), (9, (D.lit t9.1 1 fun i => (D.str (t9.2 i)))), (10, (D.int .i64 (IntKind.wrap .i64 (t10 + (1 : Int)))))]) (h2 := [some (.box (D.cons (D.int .i64 m0.f0) (D.cons (D.int .i64 m0.f1) D.nil))), some (.seq 30 m1.1 2 (D.arr m1.1 2 fun i => (D.cons (D.str (m1.2 i).f0) (D.cons (D.int .i64 (m1.2 i).f1) D.nil))))]) (by kernel_rfl) (by kernel_rfl) (And.intro (.inr rfl) (And.intro (.inr rfl) trivial)) (Nat.zero_le _) (And.intro (And.intro trivial (And.intro trivial trivial)) (And.intro (fun _ _ => (And.intro trivial (And.intro trivial trivial))) trivial)) (And.intro trivial (And.intro (bel_of rfl) (And.intro (bel_of rfl) (And.intro trivial (And.intro trivial (And.intro (fun _ _ => trivial) (And.intro trivial trivial))))))) ?_
      exact hk
  · replace h := ifs_false h hb
    rw [← Option.some.inj h] at hk
    refine runs_to (ts := [0, 3, 4, 5, 7]) (T' := X_ref15_Scan_L4T) (env' := [(0, (D.str t0)), (3, (D.ptr 0 [])), (4, (D.own 1)), (5, (D.int .i64 t5)), (7, (D.int .i64 t7))]) (h2 := [some (.box (D.cons (D.int .i64 m0.f0) (D.cons (D.int .i64 m0.f1) D.nil))), some (.seq 30 m1.1 2 (D.arr m1.1 2 fun i => (D.cons (D.str (m1.2 i).f0) (D.cons (D.int .i64 (m1.2 i).f1) D.nil))))]) (by kernel_rfl) (by kernel_rfl) (And.intro (.inr rfl) (And.intro (.inr rfl) trivial)) (Nat.zero_le _) (And.intro (And.intro trivial (And.intro trivial trivial)) (And.intro (fun _ _ => (And.intro trivial (And.intro trivial trivial))) trivial)) (And.intro trivial (And.intro (bel_of rfl) (And.intro (bel_of rfl) (And.intro trivial (And.intro trivial trivial))))) ?_
    exact hk

theorem iter_ref15_Scan_L4 (fu : Nat) (t0 : ByteArray) (m0 : S_api_Fault) (t5 : Int) (t9 : (Nat × (Nat → ByteArray))) (m1 : (Nat × (Nat → S_api_Token))) {d : D} (k : Nat) (s : (Int × Int)) {o : E_ref15_Scan_L4 ⊕ (Lo (Int × (Nat × (Nat → S_api_Token))) E_ref15_Scan_L1 ((Nat × (Nat → S_api_Token)) × S_api_Fault))} (h : iter (fun s => F_ref15_Scan_L4 fu t0 m0 t5 t9 m1 s.1 s.2) k s = some o) (hx : X_ref15_Scan_L4 fu t0 m0 t5 t9 m1 d o) : N_ref15_Scan_L4 fu t0 m0 t5 t9 m1 d s :=
  iter_post (K := N_ref15_Scan_L4 fu t0 m0 t5 t9 m1 d) (X := X_ref15_Scan_L4 fu t0 m0 t5 t9 m1 d) (fun s _ h hk => run_ref15_Scan_L4 fu t0 m0 t5 t9 m1 s.1 s.2 h hk) k s o h hx

def F_ref15_Scan_J1 (fu : Nat) (t0 : ByteArray) (m0 : S_api_Fault) (t5 : Int) (t7 : Int) (m1 : (Nat × (Nat → S_api_Token))) : Option (Lo (Int × (Nat × (Nat → S_api_Token))) E_ref15_Scan_L1 ((Nat × (Nat → S_api_Token)) × S_api_Fault)) :=
  (F_ref15_signs).bind fun r7 =>
  after (iter (fun s => F_ref15_Scan_L4 fu t0 m0 t5 r7 m1 s.1 s.2) fu (t7, (0 : Int))) fun e13 =>
  ifs (e13 == (0 : Int)) (
    some (.ret ((0, (fun _ => (S_api_Token.mk (⟨#[]⟩ : ByteArray) (0 : Int)))), (S_api_Fault.mk (15 : Int) t5)))) (
    chk (0 ≤ t5 ∧ t5 ≤ (IntKind.wrap .i64 (t5 + e13)) ∧ (IntKind.wrap .i64 (t5 + e13)) ≤ (t0.size : Int)) <|
    chk (RoomOk (m1.1 + 1) 24) <|
    some (.next ((IntKind.wrap .i64 (t5 + e13)), ((m1.1 + 1), (fun i => if i < m1.1 then m1.2 i else (fun i => ([(S_api_Token.mk (t0.extract (t5).toNat ((IntKind.wrap .i64 (t5 + e13))).toNat) t5)] : List S_api_Token).getD i (S_api_Token.mk (⟨#[]⟩ : ByteArray) (0 : Int))) (i - m1.1))))))

theorem run_ref15_Scan_J1 (fu : Nat) (t0 : ByteArray) (m0 : S_api_Fault) (t5 : Int) (t7 : Int) (m1 : (Nat × (Nat → S_api_Token))) {d : D} {o : (Lo (Int × (Nat × (Nat → S_api_Token))) E_ref15_Scan_L1 ((Nat × (Nat → S_api_Token)) × S_api_Fault))} (h : F_ref15_Scan_J1 fu t0 m0 t5 t7 m1 = some o) (hk : (Lo.post (N_ref15_Scan_L1 fu t0 m0 d) (X_ref15_Scan_L1 fu t0 m0 d)) o) : Runs Tryd.prog Tryd.f10 0 T_ref15_Scan_J1 [(0, (D.str t0)), (3, (D.ptr 0 [])), (4, (D.own 1)), (5, (D.int .i64 t5)), (7, (D.int .i64 t7))] [some (.box (D.cons (D.int .i64 m0.f0) (D.cons (D.int .i64 m0.f1) D.nil))), some (.seq 30 m1.1 2 (D.arr m1.1 2 fun i => (D.cons (D.str (m1.2 i).f0) (D.cons (D.int .i64 (m1.2 i).f1) D.nil))))] d [] := by
  unfold F_ref15_Scan_J1 at h
  obtain ⟨r7, cr7, h⟩ := Option.bind_eq_some_iff.1 h
  refine runs_regions 2 [([(.d (D.lit r7.1 1 fun i => (D.str (r7.2 i))))], [0, 3, 4, 5, 7, 9]), ([], [0, 3, 4, 5, 7, 9, 10])] (z := ([FC Tryd.prog 19 [] [] (D.lit r7.1 1 fun i => (D.str (r7.2 i))) [], All (List.map NoRow [])], [(0, (D.str t0)), (3, (D.ptr 0 [])), (4, (D.own 1)), (5, (D.int .i64 t5)), (7, (D.int .i64 t7)), (9, (D.lit r7.1 1 fun i => (D.str (r7.2 i)))), (10, (D.int .i64 (0 : Int)))], [some (.box (D.cons (D.int .i64 m0.f0) (D.cons (D.int .i64 m0.f1) D.nil))), some (.seq 30 m1.1 2 (D.arr m1.1 2 fun i => (D.cons (D.str (m1.2 i).f0) (D.cons (D.int .i64 (m1.2 i).f1) D.nil))))])) rfl (by kernel_rfl) (And.intro (fc_ref15_signs cr7) (And.intro trivial trivial)) ?_
  refine runs_to (ts := [0, 3, 4, 5, 7, 9, 10]) (T' := T_ref15_Scan_L4) (env' := [(0, (D.str t0)), (3, (D.ptr 0 [])), (4, (D.own 1)), (5, (D.int .i64 t5)), (7, (D.int .i64 t7)), (9, (D.lit r7.1 1 fun i => (D.str (r7.2 i)))), (10, (D.int .i64 (0 : Int)))]) (h2 := [some (.box (D.cons (D.int .i64 m0.f0) (D.cons (D.int .i64 m0.f1) D.nil))), some (.seq 30 m1.1 2 (D.arr m1.1 2 fun i => (D.cons (D.str (m1.2 i).f0) (D.cons (D.int .i64 (m1.2 i).f1) D.nil))))]) (by kernel_rfl) (by kernel_rfl) (And.intro (.inr rfl) (And.intro (.inr rfl) trivial)) (Nat.zero_le _) (And.intro (And.intro trivial (And.intro trivial trivial)) (And.intro (fun _ _ => (And.intro trivial (And.intro trivial trivial))) trivial)) (And.intro trivial (And.intro (bel_of rfl) (And.intro (bel_of rfl) (And.intro trivial (And.intro trivial (And.intro (fun _ _ => trivial) (And.intro trivial trivial))))))) ?_
  rcases after_some h with ⟨e13, hi, h⟩ | hi
  · refine iter_ref15_Scan_L4 fu t0 m0 t5 r7 m1 fu (t7, (0 : Int)) hi ?_
    show Runs Tryd.prog Tryd.f10 0 X_ref15_Scan_L4T [(0, (D.str t0)), (3, (D.ptr 0 [])), (4, (D.own 1)), (5, (D.int .i64 t5)), (7, (D.int .i64 e13))] [some (.box (D.cons (D.int .i64 m0.f0) (D.cons (D.int .i64 m0.f1) D.nil))), some (.seq 30 m1.1 2 (D.arr m1.1 2 fun i => (D.cons (D.str (m1.2 i).f0) (D.cons (D.int .i64 (m1.2 i).f1) D.nil))))] d []
    refine runs_regions 1 [([], [0, 3, 4, 5, 7, 146])] (z := ([], [(0, (D.str t0)), (3, (D.ptr 0 [])), (4, (D.own 1)), (5, (D.int .i64 t5)), (7, (D.int .i64 e13)), (146, (D.bool (e13 == (0 : Int))))], [some (.box (D.cons (D.int .i64 m0.f0) (D.cons (D.int .i64 m0.f1) D.nil))), some (.seq 30 m1.1 2 (D.arr m1.1 2 fun i => (D.cons (D.str (m1.2 i).f0) (D.cons (D.int .i64 (m1.2 i).f1) D.nil))))])) rfl (by kernel_rfl) trivial ?_
    refine runs_if (b := (e13 == (0 : Int))) (by kernel_rfl) (fun hb => ?_) (fun hb => ?_)
    · replace h := ifs_true h hb
      refine runs_regions 1 [([], [2, 3])] (z := ([], [(2, D.nils), (3, (D.ptr 0 []))], [some (.box (D.cons (D.int .i64 (15 : Int)) (D.cons (D.int .i64 t5) D.nil))), some (.seq 30 m1.1 2 (D.arr m1.1 2 fun i => (D.cons (D.str (m1.2 i).f0) (D.cons (D.int .i64 (m1.2 i).f1) D.nil))))])) rfl (by kernel_rfl) trivial ?_
      rw [← Option.some.inj h] at hk
      obtain rfl : d = (D.tup (D.cons (D.lit 0 2 fun i => (D.cons (D.str ((fun _ => (S_api_Token.mk (⟨#[]⟩ : ByteArray) (0 : Int))) i).f0) (D.cons (D.int .i64 ((fun _ => (S_api_Token.mk (⟨#[]⟩ : ByteArray) (0 : Int))) i).f1) D.nil))) (D.cons (D.cons (D.int .i64 (15 : Int)) (D.cons (D.int .i64 t5) D.nil)) D.nil))) := hk
      refine runs_nils 2 2 (fun i => (D.cons (D.str ((fun _ => (S_api_Token.mk (⟨#[]⟩ : ByteArray) (0 : Int))) i).f0) (D.cons (D.int .i64 ((fun _ => (S_api_Token.mk (⟨#[]⟩ : ByteArray) (0 : Int))) i).f1) D.nil))) (by kernel_rfl) ?_
      exact runs_ret (by kernel_rfl) trivial (Nat.le_refl 0) trivial (And.intro (fun _ _ => (And.intro trivial (And.intro trivial trivial))) (And.intro (And.intro trivial (And.intro trivial trivial)) trivial))
    · replace h := ifs_false h hb
      obtain ⟨p13, h⟩ := chk_some h
      obtain ⟨p14, h⟩ := chk_some h
      refine runs_regions 2 [([(.lit fun i => (D.cons (D.str ((fun i => ([(S_api_Token.mk (t0.extract (t5).toNat ((IntKind.wrap .i64 (t5 + e13))).toNat) t5)] : List S_api_Token).getD i (S_api_Token.mk (⟨#[]⟩ : ByteArray) (0 : Int))) i).f0) (D.cons (D.int .i64 ((fun i => ([(S_api_Token.mk (t0.extract (t5).toNat ((IntKind.wrap .i64 (t5 + e13))).toNat) t5)] : List S_api_Token).getD i (S_api_Token.mk (⟨#[]⟩ : ByteArray) (0 : Int))) i).f1) D.nil))), (.d (D.arr (m1.1 + 1) 2 fun i => (D.cons (D.str ((fun i => if i < m1.1 then m1.2 i else (fun i => ([(S_api_Token.mk (t0.extract (t5).toNat ((IntKind.wrap .i64 (t5 + e13))).toNat) t5)] : List S_api_Token).getD i (S_api_Token.mk (⟨#[]⟩ : ByteArray) (0 : Int))) (i - m1.1)) i).f0) (D.cons (D.int .i64 ((fun i => if i < m1.1 then m1.2 i else (fun i => ([(S_api_Token.mk (t0.extract (t5).toNat ((IntKind.wrap .i64 (t5 + e13))).toNat) t5)] : List S_api_Token).getD i (S_api_Token.mk (⟨#[]⟩ : ByteArray) (0 : Int))) (i - m1.1)) i).f1) D.nil))))], [0, 3, 4, 5, 7]), ([], [0, 3, 4, 5])] (z := ([(0 ≤ t5 ∧ t5 ≤ (IntKind.wrap .i64 (t5 + e13)) ∧ (IntKind.wrap .i64 (t5 + e13)) ≤ (t0.size : Int)), TabOk [(D.cons (D.str (t0.extract (t5).toNat ((IntKind.wrap .i64 (t5 + e13))).toNat)) (D.cons (D.int .i64 t5) D.nil))] 2 (D.arr 1 2 fun i => (D.cons (D.str ((fun i => ([(S_api_Token.mk (t0.extract (t5).toNat ((IntKind.wrap .i64 (t5 + e13))).toNat) t5)] : List S_api_Token).getD i (S_api_Token.mk (⟨#[]⟩ : ByteArray) (0 : Int))) i).f0) (D.cons (D.int .i64 ((fun i => ([(S_api_Token.mk (t0.extract (t5).toNat ((IntKind.wrap .i64 (t5 + e13))).toNat) t5)] : List S_api_Token).getD i (S_api_Token.mk (⟨#[]⟩ : ByteArray) (0 : Int))) i).f1) D.nil))), (RoomOk (m1.1 + 1) 24), CatOk (D.arr m1.1 2 fun i => (D.cons (D.str (m1.2 i).f0) (D.cons (D.int .i64 (m1.2 i).f1) D.nil))) (D.arr 1 2 fun i => (D.cons (D.str ((fun i => ([(S_api_Token.mk (t0.extract (t5).toNat ((IntKind.wrap .i64 (t5 + e13))).toNat) t5)] : List S_api_Token).getD i (S_api_Token.mk (⟨#[]⟩ : ByteArray) (0 : Int))) i).f0) (D.cons (D.int .i64 ((fun i => ([(S_api_Token.mk (t0.extract (t5).toNat ((IntKind.wrap .i64 (t5 + e13))).toNat) t5)] : List S_api_Token).getD i (S_api_Token.mk (⟨#[]⟩ : ByteArray) (0 : Int))) i).f1) D.nil))) (D.arr (m1.1 + 1) 2 fun i => (D.cons (D.str ((fun i => if i < m1.1 then m1.2 i else (fun i => ([(S_api_Token.mk (t0.extract (t5).toNat ((IntKind.wrap .i64 (t5 + e13))).toNat) t5)] : List S_api_Token).getD i (S_api_Token.mk (⟨#[]⟩ : ByteArray) (0 : Int))) (i - m1.1)) i).f0) (D.cons (D.int .i64 ((fun i => if i < m1.1 then m1.2 i else (fun i => ([(S_api_Token.mk (t0.extract (t5).toNat ((IntKind.wrap .i64 (t5 + e13))).toNat) t5)] : List S_api_Token).getD i (S_api_Token.mk (⟨#[]⟩ : ByteArray) (0 : Int))) (i - m1.1)) i).f1) D.nil)))], [(0, (D.str t0)), (3, (D.ptr 0 [])), (4, (D.own 2)), (5, (D.int .i64 (IntKind.wrap .i64 (t5 + e13))))], [some (.box (D.cons (D.int .i64 m0.f0) (D.cons (D.int .i64 m0.f1) D.nil))), none, some (.seq 30 (m1.1 + 1) 2 (D.arr (m1.1 + 1) 2 fun i => (D.cons (D.str ((fun i => if i < m1.1 then m1.2 i else (fun i => ([(S_api_Token.mk (t0.extract (t5).toNat ((IntKind.wrap .i64 (t5 + e13))).toNat) t5)] : List S_api_Token).getD i (S_api_Token.mk (⟨#[]⟩ : ByteArray) (0 : Int))) (i - m1.1)) i).f0) (D.cons (D.int .i64 ((fun i => if i < m1.1 then m1.2 i else (fun i => ([(S_api_Token.mk (t0.extract (t5).toNat ((IntKind.wrap .i64 (t5 + e13))).toNat) t5)] : List S_api_Token).getD i (S_api_Token.mk (⟨#[]⟩ : ByteArray) (0 : Int))) (i - m1.1)) i).f1) D.nil))))])) rfl (by kernel_rfl) (And.intro p13 (And.intro (tabOk_arr rfl (And.intro rfl trivial)) (And.intro p14 (And.intro (catOk_arr' rfl fun i => (d_ite (f := fun x : S_api_Token => (D.cons (D.str x.f0) (D.cons (D.int .i64 x.f1) D.nil))) rfl rfl).symm) trivial)))) ?_
      rw [← Option.some.inj h] at hk
      refine runs_to (ts := [0, 3, 4, 5]) (T' := T_ref15_Scan_L1) (env' := [(0, (D.str t0)), (3, (D.ptr 0 [])), (4, (D.own 2)), (5, (D.int .i64 (IntKind.wrap .i64 (t5 + e13))))]) (h2 := [some (.box (D.cons (D.int .i64 m0.f0) (D.cons (D.int .i64 m0.f1) D.nil))), none, some (.seq 30 (m1.1 + 1) 2 (D.arr (m1.1 + 1) 2 fun i => (D.cons (D.str ((fun i => if i < m1.1 then m1.2 i else (fun i => ([(S_api_Token.mk (t0.extract (t5).toNat ((IntKind.wrap .i64 (t5 + e13))).toNat) t5)] : List S_api_Token).getD i (S_api_Token.mk (⟨#[]⟩ : ByteArray) (0 : Int))) (i - m1.1)) i).f0) (D.cons (D.int .i64 ((fun i => if i < m1.1 then m1.2 i else (fun i => ([(S_api_Token.mk (t0.extract (t5).toNat ((IntKind.wrap .i64 (t5 + e13))).toNat) t5)] : List S_api_Token).getD i (S_api_Token.mk (⟨#[]⟩ : ByteArray) (0 : Int))) (i - m1.1)) i).f1) D.nil))))]) (by kernel_rfl) (by kernel_rfl) (And.intro (.inr rfl) (And.intro (.inl rfl) (And.intro (.inr rfl) trivial))) (Nat.zero_le _) (And.intro (And.intro trivial (And.intro trivial trivial)) (And.intro (fun _ _ => (And.intro trivial (And.intro trivial trivial))) trivial)) (And.intro trivial (And.intro (bel_of rfl) (And.intro (bel_of rfl) (And.intro trivial trivial)))) ?_
      refine runs_rename 1 2 (row := (.seq 30 (m1.1 + 1) 2 (D.arr (m1.1 + 1) 2 fun i => (D.cons (D.str ((fun i => if i < m1.1 then m1.2 i else (fun i => ([(S_api_Token.mk (t0.extract (t5).toNat ((IntKind.wrap .i64 (t5 + e13))).toNat) t5)] : List S_api_Token).getD i (S_api_Token.mk (⟨#[]⟩ : ByteArray) (0 : Int))) (i - m1.1)) i).f0) (D.cons (D.int .i64 ((fun i => if i < m1.1 then m1.2 i else (fun i => ([(S_api_Token.mk (t0.extract (t5).toNat ((IntKind.wrap .i64 (t5 + e13))).toNat) t5)] : List S_api_Token).getD i (S_api_Token.mk (⟨#[]⟩ : ByteArray) (0 : Int))) (i - m1.1)) i).f1) D.nil))))) (by decide) (Nat.zero_le _) rfl rfl (And.intro (And.intro trivial (And.intro trivial trivial)) (And.intro (fun _ _ => (And.intro trivial (And.intro trivial trivial))) trivial)) (And.intro trivial (And.intro (rn_ptr rfl) (And.intro (rn_own rfl) (And.intro trivial trivial)))) ?_
      refine runs_to (ts := [0, 3, 4, 5]) (T' := T_ref15_Scan_L1) (env' := [(0, (D.str t0)), (3, (D.ptr 0 [])), (4, (D.own 1)), (5, (D.int .i64 (IntKind.wrap .i64 (t5 + e13))))]) (h2 := [some (.box (D.cons (D.int .i64 m0.f0) (D.cons (D.int .i64 m0.f1) D.nil))), some (.seq 30 (m1.1 + 1) 2 (D.arr (m1.1 + 1) 2 fun i => (D.cons (D.str ((fun i => if i < m1.1 then m1.2 i else (fun i => ([(S_api_Token.mk (t0.extract (t5).toNat ((IntKind.wrap .i64 (t5 + e13))).toNat) t5)] : List S_api_Token).getD i (S_api_Token.mk (⟨#[]⟩ : ByteArray) (0 : Int))) (i - m1.1)) i).f0) (D.cons (D.int .i64 ((fun i => if i < m1.1 then m1.2 i else (fun i => ([(S_api_Token.mk (t0.extract (t5).toNat ((IntKind.wrap .i64 (t5 + e13))).toNat) t5)] : List S_api_Token).getD i (S_api_Token.mk (⟨#[]⟩ : ByteArray) (0 : Int))) (i - m1.1)) i).f1) D.nil))))]) (by kernel_rfl) (by kernel_rfl) (And.intro (.inr rfl) (And.intro (.inr rfl) trivial)) (Nat.zero_le _) (And.intro (And.intro trivial (And.intro trivial trivial)) (And.intro (fun _ _ => (And.intro trivial (And.intro trivial trivial))) trivial)) (And.intro trivial (And.intro (bel_of rfl) (And.intro (bel_of rfl) (And.intro trivial trivial)))) ?_
      exact hk
  · exact iter_ref15_Scan_L4 fu t0 m0 t5 r7 m1 fu (t7, (0 : Int)) hi hk

def F_ref15_Scan_L1 (fu : Nat) (t0 : ByteArray) (m0 : S_api_Fault) (t5 : Int) (m1 : (Nat × (Nat → S_api_Token))) : Option (Lo (Int × (Nat × (Nat → S_api_Token))) E_ref15_Scan_L1 ((Nat × (Nat → S_api_Token)) × S_api_Fault)) :=
  ifs (decide (t5 < (t0.size : Int))) (
    chk (0 ≤ t5 ∧ t5 < (t0.size : Int)) <|
    ifs (bif (bif (bif ((((t0[t5.toNat]?).getD 0).toNat : Int) == (32 : Int)) then true else ((((t0[t5.toNat]?).getD 0).toNat : Int) == (9 : Int))) then true else ((((t0[t5.toNat]?).getD 0).toNat : Int) == (10 : Int))) then true else ((((t0[t5.toNat]?).getD 0).toNat : Int) == (13 : Int))) (
      some (.next ((IntKind.wrap .i64 (t5 + (1 : Int))), m1))) (
      ifs ((((t0[t5.toNat]?).getD 0).toNat : Int) == (35 : Int)) (
        after (iter (fun s => F_ref15_Scan_L2 fu t0 m0 m1 s) fu t5) fun e3 =>
        some (.next (e3, m1))) (
        (F_ref15_letter (((t0[t5.toNat]?).getD 0).toNat : Int)).bind fun r0 =>
        (callIf (!r0) (F_ref15_digit (((t0[t5.toNat]?).getD 0).toNat : Int)) false).bind fun r1 =>
        ifs (bif r0 then true else r1) (
          after (iter (fun s => F_ref15_Scan_L3 fu t0 m0 t5 (((t0[t5.toNat]?).getD 0).toNat : Int) m1 s) fu (0 : Int)) fun e6 =>
          chk (0 ≤ t5 ∧ t5 ≤ (IntKind.wrap .i64 (t5 + e6)) ∧ (IntKind.wrap .i64 (t5 + e6)) ≤ (t0.size : Int)) <|
          (F_ref15_Word fu (t0.extract (t5).toNat ((IntKind.wrap .i64 (t5 + e6))).toNat)).bind fun r5 =>
          (callIf (!r5) (F_ref15_Digits fu (t0.extract (t5).toNat ((IntKind.wrap .i64 (t5 + e6))).toNat)) false).bind fun r6 =>
          ifs (bif (!r5) then (!r6) else false) (
            some (.ret ((0, (fun _ => (S_api_Token.mk (⟨#[]⟩ : ByteArray) (0 : Int)))), (S_api_Fault.mk (15 : Int) t5)))) (
            F_ref15_Scan_J1 fu t0 m0 t5 e6 m1)) (
          F_ref15_Scan_J1 fu t0 m0 t5 (0 : Int) m1)))) (
    some (.exit m1))

theorem run_ref15_Scan_L1 (fu : Nat) (t0 : ByteArray) (m0 : S_api_Fault) (t5 : Int) (m1 : (Nat × (Nat → S_api_Token))) {d : D} {o : (Lo (Int × (Nat × (Nat → S_api_Token))) E_ref15_Scan_L1 ((Nat × (Nat → S_api_Token)) × S_api_Fault))} (h : F_ref15_Scan_L1 fu t0 m0 t5 m1 = some o) (hk : (Lo.post (N_ref15_Scan_L1 fu t0 m0 d) (X_ref15_Scan_L1 fu t0 m0 d)) o) : Runs Tryd.prog Tryd.f10 0 T_ref15_Scan_L1 [(0, (D.str t0)), (3, (D.ptr 0 [])), (4, (D.own 1)), (5, (D.int .i64 t5))] [some (.box (D.cons (D.int .i64 m0.f0) (D.cons (D.int .i64 m0.f1) D.nil))), some (.seq 30 m1.1 2 (D.arr m1.1 2 fun i => (D.cons (D.str (m1.2 i).f0) (D.cons (D.int .i64 (m1.2 i).f1) D.nil))))] d [] := by
  unfold F_ref15_Scan_L1 at h
  refine runs_regions 1 [([], [0, 3, 4, 5, 18])] (z := ([], [(0, (D.str t0)), (3, (D.ptr 0 [])), (4, (D.own 1)), (5, (D.int .i64 t5)), (18, (D.bool (decide (t5 < (t0.size : Int)))))], [some (.box (D.cons (D.int .i64 m0.f0) (D.cons (D.int .i64 m0.f1) D.nil))), some (.seq 30 m1.1 2 (D.arr m1.1 2 fun i => (D.cons (D.str (m1.2 i).f0) (D.cons (D.int .i64 (m1.2 i).f1) D.nil))))])) rfl (by kernel_rfl) trivial ?_
  refine runs_if (b := (decide (t5 < (t0.size : Int)))) (by kernel_rfl) (fun hb => ?_) (fun hb => ?_)
  · replace h := ifs_true h hb
    obtain ⟨p0, h⟩ := chk_some h
    refine runs_regions 2 [([], [0, 3, 4, 5, 6]), ([], [0, 3, 4, 5, 6, 35])] (z := ([(0 ≤ t5 ∧ t5 < (t0.size : Int)), ((!((((t0[t5.toNat]?).getD 0).toNat : Int) == (32 : Int))) = true → All [((!((((t0[t5.toNat]?).getD 0).toNat : Int) == (32 : Int))) = true → (!((((t0[t5.toNat]?).getD 0).toNat : Int) == (32 : Int))) = true)]), ((true && !((((t0[t5.toNat]?).getD 0).toNat : Int) == (32 : Int))) = true → (!((((t0[t5.toNat]?).getD 0).toNat : Int) == (32 : Int))) = true), ((!(bif ((((t0[t5.toNat]?).getD 0).toNat : Int) == (32 : Int)) then true else ((((t0[t5.toNat]?).getD 0).toNat : Int) == (9 : Int)))) = true → All [((!(bif ((((t0[t5.toNat]?).getD 0).toNat : Int) == (32 : Int)) then true else ((((t0[t5.toNat]?).getD 0).toNat : Int) == (9 : Int)))) = true → (!(bif ((((t0[t5.toNat]?).getD 0).toNat : Int) == (32 : Int)) then true else ((((t0[t5.toNat]?).getD 0).toNat : Int) == (9 : Int)))) = true)]), ((true && !(bif ((((t0[t5.toNat]?).getD 0).toNat : Int) == (32 : Int)) then true else ((((t0[t5.toNat]?).getD 0).toNat : Int) == (9 : Int)))) = true → (!(bif ((((t0[t5.toNat]?).getD 0).toNat : Int) == (32 : Int)) then true else ((((t0[t5.toNat]?).getD 0).toNat : Int) == (9 : Int)))) = true), ((!(bif (bif ((((t0[t5.toNat]?).getD 0).toNat : Int) == (32 : Int)) then true else ((((t0[t5.toNat]?).getD 0).toNat : Int) == (9 : Int))) then true else ((((t0[t5.toNat]?).getD 0).toNat : Int) == (10 : Int)))) = true → All [((!(bif (bif ((((t0[t5.toNat]?).getD 0).toNat : Int) == (32 : Int)) then true else ((((t0[t5.toNat]?).getD 0).toNat : Int) == (9 : Int))) then true else ((((t0[t5.toNat]?).getD 0).toNat : Int) == (10 : Int)))) = true → (!(bif (bif ((((t0[t5.toNat]?).getD 0).toNat : Int) == (32 : Int)) then true else ((((t0[t5.toNat]?).getD 0).toNat : Int) == (9 : Int))) then true else ((((t0[t5.toNat]?).getD 0).toNat : Int) == (10 : Int)))) = true)]), ((true && !(bif (bif ((((t0[t5.toNat]?).getD 0).toNat : Int) == (32 : Int)) then true else ((((t0[t5.toNat]?).getD 0).toNat : Int) == (9 : Int))) then true else ((((t0[t5.toNat]?).getD 0).toNat : Int) == (10 : Int)))) = true → (!(bif (bif ((((t0[t5.toNat]?).getD 0).toNat : Int) == (32 : Int)) then true else ((((t0[t5.toNat]?).getD 0).toNat : Int) == (9 : Int))) then true else ((((t0[t5.toNat]?).getD 0).toNat : Int) == (10 : Int)))) = true)], [(0, (D.str t0)), (3, (D.ptr 0 [])), (4, (D.own 1)), (5, (D.int .i64 t5)), (6, (D.int .u8 (((t0[t5.toNat]?).getD 0).toNat : Int))), (35, (D.bool (bif (bif (bif ((((t0[t5.toNat]?).getD 0).toNat : Int) == (32 : Int)) then true else ((((t0[t5.toNat]?).getD 0).toNat : Int) == (9 : Int))) then true else ((((t0[t5.toNat]?).getD 0).toNat : Int) == (10 : Int))) then true else ((((t0[t5.toNat]?).getD 0).toNat : Int) == (13 : Int)))))], [some (.box (D.cons (D.int .i64 m0.f0) (D.cons (D.int .i64 m0.f1) D.nil))), some (.seq 30 m1.1 2 (D.arr m1.1 2 fun i => (D.cons (D.str (m1.2 i).f0) (D.cons (D.int .i64 (m1.2 i).f1) D.nil))))])) rfl (by kernel_rfl) (And.intro p0 (And.intro (fun _ => (And.intro (by first | exact fun h => h | exact fun h => (Bool.and_eq_true_iff.1 h).1 | simp_all) trivial)) (And.intro (by first | exact fun h => h | exact fun h => (Bool.and_eq_true_iff.1 h).1 | simp_all) (And.intro (fun _ => (And.intro (by first | exact fun h => h | exact fun h => (Bool.and_eq_true_iff.1 h).1 | simp_all) trivial)) (And.intro (by first | exact fun h => h | exact fun h => (Bool.and_eq_true_iff.1 h).1 | simp_all) (And.intro (fun _ => (And.intro (by first | exact fun h => h | exact fun h => (Bool.and_eq_true_iff.1 h).1 | simp_all) trivial)) (And.intro (by first | exact fun h => h | exact fun h => (Bool.and_eq_true_iff.1 h).1 | simp_all) trivial))))))) ?_
    refine runs_if (b := (bif (bif (bif ((((t0[t5.toNat]?).getD 0).toNat : Int) == (32 : Int)) then true else ((((t0[t5.toNat]?).getD 0).toNat : Int) == (9 : Int))) then true else ((((t0[t5.toNat]?).getD 0).toNat : Int) == (10 : Int))) then true else ((((t0[t5.toNat]?).getD 0).toNat : Int) == (13 : Int)))) (by kernel_rfl) (fun hb => ?_) (fun hb => ?_)
    · replace h := ifs_true h hb
      refine runs_regions 1 [([], [0, 3, 4, 5])] (z := ([], [(0, (D.str t0)), (3, (D.ptr 0 [])), (4, (D.own 1)), (5, (D.int .i64 (IntKind.wrap .i64 (t5 + (1 : Int)))))], [some (.box (D.cons (D.int .i64 m0.f0) (D.cons (D.int .i64 m0.f1) D.nil))), some (.seq 30 m1.1 2 (D.arr m1.1 2 fun i => (D.cons (D.str (m1.2 i).f0) (D.cons (D.int .i64 (m1.2 i).f1) D.nil))))])) rfl (by kernel_rfl) trivial ?_
      rw [← Option.some.inj h] at hk
      refine runs_to (ts := [0, 3, 4, 5]) (T' := T_ref15_Scan_L1) (env' := [(0, (D.str t0)), (3, (D.ptr 0 [])), (4, (D.own 1)), (5, (D.int .i64 (IntKind.wrap .i64 (t5 + (1 : Int)))))]) (h2 := [some (.box (D.cons (D.int .i64 m0.f0) (D.cons (D.int .i64 m0.f1) D.nil))), some (.seq 30 m1.1 2 (D.arr m1.1 2 fun i => (D.cons (D.str (m1.2 i).f0) (D.cons (D.int .i64 (m1.2 i).f1) D.nil))))]) (by kernel_rfl) (by kernel_rfl) (And.intro (.inr rfl) (And.intro (.inr rfl) trivial)) (Nat.zero_le _) (And.intro (And.intro trivial (And.intro trivial trivial)) (And.intro (fun _ _ => (And.intro trivial (And.intro trivial trivial))) trivial)) (And.intro trivial (And.intro (bel_of rfl) (And.intro (bel_of rfl) (And.intro trivial trivial)))) ?_
      exact hk
    · replace h := ifs_false h hb
      refine runs_regions 1 [([], [0, 3, 4, 5, 6, 39])] (z := ([], [(0, (D.str t0)), (3, (D.ptr 0 [])), (4, (D.own 1)), (5, (D.int .i64 t5)), (6, (D.int .u8 (((t0[t5.toNat]?).getD 0).toNat : Int))), (39, (D.bool ((((t0[t5.toNat]?).getD 0).toNat : Int) == (35 : Int))))], [some (.box (D.cons (D.int .i64 m0.f0) (D.cons (D.int .i64 m0.f1) D.nil))), some (.seq 30 m1.1 2 (D.arr m1.1 2 fun i => (D.cons (D.str (m1.2 i).f0) (D.cons (D.int .i64 (m1.2 i).f1) D.nil))))])) rfl (by kernel_rfl) trivial ?_
      refine runs_if (b := ((((t0[t5.toNat]?).getD 0).toNat : Int) == (35 : Int))) (by kernel_rfl) (fun hb => ?_) (fun hb => ?_)
      · replace h := ifs_true h hb
        refine runs_to (ts := [0, 3, 4, 5]) (T' := T_ref15_Scan_L2) (env' := [(0, (D.str t0)), (3, (D.ptr 0 [])), (4, (D.own 1)), (5, (D.int .i64 t5))]) (h2 := [some (.box (D.cons (D.int .i64 m0.f0) (D.cons (D.int .i64 m0.f1) D.nil))), some (.seq 30 m1.1 2 (D.arr m1.1 2 fun i => (D.cons (D.str (m1.2 i).f0) (D.cons (D.int .i64 (m1.2 i).f1) D.nil))))]) (by kernel_rfl) (by kernel_rfl) (And.intro (.inr rfl) (And.intro (.inr rfl) trivial)) (Nat.zero_le _) (And.intro (And.intro trivial (And.intro trivial trivial)) (And.intro (fun _ _ => (And.intro trivial (And.intro trivial trivial))) trivial)) (And.intro trivial (And.intro (bel_of rfl) (And.intro (bel_of rfl) (And.intro trivial trivial)))) ?_
        rcases after_some h with ⟨e3, hi, h⟩ | hi
        · refine iter_ref15_Scan_L2 fu t0 m0 m1 fu t5 hi ?_
          show Runs Tryd.prog Tryd.f10 0 X_ref15_Scan_L2T [(0, (D.str t0)), (3, (D.ptr 0 [])), (4, (D.own 1)), (5, (D.int .i64 e3))] [some (.box (D.cons (D.int .i64 m0.f0) (D.cons (D.int .i64 m0.f1) D.nil))), some (.seq 30 m1.1 2 (D.arr m1.1 2 fun i => (D.cons (D.str (m1.2 i).f0) (D.cons (D.int .i64 (m1.2 i).f1) D.nil))))] d []
          rw [← Option.some.inj h] at hk
          refine runs_to (ts := [0, 3, 4, 5]) (T' := T_ref15_Scan_L1) (env' := [(0, (D.str t0)), (3, (D.ptr 0 [])), (4, (D.own 1)), (5, (D.int .i64 e3))]) (h2 := [some (.box (D.cons (D.int .i64 m0.f0) (D.cons (D.int .i64 m0.f1) D.nil))), some (.seq 30 m1.1 2 (D.arr m1.1 2 fun i => (D.cons (D.str (m1.2 i).f0) (D.cons (D.int .i64 (m1.2 i).f1) D.nil))))]) (by kernel_rfl) (by kernel_rfl) (And.intro (.inr rfl) (And.intro (.inr rfl) trivial)) (Nat.zero_le _) (And.intro (And.intro trivial (And.intro trivial trivial)) (And.intro (fun _ _ => (And.intro trivial (And.intro trivial trivial))) trivial)) (And.intro trivial (And.intro (bel_of rfl) (And.intro (bel_of rfl) (And.intro trivial trivial)))) ?_
          exact hk
        · exact iter_ref15_Scan_L2 fu t0 m0 m1 fu t5 hi hk
      · replace h := ifs_false h hb
        obtain ⟨r0, cr0, h⟩ := Option.bind_eq_some_iff.1 h
        obtain ⟨r1, cr1, h⟩ := Option.bind_eq_some_iff.1 h
        refine runs_regions 2 [([], [0, 3, 4, 5, 6, 7]), ([(.d (D.bool r0)), (.d (D.bool r1))], [0, 3, 4, 5, 6, 7, 57])] (z := ([FC Tryd.prog 17 [(D.int .u8 (((t0[t5.toNat]?).getD 0).toNat : Int))] [] (D.bool r0) [], All (List.map NoRow [(D.int .u8 (((t0[t5.toNat]?).getD 0).toNat : Int))]), ((!r0) = true → All [((!r0) = true → (!r0) = true), FC Tryd.prog 18 [(D.int .u8 (((t0[t5.toNat]?).getD 0).toNat : Int))] [] (D.bool r1) [], All (List.map NoRow [(D.int .u8 (((t0[t5.toNat]?).getD 0).toNat : Int))])]), ((true && !r0) = true → (!r0) = true)], [(0, (D.str t0)), (3, (D.ptr 0 [])), (4, (D.own 1)), (5, (D.int .i64 t5)), (6, (D.int .u8 (((t0[t5.toNat]?).getD 0).toNat : Int))), (7, (D.int .i64 (0 : Int))), (57, (D.bool (bif r0 then true else r1)))], [some (.box (D.cons (D.int .i64 m0.f0) (D.cons (D.int .i64 m0.f1) D.nil))), some (.seq 30 m1.1 2 (D.arr m1.1 2 fun i => (D.cons (D.str (m1.2 i).f0) (D.cons (D.int .i64 (m1.2 i).f1) D.nil))))])) rfl (by kernel_rfl) (And.intro (fc_ref15_letter (((t0[t5.toNat]?).getD 0).toNat : Int) cr0) (And.intro (And.intro trivial trivial) (And.intro (fun hg => (And.intro (by first | exact fun h => h | exact fun h => (Bool.and_eq_true_iff.1 h).1 | simp_all) (And.intro (fc_ref15_digit (((t0[t5.toNat]?).getD 0).toNat : Int) (callIf_some cr1 hg)) (And.intro (And.intro trivial trivial) trivial)))) (And.intro (by first | exact fun h => h | exact fun h => (Bool.and_eq_true_iff.1 h).1 | simp_all) trivial)))) ?_
        refine runs_if (b := (bif r0 then true else r1)) (by kernel_rfl) (fun hb => ?_) (fun hb => ?_)
        · replace h := ifs_true h hb
          refine runs_to (ts := [0, 3, 4, 5, 6, 7]) (T' := T_ref15_Scan_L3) (env' := [(0, (D.str t0)), (3, (D.ptr 0 [])), (4, (D.own 1)), (5, (D.int .i64 t5)), (6, (D.int .u8 (((t0[t5.toNat]?).getD 0).toNat : Int))), (7, (D.int .i64 (0 : Int)))]) (h2 := [some (.box (D.cons (D.int .i64 m0.f0) (D.cons (D.int .i64 m0.f1) D.nil))), some (.seq 30 m1.1 2 (D.arr m1.1 2 fun i => (D.cons (D.str (m1.2 i).f0) (D.cons (D.int .i64 (m1.2 i).f1) D.nil))))]) (by kernel_rfl) (by kernel_rfl) (And.intro (.inr rfl) (And.intro (.inr rfl) trivial)) (Nat.zero_le _) (And.intro (And.intro trivial (And.intro trivial trivial)) (And.intro (fun _ _ => (And.intro trivial (And.intro trivial trivial))) trivial)) (And.intro trivial (And.intro (bel_of rfl) (And.intro (bel_of rfl) (And.intro trivial (And.intro trivial (And.intro trivial trivial)))))) ?_
          rcases after_some h with ⟨e6, hi, h⟩ | hi
          · refine iter_ref15_Scan_L3 fu t0 m0 t5 (((t0[t5.toNat]?).getD 0).toNat : Int) m1 fu (0 : Int) hi ?_
            show Runs Tryd.prog Tryd.f10 0 X_ref15_Scan_L3T [(0, (D.str t0)), (3, (D.ptr 0 [])), (4, (D.own 1)), (5, (D.int .i64 t5)), (7, (D.int .i64 e6))] [some (.box (D.cons (D.int .i64 m0.f0) (D.cons (D.int .i64 m0.f1) D.nil))), some (.seq 30 m1.1 2 (D.arr m1.1 2 fun i => (D.cons (D.str (m1.2 i).f0) (D.cons (D.int .i64 (m1.2 i).f1) D.nil))))] d []
            obtain ⟨p6, h⟩ := chk_some h
            obtain ⟨r5, cr5, h⟩ := Option.bind_eq_some_iff.1 h
            obtain ⟨r6, cr6, h⟩ := Option.bind_eq_some_iff.1 h
            refine runs_regions 2 [([], [0, 3, 4, 5, 7, 8]), ([(.d (D.bool r5)), (.d (D.bool r6))], [0, 3, 4, 5, 7, 99])] (z := ([(0 ≤ t5 ∧ t5 ≤ (IntKind.wrap .i64 (t5 + e6)) ∧ (IntKind.wrap .i64 (t5 + e6)) ≤ (t0.size : Int)), FC Tryd.prog 12 [(D.str (t0.extract (t5).toNat ((IntKind.wrap .i64 (t5 + e6))).toNat))] [] (D.bool r5) [], All (List.map NoRow [(D.str (t0.extract (t5).toNat ((IntKind.wrap .i64 (t5 + e6))).toNat))]), ((!r5) = true → All [((!r5) = true → (!r5) = true), FC Tryd.prog 14 [(D.str (t0.extract (t5).toNat ((IntKind.wrap .i64 (t5 + e6))).toNat))] [] (D.bool r6) [], All (List.map NoRow [(D.str (t0.extract (t5).toNat ((IntKind.wrap .i64 (t5 + e6))).toNat))])]), ((!r5) = true → All [((!r5) = true → (!r5) = true)]), ((true && (!r5)) = true → (!r5) = true)], [(0, (D.str t0)), (3, (D.ptr 0 [])), (4, (D.own 1)), (5, (D.int .i64 t5)), (7, (D.int .i64 e6)), (99, (D.bool (bif (!r5) then (!r6) else false)))], [some (.box (D.cons (D.int .i64 m0.f0) (D.cons (D.int .i64 m0.f1) D.nil))), some (.seq 30 m1.1 2 (D.arr m1.1 2 fun i => (D.cons (D.str (m1.2 i).f0) (D.cons (D.int .i64 (m1.2 i).f1) D.nil))))])) rfl (by kernel_rfl) (And.intro p6 (And.intro (fc_ref15_Word fu (t0.extract (t5).toNat ((IntKind.wrap .i64 (t5 + e6))).toNat) cr5) (And.intro (And.intro trivial trivial) (And.intro (fun hg => (And.intro (by first | exact fun h => h | exact fun h => (Bool.and_eq_true_iff.1 h).1 | simp_all) (And.intro (fc_ref15_Digits fu (t0.extract (t5).toNat ((IntKind.wrap .i64 (t5 + e6))).toNat) (callIf_some cr6 hg)) (And.intro (And.intro trivial trivial) trivial)))) (And.intro (fun _ => (And.intro (by first | exact fun h => h | exact fun h => (Bool.and_eq_true_iff.1 h).1 | simp_all) trivial)) (And.intro (by first | exact fun h => h | exact fun h => (Bool.and_eq_true_iff.1 h).1 | simp_all) trivial)))))) ?_
            refine runs_if (b := (bif (!r5) then (!r6) else false)) (by kernel_rfl) (fun hb => ?_) (fun hb => ?_)
            · replace h := ifs_true h hb
              refine runs_regions 1 [([], [2, 3])] (z := ([], [(2, D.nils), (3, (D.ptr 0 []))], [some (.box (D.cons (D.int .i64 (15 : Int)) (D.cons (D.int .i64 t5) D.nil))), some (.seq 30 m1.1 2 (D.arr m1.1 2 fun i => (D.cons (D.str (m1.2 i).f0) (D.cons (D.int .i64 (m1.2 i).f1) D.nil))))])) rfl (by kernel_rfl) trivial ?_
              rw [← Option.some.inj h] at hk
              obtain rfl : d = (D.tup (D.cons (D.lit 0 2 fun i => (D.cons (D.str ((fun _ => (S_api_Token.mk (⟨#[]⟩ : ByteArray) (0 : Int))) i).f0) (D.cons (D.int .i64 ((fun _ => (S_api_Token.mk (⟨#[]⟩ : ByteArray) (0 : Int))) i).f1) D.nil))) (D.cons (D.cons (D.int .i64 (15 : Int)) (D.cons (D.int .i64 t5) D.nil)) D.nil))) := hk
              refine runs_nils 2 2 (fun i => (D.cons (D.str ((fun _ => (S_api_Token.mk (⟨#[]⟩ : ByteArray) (0 : Int))) i).f0) (D.cons (D.int .i64 ((fun _ => (S_api_Token.mk (⟨#[]⟩ : ByteArray) (0 : Int))) i).f1) D.nil))) (by kernel_rfl) ?_
              exact runs_ret (by kernel_rfl) trivial (Nat.le_refl 0) trivial (And.intro (fun _ _ => (And.intro trivial (And.intro trivial trivial))) (And.intro (And.intro trivial (And.intro trivial trivial)) trivial))
            · replace h := ifs_false h hb
              refine runs_to (ts := [0, 3, 4, 5, 7]) (T' := T_ref15_Scan_J1) (env' := [(0, (D.str t0)), (3, (D.ptr 0 [])), (4, (D.own 1)), (5, (D.int .i64 t5)), (7, (D.int .i64 e6))]) (h2 := [some (.box (D.cons (D.int .i64 m0.f0) (D.cons (D.int .i64 m0.f1) D.nil))), some (.seq 30 m1.1 2 (D.arr m1.1 2 fun i => (D.cons (D.str (m1.2 i).f0) (D.cons (D.int .i64 (m1.2 i).f1) D.nil))))]) (by kernel_rfl) (by kernel_rfl) (And.intro (.inr rfl) (And.intro (.inr rfl) trivial)) (Nat.zero_le _) (And.intro (And.intro trivial (And.intro trivial trivial)) (And.intro (fun _ _ => (And.intro trivial (And.intro trivial trivial))) trivial)) (And.intro trivial (And.intro (bel_of rfl) (And.intro (bel_of rfl) (And.intro trivial (And.intro trivial trivial))))) ?_
              exact run_ref15_Scan_J1 fu t0 m0 t5 e6 m1 h hk
          · exact iter_ref15_Scan_L3 fu t0 m0 t5 (((t0[t5.toNat]?).getD 0).toNat : Int) m1 fu (0 : Int) hi hk
        · replace h := ifs_false h hb
          refine runs_to (ts := [0, 3, 4, 5, 7]) (T' := T_ref15_Scan_J1) (env' := [(0, (D.str t0)), (3, (D.ptr 0 [])), (4, (D.own 1)), (5, (D.int .i64 t5)), (7, (D.int .i64 (0 : Int)))]) (h2 := [some (.box (D.cons (D.int .i64 m0.f0) (D.cons (D.int .i64 m0.f1) D.nil))), some (.seq 30 m1.1 2 (D.arr m1.1 2 fun i => (D.cons (D.str (m1.2 i).f0) (D.cons (D.int .i64 (m1.2 i).f1) D.nil))))]) (by kernel_rfl) (by kernel_rfl) (And.intro (.inr rfl) (And.intro (.inr rfl) trivial)) (Nat.zero_le _) (And.intro (And.intro trivial (And.intro trivial trivial)) (And.intro (fun _ _ => (And.intro trivial (And.intro trivial trivial))) trivial)) (And.intro trivial (And.intro (bel_of rfl) (And.intro (bel_of rfl) (And.intro trivial (And.intro trivial trivial))))) ?_
          exact run_ref15_Scan_J1 fu t0 m0 t5 (0 : Int) m1 h hk
  · replace h := ifs_false h hb
    rw [← Option.some.inj h] at hk
    refine runs_to (ts := [3, 4]) (T' := X_ref15_Scan_L1T) (env' := [(3, (D.ptr 0 [])), (4, (D.own 1))]) (h2 := [some (.box (D.cons (D.int .i64 m0.f0) (D.cons (D.int .i64 m0.f1) D.nil))), some (.seq 30 m1.1 2 (D.arr m1.1 2 fun i => (D.cons (D.str (m1.2 i).f0) (D.cons (D.int .i64 (m1.2 i).f1) D.nil))))]) (by kernel_rfl) (by kernel_rfl) (And.intro (.inr rfl) (And.intro (.inr rfl) trivial)) (Nat.zero_le _) (And.intro (And.intro trivial (And.intro trivial trivial)) (And.intro (fun _ _ => (And.intro trivial (And.intro trivial trivial))) trivial)) (And.intro (bel_of rfl) (And.intro (bel_of rfl) trivial)) ?_
    exact hk

theorem iter_ref15_Scan_L1 (fu : Nat) (t0 : ByteArray) (m0 : S_api_Fault) {d : D} (k : Nat) (s : (Int × (Nat × (Nat → S_api_Token)))) {o : E_ref15_Scan_L1 ⊕ ((Nat × (Nat → S_api_Token)) × S_api_Fault)} (h : iter (fun s => F_ref15_Scan_L1 fu t0 m0 s.1 s.2) k s = some o) (hx : X_ref15_Scan_L1 fu t0 m0 d o) : N_ref15_Scan_L1 fu t0 m0 d s :=
  iter_post (K := N_ref15_Scan_L1 fu t0 m0 d) (X := X_ref15_Scan_L1 fu t0 m0 d) (fun s _ h hk => run_ref15_Scan_L1 fu t0 m0 s.1 s.2 h hk) k s o h hx

/-- podesta/podestaref15.Scan -/
def F_ref15_Scan (fu : Nat) (t0 : ByteArray) : Option ((Nat × (Nat → S_api_Token)) × S_api_Fault) :=
  ifs (decide ((t0.size : Int) > (16384 : Int))) (
    some ((0, (fun _ => (S_api_Token.mk (⟨#[]⟩ : ByteArray) (0 : Int)))), (S_api_Fault.mk (13 : Int) (16384 : Int)))) (
    after (iter (fun s => F_ref15_Scan_L1 fu t0 (S_api_Fault.mk (0 : Int) (0 : Int)) s.1 s.2) fu ((0 : Int), (0, (fun _ => (S_api_Token.mk (⟨#[]⟩ : ByteArray) (0 : Int)))))) fun e16 =>
    some (e16, (S_api_Fault.mk (0 : Int) (0 : Int))))

end Go.Proofs.YtlgkjdjgockkfaaDoor
