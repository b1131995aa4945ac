/- 'CtrlTells': the statement's card, proved. -/
import Derived.Test.YtaojcchakhjgoaaGreatDoorCards
import Derived.Test.YtaojcchakhjgoaaGreatDoorTie
import Derived.WalkKit
import Derived.ProofKit
import Derived.OpenShut
import Derived.ChangeMaps5
import Derived.Lay
import Derived.Stop.LaidErr
import Derived.MakeChecks
import Derived.Test.YtaojcchakhjgoaaGreatDoorExO
import Derived.Test.YtaojcchakhjgoaaGreatDoorExL
import Derived.Test.YtaojcchakhjgoaaGreatDoorCtlT0
import Derived.Test.YtaojcchakhjgoaaGreatDoorCtlT1
import Derived.Test.YtaojcchakhjgoaaGreatDoorCtlT2
import Derived.Test.YtaojcchakhjgoaaGreatDoorCtlT3
import Derived.Test.YtaojcchakhjgoaaGreatDoorCtlT4
import Derived.Test.YtaojcchakhjgoaaGreatDoorCtlT5
import Derived.Test.YtaojcchakhjgoaaGreatDoorCtlT6
import Derived.Test.YtaojcchakhjgoaaGreatDoorCtlT7
namespace Go.Proofs.YtaojcchakhjgoaaGreatDoor
open Go Go.ChangeShapes Go.WideShapes Go.ChangeAt Go.RowKit
namespace ctrlTells
theorem own : ownKnob Tryz.prog.godebug = none := by kernel_rfl
theorem laid : laidOutB Tryz.prog = true := by kernel_rfl

theorem ev (b1 b2 b3 : Bool) (o : Nat) (ho : o < 4) (es : Nat → Nat) : Exe.isT (Exe.Ctl.tells b1 b2 b3 o es) = true := by
  match b1, b2, b3, o, ho with
  | false, false, false, 0, _ => exact Exe.Ctl.tells0_0 es
  | false, false, false, 1, _ => exact Exe.Ctl.tells0_1 es
  | false, false, false, 2, _ => exact Exe.Ctl.tells0_2 es
  | false, false, false, 3, _ => exact Exe.Ctl.tells0_3 es
  | false, false, true, 0, _ => exact Exe.Ctl.tells1_0 es
  | false, false, true, 1, _ => exact Exe.Ctl.tells1_1 es
  | false, false, true, 2, _ => exact Exe.Ctl.tells1_2 es
  | false, false, true, 3, _ => exact Exe.Ctl.tells1_3 es
  | false, true, false, 0, _ => exact Exe.Ctl.tells2_0 es
  | false, true, false, 1, _ => exact Exe.Ctl.tells2_1 es
  | false, true, false, 2, _ => exact Exe.Ctl.tells2_2 es
  | false, true, false, 3, _ => exact Exe.Ctl.tells2_3 es
  | false, true, true, 0, _ => exact Exe.Ctl.tells3_0 es
  | false, true, true, 1, _ => exact Exe.Ctl.tells3_1 es
  | false, true, true, 2, _ => exact Exe.Ctl.tells3_2 es
  | false, true, true, 3, _ => exact Exe.Ctl.tells3_3 es
  | true, false, false, 0, _ => exact Exe.Ctl.tells4_0 es
  | true, false, false, 1, _ => exact Exe.Ctl.tells4_1 es
  | true, false, false, 2, _ => exact Exe.Ctl.tells4_2 es
  | true, false, false, 3, _ => exact Exe.Ctl.tells4_3 es
  | true, false, true, 0, _ => exact Exe.Ctl.tells5_0 es
  | true, false, true, 1, _ => exact Exe.Ctl.tells5_1 es
  | true, false, true, 2, _ => exact Exe.Ctl.tells5_2 es
  | true, false, true, 3, _ => exact Exe.Ctl.tells5_3 es
  | true, true, false, 0, _ => exact Exe.Ctl.tells6_0 es
  | true, true, false, 1, _ => exact Exe.Ctl.tells6_1 es
  | true, true, false, 2, _ => exact Exe.Ctl.tells6_2 es
  | true, true, false, 3, _ => exact Exe.Ctl.tells6_3 es
  | true, true, true, 0, _ => exact Exe.Ctl.tells7_0 es
  | true, true, true, 1, _ => exact Exe.Ctl.tells7_1 es
  | true, true, true, 2, _ => exact Exe.Ctl.tells7_2 es
  | true, true, true, 3, _ => exact Exe.Ctl.tells7_3 es
  | _, _, _, o + 4, h => omega

theorem fact_T {b1 b2 b3 : Bool} {o : Nat} {op : BinOp} {c d v : Exe.AV} (e : (Exe.Ctl.FT b1 b2 b3 o).bin op c d = some v) :
    (op = .shr ∧ c = .sym 0 ∧ ∃ i : Nat, i ≤ 3 ∧ d = .int .u64 (.ofNat i) ∧ v = .sym (102 + i)) ∨
    (op = .and ∧ d = .int .u8 (.ofNat 1) ∧ ∃ (i : Nat) (b : Bool), ((i = 1 ∧ b = b1) ∨ (i = 2 ∧ b = b2) ∨ (i = 3 ∧ b = b3)) ∧ c = .sym (102 + i) ∧ v = .int .u8 (.ofNat b.toNat)) ∨
    (op = .eql ∧ c = .sym 1 ∧ ∃ n : Int, 1 ≤ n ∧ n ≤ 3 ∧ d = .int .i64 n ∧ v = .bool (decide (n = (o : Int)))) := by
  unfold Exe.Ctl.FT at e
  dsimp only at e
  split at e
  · rename_i s i
    obtain ⟨h1, e1⟩ := Exe.ite_some.1 e
    obtain ⟨h2, e2⟩ := Exe.ite_some.1 e1
    rw [Exe.force_eq] at e2
    clear e e1
    have h1 := Nat.eq_of_beq_eq_true h1
    have h2 := Nat.le_of_ble_eq_true h2
    subst h1
    cases e2
    exact .inl ⟨rfl, rfl, i, h2, rfl, rfl⟩
  · rename_i s m
    obtain ⟨h1, e1⟩ := Exe.ite_some.1 e
    clear e
    have h1 := Nat.eq_of_beq_eq_true h1
    subst h1
    have bit : ∀ b : Bool, Exe.Ctl.bitV b = some (.int .u8 (.ofNat b.toNat)) := fun b => by cases b <;> rfl
    rw [Exe.beq_eq, Exe.beq_eq, Exe.beq_eq, bit, bit, bit] at e1
    by_cases h3 : s = 103
    · subst h3; cases e1; exact .inr (.inl ⟨rfl, rfl, 1, b1, .inl ⟨rfl, rfl⟩, rfl, rfl⟩)
    · rw [decide_eq_false h3] at e1
      by_cases h4 : s = 104
      · subst h4; cases e1; exact .inr (.inl ⟨rfl, rfl, 2, b2, .inr (.inl ⟨rfl, rfl⟩), rfl, rfl⟩)
      · rw [decide_eq_false h4] at e1
        obtain ⟨h5, e2⟩ := Exe.ite_some.1 (show Exe.ite' (decide (s = 105)) (some (Exe.AV.int .u8 (.ofNat b3.toNat))) = some v from e1)
        clear e1
        have h5 := of_decide_eq_true h5
        subst h5; cases e2
        exact .inr (.inl ⟨rfl, rfl, 3, b3, .inr (.inr ⟨rfl, rfl⟩), rfl, rfl⟩)
  · rename_i s n
    obtain ⟨h1, e1⟩ := Exe.ite_some.1 e
    obtain ⟨h2, e2⟩ := Exe.ite_some.1 e1
    obtain ⟨h3, e3⟩ := Exe.ite_some.1 e2
    clear e e1 e2
    rw [Exe.ile_eq] at h2 h3
    have h1 := Nat.eq_of_beq_eq_true h1
    subst h1
    cases e3
    refine .inr (.inr ⟨rfl, rfl, n, of_decide_eq_true h2, of_decide_eq_true h3, rfl, ?_⟩)
    rw [Exe.ieq_eq]; rfl
  · cases e

theorem facts {σ : Exe.Sig} {n : Nat} {y : Int} {b1 b2 b3 : Bool} {o : Nat} (hn : n < 256) (h0 : σ 0 = .int .u8 (n : Int)) (h1 : σ 1 = .int .i64 y) (hsh : ∀ i : Nat, i ≤ 3 → σ (102 + i) = .int .u8 ((n >>> i : Nat) : Int))
    (hb : ∀ (i : Nat) (b : Bool), ((i = 1 ∧ b = b1) ∨ (i = 2 ∧ b = b2) ∨ (i = 3 ∧ b = b3)) → (n >>> i) &&& 1 = b.toNat) (hy : ∀ k : Int, 1 ≤ k → k ≤ 3 → (y = k ↔ k = (o : Int))) : Exe.FactsOk Tryz.prog σ (Exe.Ctl.FT b1 b2 b3 o) where
  bin := by
    intro op c d v e ρ t p q u u' hc hd
    rcases fact_T e with ⟨rfl, rfl, i, hi, rfl, rfl⟩ | ⟨rfl, rfl, i, b, hib, rfl, rfl⟩ | ⟨rfl, rfl, k, hk1, hk3, rfl, rfl⟩
    · have hc : u = σ 0 := hc
      rw [h0] at hc
      cases hc; cases hd
      obtain ⟨r, hr, run⟩ := Exe.binO_ok (P := Tryz.prog) (σ := σ) (ρ := ρ) (F := ⟨fun _ _ _ => none, fun _ _ _ => none⟩) Exe.facts_none (op := .shr) (t := t) (p := p) (q := q) (a := .int .u8 (.ofNat n)) (b := .int .u64 (.ofNat i)) (v := .int .u8 (.ofNat (n >>> i))) (by
        show Exe.iOp .shr .u8 .u64 (.ofNat n) (.ofNat i) = _
        show Exe.ite' (Nat.ble n 255) (Exe.force (Nat.shiftRight n (Bool.rec 8 i (Nat.ble i 8))) fun m => some (Exe.AV.int .u8 (.ofNat m))) = _
        rw [Nat.ble_eq_true_of_le (show n ≤ 255 by omega), Nat.ble_eq_true_of_le (show i ≤ 8 by omega), Exe.force_eq]; rfl) rfl rfl
      cases hr
      exact ⟨_, (hsh i hi).symm, run⟩
    · have hi3 : i ≤ 3 := by omega
      have hc : u = σ (102 + i) := hc
      rw [hsh i hi3] at hc
      cases hc; cases hd
      have hm : n >>> i ≤ 255 := by
        rw [Nat.shiftRight_eq_div_pow]
        exact Nat.le_trans (Nat.div_le_self _ _) (by omega)
      exact Exe.binO_ok (P := Tryz.prog) (σ := σ) (ρ := ρ) (F := ⟨fun _ _ _ => none, fun _ _ _ => none⟩) Exe.facts_none (op := .and) (t := t) (p := p) (q := q) (a := .int .u8 (.ofNat (n >>> i))) (b := .int .u8 (.ofNat 1)) (by
        show Exe.iOp .and .u8 .u8 (.ofNat (n >>> i)) (.ofNat 1) = _
        show Exe.ite' true (Exe.ite' (Nat.ble (n >>> i) 255) (Exe.ite' true (Exe.force (Nat.land (n >>> i) 1) fun m => some (Exe.AV.int .u8 (.ofNat m))))) = _
        rw [Nat.ble_eq_true_of_le hm, Exe.force_eq, show Nat.land (n >>> i) 1 = b.toNat from hb i b hib]; rfl) rfl rfl
    · have hc : u = σ 1 := hc
      rw [h1] at hc
      cases hc; cases hd
      exact Exe.binO_ok (P := Tryz.prog) (σ := σ) (ρ := ρ) (F := ⟨fun _ _ _ => none, fun _ _ _ => none⟩) Exe.facts_none (op := .eql) (t := t) (p := p) (q := q) (a := .int .i64 y) (b := .int .i64 k) (by
        show Exe.iOp .eql .i64 .i64 y k = _
        show Exe.ite' true (Exe.bo (Exe.ieq y k)) = _
        rw [Exe.ieq_eq, decide_eq_decide.2 (hy k hk1 hk3)]
        show Exe.bo _ = _
        cases decide (k = (o : Int)) <;> rfl) rfl rfl
  conv := fun _ _ _ _ e => nomatch e
set_option maxRecDepth 100000 in
theorem u8_of2 {W : World} {base : Nat} {v : Value} (h : Value.okWide Tryz.prog W .any base 5 v) : ∃ x : Int, v = .int .u8 x ∧ 0 ≤ x ∧ x < 256 := by
  unfold Value.okWide at h
  rw [Tryz.underlying5] at h
  unfold Cell.okWide at h
  rw [Tryz.underlying5] at h
  unfold Cell.ok at h
  rw [Tryz.underlying5] at h
  cases v <;> simp at h
  obtain ⟨rfl, h⟩ := h
  refine ⟨_, rfl, ?_⟩
  simp [IntKind.has] at h
  have h2 : IntKind.u8.max = 255 := rfl
  have h3 : IntKind.u8.min = 0 := rfl
  omega

set_option maxRecDepth 100000 in
theorem int_of {W : World} {base : Nat} {v : Value} (h : Value.okWide Tryz.prog W .any base 3 v) : ∃ x : Int, v = .int .i64 x := by
  unfold Value.okWide at h
  rw [Tryz.underlying3] at h
  unfold Cell.okWide at h
  rw [Tryz.underlying3] at h
  unfold Cell.ok at h
  rw [Tryz.underlying3] at h
  cases v <;> simp at h
  obtain ⟨rfl, _⟩ := h
  exact ⟨_, rfl⟩

theorem rowErr (u : TypeId) (h : Tryz.prog.typeName? 3 u = some "*errors.errorString") : u = 339 :=
  typeName_ptr_named (nm := "errors.errorString") (by kernel_rfl) (by kernel_rfl) (by decide) u (by simpa using h)

theorem cells_of_var {W : World} {n : String} {g : Nat} {cs : Array Value} (hg : Tryz.prog.globalNamed n = some g) (h : W.var? Tryz.prog n = some cs) : ∃ e fz, W.heap[g]? = some (.cells cs e fz) := by
  unfold World.var? at h
  rw [hg, Option.bind_some] at h
  split at h
  · rename_i cs' e fz hc
    cases h
    exact ⟨e, fz, hc⟩
  · cases h

theorem glob_of {W : World} (hL : laidMetH Tryz.prog Rows.ctrlTellsRow.laid W) : ∃ (a b : Addr) (e0 e1 : TypeId) (fz0 fz1 : Nat × Nat), W.heap[0]? = some (.cells #[.iface 339 (.pointer (some a))] e0 fz0) ∧ W.heap[1]? = some (.cells #[.iface 339 (.pointer (some b))] e1 fz1) := by
  have hp : laidMet Tryz.prog Rows.ctrlTellsRow.laid W := (Go.MakeChecks.laidMetH_plain Tryz.prog Rows.ctrlTellsRow.laid W (by kernel_rfl)) ▸ hL
  have h1 := hp.tail.tail.tail
  have h2 := h1.tail
  have gR : Tryz.prog.globalNamed "strconv.ErrRange" = some 1 := by kernel_rfl
  have gS : Tryz.prog.globalNamed "strconv.ErrSyntax" = some 0 := by kernel_rfl
  obtain ⟨a1, s1, hv1, _⟩ := laid_sentinel h1 gR (ti := 167) (by kernel_rfl) Tryz.underlying167 rowErr Tryz.underlying339 Tryz.underlying341 rfl rfl Tryz.underlying9 (by kernel_rfl) (by kernel_rfl)
  obtain ⟨a0, s0, hv0, _⟩ := laid_sentinel h2 gS (ti := 167) (by kernel_rfl) Tryz.underlying167 rowErr Tryz.underlying339 Tryz.underlying341 rfl rfl Tryz.underlying9 (by kernel_rfl) (by kernel_rfl)
  obtain ⟨e0, fz0, k0⟩ := cells_of_var gS hv0
  obtain ⟨e1, fz1, k1⟩ := cells_of_var gR hv1
  exact ⟨a0, a1, e0, e1, fz0, fz1, k0, k1⟩

set_option maxRecDepth 100000 in
theorem walk {base : Nat} (W : World) (v0 : Value) (h0 : Value.okWide Tryz.prog W .any base 5 v0) (v1 : Value) (h1 : Value.okWide Tryz.prog W .any base 3 v1) (v2 : Value) (h2 : Value.okWide Tryz.prog W .any base 39 v2) (hG : ∃ (a b : Addr) (e0 e1 : TypeId) (fz0 fz1 : Nat × Nat), W.heap[0]? = some (.cells #[.iface 339 (.pointer (some a))] e0 fz0) ∧ W.heap[1]? = some (.cells #[.iface 339 (.pointer (some b))] e1 fz1)) : Calls Tryz.prog 5 #[v0, v1, v2] W fun e w' => e = .returned (.bool true) ∧ W.keptBut w' (fun _ => False) ∧ Below W.heap.size W w' := by
  obtain ⟨a, b, e0, e1, fz0, fz1, hg0, hg1⟩ := hG
  obtain ⟨x, rfl, hx0, hx1⟩ := u8_of2 h0
  obtain ⟨n, rfl⟩ : ∃ n : Nat, x = n := ⟨x.toNat, by omega⟩
  have hn : n < 256 := by omega
  obtain ⟨y, rfl⟩ := int_of h1
  obtain ⟨c2, rfl, s2, k2⟩ := Exe.okWide_agg (by kernel_rfl) h2
  have s2 : c2.size = 12 := s2.trans (by kernel_rfl)
  have hl : ∀ x ∈ ([Value.int .u8 (n : Int)] ++ [Value.int .i64 y] ++ c2.toList), x.oneCell' = true := fun x hx => by
    simp only [List.mem_append] at hx
    rcases hx with (g | g) | g
    · cases List.mem_singleton.1 g; rfl
    · cases List.mem_singleton.1 g; rfl
    · exact k2 x g
  obtain ⟨es, σ, hσe, hs, hro⟩ := Exe.Ctl.start2 (l := ([Value.int .u8 (n : Int)] ++ [Value.int .i64 y] ++ c2.toList)) (by simp [s2]) [.int .u8 (n : Int), .int .u8 ((n >>> 1 : Nat) : Int), .int .u8 ((n >>> 2 : Nat) : Int), .int .u8 ((n >>> 3 : Nat) : Int)] hg0 hg1
  have hσ : ∀ i, (σ i).oneCell' = true := by
    subst hσe
    refine Exe.sigL_one fun x hx => ?_
    rcases List.mem_append.1 hx with g | g
    · exact hl x g
    · rcases List.mem_append.1 g with g | g
      · rw [(List.mem_replicate.1 g).2]; rfl
      · simp only [List.mem_cons, List.not_mem_nil, or_false] at g
        rcases g with rfl | rfl | rfl | rfl | rfl | rfl <;> rfl
  have len : (([Value.int .u8 (n : Int)] ++ [Value.int .i64 y] ++ c2.toList) ++ List.replicate (100 - (([Value.int .u8 (n : Int)] ++ [Value.int .i64 y] ++ c2.toList)).length) (Value.bool false)).length = 100 := by simp [s2]
  have q0 : σ 0 = .int .u8 (n : Int) := by subst hσe; rfl
  have q1 : σ 1 = .int .i64 y := by subst hσe; rfl
  have qs : ∀ i : Nat, i ≤ 3 → σ (102 + i) = .int .u8 ((n >>> i : Nat) : Int) := fun i hi => by
    subst hσe
    have key := fun (x : Value) (hx : [Value.int .u8 (n : Int), .int .u8 ((n >>> 1 : Nat) : Int), .int .u8 ((n >>> 2 : Nat) : Int), .int .u8 ((n >>> 3 : Nat) : Int)][i]? = some x) => Exe.sigL_at (l := ([Value.int .u8 (n : Int)] ++ [Value.int .i64 y] ++ c2.toList) ++ (List.replicate (100 - (([Value.int .u8 (n : Int)] ++ [Value.int .i64 y] ++ c2.toList)).length) (.bool false) ++ .pointer (some a) :: .pointer (some b) :: [.int .u8 (n : Int), .int .u8 ((n >>> 1 : Nat) : Int), .int .u8 ((n >>> 2 : Nat) : Int), .int .u8 ((n >>> 3 : Nat) : Int)])) (pre := ([Value.int .u8 (n : Int)] ++ [Value.int .i64 y] ++ c2.toList) ++ List.replicate (100 - (([Value.int .u8 (n : Int)] ++ [Value.int .i64 y] ++ c2.toList)).length) (.bool false) ++ [.pointer (some a), .pointer (some b)]) (cs := [Value.int .u8 (n : Int), .int .u8 ((n >>> 1 : Nat) : Int), .int .u8 ((n >>> 2 : Nat) : Int), .int .u8 ((n >>> 3 : Nat) : Int)]) (post := []) (by simp) hx (a := 102) (by rw [List.length_append, len]; rfl)
    match i, hi with
    | 0, _ => exact key _ rfl
    | 1, _ => exact key _ rfl
    | 2, _ => exact key _ rfl
    | 3, _ => exact key _ rfl
  have bits : ∀ i : Nat, (n >>> i) &&& 1 = (n.testBit i).toNat := fun i => by
    rw [Nat.testBit, Nat.and_comm 1, Nat.and_one_is_mod]
    rcases Nat.mod_two_eq_zero_or_one (n >>> i) with h | h <;> rw [h] <;> rfl
  obtain ⟨o, ho4, ho⟩ : ∃ o : Nat, o < 4 ∧ ∀ k : Int, 1 ≤ k → k ≤ 3 → (y = k ↔ k = (o : Int)) := by
    by_cases h1 : 1 ≤ y ∧ y ≤ 3
    · exact ⟨y.toNat, by omega, fun k _ _ => by omega⟩
    · exact ⟨0, by omega, fun k _ _ => by omega⟩
  have e := ev (n.testBit 1) (n.testBit 2) (n.testBit 3) o ho4 es
  unfold Exe.Ctl.tells at e
  refine Exe.top (facts hn q0 q1 qs (fun i b h => by rcases h with ⟨rfl, rfl⟩ | ⟨rfl, rfl⟩ | ⟨rfl, rfl⟩ <;> exact bits _) ho) (Exe.Ctl.known2 hσ) hσ (by kernel_rfl) (by kernel_rfl) e hs hro (vs := #[.int .u8 (n : Int), .int .i64 y, .agg c2]) ?_
  refine ⟨_, _, rfl, q0.symm, _, _, rfl, q1.symm, _, _, rfl, ?_, rfl⟩
  subst hσe
  exact Exe.agg_sym (pre := [Value.int .u8 (n : Int)] ++ [Value.int .i64 y]) (post := (List.replicate (100 - ([Value.int .u8 (n : Int)] ++ [Value.int .i64 y] ++ c2.toList).length) (.bool false) ++ .pointer (some a) :: .pointer (some b) :: [.int .u8 (n : Int), .int .u8 ((n >>> 1 : Nat) : Int), .int .u8 ((n >>> 2 : Nat) : Int), .int .u8 ((n >>> 3 : Nat) : Int)])) (by simp) s2 (by simp)

set_option maxRecDepth 100000 in
theorem lifted (os : Os) (started : os.Started) (H : Type) (enc : TypeId × Value → H) :
    ReturnsInHanded {} Tryz.checked os 5 .any (fun w args => (Rows.ctrlTellsSpec.pre enc Tryz.prog Tryz.f5 [] false w args ∧ laidMetH Tryz.prog Rows.ctrlTellsRow.laid w) ∧ sizedMet enc Tryz.prog Tryz.f5 (OpenSpec.ofChange Rows.ctrlTellsSpec) false w args)
      (Rows.ctrlTellsSpec.post enc Tryz.prog Tryz.f5 false true false false) := by
  refine returnsInHanded_of_change_and (C := Tryz.checked) (X := fun w _ => laidMetH Tryz.prog Rows.ctrlTellsRow.laid w) (fun _ _ _ hh h => h.of_heap hh) own started (by kernel_rfl) Tryz.func5
    (ChangeSpec.witness_shaped (enc := enc) (C := Tryz.checked) (os := os) (X := fun w _ => laidMetH Tryz.prog Rows.ctrlTellsRow.laid w) false (World.laidAll Tryz.prog os Rows.ctrlTellsRow.laid) #[(.int .u8 0), (.int .i64 0), (.agg #[.int .u64 0, .int .u64 0, .int .u64 0, .int .u64 0, .int .u64 0, .int .u64 0, .int .u64 0, .int .u64 0, .int .u64 0, .int .u64 0, .int .u64 0, .int .u64 0])] 8 (World.laidAll_os _ _ _) (World.shaped_of_ZipB (by kernel_rfl) (by kernel_rfl)) (by kernel_rfl) (by kernel_rfl) (by kernel_rfl)
      (by rw [MakeChecks.laidMetH_plain _ _ _ (by kernel_rfl)]; exact laidMet_laidAll _ (by kernel_rfl) (by kernel_rfl))) ?_
  intro W base args ds gs before hval0 hW _ _ hL _
  have hval : ∀ (j : Nat) t v, Tryz.f5.params[j]? = some t → args[j]? = some v → Value.okWide Tryz.prog W .any base t v := hval0
  have hW' := hW
  obtain ⟨p, q, hA0, hV, rfl, _, _⟩ := hW
  have hA : DataW.TrodAll enc Tryz.prog W 0 (fun _ => true) true Tryz.f5.params.toList args.toList ds p := hA0
  have hT := hA
  rw [Tryz.params5] at hA hval
  obtain ⟨v0, vs0, d0, ds0, p0, q0, hargs, rfl, rfl, h0, r0⟩ := trodAll_cons hA
  obtain ⟨v1, vs1, d1, ds1, p1, q1, rfl, rfl, rfl, h1, r1⟩ := trodAll_cons r0
  obtain ⟨v2, vs2, d2, ds2, p2, q2, rfl, rfl, rfl, h2, r2⟩ := trodAll_cons r1
  obtain ⟨rfl, rfl, rfl⟩ := trodAll_nil r2
  obtain rfl : args = #[v0, v1, v2] := by cases args; simp_all
  obtain ⟨rfl, rfl⟩ := trodVars_none hV
  refine (walk W v0 (hval 0 5 v0 rfl rfl) v1 (hval 1 3 v1 rfl rfl) v2 (hval 2 39 v2 rfl rfl) (glob_of hL)).mono fun e W' ⟨he, hk, hb⟩ => ?_
  subst he
  have hlt := hW'.lt
  exact ⟨_, rfl, Exe.post_of_below (pv := []) hW' (fun _ _ _ => trodAll_cons_mk (shut_bool Tryz.underlying4 _) trodAll_mk0) (fun sp hs => Exe.trodAll_stays laid hb (by kernel_rfl) hT (fun x hx => hlt x (by simpa using hx)) (fun x hx => hs x (by simpa using hx))) (fun _ _ => rfl) rfl
    hk hb (ok_one (by kernel_rfl) rfl (okWide_bool_mk Tryz.underlying4 _))⟩

theorem jf_laid : laidOutB Tryz.pinned.checked.prog = true := by kernel_rfl
theorem jf_rowed : mapsRowed Tryz.pinned.checked.prog = true := by kernel_rfl
theorem jf_inPlace : (Rows.ctrlTellsRow.inPlace == Tryz.pinned.checked.prog.inPlace 5) = true := by kernel_rfl
theorem jf_unfollowed : (Rows.ctrlTellsRow.unfollowed == Tryz.pinned.checked.prog.unfollowed 5) = true := by kernel_rfl
theorem jf_recurses : (Rows.ctrlTellsRow.recurses == Tryz.pinned.checked.prog.recurses 5) = true := by kernel_rfl
theorem jf_named : (Rows.ctrlTellsRow.named == Tryz.pinned.checked.prog.varsNamed 5) = true := by kernel_rfl
theorem jf : joinedFacts Tryz.pinned.checked.prog 5 Tryz.f5 Rows.ctrlTellsSpec Rows.ctrlTellsRow = true := by
  simp only [joinedFacts, jf_laid, jf_rowed, jf_inPlace, jf_unfollowed, jf_recurses, jf_named, Bool.and_true]
  kernel_rfl
theorem said : Rows.CtrlTellsSaid :=
  OpenClaim.holds_of_wide 5 Tryz.f5 rfl rfl rfl rfl rfl rfl rfl ⟨rfl, rfl, rfl, rfl, rfl⟩ rfl rfl rfl rfl rfl (by kernel_rfl) Tryz.func5 jf
    (of_decide_eq_true (by kernel_rfl)) (by unfold Func.isWrapper; first | (rw [if_pos (by decide +kernel)]; kernel_rfl) | (rw [if_neg (by decide +kernel)]; exact ⟨rfl, rfl⟩))
    (fun os started H enc _ => lifted os started H enc)

theorem plain (f : FuncId) (fn : Func) (hf : Tryz.pinned.checked.prog.funcNamed "podesta/podestalaw24.CtrlTells" = some f) (hfn : Tryz.pinned.checked.prog.funcs[f]? = some fn) :
    true = Tryz.pinned.checked.prog.looks [] ∧ ∀ (j : Nat) t, fn.params[j]? = some t → Tryz.pinned.checked.prog.wantsStandIn t = false := by
  obtain rfl : f = 5 := Option.some.inj ((show Tryz.prog.funcNamed "podesta/podestalaw24.CtrlTells" = some 5 by kernel_rfl).symm.trans hf) |>.symm
  obtain rfl : fn = Tryz.f5 := (Option.some.inj (Tryz.func5.symm.trans hfn)).symm
  refine ⟨by kernel_rfl, fun j t ht => ?_⟩
  rw [Tryz.params5] at ht
  have hm : t ∈ [5, 3, 39] := by simpa using Array.mem_of_getElem? ht
  have hall : ([5, 3, 39].all fun u => !Tryz.prog.wantsStandIn u) = true := by kernel_rfl
  exact (show Tryz.prog.wantsStandIn t = false by simpa using List.all_eq_true.1 hall t hm)

theorem card : Rows.CtrlTellsCardSaid :=
  Claim7.holds_tied_plain_at .later [] _ _ _ _ said (fun _ h => by cases h) (by kernel_rfl) (fun _ h => by cases h) ctrlTells_row_tie rfl ⟨rfl, rfl⟩ (by kernel_rfl) rfl plain (by kernel_rfl)
end ctrlTells
end Go.Proofs.YtaojcchakhjgoaaGreatDoor
