/- 'TxnMany': the statement, proved: the kernel runs the law at each rest by 12, from call to call. -/
import Derived.Test.YtflmelafomlllaaGreatRows
import Derived.WalkKit
import Derived.ProofKit
import Derived.OpenShut
import Derived.ChangeMaps5
import Derived.SizedLaws
import Derived.Test.YtflmelafomlllaaGreatExH
import Derived.Test.YtflmelafomlllaaGreatExL
import Derived.Test.YtflmelafomlllaaGreatTxmS
namespace Go.Proofs.YtflmelafomlllaaGreat
open Go Go.ChangeShapes Go.WideShapes Go.ChangeAt Go.RowKit
namespace txnMany
theorem own : ownKnob Tryz.prog.godebug = none := by kernel_rfl
theorem laid : laidOutB Tryz.prog = true := by kernel_rfl

theorem fact_rem {i : Nat} {op : BinOp} {c d v : Exe.AV} (e : (Exe.Txm.FQ i).bin op c d = some v) : op = .rem ∧ c = .sym 0 ∧ d = .int .u8 (.ofNat 12) ∧ v = .int .u8 (.ofNat i) := by
  unfold Exe.Txm.FQ at e
  dsimp only at e
  split at e
  · rename_i s m
    obtain ⟨h3, e⟩ := Exe.ite_some.1 e
    obtain ⟨h4, e⟩ := Exe.ite_some.1 e
    have h3 := Nat.eq_of_beq_eq_true h3
    have h4 := Nat.eq_of_beq_eq_true h4
    subst h3 h4
    cases e
    exact ⟨rfl, rfl, rfl, rfl⟩
  · cases e

set_option maxRecDepth 100000 in
theorem facts {σ : Exe.Sig} {x : Int} (h0 : σ 0 = .int .u8 x) {i : Nat} (hx : Int.tmod x 12 = i) : Exe.FactsOk Tryz.prog σ (Exe.Txm.FQ i) where
  bin := by
    intro op c d v e ρ t p q u u' hc hd
    obtain ⟨rfl, rfl, rfl, rfl⟩ := fact_rem e
    have hc : u = σ 0 := hc
    rw [h0] at hc
    cases hc; cases hd
    exact Exe.binO_ok (P := Tryz.prog) (σ := σ) (ρ := ρ) (F := Exe.Txm.F0) Exe.facts_none (op := .rem) (t := t) (p := p) (q := q) (a := .int .u8 x) (b := .int .u8 ((12 : Nat) : Int)) (by
        show Exe.iOp .rem .u8 .u8 x (12 : Nat) = _
        show Exe.ite' true (Bool.rec (Exe.forceI (Int.tmod x (12 : Nat)) fun n => some (Exe.AV.int .u8 n)) none (Exe.ieq (12 : Nat) 0)) = _
        rw [Exe.ieq_eq, decide_eq_false (by omega)]
        show Exe.forceI (Int.tmod x (12 : Nat)) (fun n => some (Exe.AV.int .u8 n)) = _
        rw [Exe.forceI_eq, show ((12 : Nat) : Int) = 12 from rfl, hx]; rfl) rfl rfl
  conv := fun _ _ _ _ e => nomatch e

theorem tmods (x : Int) (m : Nat) (hm : 0 < m) (h0 : 0 ≤ x) : ∃ i : Nat, Int.tmod x m = i ∧ i < m := ⟨(Int.tmod x m).toNat, by
  have := Int.tmod_eq_emod_of_nonneg (b := m) h0
  have := Int.emod_nonneg x (b := m) (by omega)
  omega, by
  have := Int.tmod_eq_emod_of_nonneg (b := m) h0
  have := Int.emod_lt_of_pos x (b := m) (by omega)
  omega⟩

set_option maxRecDepth 100000 in
theorem u8_of {W : World} {base : Nat} {v : Value} (h : Value.okWide Tryz.prog W .any base 5 v) : ∃ x : Int, v = .int .u8 x ∧ 0 ≤ x := by
  unfold Value.okWide at h
  rw [Tryz.underlying5] at h
  unfold Cell.okWide at h
  rw [Tryz.underlying5] at h
  unfold Cell.ok at h
  rw [Tryz.underlying5] at h
  cases v <;> simp at h
  obtain ⟨rfl, h⟩ := h
  refine ⟨_, rfl, ?_⟩
  simp [IntKind.has] at h
  exact h.1

set_option maxRecDepth 100000 in
theorem walk {base : Nat} (W : World) (v0 : Value) (h0 : Value.okWide Tryz.prog W .any base 5 v0) : Calls Tryz.prog 3 #[v0] W fun e w' => e = .returned (.bool true) ∧ W.keptBut w' (fun _ => False) ∧ Below W.heap.size W w' := by
  obtain ⟨x, rfl, hx0⟩ := u8_of h0
  obtain ⟨i, hi, hi12⟩ := tmods x 12 (by omega) hx0
  have hl : ∀ y ∈ [Value.int .u8 x], y.oneCell' = true := fun y hy => by
    cases List.mem_singleton.1 hy
    rfl
  obtain ⟨hs, hro⟩ := Exe.HR.start0 (σ := Exe.sigL [Value.int .u8 x]) (N := Tryz.prog.globals.size) (w := W) (nx := 100) (Nat.le_of_ble_eq_true (by kernel_rfl))
  have e := Exe.Txm.ev i hi12
  unfold Exe.Txm.many at e
  refine Exe.top (facts rfl hi) (Exe.Txm.known1 (Exe.sigL_one hl)) (Exe.sigL_one hl) rfl rfl e hs hro (vs := #[Value.int .u8 x]) ?_
  exact ⟨_, _, rfl, Exe.one_sym (pre := []) (post := []) (by simp) (by simp), rfl⟩

set_option maxRecDepth 100000 in
theorem lifted (os : Os) (started : os.Started) (H : Type) (enc : TypeId × Value → H) :
    ReturnsInHanded {} Tryz.checked os 3 .any (Rows.txnManySpec.pre6 enc Tryz.prog Tryz.f3 Rows.txnManyRow.domain false) (Rows.txnManySpec.post enc Tryz.prog Tryz.f3 false true false false) := by
  refine returnsInHanded_of_change_sized (C := Tryz.checked) own started (by kernel_rfl) Tryz.func3
    (ChangeSpec.witness6 (enc := enc) (C := Tryz.checked) false ⟨#[], #[(.int .u8 0)], []⟩ 8 (by kernel_rfl) (by kernel_rfl) (by kernel_rfl) (by kernel_rfl)) ?_
  intro W base args ds gs before hval0 hW _ _ _
  have hval : ∀ (j : Nat) t v, Tryz.f3.params[j]? = some t → args[j]? = some v → Value.okWide Tryz.prog W .any base t v := hval0
  have hW' := hW
  obtain ⟨p, q, hA0, hV, rfl, _, _⟩ := hW
  have hA : DataW.TrodAll enc Tryz.prog W 0 (fun _ => true) true Tryz.f3.params.toList args.toList ds p := hA0
  have hT := hA
  rw [Tryz.params3] at hA hval
  obtain ⟨v0, vs0, d0, ds0, p0, q0, hargs, rfl, rfl, h0, r0⟩ := trodAll_cons hA
  obtain ⟨rfl, rfl, rfl⟩ := trodAll_nil r0
  obtain rfl : args = #[v0] := by cases args; simp_all
  obtain ⟨rfl, rfl⟩ := trodVars_none hV
  refine (walk W v0 (hval 0 5 v0 rfl rfl)).mono fun e W' ⟨he, hk, hb⟩ => ?_
  subst he
  have hlt := hW'.lt
  exact ⟨_, rfl, Exe.post_of_below (pv := []) hW' (fun _ _ _ => trodAll_cons_mk (shut_bool Tryz.underlying4 _) trodAll_mk0) (fun sp hs => Exe.trodAll_stays laid hb (by kernel_rfl) hT (fun x hx => hlt x (by simpa using hx)) (fun x hx => hs x (by simpa using hx))) (fun _ _ => rfl) rfl
    hk hb (ok_one (by kernel_rfl) rfl (okWide_bool_mk Tryz.underlying4 _))⟩

theorem proved : Rows.TxnManySaid :=
  OpenClaim.holds_of_wide 3 Tryz.f3 rfl rfl rfl rfl rfl rfl rfl ⟨rfl, rfl, rfl, rfl, rfl⟩ rfl rfl rfl rfl rfl (by kernel_rfl) Tryz.func3 (by kernel_rfl)
    (of_decide_eq_true (by kernel_rfl)) (by unfold Func.isWrapper; first | (rw [if_pos (by decide +kernel)]; kernel_rfl) | (rw [if_neg (by decide +kernel)]; exact ⟨rfl, rfl⟩))
    (fun os started H enc _ => lifted os started H enc)
end txnMany
end Go.Proofs.YtflmelafomlllaaGreat
