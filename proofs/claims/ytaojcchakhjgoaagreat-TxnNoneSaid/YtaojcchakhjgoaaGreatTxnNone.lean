/- 'TxnNone': the statement, proved: the kernel runs the law, whatever its arguments are. -/
import Derived.Test.YtaojcchakhjgoaaGreatRows
import Derived.WalkKit
import Derived.ProofKit
import Derived.OpenShut
import Derived.ChangeMaps5
import Derived.SizedLaws
import Derived.Test.YtaojcchakhjgoaaGreatExO
import Derived.Test.YtaojcchakhjgoaaGreatExL
import Derived.Test.YtaojcchakhjgoaaGreatNonE
namespace Go.Proofs.YtaojcchakhjgoaaGreat
open Go Go.ChangeShapes Go.WideShapes Go.ChangeAt Go.RowKit
namespace txnNone
theorem own : ownKnob Tryz.prog.godebug = none := by kernel_rfl
theorem laid : laidOutB Tryz.prog = true := by kernel_rfl

set_option maxRecDepth 100000 in
theorem walk {base : Nat} (W : World) (v0 : Value) (h0 : Value.okWide Tryz.prog W .any base 3 v0) (v1 : Value) (h1 : Value.okWide Tryz.prog W .any base 58 v1) (v2 : Value) (h2 : Value.okWide Tryz.prog W .any base 33 v2) : Calls Tryz.prog 5 #[v0, v1, v2] W fun e w' => e = .returned (.bool true) ∧ W.keptBut w' (fun _ => False) ∧ Below W.heap.size W w' := by
  have k0 : ∀ x ∈ [v0], x.oneCell' = true := fun x hx => by
    cases List.mem_singleton.1 hx
    exact Exe.okWide_cell (by kernel_rfl) h0
  have k1 : ∀ x ∈ [v1], x.oneCell' = true := fun x hx => by
    cases List.mem_singleton.1 hx
    exact Exe.okWide_cell (by kernel_rfl) h1
  obtain ⟨c2, rfl, s2, k2⟩ := Exe.okWide_agg (by kernel_rfl) h2
  have s2 : c2.size = 48 := s2.trans (by kernel_rfl)
  have hl : ∀ x ∈ [v0] ++ [v1] ++ c2.toList, x.oneCell' = true := fun x hx => by
    simp only [List.mem_append] at hx
    rcases hx with (g0 | g1) | g2
    · exact k0 x g0
    · exact k1 x g1
    · exact k2 x g2
  obtain ⟨hs, hro⟩ := Exe.HR.start0 (σ := Exe.sigL ([v0] ++ [v1] ++ c2.toList)) (N := Tryz.prog.globals.size) (w := W) (nx := 100) (Nat.le_of_ble_eq_true (by kernel_rfl))
  refine Exe.top Exe.facts_none Exe.kok_none (Exe.sigL_one hl) rfl rfl Exe.Non.evTxnNone hs hro (vs := #[v0, v1, .agg c2]) ?_
  exact ⟨_, _, rfl, Exe.one_sym (pre := []) (post := [v1] ++ c2.toList) (by simp) (by simp), _, _, rfl, Exe.one_sym (pre := [v0]) (post := c2.toList) (by simp) (by simp), _, _, rfl, Exe.agg_sym (pre := [v0] ++ [v1]) (post := []) (by simp) s2 (by simp), rfl⟩

set_option maxRecDepth 100000 in
theorem lifted (os : Os) (started : os.Started) (H : Type) (enc : TypeId × Value → H) :
    ReturnsInHanded {} Tryz.checked os 5 .any (Rows.txnNoneSpec.pre6 enc Tryz.prog Tryz.f5 Rows.txnNoneRow.domain false) (Rows.txnNoneSpec.post enc Tryz.prog Tryz.f5 false true false false) := by
  refine returnsInHanded_of_change_sized (C := Tryz.checked) own started (by kernel_rfl) Tryz.func5
    (ChangeSpec.witness6 (enc := enc) (C := Tryz.checked) false ⟨#[], #[(.int .i64 0), (.slice none 0 0), (.agg #[.int .i64 0, .int .i64 0, .int .i64 0, .int .i64 0, .int .u64 0, .int .u64 0, .int .u64 0, .int .u64 0, .int .u64 0, .int .u64 0, .int .u64 0, .int .u64 0, .int .u64 0, .int .u64 0, .int .u64 0, .int .u64 0, .int .u64 0, .int .u64 0, .int .u64 0, .int .u64 0, .int .u64 0, .int .u64 0, .int .u64 0, .int .u64 0, .int .u64 0, .int .u64 0, .int .u64 0, .int .u64 0, .int .i64 0, .slice none 0 0, .int .i64 0, .int .i64 0, .int .i64 0, .bool false, .int .i64 0, .int .u64 0, .int .u64 0, .int .u64 0, .int .u64 0, .int .u64 0, .int .u64 0, .int .u64 0, .int .u64 0, .int .u64 0, .int .u64 0, .int .u64 0, .int .u64 0, .slice none 0 0])], []⟩ 8 (by kernel_rfl) (by kernel_rfl) (by kernel_rfl) (by kernel_rfl)) ?_
  intro W base args ds gs before hval0 hW _ _ _
  have hval : ∀ (j : Nat) t v, Tryz.f5.params[j]? = some t → args[j]? = some v → Value.okWide Tryz.prog W .any base t v := hval0
  have hW' := hW
  obtain ⟨p, q, hA0, hV, rfl, _, _⟩ := hW
  have hA : DataW.TrodAll enc Tryz.prog W 0 (fun _ => true) true Tryz.f5.params.toList args.toList ds p := hA0
  have hT := hA
  rw [Tryz.params5] at hA hval
  obtain ⟨v0, vs0, d0, ds0, p0, q0, hargs, rfl, rfl, h0, r0⟩ := trodAll_cons hA
  obtain ⟨v1, vs1, d1, ds1, p1, q1, rfl, rfl, rfl, h1, r1⟩ := trodAll_cons r0
  obtain ⟨v2, vs2, d2, ds2, p2, q2, rfl, rfl, rfl, h2, r2⟩ := trodAll_cons r1
  obtain ⟨rfl, rfl, rfl⟩ := trodAll_nil r2
  obtain rfl : args = #[v0, v1, v2] := by cases args; simp_all
  obtain ⟨rfl, rfl⟩ := trodVars_none hV
  refine (walk W v0 (hval 0 3 v0 rfl rfl) v1 (hval 1 58 v1 rfl rfl) v2 (hval 2 33 v2 rfl rfl)).mono fun e W' ⟨he, hk, hb⟩ => ?_
  subst he
  have hlt := hW'.lt
  exact ⟨_, rfl, Exe.post_of_below (pv := []) hW' (fun _ _ _ => trodAll_cons_mk (shut_bool Tryz.underlying4 _) trodAll_mk0) (fun sp hs => Exe.trodAll_stays laid hb (by kernel_rfl) hT (fun x hx => hlt x (by simpa using hx)) (fun x hx => hs x (by simpa using hx))) (fun _ _ => rfl) rfl
    hk hb (ok_one (by kernel_rfl) rfl (okWide_bool_mk Tryz.underlying4 _))⟩

theorem proved : Rows.TxnNoneSaid :=
  OpenClaim.holds_of_wide 5 Tryz.f5 rfl rfl rfl rfl rfl rfl rfl ⟨rfl, rfl, rfl, rfl, rfl⟩ rfl rfl rfl rfl rfl (by kernel_rfl) Tryz.func5 (by kernel_rfl)
    (of_decide_eq_true (by kernel_rfl)) (by unfold Func.isWrapper; first | (rw [if_pos (by decide +kernel)]; kernel_rfl) | (rw [if_neg (by decide +kernel)]; exact ⟨rfl, rfl⟩))
    (fun os started H enc _ => lifted os started H enc)
end txnNone
end Go.Proofs.YtaojcchakhjgoaaGreat
