/- 'HeadOrder': the statement, proved. -/
import Derived.Test.YtfhimlhpjbjfgaaRows
import Derived.WalkKit
import Derived.ProofKit
import Derived.OpenShut
import Derived.ChangeMaps5
import Derived.Test.YtfhimlhpjbjfgaaHeadOrd
import Derived.Test.YtfhimlhpjbjfgaaPodL
namespace Go.Proofs.Ytfhimlhpjbjfgaa.headOrder
open Go Go.ChangeShapes Go.WideShapes Go.ChangeAt Go.RowKit Go.Pod

theorem own : ownKnob Try.prog.godebug = none := by kernel_rfl
theorem laid : laidOutB Try.prog = true := by kernel_rfl

theorem walk (a0 : Value) (g0 : Nat → Int) (hg0 : ∀ x : Cx, (VR x (.ints .u64 12 g0)).v a0) (_w0 : ∀ i, i < 12 → (Lit.int .u64 (g0 i)).wf = true) (a1 : Value) (g1 : Nat → Int) (hg1 : ∀ x : Cx, (VR x (.ints .u64 12 g1)).v a1) (_w1 : ∀ i, i < 12 → (Lit.int .u64 (g1 i)).wf = true) (a2 : Value) (g2 : Nat → Int) (hg2 : ∀ x : Cx, (VR x (.ints .u64 12 g2)).v a2) (_w2 : ∀ i, i < 12 → (Lit.int .u64 (g2 i)).wf = true) (w : World) : Calls Try.prog 8 #[a0, a1, a2] w fun e w' => e = .returned (.bool true) ∧ Grown w w' ∧ Below w.heap.size w w' :=
  calls_of_fc (fc8 64 g0 g1 g2 (order g0 g1 g2)) rfl w (fun _ => False) (fun _ h => h.elim) ⟨rfl, fun i d e => by
    match i, e with
    | 0, e => cases e; exact hg0 _
    | 1, e => cases e; exact hg1 _
    | 2, e => cases e; exact hg2 _⟩

set_option maxRecDepth 100000 in
theorem lifted (os : Os) (started : os.Started) (H : Type) (enc : TypeId × Value → H) :
    ReturnsInHanded {} Try.checked os 8 .any (Rows.headOrderSpec.pre6 enc Try.prog Try.f8 Rows.headOrderRow.domain false) (Rows.headOrderSpec.post enc Try.prog Try.f8 false true false false) := by
  refine returnsInHanded_of_change (C := Try.checked) own started (by kernel_rfl) Try.func8
    (ChangeSpec.witness6 (enc := enc) (C := Try.checked) false ⟨#[], #[(.agg (Array.replicate 12 (.int .u64 0))), (.agg (Array.replicate 12 (.int .u64 0))), (.agg (Array.replicate 12 (.int .u64 0)))], []⟩ 8 (by kernel_rfl) (by kernel_rfl) (by kernel_rfl) (by kernel_rfl)) ?_
  intro W base args ds gs before hval0 hW _ _
  have hval : ∀ (j : Nat) t v, Try.f8.params[j]? = some t → args[j]? = some v → Value.okWide Try.prog W .any base t v := hval0
  have hW' := hW
  obtain ⟨p, q, hA0, hV, rfl, _, _⟩ := hW
  have hA : DataW.TrodAll enc Try.prog W 0 (fun _ => true) true Try.f8.params.toList args.toList ds p := hA0
  have hT := hA
  rw [Try.params8] at hA hval
  obtain ⟨v0, vs0, d0, ds0, p0, q0, hargs, rfl, rfl, h0, r0⟩ := trodAll_cons hA
  obtain ⟨v1, vs1, d1, ds1, p1, q1, rfl, rfl, rfl, h1, r1⟩ := trodAll_cons r0
  obtain ⟨v2, vs2, d2, ds2, p2, q2, rfl, rfl, rfl, h2, r2⟩ := trodAll_cons r1
  obtain ⟨rfl, rfl, rfl⟩ := trodAll_nil r2
  obtain rfl : args = #[v0, v1, v2] := by cases args; simp_all
  obtain ⟨rfl, rfl⟩ := trodVars_none hV
  obtain ⟨g0, w0, hg0⟩ := open_ints Try.underlying31 Try.underlying22 (by kernel_rfl) (by kernel_rfl) (hval 0 31 v0 rfl rfl) h0
  obtain ⟨g1, w1, hg1⟩ := open_ints Try.underlying31 Try.underlying22 (by kernel_rfl) (by kernel_rfl) (hval 1 31 v1 rfl rfl) h1
  obtain ⟨g2, w2, hg2⟩ := open_ints Try.underlying31 Try.underlying22 (by kernel_rfl) (by kernel_rfl) (hval 2 31 v2 rfl rfl) h2
  refine (walk v0 g0 hg0 w0 v1 g1 hg1 w1 v2 g2 hg2 w2 W).mono fun e W' ⟨he, hg, hb⟩ => ?_
  subst he
  have hlt := hW'.lt
  exact ⟨_, rfl, post_of_same (pv := []) hW' (fun _ _ _ => trodAll_cons_mk (shut_bool Try.underlying4 _) trodAll_mk0) (fun sp hs => trodAll_stays laid hb (by kernel_rfl) hT (fun x hx => hlt x (by simpa using hx)) (fun x hx => hs x (by simpa using hx))) (fun _ _ => rfl) rfl
    (hg.frame _) hg.2.1 (ok_one (by kernel_rfl) rfl (okWide_bool_mk Try.underlying4 _))⟩

theorem proved : Rows.HeadOrderSaid :=
  OpenClaim.holds_of_wide 8 Try.f8 rfl rfl rfl rfl rfl rfl rfl ⟨rfl, rfl, rfl, rfl, rfl⟩ rfl rfl rfl rfl rfl (by kernel_rfl) Try.func8 (by kernel_rfl)
    (of_decide_eq_true (by kernel_rfl)) (by unfold Func.isWrapper; first | (rw [if_pos (by decide +kernel)]; kernel_rfl) | (rw [if_neg (by decide +kernel)]; exact ⟨rfl, rfl⟩))
    (fun os started H enc _ => lifted os started H enc)
end Go.Proofs.Ytfhimlhpjbjfgaa.headOrder
