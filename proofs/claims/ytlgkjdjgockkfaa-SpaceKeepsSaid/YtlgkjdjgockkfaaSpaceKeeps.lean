/- 'SpaceKeeps': the statement, proved. -/
import Derived.Test.YtlgkjdjgockkfaaRows
import Derived.WalkKit
import Derived.ProofKit
import Derived.OpenShut
import Derived.ChangeMaps5
import Derived.Test.YtlgkjdjgockkfaaSpF
import Derived.Test.YtlgkjdjgockkfaaPodT
namespace Go.Proofs.Ytlgkjdjgockkfaa
open Go Go.ChangeShapes Go.WideShapes Go.ChangeAt Go.RowKit Go.Pod

theorem opn_S_api_Cube : Opn (.pair (.ints .u64 12) (.pair (.ints .u64 12) .unit)) S_api_Cube S_api_Cube.wf S_api_Cube.d := by
  intro d h
  obtain ⟨d0, r0, h0, ⟨d1, r1, h1, h2, e1⟩, e0⟩ := h
  obtain ⟨x0, w0, s0⟩ := (opn_ints .u64 12) d0 h0
  obtain ⟨x1, w1, s1⟩ := (opn_ints .u64 12) d1 h1
  subst e0 e1 h2
  exact ⟨⟨x0, x1⟩, ⟨w0, w1, trivial⟩, (sub_cons s0 (sub_cons s1 (Sub.refl _)))⟩

namespace spaceKeeps
theorem own : ownKnob Try.prog.godebug = none := by kernel_rfl
theorem laid : laidOutB Try.prog = true := by kernel_rfl

theorem walk (x0 : (Nat × (Nat → S_api_Cube))) (w0 : (x0.1 ≤ maxLen ∧ ∀ i, i < x0.1 → S_api_Cube.wf (x0.2 i))) (x1 : (Nat × (Nat → S_api_Cube))) (w1 : (x1.1 ≤ maxLen ∧ ∀ i, i < x1.1 → S_api_Cube.wf (x1.2 i))) (w : World) (v0 : Value) (r0 : (VR (cx0 w) (D.lit x0.1 24 fun i => (D.cons (D.ints .u64 12 (x0.2 i).f0) (D.cons (D.ints .u64 12 (x0.2 i).f1) D.nil)))).v v0) (v1 : Value) (r1 : (VR (cx0 w) (D.lit x1.1 24 fun i => (D.cons (D.ints .u64 12 (x1.2 i).f0) (D.cons (D.ints .u64 12 (x1.2 i).f1) D.nil)))).v v1) : Calls Try.prog 8 #[v0, v1] w fun e w' => e = .returned (.bool true) ∧ w.keptBut w' (fun _ => False) ∧ Below w.heap.size w w' := by
  obtain ⟨fu, h⟩ := pl_SpaceKeeps x0 w0 x1 w1
  exact calls_of_fc (fc_law03_SpaceKeeps fu x0 x1 h) rfl w (fun _ => False) (fun _ h => h.elim) ⟨rfl, fun i d e => by
    match i, e with
    | 0, e => cases e; exact r0
    | 1, e => cases e; exact r1⟩

set_option maxRecDepth 100000 in
theorem lifted (os : Os) (started : os.Started) (H : Type) (enc : TypeId × Value → H) :
    ReturnsInHanded {} Try.checked os 8 .any (Rows.spaceKeepsSpec.pre6 enc Try.prog Try.f8 Rows.spaceKeepsRow.domain false) (Rows.spaceKeepsSpec.post enc Try.prog Try.f8 false true false false) := by
  refine returnsInHanded_of_change (C := Try.checked) own started (by kernel_rfl) Try.func8
    (ChangeSpec.witness6 (enc := enc) (C := Try.checked) false ⟨#[], #[(.slice none 0 0), (.slice none 0 0)], []⟩ 8 (by kernel_rfl) (by kernel_rfl) (by kernel_rfl) (by kernel_rfl)) ?_
  intro W base args ds gs before hval0 hW _ _
  have hval : ∀ (j : Nat) t v, Try.f8.params[j]? = some t → args[j]? = some v → Value.okWide Try.prog W .any base t v := hval0
  have hW' := hW
  obtain ⟨p, q, hA0, hV, rfl, _, _⟩ := hW
  have hA : DataW.TrodAll enc Try.prog W 0 (fun _ => true) true Try.f8.params.toList args.toList ds p := hA0
  have hT := hA
  rw [Try.params8] at hA hval
  obtain ⟨v0, vs0, d0, ds0, p0, q0, hargs, rfl, rfl, h0, r0⟩ := trodAll_cons hA
  obtain ⟨v1, vs1, d1, ds1, p1, q1, rfl, rfl, rfl, h1, r1⟩ := trodAll_cons r0
  obtain ⟨rfl, rfl, rfl⟩ := trodAll_nil r1
  obtain rfl : args = #[v0, v1] := by cases args; simp_all
  obtain ⟨rfl, rfl⟩ := trodVars_none hV
  obtain ⟨e0, t0, s0⟩ := open_arg (f := 60) (T := (.slice (.pair (.ints .u64 12) (.pair (.ints .u64 12) .unit)))) (by kernel_rfl) (hval 0 37 v0 rfl rfl) h0
  obtain ⟨x0, y0, z0⟩ := (opn_slice (S_api_Cube.mk (fun _ => 0) (fun _ => 0)) opn_S_api_Cube) e0 t0
  obtain ⟨e1, t1, s1⟩ := open_arg (f := 60) (T := (.slice (.pair (.ints .u64 12) (.pair (.ints .u64 12) .unit)))) (by kernel_rfl) (hval 1 37 v1 rfl rfl) h1
  obtain ⟨x1, y1, z1⟩ := (opn_slice (S_api_Cube.mk (fun _ => 0) (fun _ => 0)) opn_S_api_Cube) e1 t1
  refine (walk x0 y0 x1 y1 W v0 ((z0.2 _).v _ s0) v1 ((z1.2 _).v _ s1)).mono fun e W' ⟨he, hk, hb⟩ => ?_
  subst he
  have hlt := hW'.lt
  exact ⟨_, rfl, post_of_below (pv := []) hW' (fun _ _ _ => trodAll_cons_mk (shut_bool Try.underlying4 _) trodAll_mk0) (fun sp hs => trodAll_stays laid hb (by kernel_rfl) hT (fun x hx => hlt x (by simpa using hx)) (fun x hx => hs x (by simpa using hx))) (fun _ _ => rfl) rfl
    hk hb (ok_one (by kernel_rfl) rfl (okWide_bool_mk Try.underlying4 _))⟩

theorem proved : Rows.SpaceKeepsSaid :=
  OpenClaim.holds_of_wide 8 Try.f8 rfl rfl rfl rfl rfl rfl rfl ⟨rfl, rfl, rfl, rfl, rfl⟩ rfl rfl rfl rfl rfl (by kernel_rfl) Try.func8 (by kernel_rfl)
    (of_decide_eq_true (by kernel_rfl)) (by unfold Func.isWrapper; first | (rw [if_pos (by decide +kernel)]; kernel_rfl) | (rw [if_neg (by decide +kernel)]; exact ⟨rfl, rfl⟩))
    (fun os started H enc _ => lifted os started H enc)
end spaceKeeps
end Go.Proofs.Ytlgkjdjgockkfaa
