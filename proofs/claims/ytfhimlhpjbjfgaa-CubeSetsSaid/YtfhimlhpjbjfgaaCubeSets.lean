/- 'CubeSets': the statement, proved. -/
import Derived.Test.YtfhimlhpjbjfgaaRows
import Derived.WalkKit
import Derived.ProofKit
import Derived.OpenShut
import Derived.ChangeMaps5
import Derived.Test.YtfhimlhpjbjfgaaCubeI
import Derived.Test.YtfhimlhpjbjfgaaPodT
import Derived.Test.YtfhimlhpjbjfgaaPodT
namespace Go.Proofs.Ytfhimlhpjbjfgaa
open Go Go.ChangeShapes Go.WideShapes Go.ChangeAt Go.RowKit Go.Pod

theorem opn_S_api_Cube : Opn (.pair (.ints .u64 12) (.pair (.ints .u64 12) .unit)) S_api_Cube S_api_Cube.wf S_api_Cube.d := by
  intro d h
  obtain ⟨d0, r0, h0, ⟨d1, r1, h1, h2, e1⟩, e0⟩ := h
  obtain ⟨x0, w0, s0⟩ := (opn_ints .u64 12) d0 h0
  obtain ⟨x1, w1, s1⟩ := (opn_ints .u64 12) d1 h1
  subst e0 e1 h2
  exact ⟨⟨x0, x1⟩, ⟨w0, w1, trivial⟩, (sub_cons s0 (sub_cons s1 (Sub.refl _)))⟩

namespace cubeSets
theorem own : ownKnob Try.prog.godebug = none := by kernel_rfl
theorem laid : laidOutB Try.prog = true := by kernel_rfl

theorem walk (x0 : S_api_Cube) (w0 : S_api_Cube.wf x0) (x1 : S_api_Cube) (w1 : S_api_Cube.wf x1) (x2 : (Nat → Int)) (w2 : (∀ i, i < 12 → (Lit.int .u64 (x2 i)).wf = true)) (w : World) (v0 : Value) (r0 : (VR (cx0 w) (D.cons (D.ints .u64 12 x0.f0) (D.cons (D.ints .u64 12 x0.f1) D.nil))).v v0) (v1 : Value) (r1 : (VR (cx0 w) (D.cons (D.ints .u64 12 x1.f0) (D.cons (D.ints .u64 12 x1.f1) D.nil))).v v1) (v2 : Value) (r2 : (VR (cx0 w) (D.ints .u64 12 x2)).v v2) : Calls Try.prog 12 #[v0, v1, v2] w fun e w' => e = .returned (.bool true) ∧ w.keptBut w' (fun _ => False) ∧ Below w.heap.size w w' := by
  obtain ⟨fu, h⟩ := pl_CubeSets x0 w0 x1 w1 x2 w2
  exact calls_of_fc (fc_law02_CubeSets fu x0 x1 x2 h) rfl w (fun _ => False) (fun _ h => h.elim) ⟨rfl, fun i d e => by
    match i, e with
    | 0, e => cases e; exact r0
    | 1, e => cases e; exact r1
    | 2, e => cases e; exact r2⟩

set_option maxRecDepth 100000 in
theorem lifted (os : Os) (started : os.Started) (H : Type) (enc : TypeId × Value → H) :
    ReturnsInHanded {} Try.checked os 12 .any (Rows.cubeSetsSpec.pre6 enc Try.prog Try.f12 Rows.cubeSetsRow.domain false) (Rows.cubeSetsSpec.post enc Try.prog Try.f12 false true false false) := by
  refine returnsInHanded_of_change (C := Try.checked) own started (by kernel_rfl) Try.func12
    (ChangeSpec.witness6 (enc := enc) (C := Try.checked) false ⟨#[], #[(.agg #[.int .u64 0, .int .u64 0, .int .u64 0, .int .u64 0, .int .u64 0, .int .u64 0, .int .u64 0, .int .u64 0, .int .u64 0, .int .u64 0, .int .u64 0, .int .u64 0, .int .u64 0, .int .u64 0, .int .u64 0, .int .u64 0, .int .u64 0, .int .u64 0, .int .u64 0, .int .u64 0, .int .u64 0, .int .u64 0, .int .u64 0, .int .u64 0]), (.agg #[.int .u64 0, .int .u64 0, .int .u64 0, .int .u64 0, .int .u64 0, .int .u64 0, .int .u64 0, .int .u64 0, .int .u64 0, .int .u64 0, .int .u64 0, .int .u64 0, .int .u64 0, .int .u64 0, .int .u64 0, .int .u64 0, .int .u64 0, .int .u64 0, .int .u64 0, .int .u64 0, .int .u64 0, .int .u64 0, .int .u64 0, .int .u64 0]), (.agg #[.int .u64 0, .int .u64 0, .int .u64 0, .int .u64 0, .int .u64 0, .int .u64 0, .int .u64 0, .int .u64 0, .int .u64 0, .int .u64 0, .int .u64 0, .int .u64 0])], []⟩ 8 (by kernel_rfl) (by kernel_rfl) (by kernel_rfl) (by kernel_rfl)) ?_
  intro W base args ds gs before hval0 hW _ _
  have hval : ∀ (j : Nat) t v, Try.f12.params[j]? = some t → args[j]? = some v → Value.okWide Try.prog W .any base t v := hval0
  have hW' := hW
  obtain ⟨p, q, hA0, hV, rfl, _, _⟩ := hW
  have hA : DataW.TrodAll enc Try.prog W 0 (fun _ => true) true Try.f12.params.toList args.toList ds p := hA0
  have hT := hA
  rw [Try.params12] at hA hval
  obtain ⟨v0, vs0, d0, ds0, p0, q0, hargs, rfl, rfl, h0, r0⟩ := trodAll_cons hA
  obtain ⟨v1, vs1, d1, ds1, p1, q1, rfl, rfl, rfl, h1, r1⟩ := trodAll_cons r0
  obtain ⟨v2, vs2, d2, ds2, p2, q2, rfl, rfl, rfl, h2, r2⟩ := trodAll_cons r1
  obtain ⟨rfl, rfl, rfl⟩ := trodAll_nil r2
  obtain rfl : args = #[v0, v1, v2] := by cases args; simp_all
  obtain ⟨rfl, rfl⟩ := trodVars_none hV
  obtain ⟨e0, t0, s0⟩ := open_arg (f := 60) (T := (.pair (.ints .u64 12) (.pair (.ints .u64 12) .unit))) (by kernel_rfl) (hval 0 45 v0 rfl rfl) h0
  obtain ⟨x0, y0, z0⟩ := opn_S_api_Cube e0 t0
  obtain ⟨e1, t1, s1⟩ := open_arg (f := 60) (T := (.pair (.ints .u64 12) (.pair (.ints .u64 12) .unit))) (by kernel_rfl) (hval 1 45 v1 rfl rfl) h1
  obtain ⟨x1, y1, z1⟩ := opn_S_api_Cube e1 t1
  obtain ⟨e2, t2, s2⟩ := open_arg (f := 60) (T := (.ints .u64 12)) (by kernel_rfl) (hval 2 31 v2 rfl rfl) h2
  obtain ⟨x2, y2, z2⟩ := (opn_ints .u64 12) e2 t2
  refine (walk x0 y0 x1 y1 x2 y2 W v0 ((z0.2 _).v _ s0) v1 ((z1.2 _).v _ s1) v2 ((z2.2 _).v _ s2)).mono fun e W' ⟨he, hk, hb⟩ => ?_
  subst he
  have hlt := hW'.lt
  exact ⟨_, rfl, post_of_below (pv := []) hW' (fun _ _ _ => trodAll_cons_mk (shut_bool Try.underlying4 _) trodAll_mk0) (fun sp hs => trodAll_stays laid hb (by kernel_rfl) hT (fun x hx => hlt x (by simpa using hx)) (fun x hx => hs x (by simpa using hx))) (fun _ _ => rfl) rfl
    hk hb (ok_one (by kernel_rfl) rfl (okWide_bool_mk Try.underlying4 _))⟩

theorem proved : Rows.CubeSetsSaid :=
  OpenClaim.holds_of_wide 12 Try.f12 rfl rfl rfl rfl rfl rfl rfl ⟨rfl, rfl, rfl, rfl, rfl⟩ rfl rfl rfl rfl rfl (by kernel_rfl) Try.func12 (by kernel_rfl)
    (of_decide_eq_true (by kernel_rfl)) (by unfold Func.isWrapper; first | (rw [if_pos (by decide +kernel)]; kernel_rfl) | (rw [if_neg (by decide +kernel)]; exact ⟨rfl, rfl⟩))
    (fun os started H enc _ => lifted os started H enc)
end cubeSets
end Go.Proofs.Ytfhimlhpjbjfgaa
