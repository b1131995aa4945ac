/- 'ShadowBack': the statement, proved. -/
import Derived.Test.YtbggcjkpjmnbaaaGreatRows
import Derived.WalkKit
import Derived.ProofKit
import Derived.OpenShut
import Derived.ChangeMaps5
import Derived.Test.YtbggcjkpjmnbaaaGreatFnC
import Derived.Test.YtbggcjkpjmnbaaaGreatShB
import Derived.Test.YtbggcjkpjmnbaaaGreatPodU
namespace Go.Proofs.YtbggcjkpjmnbaaaGreat
open Go Go.ChangeShapes Go.WideShapes Go.ChangeAt Go.RowKit Go.Pod

theorem opn_S_api_Cube : OpnS (.pair (.ints .u64 12) (.pair (.ints .u64 12) .unit)) S_api_Cube S_api_Cube.wf S_api_Cube.d := by
  intro d h
  obtain ⟨d0, r0, h0, ⟨d1, r1, h1, h2, e1⟩, e0⟩ := h
  obtain ⟨x0, w0, s0⟩ := (opns_ints .u64 12) d0 h0
  obtain ⟨x1, w1, s1⟩ := (opns_ints .u64 12) d1 h1
  subst e0 e1 h2
  exact ⟨⟨x0, x1⟩, ⟨w0, w1, trivial⟩, (sub_cons s0 (sub_cons s1 (Sub.refl _)))⟩

theorem opn_S_api_Act : OpnS (.pair (.int .i64) (.pair (.int .i64) (.pair (.int .i64) (.pair (.int .u64) .unit)))) S_api_Act S_api_Act.wf S_api_Act.d := by
  intro d h
  obtain ⟨d0, r0, h0, ⟨d1, r1, h1, ⟨d2, r2, h2, ⟨d3, r3, h3, h4, e3⟩, e2⟩, e1⟩, e0⟩ := h
  obtain ⟨x0, w0, s0⟩ := (opns_int .i64) d0 h0
  obtain ⟨x1, w1, s1⟩ := (opns_int .i64) d1 h1
  obtain ⟨x2, w2, s2⟩ := (opns_int .i64) d2 h2
  obtain ⟨x3, w3, s3⟩ := (opns_int .u64) d3 h3
  subst e0 e1 e2 e3 h4
  exact ⟨⟨x0, x1, x2, x3⟩, ⟨w0, w1, w2, w3, trivial⟩, (sub_cons s0 (sub_cons s1 (sub_cons s2 (sub_cons s3 (Sub.refl _)))))⟩

theorem opn_S_api_Mod : OpnS (.pair (.int .i64) (.pair (.pair (.ints .u64 12) (.pair (.ints .u64 12) .unit)) (.pair (.int .i64) (.pair (.slice (.pair (.int .i64) (.pair (.int .i64) (.pair (.int .i64) (.pair (.int .u64) .unit)))) 32) (.pair (.int .i64) (.pair (.int .i64) (.pair (.int .i64) (.pair .bool .unit)))))))) S_api_Mod S_api_Mod.wf S_api_Mod.d := by
  intro d h
  obtain ⟨d0, r0, h0, ⟨d1, r1, h1, ⟨d2, r2, h2, ⟨d3, r3, h3, ⟨d4, r4, h4, ⟨d5, r5, h5, ⟨d6, r6, h6, ⟨d7, r7, h7, h8, e7⟩, e6⟩, e5⟩, e4⟩, e3⟩, e2⟩, e1⟩, e0⟩ := h
  obtain ⟨x0, w0, s0⟩ := (opns_int .i64) d0 h0
  obtain ⟨x1, w1, s1⟩ := opn_S_api_Cube d1 h1
  obtain ⟨x2, w2, s2⟩ := (opns_int .i64) d2 h2
  obtain ⟨x3, w3, s3⟩ := (opns_slice S_api_Act.z opn_S_api_Act 32) d3 h3
  obtain ⟨x4, w4, s4⟩ := (opns_int .i64) d4 h4
  obtain ⟨x5, w5, s5⟩ := (opns_int .i64) d5 h5
  obtain ⟨x6, w6, s6⟩ := (opns_int .i64) d6 h6
  obtain ⟨x7, w7, s7⟩ := opns_bool d7 h7
  subst e0 e1 e2 e3 e4 e5 e6 e7 h8
  exact ⟨⟨x0, x1, x2, x3, x4, x5, x6, x7⟩, ⟨w0, w1, w2, w3, w4, w5, w6, w7, trivial⟩, (sub_cons s0 (sub_cons s1 (sub_cons s2 (sub_cons s3 (sub_cons s4 (sub_cons s5 (sub_cons s6 (sub_cons s7 (Sub.refl _)))))))))⟩

theorem opn_S_api_Change : OpnS (.pair (.int .i64) (.pair (.pair (.int .i64) (.pair (.pair (.ints .u64 12) (.pair (.ints .u64 12) .unit)) (.pair (.int .i64) (.pair (.slice (.pair (.int .i64) (.pair (.int .i64) (.pair (.int .i64) (.pair (.int .u64) .unit)))) 32) (.pair (.int .i64) (.pair (.int .i64) (.pair (.int .i64) (.pair .bool .unit)))))))) .unit)) S_api_Change S_api_Change.wf S_api_Change.d := by
  intro d h
  obtain ⟨d0, r0, h0, ⟨d1, r1, h1, h2, e1⟩, e0⟩ := h
  obtain ⟨x0, w0, s0⟩ := (opns_int .i64) d0 h0
  obtain ⟨x1, w1, s1⟩ := opn_S_api_Mod d1 h1
  subst e0 e1 h2
  exact ⟨⟨x0, x1⟩, ⟨w0, w1, trivial⟩, (sub_cons s0 (sub_cons s1 (Sub.refl _)))⟩

namespace shadowBack
theorem own : ownKnob Tryz.prog.godebug = none := by kernel_rfl
theorem laid : laidOutB Tryz.prog = true := by kernel_rfl

theorem walk (x0 : (Nat × (Nat → S_api_Change))) (w0 : (x0.1 ≤ maxLen ∧ x0.1 * 272 ≤ reachBytes ∧ ∀ i, i < x0.1 → S_api_Change.wf (x0.2 i))) (x1 : (Nat × (Nat → S_api_Change))) (w1 : (x1.1 ≤ maxLen ∧ x1.1 * 272 ≤ reachBytes ∧ ∀ i, i < x1.1 → S_api_Change.wf (x1.2 i))) (x2 : Bool) (w2 : True) (w : World) (v0 : Value) (r0 : (VR (cx0 w) (S_api_Change.L x0.1 x0.2)).v v0) (v1 : Value) (r1 : (VR (cx0 w) (S_api_Change.L x1.1 x1.2)).v v1) (v2 : Value) (r2 : (VR (cx0 w) (D.bool x2)).v v2) : Calls Tryz.prog 3 #[v0, v1, v2] w fun e w' => e = .returned (.bool true) ∧ w.keptBut w' (fun _ => False) ∧ Below w.heap.size w w' := by
  obtain ⟨fu, h⟩ := pl_ShadowBack x0 w0 x1 w1 x2 w2
  exact calls_of_fc (fc_law22_ShadowBack fu x0 x1 x2 h) rfl w (fun _ => False) (fun _ h => h.elim) ⟨rfl, fun i d e => by
    match i, e with
    | 0, e => cases e; exact r0
    | 1, e => cases e; exact r1
    | 2, e => cases e; exact r2⟩

set_option maxRecDepth 100000 in
theorem lifted (os : Os) (started : os.Started) (H : Type) (enc : TypeId × Value → H) :
    ReturnsInHanded {} Tryz.checked os 3 .any (Rows.shadowBackSpec.pre6 enc Tryz.prog Tryz.f3 Rows.shadowBackRow.domain false) (Rows.shadowBackSpec.post enc Tryz.prog Tryz.f3 false true false false) := by
  refine returnsInHanded_of_change_sized (C := Tryz.checked) own started (by kernel_rfl) Tryz.func3
    (ChangeSpec.witness6 (enc := enc) (C := Tryz.checked) false ⟨#[], #[(.slice none 0 0), (.slice none 0 0), (.bool false)], []⟩ 8 (by kernel_rfl) (by kernel_rfl) (by kernel_rfl) (by kernel_rfl)) ?_
  intro W base args ds gs before hval0 hW _ hz _
  have hval : ∀ (j : Nat) t v, Tryz.f3.params[j]? = some t → args[j]? = some v → Value.okWide Tryz.prog W .any base t v := hval0
  have hW' := hW
  obtain ⟨p, q, hA0, hV, rfl, _, _⟩ := hW
  have hA : DataW.TrodAll enc Tryz.prog W 0 (fun _ => true) true Tryz.f3.params.toList args.toList ds p := hA0
  have hT := hA
  rw [Tryz.params3] at hA hval
  obtain ⟨v0, vs0, d0, ds0, p0, q0, hargs, rfl, rfl, h0, r0⟩ := trodAll_cons hA
  obtain ⟨v1, vs1, d1, ds1, p1, q1, rfl, rfl, rfl, h1, r1⟩ := trodAll_cons r0
  obtain ⟨v2, vs2, d2, ds2, p2, q2, rfl, rfl, rfl, h2, r2⟩ := trodAll_cons r1
  obtain ⟨rfl, rfl, rfl⟩ := trodAll_nil r2
  obtain rfl : args = #[v0, v1, v2] := by cases args; simp_all
  obtain ⟨rfl, rfl⟩ := trodVars_none hV
  obtain ⟨e0, t0, s0⟩ := open_argS (f := 60) (T := (.slice (.pair (.int .i64) (.pair (.pair (.int .i64) (.pair (.pair (.ints .u64 12) (.pair (.ints .u64 12) .unit)) (.pair (.int .i64) (.pair (.slice (.pair (.int .i64) (.pair (.int .i64) (.pair (.int .i64) (.pair (.int .u64) .unit)))) 32) (.pair (.int .i64) (.pair (.int .i64) (.pair (.int .i64) (.pair .bool .unit)))))))) .unit)) 272)) (by kernel_rfl) (hval 0 22 v0 rfl rfl) h0 fun n hn => by simpa using List.all_eq_true.1 hz _ (DataW.weights_mem_each (j := 0) rfl rfl n hn)
  obtain ⟨x0, y0, z0⟩ := (opns_slice S_api_Change.z opn_S_api_Change 272) e0 t0
  obtain ⟨e1, t1, s1⟩ := open_argS (f := 60) (T := (.slice (.pair (.int .i64) (.pair (.pair (.int .i64) (.pair (.pair (.ints .u64 12) (.pair (.ints .u64 12) .unit)) (.pair (.int .i64) (.pair (.slice (.pair (.int .i64) (.pair (.int .i64) (.pair (.int .i64) (.pair (.int .u64) .unit)))) 32) (.pair (.int .i64) (.pair (.int .i64) (.pair (.int .i64) (.pair .bool .unit)))))))) .unit)) 272)) (by kernel_rfl) (hval 1 22 v1 rfl rfl) h1 fun n hn => by simpa using List.all_eq_true.1 hz _ (DataW.weights_mem_each (j := 1) rfl rfl n hn)
  obtain ⟨x1, y1, z1⟩ := (opns_slice S_api_Change.z opn_S_api_Change 272) e1 t1
  obtain ⟨e2, t2, s2⟩ := open_argS (f := 60) (T := .bool) (by kernel_rfl) (hval 2 4 v2 rfl rfl) h2 fun n hn => by simpa using List.all_eq_true.1 hz _ (DataW.weights_mem_each (j := 2) rfl rfl n hn)
  obtain ⟨x2, y2, z2⟩ := opns_bool e2 t2
  refine (walk x0 y0 x1 y1 x2 y2 W v0 ((z0.2 _).v _ s0) v1 ((z1.2 _).v _ s1) v2 ((z2.2 _).v _ s2)).mono fun e W' ⟨he, hk, hb⟩ => ?_
  subst he
  have hlt := hW'.lt
  exact ⟨_, rfl, post_of_below (pv := []) hW' (fun _ _ _ => trodAll_cons_mk (shut_bool Tryz.underlying4 _) trodAll_mk0) (fun sp hs => trodAll_stays laid hb (by kernel_rfl) hT (fun x hx => hlt x (by simpa using hx)) (fun x hx => hs x (by simpa using hx))) (fun _ _ => rfl) rfl
    hk hb (ok_one (by kernel_rfl) rfl (okWide_bool_mk Tryz.underlying4 _))⟩

theorem proved : Rows.ShadowBackSaid :=
  OpenClaim.holds_of_wide 3 Tryz.f3 rfl rfl rfl rfl rfl rfl rfl ⟨rfl, rfl, rfl, rfl, rfl⟩ rfl rfl rfl rfl rfl (by kernel_rfl) Tryz.func3 (by kernel_rfl)
    (of_decide_eq_true (by kernel_rfl)) (by unfold Func.isWrapper; first | (rw [if_pos (by decide +kernel)]; kernel_rfl) | (rw [if_neg (by decide +kernel)]; exact ⟨rfl, rfl⟩))
    (fun os started H enc _ => lifted os started H enc)
end shadowBack
end Go.Proofs.YtbggcjkpjmnbaaaGreat
