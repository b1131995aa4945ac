/- 'LexLong': the statement's card, proved. -/
import Derived.Test.YtlgkjdjgockkfaaDoorCards
import Derived.Test.YtlgkjdjgockkfaaDoorTie
import Derived.WalkKit
import Derived.ProofKit
import Derived.OpenShut
import Derived.ChangeMaps5
import Derived.LaidMore
import Derived.Stop.LaidErr
import Derived.MakeChecks
import Derived.Test.YtlgkjdjgockkfaaDoorLexO
import Derived.Test.YtlgkjdjgockkfaaDoorPodL
import Derived.Test.YtlgkjdjgockkfaaDoorPodT
namespace Go.Proofs.YtlgkjdjgockkfaaDoor
open Go Go.ChangeShapes Go.WideShapes Go.ChangeAt Go.RowKit Go.Pod
namespace lexLong
theorem own : ownKnob Tryd.prog.godebug = none := by kernel_rfl
theorem laid : laidOutB Tryd.prog = true := by kernel_rfl

theorem walk (x0 : Int) (w0 : (Lit.int .u16 x0).wf = true) (w : World) (hG : ∀ q, q ∈ Glob → ∃ cs e fz, w.heap[q.1]? = some (.cells cs e fz) ∧ q.2 cs) (v0 : Value) (r0 : (VR (cx0 w) (D.int .u16 x0)).v v0) : Calls Tryd.prog 6 #[v0] w fun e w' => e = .returned (.bool true) ∧ w.keptBut w' (fun _ => False) ∧ Below w.heap.size w w' := by
  obtain ⟨fu, h⟩ := pl_LexLong x0 w0
  exact calls_of_fc (fc_law15_LexLong fu x0 h) rfl w (fun _ => False) (fun _ h => h.elim) ⟨rfl, fun i d e => by
    match i, e with
    | 0, e => cases e; exact r0⟩ hG

theorem door_met (os : Os) (args : Array Value) : laidMetH Tryd.prog Rows.lexLongRow.laid ((World.doorLaid Tryd.prog 200 os).forCall (fun _ _ => 0) ⟨#[], args, []⟩).memory :=
  laidMetH_of_parts3 (fuel := 8) (laidMet_of_run' 8 (by kernel_rfl) (by kernel_rfl)) (by kernel_rfl) (by kernel_rfl)

theorem row67 (u : TypeId) (h : Tryd.prog.typeName? 3 u = some "*errors.errorString") : u = 67 :=
  typeName_ptr_named (nm := "errors.errorString") (by kernel_rfl) (by kernel_rfl) (by decide) u (by simpa using h)

theorem cells_of_var {W : World} {n : String} {g : Nat} {cs : Array Value} (hg : Tryd.prog.globalNamed n = some g) (h : W.var? Tryd.prog n = some cs) : ∃ e fz, W.heap[g]? = some (.cells cs e fz) := by
  unfold World.var? at h
  rw [hg, Option.bind_some] at h
  split at h
  · rename_i cs' e fz hc
    cases h
    exact ⟨e, fz, hc⟩
  · cases h

theorem glob_of {W : World} (hL : laidMetH Tryd.prog Rows.lexLongRow.laid W) : ∀ q, q ∈ Glob → ∃ cs e fz, W.heap[q.1]? = some (.cells cs e fz) ∧ q.2 cs := by
  have hp : laidMet Tryd.prog Rows.lexLongRow.laid W := (Go.MakeChecks.laidMetH_plain Tryd.prog Rows.lexLongRow.laid W (by kernel_rfl)) ▸ hL
  have h1 := hp.tail.tail.tail
  have h2 := h1.tail
  have gR : Tryd.prog.globalNamed "strconv.ErrRange" = some 1 := by kernel_rfl
  have gS : Tryd.prog.globalNamed "strconv.ErrSyntax" = some 0 := by kernel_rfl
  obtain ⟨a1, s1, hv1, _⟩ := laid_sentinel h1 gR (ti := 44) (by kernel_rfl) Tryd.underlying44 row67 Tryd.underlying67 Tryd.underlying69 rfl rfl Tryd.underlying9 (by kernel_rfl) (by kernel_rfl)
  obtain ⟨a0, s0, hv0, _⟩ := laid_sentinel h2 gS (ti := 44) (by kernel_rfl) Tryd.underlying44 row67 Tryd.underlying67 Tryd.underlying69 rfl rfl Tryd.underlying9 (by kernel_rfl) (by kernel_rfl)
  intro q hq
  simp only [Glob, List.mem_cons, List.not_mem_nil, or_false] at hq
  rcases hq with rfl | rfl
  · obtain ⟨e, fz, k⟩ := cells_of_var gS hv0
    exact ⟨_, e, fz, k, _, _, rfl⟩
  · obtain ⟨e, fz, k⟩ := cells_of_var gR hv1
    exact ⟨_, e, fz, k, _, _, rfl⟩

set_option maxRecDepth 100000 in
theorem lifted (os : Os) (started : os.Started) (H : Type) (enc : TypeId × Value → H) :
    ReturnsInHanded {} Tryd.checked os 6 .any (fun w args => (Rows.lexLongSpec.pre enc Tryd.prog Tryd.f6 [] false w args ∧ laidMetH Tryd.prog Rows.lexLongRow.laid w) ∧ sizedMet enc Tryd.prog Tryd.f6 (OpenSpec.ofChange Rows.lexLongSpec) false w args)
      (Rows.lexLongSpec.post enc Tryd.prog Tryd.f6 false true false false) := by
  refine returnsInHanded_of_change_and (C := Tryd.checked) (X := fun w _ => laidMetH Tryd.prog Rows.lexLongRow.laid w) (fun _ _ _ hh h => h.of_heap hh) own started (by kernel_rfl) Tryd.func6
    (ChangeSpec.witness_shaped (enc := enc) (C := Tryd.checked) (os := os) (X := fun w _ => laidMetH Tryd.prog Rows.lexLongRow.laid w) false (World.doorLaid Tryd.prog 200 os) #[.int .u16 0] 8 rfl (World.shaped_of_RefB (by kernel_rfl) (by kernel_rfl)) (by kernel_rfl) (by kernel_rfl) (by kernel_rfl) (door_met os _)) ?_
  intro W base args ds gs before hval0 hW _ _ hL _
  have hval : ∀ (j : Nat) t v, Tryd.f6.params[j]? = some t → args[j]? = some v → Value.okWide Tryd.prog W .any base t v := hval0
  have hW' := hW
  obtain ⟨p, q, hA0, hV, rfl, _, _⟩ := hW
  have hA : DataW.TrodAll enc Tryd.prog W 0 (fun _ => true) true Tryd.f6.params.toList args.toList ds p := hA0
  have hT := hA
  rw [Tryd.params6] at hA hval
  obtain ⟨v0, vs0, d0, ds0, p0, q0, hargs, rfl, rfl, h0, r0⟩ := trodAll_cons hA
  obtain ⟨rfl, rfl, rfl⟩ := trodAll_nil r0
  obtain rfl : args = #[v0] := by cases args; simp_all
  obtain ⟨rfl, rfl⟩ := trodVars_none hV
  obtain ⟨e0, t0, s0⟩ := open_arg (f := 60) (T := .int .u16) (by kernel_rfl) (hval 0 36 v0 rfl rfl) h0
  obtain ⟨x0, y0, z0⟩ := opn_int .u16 e0 t0
  refine (walk x0 y0 W (glob_of hL) v0 ((z0.2 _).v _ s0)).mono fun e W' ⟨he, hk, hb⟩ => ?_
  subst he
  have hlt := hW'.lt
  exact ⟨_, rfl, post_of_below (pv := []) hW' (fun _ _ _ => trodAll_cons_mk (shut_bool Tryd.underlying4 _) trodAll_mk0) (fun sp hs => trodAll_stays laid hb (by kernel_rfl) hT (fun x hx => hlt x (by simpa using hx)) (fun x hx => hs x (by simpa using hx))) (fun _ _ => rfl) rfl
    hk hb (ok_one (by kernel_rfl) rfl (okWide_bool_mk Tryd.underlying4 _))⟩

theorem said : Rows.LexLongSaid :=
  OpenClaim.holds_of_wide 6 Tryd.f6 rfl rfl rfl rfl rfl rfl rfl ⟨rfl, rfl, rfl, rfl, rfl⟩ rfl rfl rfl rfl rfl (by kernel_rfl) Tryd.func6 (by kernel_rfl)
    (of_decide_eq_true (by kernel_rfl)) (by unfold Func.isWrapper; first | (rw [if_pos (by decide +kernel)]; kernel_rfl) | (rw [if_neg (by decide +kernel)]; exact ⟨rfl, rfl⟩))
    (fun os started H enc _ => lifted os started H enc)

theorem plain (f : FuncId) (fn : Func) (hf : Tryd.pinned.checked.prog.funcNamed "podesta/podestalaw15.LexLong" = some f) (hfn : Tryd.pinned.checked.prog.funcs[f]? = some fn) :
    true = Tryd.pinned.checked.prog.looks [] ∧ ∀ (j : Nat) t, fn.params[j]? = some t → Tryd.pinned.checked.prog.wantsStandIn t = false := by
  obtain rfl : f = 6 := Option.some.inj ((show Tryd.prog.funcNamed "podesta/podestalaw15.LexLong" = some 6 by kernel_rfl).symm.trans hf) |>.symm
  obtain rfl : fn = Tryd.f6 := (Option.some.inj (Tryd.func6.symm.trans hfn)).symm
  refine ⟨by kernel_rfl, fun j t ht => ?_⟩
  rw [Tryd.params6] at ht
  have hm : t ∈ [36] := by simpa using Array.mem_of_getElem? ht
  have hall : ([36].all fun u => !Tryd.prog.wantsStandIn u) = true := by kernel_rfl
  exact (show Tryd.prog.wantsStandIn t = false by simpa using List.all_eq_true.1 hall t hm)

theorem card : Rows.LexLongCardSaid :=
  Claim7.holds_tied_plain_at .later [] _ _ _ _ said (fun _ h => by cases h) (by kernel_rfl) (fun _ h => by cases h) lexLong_row_tie rfl ⟨rfl, rfl⟩ (by kernel_rfl) rfl plain (by kernel_rfl)
end lexLong
end Go.Proofs.YtlgkjdjgockkfaaDoor
