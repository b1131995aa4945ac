/- 'ParseLevels': the statement's card, proved. -/
import Derived.Test.YtpdjbblldljocaaDoorCards
import Derived.Test.YtpdjbblldljocaaDoorTie
import Derived.WalkKit
import Derived.ProofKit
import Derived.OpenShut
import Derived.ChangeMaps5
import Derived.LaidMore
import Derived.Stop.LaidErr
import Derived.MakeChecks
import Derived.Test.YtpdjbblldljocaaDoorExH
import Derived.Test.YtpdjbblldljocaaDoorExL
import Derived.Test.YtpdjbblldljocaaDoorPrs1
import Derived.Test.YtpdjbblldljocaaDoorPrs2
import Derived.Test.YtpdjbblldljocaaDoorPrs3
import Derived.Test.YtpdjbblldljocaaDoorPrs4
import Derived.Test.YtpdjbblldljocaaDoorPrs5
import Derived.Test.YtpdjbblldljocaaDoorPrs6
import Derived.Test.YtpdjbblldljocaaDoorPrs7
import Derived.Test.YtpdjbblldljocaaDoorPrs8
namespace Go.Proofs.YtpdjbblldljocaaDoor
open Go Go.ChangeShapes Go.WideShapes Go.ChangeAt Go.RowKit
namespace parseLevels
theorem own : ownKnob Tryd.prog.godebug = none := by kernel_rfl
theorem laid : laidOutB Tryd.prog = true := by kernel_rfl

/-- What the evaluation leaves open: two messages, two numbers. -/
def sig (a b : Addr) (x y : Int) : Exe.Sig := fun i => match i with
  | 0 => .pointer (some a)
  | 1 => .pointer (some b)
  | 2 => .int .u8 x
  | 3 => .int .u8 y
  | _ => .bool false
theorem sig_one (a b : Addr) (x y : Int) : ∀ i, (sig a b x y i).oneCell' = true := fun i => by
  unfold sig
  split <;> rfl

theorem facts (a b : Addr) (x y : Int) (i j : Nat) (hx : Int.tmod x 9 = i) (hy : Int.tmod y 9 = j) : Exe.FactsOk Tryd.prog (sig a b x y) (Exe.Prs.FF i j) := by
  intro op c d v e ρ t p q u u' hc hd
  have rem : ∀ z : Int, ∀ k : Nat, Int.tmod z 9 = k → ∃ u, Exe.VR (sig a b x y) ρ (.int .u8 (.ofNat k)) u ∧ ∀ w, (do eqGuard .rem t p q (.int .u8 z) (.int .u8 9); binOp .rem t (.int .u8 z) (.int .u8 9) : Sem Value).run Tryd.prog w = .ok u w := fun z k hk =>
    Exe.binO_ok (P := Tryd.prog) (σ := sig a b x y) (ρ := ρ) (F := fun _ _ _ => none) Exe.facts_none (op := .rem) (t := t) (p := p) (q := q) (a := .int .u8 z) (b := .int .u8 9) (by
      show Exe.iOp .rem .u8 .u8 z 9 = _
      show Exe.forceI (Int.tmod z 9) (fun n => some (Exe.AV.int .u8 n)) = _
      rw [Exe.forceI_eq, hk]; rfl) rfl rfl
  unfold Exe.Prs.FF at e
  split at e
  · rename_i s m
    obtain ⟨h9, e⟩ := Exe.ite_some.1 e
    have h9 := Nat.eq_of_beq_eq_true h9
    subst h9
    have hd : u' = .int .u8 9 := hd
    subst hd
    have hc : u = sig a b x y s := hc
    cases h2 : Nat.beq s 2 with
    | true =>
      rw [h2] at e
      cases e
      have h2 := Nat.eq_of_beq_eq_true h2
      subst h2 hc
      exact rem x i hx
    | false =>
      rw [h2] at e
      obtain ⟨h3, e⟩ := Exe.ite_some.1 (show Exe.ite' (Nat.beq s 3) (some (Exe.AV.int .u8 (.ofNat j))) = some v from e)
      cases e
      have h3 := Nat.eq_of_beq_eq_true h3
      subst h3 hc
      exact rem y j hy
  · cases e

set_option maxRecDepth 100000 in
theorem known (σ : Exe.Sig) (N : Nat) : Exe.KOk Tryd.prog σ N Exe.Prs.KK :=
  Exe.kok_index Tryd.func62 (by kernel_rfl) (by kernel_rfl) (by kernel_rfl) (by kernel_rfl)

theorem ev (i j : Nat) (hi : i < 9) (hj : j < 9) (e0 e1 tp : Nat) : Exe.isT (Exe.Prs.levels i j e0 e1 tp) = true := by
  obtain rfl | rfl | rfl | rfl | rfl | rfl | rfl | rfl | rfl : i = 0 ∨ i = 1 ∨ i = 2 ∨ i = 3 ∨ i = 4 ∨ i = 5 ∨ i = 6 ∨ i = 7 ∨ i = 8 := by omega
  · exact Exe.Prs.lev_0 j hj e0 e1 tp
  · exact Exe.Prs.lev_1 j hj e0 e1 tp
  · exact Exe.Prs.lev_2 j hj e0 e1 tp
  · exact Exe.Prs.lev_3 j hj e0 e1 tp
  · exact Exe.Prs.lev_4 j hj e0 e1 tp
  · exact Exe.Prs.lev_5 j hj e0 e1 tp
  · exact Exe.Prs.lev_6 j hj e0 e1 tp
  · exact Exe.Prs.lev_7 j hj e0 e1 tp
  · exact Exe.Prs.lev_8 j hj e0 e1 tp

theorem tmod9 (x : Int) (h0 : 0 ≤ x) : ∃ i : Nat, Int.tmod x 9 = i ∧ i < 9 := ⟨(Int.tmod x 9).toNat, by
  have := Int.tmod_eq_emod_of_nonneg (b := 9) h0
  omega, by
  have := Int.tmod_eq_emod_of_nonneg (b := 9) h0
  omega⟩

set_option maxRecDepth 100000 in
theorem walk (x y : Int) (hx : 0 ≤ x) (hy : 0 ≤ y) (w : World) (hG : ∃ (a b : Addr) (e0 e1 tp : TypeId) (fz0 fz1 : Nat × Nat), w.heap[0]? = some (.cells #[.iface tp (.pointer (some a))] e0 fz0) ∧ w.heap[1]? = some (.cells #[.iface tp (.pointer (some b))] e1 fz1)) : Calls Tryd.prog 3 #[.int .u8 x, .int .u8 y] w fun e w' => e = .returned (.bool true) ∧ w.keptBut w' (fun _ => False) ∧ Below w.heap.size w w' := by
  obtain ⟨a, b, e0, e1, tp, fz0, fz1, h0, h1⟩ := hG
  obtain ⟨i, hi, hi9⟩ := tmod9 x hx
  obtain ⟨j, hj, hj9⟩ := tmod9 y hy
  obtain ⟨hs, hro⟩ := Exe.HR.start2 (σ := sig a b x y) (N := 6) (w := w) (nx := 100) (a0 := .ifc tp (.sym 0)) (a1 := .ifc tp (.sym 1)) (by omega) (by omega) rfl rfl (fun ρ => ⟨_, rfl, rfl⟩) (fun ρ => ⟨_, rfl, rfl⟩) h0 h1
  have e := ev i j hi9 hj9 e0 e1 tp
  unfold Exe.Prs.levels at e
  have hK := known (sig a b x y) 6
  have hN : 6 = Tryd.prog.globals.size := by kernel_rfl
  have hKf : Exe.Prs.KK 3 = none := by kernel_rfl
  have hv : Exe.LR (sig a b x y) (Exe.rho0 6 w) [.sym 2, .sym 3] (#[.int .u8 x, .int .u8 y] : Array Value).toList := ⟨_, _, rfl, rfl, _, _, rfl, rfl, rfl⟩
  exact Exe.top (facts a b x y i j hi hj) hK (sig_one a b x y) hN hKf e hs hro hv

theorem door_met (os : Os) (args : Array Value) : laidMetH Tryd.prog Rows.parseLevelsRow.laid ((World.doorLaid Tryd.prog 200 os).forCall (fun _ _ => 0) ⟨#[], args, []⟩).memory :=
  laidMetH_of_parts3 (fuel := 8) (laidMet_of_run' 8 (by kernel_rfl) (by kernel_rfl)) (by kernel_rfl) (by kernel_rfl)

theorem row87 (u : TypeId) (h : Tryd.prog.typeName? 3 u = some "*errors.errorString") : u = 87 :=
  typeName_ptr_named (nm := "errors.errorString") (by kernel_rfl) (by kernel_rfl) (by decide) u (by simpa using h)

theorem cells_of_var {W : World} {n : String} {g : Nat} {cs : Array Value} (hg : Tryd.prog.globalNamed n = some g) (h : W.var? Tryd.prog n = some cs) : ∃ e fz, W.heap[g]? = some (.cells cs e fz) := by
  unfold World.var? at h
  rw [hg, Option.bind_some] at h
  split at h
  · rename_i cs' e fz hc
    cases h
    exact ⟨e, fz, hc⟩
  · cases h

theorem glob_of {W : World} (hL : laidMetH Tryd.prog Rows.parseLevelsRow.laid W) : ∃ (a b : Addr) (e0 e1 tp : TypeId) (fz0 fz1 : Nat × Nat), W.heap[0]? = some (.cells #[.iface tp (.pointer (some a))] e0 fz0) ∧ W.heap[1]? = some (.cells #[.iface tp (.pointer (some b))] e1 fz1) := by
  have hp : laidMet Tryd.prog Rows.parseLevelsRow.laid W := (Go.MakeChecks.laidMetH_plain Tryd.prog Rows.parseLevelsRow.laid W (by kernel_rfl)) ▸ hL
  have h1 := hp.tail.tail.tail
  have h2 := h1.tail
  have gR : Tryd.prog.globalNamed "strconv.ErrRange" = some 1 := by kernel_rfl
  have gS : Tryd.prog.globalNamed "strconv.ErrSyntax" = some 0 := by kernel_rfl
  obtain ⟨a1, s1, hv1, _⟩ := laid_sentinel h1 gR (ti := 56) (by kernel_rfl) Tryd.underlying56 row87 Tryd.underlying87 Tryd.underlying89 rfl rfl Tryd.underlying9 (by kernel_rfl) (by kernel_rfl)
  obtain ⟨a0, s0, hv0, _⟩ := laid_sentinel h2 gS (ti := 56) (by kernel_rfl) Tryd.underlying56 row87 Tryd.underlying87 Tryd.underlying89 rfl rfl Tryd.underlying9 (by kernel_rfl) (by kernel_rfl)
  obtain ⟨e0, fz0, k0⟩ := cells_of_var gS hv0
  obtain ⟨e1, fz1, k1⟩ := cells_of_var gR hv1
  exact ⟨a0, a1, e0, e1, 87, fz0, fz1, k0, k1⟩

theorem nonneg {x : Int} (h : (Lit.int .u8 x).wf = true) : 0 ≤ x := by
  simp [Lit.wf] at h
  have h2 : IntKind.u8.min = 0 := rfl
  omega

set_option maxRecDepth 100000 in
theorem lifted (os : Os) (started : os.Started) (H : Type) (enc : TypeId × Value → H) :
    ReturnsInHanded {} Tryd.checked os 3 .any (fun w args => (Rows.parseLevelsSpec.pre enc Tryd.prog Tryd.f3 [] false w args ∧ laidMetH Tryd.prog Rows.parseLevelsRow.laid w) ∧ sizedMet enc Tryd.prog Tryd.f3 (OpenSpec.ofChange Rows.parseLevelsSpec) false w args)
      (Rows.parseLevelsSpec.post enc Tryd.prog Tryd.f3 false true false false) := by
  refine returnsInHanded_of_change_and (C := Tryd.checked) (X := fun w _ => laidMetH Tryd.prog Rows.parseLevelsRow.laid w) (fun _ _ _ hh h => h.of_heap hh) own started (by kernel_rfl) Tryd.func3
    (ChangeSpec.witness_shaped (enc := enc) (C := Tryd.checked) (os := os) (X := fun w _ => laidMetH Tryd.prog Rows.parseLevelsRow.laid w) false (World.doorLaid Tryd.prog 200 os) #[.int .u8 0, .int .u8 0] 8 rfl (World.shaped_of_RefB (by kernel_rfl) (by kernel_rfl)) (by kernel_rfl) (by kernel_rfl) (by kernel_rfl) (door_met os _)) ?_
  intro W base args ds gs before hval0 hW _ _ hL _
  have hval : ∀ (j : Nat) t v, Tryd.f3.params[j]? = some t → args[j]? = some v → Value.okWide Tryd.prog W .any base t v := hval0
  have hW' := hW
  obtain ⟨p, q, hA0, hV, rfl, _, _⟩ := hW
  have hA : DataW.TrodAll enc Tryd.prog W 0 (fun _ => true) true Tryd.f3.params.toList args.toList ds p := hA0
  have hT := hA
  rw [Tryd.params3] at hA hval
  obtain ⟨v0, vs0, d0, ds0, p0, q0, hargs, rfl, rfl, h0, r0⟩ := trodAll_cons hA
  obtain ⟨v1, vs1, d1, ds1, p1, q1, rfl, rfl, rfl, h1, r1⟩ := trodAll_cons r0
  obtain ⟨rfl, rfl, rfl⟩ := trodAll_nil r1
  obtain rfl : args = #[v0, v1] := by cases args; simp_all
  obtain ⟨rfl, rfl⟩ := trodVars_none hV
  obtain ⟨x, rfl, rfl, rfl, w0⟩ := open_int Tryd.underlying5 (hval 0 5 v0 rfl rfl) h0
  obtain ⟨y, rfl, rfl, rfl, w1⟩ := open_int Tryd.underlying5 (hval 1 5 v1 rfl rfl) h1
  refine (walk x y (nonneg w0) (nonneg w1) W (glob_of hL)).mono fun e W' ⟨he, hk, hb⟩ => ?_
  subst he
  have hlt := hW'.lt
  exact ⟨_, rfl, Exe.post_of_below (pv := []) hW' (fun _ _ _ => trodAll_cons_mk (shut_bool Tryd.underlying4 _) trodAll_mk0) (fun sp hs => Exe.trodAll_stays laid hb (by kernel_rfl) hT (fun x hx => hlt x (by simp at hx)) (fun x hx => hs x (by simp at hx))) (fun _ _ => rfl) rfl
    hk hb (ok_one (by kernel_rfl) rfl (okWide_bool_mk Tryd.underlying4 _))⟩

theorem said : Rows.ParseLevelsSaid :=
  OpenClaim.holds_of_wide 3 Tryd.f3 rfl rfl rfl rfl rfl rfl rfl ⟨rfl, rfl, rfl, rfl, rfl⟩ rfl rfl rfl rfl rfl (by kernel_rfl) Tryd.func3 (by kernel_rfl)
    (of_decide_eq_true (by kernel_rfl)) (by unfold Func.isWrapper; first | (rw [if_pos (by decide +kernel)]; kernel_rfl) | (rw [if_neg (by decide +kernel)]; exact ⟨rfl, rfl⟩))
    (fun os started H enc _ => lifted os started H enc)

theorem plain (f : FuncId) (fn : Func) (hf : Tryd.pinned.checked.prog.funcNamed "podesta/podestalaw16.ParseLevels" = some f) (hfn : Tryd.pinned.checked.prog.funcs[f]? = some fn) :
    true = Tryd.pinned.checked.prog.looks [] ∧ ∀ (j : Nat) t, fn.params[j]? = some t → Tryd.pinned.checked.prog.wantsStandIn t = false := by
  obtain rfl : f = 3 := Option.some.inj ((show Tryd.prog.funcNamed "podesta/podestalaw16.ParseLevels" = some 3 by kernel_rfl).symm.trans hf) |>.symm
  obtain rfl : fn = Tryd.f3 := (Option.some.inj (Tryd.func3.symm.trans hfn)).symm
  refine ⟨by kernel_rfl, fun j t ht => ?_⟩
  rw [Tryd.params3] at ht
  have hm : t ∈ [5, 5] := by simpa using Array.mem_of_getElem? ht
  have hall : ([5, 5].all fun u => !Tryd.prog.wantsStandIn u) = true := by kernel_rfl
  exact (show Tryd.prog.wantsStandIn t = false by simpa using List.all_eq_true.1 hall t hm)

theorem card : Rows.ParseLevelsCardSaid :=
  Claim7.holds_tied_plain_at .later [] _ _ _ _ said (fun _ h => by cases h) (by kernel_rfl) (fun _ h => by cases h) parseLevels_row_tie rfl ⟨rfl, rfl⟩ (by kernel_rfl) rfl plain (by kernel_rfl)
end parseLevels
end Go.Proofs.YtpdjbblldljocaaDoor
