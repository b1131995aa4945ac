/- 'CtrlBusy': the statement's card, proved. -/
import Derived.Test.YtaojcchakhjgoaaGreatDoorCards
import Derived.Test.YtaojcchakhjgoaaGreatDoorTie
import Derived.WalkKit
import Derived.ProofKit
import Derived.OpenShut
import Derived.ChangeMaps5
import Derived.Lay
import Derived.Stop.LaidErr
import Derived.MakeChecks
import Derived.Test.YtaojcchakhjgoaaGreatDoorExO
import Derived.Test.YtaojcchakhjgoaaGreatDoorExL
import Derived.Test.YtaojcchakhjgoaaGreatDoorCtlB0
import Derived.Test.YtaojcchakhjgoaaGreatDoorCtlB1
import Derived.Test.YtaojcchakhjgoaaGreatDoorCtlB2
import Derived.Test.YtaojcchakhjgoaaGreatDoorCtlB3
import Derived.Test.YtaojcchakhjgoaaGreatDoorCtlB4
namespace Go.Proofs.YtaojcchakhjgoaaGreatDoor
open Go Go.ChangeShapes Go.WideShapes Go.ChangeAt Go.RowKit
namespace ctrlBusy
theorem own : ownKnob Tryz.prog.godebug = none := by kernel_rfl
theorem laid : laidOutB Tryz.prog = true := by kernel_rfl

theorem ev (b : Bool) (i : Nat) (hi : i < 5) (es : Nat → Nat) : Exe.isT (Exe.Ctl.busy b i es) = true := by
  match b, i, hi with
  | false, 0, _ => exact Exe.Ctl.busy_false_0 es
  | false, 1, _ => exact Exe.Ctl.busy_false_1 es
  | false, 2, _ => exact Exe.Ctl.busy_false_2 es
  | false, 3, _ => exact Exe.Ctl.busy_false_3 es
  | false, 4, _ => exact Exe.Ctl.busy_false_4 es
  | true, 0, _ => exact Exe.Ctl.busy_true_0 es
  | true, 1, _ => exact Exe.Ctl.busy_true_1 es
  | true, 2, _ => exact Exe.Ctl.busy_true_2 es
  | true, 3, _ => exact Exe.Ctl.busy_true_3 es
  | true, 4, _ => exact Exe.Ctl.busy_true_4 es
  | _, i + 5, h => omega

theorem fact_rem {i : Nat} {op : BinOp} {c d v : Exe.AV} (e : (Exe.Ctl.FB i).bin op c d = some v) : op = .rem ∧ c = .sym 0 ∧ d = .int .u8 (.ofNat 5) ∧ v = .int .u8 (.ofNat i) := by
  unfold Exe.Ctl.FB at e
  dsimp only at e
  split at e
  · rename_i s m
    obtain ⟨h3, e⟩ := Exe.ite_some.1 e
    obtain ⟨h4, e⟩ := Exe.ite_some.1 e
    have h3 := Nat.eq_of_beq_eq_true h3
    have h4 := Nat.eq_of_beq_eq_true h4
    subst h3 h4
    cases e
    exact ⟨rfl, rfl, rfl, rfl⟩
  · cases e

set_option maxRecDepth 100000 in
theorem facts {σ : Exe.Sig} {x : Int} (h0 : σ 0 = .int .u8 x) {i : Nat} (hx : Int.tmod x 5 = i) : Exe.FactsOk Tryz.prog σ (Exe.Ctl.FB i) where
  bin := by
    intro op c d v e ρ t p q u u' hc hd
    obtain ⟨rfl, rfl, rfl, rfl⟩ := fact_rem e
    have hc : u = σ 0 := hc
    rw [h0] at hc
    cases hc; cases hd
    exact Exe.binO_ok (P := Tryz.prog) (σ := σ) (ρ := ρ) (F := ⟨fun _ _ _ => none, fun _ _ _ => none⟩) Exe.facts_none (op := .rem) (t := t) (p := p) (q := q) (a := .int .u8 x) (b := .int .u8 ((5 : Nat) : Int)) (by
        show Exe.iOp .rem .u8 .u8 x (5 : Nat) = _
        show Exe.ite' true (Bool.rec (Exe.forceI (Int.tmod x (5 : Nat)) fun n => some (Exe.AV.int .u8 n)) none (Exe.ieq (5 : Nat) 0)) = _
        rw [Exe.ieq_eq, decide_eq_false (by omega)]
        show Exe.forceI (Int.tmod x (5 : Nat)) (fun n => some (Exe.AV.int .u8 n)) = _
        rw [Exe.forceI_eq, show ((5 : Nat) : Int) = 5 from rfl, hx]; rfl) rfl rfl
  conv := fun _ _ _ _ e => nomatch e

theorem tmods (x : Int) (m : Nat) (hm : 0 < m) (h0 : 0 ≤ x) : ∃ i : Nat, Int.tmod x m = i ∧ i < m := ⟨(Int.tmod x m).toNat, by
  have := Int.tmod_eq_emod_of_nonneg (b := m) h0
  have := Int.emod_nonneg x (b := m) (by omega)
  omega, by
  have := Int.tmod_eq_emod_of_nonneg (b := m) h0
  have := Int.emod_lt_of_pos x (b := m) (by omega)
  omega⟩

set_option maxRecDepth 100000 in
theorem u8_of {W : World} {base : Nat} {v : Value} (h : Value.okWide Tryz.prog W .any base 5 v) : ∃ x : Int, v = .int .u8 x ∧ 0 ≤ x := by
  unfold Value.okWide at h
  rw [Tryz.underlying5] at h
  unfold Cell.okWide at h
  rw [Tryz.underlying5] at h
  unfold Cell.ok at h
  rw [Tryz.underlying5] at h
  cases v <;> simp at h
  obtain ⟨rfl, h⟩ := h
  refine ⟨_, rfl, ?_⟩
  simp [IntKind.has] at h
  exact h.1

set_option maxRecDepth 100000 in
theorem bool_of {W : World} {base : Nat} {v : Value} (h : Value.okWide Tryz.prog W .any base 4 v) : ∃ b : Bool, v = .bool b := by
  unfold Value.okWide at h
  rw [Tryz.underlying4] at h
  unfold Cell.okWide at h
  rw [Tryz.underlying4] at h
  unfold Cell.ok at h
  rw [Tryz.underlying4] at h
  cases v <;> simp at h
  exact ⟨_, rfl⟩

theorem rowErr (u : TypeId) (h : Tryz.prog.typeName? 3 u = some "*errors.errorString") : u = 339 :=
  typeName_ptr_named (nm := "errors.errorString") (by kernel_rfl) (by kernel_rfl) (by decide) u (by simpa using h)

theorem cells_of_var {W : World} {n : String} {g : Nat} {cs : Array Value} (hg : Tryz.prog.globalNamed n = some g) (h : W.var? Tryz.prog n = some cs) : ∃ e fz, W.heap[g]? = some (.cells cs e fz) := by
  unfold World.var? at h
  rw [hg, Option.bind_some] at h
  split at h
  · rename_i cs' e fz hc
    cases h
    exact ⟨e, fz, hc⟩
  · cases h

theorem glob_of {W : World} (hL : laidMetH Tryz.prog Rows.ctrlBusyRow.laid W) : ∃ (a b : Addr) (e0 e1 : TypeId) (fz0 fz1 : Nat × Nat), W.heap[0]? = some (.cells #[.iface 339 (.pointer (some a))] e0 fz0) ∧ W.heap[1]? = some (.cells #[.iface 339 (.pointer (some b))] e1 fz1) := by
  have hp : laidMet Tryz.prog Rows.ctrlBusyRow.laid W := (Go.MakeChecks.laidMetH_plain Tryz.prog Rows.ctrlBusyRow.laid W (by kernel_rfl)) ▸ hL
  have h1 := hp.tail.tail.tail
  have h2 := h1.tail
  have gR : Tryz.prog.globalNamed "strconv.ErrRange" = some 1 := by kernel_rfl
  have gS : Tryz.prog.globalNamed "strconv.ErrSyntax" = some 0 := by kernel_rfl
  obtain ⟨a1, s1, hv1, _⟩ := laid_sentinel h1 gR (ti := 167) (by kernel_rfl) Tryz.underlying167 rowErr Tryz.underlying339 Tryz.underlying341 rfl rfl Tryz.underlying9 (by kernel_rfl) (by kernel_rfl)
  obtain ⟨a0, s0, hv0, _⟩ := laid_sentinel h2 gS (ti := 167) (by kernel_rfl) Tryz.underlying167 rowErr Tryz.underlying339 Tryz.underlying341 rfl rfl Tryz.underlying9 (by kernel_rfl) (by kernel_rfl)
  obtain ⟨e0, fz0, k0⟩ := cells_of_var gS hv0
  obtain ⟨e1, fz1, k1⟩ := cells_of_var gR hv1
  exact ⟨a0, a1, e0, e1, fz0, fz1, k0, k1⟩

set_option maxRecDepth 100000 in
theorem walk {base : Nat} (W : World) (v0 : Value) (h0 : Value.okWide Tryz.prog W .any base 4 v0) (v1 : Value) (h1 : Value.okWide Tryz.prog W .any base 5 v1) (hG : ∃ (a b : Addr) (e0 e1 : TypeId) (fz0 fz1 : Nat × Nat), W.heap[0]? = some (.cells #[.iface 339 (.pointer (some a))] e0 fz0) ∧ W.heap[1]? = some (.cells #[.iface 339 (.pointer (some b))] e1 fz1)) : Calls Tryz.prog 6 #[v0, v1] W fun e w' => e = .returned (.bool true) ∧ W.keptBut w' (fun _ => False) ∧ Below W.heap.size W w' := by
  obtain ⟨a, b, e0, e1, fz0, fz1, hg0, hg1⟩ := hG
  obtain ⟨bb, rfl⟩ := bool_of h0
  obtain ⟨x, rfl, hx0⟩ := u8_of h1
  obtain ⟨i, hi, hi5⟩ := tmods x 5 (by omega) hx0
  have hl : ∀ y ∈ [Value.int .u8 x], y.oneCell' = true := fun y hy => by
    cases List.mem_singleton.1 hy; rfl
  obtain ⟨es, σ, rfl, hs, hro⟩ := Exe.Ctl.start (l := [Value.int .u8 x]) (by simp) hg0 hg1
  have hσ : ∀ i, (Exe.sigL ([Value.int .u8 x] ++ (List.replicate (100 - ([Value.int .u8 x]).length) (.bool false) ++ [.pointer (some a), .pointer (some b)])) i).oneCell' = true := Exe.sigL_one fun x hx => by
    rcases List.mem_append.1 hx with g | g
    · exact hl x g
    · rcases List.mem_append.1 g with g | g
      · rw [(List.mem_replicate.1 g).2]; rfl
      · simp only [List.mem_cons, List.not_mem_nil, or_false] at g
        rcases g with rfl | rfl <;> rfl
  have e := ev bb i hi5 es
  unfold Exe.Ctl.busy at e
  refine Exe.top (facts rfl hi) (Exe.Ctl.known2 hσ) hσ (by kernel_rfl) (by kernel_rfl) e hs hro (vs := #[.bool bb, .int .u8 x]) ?_
  exact ⟨_, _, rfl, rfl, _, _, rfl, Exe.one_sym (pre := []) (post := (List.replicate (100 - ([Value.int .u8 x]).length) (.bool false) ++ [.pointer (some a), .pointer (some b)])) (by simp) (by simp), rfl⟩

set_option maxRecDepth 100000 in
theorem lifted (os : Os) (started : os.Started) (H : Type) (enc : TypeId × Value → H) :
    ReturnsInHanded {} Tryz.checked os 6 .any (fun w args => (Rows.ctrlBusySpec.pre enc Tryz.prog Tryz.f6 [] false w args ∧ laidMetH Tryz.prog Rows.ctrlBusyRow.laid w) ∧ sizedMet enc Tryz.prog Tryz.f6 (OpenSpec.ofChange Rows.ctrlBusySpec) false w args)
      (Rows.ctrlBusySpec.post enc Tryz.prog Tryz.f6 false true false false) := by
  refine returnsInHanded_of_change_and (C := Tryz.checked) (X := fun w _ => laidMetH Tryz.prog Rows.ctrlBusyRow.laid w) (fun _ _ _ hh h => h.of_heap hh) own started (by kernel_rfl) Tryz.func6
    (ChangeSpec.witness_shaped (enc := enc) (C := Tryz.checked) (os := os) (X := fun w _ => laidMetH Tryz.prog Rows.ctrlBusyRow.laid w) false (World.laidAll Tryz.prog os Rows.ctrlBusyRow.laid) #[(.bool false), (.int .u8 0)] 8 (World.laidAll_os _ _ _) (World.shaped_of_ZipB (by kernel_rfl) (by kernel_rfl)) (by kernel_rfl) (by kernel_rfl) (by kernel_rfl)
      (by rw [MakeChecks.laidMetH_plain _ _ _ (by kernel_rfl)]; exact laidMet_laidAll _ (by kernel_rfl) (by kernel_rfl))) ?_
  intro W base args ds gs before hval0 hW _ _ hL _
  have hval : ∀ (j : Nat) t v, Tryz.f6.params[j]? = some t → args[j]? = some v → Value.okWide Tryz.prog W .any base t v := hval0
  have hW' := hW
  obtain ⟨p, q, hA0, hV, rfl, _, _⟩ := hW
  have hA : DataW.TrodAll enc Tryz.prog W 0 (fun _ => true) true Tryz.f6.params.toList args.toList ds p := hA0
  have hT := hA
  rw [Tryz.params6] at hA hval
  obtain ⟨v0, vs0, d0, ds0, p0, q0, hargs, rfl, rfl, h0, r0⟩ := trodAll_cons hA
  obtain ⟨v1, vs1, d1, ds1, p1, q1, rfl, rfl, rfl, h1, r1⟩ := trodAll_cons r0
  obtain ⟨rfl, rfl, rfl⟩ := trodAll_nil r1
  obtain rfl : args = #[v0, v1] := by cases args; simp_all
  obtain ⟨rfl, rfl⟩ := trodVars_none hV
  refine (walk W v0 (hval 0 4 v0 rfl rfl) v1 (hval 1 5 v1 rfl rfl) (glob_of hL)).mono fun e W' ⟨he, hk, hb⟩ => ?_
  subst he
  have hlt := hW'.lt
  exact ⟨_, rfl, Exe.post_of_below (pv := []) hW' (fun _ _ _ => trodAll_cons_mk (shut_bool Tryz.underlying4 _) trodAll_mk0) (fun sp hs => Exe.trodAll_stays laid hb (by kernel_rfl) hT (fun x hx => hlt x (by simpa using hx)) (fun x hx => hs x (by simpa using hx))) (fun _ _ => rfl) rfl
    hk hb (ok_one (by kernel_rfl) rfl (okWide_bool_mk Tryz.underlying4 _))⟩

theorem jf_laid : laidOutB Tryz.pinned.checked.prog = true := by kernel_rfl
theorem jf_rowed : mapsRowed Tryz.pinned.checked.prog = true := by kernel_rfl
theorem jf_inPlace : (Rows.ctrlBusyRow.inPlace == Tryz.pinned.checked.prog.inPlace 6) = true := by kernel_rfl
theorem jf_unfollowed : (Rows.ctrlBusyRow.unfollowed == Tryz.pinned.checked.prog.unfollowed 6) = true := by kernel_rfl
theorem jf_recurses : (Rows.ctrlBusyRow.recurses == Tryz.pinned.checked.prog.recurses 6) = true := by kernel_rfl
theorem jf_named : (Rows.ctrlBusyRow.named == Tryz.pinned.checked.prog.varsNamed 6) = true := by kernel_rfl
theorem jf : joinedFacts Tryz.pinned.checked.prog 6 Tryz.f6 Rows.ctrlBusySpec Rows.ctrlBusyRow = true := by
  simp only [joinedFacts, jf_laid, jf_rowed, jf_inPlace, jf_unfollowed, jf_recurses, jf_named, Bool.and_true]
  kernel_rfl
theorem said : Rows.CtrlBusySaid :=
  OpenClaim.holds_of_wide 6 Tryz.f6 rfl rfl rfl rfl rfl rfl rfl ⟨rfl, rfl, rfl, rfl, rfl⟩ rfl rfl rfl rfl rfl (by kernel_rfl) Tryz.func6 jf
    (of_decide_eq_true (by kernel_rfl)) (by unfold Func.isWrapper; first | (rw [if_pos (by decide +kernel)]; kernel_rfl) | (rw [if_neg (by decide +kernel)]; exact ⟨rfl, rfl⟩))
    (fun os started H enc _ => lifted os started H enc)

theorem plain (f : FuncId) (fn : Func) (hf : Tryz.pinned.checked.prog.funcNamed "podesta/podestalaw24.CtrlBusy" = some f) (hfn : Tryz.pinned.checked.prog.funcs[f]? = some fn) :
    true = Tryz.pinned.checked.prog.looks [] ∧ ∀ (j : Nat) t, fn.params[j]? = some t → Tryz.pinned.checked.prog.wantsStandIn t = false := by
  obtain rfl : f = 6 := Option.some.inj ((show Tryz.prog.funcNamed "podesta/podestalaw24.CtrlBusy" = some 6 by kernel_rfl).symm.trans hf) |>.symm
  obtain rfl : fn = Tryz.f6 := (Option.some.inj (Tryz.func6.symm.trans hfn)).symm
  refine ⟨by kernel_rfl, fun j t ht => ?_⟩
  rw [Tryz.params6] at ht
  have hm : t ∈ [4, 5] := by simpa using Array.mem_of_getElem? ht
  have hall : ([4, 5].all fun u => !Tryz.prog.wantsStandIn u) = true := by kernel_rfl
  exact (show Tryz.prog.wantsStandIn t = false by simpa using List.all_eq_true.1 hall t hm)

theorem card : Rows.CtrlBusyCardSaid :=
  Claim7.holds_tied_plain_at .later [] _ _ _ _ said (fun _ h => by cases h) (by kernel_rfl) (fun _ h => by cases h) ctrlBusy_row_tie rfl ⟨rfl, rfl⟩ (by kernel_rfl) rfl plain (by kernel_rfl)
end ctrlBusy
end Go.Proofs.YtaojcchakhjgoaaGreatDoor
