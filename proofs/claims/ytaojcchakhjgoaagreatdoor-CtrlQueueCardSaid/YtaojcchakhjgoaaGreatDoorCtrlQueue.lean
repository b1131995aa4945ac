/- 'CtrlQueue': the statement's card, proved. -/
import Derived.Test.YtaojcchakhjgoaaGreatDoorCards
import Derived.Test.YtaojcchakhjgoaaGreatDoorTie
import Derived.WalkKit
import Derived.ProofKit
import Derived.OpenShut
import Derived.ChangeMaps5
import Derived.Lay
import Derived.Stop.LaidErr
import Derived.MakeChecks
import Derived.Test.YtaojcchakhjgoaaGreatDoorExO
import Derived.Test.YtaojcchakhjgoaaGreatDoorExL
import Derived.Test.YtaojcchakhjgoaaGreatDoorCtlQ0
import Derived.Test.YtaojcchakhjgoaaGreatDoorCtlQ1
import Derived.Test.YtaojcchakhjgoaaGreatDoorCtlQ2
import Derived.Test.YtaojcchakhjgoaaGreatDoorCtlQ3
import Derived.Test.YtaojcchakhjgoaaGreatDoorCtlQ4
import Derived.Test.YtaojcchakhjgoaaGreatDoorCtlQ5
import Derived.Test.YtaojcchakhjgoaaGreatDoorCtlQ6
import Derived.Test.YtaojcchakhjgoaaGreatDoorCtlQ7
import Derived.Test.YtaojcchakhjgoaaGreatDoorCtlQ8
import Derived.Test.YtaojcchakhjgoaaGreatDoorCtlQ9
import Derived.Test.YtaojcchakhjgoaaGreatDoorCtlQ10
import Derived.Test.YtaojcchakhjgoaaGreatDoorCtlQ11
import Derived.Test.YtaojcchakhjgoaaGreatDoorCtlQ12
import Derived.Test.YtaojcchakhjgoaaGreatDoorCtlQ13
namespace Go.Proofs.YtaojcchakhjgoaaGreatDoor
open Go Go.ChangeShapes Go.WideShapes Go.ChangeAt Go.RowKit
namespace ctrlQueue
theorem own : ownKnob Tryz.prog.godebug = none := by kernel_rfl
theorem laid : laidOutB Tryz.prog = true := by kernel_rfl

theorem ev (i : Nat) (hi : i < 70) (es : Nat → Nat) : Exe.isT (Exe.Ctl.queue i es) = true := by
  match i, hi with
  | 0, _ => exact Exe.Ctl.que0 es
  | 1, _ => exact Exe.Ctl.que1 es
  | 2, _ => exact Exe.Ctl.que2 es
  | 3, _ => exact Exe.Ctl.que3 es
  | 4, _ => exact Exe.Ctl.que4 es
  | 5, _ => exact Exe.Ctl.que5 es
  | 6, _ => exact Exe.Ctl.que6 es
  | 7, _ => exact Exe.Ctl.que7 es
  | 8, _ => exact Exe.Ctl.que8 es
  | 9, _ => exact Exe.Ctl.que9 es
  | 10, _ => exact Exe.Ctl.que10 es
  | 11, _ => exact Exe.Ctl.que11 es
  | 12, _ => exact Exe.Ctl.que12 es
  | 13, _ => exact Exe.Ctl.que13 es
  | 14, _ => exact Exe.Ctl.que14 es
  | 15, _ => exact Exe.Ctl.que15 es
  | 16, _ => exact Exe.Ctl.que16 es
  | 17, _ => exact Exe.Ctl.que17 es
  | 18, _ => exact Exe.Ctl.que18 es
  | 19, _ => exact Exe.Ctl.que19 es
  | 20, _ => exact Exe.Ctl.que20 es
  | 21, _ => exact Exe.Ctl.que21 es
  | 22, _ => exact Exe.Ctl.que22 es
  | 23, _ => exact Exe.Ctl.que23 es
  | 24, _ => exact Exe.Ctl.que24 es
  | 25, _ => exact Exe.Ctl.que25 es
  | 26, _ => exact Exe.Ctl.que26 es
  | 27, _ => exact Exe.Ctl.que27 es
  | 28, _ => exact Exe.Ctl.que28 es
  | 29, _ => exact Exe.Ctl.que29 es
  | 30, _ => exact Exe.Ctl.que30 es
  | 31, _ => exact Exe.Ctl.que31 es
  | 32, _ => exact Exe.Ctl.que32 es
  | 33, _ => exact Exe.Ctl.que33 es
  | 34, _ => exact Exe.Ctl.que34 es
  | 35, _ => exact Exe.Ctl.que35 es
  | 36, _ => exact Exe.Ctl.que36 es
  | 37, _ => exact Exe.Ctl.que37 es
  | 38, _ => exact Exe.Ctl.que38 es
  | 39, _ => exact Exe.Ctl.que39 es
  | 40, _ => exact Exe.Ctl.que40 es
  | 41, _ => exact Exe.Ctl.que41 es
  | 42, _ => exact Exe.Ctl.que42 es
  | 43, _ => exact Exe.Ctl.que43 es
  | 44, _ => exact Exe.Ctl.que44 es
  | 45, _ => exact Exe.Ctl.que45 es
  | 46, _ => exact Exe.Ctl.que46 es
  | 47, _ => exact Exe.Ctl.que47 es
  | 48, _ => exact Exe.Ctl.que48 es
  | 49, _ => exact Exe.Ctl.que49 es
  | 50, _ => exact Exe.Ctl.que50 es
  | 51, _ => exact Exe.Ctl.que51 es
  | 52, _ => exact Exe.Ctl.que52 es
  | 53, _ => exact Exe.Ctl.que53 es
  | 54, _ => exact Exe.Ctl.que54 es
  | 55, _ => exact Exe.Ctl.que55 es
  | 56, _ => exact Exe.Ctl.que56 es
  | 57, _ => exact Exe.Ctl.que57 es
  | 58, _ => exact Exe.Ctl.que58 es
  | 59, _ => exact Exe.Ctl.que59 es
  | 60, _ => exact Exe.Ctl.que60 es
  | 61, _ => exact Exe.Ctl.que61 es
  | 62, _ => exact Exe.Ctl.que62 es
  | 63, _ => exact Exe.Ctl.que63 es
  | 64, _ => exact Exe.Ctl.que64 es
  | 65, _ => exact Exe.Ctl.que65 es
  | 66, _ => exact Exe.Ctl.que66 es
  | 67, _ => exact Exe.Ctl.que67 es
  | 68, _ => exact Exe.Ctl.que68 es
  | 69, _ => exact Exe.Ctl.que69 es
  | i + 70, h => omega

theorem fact_rem {i : Nat} {op : BinOp} {c d v : Exe.AV} (e : (Exe.Ctl.FQ i).bin op c d = some v) : op = .rem ∧ c = .sym 0 ∧ d = .int .u8 (.ofNat 70) ∧ v = .int .u8 (.ofNat i) := by
  unfold Exe.Ctl.FQ at e
  dsimp only at e
  split at e
  · rename_i s m
    obtain ⟨h3, e⟩ := Exe.ite_some.1 e
    obtain ⟨h4, e⟩ := Exe.ite_some.1 e
    have h3 := Nat.eq_of_beq_eq_true h3
    have h4 := Nat.eq_of_beq_eq_true h4
    subst h3 h4
    cases e
    exact ⟨rfl, rfl, rfl, rfl⟩
  · cases e

set_option maxRecDepth 100000 in
theorem facts {σ : Exe.Sig} {x : Int} (h0 : σ 0 = .int .u8 x) {i : Nat} (hx : Int.tmod x 70 = i) : Exe.FactsOk Tryz.prog σ (Exe.Ctl.FQ i) where
  bin := by
    intro op c d v e ρ t p q u u' hc hd
    obtain ⟨rfl, rfl, rfl, rfl⟩ := fact_rem e
    have hc : u = σ 0 := hc
    rw [h0] at hc
    cases hc; cases hd
    exact Exe.binO_ok (P := Tryz.prog) (σ := σ) (ρ := ρ) (F := ⟨fun _ _ _ => none, fun _ _ _ => none⟩) Exe.facts_none (op := .rem) (t := t) (p := p) (q := q) (a := .int .u8 x) (b := .int .u8 ((70 : Nat) : Int)) (by
        show Exe.iOp .rem .u8 .u8 x (70 : Nat) = _
        show Exe.ite' true (Bool.rec (Exe.forceI (Int.tmod x (70 : Nat)) fun n => some (Exe.AV.int .u8 n)) none (Exe.ieq (70 : Nat) 0)) = _
        rw [Exe.ieq_eq, decide_eq_false (by omega)]
        show Exe.forceI (Int.tmod x (70 : Nat)) (fun n => some (Exe.AV.int .u8 n)) = _
        rw [Exe.forceI_eq, show ((70 : Nat) : Int) = 70 from rfl, hx]; rfl) rfl rfl
  conv := fun _ _ _ _ e => nomatch e

theorem tmods (x : Int) (m : Nat) (hm : 0 < m) (h0 : 0 ≤ x) : ∃ i : Nat, Int.tmod x m = i ∧ i < m := ⟨(Int.tmod x m).toNat, by
  have := Int.tmod_eq_emod_of_nonneg (b := m) h0
  have := Int.emod_nonneg x (b := m) (by omega)
  omega, by
  have := Int.tmod_eq_emod_of_nonneg (b := m) h0
  have := Int.emod_lt_of_pos x (b := m) (by omega)
  omega⟩

set_option maxRecDepth 100000 in
theorem u8_of {W : World} {base : Nat} {v : Value} (h : Value.okWide Tryz.prog W .any base 5 v) : ∃ x : Int, v = .int .u8 x ∧ 0 ≤ x := by
  unfold Value.okWide at h
  rw [Tryz.underlying5] at h
  unfold Cell.okWide at h
  rw [Tryz.underlying5] at h
  unfold Cell.ok at h
  rw [Tryz.underlying5] at h
  cases v <;> simp at h
  obtain ⟨rfl, h⟩ := h
  refine ⟨_, rfl, ?_⟩
  simp [IntKind.has] at h
  exact h.1

theorem rowErr (u : TypeId) (h : Tryz.prog.typeName? 3 u = some "*errors.errorString") : u = 339 :=
  typeName_ptr_named (nm := "errors.errorString") (by kernel_rfl) (by kernel_rfl) (by decide) u (by simpa using h)

theorem cells_of_var {W : World} {n : String} {g : Nat} {cs : Array Value} (hg : Tryz.prog.globalNamed n = some g) (h : W.var? Tryz.prog n = some cs) : ∃ e fz, W.heap[g]? = some (.cells cs e fz) := by
  unfold World.var? at h
  rw [hg, Option.bind_some] at h
  split at h
  · rename_i cs' e fz hc
    cases h
    exact ⟨e, fz, hc⟩
  · cases h

theorem glob_of {W : World} (hL : laidMetH Tryz.prog Rows.ctrlQueueRow.laid W) : ∃ (a b : Addr) (e0 e1 : TypeId) (fz0 fz1 : Nat × Nat), W.heap[0]? = some (.cells #[.iface 339 (.pointer (some a))] e0 fz0) ∧ W.heap[1]? = some (.cells #[.iface 339 (.pointer (some b))] e1 fz1) := by
  have hp : laidMet Tryz.prog Rows.ctrlQueueRow.laid W := (Go.MakeChecks.laidMetH_plain Tryz.prog Rows.ctrlQueueRow.laid W (by kernel_rfl)) ▸ hL
  have h1 := hp.tail.tail.tail
  have h2 := h1.tail
  have gR : Tryz.prog.globalNamed "strconv.ErrRange" = some 1 := by kernel_rfl
  have gS : Tryz.prog.globalNamed "strconv.ErrSyntax" = some 0 := by kernel_rfl
  obtain ⟨a1, s1, hv1, _⟩ := laid_sentinel h1 gR (ti := 167) (by kernel_rfl) Tryz.underlying167 rowErr Tryz.underlying339 Tryz.underlying341 rfl rfl Tryz.underlying9 (by kernel_rfl) (by kernel_rfl)
  obtain ⟨a0, s0, hv0, _⟩ := laid_sentinel h2 gS (ti := 167) (by kernel_rfl) Tryz.underlying167 rowErr Tryz.underlying339 Tryz.underlying341 rfl rfl Tryz.underlying9 (by kernel_rfl) (by kernel_rfl)
  obtain ⟨e0, fz0, k0⟩ := cells_of_var gS hv0
  obtain ⟨e1, fz1, k1⟩ := cells_of_var gR hv1
  exact ⟨a0, a1, e0, e1, fz0, fz1, k0, k1⟩

set_option maxRecDepth 100000 in
theorem walk {base : Nat} (W : World) (v0 : Value) (h0 : Value.okWide Tryz.prog W .any base 5 v0) (hG : ∃ (a b : Addr) (e0 e1 : TypeId) (fz0 fz1 : Nat × Nat), W.heap[0]? = some (.cells #[.iface 339 (.pointer (some a))] e0 fz0) ∧ W.heap[1]? = some (.cells #[.iface 339 (.pointer (some b))] e1 fz1)) : Calls Tryz.prog 4 #[v0] W fun e w' => e = .returned (.bool true) ∧ W.keptBut w' (fun _ => False) ∧ Below W.heap.size W w' := by
  obtain ⟨a, b, e0, e1, fz0, fz1, hg0, hg1⟩ := hG
  have k0 : ∀ x ∈ [v0], x.oneCell' = true := fun x hx => by
    cases List.mem_singleton.1 hx
    exact Exe.okWide_cell (by kernel_rfl) h0
  have hl : ∀ x ∈ [v0], x.oneCell' = true := fun x hx => by
    exact k0 x hx
  obtain ⟨x, rfl, hx0⟩ := u8_of h0
  obtain ⟨i, hi, hi70⟩ := tmods x 70 (by omega) hx0
  obtain ⟨es, σ, rfl, hs, hro⟩ := Exe.Ctl.start (l := [Value.int .u8 x]) (by simp) hg0 hg1
  have hσ : ∀ i, (Exe.sigL ([Value.int .u8 x] ++ (List.replicate (100 - ([Value.int .u8 x]).length) (.bool false) ++ [.pointer (some a), .pointer (some b)])) i).oneCell' = true := Exe.sigL_one fun x hx => by
    rcases List.mem_append.1 hx with g | g
    · exact hl x g
    · rcases List.mem_append.1 g with g | g
      · rw [(List.mem_replicate.1 g).2]; rfl
      · simp only [List.mem_cons, List.not_mem_nil, or_false] at g
        rcases g with rfl | rfl <;> rfl
  have e := ev i hi70 es
  unfold Exe.Ctl.queue at e
  refine Exe.top (facts rfl hi) (Exe.Ctl.known1 hσ) hσ (by kernel_rfl) (by kernel_rfl) (e) hs hro (vs := #[Value.int .u8 x]) ?_
  exact ⟨_, _, rfl, Exe.one_sym (pre := []) (post := (List.replicate (100 - ([Value.int .u8 x]).length) (.bool false) ++ [.pointer (some a), .pointer (some b)])) (by simp) (by simp), rfl⟩

set_option maxRecDepth 100000 in
theorem lifted (os : Os) (started : os.Started) (H : Type) (enc : TypeId × Value → H) :
    ReturnsInHanded {} Tryz.checked os 4 .any (fun w args => (Rows.ctrlQueueSpec.pre enc Tryz.prog Tryz.f4 [] false w args ∧ laidMetH Tryz.prog Rows.ctrlQueueRow.laid w) ∧ sizedMet enc Tryz.prog Tryz.f4 (OpenSpec.ofChange Rows.ctrlQueueSpec) false w args)
      (Rows.ctrlQueueSpec.post enc Tryz.prog Tryz.f4 false true false false) := by
  refine returnsInHanded_of_change_and (C := Tryz.checked) (X := fun w _ => laidMetH Tryz.prog Rows.ctrlQueueRow.laid w) (fun _ _ _ hh h => h.of_heap hh) own started (by kernel_rfl) Tryz.func4
    (ChangeSpec.witness_shaped (enc := enc) (C := Tryz.checked) (os := os) (X := fun w _ => laidMetH Tryz.prog Rows.ctrlQueueRow.laid w) false (World.laidAll Tryz.prog os Rows.ctrlQueueRow.laid) #[(.int .u8 0)] 8 (World.laidAll_os _ _ _) (World.shaped_of_ZipB (by kernel_rfl) (by kernel_rfl)) (by kernel_rfl) (by kernel_rfl) (by kernel_rfl)
      (by rw [MakeChecks.laidMetH_plain _ _ _ (by kernel_rfl)]; exact laidMet_laidAll _ (by kernel_rfl) (by kernel_rfl))) ?_
  intro W base args ds gs before hval0 hW _ _ hL _
  have hval : ∀ (j : Nat) t v, Tryz.f4.params[j]? = some t → args[j]? = some v → Value.okWide Tryz.prog W .any base t v := hval0
  have hW' := hW
  obtain ⟨p, q, hA0, hV, rfl, _, _⟩ := hW
  have hA : DataW.TrodAll enc Tryz.prog W 0 (fun _ => true) true Tryz.f4.params.toList args.toList ds p := hA0
  have hT := hA
  rw [Tryz.params4] at hA hval
  obtain ⟨v0, vs0, d0, ds0, p0, q0, hargs, rfl, rfl, h0, r0⟩ := trodAll_cons hA
  obtain ⟨rfl, rfl, rfl⟩ := trodAll_nil r0
  obtain rfl : args = #[v0] := by cases args; simp_all
  obtain ⟨rfl, rfl⟩ := trodVars_none hV
  refine (walk W v0 (hval 0 5 v0 rfl rfl) (glob_of hL)).mono fun e W' ⟨he, hk, hb⟩ => ?_
  subst he
  have hlt := hW'.lt
  exact ⟨_, rfl, Exe.post_of_below (pv := []) hW' (fun _ _ _ => trodAll_cons_mk (shut_bool Tryz.underlying4 _) trodAll_mk0) (fun sp hs => Exe.trodAll_stays laid hb (by kernel_rfl) hT (fun x hx => hlt x (by simpa using hx)) (fun x hx => hs x (by simpa using hx))) (fun _ _ => rfl) rfl
    hk hb (ok_one (by kernel_rfl) rfl (okWide_bool_mk Tryz.underlying4 _))⟩

theorem jf_laid : laidOutB Tryz.pinned.checked.prog = true := by kernel_rfl
theorem jf_rowed : mapsRowed Tryz.pinned.checked.prog = true := by kernel_rfl
theorem jf_inPlace : (Rows.ctrlQueueRow.inPlace == Tryz.pinned.checked.prog.inPlace 4) = true := by kernel_rfl
theorem jf_unfollowed : (Rows.ctrlQueueRow.unfollowed == Tryz.pinned.checked.prog.unfollowed 4) = true := by kernel_rfl
theorem jf_recurses : (Rows.ctrlQueueRow.recurses == Tryz.pinned.checked.prog.recurses 4) = true := by kernel_rfl
theorem jf_named : (Rows.ctrlQueueRow.named == Tryz.pinned.checked.prog.varsNamed 4) = true := by kernel_rfl
theorem jf : joinedFacts Tryz.pinned.checked.prog 4 Tryz.f4 Rows.ctrlQueueSpec Rows.ctrlQueueRow = true := by
  simp only [joinedFacts, jf_laid, jf_rowed, jf_inPlace, jf_unfollowed, jf_recurses, jf_named, Bool.and_true]
  kernel_rfl
theorem said : Rows.CtrlQueueSaid :=
  OpenClaim.holds_of_wide 4 Tryz.f4 rfl rfl rfl rfl rfl rfl rfl ⟨rfl, rfl, rfl, rfl, rfl⟩ rfl rfl rfl rfl rfl (by kernel_rfl) Tryz.func4 jf
    (of_decide_eq_true (by kernel_rfl)) (by unfold Func.isWrapper; first | (rw [if_pos (by decide +kernel)]; kernel_rfl) | (rw [if_neg (by decide +kernel)]; exact ⟨rfl, rfl⟩))
    (fun os started H enc _ => lifted os started H enc)

theorem plain (f : FuncId) (fn : Func) (hf : Tryz.pinned.checked.prog.funcNamed "podesta/podestalaw24.CtrlQueue" = some f) (hfn : Tryz.pinned.checked.prog.funcs[f]? = some fn) :
    true = Tryz.pinned.checked.prog.looks [] ∧ ∀ (j : Nat) t, fn.params[j]? = some t → Tryz.pinned.checked.prog.wantsStandIn t = false := by
  obtain rfl : f = 4 := Option.some.inj ((show Tryz.prog.funcNamed "podesta/podestalaw24.CtrlQueue" = some 4 by kernel_rfl).symm.trans hf) |>.symm
  obtain rfl : fn = Tryz.f4 := (Option.some.inj (Tryz.func4.symm.trans hfn)).symm
  refine ⟨by kernel_rfl, fun j t ht => ?_⟩
  rw [Tryz.params4] at ht
  have hm : t ∈ [5] := by simpa using Array.mem_of_getElem? ht
  have hall : ([5].all fun u => !Tryz.prog.wantsStandIn u) = true := by kernel_rfl
  exact (show Tryz.prog.wantsStandIn t = false by simpa using List.all_eq_true.1 hall t hm)

theorem card : Rows.CtrlQueueCardSaid :=
  Claim7.holds_tied_plain_at .later [] _ _ _ _ said (fun _ h => by cases h) (by kernel_rfl) (fun _ h => by cases h) ctrlQueue_row_tie rfl ⟨rfl, rfl⟩ (by kernel_rfl) rfl plain (by kernel_rfl)
end ctrlQueue
end Go.Proofs.YtaojcchakhjgoaaGreatDoor
