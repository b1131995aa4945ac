/- 'ScriptLines': the statement's card, proved. -/
import Derived.Test.YtafnooelkiobmaaDoorCards
import Derived.Test.YtafnooelkiobmaaDoorTie
import Derived.WalkKit
import Derived.ProofKit
import Derived.OpenShut
import Derived.ChangeMaps5
import Derived.LaidMore
import Derived.Lay
import Derived.Stop.LaidErr
import Derived.MakeChecks
import Derived.Test.YtafnooelkiobmaaDoorExH
import Derived.Test.YtafnooelkiobmaaDoorExL
import Derived.Test.YtafnooelkiobmaaDoorLin0
import Derived.Test.YtafnooelkiobmaaDoorLin1
import Derived.Test.YtafnooelkiobmaaDoorLin2
import Derived.Test.YtafnooelkiobmaaDoorLin3
import Derived.Test.YtafnooelkiobmaaDoorLin4
import Derived.Test.YtafnooelkiobmaaDoorLin5
import Derived.Test.YtafnooelkiobmaaDoorLin6
import Derived.Test.YtafnooelkiobmaaDoorLin7
import Derived.Test.YtafnooelkiobmaaDoorLin8
import Derived.Test.YtafnooelkiobmaaDoorLin9
import Derived.Test.YtafnooelkiobmaaDoorLin10
namespace Go.Proofs.YtafnooelkiobmaaDoor
open Go Go.ChangeShapes Go.WideShapes Go.ChangeAt Go.RowKit
namespace scriptLines
theorem own : ownKnob Tryd.prog.godebug = none := by kernel_rfl
theorem laid : laidOutB Tryd.prog = true := by kernel_rfl

/-- What the evaluation leaves open: two messages, the number, and it as an int. -/
def sig (a b : Addr) (x : Int) : Exe.Sig := fun i => match i with
  | 0 => .pointer (some a)
  | 1 => .pointer (some b)
  | 2 => .int .u8 x
  | 3 => .int .i64 x
  | _ => .bool false
theorem sig_one (a b : Addr) (x : Int) : ∀ i, (sig a b x i).oneCell' = true := fun i => by
  unfold sig
  split <;> rfl

theorem fact_rem {i j : Nat} {op : BinOp} {c d v : Exe.AV} (e : (Exe.Lin.FF i j).bin op c d = some v) : op = .rem ∧ c = .sym 3 ∧ ((d = .int .i64 (.ofNat 11) ∧ v = .int .i64 (.ofNat i)) ∨ (d = .int .i64 (.ofNat 8) ∧ v = .int .i64 (.ofNat j))) := by
  unfold Exe.Lin.FF at e
  dsimp only at e
  split at e
  · rename_i s m
    obtain ⟨h3, e⟩ := Exe.ite_some.1 e
    have h3 := Nat.eq_of_beq_eq_true h3
    subst h3
    cases h2 : Nat.beq m 11 with
    | true =>
      rw [h2] at e
      cases e
      have h2 := Nat.eq_of_beq_eq_true h2
      subst h2
      exact ⟨rfl, rfl, .inl ⟨rfl, rfl⟩⟩
    | false =>
      rw [h2] at e
      obtain ⟨h4, e⟩ := Exe.ite_some.1 (show Exe.ite' (Nat.beq m 8) (some (Exe.AV.int .i64 (.ofNat j))) = some v from e)
      cases e
      have h4 := Nat.eq_of_beq_eq_true h4
      subst h4
      exact ⟨rfl, rfl, .inr ⟨rfl, rfl⟩⟩
  · cases e

theorem facts (a b : Addr) (x : Int) (h0 : 0 ≤ x) (h1 : x < 256) (i j : Nat) (hx : Int.tmod x 11 = i) (hy : Int.tmod x 8 = j) : Exe.FactsOk Tryd.prog (sig a b x) (Exe.Lin.FF i j) where
  bin := by
    intro op c d v e ρ t p q u u' hc hd
    have rem : ∀ m k : Nat, m ≠ 0 → Int.tmod x m = k → ∃ u, Exe.VR (sig a b x) ρ (.int .i64 (.ofNat k)) u ∧ ∀ w, (do eqGuard .rem t p q (.int .i64 x) (.int .i64 (m : Int)); binOp .rem t (.int .i64 x) (.int .i64 (m : Int)) : Sem Value).run Tryd.prog w = .ok u w := fun m k hm hk =>
      Exe.binO_ok (P := Tryd.prog) (σ := sig a b x) (ρ := ρ) (F := ⟨fun _ _ _ => none, fun _ _ _ => none⟩) Exe.facts_none (op := .rem) (t := t) (p := p) (q := q) (a := .int .i64 x) (b := .int .i64 (m : Int)) (by
        show Exe.iOp .rem .i64 .i64 x m = _
        show Exe.ite' true (Bool.rec (Exe.forceI (Int.tmod x m) fun n => some (Exe.AV.int .i64 n)) none (Exe.ieq m 0)) = _
        rw [Exe.ieq_eq, decide_eq_false (by omega)]
        show Exe.forceI (Int.tmod x m) (fun n => some (Exe.AV.int .i64 n)) = _
        rw [Exe.forceI_eq, hk]; rfl) rfl rfl
    obtain ⟨rfl, rfl, ⟨rfl, rfl⟩ | ⟨rfl, rfl⟩⟩ := fact_rem e
    · cases hc; cases hd
      exact rem 11 i (by decide) hx
    · cases hc; cases hd
      exact rem 8 j (by decide) hy
  conv := by
    intro s t k v e ρ
    obtain ⟨h2, e⟩ := Exe.ite_some.1 (show Exe.ite' (Nat.beq s 5) (Exe.ite' (Nat.beq t 3) (Exe.ite' (Nat.beq k 2) (some (Exe.AV.sym 3)))) = some v from e)
    obtain ⟨h3, e⟩ := Exe.ite_some.1 e
    obtain ⟨h4, e⟩ := Exe.ite_some.1 e
    cases e
    have h2 := Nat.eq_of_beq_eq_true h2
    have h3 := Nat.eq_of_beq_eq_true h3
    have h4 := Nat.eq_of_beq_eq_true h4
    subst h2 h3 h4
    refine ⟨.int .i64 x, rfl, fun w => ?_⟩
    have hw : IntKind.i64.wrap x = x := by
      simp [IntKind.wrap, IntKind.bits, IntKind.signed]; omega
    show (convert 5 3 (.int .u8 x)).run Tryd.prog w = _
    simp [convert, run_underlying Tryd.underlying5, run_underlying Tryd.underlying3, Conv.intToInt, hw]

set_option maxRecDepth 100000 in
theorem known (σ : Exe.Sig) (N : Nat) : Exe.KOk Tryd.prog σ N Exe.Lin.KK :=
  Exe.kok_list fun i g h => by
    simp only [List.mem_cons, List.not_mem_nil, or_false, Prod.mk.injEq] at h
    rcases h with ⟨rfl, rfl⟩ | ⟨rfl, rfl⟩ | ⟨rfl, rfl⟩
    · exact Exe.kok1_index Tryd.func39 (by kernel_rfl) (by kernel_rfl) (by kernel_rfl) (by kernel_rfl)
    · exact Exe.kok1_count Tryd.func43 (by kernel_rfl) (by kernel_rfl) (by kernel_rfl) (by kernel_rfl)
    · exact Exe.kok1_same Tryd.func54 (by kernel_rfl) (by kernel_rfl) (by kernel_rfl) (by kernel_rfl)

theorem ev (i j : Nat) (hi : i < 11) (hj : j < 8) (e0 e1 : Nat) : Exe.isT (Exe.Lin.lines i j e0 e1) = true := by
  obtain rfl | rfl | rfl | rfl | rfl | rfl | rfl | rfl | rfl | rfl | rfl : i = 0 ∨ i = 1 ∨ i = 2 ∨ i = 3 ∨ i = 4 ∨ i = 5 ∨ i = 6 ∨ i = 7 ∨ i = 8 ∨ i = 9 ∨ i = 10 := by omega
  · exact Exe.Lin.lin_0 j hj e0 e1
  · exact Exe.Lin.lin_1 j hj e0 e1
  · exact Exe.Lin.lin_2 j hj e0 e1
  · exact Exe.Lin.lin_3 j hj e0 e1
  · exact Exe.Lin.lin_4 j hj e0 e1
  · exact Exe.Lin.lin_5 j hj e0 e1
  · exact Exe.Lin.lin_6 j hj e0 e1
  · exact Exe.Lin.lin_7 j hj e0 e1
  · exact Exe.Lin.lin_8 j hj e0 e1
  · exact Exe.Lin.lin_9 j hj e0 e1
  · exact Exe.Lin.lin_10 j hj e0 e1

theorem tmods (x : Int) (m : Nat) (hm : 0 < m) (h0 : 0 ≤ x) : ∃ i : Nat, Int.tmod x m = i ∧ i < m := ⟨(Int.tmod x m).toNat, by
  have := Int.tmod_eq_emod_of_nonneg (b := m) h0
  have := Int.emod_nonneg x (b := m) (by omega)
  omega, by
  have := Int.tmod_eq_emod_of_nonneg (b := m) h0
  have := Int.emod_lt_of_pos x (b := m) (by omega)
  omega⟩

set_option maxRecDepth 100000 in
theorem walk (x : Int) (hx : 0 ≤ x) (hx2 : x < 256) (w : World) (hG : ∃ (a b : Addr) (e0 e1 : TypeId) (fz0 fz1 : Nat × Nat), w.heap[4]? = some (.cells #[.iface 131 (.pointer (some a))] e0 fz0) ∧ w.heap[5]? = some (.cells #[.iface 131 (.pointer (some b))] e1 fz1)) : Calls Tryd.prog 3 #[.int .u8 x] w fun e w' => e = .returned (.bool true) ∧ w.keptBut w' (fun _ => False) ∧ Below w.heap.size w w' := by
  obtain ⟨a, b, e0, e1, fz0, fz1, h0, h1⟩ := hG
  obtain ⟨i, hi, hi9⟩ := tmods x 11 (by omega) hx
  obtain ⟨j, hj, hj9⟩ := tmods x 8 (by omega) hx
  obtain ⟨hs, hro⟩ := Exe.HR.starts (σ := sig a b x) (N := 8) (w := w) (nx := 100) (by omega) (l := [(4, e0, .ifc 131 (.sym 0)), (5, e1, .ifc 131 (.sym 1))]) fun r e c h => by
    simp only [List.mem_cons, List.not_mem_nil, or_false, Prod.mk.injEq] at h
    rcases h with ⟨rfl, rfl, rfl⟩ | ⟨rfl, rfl, rfl⟩
    · exact ⟨by omega, rfl, _, fz0, fun ρ => ⟨_, rfl, rfl⟩, h0⟩
    · exact ⟨by omega, rfl, _, fz1, fun ρ => ⟨_, rfl, rfl⟩, h1⟩
  have e := ev i j hi9 hj9 e0 e1
  unfold Exe.Lin.lines at e
  have hK := known (sig a b x) 8
  have hN : 8 = Tryd.prog.globals.size := by kernel_rfl
  have hKf : Exe.Lin.KK 3 = none := by kernel_rfl
  have hv : Exe.LR (sig a b x) (Exe.rho0 8 w) [.sym 2] (#[.int .u8 x] : Array Value).toList := ⟨_, _, rfl, rfl, rfl⟩
  exact Exe.top (facts a b x hx hx2 i j hi hj) hK (sig_one a b x) hN hKf e hs hro hv

theorem row131 (u : TypeId) (h : Tryd.prog.typeName? 3 u = some "*errors.errorString") : u = 131 :=
  typeName_ptr_named (nm := "errors.errorString") (by kernel_rfl) (by kernel_rfl) (by decide) u (by simpa using h)

theorem cells_of_var {W : World} {n : String} {g : Nat} {cs : Array Value} (hg : Tryd.prog.globalNamed n = some g) (h : W.var? Tryd.prog n = some cs) : ∃ e fz, W.heap[g]? = some (.cells cs e fz) := by
  unfold World.var? at h
  rw [hg, Option.bind_some] at h
  split at h
  · rename_i cs' e fz hc
    cases h
    exact ⟨e, fz, hc⟩
  · cases h

theorem glob_of {W : World} (hL : laidMetH Tryd.prog Rows.scriptLinesRow.laid W) : ∃ (a b : Addr) (e0 e1 : TypeId) (fz0 fz1 : Nat × Nat), W.heap[4]? = some (.cells #[.iface 131 (.pointer (some a))] e0 fz0) ∧ W.heap[5]? = some (.cells #[.iface 131 (.pointer (some b))] e1 fz1) := by
  have hp : laidMet Tryd.prog Rows.scriptLinesRow.laid W := (Go.MakeChecks.laidMetH_plain Tryd.prog Rows.scriptLinesRow.laid W (by kernel_rfl)) ▸ hL
  have h1 := hp.tail.tail.tail.tail
  have h2 := h1.tail
  have gR : Tryd.prog.globalNamed "strconv.ErrRange" = some 5 := by kernel_rfl
  have gS : Tryd.prog.globalNamed "strconv.ErrSyntax" = some 4 := by kernel_rfl
  obtain ⟨a1, s1, hv1, _⟩ := laid_sentinel h1 gR (ti := 72) (by kernel_rfl) Tryd.underlying72 row131 Tryd.underlying131 Tryd.underlying133 rfl rfl Tryd.underlying9 (by kernel_rfl) (by kernel_rfl)
  obtain ⟨a0, s0, hv0, _⟩ := laid_sentinel h2 gS (ti := 72) (by kernel_rfl) Tryd.underlying72 row131 Tryd.underlying131 Tryd.underlying133 rfl rfl Tryd.underlying9 (by kernel_rfl) (by kernel_rfl)
  obtain ⟨e0, fz0, k0⟩ := cells_of_var gS hv0
  obtain ⟨e1, fz1, k1⟩ := cells_of_var gR hv1
  exact ⟨a0, a1, e0, e1, fz0, fz1, k0, k1⟩

theorem small {x : Int} (h : (Lit.int .u8 x).wf = true) : 0 ≤ x ∧ x < 256 := by
  simp [Lit.wf] at h
  have h2 : IntKind.u8.min = 0 := rfl
  have h3 : IntKind.u8.max = 255 := rfl
  omega

set_option maxRecDepth 100000 in
theorem lifted (os : Os) (started : os.Started) (H : Type) (enc : TypeId × Value → H) :
    ReturnsInHanded {} Tryd.checked os 3 .any (fun w args => (Rows.scriptLinesSpec.pre enc Tryd.prog Tryd.f3 [] false w args ∧ laidMetH Tryd.prog Rows.scriptLinesRow.laid w) ∧ sizedMet enc Tryd.prog Tryd.f3 (OpenSpec.ofChange Rows.scriptLinesSpec) false w args)
      (Rows.scriptLinesSpec.post enc Tryd.prog Tryd.f3 false true false false) := by
  refine returnsInHanded_of_change_and (C := Tryd.checked) (X := fun w _ => laidMetH Tryd.prog Rows.scriptLinesRow.laid w) (fun _ _ _ hh h => h.of_heap hh) own started (by kernel_rfl) Tryd.func3
    (ChangeSpec.witness_shaped (enc := enc) (C := Tryd.checked) (os := os) (X := fun w _ => laidMetH Tryd.prog Rows.scriptLinesRow.laid w) false (World.laidAll Tryd.prog os Rows.scriptLinesRow.laid) #[.int .u8 0] 8 (World.laidAll_os _ _ _) (World.shaped_of_ZipB (by kernel_rfl) (by kernel_rfl)) (by kernel_rfl) (by kernel_rfl) (by kernel_rfl)
      (by rw [MakeChecks.laidMetH_plain _ _ _ (by kernel_rfl)]; exact laidMet_laidAll _ (by kernel_rfl) (by kernel_rfl))) ?_
  intro W base args ds gs before hval0 hW _ _ hL _
  have hval : ∀ (j : Nat) t v, Tryd.f3.params[j]? = some t → args[j]? = some v → Value.okWide Tryd.prog W .any base t v := hval0
  have hW' := hW
  obtain ⟨p, q, hA0, hV, rfl, _, _⟩ := hW
  have hA : DataW.TrodAll enc Tryd.prog W 0 (fun _ => true) true Tryd.f3.params.toList args.toList ds p := hA0
  have hT := hA
  rw [Tryd.params3] at hA hval
  obtain ⟨v0, vs0, d0, ds0, p0, q0, hargs, rfl, rfl, h0, r0⟩ := trodAll_cons hA
  obtain ⟨rfl, rfl, rfl⟩ := trodAll_nil r0
  obtain rfl : args = #[v0] := by cases args; simp_all
  obtain ⟨rfl, rfl⟩ := trodVars_none hV
  obtain ⟨x, rfl, rfl, rfl, w0⟩ := open_int Tryd.underlying5 (hval 0 5 v0 rfl rfl) h0
  refine (walk x (small w0).1 (small w0).2 W (glob_of hL)).mono fun e W' ⟨he, hk, hb⟩ => ?_
  subst he
  have hlt := hW'.lt
  exact ⟨_, rfl, Exe.post_of_below (pv := []) hW' (fun _ _ _ => trodAll_cons_mk (shut_bool Tryd.underlying4 _) trodAll_mk0) (fun sp hs => Exe.trodAll_stays laid hb (by kernel_rfl) hT (fun x hx => hlt x (by simp at hx)) (fun x hx => hs x (by simp at hx))) (fun _ _ => rfl) rfl
    hk hb (ok_one (by kernel_rfl) rfl (okWide_bool_mk Tryd.underlying4 _))⟩

theorem said : Rows.ScriptLinesSaid :=
  OpenClaim.holds_of_wide 3 Tryd.f3 rfl rfl rfl rfl rfl rfl rfl ⟨rfl, rfl, rfl, rfl, rfl⟩ rfl rfl rfl rfl rfl (by kernel_rfl) Tryd.func3 (by kernel_rfl)
    (of_decide_eq_true (by kernel_rfl)) (by unfold Func.isWrapper; first | (rw [if_pos (by decide +kernel)]; kernel_rfl) | (rw [if_neg (by decide +kernel)]; exact ⟨rfl, rfl⟩))
    (fun os started H enc _ => lifted os started H enc)

theorem plain (f : FuncId) (fn : Func) (hf : Tryd.pinned.checked.prog.funcNamed "podesta/podestalaw26.ScriptLines" = some f) (hfn : Tryd.pinned.checked.prog.funcs[f]? = some fn) :
    true = Tryd.pinned.checked.prog.looks [] ∧ ∀ (j : Nat) t, fn.params[j]? = some t → Tryd.pinned.checked.prog.wantsStandIn t = false := by
  obtain rfl : f = 3 := Option.some.inj ((show Tryd.prog.funcNamed "podesta/podestalaw26.ScriptLines" = some 3 by kernel_rfl).symm.trans hf) |>.symm
  obtain rfl : fn = Tryd.f3 := (Option.some.inj (Tryd.func3.symm.trans hfn)).symm
  refine ⟨by kernel_rfl, fun j t ht => ?_⟩
  rw [Tryd.params3] at ht
  have hm : t ∈ [5] := by simpa using Array.mem_of_getElem? ht
  have hall : ([5].all fun u => !Tryd.prog.wantsStandIn u) = true := by kernel_rfl
  exact (show Tryd.prog.wantsStandIn t = false by simpa using List.all_eq_true.1 hall t hm)

theorem card : Rows.ScriptLinesCardSaid :=
  Claim7.holds_tied_plain_at .later [] _ _ _ _ said (fun _ h => by cases h) (by kernel_rfl) (fun _ h => by cases h) scriptLines_row_tie rfl ⟨rfl, rfl⟩ (by kernel_rfl) rfl plain (by kernel_rfl)
end scriptLines
end Go.Proofs.YtafnooelkiobmaaDoor
