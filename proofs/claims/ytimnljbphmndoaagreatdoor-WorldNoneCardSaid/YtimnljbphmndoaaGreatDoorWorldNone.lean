/- 'WorldNone': the statement's card, proved. -/
import Derived.Test.YtimnljbphmndoaaGreatDoorCards
import Derived.Test.YtimnljbphmndoaaGreatDoorTie
import Derived.WalkKit
import Derived.ProofKit
import Derived.OpenShut
import Derived.ChangeMaps5
import Derived.Lay
import Derived.Stop.LaidErr
import Derived.MakeChecks
import Derived.Test.YtimnljbphmndoaaGreatDoorExQ
import Derived.Test.YtimnljbphmndoaaGreatDoorExL
import Derived.Test.YtimnljbphmndoaaGreatDoorWorC
import Derived.Test.YtimnljbphmndoaaGreatDoorWorS
namespace Go.Proofs.YtimnljbphmndoaaGreatDoor
open Go Go.ChangeShapes Go.WideShapes Go.ChangeAt Go.RowKit
namespace worldNone
theorem own : ownKnob Tryz.prog.godebug = none := by kernel_rfl
theorem laid : laidOutB Tryz.prog = true := by kernel_rfl

theorem fact_and {j : Nat} {op : BinOp} {c d v : Exe.AV} (e : (Exe.Wor.FW j).bin op c d = some v) : op = .and ∧ c = .sym 0 ∧ d = .int .i64 3 ∧ v = .int .i64 (.ofNat j) := by
  unfold Exe.Wor.FW at e
  dsimp only at e
  split at e
  · rename_i s m
    obtain ⟨h3, e⟩ := Exe.ite_some.1 e
    obtain ⟨h4, e⟩ := Exe.ite_some.1 e
    have h3 := Nat.eq_of_beq_eq_true h3
    rw [Exe.ieq_eq] at h4
    have h4 := of_decide_eq_true h4
    subst h3 h4
    cases e
    exact ⟨rfl, rfl, rfl, rfl⟩
  · cases e

/-- The last two bits of a number. -/
theorem and_three (P : Program) (x : Int) : ∃ j : Nat, j < 4 ∧ ∀ (t : TypeId) (p q : Operand) w, (do eqGuard .and t p q (.int .i64 x) (.int .i64 3); binOp .and t (.int .i64 x) (.int .i64 3) : Sem Value).run P w = .ok (.int .i64 (j : Int)) w := by
  refine ⟨(BitVec.ofInt 64 x &&& BitVec.ofInt 64 3).toNat, ?_, fun t p q w => ?_⟩
  · rw [BitVec.toNat_and]
    have : (BitVec.ofInt 64 3).toNat = 3 := by decide
    rw [this]
    exact Nat.lt_succ_of_le Nat.and_le_right
  · have hj : (BitVec.ofInt 64 x &&& BitVec.ofInt 64 3).toNat < 4 := by
      rw [BitVec.toNat_and]
      have : (BitVec.ofInt 64 3).toNat = 3 := by decide
      rw [this]
      exact Nat.lt_succ_of_le Nat.and_le_right
    have hw : IntKind.i64.wrap ((BitVec.ofInt 64 x &&& BitVec.ofInt 64 3).toNat : Int) = ((BitVec.ofInt 64 x &&& BitVec.ofInt 64 3).toNat : Int) := by
      generalize (BitVec.ofInt 64 x &&& BitVec.ofInt 64 3).toNat = n at hj
      exact Exe.wrap_in (k := .i64) (by
        show Nat.ble n 0x7fffffffffffffff = true
        exact Nat.ble_eq_true_of_le (by omega))
    simp [eqGuard, binOp, Op.intBits]
    exact hw

set_option maxRecDepth 100000 in
theorem facts {σ : Exe.Sig} {x : Int} (h0 : σ 0 = .int .i64 x) {j : Nat} (hx : ∀ (t : TypeId) (p q : Operand) w, (do eqGuard .and t p q (.int .i64 x) (.int .i64 3); binOp .and t (.int .i64 x) (.int .i64 3) : Sem Value).run Tryz.prog w = .ok (.int .i64 (j : Int)) w) : Exe.FactsOk Tryz.prog σ (Exe.Wor.FW j) where
  bin := by
    intro op c d v e ρ t p q u u' hc hd
    obtain ⟨rfl, rfl, rfl, rfl⟩ := fact_and e
    have hc : u = σ 0 := hc
    rw [h0] at hc
    cases hc; cases hd
    exact ⟨_, rfl, hx t p q⟩
  conv := fun _ _ _ _ e => nomatch e

set_option maxRecDepth 100000 in
theorem kind_of {W : World} {base : Nat} {cs : Array Value} (h : Value.okWide Tryz.prog W .any base 26 (.agg cs)) (hs : cs.size = 16) : ∃ x : Int, cs[0]? = some (.int .i64 x) := by
  have hr : Row.okWide Tryz.prog W .any base 26 cs := by
    unfold Value.okWide at h
    split at h
    · obtain ⟨c, e, _, h⟩ := h; cases e; exact h
    · obtain ⟨c, e, _, h⟩ := h; cases e; exact h
    · exfalso
      rename_i h1 h2
      obtain ⟨d, hd, ha⟩ := Exe.bnd_some.1 (show Exe.aggOf Tryz.prog 26 = some true by kernel_rfl)
      have hd : Tryz.prog.underlying 26 = some d := hd
      cases d <;> first | exact h1 _ hd | exact h2 _ _ hd | cases ha
  obtain ⟨ts, e1, _, h3⟩ := hr
  have e2 : (Tryz.prog.cellTypes Tryz.prog.depth 26).bind (·[0]?) = some 3 := by kernel_rfl
  rw [e1] at e2
  have e2 : ts[0]? = some 3 := e2
  have hlt : 0 < cs.size := by omega
  obtain ⟨u, k1, k2⟩ := h3 0 cs[0] (Array.getElem?_eq_getElem hlt)
  rw [Nat.zero_mod, e2] at k1
  cases k1
  refine ⟨?_, ?_⟩
  · exact (match cs[0] with | .int _ x => x | _ => 0)
  rw [Array.getElem?_eq_getElem hlt]
  unfold Cell.okWide at k2
  rw [Tryz.underlying3] at k2
  unfold Cell.ok at k2
  rw [Tryz.underlying3] at k2
  generalize cs[0] = y at k2
  cases y <;> simp at k2
  obtain ⟨rfl, _⟩ := k2
  rfl

theorem ev (j : Nat) (hj : j < 4) (es : Nat → Nat) : Exe.isT (Exe.Wor.law j es) = true := by
  match j, hj with
  | 0, _ => exact Exe.Wor.ev0 es
  | 1, _ => exact Exe.Wor.ev1 es
  | 2, _ => exact Exe.Wor.ev2 es
  | 3, _ => exact Exe.Wor.ev3 es
  | j + 4, h => omega

theorem rowErr (u : TypeId) (h : Tryz.prog.typeName? 3 u = some "*errors.errorString") : u = 463 :=
  typeName_ptr_named (nm := "errors.errorString") (by kernel_rfl) (by kernel_rfl) (by decide) u (by simpa using h)

theorem cells_of_var {W : World} {n : String} {g : Nat} {cs : Array Value} (hg : Tryz.prog.globalNamed n = some g) (h : W.var? Tryz.prog n = some cs) : ∃ e fz, W.heap[g]? = some (.cells cs e fz) := by
  unfold World.var? at h
  rw [hg, Option.bind_some] at h
  split at h
  · rename_i cs' e fz hc
    cases h
    exact ⟨e, fz, hc⟩
  · cases h

theorem glob_of {W : World} (hL : laidMetH Tryz.prog Rows.worldNoneRow.laid W) : ∃ (a b : Addr) (e0 e1 : TypeId) (fz0 fz1 : Nat × Nat), W.heap[0]? = some (.cells #[.iface 463 (.pointer (some a))] e0 fz0) ∧ W.heap[1]? = some (.cells #[.iface 463 (.pointer (some b))] e1 fz1) := by
  have hp : laidMet Tryz.prog Rows.worldNoneRow.laid W := (Go.MakeChecks.laidMetH_plain Tryz.prog Rows.worldNoneRow.laid W (by kernel_rfl)) ▸ hL
  have h1 := hp.tail.tail.tail
  have h2 := h1.tail
  have gR : Tryz.prog.globalNamed "strconv.ErrRange" = some 1 := by kernel_rfl
  have gS : Tryz.prog.globalNamed "strconv.ErrSyntax" = some 0 := by kernel_rfl
  obtain ⟨a1, s1, hv1, _⟩ := laid_sentinel h1 gR (ti := 363) (by kernel_rfl) Tryz.underlying363 rowErr Tryz.underlying463 Tryz.underlying465 rfl rfl Tryz.underlying9 (by kernel_rfl) (by kernel_rfl)
  obtain ⟨a0, s0, hv0, _⟩ := laid_sentinel h2 gS (ti := 363) (by kernel_rfl) Tryz.underlying363 rowErr Tryz.underlying463 Tryz.underlying465 rfl rfl Tryz.underlying9 (by kernel_rfl) (by kernel_rfl)
  obtain ⟨e0, fz0, k0⟩ := cells_of_var gS hv0
  obtain ⟨e1, fz1, k1⟩ := cells_of_var gR hv1
  exact ⟨a0, a1, e0, e1, fz0, fz1, k0, k1⟩

set_option maxRecDepth 100000 in
theorem walk {base : Nat} (W : World) (v0 : Value) (h0 : Value.okWide Tryz.prog W .any base 26 v0) (v1 : Value) (h1 : Value.okWide Tryz.prog W .any base 3 v1) (hG : ∃ (a b : Addr) (e0 e1 : TypeId) (fz0 fz1 : Nat × Nat), W.heap[0]? = some (.cells #[.iface 463 (.pointer (some a))] e0 fz0) ∧ W.heap[1]? = some (.cells #[.iface 463 (.pointer (some b))] e1 fz1)) : Calls Tryz.prog 3 #[v0, v1] W fun e w' => e = .returned (.bool true) ∧ W.keptBut w' (fun _ => False) ∧ Below W.heap.size W w' := by
  obtain ⟨a, b, e0, e1, fz0, fz1, hg0, hg1⟩ := hG
  obtain ⟨c0, rfl, s0, k0⟩ := Exe.okWide_agg (by kernel_rfl) h0
  have s0 : c0.size = 16 := s0.trans (by kernel_rfl)
  have k1 : ∀ x ∈ [v1], x.oneCell' = true := fun x hx => by
    cases List.mem_singleton.1 hx
    exact Exe.okWide_cell (by kernel_rfl) h1
  have hl : ∀ x ∈ c0.toList ++ [v1], x.oneCell' = true := fun x hx => by
    simp only [List.mem_append] at hx
    rcases hx with g0 | g1
    · exact k0 x g0
    · exact k1 x g1
  obtain ⟨x, hx⟩ := kind_of h0 s0
  obtain ⟨j, hj, hjx⟩ := and_three Tryz.prog x
  obtain ⟨es, σ, rfl, hs, hro⟩ := Exe.Wor.start (l := c0.toList ++ [v1]) (by simp [s0]) hg0 hg1
  have hσ : ∀ i, (Exe.sigL (c0.toList ++ [v1] ++ (List.replicate (100 - (c0.toList ++ [v1]).length) (.bool false) ++ [.pointer (some a), .pointer (some b)])) i).oneCell' = true := Exe.sigL_one fun x hx => by
    rcases List.mem_append.1 hx with g | g
    · exact hl x g
    · rcases List.mem_append.1 g with g | g
      · rw [(List.mem_replicate.1 g).2]; rfl
      · simp only [List.mem_cons, List.not_mem_nil, or_false] at g
        rcases g with rfl | rfl <;> rfl
  have hsg : Exe.sigL (c0.toList ++ [v1] ++ (List.replicate (100 - (c0.toList ++ [v1]).length) (.bool false) ++ [.pointer (some a), .pointer (some b)])) 0 = .int .i64 x := by
    have := Exe.sigL_at (l := c0.toList ++ [v1] ++ (List.replicate (100 - (c0.toList ++ [v1]).length) (.bool false) ++ [.pointer (some a), .pointer (some b)])) (pre := []) (cs := c0.toList) (post := [v1] ++ (List.replicate (100 - (c0.toList ++ [v1]).length) (.bool false) ++ [.pointer (some a), .pointer (some b)])) (by simp) (j := 0) (x := .int .i64 x) (by simpa using hx) (a := 0) rfl
    simpa using this
  have e := ev j hj es
  unfold Exe.Wor.law at e
  refine Exe.top (facts (σ := _) (x := x) hsg hjx) (Exe.Wor.known1 hσ) hσ (by kernel_rfl) (by kernel_rfl) (e) hs hro (vs := #[.agg c0, v1]) ?_
  exact ⟨_, _, rfl, Exe.agg_sym (pre := []) (post := [v1] ++ (List.replicate (100 - (c0.toList ++ [v1]).length) (.bool false) ++ [.pointer (some a), .pointer (some b)])) (by simp) s0 (by simp), _, _, rfl, Exe.one_sym (pre := c0.toList) (post := (List.replicate (100 - (c0.toList ++ [v1]).length) (.bool false) ++ [.pointer (some a), .pointer (some b)])) (by simp) (by simp [s0]), rfl⟩

set_option maxRecDepth 100000 in
theorem lifted (os : Os) (started : os.Started) (H : Type) (enc : TypeId × Value → H) :
    ReturnsInHanded {} Tryz.checked os 3 .any (fun w args => (Rows.worldNoneSpec.pre enc Tryz.prog Tryz.f3 [] false w args ∧ laidMetH Tryz.prog Rows.worldNoneRow.laid w) ∧ sizedMet enc Tryz.prog Tryz.f3 (OpenSpec.ofChange Rows.worldNoneSpec) false w args)
      (Rows.worldNoneSpec.post enc Tryz.prog Tryz.f3 false true false false) := by
  refine returnsInHanded_of_change_and (C := Tryz.checked) (X := fun w _ => laidMetH Tryz.prog Rows.worldNoneRow.laid w) (fun _ _ _ hh h => h.of_heap hh) own started (by kernel_rfl) Tryz.func3
    (ChangeSpec.witness_shaped (enc := enc) (C := Tryz.checked) (os := os) (X := fun w _ => laidMetH Tryz.prog Rows.worldNoneRow.laid w) false (World.laidAll Tryz.prog os Rows.worldNoneRow.laid) #[(.agg #[.int .i64 0, .int .i64 0, .int .i64 0, .int .u64 0, .int .u64 0, .int .u64 0, .int .u64 0, .int .u64 0, .int .u64 0, .int .u64 0, .int .u64 0, .int .u64 0, .int .u64 0, .int .u64 0, .int .u64 0, .string "".toUTF8]), (.int .i64 0)] 8 (World.laidAll_os _ _ _) (World.shaped_of_ZipB (by kernel_rfl) (by kernel_rfl)) (by kernel_rfl) (by kernel_rfl) (by kernel_rfl)
      (by rw [MakeChecks.laidMetH_plain _ _ _ (by kernel_rfl)]; exact laidMet_laidAll _ (by kernel_rfl) (by kernel_rfl))) ?_
  intro W base args ds gs before hval0 hW _ _ hL _
  have hval : ∀ (j : Nat) t v, Tryz.f3.params[j]? = some t → args[j]? = some v → Value.okWide Tryz.prog W .any base t v := hval0
  have hW' := hW
  obtain ⟨p, q, hA0, hV, rfl, _, _⟩ := hW
  have hA : DataW.TrodAll enc Tryz.prog W 0 (fun _ => true) true Tryz.f3.params.toList args.toList ds p := hA0
  have hT := hA
  rw [Tryz.params3] at hA hval
  obtain ⟨v0, vs0, d0, ds0, p0, q0, hargs, rfl, rfl, h0, r0⟩ := trodAll_cons hA
  obtain ⟨v1, vs1, d1, ds1, p1, q1, rfl, rfl, rfl, h1, r1⟩ := trodAll_cons r0
  obtain ⟨rfl, rfl, rfl⟩ := trodAll_nil r1
  obtain rfl : args = #[v0, v1] := by cases args; simp_all
  obtain ⟨rfl, rfl⟩ := trodVars_none hV
  refine (walk W v0 (hval 0 26 v0 rfl rfl) v1 (hval 1 3 v1 rfl rfl) (glob_of hL)).mono fun e W' ⟨he, hk, hb⟩ => ?_
  subst he
  have hlt := hW'.lt
  exact ⟨_, rfl, Exe.post_of_below (pv := []) hW' (fun _ _ _ => trodAll_cons_mk (shut_bool Tryz.underlying4 _) trodAll_mk0) (fun sp hs => Exe.trodAll_stays laid hb (by kernel_rfl) hT (fun x hx => hlt x (by simpa using hx)) (fun x hx => hs x (by simpa using hx))) (fun _ _ => rfl) rfl
    hk hb (ok_one (by kernel_rfl) rfl (okWide_bool_mk Tryz.underlying4 _))⟩

theorem jf_laid : laidOutB Tryz.pinned.checked.prog = true := by kernel_rfl
theorem jf_rowed : mapsRowed Tryz.pinned.checked.prog = true := by kernel_rfl
theorem jf_inPlace : (Rows.worldNoneRow.inPlace == Tryz.pinned.checked.prog.inPlace 3) = true := by kernel_rfl
theorem jf_unfollowed : (Rows.worldNoneRow.unfollowed == Tryz.pinned.checked.prog.unfollowed 3) = true := by kernel_rfl
theorem jf_recurses : (Rows.worldNoneRow.recurses == Tryz.pinned.checked.prog.recurses 3) = true := by kernel_rfl
theorem jf_named : (Rows.worldNoneRow.named == Tryz.pinned.checked.prog.varsNamed 3) = true := by kernel_rfl
theorem jf : joinedFacts Tryz.pinned.checked.prog 3 Tryz.f3 Rows.worldNoneSpec Rows.worldNoneRow = true := by
  simp only [joinedFacts, jf_laid, jf_rowed, jf_inPlace, jf_unfollowed, jf_recurses, jf_named, Bool.and_true]
  kernel_rfl
theorem said : Rows.WorldNoneSaid :=
  OpenClaim.holds_of_wide 3 Tryz.f3 rfl rfl rfl rfl rfl rfl rfl ⟨rfl, rfl, rfl, rfl, rfl⟩ rfl rfl rfl rfl rfl (by kernel_rfl) Tryz.func3 jf
    (of_decide_eq_true (by kernel_rfl)) (by unfold Func.isWrapper; first | (rw [if_pos (by decide +kernel)]; kernel_rfl) | (rw [if_neg (by decide +kernel)]; exact ⟨rfl, rfl⟩))
    (fun os started H enc _ => lifted os started H enc)

theorem plain (f : FuncId) (fn : Func) (hf : Tryz.pinned.checked.prog.funcNamed "podesta/podestalaw25.WorldNone" = some f) (hfn : Tryz.pinned.checked.prog.funcs[f]? = some fn) :
    true = Tryz.pinned.checked.prog.looks [] ∧ ∀ (j : Nat) t, fn.params[j]? = some t → Tryz.pinned.checked.prog.wantsStandIn t = false := by
  obtain rfl : f = 3 := Option.some.inj ((show Tryz.prog.funcNamed "podesta/podestalaw25.WorldNone" = some 3 by kernel_rfl).symm.trans hf) |>.symm
  obtain rfl : fn = Tryz.f3 := (Option.some.inj (Tryz.func3.symm.trans hfn)).symm
  refine ⟨by kernel_rfl, fun j t ht => ?_⟩
  rw [Tryz.params3] at ht
  have hm : t ∈ [26, 3] := by simpa using Array.mem_of_getElem? ht
  have hall : ([26, 3].all fun u => !Tryz.prog.wantsStandIn u) = true := by kernel_rfl
  exact (show Tryz.prog.wantsStandIn t = false by simpa using List.all_eq_true.1 hall t hm)

theorem no_goes {P : Program} (h : (P.funcs.toList.all fun f => !f.goes) = true) (f : FuncId) : P.goes f = false := by
  have h1 : ∀ x ∈ P.funcs, x.goes = false := fun x hx => by simpa using List.all_eq_true.1 h x (by simpa using hx)
  unfold Program.goes
  rw [Bool.or_eq_false_iff]
  constructor
  · rw [Bool.eq_false_iff]
    intro hc
    simp only [List.any_eq_true, Option.any_eq_true] at hc
    obtain ⟨g, _, x, hx, hg⟩ := hc
    rw [h1 x (Array.mem_of_getElem? hx)] at hg
    cases hg
  · have : P.funcs.any Func.goes = false := by
      rw [Bool.eq_false_iff]
      intro hc
      rw [Array.any_eq_true'] at hc
      obtain ⟨x, hx, hg⟩ := hc
      rw [h1 x hx] at hg
      cases hg
    rw [this, Bool.and_false]
theorem goes_none {P : Program} (h : (P.funcs.toList.all fun f => !f.goes) = true) {c : OpenClaim} (e : c.start = .entering) : false = c.goesBy P := by
  unfold OpenClaim.goesBy Program.goesAt Program.goesFrom
  rw [e]
  have : ∀ x : Option FuncId, x.any P.goes = false := fun x => by
    cases x with
    | none => rfl
    | some f => exact no_goes h f
  rw [this]
  rfl
theorem all_still : (Tryz.pinned.checked.prog.funcs.toList.all fun f => !f.goes) = true := by kernel_rfl
theorem goes : false = Rows.worldNoneRow.goesBy Tryz.pinned.checked.prog := goes_none all_still rfl

theorem card : Rows.WorldNoneCardSaid :=
  Claim7.holds_tied_plain_at .later [] _ _ _ _ said (fun _ h => by cases h) (by kernel_rfl) (fun _ h => by cases h) worldNone_row_tie rfl ⟨rfl, rfl⟩ (by kernel_rfl) rfl plain goes
end worldNone
end Go.Proofs.YtimnljbphmndoaaGreatDoor
