/- 'CtrlNone': the statement's card, proved. -/
import Derived.Test.YtaojcchakhjgoaaGreatDoorCards
import Derived.Test.YtaojcchakhjgoaaGreatDoorTie
import Derived.WalkKit
import Derived.ProofKit
import Derived.OpenShut
import Derived.ChangeMaps5
import Derived.Lay
import Derived.Stop.LaidErr
import Derived.MakeChecks
import Derived.Test.YtaojcchakhjgoaaGreatDoorExO
import Derived.Test.YtaojcchakhjgoaaGreatDoorExL
import Derived.Test.YtaojcchakhjgoaaGreatDoorCtlNone
namespace Go.Proofs.YtaojcchakhjgoaaGreatDoor
open Go Go.ChangeShapes Go.WideShapes Go.ChangeAt Go.RowKit
namespace ctrlNone
theorem own : ownKnob Tryz.prog.godebug = none := by kernel_rfl
theorem laid : laidOutB Tryz.prog = true := by kernel_rfl

theorem rowErr (u : TypeId) (h : Tryz.prog.typeName? 3 u = some "*errors.errorString") : u = 339 :=
  typeName_ptr_named (nm := "errors.errorString") (by kernel_rfl) (by kernel_rfl) (by decide) u (by simpa using h)

theorem cells_of_var {W : World} {n : String} {g : Nat} {cs : Array Value} (hg : Tryz.prog.globalNamed n = some g) (h : W.var? Tryz.prog n = some cs) : ∃ e fz, W.heap[g]? = some (.cells cs e fz) := by
  unfold World.var? at h
  rw [hg, Option.bind_some] at h
  split at h
  · rename_i cs' e fz hc
    cases h
    exact ⟨e, fz, hc⟩
  · cases h

theorem glob_of {W : World} (hL : laidMetH Tryz.prog Rows.ctrlNoneRow.laid W) : ∃ (a b : Addr) (e0 e1 : TypeId) (fz0 fz1 : Nat × Nat), W.heap[0]? = some (.cells #[.iface 339 (.pointer (some a))] e0 fz0) ∧ W.heap[1]? = some (.cells #[.iface 339 (.pointer (some b))] e1 fz1) := by
  have hp : laidMet Tryz.prog Rows.ctrlNoneRow.laid W := (Go.MakeChecks.laidMetH_plain Tryz.prog Rows.ctrlNoneRow.laid W (by kernel_rfl)) ▸ hL
  have h1 := hp.tail.tail.tail
  have h2 := h1.tail
  have gR : Tryz.prog.globalNamed "strconv.ErrRange" = some 1 := by kernel_rfl
  have gS : Tryz.prog.globalNamed "strconv.ErrSyntax" = some 0 := by kernel_rfl
  obtain ⟨a1, s1, hv1, _⟩ := laid_sentinel h1 gR (ti := 167) (by kernel_rfl) Tryz.underlying167 rowErr Tryz.underlying339 Tryz.underlying341 rfl rfl Tryz.underlying9 (by kernel_rfl) (by kernel_rfl)
  obtain ⟨a0, s0, hv0, _⟩ := laid_sentinel h2 gS (ti := 167) (by kernel_rfl) Tryz.underlying167 rowErr Tryz.underlying339 Tryz.underlying341 rfl rfl Tryz.underlying9 (by kernel_rfl) (by kernel_rfl)
  obtain ⟨e0, fz0, k0⟩ := cells_of_var gS hv0
  obtain ⟨e1, fz1, k1⟩ := cells_of_var gR hv1
  exact ⟨a0, a1, e0, e1, fz0, fz1, k0, k1⟩

set_option maxRecDepth 100000 in
theorem walk {base : Nat} (W : World) (v0 : Value) (h0 : Value.okWide Tryz.prog W .any base 3 v0) (v1 : Value) (h1 : Value.okWide Tryz.prog W .any base 9 v1) (v2 : Value) (h2 : Value.okWide Tryz.prog W .any base 59 v2) (hG : ∃ (a b : Addr) (e0 e1 : TypeId) (fz0 fz1 : Nat × Nat), W.heap[0]? = some (.cells #[.iface 339 (.pointer (some a))] e0 fz0) ∧ W.heap[1]? = some (.cells #[.iface 339 (.pointer (some b))] e1 fz1)) : Calls Tryz.prog 7 #[v0, v1, v2] W fun e w' => e = .returned (.bool true) ∧ W.keptBut w' (fun _ => False) ∧ Below W.heap.size W w' := by
  obtain ⟨a, b, e0, e1, fz0, fz1, hg0, hg1⟩ := hG
  have k0 : ∀ x ∈ [v0], x.oneCell' = true := fun x hx => by
    cases List.mem_singleton.1 hx
    exact Exe.okWide_cell (by kernel_rfl) h0
  have k1 : ∀ x ∈ [v1], x.oneCell' = true := fun x hx => by
    cases List.mem_singleton.1 hx
    exact Exe.okWide_cell (by kernel_rfl) h1
  obtain ⟨c2, rfl, s2, k2⟩ := Exe.okWide_agg (by kernel_rfl) h2
  have s2 : c2.size = 48 := s2.trans (by kernel_rfl)
  have hl : ∀ x ∈ [v0] ++ [v1] ++ c2.toList, x.oneCell' = true := fun x hx => by
    simp only [List.mem_append] at hx
    rcases hx with (g0 | g1) | g2
    · exact k0 x g0
    · exact k1 x g1
    · exact k2 x g2
  obtain ⟨es, σ, rfl, hs, hro⟩ := Exe.Ctl.start (l := [v0] ++ [v1] ++ c2.toList) (by simp [s2]) hg0 hg1
  have hσ : ∀ i, (Exe.sigL ([v0] ++ [v1] ++ c2.toList ++ (List.replicate (100 - ([v0] ++ [v1] ++ c2.toList).length) (.bool false) ++ [.pointer (some a), .pointer (some b)])) i).oneCell' = true := Exe.sigL_one fun x hx => by
    rcases List.mem_append.1 hx with g | g
    · exact hl x g
    · rcases List.mem_append.1 g with g | g
      · rw [(List.mem_replicate.1 g).2]; rfl
      · simp only [List.mem_cons, List.not_mem_nil, or_false] at g
        rcases g with rfl | rfl <;> rfl
  refine Exe.top Exe.facts_none (Exe.Ctl.known1 hσ) hσ (by kernel_rfl) (by kernel_rfl) (Exe.Ctl.evNone es) hs hro (vs := #[v0, v1, .agg c2]) ?_
  exact ⟨_, _, rfl, Exe.one_sym (pre := []) (post := [v1] ++ c2.toList ++ (List.replicate (100 - ([v0] ++ [v1] ++ c2.toList).length) (.bool false) ++ [.pointer (some a), .pointer (some b)])) (by simp) (by simp), _, _, rfl, Exe.one_sym (pre := [v0]) (post := c2.toList ++ (List.replicate (100 - ([v0] ++ [v1] ++ c2.toList).length) (.bool false) ++ [.pointer (some a), .pointer (some b)])) (by simp) (by simp), _, _, rfl, Exe.agg_sym (pre := [v0] ++ [v1]) (post := (List.replicate (100 - ([v0] ++ [v1] ++ c2.toList).length) (.bool false) ++ [.pointer (some a), .pointer (some b)])) (by simp) s2 (by simp), rfl⟩

set_option maxRecDepth 100000 in
theorem lifted (os : Os) (started : os.Started) (H : Type) (enc : TypeId × Value → H) :
    ReturnsInHanded {} Tryz.checked os 7 .any (fun w args => (Rows.ctrlNoneSpec.pre enc Tryz.prog Tryz.f7 [] false w args ∧ laidMetH Tryz.prog Rows.ctrlNoneRow.laid w) ∧ sizedMet enc Tryz.prog Tryz.f7 (OpenSpec.ofChange Rows.ctrlNoneSpec) false w args)
      (Rows.ctrlNoneSpec.post enc Tryz.prog Tryz.f7 false true false false) := by
  refine returnsInHanded_of_change_and (C := Tryz.checked) (X := fun w _ => laidMetH Tryz.prog Rows.ctrlNoneRow.laid w) (fun _ _ _ hh h => h.of_heap hh) own started (by kernel_rfl) Tryz.func7
    (ChangeSpec.witness_shaped (enc := enc) (C := Tryz.checked) (os := os) (X := fun w _ => laidMetH Tryz.prog Rows.ctrlNoneRow.laid w) false (World.laidAll Tryz.prog os Rows.ctrlNoneRow.laid) #[(.int .i64 0), (.string "".toUTF8), (.agg #[.int .i64 0, .int .i64 0, .int .i64 0, .int .i64 0, .int .u64 0, .int .u64 0, .int .u64 0, .int .u64 0, .int .u64 0, .int .u64 0, .int .u64 0, .int .u64 0, .int .u64 0, .int .u64 0, .int .u64 0, .int .u64 0, .int .u64 0, .int .u64 0, .int .u64 0, .int .u64 0, .int .u64 0, .int .u64 0, .int .u64 0, .int .u64 0, .int .u64 0, .int .u64 0, .int .u64 0, .int .u64 0, .int .i64 0, .slice none 0 0, .int .i64 0, .int .i64 0, .int .i64 0, .bool false, .int .i64 0, .int .u64 0, .int .u64 0, .int .u64 0, .int .u64 0, .int .u64 0, .int .u64 0, .int .u64 0, .int .u64 0, .int .u64 0, .int .u64 0, .int .u64 0, .int .u64 0, .slice none 0 0])] 8 (World.laidAll_os _ _ _) (World.shaped_of_ZipB (by kernel_rfl) (by kernel_rfl)) (by kernel_rfl) (by kernel_rfl) (by kernel_rfl)
      (by rw [MakeChecks.laidMetH_plain _ _ _ (by kernel_rfl)]; exact laidMet_laidAll _ (by kernel_rfl) (by kernel_rfl))) ?_
  intro W base args ds gs before hval0 hW _ _ hL _
  have hval : ∀ (j : Nat) t v, Tryz.f7.params[j]? = some t → args[j]? = some v → Value.okWide Tryz.prog W .any base t v := hval0
  have hW' := hW
  obtain ⟨p, q, hA0, hV, rfl, _, _⟩ := hW
  have hA : DataW.TrodAll enc Tryz.prog W 0 (fun _ => true) true Tryz.f7.params.toList args.toList ds p := hA0
  have hT := hA
  rw [Tryz.params7] at hA hval
  obtain ⟨v0, vs0, d0, ds0, p0, q0, hargs, rfl, rfl, h0, r0⟩ := trodAll_cons hA
  obtain ⟨v1, vs1, d1, ds1, p1, q1, rfl, rfl, rfl, h1, r1⟩ := trodAll_cons r0
  obtain ⟨v2, vs2, d2, ds2, p2, q2, rfl, rfl, rfl, h2, r2⟩ := trodAll_cons r1
  obtain ⟨rfl, rfl, rfl⟩ := trodAll_nil r2
  obtain rfl : args = #[v0, v1, v2] := by cases args; simp_all
  obtain ⟨rfl, rfl⟩ := trodVars_none hV
  refine (walk W v0 (hval 0 3 v0 rfl rfl) v1 (hval 1 9 v1 rfl rfl) v2 (hval 2 59 v2 rfl rfl) (glob_of hL)).mono fun e W' ⟨he, hk, hb⟩ => ?_
  subst he
  have hlt := hW'.lt
  exact ⟨_, rfl, Exe.post_of_below (pv := []) hW' (fun _ _ _ => trodAll_cons_mk (shut_bool Tryz.underlying4 _) trodAll_mk0) (fun sp hs => Exe.trodAll_stays laid hb (by kernel_rfl) hT (fun x hx => hlt x (by simpa using hx)) (fun x hx => hs x (by simpa using hx))) (fun _ _ => rfl) rfl
    hk hb (ok_one (by kernel_rfl) rfl (okWide_bool_mk Tryz.underlying4 _))⟩

theorem jf_laid : laidOutB Tryz.pinned.checked.prog = true := by kernel_rfl
theorem jf_rowed : mapsRowed Tryz.pinned.checked.prog = true := by kernel_rfl
theorem jf_inPlace : (Rows.ctrlNoneRow.inPlace == Tryz.pinned.checked.prog.inPlace 7) = true := by kernel_rfl
theorem jf_unfollowed : (Rows.ctrlNoneRow.unfollowed == Tryz.pinned.checked.prog.unfollowed 7) = true := by kernel_rfl
theorem jf_recurses : (Rows.ctrlNoneRow.recurses == Tryz.pinned.checked.prog.recurses 7) = true := by kernel_rfl
theorem jf_named : (Rows.ctrlNoneRow.named == Tryz.pinned.checked.prog.varsNamed 7) = true := by kernel_rfl
theorem jf : joinedFacts Tryz.pinned.checked.prog 7 Tryz.f7 Rows.ctrlNoneSpec Rows.ctrlNoneRow = true := by
  simp only [joinedFacts, jf_laid, jf_rowed, jf_inPlace, jf_unfollowed, jf_recurses, jf_named, Bool.and_true]
  kernel_rfl
theorem said : Rows.CtrlNoneSaid :=
  OpenClaim.holds_of_wide 7 Tryz.f7 rfl rfl rfl rfl rfl rfl rfl ⟨rfl, rfl, rfl, rfl, rfl⟩ rfl rfl rfl rfl rfl (by kernel_rfl) Tryz.func7 jf
    (of_decide_eq_true (by kernel_rfl)) (by unfold Func.isWrapper; first | (rw [if_pos (by decide +kernel)]; kernel_rfl) | (rw [if_neg (by decide +kernel)]; exact ⟨rfl, rfl⟩))
    (fun os started H enc _ => lifted os started H enc)

theorem plain (f : FuncId) (fn : Func) (hf : Tryz.pinned.checked.prog.funcNamed "podesta/podestalaw24.CtrlNone" = some f) (hfn : Tryz.pinned.checked.prog.funcs[f]? = some fn) :
    true = Tryz.pinned.checked.prog.looks [] ∧ ∀ (j : Nat) t, fn.params[j]? = some t → Tryz.pinned.checked.prog.wantsStandIn t = false := by
  obtain rfl : f = 7 := Option.some.inj ((show Tryz.prog.funcNamed "podesta/podestalaw24.CtrlNone" = some 7 by kernel_rfl).symm.trans hf) |>.symm
  obtain rfl : fn = Tryz.f7 := (Option.some.inj (Tryz.func7.symm.trans hfn)).symm
  refine ⟨by kernel_rfl, fun j t ht => ?_⟩
  rw [Tryz.params7] at ht
  have hm : t ∈ [3, 9, 59] := by simpa using Array.mem_of_getElem? ht
  have hall : ([3, 9, 59].all fun u => !Tryz.prog.wantsStandIn u) = true := by kernel_rfl
  exact (show Tryz.prog.wantsStandIn t = false by simpa using List.all_eq_true.1 hall t hm)

theorem card : Rows.CtrlNoneCardSaid :=
  Claim7.holds_tied_plain_at .later [] _ _ _ _ said (fun _ h => by cases h) (by kernel_rfl) (fun _ h => by cases h) ctrlNone_row_tie rfl ⟨rfl, rfl⟩ (by kernel_rfl) rfl plain (by kernel_rfl)
end ctrlNone
end Go.Proofs.YtaojcchakhjgoaaGreatDoor
