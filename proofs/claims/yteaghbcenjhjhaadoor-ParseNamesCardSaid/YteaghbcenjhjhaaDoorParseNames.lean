/- 'ParseNames': the statement's card, proved. -/
import Derived.Test.YteaghbcenjhjhaaDoorCards
import Derived.Test.YteaghbcenjhjhaaDoorTie
import Derived.WalkKit
import Derived.ProofKit
import Derived.OpenShut
import Derived.ChangeMaps5
import Derived.Lay
import Derived.Stop.LaidErr
import Derived.MakeChecks
import Derived.Test.YteaghbcenjhjhaaDoorExH
import Derived.Test.YteaghbcenjhjhaaDoorExL
import Derived.Test.YteaghbcenjhjhaaDoorNamD
import Derived.Test.YteaghbcenjhjhaaDoorNamN0
import Derived.Test.YteaghbcenjhjhaaDoorNamN1
import Derived.Test.YteaghbcenjhjhaaDoorNamN2
import Derived.Test.YteaghbcenjhjhaaDoorNamN3
import Derived.Test.YteaghbcenjhjhaaDoorNamK0
import Derived.Test.YteaghbcenjhjhaaDoorNamK1
namespace Go.Proofs.YteaghbcenjhjhaaDoor
open Go Go.ChangeShapes Go.WideShapes Go.ChangeAt Go.RowKit
namespace parseNames
theorem own : ownKnob Tryd.prog.godebug = none := by kernel_rfl
theorem laid : laidOutB Tryd.prog = true := by kernel_rfl

open Go.Exe.Nam

/-- What stands at each open place. -/
def sg (W : List UInt8) (a b : Addr) : Exe.Sig := fun i =>
  if i < 11 then .string (mkS (den W (tabP.getD i []))) else if i = 100 then .pointer (some a) else if i = 101 then .pointer (some b) else (match W[i - 200]? with
    | some c => .int .u8 (c.toNat : Int)
    | none => .bool false)
theorem sg_one (W : List UInt8) (a b : Addr) : ∀ i, (sg W a b i).oneCell' = true := fun i => by
  unfold sg
  repeat' split
  all_goals rfl
theorem sg_word {W : List UInt8} {a b : Addr} (hW : W.length ≤ 32) : Word (sg W a b) W where
  tab := fun i p h => by
    have hlt : i < 11 := (List.getElem?_eq_some_iff.1 h).1
    unfold sg
    rw [if_pos hlt, List.getD_eq_getElem?_getD, h]; rfl
  byte := fun i h => by
    unfold sg
    rw [if_neg (by omega), if_neg (by omega), if_neg (by omega), show 200 + i - 200 = i by omega, List.getElem?_eq_getElem h]
  le := hW
theorem sg_zero (s : ByteArray) (a b : Addr) : sg s.data.toList a b 0 = .string s := by
  unfold sg
  rw [if_pos (by omega)]
  show Value.string (mkS (s.data.toList ++ [])) = _
  rw [List.append_nil, mkS_of]

theorem start {σ : Exe.Sig} {w : World} {a b : Addr} (ha : σ 100 = .pointer (some a)) (hb : σ 101 = .pointer (some b)) {e0 e1 : TypeId} {fz0 fz1 : Nat × Nat} (h0 : w.heap[0]? = some (.cells #[.iface 84 (.pointer (some a))] e0 fz0)) (h1 : w.heap[1]? = some (.cells #[.iface 84 (.pointer (some b))] e1 fz1)) :
    ∃ es, Exe.HR σ 6 (Exe.rho0 6 w) (Exe.gmem 400 es G) w ∧ ∀ r row, (Exe.gmem 400 es G).get r = some row → Exe.wrOf row = false := by
  refine ⟨fun r => if r = 0 then e0 else e1, ?_⟩
  unfold Exe.gmem
  refine Exe.HR.starts (by decide) fun r e c h => ?_
  simp only [G, List.map_cons, List.map_nil, List.mem_cons, List.not_mem_nil, or_false, Prod.mk.injEq] at h
  rcases h with ⟨rfl, rfl, rfl⟩ | ⟨rfl, rfl, rfl⟩
  · exact ⟨by decide, rfl, _, fz0, fun ρ => ⟨_, rfl, ha.symm⟩, h0⟩
  · exact ⟨by decide, rfl, _, fz1, fun ρ => ⟨_, rfl, hb.symm⟩, h1⟩

set_option maxRecDepth 100000 in
theorem string_of {W : World} {base : Nat} {v : Value} (h : Value.okWide Tryd.prog W .any base 9 v) : ∃ s : ByteArray, v = .string s ∧ s.size ≤ 9223372036854775807 := by
  unfold Value.okWide at h
  rw [Tryd.underlying9] at h
  unfold Cell.okWide at h
  rw [Tryd.underlying9] at h
  unfold Cell.ok at h
  rw [Tryd.underlying9] at h
  cases v <;> simp at h
  exact ⟨_, rfl, by omega⟩

theorem evN (n : Nat) (h1 : 1 ≤ n) (hn : n ≤ 32) (es : Nat → Nat) : Exe.isT (name n es) = true := by
  match n, h1, hn with
  | 1, _, _ => exact name1 es
  | 2, _, _ => exact name2 es
  | 3, _, _ => exact name3 es
  | 4, _, _ => exact name4 es
  | 5, _, _ => exact name5 es
  | 6, _, _ => exact name6 es
  | 7, _, _ => exact name7 es
  | 8, _, _ => exact name8 es
  | 9, _, _ => exact name9 es
  | 10, _, _ => exact name10 es
  | 11, _, _ => exact name11 es
  | 12, _, _ => exact name12 es
  | 13, _, _ => exact name13 es
  | 14, _, _ => exact name14 es
  | 15, _, _ => exact name15 es
  | 16, _, _ => exact name16 es
  | 17, _, _ => exact name17 es
  | 18, _, _ => exact name18 es
  | 19, _, _ => exact name19 es
  | 20, _, _ => exact name20 es
  | 21, _, _ => exact name21 es
  | 22, _, _ => exact name22 es
  | 23, _, _ => exact name23 es
  | 24, _, _ => exact name24 es
  | 25, _, _ => exact name25 es
  | 26, _, _ => exact name26 es
  | 27, _, _ => exact name27 es
  | 28, _, _ => exact name28 es
  | 29, _, _ => exact name29 es
  | 30, _, _ => exact name30 es
  | 31, _, _ => exact name31 es
  | 32, _, _ => exact name32 es
  | n + 33, _, h => omega

theorem evK (q : Nat × Nat) (hq : q ∈ keptW) (es : Nat → Nat) : Exe.isT (keep q.1 q.2 es) = true := by
  simp only [keptW, List.mem_cons, List.not_mem_nil, or_false] at hq
  rcases hq with rfl | rfl | rfl | rfl | rfl | rfl | rfl | rfl | rfl | rfl | rfl | rfl | rfl | rfl | rfl | rfl | rfl | rfl
  · exact keep0 es
  · exact keep1 es
  · exact keep2 es
  · exact keep3 es
  · exact keep4 es
  · exact keep5 es
  · exact keep6 es
  · exact keep7 es
  · exact keep8 es
  · exact keep9 es
  · exact keep10 es
  · exact keep11 es
  · exact keep12 es
  · exact keep13 es
  · exact keep14 es
  · exact keep15 es
  · exact keep16 es
  · exact keep17 es

theorem wd_facts {s : ByteArray} (h : wd s = true) : 1 ≤ s.data.toList.length ∧ s.data.toList.length ≤ 32 ∧ letN (Exe.bytesN s.data.toList % 256) = true ∧ ∀ b, b ∈ s.data.toList → (letN b.toNat || digN b.toNat) = true := by
  unfold wd at h
  simp only [Bool.and_eq_true, decide_eq_true_iff] at h
  obtain ⟨⟨h1, h2⟩, h3, h4⟩ := h
  rw [size_len] at h1 h2
  have at_ : ∀ i (hi : i < s.data.toList.length), byt s i = (s.data.toList[i].toNat : Int) := fun i hi => by
    unfold byt
    rw [ba_get, List.getElem?_eq_getElem hi]; rfl
  refine ⟨h1, h2, ?_, fun b hb => ?_⟩
  · rw [first_byte (by omega), ← (letN_eq (UInt8.toNat_lt _)).1, ← at_ 0 (by omega)]; exact h3
  · obtain ⟨i, hi, rfl⟩ := List.getElem_of_mem hb
    have := List.all_eq_true.1 h4 i (List.mem_range.2 (by rw [size_len]; exact hi))
    rw [at_ i hi, (letN_eq (UInt8.toNat_lt _)).1, (letN_eq (UInt8.toNat_lt _)).2] at this
    exact this

set_option maxRecDepth 100000 in
set_option maxHeartbeats 4000000 in
theorem walk {base : Nat} (W : World) (v0 : Value) (h0 : Value.okWide Tryd.prog W .any base 9 v0) (hG : ∃ (a b : Addr) (e0 e1 : TypeId) (fz0 fz1 : Nat × Nat), W.heap[0]? = some (.cells #[.iface 84 (.pointer (some a))] e0 fz0) ∧ W.heap[1]? = some (.cells #[.iface 84 (.pointer (some b))] e1 fz1)) : Calls Tryd.prog 3 #[v0] W fun e w' => e = .returned (.bool true) ∧ W.keptBut w' (fun _ => False) ∧ Below W.heap.size W w' := by
  obtain ⟨a, b, e0, e1, fz0, fz1, hg0, hg1⟩ := hG
  obtain ⟨s, rfl, hmax⟩ := string_of h0
  have hσ := sg_one s.data.toList a b
  obtain ⟨es, hs, hro⟩ := start (σ := sg s.data.toList a b) rfl rfl hg0 hg1
  cases hwd : wd s with
  | false => exact Exe.top Exe.facts_none (known3 hσ (sg_zero s a b) hmax hwd) hσ (by kernel_rfl) (by kernel_rfl) (nons es) hs hro (vs := #[.string s]) ⟨_, _, rfl, (sg_zero s a b).symm, rfl⟩
  | true =>
    obtain ⟨w1, w2, w3, w4⟩ := wd_facts hwd
    by_cases hk : ∀ q, q ∈ keptW → Exe.strEq s.data.toList.length (Exe.bytesN s.data.toList) q.1 q.2 = false
    · have hw := sg_word (W := s.data.toList) (a := a) (b := b) w2
      have hf : Free s.data.toList := ⟨w3, w4, hk⟩
      have e := evN _ w1 w2 es
      unfold name at e
      exact Exe.top (factsN hw hf) (known1 hσ hw hf hwd) hσ (by kernel_rfl) (by kernel_rfl) e hs hro (vs := #[.string s]) ⟨_, _, rfl, (sg_zero s a b).symm, rfl⟩
    · obtain ⟨q, hq⟩ := Classical.not_forall.1 hk
      obtain ⟨hq1, hq2⟩ := Classical.not_imp.1 hq
      obtain ⟨k1, k2⟩ := strEq_some (by simpa using hq2)
      have e := evK q hq1 es
      unfold keep at e
      exact Exe.top Exe.facts_none (known2 hσ) hσ (by kernel_rfl) (by kernel_rfl) e hs hro (vs := #[.string s]) ⟨_, _, rfl, ⟨s, rfl, k1, k2⟩, rfl⟩

theorem rowErr (u : TypeId) (h : Tryd.prog.typeName? 3 u = some "*errors.errorString") : u = 84 :=
  typeName_ptr_named (nm := "errors.errorString") (by kernel_rfl) (by kernel_rfl) (by decide) u (by simpa using h)

theorem cells_of_var {W : World} {n : String} {g : Nat} {cs : Array Value} (hg : Tryd.prog.globalNamed n = some g) (h : W.var? Tryd.prog n = some cs) : ∃ e fz, W.heap[g]? = some (.cells cs e fz) := by
  unfold World.var? at h
  rw [hg, Option.bind_some] at h
  split at h
  · rename_i cs' e fz hc
    cases h
    exact ⟨e, fz, hc⟩
  · cases h

theorem glob_of {W : World} (hL : laidMetH Tryd.prog Rows.parseNamesRow.laid W) : ∃ (a b : Addr) (e0 e1 : TypeId) (fz0 fz1 : Nat × Nat), W.heap[0]? = some (.cells #[.iface 84 (.pointer (some a))] e0 fz0) ∧ W.heap[1]? = some (.cells #[.iface 84 (.pointer (some b))] e1 fz1) := by
  have hp : laidMet Tryd.prog Rows.parseNamesRow.laid W := (Go.MakeChecks.laidMetH_plain Tryd.prog Rows.parseNamesRow.laid W (by kernel_rfl)) ▸ hL
  have h1 := hp.tail.tail.tail
  have h2 := h1.tail
  have gR : Tryd.prog.globalNamed "strconv.ErrRange" = some 1 := by kernel_rfl
  have gS : Tryd.prog.globalNamed "strconv.ErrSyntax" = some 0 := by kernel_rfl
  obtain ⟨a1, s1, hv1, _⟩ := laid_sentinel h1 gR (ti := 52) (by kernel_rfl) Tryd.underlying52 rowErr Tryd.underlying84 Tryd.underlying86 rfl rfl Tryd.underlying9 (by kernel_rfl) (by kernel_rfl)
  obtain ⟨a0, s0, hv0, _⟩ := laid_sentinel h2 gS (ti := 52) (by kernel_rfl) Tryd.underlying52 rowErr Tryd.underlying84 Tryd.underlying86 rfl rfl Tryd.underlying9 (by kernel_rfl) (by kernel_rfl)
  obtain ⟨e0, fz0, k0⟩ := cells_of_var gS hv0
  obtain ⟨e1, fz1, k1⟩ := cells_of_var gR hv1
  exact ⟨a0, a1, e0, e1, fz0, fz1, k0, k1⟩

set_option maxRecDepth 100000 in
theorem lifted (os : Os) (started : os.Started) (H : Type) (enc : TypeId × Value → H) :
    ReturnsInHanded {} Tryd.checked os 3 .any (fun w args => (Rows.parseNamesSpec.pre enc Tryd.prog Tryd.f3 [] false w args ∧ laidMetH Tryd.prog Rows.parseNamesRow.laid w) ∧ sizedMet enc Tryd.prog Tryd.f3 (OpenSpec.ofChange Rows.parseNamesSpec) false w args)
      (Rows.parseNamesSpec.post enc Tryd.prog Tryd.f3 false true false false) := by
  refine returnsInHanded_of_change_and (C := Tryd.checked) (X := fun w _ => laidMetH Tryd.prog Rows.parseNamesRow.laid w) (fun _ _ _ hh h => h.of_heap hh) own started (by kernel_rfl) Tryd.func3
    (ChangeSpec.witness_shaped (enc := enc) (C := Tryd.checked) (os := os) (X := fun w _ => laidMetH Tryd.prog Rows.parseNamesRow.laid w) false (World.laidAll Tryd.prog os Rows.parseNamesRow.laid) #[(.string "".toUTF8)] 8 (World.laidAll_os _ _ _) (World.shaped_of_ZipB (by kernel_rfl) (by kernel_rfl)) (by kernel_rfl) (by kernel_rfl) (by kernel_rfl)
      (by rw [MakeChecks.laidMetH_plain _ _ _ (by kernel_rfl)]; exact laidMet_laidAll _ (by kernel_rfl) (by kernel_rfl))) ?_
  intro W base args ds gs before hval0 hW _ _ hL _
  have hval : ∀ (j : Nat) t v, Tryd.f3.params[j]? = some t → args[j]? = some v → Value.okWide Tryd.prog W .any base t v := hval0
  have hW' := hW
  obtain ⟨p, q, hA0, hV, rfl, _, _⟩ := hW
  have hA : DataW.TrodAll enc Tryd.prog W 0 (fun _ => true) true Tryd.f3.params.toList args.toList ds p := hA0
  have hT := hA
  rw [Tryd.params3] at hA hval
  obtain ⟨v0, vs0, d0, ds0, p0, q0, hargs, rfl, rfl, h0, r0⟩ := trodAll_cons hA
  obtain ⟨rfl, rfl, rfl⟩ := trodAll_nil r0
  obtain rfl : args = #[v0] := by cases args; simp_all
  obtain ⟨rfl, rfl⟩ := trodVars_none hV
  refine (walk W v0 (hval 0 9 v0 rfl rfl) (glob_of hL)).mono fun e W' ⟨he, hk, hb⟩ => ?_
  subst he
  have hlt := hW'.lt
  exact ⟨_, rfl, Exe.post_of_below (pv := []) hW' (fun _ _ _ => trodAll_cons_mk (shut_bool Tryd.underlying4 _) trodAll_mk0) (fun sp hs => Exe.trodAll_stays laid hb (by kernel_rfl) hT (fun x hx => hlt x (by simpa using hx)) (fun x hx => hs x (by simpa using hx))) (fun _ _ => rfl) rfl
    hk hb (ok_one (by kernel_rfl) rfl (okWide_bool_mk Tryd.underlying4 _))⟩

theorem jf_laid : laidOutB Tryd.pinned.checked.prog = true := by kernel_rfl
theorem jf_rowed : mapsRowed Tryd.pinned.checked.prog = true := by kernel_rfl
theorem jf_inPlace : (Rows.parseNamesRow.inPlace == Tryd.pinned.checked.prog.inPlace 3) = true := by kernel_rfl
theorem jf_unfollowed : (Rows.parseNamesRow.unfollowed == Tryd.pinned.checked.prog.unfollowed 3) = true := by kernel_rfl
theorem jf_recurses : (Rows.parseNamesRow.recurses == Tryd.pinned.checked.prog.recurses 3) = true := by kernel_rfl
theorem jf_named : (Rows.parseNamesRow.named == Tryd.pinned.checked.prog.varsNamed 3) = true := by kernel_rfl
theorem jf : joinedFacts Tryd.pinned.checked.prog 3 Tryd.f3 Rows.parseNamesSpec Rows.parseNamesRow = true := by
  simp only [joinedFacts, jf_laid, jf_rowed, jf_inPlace, jf_unfollowed, jf_recurses, jf_named, Bool.and_true]
  kernel_rfl
theorem said : Rows.ParseNamesSaid :=
  OpenClaim.holds_of_wide 3 Tryd.f3 rfl rfl rfl rfl rfl rfl rfl ⟨rfl, rfl, rfl, rfl, rfl⟩ rfl rfl rfl rfl rfl (by kernel_rfl) Tryd.func3 jf
    (of_decide_eq_true (by kernel_rfl)) (by unfold Func.isWrapper; first | (rw [if_pos (by decide +kernel)]; kernel_rfl) | (rw [if_neg (by decide +kernel)]; exact ⟨rfl, rfl⟩))
    (fun os started H enc _ => lifted os started H enc)

theorem plain (f : FuncId) (fn : Func) (hf : Tryd.pinned.checked.prog.funcNamed "podesta/podestalaw16.ParseNames" = some f) (hfn : Tryd.pinned.checked.prog.funcs[f]? = some fn) :
    true = Tryd.pinned.checked.prog.looks [] ∧ ∀ (j : Nat) t, fn.params[j]? = some t → Tryd.pinned.checked.prog.wantsStandIn t = false := by
  obtain rfl : f = 3 := Option.some.inj ((show Tryd.prog.funcNamed "podesta/podestalaw16.ParseNames" = some 3 by kernel_rfl).symm.trans hf) |>.symm
  obtain rfl : fn = Tryd.f3 := (Option.some.inj (Tryd.func3.symm.trans hfn)).symm
  refine ⟨by kernel_rfl, fun j t ht => ?_⟩
  rw [Tryd.params3] at ht
  have hm : t ∈ [9] := by simpa using Array.mem_of_getElem? ht
  have hall : ([9].all fun u => !Tryd.prog.wantsStandIn u) = true := by kernel_rfl
  exact (show Tryd.prog.wantsStandIn t = false by simpa using List.all_eq_true.1 hall t hm)

theorem no_goes {P : Program} (h : (P.funcs.toList.all fun f => !f.goes) = true) (f : FuncId) : P.goes f = false := by
  have h1 : ∀ x ∈ P.funcs, x.goes = false := fun x hx => by simpa using List.all_eq_true.1 h x (by simpa using hx)
  unfold Program.goes
  rw [Bool.or_eq_false_iff]
  constructor
  · rw [Bool.eq_false_iff]
    intro hc
    simp only [List.any_eq_true, Option.any_eq_true] at hc
    obtain ⟨g, _, x, hx, hg⟩ := hc
    rw [h1 x (Array.mem_of_getElem? hx)] at hg
    cases hg
  · have : P.funcs.any Func.goes = false := by
      rw [Bool.eq_false_iff]
      intro hc
      rw [Array.any_eq_true'] at hc
      obtain ⟨x, hx, hg⟩ := hc
      rw [h1 x hx] at hg
      cases hg
    rw [this, Bool.and_false]
theorem goes_none {P : Program} (h : (P.funcs.toList.all fun f => !f.goes) = true) {c : OpenClaim} (e : c.start = .entering) : false = c.goesBy P := by
  unfold OpenClaim.goesBy Program.goesAt Program.goesFrom
  rw [e]
  have : ∀ x : Option FuncId, x.any P.goes = false := fun x => by
    cases x with
    | none => rfl
    | some f => exact no_goes h f
  rw [this]
  rfl
theorem all_still : (Tryd.pinned.checked.prog.funcs.toList.all fun f => !f.goes) = true := by kernel_rfl
theorem goes : false = Rows.parseNamesRow.goesBy Tryd.pinned.checked.prog := goes_none all_still rfl

theorem card : Rows.ParseNamesCardSaid :=
  Claim7.holds_tied_plain_at .later [] _ _ _ _ said (fun _ h => by cases h) (by kernel_rfl) (fun _ h => by cases h) parseNames_row_tie rfl ⟨rfl, rfl⟩ (by kernel_rfl) rfl plain goes
end parseNames
end Go.Proofs.YteaghbcenjhjhaaDoor
