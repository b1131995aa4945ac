/- Regions as plain functions: touching; 'RegionTouch'. -/
import Derived.Test.YtffkolbogcpjjaaFnC
import Derived.Test.YtffkolbogcpjjaaQubeI
import Derived.Sort.Walk13a
namespace Go.Proofs.Ytffkolbogcpjjaa
open Go Go.Pod Go.Proofs Go.Sort Go.Shelf

abbrev Rs := Nat × (Nat → S_api_Region)

/-! ### answers -/

def RA : S_api_Region := ⟨2, ⟨fun _ => 0, fun _ => 0⟩⟩
def RB : S_api_Region := ⟨1, ⟨fun _ => 0, fun _ => 0⟩⟩

theorem srt3 {g : Nat → S_api_Region} (h0 : g 0 = RA) (h1 : g 1 = RB) (h2 : g 2 = RA) : srt rc 3 g = #[RB, RA, RA] := by
  have e : (Array.ofFn fun i : Fin 3 => g i) = #[RA, RB, RA] := by
    apply Array.ext
    · simp
    · intro i h3 h4
      have : i = 0 ∨ i = 1 ∨ i = 2 := by simp at h4; omega
      rcases this with rfl | rfl | rfl <;> simp [h0, h1, h2]
  have c1 : ltOf rc RB RA = true := by kernel_rfl
  have c3 : ltOf rc RA RA = false := by kernel_rfl
  unfold srt
  rw [e, pdq_small (by decide), insertionSort]
  rw [insOuter, insInner]
  simp [c1, c3, insInner, insOuter, swp]

def pushR (m : Rs) (c : S_api_Region) : Rs := (m.1 + 1, fun i => if i < m.1 then m.2 i else (fun i => ([c] : List S_api_Region).getD i (S_api_Region.mk (0 : Int) (S_api_Cube.mk (fun _ => 0) (fun _ => 0)))) (i - m.1))
def g3 : Rs := pushR (pushR (pushR (0, fun _ => S_api_Region.mk (0 : Int) (S_api_Cube.mk (fun _ => 0) (fun _ => 0))) RA) RB) RA

theorem sort3 : F_slices_SortFunc_region_compare g3 = some (3, fun i => (#[RB, RA, RA] : Array S_api_Region)[i]!) := by
  unfold F_slices_SortFunc_region_compare
  rw [chk_t (show g3.1 < 4611686018427387904 by decide), show g3.1 = 3 from rfl, srt3 (g := g3.2) rfl rfl rfl]

theorem of3 (l : Nat × (Nat → S_api_Change)) (h : iter (fun s : Int × Rs => F_region_Of_L1 300 l ((l.1 : Nat) : Int) s.1 s.2) 300 ((0 : Int), (0, fun _ => S_api_Region.mk (0 : Int) (S_api_Cube.mk (fun _ => 0) (fun _ => 0)))) = some (.inl g3)) :
    F_region_Of 300 l = (F_slices_Compact_api_Region 300 (3, fun i => (#[RB, RA, RA] : Array S_api_Region)[i]!)).bind fun r2 =>
        after (iter (fun s => F_region_Of_L2 300 ((r2.1 : Nat) : Int) r2 s.1 s.2) 300 ((0 : Int), (0, (fun _ => (S_api_Region.mk (0 : Int) (S_api_Cube.mk (fun _ => 0) (fun _ => 0))))))) fun e7 =>
        some e7 := by
  unfold F_region_Of
  have ha : ∀ {α : Type} (f : Rs → Option α), after (some (.inl g3)) f = f g3 := fun _ => rfl
  rw [h, ha, sort3, Option.bind_some]

theorem answers_ok : F_law19_answers 300 = some true := by
  unfold F_law19_answers
  rw [of3]
  · kernel_rfl
  · kernel_rfl

/-! ### Touching -/

def tq (x y : S_api_Region) : Bool := bif mok x.f1 y.f1 then x.f0 == y.f0 else false
def tch (a b : Rs) : Bool := (List.range a.1).any fun i => (List.range b.1).any fun j => tq (a.2 i) (b.2 j)
def UR (a : Rs) : Prop := ∀ i, i < a.1 → UC (a.2 i).f1

theorem stop_any (q : Nat → Bool) (n : Nat) : (decide ((match stopAt (fun j => !q j) n 0 with | none => (-1 : Int) | some m => (m : Int)) ≥ 0)) = (List.range n).any q := by
  cases h : stopAt (fun j => !q j) n 0 with
  | none =>
    have h2 := (stopAt_all n 0).1 h
    rw [decide_eq_false (by decide)]
    symm
    rw [List.any_eq_false]
    intro i hi
    have := h2 i (by simpa using hi)
    simpa using this
  | some m =>
    obtain ⟨_, h2, h3, _⟩ := stopAt_some h
    rw [decide_eq_true (by show (m : Int) ≥ 0; omega)]
    symm
    rw [List.any_eq_true]
    exact ⟨m, by simpa using h2, by simpa using h3⟩

theorem touch_11 {fu : Nat} (hf : 300 ≤ fu) {x : S_api_Region} (hx : UC x.f1) {b : Rs} (hb : UR b) (hn : b.1 ≤ 100) : F_slices_ContainsFunc_api_Region_region_Touch_1_1 fu b x = some ((List.range b.1).any fun j => tq x (b.2 j)) := by
  unfold F_slices_ContainsFunc_api_Region_region_Touch_1_1 F_slices_IndexFunc_api_Region_region_Touch_1_1
  rw [show (0 : Int) = (fun i : Nat => (i : Int)) 0 from rfl, iter_scan (fun i : Nat => (i : Int)) (fun j => !tq x (b.2 j)) (fun i => (i : Int)) (e := ()) b.1 0 fu (by omega)]
  · rw [← stop_any]
    cases stopAt (fun j => !tq x (b.2 j)) b.1 0 <;> rfl
  · intro i _ h2
    unfold F_slices_IndexFunc_api_Region_region_Touch_1_1_L1 F_region_Touch_1_1
    rw [decide_eq_true (show (i : Int) < (b.1 : Int) by omega), ifs, chk_t (by omega), Int.toNat_natCast, cube_meet (by omega) hx (hb i (by omega)), Option.bind_some, Option.bind_some, wrap_succ (by omega)]
    unfold tq
    cases mok x.f1 (b.2 i).f1 <;> cases h : (x.f0 == (b.2 i).f0) <;> simp [ifs]
  · rw [Nat.zero_add]
    unfold F_slices_IndexFunc_api_Region_region_Touch_1_1_L1
    rw [decide_eq_false (by omega)]; rfl

theorem region_touch {fu : Nat} (hf : 300 ≤ fu) {a b : Rs} (ha : UR a) (hb : UR b) (hn : a.1 ≤ 100) (hm : b.1 ≤ 100) : F_region_Touch fu a b = some (tch a b) := by
  unfold F_region_Touch F_slices_ContainsFunc_api_Region_region_Touch_1 F_slices_IndexFunc_api_Region_region_Touch_1
  rw [show (0 : Int) = (fun i : Nat => (i : Int)) 0 from rfl, iter_scan (fun i : Nat => (i : Int)) (fun i => !((List.range b.1).any fun j => tq (a.2 i) (b.2 j))) (fun i => (i : Int)) (e := ()) a.1 0 fu (by omega)]
  · unfold tch
    rw [← stop_any]
    cases stopAt (fun i => !((List.range b.1).any fun j => tq (a.2 i) (b.2 j))) a.1 0 <;> rfl
  · intro i _ h2
    unfold F_slices_IndexFunc_api_Region_region_Touch_1_L1 F_region_Touch_1
    rw [decide_eq_true (show (i : Int) < (a.1 : Int) by omega), ifs, chk_t (by omega), Int.toNat_natCast, touch_11 hf (ha i (by omega)) hb hm, Option.bind_some, Option.bind_some, wrap_succ (by omega)]
    cases (List.range b.1).any fun j => tq (a.2 i) (b.2 j) <;> simp [ifs]
  · rw [Nat.zero_add]
    unfold F_slices_IndexFunc_api_Region_region_Touch_1_L1
    rw [decide_eq_false (by omega)]; rfl

theorem not_all (n : Nat) (q : Nat → Bool) : ((List.range n).all fun i => !q i) = !((List.range n).any q) := by
  rw [List.not_any_eq_all_not]

theorem ref_touch {fu : Nat} (hf : 300 ≤ fu) {a b : Rs} (ha : UR a) (hb : UR b) (hn : a.1 ≤ 100) (hm : b.1 ≤ 100) : F_ref19_Touch fu a b = some (tch a b) := by
  have inner : ∀ i, i < a.1 → iter (fun s => F_ref19_Touch_L2 fu a b (i : Int) s) fu (0 : Int) = some (if (List.range b.1).all (fun j => !tq (a.2 i) (b.2 j)) then .inl () else .inr (Lo.ret true : Lo Int E_ref19_Touch_L1 Bool)) := fun i hi => by
    rw [show (0 : Int) = (fun i : Nat => (i : Int)) 0 from rfl]
    refine iter_all (fun i : Nat => (i : Int)) (fun j => !tq (a.2 i) (b.2 j)) (Lo.ret true : Lo Int E_ref19_Touch_L1 Bool) (e := ()) b.1 fu (by omega) (fun j hj => ?_) ?_
    · unfold F_ref19_Touch_L2
      obtain ⟨c, hc, _⟩ := ref_meet (fu := fu) hf (ha i hi) (hb j hj)
      rw [decide_eq_true (show (j : Int) < (b.1 : Int) by omega), ifs, chk_t (by omega), chk_t (by omega), Int.toNat_natCast, Int.toNat_natCast, hc, Option.bind_some]
      dsimp only
      rw [chk_t (fun _ => by omega), chk_t (fun _ => by omega), wrap_succ (by omega)]
      unfold tq
      cases mok (a.2 i).f1 (b.2 j).f1 <;> cases h : ((a.2 i).f0 == (b.2 j).f0) <;> simp [ifs]
    · unfold F_ref19_Touch_L2
      rw [decide_eq_false (by omega)]; rfl
  unfold F_ref19_Touch
  rw [show (0 : Int) = (fun i : Nat => (i : Int)) 0 from rfl, iter_all (fun i : Nat => (i : Int)) (fun i => !((List.range b.1).any fun j => tq (a.2 i) (b.2 j))) true (e := ()) a.1 fu (by omega)]
  · rw [not_all]
    unfold tch
    cases (List.range a.1).any fun i => (List.range b.1).any fun j => tq (a.2 i) (b.2 j) <;> rfl
  · intro i hi
    unfold F_ref19_Touch_L1
    rw [decide_eq_true (show (i : Int) < (a.1 : Int) by omega), ifs, inner i hi, not_all, wrap_succ (by omega)]
    cases (List.range b.1).any fun j => tq (a.2 i) (b.2 j) <;> rfl
  · unfold F_ref19_Touch_L1
    rw [decide_eq_false (by omega)]; rfl

theorem tq_comm {x y : S_api_Region} (hx : UC x.f1) (hy : UC y.f1) : tq x y = tq y x := by
  unfold tq
  rw [(mt_comm hx hy).1, show (x.f0 == y.f0) = (y.f0 == x.f0) by rw [Bool.eq_iff_iff, beq_iff_eq, beq_iff_eq]; exact eq_comm]

theorem tch_iff {a b : Rs} : tch a b = true ↔ ∃ i, i < a.1 ∧ ∃ j, j < b.1 ∧ tq (a.2 i) (b.2 j) = true := by
  unfold tch
  simp [List.any_eq_true]

theorem tch_comm {a b : Rs} (ha : UR a) (hb : UR b) : tch a b = tch b a := by
  rw [Bool.eq_iff_iff, tch_iff, tch_iff]
  constructor
  · rintro ⟨i, hi, j, hj, h⟩
    exact ⟨j, hj, i, hi, by rw [tq_comm (hb j hj) (ha i hi)]; exact h⟩
  · rintro ⟨i, hi, j, hj, h⟩
    exact ⟨j, hj, i, hi, by rw [tq_comm (ha j hj) (hb i hi)]; exact h⟩

/-- Is a header of a unit in one of the first n? -/
def inn (a : Rs) (u : Int) (h : Nat → Int) (n : Nat) : Bool := (List.range n).any fun i => (a.2 i).f0 == u && hb (a.2 i).f1 h
theorem inn_succ (a : Rs) (u : Int) (h : Nat → Int) (n : Nat) : inn a u h (n + 1) = (inn a u h n || ((a.2 n).f0 == u && hb (a.2 n).f1 h)) := by
  unfold inn; simp [List.range_succ]

theorem touch_L1 {a b : Rs} (ha : UR a) (hn : a.1 ≤ 100) {u : Int} {h : Nat → Int} (hh : UH h) (z : Bool) : iter (fun s => F_law19_RegionTouch_L1 300 a b u z h s.1 s.2) 300 (false, (0 : Int)) = some (.inl (inn a u h a.1)) := by
  rw [show (false, (0 : Int)) = (fun i : Nat => (inn a u h i, (i : Int))) 0 from rfl, iter_all (fun i : Nat => (inn a u h i, (i : Int))) (fun _ => true) false (e := inn a u h a.1) a.1 300 (by omega)]
  · simp
  · intro i hi
    show F_law19_RegionTouch_L1 300 a b u z h (inn a u h i) (i : Int) = _
    unfold F_law19_RegionTouch_L1
    rw [decide_eq_true (show (i : Int) < (a.1 : Int) by omega), ifs, chk_t (fun _ => by omega), chk_t (fun _ => by omega), Int.toNat_natCast, ref_has (by decide) (ha i hi) hh, wrap_succ (by omega), inn_succ]
    cases inn a u h i <;> cases (a.2 i).f0 == u <;> simp [callIf]
  · show F_law19_RegionTouch_L1 300 a b u z h (inn a u h a.1) (a.1 : Int) = _
    unfold F_law19_RegionTouch_L1
    rw [decide_eq_false (by omega)]; rfl

theorem touch_L2 {a b : Rs} (hb : UR b) (hn : b.1 ≤ 100) {u : Int} {h : Nat → Int} (hh : UH h) (z : Bool) : iter (fun s => F_law19_RegionTouch_L2 300 a b u z h s.1 s.2) 300 (false, (0 : Int)) = some (.inl (inn b u h b.1)) := by
  rw [show (false, (0 : Int)) = (fun i : Nat => (inn b u h i, (i : Int))) 0 from rfl, iter_all (fun i : Nat => (inn b u h i, (i : Int))) (fun _ => true) false (e := inn b u h b.1) b.1 300 (by omega)]
  · simp
  · intro i hi
    show F_law19_RegionTouch_L2 300 a b u z h (inn b u h i) (i : Int) = _
    unfold F_law19_RegionTouch_L2
    rw [decide_eq_true (show (i : Int) < (b.1 : Int) by omega), ifs, chk_t (fun _ => by omega), chk_t (fun _ => by omega), Int.toNat_natCast, ref_has (by decide) (hb i hi) hh, wrap_succ (by omega), inn_succ]
    cases inn b u h i <;> cases (b.2 i).f0 == u <;> simp [callIf]
  · show F_law19_RegionTouch_L2 300 a b u z h (inn b u h b.1) (b.1 : Int) = _
    unfold F_law19_RegionTouch_L2
    rw [decide_eq_false (by omega)]; rfl

theorem touch {a b : Rs} (ha : UR a) (hb : UR b) (u : Int) {h : Nat → Int} (hh : UH h) : F_law19_RegionTouch 300 a b u h = some true := by
  unfold F_law19_RegionTouch
  by_cases hl : a.1 > 30 ∨ b.1 > 30
  · have : (bif (decide (((a.1 : Nat) : Int) > (30 : Int))) then true else (decide (((b.1 : Nat) : Int) > (30 : Int)))) = true := by
      rcases hl with hl | hl
      · rw [decide_eq_true (show ((a.1 : Nat) : Int) > 30 by omega)]; rfl
      · rw [decide_eq_true (show ((b.1 : Nat) : Int) > 30 by omega)]; cases decide (((a.1 : Nat) : Int) > (30 : Int)) <;> rfl
    rw [this, ifs, answers_ok]; rfl
  · have : (bif (decide (((a.1 : Nat) : Int) > (30 : Int))) then true else (decide (((b.1 : Nat) : Int) > (30 : Int)))) = false := by
      rw [decide_eq_false (show ¬ ((a.1 : Nat) : Int) > 30 by omega), decide_eq_false (show ¬ ((b.1 : Nat) : Int) > 30 by omega)]; rfl
    rw [this, ifs, touch_L1 ha (by omega) hh]
    show after (iter (fun s => F_law19_RegionTouch_L2 300 a b u (inn a u h a.1) h s.1 s.2) 300 (false, (0 : Int))) _ = _
    rw [touch_L2 hb (by omega) hh]
    show ((F_region_Touch 300 a b).bind _) = _
    rw [region_touch (by decide) ha hb (by omega) (by omega), Option.bind_some, answers_ok, Option.bind_some, ref_touch (by decide) ha hb (by omega) (by omega)]
    simp only [callIf, Option.bind_some, beq_self_eq_true, cond_true]
    rw [region_touch (by decide) hb ha (by omega) (by omega), Option.bind_some, tch_comm hb ha]
    simp only [beq_self_eq_true, cond_true]
    cases hx : inn a u h a.1 with
    | false => rfl
    | true =>
      cases hy : inn b u h b.1 with
      | false => rfl
      | true =>
        have ht : tch a b = true := by
          unfold inn at hx hy
          rw [List.any_eq_true] at hx hy
          obtain ⟨i, hi, h1⟩ := hx
          obtain ⟨j, hj, h2⟩ := hy
          have hi' : i < a.1 := by simpa using hi
          have hj' : j < b.1 := by simpa using hj
          simp only [Bool.and_eq_true, beq_iff_eq] at h1 h2
          refine tch_iff.2 ⟨i, hi', j, hj', ?_⟩
          unfold tq
          rw [hb_mok (ha i hi') (hb j hj') hh h1.2 h2.2, h1.1, h2.1]
          simp
        rw [ht]; rfl

theorem pl_RegionTouch (x0 : Rs) (w0 : x0.1 ≤ maxLen ∧ ∀ i, i < x0.1 → S_api_Region.wf (x0.2 i)) (x1 : Rs) (w1 : x1.1 ≤ maxLen ∧ ∀ i, i < x1.1 → S_api_Region.wf (x1.2 i)) (x2 : Int) (_ : (Lit.int .i64 x2).wf = true) (x3 : Nat → Int) (w3 : ∀ i, i < 12 → (Lit.int .u64 (x3 i)).wf = true) : ∃ fu, F_law19_RegionTouch fu x0 x1 x2 x3 = some true :=
  ⟨300, touch (fun i hi => uc_wf (w0.2 i hi).2.1) (fun i hi => uc_wf (w1.2 i hi).2.1) x2 fun i hi => u_wf (w3 i hi)⟩

end Go.Proofs.Ytffkolbogcpjjaa
