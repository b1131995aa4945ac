/- Rules as plain functions: tables, changes, and what a change alters. -/
import Derived.Test.YtffkolbogcpjjaaRhA
namespace Go.Proofs.Ytffkolbogcpjjaa
open Go Go.Pod Go.Proofs Go.Sort Go.Shelf

abbrev Ru := Nat × (Nat → S_api_Rule)
def URu (a : Ru) : Prop := ∀ i, i < a.1 → UC (a.2 i).f0

theorem callIf_ex {α : Type} {g : Bool} {x : Option α} {d : α} (h : ∃ v, x = some v) : ∃ v, callIf g x d = some v := by
  cases g with
  | true => exact h
  | false => exact ⟨d, rfl⟩

theorem callIf_b (g w : Bool) : callIf g (some w) false = some (g && w) := by cases g <;> rfl

/-! ### Actions, rules -/

theorem size_some {f : Int} (h : 0 ≤ f ∧ f < 12) : ∃ i : Nat, i < 12 ∧ F_ref01_Size f = some (sz i : Int) := by
  obtain ⟨i, hi, rfl⟩ := nat12 h
  exact ⟨i, hi, (size_eq hi).2⟩

theorem acts_J1 (fu : Nat) (l : Nat × (Nat → S_api_Act)) {j : Nat} (hj : j < 9223372036854775807) (b : Bool) : F_ref04_Acts_J1 fu l (j : Int) b = some (if b then .next ((j + 1 : Nat) : Int) else .ret false) := by
  unfold F_ref04_Acts_J1
  rw [wrap_i64 (by omega) (by omega)]
  cases b <;> rfl

theorem acts_ok {fu : Nat} {l : Nat × (Nat → S_api_Act)} (hn : l.1 < fu) (hm : l.1 ≤ 9223372036854775807) : ∃ b, F_ref04_Acts fu l = some b ∧ (b = true → l.1 ≤ 8) := by
  unfold F_ref04_Acts
  obtain ⟨e, h1, h2⟩ := iter_inv (f := fun s : Int => F_ref04_Acts_L1 fu l s) (fun j s => s = (j : Int)) (fun e => match e with | .inl _ => True | .inr r => r = false) l.1
    (fun j s hj es => by
      subst es
      have key : ∀ b : Bool, (∃ s', F_ref04_Acts_J1 fu l (j : Int) b = some (.next s') ∧ s' = ((j + 1 : Nat) : Int)) ∨ ∃ r, F_ref04_Acts_J1 fu l (j : Int) b = some (.ret r) ∧ r = false := fun b => by
        rw [acts_J1 fu l (by omega)]
        cases b with
        | true => exact .inl ⟨_, rfl, rfl⟩
        | false => exact .inr ⟨_, rfl, rfl⟩
      simp only [F_ref04_Acts_L1]
      rw [decide_eq_true (show (j : Int) < (l.1 : Int) by omega), ifs, chk_t (by omega), Int.toNat_natCast]
      cases (l.2 j).f0 == (1 : Int) with
      | true => simp only [ifs]; exact key _
      | false =>
        cases (l.2 j).f0 == (2 : Int) with
        | false =>
          cases (l.2 j).f0 == (3 : Int) with
          | true => simp only [ifs]; exact key _
          | false => simp only [ifs]; exact key _
        | true =>
          cases hg : (bif (bif ((l.2 j).f1 == (0 : Int)) then (decide ((l.2 j).f2 ≥ (0 : Int))) else false) then (decide ((l.2 j).f2 < (12 : Int))) else false) with
          | false => simp only [ifs, callIf, Option.bind_some]; exact key _
          | true =>
            have h3 : 0 ≤ (l.2 j).f2 ∧ (l.2 j).f2 < 12 := by
              revert hg
              cases (l.2 j).f1 == (0 : Int) <;> by_cases h1 : (l.2 j).f2 ≥ 0 <;> by_cases h2 : (l.2 j).f2 < 12 <;> simp [h1, h2]
            obtain ⟨i, hi, e1⟩ := size_some h3
            simp only [ifs, callIf]
            rw [e1, Option.bind_some, ref_fits, Option.bind_some]
            exact key _)
    (fun s es => by
      subst es
      refine ⟨(), ?_, trivial⟩
      simp only [F_ref04_Acts_L1]
      rw [decide_eq_false (by omega)]; rfl)
    l.1 0 fu (0 : Int) (by omega) hn rfl
  rw [h1]
  cases e with
  | inl e => exact ⟨_, rfl, fun h => by have := decide_eq_true_iff.1 h; omega⟩
  | inr r => exact ⟨r, rfl, fun h => by rw [show r = false from h2] at h; cases h⟩

theorem rule_ok {fu : Nat} (hf : 300 ≤ fu) {r : S_api_Rule} (hc : UC r.f0) (hn : r.f2.1 < fu) (hm : r.f2.1 ≤ 9223372036854775807) : ∃ b, F_ref04_Rule fu r = some b ∧ (b = true → snd r.f0 = true ∧ r.f2.1 ≤ 8) := by
  unfold F_ref04_Rule F_ref04_span
  rw [ref_cube (by omega) hc, Option.bind_some]
  obtain ⟨b, h1, h2⟩ := acts_ok hn hm
  rw [h1, callIf_b, Option.bind_some]
  simp only [callIf_b, Option.bind_some]
  refine ⟨_, rfl, fun h => ?_⟩
  cases hs : snd r.f0 with
  | false => rw [hs] at h; simp at h
  | true =>
    refine ⟨rfl, h2 ?_⟩
    cases b with
    | true => rfl
    | false => rw [hs] at h; simp at h

theorem mod_ok {fu : Nat} (hf : 300 ≤ fu) {m : S_api_Mod} (hc : UC m.f1) (hn : m.f3.1 < fu) (hm : m.f3.1 ≤ 9223372036854775807) : ∃ b, F_ref04_Mod fu m = some b ∧ (b = true → snd m.f1 = true) := by
  unfold F_ref04_Mod F_ref04_span
  obtain ⟨b, h1, h2⟩ := acts_ok hn hm
  rw [ref_cube (by omega) hc, h1]
  simp only [callIf_b, Option.bind_some]
  generalize (bif (decide (m.f0 < (1 : Int))) then true else (decide (m.f0 > (5 : Int)))) = A
  cases hs : snd m.f1 with
  | true =>
    have ex : ∀ {b1 b2 b3 v : Bool}, ∃ w, ifs b1 (some false) (ifs b2 (some false) (ifs b3 (some false) (some v))) = some w := fun {b1 b2 b3 v} => by
      cases b1 <;> cases b2 <;> cases b3 <;> exact ⟨_, rfl⟩
    obtain ⟨w, hw⟩ := ex
    exact ⟨w, hw, fun _ => rfl⟩
  | false =>
    refine ⟨false, ?_, fun h => by cases h⟩
    cases A <;> rfl

/-! ### The reference's order, with any fuel -/

theorem order_fu {fu : Nat} (hf : 13 ≤ fu) (s t : Nat → Int) : F_ref01_Order fu s t = some (lexc s t) := by
  have a := iter_scan (f := fun s' => F_ref01_Order_L1 fu s t s') (fun i => (i : Int)) (fun i => s i == t i) (fun i => if s i < t i then -1 else 1) (e := ()) 12 0 fu (by omega) (fun i _ h2 => by
      have hi : (i : Int) < 12 := by omega
      have hn : i < 12 := by omega
      have hw : IntKind.wrap .i64 ((i : Int) + 1) = ((i + 1 : Nat) : Int) := wrap_i64 (by omega) (by omega)
      by_cases he : s i = t i
      · simp [F_ref01_Order_L1, hi, hn, chk, ifs, he, hw]
      · by_cases hl : s i < t i
        · simp [F_ref01_Order_L1, hi, hn, chk, ifs, he, hl]
        · have hg : s i > t i := by omega
          simp [F_ref01_Order_L1, hi, hn, chk, ifs, he, hl, hg]) (by simp [F_ref01_Order_L1, ifs])
  simp only [F_ref01_Order]
  rw [show ((0 : Int)) = (((0 : Nat)) : Int) from rfl, a]
  unfold lexc
  cases stopAt (fun i => s i == t i) 12 0 <;> simp [after]

theorem ref_compare_fu {fu : Nat} (hf : 13 ≤ fu) (a b : S_api_Cube) : F_ref01_Compare fu a b = some (oc a b) := by
  unfold F_ref01_Compare oc
  rw [order_fu hf, Option.bind_some]
  by_cases h : lexc a.f1 b.f1 = 0
  · rw [h, if_pos rfl, show ((0 : Int) != 0) = false from rfl, ifs, order_fu hf]; rfl
  · rw [if_neg h, show (lexc a.f1 b.f1 != 0) = true from bne_iff_ne.2 h, ifs]


theorem ref_wn {fu : Nat} (hf : 300 ≤ fu) {a b : S_api_Cube} (ha : UC a) (hb : UC b) : F_ref01_Within fu a b = some (wn a b) := ref_within hf ha hb

/-! ### Tables -/

def kk (a b : S_api_Rule) : Bool := bif eqc a.f0 b.f0 then a.f1 == b.f1 else false
def bf (a b : S_api_Rule) : Bool := if a.f1 = b.f1 then decide (oc a.f0 b.f0 < 0) else decide (a.f1 > b.f1)

theorem kk_eq (a b : S_api_Rule) : F_ref04_Key a b = some (kk a b) := rfl
theorem kk_iff {a b : S_api_Rule} : kk a b = true ↔ eqc a.f0 b.f0 = true ∧ a.f1 = b.f1 := by
  unfold kk
  cases eqc a.f0 b.f0 <;> simp
theorem kk_refl (a : S_api_Rule) : kk a a = true := kk_iff.2 ⟨eqc_refl _, rfl⟩
theorem eqc_trans {a b c : S_api_Cube} (h1 : eqc a b = true) (h2 : eqc b c = true) : eqc a c = true := eqc_iff.2 fun i hi => ⟨((eqc_iff.1 h1) i hi).1.trans ((eqc_iff.1 h2) i hi).1, ((eqc_iff.1 h1) i hi).2.trans ((eqc_iff.1 h2) i hi).2⟩
theorem kk_trans {a b c : S_api_Rule} (h1 : kk a b = true) (h2 : kk b c = true) : kk a c = true := by
  obtain ⟨p1, p2⟩ := kk_iff.1 h1
  obtain ⟨q1, q2⟩ := kk_iff.1 h2
  exact kk_iff.2 ⟨eqc_trans p1 q1, p2.trans q2⟩

theorem before_eq {fu : Nat} (hf : 300 ≤ fu) (a b : S_api_Rule) : F_ref04_Before fu a b = some (bf a b) := by
  unfold F_ref04_Before bf
  by_cases h : a.f1 = b.f1
  · rw [h, bne_self_eq_false, ifs, ref_compare_fu (by omega), Option.bind_some, if_pos rfl]
  · rw [bne_iff_ne.2 h, ifs, if_neg h]

theorem oc_first' (a b : S_api_Cube) : rc ⟨0, a⟩ ⟨0, b⟩ = oc a b := by unfold rc; simp

theorem bf_trans {a b c : S_api_Rule} (h1 : bf a b = true) (h2 : bf b c = true) : bf a c = true := by
  unfold bf at *
  by_cases e1 : a.f1 = b.f1
  · rw [if_pos e1, decide_eq_true_eq] at h1
    by_cases e2 : b.f1 = c.f1
    · rw [if_pos e2, decide_eq_true_eq] at h2
      rw [if_pos (e1.trans e2), decide_eq_true_eq]
      have := (rc_le (a := ⟨0, a.f0⟩) (b := ⟨0, b.f0⟩) (c := ⟨0, c.f0⟩) (by rw [oc_first']; omega) (by rw [oc_first']; omega)).2 (.inl (by rw [oc_first']; exact h1))
      rwa [oc_first'] at this
    · rw [if_neg e2, decide_eq_true_eq] at h2
      rw [if_neg (by omega), decide_eq_true_eq]; omega
  · rw [if_neg e1, decide_eq_true_eq] at h1
    by_cases e2 : b.f1 = c.f1
    · rw [if_neg (by omega), decide_eq_true_eq]; omega
    · rw [if_neg e2, decide_eq_true_eq] at h2
      rw [if_neg (by omega), decide_eq_true_eq]; omega

theorem bf_kk {a b : S_api_Rule} (h : bf a b = true) : kk a b = false := by
  cases hk : kk a b with
  | false => rfl
  | true =>
    obtain ⟨p1, p2⟩ := kk_iff.1 hk
    unfold bf at h
    rw [if_pos p2, decide_eq_true_eq] at h
    have := (oc_zero a.f0 b.f0).2 p1
    omega

/-- What a table that may be holds. -/
structure Tab (fu : Nat) (a : Ru) : Prop where
  snd : ∀ i, i < a.1 → snd (a.2 i).f0 = true
  acts : ∀ i, i < a.1 → (a.2 i).f2.1 ≤ 8
  rule : ∀ i, i < a.1 → F_ref04_Rule fu (a.2 i) = some true
  next : ∀ i, i + 1 < a.1 → bf (a.2 i) (a.2 (i + 1)) = true

theorem Tab.lt {fu : Nat} {a : Ru} (h : Tab fu a) {i : Nat} : ∀ (d : Nat), i + d + 1 < a.1 → bf (a.2 i) (a.2 (i + d + 1)) = true
  | 0, hd => h.next i hd
  | d + 1, hd => bf_trans (Tab.lt h d (by omega)) (by rw [show i + (d + 1) + 1 = i + d + 1 + 1 by omega]; exact h.next _ (by omega))

theorem Tab.two {fu : Nat} {a : Ru} (h : Tab fu a) {i k : Nat} (hik : i < k) (hk : k < a.1) : kk (a.2 i) (a.2 k) = false := by
  obtain ⟨d, rfl⟩ : ∃ d, k = i + d + 1 := ⟨k - i - 1, by omega⟩
  exact bf_kk (h.lt d hk)

theorem table_ok {fu : Nat} (hf : 300 ≤ fu) {a : Ru} (ha : URu a) (hn : a.1 ≤ 100) (hl : ∀ i, i < a.1 → (a.2 i).f2.1 < fu ∧ (a.2 i).f2.1 ≤ 9223372036854775807) : ∃ b, F_ref04_Table fu a = some b ∧ (b = true → Tab fu a) := by
  unfold F_ref04_Table
  obtain ⟨e, h1, h2⟩ := iter_inv (f := fun s : Int => F_ref04_Table_L1 fu a s)
    (fun j s => s = (j : Int) ∧ ∀ i, i < j → snd (a.2 i).f0 = true ∧ (a.2 i).f2.1 ≤ 8 ∧ F_ref04_Rule fu (a.2 i) = some true ∧ (0 < i → bf (a.2 (i - 1)) (a.2 i) = true))
    (fun e => match e with | .inl _ => ∀ i, i < a.1 → snd (a.2 i).f0 = true ∧ (a.2 i).f2.1 ≤ 8 ∧ F_ref04_Rule fu (a.2 i) = some true ∧ (0 < i → bf (a.2 (i - 1)) (a.2 i) = true) | .inr r => r = false) a.1
    (fun j s hj ⟨es, hp⟩ => by
      subst es
      simp only [F_ref04_Table_L1]
      obtain ⟨b, q1, q2⟩ := rule_ok hf (ha j hj) (hl j hj).1 (hl j hj).2
      rw [decide_eq_true (show (j : Int) < (a.1 : Int) by omega), ifs, chk_t (by omega), Int.toNat_natCast, q1, Option.bind_some, wrap_succ (i := j) (by omega)]
      by_cases h0 : j = 0
      · subst h0
        rw [decide_eq_false (show ¬ ((0 : Nat) : Int) > 0 by omega)]
        rw [chk_t (fun h => by simp at h), chk_t (fun h => by simp at h)]
        cases b with
        | false => exact .inr ⟨false, rfl, rfl⟩
        | true => exact .inl ⟨_, rfl, rfl, fun i hi => by
            have : i = 0 := by omega
            subst this
            exact ⟨(q2 rfl).1, (q2 rfl).2, q1, fun h => by omega⟩⟩
      · rw [decide_eq_true (show (j : Int) > 0 by omega), wrap_pred (j := j) (by omega) (by omega), chk_t (fun _ => by omega), chk_t (fun _ => by omega), Int.toNat_natCast, before_eq hf]
        cases b with
        | false => exact .inr ⟨false, rfl, rfl⟩
        | true =>
          cases hb : bf (a.2 (j - 1)) (a.2 j) with
          | false => exact .inr ⟨false, rfl, rfl⟩
          | true => exact .inl ⟨_, rfl, rfl, fun i hi => by
              by_cases e : i = j
              · subst e; exact ⟨(q2 rfl).1, (q2 rfl).2, q1, fun _ => hb⟩
              · exact hp i (by omega)⟩)
    (fun s ⟨es, hp⟩ => by
      subst es
      refine ⟨(), ?_, hp⟩
      simp only [F_ref04_Table_L1]
      rw [decide_eq_false (by omega)]; rfl)
    a.1 0 fu (0 : Int) (by omega) (by omega) ⟨rfl, fun i hi => by omega⟩
  rw [h1]
  cases e with
  | inl e => exact ⟨true, rfl, fun _ => ⟨fun i hi => (h2 i hi).1, fun i hi => (h2 i hi).2.1, fun i hi => (h2 i hi).2.2.1, fun i hi => (h2 (i + 1) hi).2.2.2 (by omega)⟩⟩
  | inr r => exact ⟨r, rfl, fun h => by rw [show r = false from h2] at h; cases h⟩

/-! ### Sort -/

theorem sort_L2 {fu : Nat} (hf : 300 ≤ fu) (L out : Ru) {j : Nat} (hj : j < L.1) (hL : L.1 ≤ 1000) (ho : out.1 ≤ 100) : ∃ k : Nat, k ≤ out.1 ∧ iter (fun s => F_ref04_Sort_L2 fu L out (j : Int) s) fu (0 : Int) = some (.inl (k : Int)) := by
  obtain ⟨e, h1, k, h2, rfl⟩ := iter_gen (f := fun s : Int => F_ref04_Sort_L2 fu L out (j : Int) s)
    (fun i s => s = (i : Int)) (fun e => ∃ k : Nat, k ≤ out.1 ∧ e = .inl (k : Int)) out.1
    (fun i s hi es => by
      subst es
      simp only [F_ref04_Sort_L2]
      rw [decide_eq_true (show (i : Int) < (out.1 : Int) by omega), chk_t (fun _ => by omega), chk_t (fun _ => by omega), Int.toNat_natCast, Int.toNat_natCast, before_eq hf, wrap_succ (i := i) (by omega)]
      cases bf (out.2 i) (L.2 j) with
      | true => exact ⟨_, rfl, rfl⟩
      | false => exact ⟨_, rfl, i, by omega, rfl⟩)
    (fun s es => by
      subst es
      simp only [F_ref04_Sort_L2]
      rw [decide_eq_false (show ¬ ((out.1 : Nat) : Int) < ((out.1 : Nat) : Int) by omega), chk_t (fun h => by cases h), chk_t (fun h => by cases h)]
      exact ⟨_, rfl, out.1, Nat.le_refl _, rfl⟩)
    out.1 0 fu (0 : Int) (by omega) (by omega) rfl
  exact ⟨k, h2, h1⟩

/-- One put in at a place, behind which one may go. -/
theorem sort_J1 {fu : Nat} {L out t6 : Ru} {j k : Nat} (hj : j < L.1) (_ : L.1 ≤ 1000) (hk : k ≤ out.1) (ho : out.1 ≤ 100) (h6 : t6.1 ≤ 100) :
    ∃ r : Ru, F_ref04_Sort_J1 fu L out (j : Int) (k : Int) t6 = some (.next (r, ((j + 1 : Nat) : Int))) ∧ ls r = ls (k, out.2) ++ [L.2 j] ++ ls t6 ∧ r.1 = k + 1 + t6.1 := by
  unfold F_ref04_Sort_J1
  simp only [Int.toNat_natCast, show ((0 : Int)).toNat = 0 from rfl, Nat.zero_add, Nat.sub_zero]
  rw [chk_t (by omega), chk_t (room_big (by omega) (by omega)), chk_t (by omega), chk_t (room_big (by omega) (by omega)), chk_t (room_big (by omega) (by omega)), wrap_succ (i := j) (by omega)]
  refine ⟨_, rfl, ?_, rfl⟩
  have e1 : ls (k + 1, fun i => if i < k then (if i < 0 then (fun i => ([] : List S_api_Rule).getD i S_api_Rule.z) i else out.2 i) else (fun i => ([L.2 j] : List S_api_Rule).getD i S_api_Rule.z) (i - k)) = ls (k, out.2) ++ [L.2 j] :=
    ls_push (m := (k, fun i => if i < 0 then (fun i => ([] : List S_api_Rule).getD i S_api_Rule.z) i else out.2 i)) (ls_eq fun i _ => by simp)
  rw [← e1]
  exact ls_cat (k + 1, fun i => if i < k then (if i < 0 then (fun i => ([] : List S_api_Rule).getD i S_api_Rule.z) i else out.2 i) else (fun i => ([L.2 j] : List S_api_Rule).getD i S_api_Rule.z) (i - k)) t6

end Go.Proofs.Ytffkolbogcpjjaa
