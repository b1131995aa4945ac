/- Cubes as plain functions: 'CubeParts'. -/
import Derived.Test.YtlgkjdjgockkfaaUubeF
namespace Go.Proofs.Ytlgkjdjgockkfaa
open Go Go.Pod Go.Proofs

theorem snd_bit {c : S_api_Cube} (hc : UC c) (h : snd c = true) {i : Nat} (hi : i < 12) (k : Nat) : tb (c.f0 i) k = true → tb (c.f1 i) k = true := ((snd_iff hc).1 h).2 i hi k
theorem snd_high {c : S_api_Cube} (hc : UC c) (h : snd c = true) {i : Nat} (hi : i < 12) {k : Nat} (hk : tb (c.f1 i) k = true) : k < sz i := by
  rcases Nat.lt_or_ge k (sz i) with hlt | hge
  · exact hlt
  · rw [(lt_pow (hc.c i hi) _).1 (((snd_iff hc).1 h).1 i hi) k hge] at hk; cases hk

section parts
variable {a b : S_api_Cube} (ha : UC a) (hb : UC b) (M : MOK a b)
include ha hb M

theorem prt_snd {p : Nat} (hp : p < 248) : snd (prt a b p) = true := by
  rw [snd_iff (uc_prt ha b p)]
  refine ⟨fun i hi => ?_, fun i hi k => ?_⟩
  · rw [lt_pow ((uc_prt ha b p).c i hi)]
    intro k hk
    rw [(prt_bits ha hb hp hi k).2]
    have h1 : tb (a.f1 i) k = false := by
      cases h : tb (a.f1 i) k with
      | false => rfl
      | true => have := snd_high ha M.sa hi h; omega
    have h2 : isLt p i k = false := by unfold isLt; rw [decide_eq_false (by omega)]; rfl
    have h3 : isAt p i k = false := by
      cases h : isAt p i k with
      | false => rfl
      | true => have := ((isAt_iff hp hi).1 h).1; omega
    unfold fromB
    rw [h1, h2, h3]; rfl
  · rw [(prt_bits ha hb hp hi k).1, (prt_bits ha hb hp hi k).2]
    have h1 := snd_bit ha M.sa hi k
    revert h1
    cases tb (a.f0 i) k <;> cases tb (a.f1 i) k <;> cases fromB a b p i k <;> cases isAt p i k <;> simp

/-- What a part says at its own place. -/
theorem prt_self {p : Nat} (hp : p < 248) (hl : live a b p = true) : tb ((prt a b p).f1 (fld p)) (bt p) = true ∧ tb ((prt a b p).f0 (fld p)) (bt p) = !tb (b.f0 (fld p)) (bt p) ∧ tb (b.f1 (fld p)) (bt p) = true ∧ tb (a.f1 (fld p)) (bt p) = false := by
  have hi := fld_lt hp
  unfold live at hl
  rw [Bool.and_eq_true, Bool.not_eq_true'] at hl
  have h0 : tb (a.f0 (fld p)) (bt p) = false := by
    cases h : tb (a.f0 (fld p)) (bt p) with
    | false => rfl
    | true => have := snd_bit ha M.sa hi (bt p) h; rw [hl.2] at this; cases this
  have hf : fromB a b p (fld p) (bt p) = false := by unfold fromB; rw [isLt_at hp]; rfl
  rw [(prt_bits ha hb hp hi _).1, (prt_bits ha hb hp hi _).2, h0, hf, hl.2, isAt_self]
  refine ⟨rfl, ?_, hl.1, rfl⟩
  cases tb (b.f0 (fld p)) (bt p) <;> rfl

theorem prt_off {p : Nat} (hp : p < 248) (hl : live a b p = true) : mok (prt a b p) b = false := by
  cases h : mok (prt a b p) b with
  | false => rfl
  | true =>
    have h2 := ((mok_iff (uc_prt ha b p) hb).1 h).n (fld p) (fld_lt hp) (bt p)
    obtain ⟨e1, e2, e3, _⟩ := prt_self ha hb M hp hl
    have := h2 e1 e3
    rw [e2] at this
    revert this
    cases tb (b.f0 (fld p)) (bt p) <;> decide

/-- What a later part says at an earlier place. -/
theorem prt_early {p q : Nat} (hp : p < 248) (hq : q < p) (hl : live a b q = true) : tb ((prt a b p).f1 (fld q)) (bt q) = true ∧ tb ((prt a b p).f0 (fld q)) (bt q) = tb (b.f0 (fld q)) (bt q) := by
  have hq' : q < 248 := by omega
  have hi := fld_lt hq'
  obtain ⟨_, _, e3, e4⟩ := prt_self ha hb M hq' hl
  have h0 : tb (a.f0 (fld q)) (bt q) = false := by
    cases h : tb (a.f0 (fld q)) (bt q) with
    | false => rfl
    | true => have := snd_bit ha M.sa hi (bt q) h; rw [e4] at this; cases this
  have hlt : isLt p (fld q) (bt q) = true := by
    unfold isLt; rw [psn_bt hq', decide_eq_true (bt_lt hq'), decide_eq_true hq]; rfl
  have hat : isAt p (fld q) (bt q) = false := by
    cases h : isAt p (fld q) (bt q) with
    | false => rfl
    | true => have := ((isAt_iff hp hi).1 h).2; rw [psn_bt hq'] at this; omega
  have hf : fromB a b p (fld q) (bt q) = true := by unfold fromB; rw [hlt, e3, e4]; rfl
  rw [(prt_bits ha hb hp hi _).1, (prt_bits ha hb hp hi _).2, h0, hf, e4, hat]
  refine ⟨rfl, ?_⟩
  cases tb (b.f0 (fld q)) (bt q) <;> rfl

theorem prt_two {p q : Nat} (hp : p < 248) (hq : q < p) (hl : live a b q = true) : mok (prt a b p) (prt a b q) = false := by
  cases h : mok (prt a b p) (prt a b q) with
  | false => rfl
  | true =>
    have hq' : q < 248 := by omega
    have h2 := ((mok_iff (uc_prt ha b p) (uc_prt ha b q)).1 h).n (fld q) (fld_lt hq') (bt q)
    obtain ⟨e1, e2, _, _⟩ := prt_self ha hb M hq' hl
    obtain ⟨e3, e4⟩ := prt_early ha hb M hp hq hl
    have := h2 e3 e1
    rw [e2, e4] at this
    revert this
    cases tb (b.f0 (fld q)) (bt q) <;> decide

omit M in
theorem prt_agree {p : Nat} (hp : p < 248) (hl : live a b p = true) {i : Nat} (hi : i < 12) (k : Nat) : tb (a.f1 i) k = true → tb ((prt a b p).f0 i) k = tb (a.f0 i) k := by
  intro h1
  have hf : fromB a b p i k = false := by unfold fromB; rw [h1]; simp
  have hat : isAt p i k = false := by
    cases h : isAt p i k with
    | false => rfl
    | true => have := live_at (a := a) (b := b) h; rw [hl, h1] at this; simp at this
  rw [(prt_bits ha hb hp hi _).1, hf, hat]; simp

theorem prt_in {p : Nat} (hp : p < 248) (hl : live a b p = true) : (mok (prt a b p) a && eqc (un (prt a b p) a 12) (prt a b p)) = true := by
  have up := uc_prt ha b p
  rw [Bool.and_eq_true, mok_iff up ha, eqc_bits (uc_un up 12) up]
  refine ⟨⟨prt_snd ha hb M hp, M.sa, fun i hi k _ h => prt_agree ha hb hp hl hi k h⟩, fun i hi k => ?_⟩
  rw [un_v up ha hi, un_c up ha hi]
  constructor
  · cases h : tb (a.f0 i) k with
    | false => simp
    | true => rw [(prt_bits ha hb hp hi k).1, h]; simp
  · cases h : tb (a.f1 i) k with
    | false => simp
    | true => rw [(prt_bits ha hb hp hi k).2, h]; simp

end parts

theorem lst_has (a b : S_api_Cube) : ∀ p, ∃ φ : Nat → Nat, ∀ j, j < (lst a b p).1 → live a b (φ j) = true ∧ φ j < p ∧ (lst a b p).2 j = prt a b (φ j) ∧ ∀ j', j' < j → φ j' < φ j
  | 0 => ⟨fun _ => 0, fun j hj => absurd hj (Nat.not_lt_zero j)⟩
  | p + 1 => by
    obtain ⟨φ, h⟩ := lst_has a b p
    rw [lst_succ]
    cases hl : live a b p with
    | false =>
      refine ⟨φ, fun j hj => ?_⟩
      obtain ⟨h1, h2, h3, h4⟩ := h j hj
      exact ⟨h1, by omega, h3, h4⟩
    | true =>
      refine ⟨fun j => if j < (lst a b p).1 then φ j else p, fun j hj => ?_⟩
      rw [if_pos rfl] at hj ⊢
      have hj' : j < (lst a b p).1 + 1 := hj
      dsimp only
      by_cases e : j < (lst a b p).1
      · obtain ⟨h1, h2, h3, h4⟩ := h j e
        rw [if_pos e, push_lt e]
        refine ⟨h1, by omega, h3, fun j' hj' => ?_⟩
        rw [if_pos (by omega)]; exact h4 j' hj'
      · have e' : j = (lst a b p).1 := by omega
        subst e'
        rw [if_neg e, push_at]
        refine ⟨hl, by omega, rfl, fun j' hj' => ?_⟩
        rw [if_pos hj']; exact (h j' hj').2.1

/-- What the law asks of a list of parts. -/
structure PartsOk (a b : S_api_Cube) (m : Nat × (Nat → S_api_Cube)) : Prop where
  le : m.1 ≤ 248
  uc : ∀ j, j < m.1 → UC (m.2 j)
  off : ∀ j, j < m.1 → mok (m.2 j) b = false
  sub : ∀ j, j < m.1 → (mok (m.2 j) a && eqc (un (m.2 j) a 12) (m.2 j)) = true
  snd : ∀ j, j < m.1 → snd (m.2 j) = true
  two : ∀ j j', j < m.1 → j' < j → mok (m.2 j) (m.2 j') = false

theorem parts_mok {a b : S_api_Cube} (ha : UC a) (hb : UC b) (hm : mok a b = true) : PartsOk a b (lst a b 248) := by
  have M := (mok_iff ha hb).1 hm
  obtain ⟨φ, h⟩ := lst_has a b 248
  refine ⟨lst_le a b 248, ?_, ?_, ?_, ?_, ?_⟩
  · intro j hj; rw [(h j hj).2.2.1]; exact uc_prt ha b _
  · intro j hj; rw [(h j hj).2.2.1]; exact prt_off ha hb M (h j hj).2.1 (h j hj).1
  · intro j hj; rw [(h j hj).2.2.1]; exact prt_in ha hb M (h j hj).2.1 (h j hj).1
  · intro j hj; rw [(h j hj).2.2.1]; exact prt_snd ha hb M (h j hj).2.1
  · intro j j' hj hj'
    have hj2 : j' < (lst a b 248).1 := by omega
    rw [(h j hj).2.2.1, (h j' hj2).2.2.1]
    exact prt_two ha hb M (h j hj).2.1 ((h j hj).2.2.2 j' hj') (h j' hj2).1

theorem within_no_parts {a b : S_api_Cube} (ha : UC a) (hb : UC b) (h : eqc (un a b 12) a = true) : (lst a b 248).1 = 0 := by
  rcases Nat.eq_zero_or_pos (lst a b 248).1 with e | e
  · exact e
  · obtain ⟨φ, hφ⟩ := lst_has a b 248
    obtain ⟨h1, h2, _⟩ := hφ 0 e
    have := ((eqc_bits (uc_un ha 12) ha).1 h (fld (φ 0)) (fld_lt h2) (bt (φ 0))).2
    rw [un_c ha hb (fld_lt h2)] at this
    unfold live at h1
    rw [Bool.and_eq_true, Bool.not_eq_true'] at h1
    rw [h1.1, h1.2] at this
    cases this

end Go.Proofs.Ytlgkjdjgockkfaa
