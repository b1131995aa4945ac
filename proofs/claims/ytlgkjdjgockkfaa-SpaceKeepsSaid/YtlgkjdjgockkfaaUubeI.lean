/- Cubes as plain functions: the reference's Less; 'CubeSets'. -/
import Derived.Test.YtlgkjdjgockkfaaUubeH
namespace Go.Proofs.Ytlgkjdjgockkfaa
open Go Go.Pod Go.Proofs

/-! ### The reference's Less -/

theorem live_eq (a b : S_api_Cube) (p : Nat) : live a b p = (cx b p && !cx a p) := rfl

/-! ### How many parts have a header -/

def cn (f : Nat → Bool) : Nat → Nat
  | 0 => 0
  | n + 1 => cn f n + (if f n then 1 else 0)
theorem cn_same {f g : Nat → Bool} : ∀ n, (∀ j, j < n → f j = g j) → cn f n = cn g n
  | 0, _ => rfl
  | n + 1, h => by unfold cn; rw [cn_same n fun j hj => h j (by omega), h n (by omega)]

/-- A header differs from the second cube at a place that is left to it, before this one. -/
def dif (a b : S_api_Cube) (h : Nat → Int) : Nat → Bool
  | 0 => false
  | p + 1 => dif a b h p || (live a b p && (hx h p != vx b p))

theorem dif_iff (a b : S_api_Cube) (h : Nat → Int) : ∀ p, dif a b h p = false ↔ ∀ q, q < p → live a b q = true → hx h q = vx b q
  | 0 => by simp [dif]
  | p + 1 => by
    unfold dif
    rw [Bool.or_eq_false_iff, dif_iff a b h p]
    have e : (live a b p && (hx h p != vx b p)) = false ↔ (live a b p = true → hx h p = vx b p) := by
      cases live a b p <;> cases hx h p <;> cases vx b p <;> decide
    rw [e]
    constructor
    · rintro ⟨h1, h2⟩ q hq
      by_cases e : q = p
      · subst e; exact h2
      · exact h1 q (by omega)
    · intro h1
      exact ⟨fun q hq => h1 q (by omega), h1 p (by omega)⟩

section count
variable {a b : S_api_Cube} (ha : UC a) (hcb : UC b) (M : MOK a b) {h : Nat → Int} (hh : UH h)
include ha hcb M hh

theorem hb_prt {p : Nat} (hp : p < 248) (hl : live a b p = true) : hb (prt a b p) h = (hb a h && (!dif a b h p && (hx h p != vx b p))) := by
  have hi := fld_lt hp
  obtain ⟨s1, s2, _, _⟩ := prt_self ha hcb M hp hl
  rw [Bool.eq_iff_iff, hb_iff (uc_prt ha b p) hh, Bool.and_eq_true, hb_iff ha hh, Bool.and_eq_true, Bool.not_eq_true', dif_iff, bne_iff_ne]
  constructor
  · rintro ⟨h1, _, h3⟩
    refine ⟨⟨fun i hi k => ?_, M.sa, h3⟩, fun q hq hlq => ?_, ?_⟩
    · have k2 := snd_bit ha M.sa hi k
      cases hk : tb (a.f1 i) k with
      | false =>
        rw [Bool.and_false]
        cases hv : tb (a.f0 i) k with
        | false => rfl
        | true => have := k2 hv; rw [hk] at this; cases this
      | true =>
        have e := prt_agree ha hcb hp hl hi k hk
        have e1 := h1 i hi k
        rw [e, (prt_bits ha hcb hp hi k).2, hk] at e1
        simpa using e1
    · obtain ⟨e1, e2⟩ := prt_early ha hcb M hp hq hlq
      have := h1 _ (fld_lt (show q < 248 by omega)) (bt q)
      rw [e1, e2, Bool.and_true] at this
      exact this
    · have := h1 _ hi (bt p)
      rw [s1, s2, Bool.and_true] at this
      show tb (h (fld p)) (bt p) ≠ tb (b.f0 (fld p)) (bt p)
      rw [this]
      cases tb (b.f0 (fld p)) (bt p) <;> decide
  · rintro ⟨⟨h1, _, h3⟩, h4, h5⟩
    refine ⟨fun i hi k => ?_, prt_snd ha hcb M hp, h3⟩
    cases hat : isAt p i k with
    | true =>
      have e : fld p = i ∧ bt p = k := by
        unfold isAt at hat
        rw [Bool.and_eq_true, decide_eq_true_iff, decide_eq_true_iff] at hat
        exact hat
      obtain ⟨rfl, rfl⟩ := e
      rw [s1, s2, Bool.and_true]
      have h5' : tb (h (fld p)) (bt p) ≠ tb (b.f0 (fld p)) (bt p) := h5
      revert h5'
      cases tb (h (fld p)) (bt p) <;> cases tb (b.f0 (fld p)) (bt p) <;> simp
    | false =>
      cases hfr : fromB a b p i k with
      | true =>
        have hfr' := hfr
        unfold fromB isLt at hfr'
        simp only [Bool.and_eq_true, decide_eq_true_iff] at hfr'
        obtain ⟨⟨hk, hq⟩, hbit⟩ := hfr'
        obtain ⟨e1, e2, e3⟩ := psn_lt hi hk
        have hlq : live a b (psn i k) = true := by unfold live; rw [e2, e3]; simpa using hbit
        obtain ⟨g1, g2⟩ := prt_early ha hcb M hp hq hlq
        have g3 := h4 _ hq hlq
        unfold hx vx at g3
        rw [e2, e3] at g1 g2 g3
        rw [g1, g2, g3, Bool.and_true]
      | false =>
        have e1 := h1 i hi k
        rw [(prt_bits ha hcb hp hi k).1, (prt_bits ha hcb hp hi k).2, hat, hfr]
        simpa using e1

theorem count_lst : ∀ p, p ≤ 248 → cn (fun j => hb ((lst a b p).2 j) h) (lst a b p).1 = if hb a h && dif a b h p then 1 else 0
  | 0, _ => by simp [lst, cn, dif]
  | p + 1, hp => by
    have ih := count_lst p (by omega)
    have ed : dif a b h (p + 1) = (dif a b h p || (live a b p && (hx h p != vx b p))) := rfl
    rw [lst_succ, ed]
    cases hl : live a b p with
    | false => rw [if_neg (by decide), ih, Bool.false_and, Bool.or_false]
    | true =>
      rw [if_pos rfl]
      show cn (fun j => hb ((push (lst a b p) (prt a b p)).2 j) h) (lst a b p).1 + (if hb ((push (lst a b p) (prt a b p)).2 (lst a b p).1) h then 1 else 0) = _
      rw [cn_same (g := fun j => hb ((lst a b p).2 j) h) _ (fun j hj => by rw [push_lt hj]), ih, push_at, hb_prt ha hcb M hh (by omega) hl]
      cases hb a h <;> cases dif a b h p <;> cases (hx h p != vx b p) <;> rfl

theorem hb_second (h1 : hb a h = true) : hb b h = !dif a b h 248 := by
  obtain ⟨k1, _, k3⟩ := (hb_iff ha hh).1 h1
  rw [Bool.eq_iff_iff, hb_iff hcb hh, Bool.not_eq_true', dif_iff]
  constructor
  · rintro ⟨h2, _, _⟩ q hq hl
    have hc : cx b q = true := by rw [live_eq, Bool.and_eq_true] at hl; exact hl.1
    have := h2 _ (fld_lt hq) (bt q)
    rw [show tb (b.f1 (fld q)) (bt q) = true from hc, Bool.and_true] at this
    exact this
  · intro h2
    refine ⟨fun i hi k => ?_, M.sb, k3⟩
    have g2 := snd_bit hcb M.sb hi k
    cases hk : tb (b.f1 i) k with
    | false =>
      rw [Bool.and_false]
      cases hv : tb (b.f0 i) k with
      | false => rfl
      | true => have := g2 hv; rw [hk] at this; cases this
    | true =>
      rw [Bool.and_true]
      cases ha1 : tb (a.f1 i) k with
      | true =>
        have e1 := k1 i hi k
        rw [ha1, Bool.and_true] at e1
        rw [e1]; exact M.n i hi k ha1 hk
      | false =>
        obtain ⟨e1, e2, e3⟩ := psn_lt hi (snd_high hcb M.sb hi hk)
        have hl : live a b (psn i k) = true := by unfold live; rw [e2, e3, hk, ha1]; rfl
        have := h2 _ e1 hl
        unfold hx vx at this
        rwa [e2, e3] at this

theorem hb_un : hb (un a b 12) h = (hb a h && hb b h) := by
  rw [Bool.eq_iff_iff, Bool.and_eq_true, hb_iff (uc_un ha 12) hh, hb_iff ha hh, hb_iff hcb hh]
  have key : ∀ i, i < 12 → ∀ k, ((tb (h i) k && tb ((un a b 12).f1 i) k) = tb ((un a b 12).f0 i) k) ↔ ((tb (h i) k && tb (a.f1 i) k) = tb (a.f0 i) k) ∧ ((tb (h i) k && tb (b.f1 i) k) = tb (b.f0 i) k) := fun i hi k => by
    rw [un_v ha hcb hi, un_c ha hcb hi]
    have g1 := snd_bit ha M.sa hi k
    have g2 := snd_bit hcb M.sb hi k
    have g3 := M.n i hi k
    revert g1 g2 g3
    cases tb (h i) k <;> cases tb (a.f0 i) k <;> cases tb (a.f1 i) k <;> cases tb (b.f0 i) k <;> cases tb (b.f1 i) k <;> simp
  constructor
  · rintro ⟨h1, _, h3⟩
    exact ⟨⟨fun i hi k => ((key i hi k).1 (h1 i hi k)).1, M.sa, h3⟩, fun i hi k => ((key i hi k).1 (h1 i hi k)).2, M.sb, h3⟩
  · rintro ⟨⟨h1, _, h3⟩, h2, _, _⟩
    exact ⟨fun i hi k => (key i hi k).2 ⟨h1 i hi k, h2 i hi k⟩, snd_un ha hcb M.sa M.sb, h3⟩

end count

theorem hb_mok {a b : S_api_Cube} (ha : UC a) (hcb : UC b) {h : Nat → Int} (hh : UH h) (h1 : hb a h = true) (h2 : hb b h = true) : mok a b = true := by
  obtain ⟨k1, sa, _⟩ := (hb_iff ha hh).1 h1
  obtain ⟨k2, sb, _⟩ := (hb_iff hcb hh).1 h2
  rw [mok_iff ha hcb]
  refine ⟨sa, sb, fun i hi k g1 g2 => ?_⟩
  rw [← k1 i hi k, ← k2 i hi k, g1, g2]

theorem hb_snd {c : S_api_Cube} (hc : UC c) {h : Nat → Int} (hh : UH h) (h1 : hb c h = true) : snd c = true := ((hb_iff hc hh).1 h1).2.1

/-! ### The law -/

end Go.Proofs.Ytlgkjdjgockkfaa
