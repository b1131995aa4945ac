/- Regions as plain functions: what region.Of leaves of a list of changes. -/
import Derived.Test.YtffkolbogcpjjaaFnC
import Derived.Test.YtffkolbogcpjjaaRhSort
import Derived.Test.YtffkolbogcpjjaaVubeI
import Derived.Test.YtffkolbogcpjjaaThin
namespace Go.Proofs.Ytffkolbogcpjjaa
open Go Go.Pod Go.Proofs Go.Sort Go.Shelf

/-! ### Within -/

def wn (a b : S_api_Cube) : Bool := mok a b && eqc (un a b 12) a

theorem wn_iff {a b : S_api_Cube} (ha : UC a) (hb : UC b) : wn a b = true ↔ snd a = true ∧ snd b = true ∧ ∀ p, p < 248 → cx b p = true → cx a p = true ∧ vx a p = vx b p := by
  unfold wn
  rw [within_places ha hb, Bool.and_eq_true, Bool.and_eq_true, List.all_eq_true]
  have e : ∀ p, win_at a b p = true ↔ (cx b p = true → cx a p = true ∧ vx a p = vx b p) := fun p => by
    unfold win_at
    cases cx a p <;> cases vx a p <;> cases cx b p <;> cases vx b p <;> decide
  exact ⟨fun ⟨⟨h1, h2⟩, h3⟩ => ⟨h1, h3, fun p hp => (e p).1 (h2 p (List.mem_range.2 hp))⟩, fun ⟨h1, h3, h2⟩ => ⟨⟨h1, fun p hp => (e p).2 (h2 p (List.mem_range.1 hp))⟩, h3⟩⟩

theorem eqc_places {a b : S_api_Cube} (ha : UC a) (hb : UC b) (sa : snd a = true) (sb : snd b = true) (h : ∀ p, p < 248 → cx a p = cx b p ∧ vx a p = vx b p) : eqc a b = true := by
  rw [eqc_bits ha hb]
  intro i hi k
  by_cases hk : k < sz i
  · exact (all_places (P := fun i k => tb (a.f0 i) k = tb (b.f0 i) k ∧ tb (a.f1 i) k = tb (b.f1 i) k) (fun p hp => ⟨(h p hp).2, (h p hp).1⟩) hi hk)
  · have a1 : tb (a.f1 i) k = false := by
      cases e : tb (a.f1 i) k with
      | false => rfl
      | true => exact absurd (snd_high ha sa hi e) hk
    have b1 : tb (b.f1 i) k = false := by
      cases e : tb (b.f1 i) k with
      | false => rfl
      | true => exact absurd (snd_high hb sb hi e) hk
    have a0 : tb (a.f0 i) k = false := by
      cases e : tb (a.f0 i) k with
      | false => rfl
      | true => have := snd_bit ha sa hi k e; rw [a1] at this; cases this
    have b0 : tb (b.f0 i) k = false := by
      cases e : tb (b.f0 i) k with
      | false => rfl
      | true => have := snd_bit hb sb hi k e; rw [b1] at this; cases this
    exact ⟨a0.trans b0.symm, a1.trans b1.symm⟩

theorem snd_eqc {a b : S_api_Cube} (ha : UC a) (hb : UC b) (h : eqc a b = true) : snd a = snd b := by
  have h' := eqc_iff.1 h
  rw [Bool.eq_iff_iff, snd_iff ha, snd_iff hb]
  constructor
  · rintro ⟨h1, h2⟩
    exact ⟨fun i hi => (h' i hi).2 ▸ h1 i hi, fun i hi k => by rw [← (h' i hi).1, ← (h' i hi).2]; exact h2 i hi k⟩
  · rintro ⟨h1, h2⟩
    exact ⟨fun i hi => (h' i hi).2 ▸ h1 i hi, fun i hi k => by rw [(h' i hi).1, (h' i hi).2]; exact h2 i hi k⟩

theorem cn_lt {f g : Nat → Bool} : ∀ n, (∀ p, p < n → f p = true → g p = true) → (cn f n ≤ cn g n ∧ ((∃ p, p < n ∧ g p = true ∧ f p = false) → cn f n < cn g n))
  | 0, _ => ⟨Nat.le_refl _, fun ⟨p, hp, _⟩ => absurd hp (Nat.not_lt_zero p)⟩
  | n + 1, h => by
    obtain ⟨h1, h2⟩ := cn_lt n fun p hp => h p (by omega)
    have h3 := h n (by omega)
    refine ⟨?_, fun ⟨p, hp, k1, k2⟩ => ?_⟩
    · simp only [cn]
      cases e : f n with
      | false => simp; omega
      | true => rw [h3 e]; simp; omega
    · simp only [cn]
      by_cases hpn : p = n
      · subst hpn; rw [k1, k2]; simp; omega
      · have := h2 ⟨p, by omega, k1, k2⟩
        cases e : f n with
        | false => simp; omega
        | true => rw [h3 e]; simp; omega

theorem wn_anti {a b : S_api_Cube} (ha : UC a) (hb : UC b) (h1 : wn a b = true) (h2 : wn b a = true) : eqc a b = true := by
  obtain ⟨sa, sb, k1⟩ := (wn_iff ha hb).1 h1
  obtain ⟨_, _, k2⟩ := (wn_iff hb ha).1 h2
  refine eqc_places ha hb sa sb fun p hp => ?_
  have hi := fld_lt hp
  have va : cx a p = false → vx a p = false := fun e => by
    cases e' : vx a p with
    | false => rfl
    | true => have := snd_bit ha sa hi (bt p) e'; rw [show tb (a.f1 (fld p)) (bt p) = cx a p from rfl, e] at this; cases this
  have vb : cx b p = false → vx b p = false := fun e => by
    cases e' : vx b p with
    | false => rfl
    | true => have := snd_bit hb sb hi (bt p) e'; rw [show tb (b.f1 (fld p)) (bt p) = cx b p from rfl, e] at this; cases this
  have q1 := k1 p hp
  have q2 := k2 p hp
  revert q1 q2 va vb
  cases cx a p <;> cases cx b p <;> simp
  · intro h3 h4; rw [h3, h4]
  · intro h _; exact h

theorem wn_le {a b : S_api_Cube} (ha : UC a) (hb : UC b) (h : eqc a b = true) (sa : snd a = true) : wn a b = true := by
  have h' := (eqc_bits ha hb).1 h
  refine (wn_iff ha hb).2 ⟨sa, by rw [← snd_eqc ha hb h]; exact sa, fun p hp hc => ?_⟩
  have := h' _ (fld_lt hp) (bt p)
  exact ⟨this.2.trans hc, this.1⟩

theorem cov : Cov eqc snd wn UC (fun c => cn (cx c) 248) where
  refl := fun a ha sa => wn_le ha ha (eqc_refl a) sa
  trans := fun a b c ha hb hc h1 h2 => by
    obtain ⟨sa, sb, k1⟩ := (wn_iff ha hb).1 h1
    obtain ⟨_, sc, k2⟩ := (wn_iff hb hc).1 h2
    refine (wn_iff ha hc).2 ⟨sa, sc, fun p hp h => ?_⟩
    obtain ⟨q1, q2⟩ := k2 p hp h
    obtain ⟨q3, q4⟩ := k1 p hp q1
    exact ⟨q3, q4.trans q2⟩
  anti := fun a b ha hb => wn_anti ha hb
  le := fun a b ha hb => wn_le ha hb
  okr := fun a b ha hb h => ((wn_iff ha hb).1 h).2.1
  less := fun a b ha hb h ne => by
    obtain ⟨sa, sb, k1⟩ := (wn_iff ha hb).1 h
    refine (cn_lt 248 fun p hp hc => (k1 p hp hc).1).2 ?_
    refine Classical.byContradiction fun hn => ?_
    have h2 : wn b a = true := (wn_iff hb ha).2 ⟨sb, sa, fun p hp hc => by
      cases e : cx b p with
      | false => exact absurd ⟨p, hp, hc, e⟩ hn
      | true => exact ⟨rfl, (k1 p hp e).2.symm⟩⟩
    rw [wn_anti hb ha h2 h] at ne
    cases ne

theorem eqc_symm {a b : S_api_Cube} (h : eqc a b = true) : eqc b a = true := eqc_iff.2 fun i hi => ⟨((eqc_iff.1 h) i hi).1.symm, ((eqc_iff.1 h) i hi).2.symm⟩

/-! ### Regions -/

abbrev Rs := Nat × (Nat → S_api_Region)
def UR (c : S_api_Region) : Prop := UC c.f1
def URs (a : Rs) : Prop := ∀ i, i < a.1 → UR (a.2 i)
def sndR (c : S_api_Region) : Bool := snd c.f1
def eqr (a b : S_api_Region) : Bool := (a.f0 == b.f0) && (eqc a.f1 b.f1 && true)
def wr (a b : S_api_Region) : Bool := (a.f0 == b.f0) && wn a.f1 b.f1

theorem eqr_iff {a b : S_api_Region} : eqr a b = true ↔ a.f0 = b.f0 ∧ eqc a.f1 b.f1 = true := by
  unfold eqr; rw [Bool.and_true, Bool.and_eq_true, beq_iff_eq]
theorem wr_iff {a b : S_api_Region} : wr a b = true ↔ a.f0 = b.f0 ∧ wn a.f1 b.f1 = true := by
  unfold wr; rw [Bool.and_eq_true, beq_iff_eq]

theorem rc_zero (a b : S_api_Region) : rc a b = 0 ↔ eqr a b = true := by
  rw [eqr_iff]
  unfold rc
  rcases Int.lt_trichotomy a.f0 b.f0 with h | h | h
  · rw [if_pos h, if_neg (by decide)]
    exact ⟨fun e => absurd e (by decide), fun e => by omega⟩
  · rw [if_neg (show ¬ a.f0 < b.f0 by omega), if_neg (show ¬ a.f0 > b.f0 by omega), if_pos rfl, oc_zero]
    exact ⟨fun e => ⟨h, e⟩, fun e => e.2⟩
  · rw [if_neg (show ¬ a.f0 < b.f0 by omega), if_pos (show a.f0 > b.f0 by omega), if_neg (by decide)]
    exact ⟨fun e => absurd e (by decide), fun e => by omega⟩

theorem totR : Tot rc eqr where
  zero := rc_zero
  swap := rc_swap
  le := fun _ _ _ => rc_le

theorem covR : Cov eqr sndR wr UR (fun c => cn (cx c.f1) 248) where
  refl := fun a ha sa => wr_iff.2 ⟨rfl, cov.refl _ ha sa⟩
  trans := fun a b c ha hb hc h1 h2 => by
    obtain ⟨e1, w1⟩ := wr_iff.1 h1
    obtain ⟨e2, w2⟩ := wr_iff.1 h2
    exact wr_iff.2 ⟨e1.trans e2, cov.trans _ _ _ ha hb hc w1 w2⟩
  anti := fun a b ha hb h1 h2 => by
    obtain ⟨e1, w1⟩ := wr_iff.1 h1
    obtain ⟨e2, w2⟩ := wr_iff.1 h2
    exact eqr_iff.2 ⟨e1, cov.anti _ _ ha hb w1 w2⟩
  le := fun a b ha hb h1 h2 => by
    obtain ⟨e1, w1⟩ := eqr_iff.1 h1
    exact wr_iff.2 ⟨e1, cov.le _ _ ha hb w1 h2⟩
  okr := fun a b ha hb h => cov.okr _ _ ha hb (wr_iff.1 h).2
  less := fun a b ha hb h ne => by
    obtain ⟨e1, w1⟩ := wr_iff.1 h
    refine cov.less _ _ ha hb w1 ?_
    cases h2 : eqc b.f1 a.f1 with
    | false => rfl
    | true => rw [eqr_iff.2 ⟨e1.symm, h2⟩] at ne; cases ne

abbrev Lnr (A E : List S_api_Region) : Prop := Thin rc eqr sndR wr A E

theorem room_big {n b : Nat} (h : n ≤ 100000) (hb : b ≤ 1000) : RoomOk n b := by
  have : n * b ≤ 100000 * 1000 := Nat.mul_le_mul h hb
  exact ⟨by omega, by omega⟩

theorem wrap_pred {j : Nat} (h : 1 ≤ j) (h2 : j < 1000000) : IntKind.wrap .i64 ((j : Int) - 1) = ((j - 1 : Nat) : Int) := by
  rw [wrap_i64 (by omega) (by omega)]; omega

/-! ### Sorting -/

theorem ls_arr {A : Array S_api_Region} {n : Nat} (h : A.size = n) : ls (n, fun i => A[i]!) = A.toList := by
  subst h
  apply List.ext_getElem
  · simp [ls]
  · intro i h1 h2
    have : i < A.size := by simpa [ls] using h1
    simp [ls, getElem!_pos A i this]

theorem ext_all {α : Type} {A : Array α} {n : Nat} (h : A.size = n) : A.extract 0 n = A := by subst h; simp

theorem sort_ok (a : Rs) (hm : a.1 ≤ 100000) : ∃ f : Nat → S_api_Region, F_slices_SortFunc_region_compare a = some (a.1, f) ∧ (ls (a.1, f)).Perm (ls a) ∧ ∀ i j, i < j → j < a.1 → rc (f i) (f j) ≤ 0 := by
  unfold F_slices_SortFunc_region_compare
  rw [chk_t (by omega)]
  obtain ⟨h1, h2⟩ := srt_sorts rc rc_swo a.1 a.2
  have hs := srt_size rc rc_swo a.1 a.2
  refine ⟨_, rfl, ?_, fun i j hij hj => ?_⟩
  · rw [ls_arr hs]
    have k := h1.2.2
    rw [ext_all hs, ext_all (show (Array.ofFn fun i : Fin a.1 => a.2 i).size = a.1 by simp)] at k
    refine k.trans (List.Perm.of_eq ?_)
    apply List.ext_getElem
    · simp [ls]
    · intro i h3 h4
      simp [ls]
  · have := h2 i j (Nat.zero_le _) hij hj
    unfold ltOf at this
    rw [decide_eq_false_iff_not] at this
    have := rc_swap (srt rc a.1 a.2)[i]! (srt rc a.1 a.2)[j]!
    omega

/-! ### Compact -/

def newr (a : Nat → S_api_Region) (i : Nat) : Bool := i == 0 || !eqr (a i) (a (i - 1))

theorem newr_iff (a : Nat → S_api_Region) (i : Nat) : newr a i = true ↔ i = 0 ∨ eqr (a i) (a (i - 1)) = false := by
  unfold newr; simp

theorem compact_L2 {fu : Nat} {a : Rs} {lo j k : Nat} {f : Nat → S_api_Region} (hm : a.1 ≤ 100000) (h1 : 1 ≤ j) (hj : lo + j < a.1) (hk : k < lo + j) :
    F_slices_Compact_api_Region_L2 fu a lo (a.1 - lo) (k : Int) (j : Int) (a.1, f) = ifs (!eqr (f (lo + j)) (f (lo + (j - 1)))) (some (.next (((k + 1 : Nat) : Int), ((j + 1 : Nat) : Int), (a.1, fun i => if i = k then f (lo + j) else f i)))) (some (.next ((k : Int), ((j + 1 : Nat) : Int), (a.1, f)))) := by
  unfold F_slices_Compact_api_Region_L2
  rw [decide_eq_true (show (j : Int) < ((a.1 - lo : Nat) : Int) by omega), ifs, wrap_pred h1 (by omega), wrap_succ (i := j) (by omega), wrap_succ (i := k) (by omega)]
  simp only [Int.toNat_natCast]
  rw [chk_t (by omega), chk_t (by omega), chk_t (by omega), chk_t (by omega), chk_t (by omega), chk_t (by omega), chk_t (by omega), chk_t (by omega)]
  rfl

theorem compact_L1 {fu : Nat} {a : Rs} {j : Nat} (hm : a.1 ≤ 100000) (h1 : 1 ≤ j) (hj : j < a.1) :
    F_slices_Compact_api_Region_L1 fu a (j : Int) = ifs (eqr (a.2 j) (a.2 (j - 1))) (after (iter (fun s => F_slices_Compact_api_Region_L2 fu a j (a.1 - j) s.1 s.2.1 s.2.2) fu ((j : Int), (1 : Int), a)) fun e14 =>
      chk (0 ≤ e14.1 ∧ e14.1 ≤ ((e14.2.1 : Nat) : Int) ∧ ((e14.2.1 : Nat) : Int) ≤ ((e14.2.1 : Nat) : Int)) <|
      chk ((e14.1).toNat + ((((e14.2.1 : Nat) : Int)).toNat - (e14.1).toNat) ≤ e14.2.1) <|
      chk (0 ≤ (0 : Int) ∧ (0 : Int) ≤ e14.1 ∧ e14.1 ≤ ((e14.2.1 : Nat) : Int)) <|
      chk (((e14.1).toNat - ((0 : Int)).toNat) ≤ e14.2.1) <|
      some (.ret (((e14.1).toNat - ((0 : Int)).toNat), (fun i => if (e14.1).toNat ≤ i ∧ i < (e14.1).toNat + ((((e14.2.1 : Nat) : Int)).toNat - (e14.1).toNat) then S_api_Region.z else e14.2.2 i)))) (some (.next ((j + 1 : Nat) : Int))) := by
  unfold F_slices_Compact_api_Region_L1
  rw [decide_eq_true (show (j : Int) < (a.1 : Int) by omega), ifs, wrap_pred h1 (by omega), wrap_succ (i := j) (by omega)]
  simp only [Int.toNat_natCast]
  rw [chk_t (by omega), chk_t (by omega), chk_t (by omega), chk_t (by omega), chk_t (by omega)]
  rfl

theorem compact_ok {fu : Nat} {a : Rs} (hn : a.1 < fu) (hm : a.1 ≤ 100000) : ∃ r, F_slices_Compact_api_Region fu a = some r ∧ ls r = chs (newr a.2) a.2 a.1 := by
  unfold F_slices_Compact_api_Region
  by_cases h2 : a.1 < 2
  · rw [decide_eq_true (show (a.1 : Int) < 2 by omega), ifs]
    refine ⟨a, rfl, (chs_all fun i hi => ?_).symm⟩
    rw [show i = 0 by omega]; rfl
  · rw [decide_eq_false (show ¬ (a.1 : Int) < 2 by omega), ifs]
    obtain ⟨e, h5, h6⟩ := iter_inv (f := fun s : Int => F_slices_Compact_api_Region_L1 fu a s)
      (fun j s => s = (j : Int) ∧ 1 ≤ j ∧ ∀ i, 1 ≤ i → i < j → eqr (a.2 i) (a.2 (i - 1)) = false)
      (fun e => match e with | .inl _ => ∀ i, 1 ≤ i → i < a.1 → eqr (a.2 i) (a.2 (i - 1)) = false | .inr r => ls r = chs (newr a.2) a.2 a.1) a.1
      (fun j s hj ⟨e1, e2, e3⟩ => by
        subst e1
        simp only
        rw [compact_L1 hm e2 hj]
        cases hc : eqr (a.2 j) (a.2 (j - 1)) with
        | false =>
          refine .inl ⟨_, rfl, rfl, by omega, fun i h1 hi => ?_⟩
          by_cases he : i = j
          · rw [he]; exact hc
          · exact e3 i h1 (by omega)
        | true =>
          right
          obtain ⟨e', h7, h8⟩ := iter_inv (f := fun s : Int × Int × Rs => F_slices_Compact_api_Region_L2 fu a j (a.1 - j) s.1 s.2.1 s.2.2)
            (fun i s => 1 ≤ i ∧ ∃ (k : Nat) (f : Nat → S_api_Region), s = ((k : Int), (i : Int), (a.1, f)) ∧ k < j + i ∧ (∀ x, j + i - 1 ≤ x → f x = a.2 x) ∧ ls (k, f) = chs (newr a.2) a.2 (j + i))
            (fun e => ∃ (k : Nat) (f : Nat → S_api_Region), e = .inl ((k : Int), (a.1, f)) ∧ k ≤ a.1 ∧ ls (k, f) = chs (newr a.2) a.2 a.1) (a.1 - j)
            (fun i s hi ⟨i1, k, f, es, hk, hf, hl⟩ => .inl (by
              subst es
              simp only
              rw [compact_L2 hm i1 (by omega) hk]
              have q1 : f (j + i) = a.2 (j + i) := hf _ (by omega)
              have q2 : f (j + (i - 1)) = a.2 (j + i - 1) := by
                rw [show j + (i - 1) = j + i - 1 by omega]; exact hf _ (Nat.le_refl _)
              rw [q1, q2]
              have qs : newr a.2 (j + i) = !eqr (a.2 (j + i)) (a.2 (j + i - 1)) := by
                unfold newr
                rw [show (j + i == 0) = false by rw [beq_eq_false_iff_ne]; omega]; rfl
              cases hq : eqr (a.2 (j + i)) (a.2 (j + i - 1)) with
              | true =>
                refine ⟨_, rfl, by omega, k, f, rfl, by omega, fun x hx => hf x (by omega), ?_⟩
                rw [show j + (i + 1) = j + i + 1 by omega, chs_succ, qs, hq, hl]; simp
              | false =>
                refine ⟨_, rfl, by omega, k + 1, _, rfl, by omega, fun x hx => ?_, ?_⟩
                · rw [if_neg (by omega)]; exact hf x (by omega)
                · rw [ls_set, show j + (i + 1) = j + i + 1 by omega, chs_succ, qs, hq, hl]; rfl))
            (fun s ⟨i1, k, f, es, hk, hf, hl⟩ => by
              subst es
              refine ⟨((k : Int), (a.1, f)), ?_, k, f, rfl, by omega, by rw [hl]; congr 1; omega⟩
              simp only [F_slices_Compact_api_Region_L2]
              rw [decide_eq_false (by omega)]; rfl)
            (a.1 - j - 1) 1 fu ((j : Int), (1 : Int), a) (by omega) (by omega) ⟨by omega, j, a.2, rfl, by omega, fun _ _ => rfl, by
              rw [chs_succ]
              have : newr a.2 j = false := by
                unfold newr
                rw [show (j == 0) = false by rw [beq_eq_false_iff_ne]; omega, hc]; rfl
              rw [this, chs_all fun i hi => ?_]
              · simp
              · rw [newr_iff]
                by_cases h0 : i = 0
                · exact .inl h0
                · exact .inr (e3 i (by omega) hi)⟩
          obtain ⟨k, f, rfl, hk, hl⟩ := h8
          rw [h7]
          simp only [after, ifs]
          rw [chk_t (by omega), chk_t (by omega), chk_t (by omega), chk_t (by omega)]
          refine ⟨_, rfl, ?_⟩
          rw [← hl]
          show ls ((k : Int).toNat - (0 : Int).toNat, _) = _
          rw [show (k : Int).toNat - (0 : Int).toNat = k by simp]
          exact ls_eq fun x hx => by rw [if_neg (by omega)])
      (fun s ⟨e1, e2, e3⟩ => by
        subst e1
        refine ⟨(), ?_, e3⟩
        simp only [F_slices_Compact_api_Region_L1]
        rw [decide_eq_false (by omega)]; rfl)
      (a.1 - 1) 1 fu (1 : Int) (by omega) (by omega) ⟨rfl, by omega, fun i h1 hi => by omega⟩
    rw [h5]
    cases e with
    | inl e =>
      refine ⟨a, rfl, (chs_all fun i hi => ?_).symm⟩
      rw [newr_iff]
      by_cases h0 : i = 0
      · exact .inl h0
      · exact .inr (h6 i (by omega) hi)
    | inr r => exact ⟨r, rfl, h6⟩


/-! ### Of -/

def cov2 (c d : S_api_Region) : Bool := !eqr d c && wr c d

theorem of1_eq {fu : Nat} (hf : 13 ≤ fu) {d c : S_api_Region} (hd : UR d) (hc : UR c) : F_region_Of_1 fu d c = some (cov2 c d) := by
  have e : F_region_Of_1 fu d c = (callIf (bif !eqr d c then d.f0 == c.f0 else false) (F_cube_Within fu c.f1 d.f1) false).bind fun r0 => some (bif (bif !eqr d c then d.f0 == c.f0 else false) then r0 else false) := rfl
  rw [e, cube_within hf hc hd]
  unfold cov2 wr wn
  rw [show (c.f0 == d.f0) = (d.f0 == c.f0) by rw [Bool.eq_iff_iff, beq_iff_eq, beq_iff_eq]; exact eq_comm]
  cases eqr d c <;> cases (d.f0 == c.f0) <;> rfl

theorem containsR {fu : Nat} (hf : 13 ≤ fu) {a : Rs} (ha : URs a) (hn : a.1 < fu) (hm : a.1 ≤ 100000) {c : S_api_Region} (hc : UR c) : F_slices_ContainsFunc_api_Region_region_Of_1 fu a c = some ((List.range a.1).any fun j => cov2 c (a.2 j)) := by
  unfold F_slices_ContainsFunc_api_Region_region_Of_1 F_slices_IndexFunc_api_Region_region_Of_1
  have : iter (fun s => F_slices_IndexFunc_api_Region_region_Of_1_L1 fu a c ((a.1 : Nat) : Int) s) fu ((fun i : Nat => (i : Int)) 0) = _ :=
    iter_scan (fun i : Nat => (i : Int)) (fun i => !cov2 c (a.2 i)) (fun i => (i : Int)) (e := ()) a.1 0 fu hn (fun i _ h2 => by
      unfold F_slices_IndexFunc_api_Region_region_Of_1_L1
      rw [decide_eq_true (show (i : Int) < (a.1 : Int) by omega), ifs, chk_t (by omega), Int.toNat_natCast, of1_eq hf (ha i (by omega)) hc, Option.bind_some, wrap_succ (by omega)]
      cases cov2 c (a.2 i) <;> rfl) (by
      rw [Nat.zero_add]
      unfold F_slices_IndexFunc_api_Region_region_Of_1_L1
      rw [decide_eq_false (by omega)]; rfl)
  rw [show (0 : Int) = (fun i : Nat => (i : Int)) 0 from rfl, this]
  cases h : stopAt (fun j => !cov2 c (a.2 j)) a.1 0 with
  | none =>
    have h2 := (stopAt_all a.1 0).1 h
    simp only [after, Option.bind_some, Option.some.injEq]
    rw [decide_eq_false (by decide)]
    symm
    rw [List.any_eq_false]
    intro i hi
    have := h2 i (by simpa using hi)
    simpa using this
  | some m =>
    obtain ⟨_, h2, h3, _⟩ := stopAt_some h
    simp only [after, Option.bind_some, Option.some.injEq]
    rw [decide_eq_true (by omega)]
    symm
    rw [List.any_eq_true]
    exact ⟨m, by simpa using h2, by simpa using h3⟩

abbrev Chs := Nat × (Nat → S_api_Change)
def toReg (c : S_api_Change) : S_api_Region := ⟨c.f0, c.f1.f1⟩

theorem of_L1 {fu : Nat} (hf : 13 ≤ fu) {l : Chs} (hl : ∀ i, i < l.1 → UC (l.2 i).f1.f1) (hn : l.1 < fu) (hm : l.1 ≤ 100000) :
    ∃ r : Rs, iter (fun s => F_region_Of_L1 fu l ((l.1 : Nat) : Int) s.1 s.2) fu ((0 : Int), (0, (fun _ => S_api_Region.z))) = some (.inl r) ∧ ls r = ((ls l).map toReg).filter sndR := by
  obtain ⟨e, h5, r, rfl, h6⟩ := iter_inv (f := fun s : Int × Rs => F_region_Of_L1 fu l ((l.1 : Nat) : Int) s.1 s.2)
    (fun j s => s.1 = (j : Int) ∧ s.2.1 ≤ j ∧ ls s.2 = chs (fun i => sndR (toReg (l.2 i))) (fun i => toReg (l.2 i)) j)
    (fun e => ∃ r, e = .inl r ∧ ls r = chs (fun i => sndR (toReg (l.2 i))) (fun i => toReg (l.2 i)) l.1) l.1
    (fun j s hj ⟨e1, e2, e3⟩ => .inl (by
      obtain ⟨s1, m⟩ := s
      simp only at e1 e2 e3
      subst e1
      simp only [F_region_Of_L1]
      rw [decide_eq_true (show (j : Int) < (l.1 : Int) by omega), ifs, chk_t (by omega), Int.toNat_natCast, cube_sound hf (hl j hj), Option.bind_some, wrap_succ (i := j) (by omega)]
      cases hs : snd (l.2 j).f1.f1 with
      | false =>
        refine ⟨((j + 1 : Nat), m), rfl, rfl, show m.1 ≤ j + 1 by omega, ?_⟩
        rw [chs_succ, show sndR (toReg (l.2 j)) = false from hs, e3]; simp
      | true =>
        rw [chk_t (room_big (by omega) (by omega))]
        refine ⟨_, rfl, rfl, show m.1 + 1 ≤ j + 1 by omega, ?_⟩
        rw [chs_succ, show sndR (toReg (l.2 j)) = true from hs]
        exact ls_push e3))
    (fun s ⟨e1, e2, e3⟩ => by
      obtain ⟨s1, m⟩ := s
      simp only at e1 e2 e3
      subst e1
      refine ⟨m, ?_, m, rfl, e3⟩
      simp only [F_region_Of_L1]
      rw [decide_eq_false (by omega)]; rfl)
    l.1 0 fu ((0 : Int), (0, (fun _ => S_api_Region.z))) (by omega) hn ⟨rfl, Nat.le_refl _, rfl⟩
  refine ⟨r, h5, h6.trans ?_⟩
  rw [chs_filter sndR (fun i => toReg (l.2 i)) l.1]
  congr 1
  unfold ls
  rw [List.map_map]; rfl

theorem of_L2 {fu : Nat} (hf : 13 ≤ fu) {a : Rs} (ha : URs a) (hn : a.1 < fu) (hm : a.1 ≤ 100000) : ∃ r, iter (fun s => F_region_Of_L2 fu ((a.1 : Nat) : Int) a s.1 s.2) fu ((0 : Int), (0, (fun _ => S_api_Region.z))) = some (.inl r) ∧ ls r = (ls a).filter fun c => !(ls a).any (cov2 c) := by
  have hany : ∀ c, (ls a).any (cov2 c) = (List.range a.1).any fun i => cov2 c (a.2 i) := fun c => by unfold ls; rw [List.any_map]; rfl
  obtain ⟨e, h5, h6⟩ := iter_inv (f := fun s : Int × Rs => F_region_Of_L2 fu ((a.1 : Nat) : Int) a s.1 s.2)
    (fun j s => s.1 = (j : Int) ∧ s.2.1 ≤ j ∧ ls s.2 = chs (fun i => !(ls a).any (cov2 (a.2 i))) a.2 j)
    (fun e => ∃ r, e = .inl r ∧ ls r = chs (fun i => !(ls a).any (cov2 (a.2 i))) a.2 a.1) a.1
    (fun j s hj ⟨e1, e2, e3⟩ => .inl (by
      obtain ⟨s1, m⟩ := s
      simp only at e1 e2 e3
      subst e1
      simp only [F_region_Of_L2]
      rw [decide_eq_true (show (j : Int) < (a.1 : Int) by omega), ifs, wrap_succ (i := j) (by omega)]
      simp only [Int.toNat_natCast]
      rw [chk_t (by omega), chk_t (by omega), containsR hf ha hn hm (ha j hj), Option.bind_some, ← hany]
      cases hs : (ls a).any (cov2 (a.2 j)) with
      | true =>
        refine ⟨((j + 1 : Nat), m), rfl, rfl, show m.1 ≤ j + 1 by omega, ?_⟩
        rw [chs_succ, hs, e3]; simp
      | false =>
        simp only [Bool.not_false]
        rw [chk_t (room_big (by omega) (by omega))]
        refine ⟨_, rfl, rfl, show m.1 + 1 ≤ j + 1 by omega, ?_⟩
        rw [chs_succ, hs]
        exact ls_push e3))
    (fun s ⟨e1, e2, e3⟩ => by
      obtain ⟨s1, m⟩ := s
      simp only at e1 e2 e3
      subst e1
      refine ⟨m, ?_, m, rfl, e3⟩
      simp only [F_region_Of_L2]
      rw [decide_eq_false (by omega)]; rfl)
    a.1 0 fu ((0 : Int), (0, (fun _ => S_api_Region.z))) (by omega) hn ⟨rfl, Nat.le_refl _, rfl⟩
  obtain ⟨r, rfl, h7⟩ := h6
  exact ⟨r, h5, h7.trans (chs_filter (fun c => !(ls a).any (cov2 c)) a.2 a.1)⟩

theorem of_ok {fu : Nat} (hf : 13 ≤ fu) {l : Chs} (hl : ∀ i, i < l.1 → UC (l.2 i).f1.f1) (hn : l.1 < fu) (hm : l.1 ≤ 100000) : ∃ r : Rs, F_region_Of fu l = some r ∧ Lnr ((ls l).map toReg) (ls r) ∧ r.1 ≤ l.1 := by
  unfold F_region_Of
  obtain ⟨r1, k1, k2⟩ := of_L1 hf hl hn hm
  have hl1 : r1.1 ≤ l.1 := by
    have := List.length_filter_le sndR ((ls l).map toReg)
    rw [← k2, List.length_map, ls_len, ls_len] at this; exact this
  obtain ⟨f, k3, k4, k5⟩ := sort_ok r1 (by omega)
  have hG : ∀ c ∈ (ls l).map toReg, UR c := fun c hc => by
    obtain ⟨x, hx, rfl⟩ := List.mem_map.1 hc
    obtain ⟨i, hi, rfl⟩ := ls_mem.1 hx
    exact hl i hi
  have hp : (ls (r1.1, f)).Perm (((ls l).map toReg).filter sndR) := by rw [← k2]; exact k4
  obtain ⟨r3, k6, k7⟩ := compact_ok (fu := fu) (a := (r1.1, f)) (show r1.1 < fu by omega) (show r1.1 ≤ 100000 by omega)
  have hl3 : r3.1 ≤ r1.1 := by
    have := chs_len (newr f) f r1.1
    rw [← k7, ls_len] at this; exact this
  have hu3 : URs r3 := fun i hi => by
    have hm : r3.2 i ∈ ls r3 := ls_mem.2 ⟨i, hi, rfl⟩
    rw [k7] at hm
    obtain ⟨j, hj, _, e⟩ := chs_mem.1 hm
    rw [← e]
    exact hG _ (List.mem_filter.1 (hp.mem_iff.1 (ls_mem.2 ⟨j, hj, rfl⟩))).1
  obtain ⟨r, k8, k9⟩ := of_L2 hf hu3 (by omega) (by omega)
  have hlr : r.1 ≤ l.1 := by
    have := List.length_filter_le (fun c => !(ls r3).any (cov2 c)) (ls r3)
    rw [← k9, ls_len, ls_len] at this; omega
  refine ⟨r, ?_, ?_, hlr⟩
  · rw [k1]
    simp only [after]
    rw [k3, Option.bind_some, k6, Option.bind_some, k8]
  · refine Thin.mk' totR covR hG hp k5 (fun i _ => newr_iff f i) k7 (keep := fun c => !(ls r3).any (cov2 c)) (fun c hc => ?_) k9
    rw [Bool.not_eq_true', List.any_eq_false]
    constructor
    · intro h d hd hw
      have := h d hd
      unfold cov2 at this
      rw [hw] at this
      simpa using this
    · intro h d hd
      unfold cov2
      cases hw : wr c d with
      | false => simp
      | true => rw [h d hd hw]; simp

end Go.Proofs.Ytffkolbogcpjjaa
