/- 'HeadSets', 'HeadFields', 'HeadMaskSums': what the functions compute answers as the laws say. -/
import Derived.Test.YtfhimlhpjbjfgaaHeadLib
namespace Go.Proofs.Ytfhimlhpjbjfgaa
open Go Go.Pod Go.Proofs

theorem f52_eq {i v : Int} (hi : 0 ≤ i ∧ i < 12) : F52 i v = some (ok i v) := by
  obtain ⟨r, _, h4, _⟩ := size_some hi
  simp [F52, ok, h4, hi.1, hi.2, chk]

theorem ishl_one {r : Nat} (h : r < 49) : ishl .u64 1 (r : Int) = 2 ^ r := by
  have hm : r ≤ 64 := by omega
  simp only [ishl, IntKind.bits, Int.toNat_natCast, Nat.min_eq_left hm, Int.one_mul]
  have h1 : (2 : Int) ^ r = ((2 ^ r : Nat) : Int) := by simp
  have h2 : 2 ^ r < 2 ^ 49 := Nat.pow_lt_pow_right (by decide) h
  have key : ∀ m : Nat, m < 562949953421312 → IntKind.wrap .u64 (m : Int) = m := fun m hm => wrap_u64 (by omega) (by omega)
  rw [h1]
  exact key _ h2

theorem f55_eq {i v r : Int} (hi : 0 ≤ i ∧ i < 12) (hv : 0 ≤ v) (hr : F19 i = some r) : F55 v r = some (ok i v) := by
  obtain ⟨n, h3, h4, h5⟩ := size_some hi
  rw [h5] at hr
  cases hr
  have hw : IntKind.wrap .u64 (n : Int) = n := wrap_u64 (by omega) (by omega)
  have hz := ishr_zero (v := v) (s := (n : Int)) hv (by omega) (by omega)
  simp only [Int.toNat_natCast] at hz
  have : ok i v = decide (v < 2 ^ n) := by
    simp only [ok, hi.1, hi.2, and_self, decide_true, h4, Bool.true_and]
    by_cases h : v < 2 ^ n
    · simp [h, hz.2 h]
    · have : ¬ ishr .u64 v (n : Int) = 0 := fun e => h (hz.1 e)
      simp [h, this]
  rw [this]
  simp [F55, hw, ishl_one h3, chk]

theorem set_ref {g : Nat → Int} {i v : Int} (hv : 0 ≤ v) : F25 g i v = F20 g i v := by
  by_cases hi : 0 ≤ i ∧ i < 12
  · obtain ⟨r, h3, h4, h5⟩ := size_some hi
    have c1 : (bif (decide (i < (0 : Int))) then true else (decide (i > (11 : Int)))) = false := by
      have a1 : ¬ i < 0 := by omega
      have a2 : ¬ i > 11 := by omega
      simp [a1, a2]
    simp [F25, F20, c1, f50_eq, hi.1, hi.2, h5, f55_eq hi hv h5, f52_eq hi, ifs]
  · have c1 : (bif (decide (i < (0 : Int))) then true else (decide (i > (11 : Int)))) = true := by
      by_cases a1 : i < 0
      · simp [a1]
      · have a2 : i > 11 := by omega
        simp [a1, a2]
    simp [F25, F20, c1, f50_eq, hi, ifs]

/-- All fields fit. -/
def fits (g : Nat → Int) : Bool := (stopAt (fun i => ok i (g i)) 12 0).isNone

theorem fits_all {g : Nat → Int} : fits g = true ↔ ∀ i : Nat, i < 12 → ok i (g i) = true := by
  unfold fits
  cases h : stopAt (fun i => ok (i : Nat) (g i)) 12 0 with
  | none =>
    refine ⟨fun _ i hi => ?_, fun _ => rfl⟩
    have := stopAt_none h i hi
    simpa using this
  | some m =>
    obtain ⟨_, h2, h3, _⟩ := stopAt_some h
    refine ⟨nofun, fun ha => ?_⟩
    have := ha m (by omega)
    rw [this] at h3; cases h3

theorem sound_eq (g : Nat → Int) : F26 64 g = some (fits g) := by
  have := iter_scan (f := fun s => F26_L1 64 g s) (fun i => (i : Int)) (fun i => ok i (g i)) (fun _ => false) (e := ()) 12 0 64 (by omega) (fun i _ h2 => by
      have hi : 0 ≤ (i : Int) ∧ (i : Int) < 12 := by omega
      have hn : i < 12 := by omega
      have hw : IntKind.wrap .i64 ((i : Int) + 1) = ((i + 1 : Nat) : Int) := wrap_i64 (by omega) (by omega)
      cases ho : ok i (g i) <;> simp [F26_L1, hi.2, f52_eq hi, chk, hn, ifs, ho, hw]) (by simp [F26_L1, ifs])
  simp only [F26]
  rw [show ((0 : Int)) = (((0 : Nat)) : Int) from rfl, this]
  unfold fits
  cases stopAt (fun i => ok (i : Nat) (g i)) 12 0 <;> simp [after]

theorem sound_ref {g : Nat → Int} (hg : ∀ i, i < 12 → 0 ≤ g i) : F27 64 g = some (fits g) := by
  have := iter_scan (f := fun s => F27_L1 64 g s) (fun i => (i : Int)) (fun i => ok i (g i)) (fun _ => false) (e := ()) 12 0 64 (by omega) (fun i _ h2 => by
      have hi : 0 ≤ (i : Int) ∧ (i : Int) < 12 := by omega
      have hn : i < 12 := by omega
      have hw : IntKind.wrap .i64 ((i : Int) + 1) = ((i + 1 : Nat) : Int) := wrap_i64 (by omega) (by omega)
      obtain ⟨r, _, _, h5⟩ := size_some hi
      cases ho : ok i (g i) <;> simp [F27_L1, hi.2, h5, f55_eq hi (hg i hn) h5, chk, hn, ifs, ho, hw]) (by simp [F27_L1, ifs])
  simp only [F27]
  rw [show ((0 : Int)) = (((0 : Nat)) : Int) from rfl, this]
  unfold fits
  cases stopAt (fun i => ok (i : Nat) (g i)) 12 0 <;> simp [after]

theorem sets {t0 : Nat → Int} {t1 t2 : Int} (h0 : ∀ i, i < 12 → 0 ≤ t0 i) (h2 : 0 ≤ t2) : F7 64 t0 t1 t2 = some true := by
  have hT : ((List.range 12).all fun _ => true) = true := rfl
  unfold F7
  rw [set_ref h2, answers, sound_eq, sound_ref h0]
  cases ho : ok t1 t2 with
  | false =>
    obtain ⟨e, he, hb⟩ := set_bad ho
    have he0 : (e != 0) = true := by rcases he with rfl | rfl <;> rfl
    simp [hb, callIf, he0]
  | true =>
    rw [set_ok ho]
    cases hf : fits t0 with
    | false => simp [callIf, hT]
    | true =>
      have h3 : fits (fun j => if j = t1.toNat then t2 else t0 j) = true := fits_all.2 fun i hi => by
        by_cases e : i = t1.toNat
        · have h1 : 0 ≤ t1 ∧ t1 < 12 := by have := ho; unfold ok at this; simp only [Bool.and_eq_true, decide_eq_true_eq] at this; exact this.1
          have : (i : Int) = t1 := by omega
          rw [if_pos e, this]; exact ho
        · rw [if_neg e]; exact fits_all.1 hf i hi
      simp [callIf, hT, sound_eq, h3]

end Go.Proofs.Ytfhimlhpjbjfgaa
