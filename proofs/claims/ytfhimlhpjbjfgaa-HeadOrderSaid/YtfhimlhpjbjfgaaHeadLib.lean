/- The packages 'head' and 'podestaref01' as plain functions: sizes, names, setting. -/
import Derived.Test.YtfhimlhpjbjfgaaFn
import Derived.Test.YtfhimlhpjbjfgaaPodN
namespace Go.Proofs.Ytfhimlhpjbjfgaa
open Go Go.Pod Go.Proofs

theorem answers : F17 = some true := by kernel_rfl

theorem f50_eq (t : Int) : F50 t = some (decide (0 ≤ t ∧ t < 12)) := by
  unfold F50
  congr 1
  by_cases h : t ≥ 0 <;> simp [h]

theorem nat12 {t : Int} (h : 0 ≤ t ∧ t < 12) : ∃ i : Fin 12, t = (i.1 : Int) := ⟨⟨t.toNat, by omega⟩, by simp; omega⟩

theorem size_some {t : Int} (h : 0 ≤ t ∧ t < 12) : ∃ r : Nat, r < 49 ∧ F18 t = some (r : Int) ∧ F19 t = some (r : Int) := by
  obtain ⟨i, rfl⟩ := nat12 h
  have h : ∀ i : Fin 12, ∃ r : Fin 49, F18 (i.1 : Int) = some (r.1 : Int) ∧ F19 (i.1 : Int) = some (r.1 : Int) := by decide +kernel
  obtain ⟨r, h1, h2⟩ := h i
  exact ⟨r.1, r.2, h1, h2⟩

theorem size_out {t : Int} (h : ¬ (0 ≤ t ∧ t < 12)) : F18 t = some 0 ∧ F19 t = some 0 := by
  constructor
  · simp [F18, f50_eq, h, ifs]
  · have : (bif (decide (t < (0 : Int))) then true else (decide (t > (11 : Int)))) = true := by
      by_cases h0 : t < 0
      · simp [h0]
      · simp [h0]; omega
    simp only [F19, this, ifs]

/-- Setting is done. -/
def ok (i v : Int) : Bool := decide (0 ≤ i ∧ i < 12) && match F18 i with
  | some r => ishr .u64 v r == 0
  | none => false

theorem set_ok {g : Nat → Int} {i v : Int} (h : ok i v = true) : F20 g i v = some ((fun j => if j = i.toNat then v else g j), 0) := by
  unfold ok at h
  simp only [Bool.and_eq_true, decide_eq_true_eq] at h
  obtain ⟨hi, h2⟩ := h
  obtain ⟨r, h3, h4, _⟩ := size_some hi
  rw [h4] at h2
  simp only [beq_iff_eq] at h2
  have h5 : i.toNat < 12 := by omega
  simp [F20, f50_eq, F52, h4, hi.1, hi.2, ifs, chk, h2, h5]

theorem set_bad {i v : Int} (h : ok i v = false) : ∃ e : Int, (e = 1 ∨ e = 13) ∧ ∀ g : Nat → Int, F20 g i v = some ((fun _ => 0), e) := by
  by_cases hi : 0 ≤ i ∧ i < 12
  · obtain ⟨r, h3, h4, _⟩ := size_some hi
    unfold ok at h
    rw [h4] at h
    simp only [hi.1, hi.2, and_self, decide_true, Bool.true_and, beq_eq_false_iff_ne, ne_eq] at h
    refine ⟨13, .inr rfl, fun g => ?_⟩
    have hb : (ishr .u64 v (r : Int) == 0) = false := by simpa using h
    simp [F20, f50_eq, F52, h4, hi.1, hi.2, ifs, chk, hb]
  · exact ⟨1, .inl rfl, fun g => by simp [F20, f50_eq, hi, ifs]⟩

theorem twice (t0 : Nat → Int) (t1 t2 t3 t4 : Int) : F5 t0 t1 t2 t3 t4 = some true := by
  unfold F5
  by_cases h1 : ok t1 t3 = true
  · by_cases h2 : ok t2 t4 = true
    · have i1 : 0 ≤ t1 ∧ t1 < 12 := by have := h1; unfold ok at this; simp only [Bool.and_eq_true, decide_eq_true_eq] at this; exact this.1
      have i2 : 0 ≤ t2 ∧ t2 < 12 := by have := h2; unfold ok at this; simp only [Bool.and_eq_true, decide_eq_true_eq] at this; exact this.1
      have n1 : t1.toNat < 12 := by omega
      have n2 : t2.toNat < 12 := by omega
      by_cases he : t1 = t2
      · subst he
        simp [set_ok h1, set_ok h2, answers, ifs, chk, i1.1, i1.2, n1]
      · have hne : t1.toNat ≠ t2.toNat := by omega
        have hall : ((List.range 12).all fun i => (if i = t2.toNat then t4 else if i = t1.toNat then t3 else t0 i) == (if i = t1.toNat then t3 else if i = t2.toNat then t4 else t0 i)) = true := by
          rw [List.all_eq_true]
          intro i _
          by_cases e1 : i = t1.toNat
          · have e2 : i ≠ t2.toNat := by omega
            simp [e1, hne]
          · simp [e1]
        simp [set_ok h1, set_ok h2, answers, ifs, chk, i1.1, i1.2, i2.1, i2.2, n1, n2, he, hne]
        simpa using hall
    · obtain ⟨e, he, hb⟩ := set_bad (by simpa using h2 : ok t2 t4 = false)
      have he0 : (e != 0) = true := by rcases he with rfl | rfl <;> rfl
      by_cases h1' : ok t1 t3 = true
      · simp [set_ok h1, hb, answers, ifs, he0]
      · exact absurd h1 h1'
  · obtain ⟨e, he, hb⟩ := set_bad (by simpa using h1 : ok t1 t3 = false)
    have he0 : (e != 0) = true := by rcases he with rfl | rfl <;> rfl
    by_cases h2 : ok t2 t4 = true
    · simp [set_ok h2, hb, answers, ifs, he0]
    · obtain ⟨e', he', hb'⟩ := set_bad (by simpa using h2 : ok t2 t4 = false)
      simp [hb, hb', answers, ifs, he0]

end Go.Proofs.Ytfhimlhpjbjfgaa
