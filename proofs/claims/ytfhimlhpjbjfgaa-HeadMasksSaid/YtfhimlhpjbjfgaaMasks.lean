/- 'HeadMasks': what the functions compute answers as the law says. -/
import Derived.Test.YtfhimlhpjbjfgaaFn
namespace Go.Proofs.Ytfhimlhpjbjfgaa
open Go Go.Pod Go.Proofs

theorem masks_tab : ∀ i : Fin 12, ∀ j : Fin 49, F3 64 (i.1 : Int) (j.1 : Int) = some true := by decide +kernel
theorem masks_answers : F17 = some true := by kernel_rfl
theorem size_tab : ∀ i : Fin 12, F18 (i.1 : Int) = F19 (i.1 : Int) ∧ ∀ r, F19 (i.1 : Int) = some r → r < 49 := by
  have h : ∀ i : Fin 12, ∃ r : Fin 49, F18 (i.1 : Int) = some (r.1 : Int) ∧ F19 (i.1 : Int) = some (r.1 : Int) := by decide +kernel
  intro i
  obtain ⟨r, h1, h2⟩ := h i
  refine ⟨h1.trans h2.symm, fun r' e => ?_⟩
  rw [h2] at e
  cases e
  omega

theorem masks (t0 t1 : Int) : F3 64 t0 t1 = some true := by
  by_cases h0 : 0 ≤ t0 ∧ t0 < 12
  · obtain ⟨i, rfl⟩ : ∃ i : Fin 12, t0 = (i.1 : Int) := ⟨⟨t0.toNat, by omega⟩, by simp; omega⟩
    by_cases h1 : 0 ≤ t1 ∧ t1 < 49
    · obtain ⟨j, rfl⟩ : ∃ j : Fin 49, t1 = (j.1 : Int) := ⟨⟨t1.toNat, by omega⟩, by simp; omega⟩
      exact masks_tab i j
    · have hi : ¬ ((i.1 : Int) < 0) := by omega
      have hi' : ¬ ((i.1 : Int) > 11) := by omega
      have e50 : F50 (i.1 : Int) = some true := by simp [F50]; omega
      obtain ⟨es, hs⟩ := size_tab i
      by_cases hn : t1 < 0
      · simp [F3, F15, F16, e50, masks_answers, callIf, hn, hi, hi', ifs]
      · obtain ⟨r, hr⟩ : ∃ r, F19 (i.1 : Int) = some r := by
          revert i; intro i; 
          have h : ∀ i : Fin 12, (F19 (i.1 : Int)).isSome = true := by decide +kernel
          exact fun _ _ _ _ _ _ => Option.isSome_iff_exists.1 (h i)
        have hlt := hs r hr
        have hgt : t1 > r := by omega
        simp [F3, F15, F16, e50, masks_answers, callIf, hn, hi, hi', ifs, es, hr, hgt]
  · have e50 : F50 t0 = some false := by simp [F50]; omega
    by_cases hn : t0 < 0
    · simp [F3, F15, F16, e50, masks_answers, callIf, ifs, hn]
    · have h11 : t0 > 11 := by omega
      simp [F3, F15, F16, e50, masks_answers, callIf, ifs, hn, h11]

end Go.Proofs.Ytfhimlhpjbjfgaa
