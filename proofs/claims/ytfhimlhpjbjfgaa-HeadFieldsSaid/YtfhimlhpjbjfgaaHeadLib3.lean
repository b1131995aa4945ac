/- 'HeadFields', 'HeadMaskSums': what the functions compute answers as the laws say. -/
import Derived.Test.YtfhimlhpjbjfgaaHeadLib2
namespace Go.Proofs.Ytfhimlhpjbjfgaa
open Go Go.Pod Go.Proofs

/-- The names, in both packages. -/
theorem name_some : ∀ i : Fin 12, ∃ n : ByteArray, F24 (i.1 : Int) = some n ∧ F51.map (fun f => (f i.1).f0.toList) = some n.toList := by
  have h : ∀ i : Fin 12, (F24 (i.1 : Int)).map (fun n => n.toList) = F51.map (fun f => (f i.1).f0.toList) := by decide +kernel
  intro i
  have hi := h i
  cases e : F24 (i.1 : Int) with
  | none => rw [e] at hi; cases hi
  | some n => exact ⟨n, rfl, by rw [e] at hi; exact hi.symm⟩

theorem field_eq (s : ByteArray) : F21 64 s = F22 64 s := by
  obtain ⟨fs, hfs⟩ : ∃ fs, F51 = some fs := ⟨_, rfl⟩
  have hname : ∀ i : Nat, i < 12 → ∃ n : ByteArray, F24 (i : Int) = some n ∧ n.toList = (fs i).f0.toList := fun i hi => by
    obtain ⟨n, h1, h2⟩ := name_some ⟨i, hi⟩
    refine ⟨n, h1, ?_⟩
    rw [hfs] at h2
    exact (Option.some.inj h2).symm
  have a := iter_scan (f := fun s' => F53_54_L1 64 (12, fs) s ((12 : Nat) : Int) s') (fun i => (i : Int)) (fun i => !((fs i).f0.toList == s.toList)) (fun i => (i : Int)) (e := ()) 12 0 64 (by omega) (fun i _ h2 => by
      have hi : 0 ≤ (i : Int) ∧ (i : Int) < 12 := by omega
      have hn : i < 12 := by omega
      have hw : IntKind.wrap .i64 ((i : Int) + 1) = ((i + 1 : Nat) : Int) := wrap_i64 (by omega) (by omega)
      cases ho : ((fs i).f0.toList == s.toList) <;> simp [F53_54_L1, F54, hi.2, chk, ifs, ho, hw]) (by simp [F53_54_L1, ifs])
  have b := iter_scan (f := fun s' => F22_L1 64 s s') (fun i => (i : Int)) (fun i => !((fs i).f0.toList == s.toList)) (fun i => ((i : Int), true)) (e := ()) 12 0 64 (by omega) (fun i _ h2 => by
      have hi : 0 ≤ (i : Int) ∧ (i : Int) < 12 := by omega
      have hn : i < 12 := by omega
      have hw : IntKind.wrap .i64 ((i : Int) + 1) = ((i + 1 : Nat) : Int) := wrap_i64 (by omega) (by omega)
      obtain ⟨n, h3, h4⟩ := hname i hn
      cases ho : ((fs i).f0.toList == s.toList) <;> simp [F22_L1, hi.2, h3, h4, ifs, ho, hw]) (by simp [F22_L1, ifs])
  simp only [F21, F22, F53_54, hfs, Option.bind_some]
  rw [show ((0 : Int)) = (((0 : Nat)) : Int) from rfl, a, b]
  cases hst : stopAt (fun i => !((fs i).f0.toList == s.toList)) 12 0 with
  | none => simp [after]
  | some m =>
    obtain ⟨_, h2, _⟩ := stopAt_some hst
    have hm : ¬ (0 : Int) > (m : Int) := by omega
    simp [after, hm]

theorem ref_field_some (s : ByteArray) : ∃ r, F22 64 s = some r := by
  obtain ⟨fs, hfs⟩ : ∃ fs, F51 = some fs := ⟨_, rfl⟩
  have hname : ∀ i : Nat, i < 12 → ∃ n : ByteArray, F24 (i : Int) = some n ∧ n.toList = (fs i).f0.toList := fun i hi => by
    obtain ⟨n, h1, h2⟩ := name_some ⟨i, hi⟩
    refine ⟨n, h1, ?_⟩
    rw [hfs] at h2
    exact (Option.some.inj h2).symm
  have b := iter_scan (f := fun s' => F22_L1 64 s s') (fun i => (i : Int)) (fun i => !((fs i).f0.toList == s.toList)) (fun i => ((i : Int), true)) (e := ()) 12 0 64 (by omega) (fun i _ h2 => by
      have hi : 0 ≤ (i : Int) ∧ (i : Int) < 12 := by omega
      have hn : i < 12 := by omega
      have hw : IntKind.wrap .i64 ((i : Int) + 1) = ((i + 1 : Nat) : Int) := wrap_i64 (by omega) (by omega)
      obtain ⟨n, h3, h4⟩ := hname i hn
      cases ho : ((fs i).f0.toList == s.toList) <;> simp [F22_L1, hi.2, h3, h4, ifs, ho, hw]) (by simp [F22_L1, ifs])
  simp only [F22]
  rw [show ((0 : Int)) = (((0 : Nat)) : Int) from rfl, b]
  cases stopAt (fun i => !((fs i).f0.toList == s.toList)) 12 0 <;> simp [after]

theorem sizes_eq (t : Int) : ∃ r, F18 t = some r ∧ F19 t = some r := by
  by_cases h : 0 ≤ t ∧ t < 12
  · obtain ⟨r, _, h1, h2⟩ := size_some h; exact ⟨_, h1, h2⟩
  · exact ⟨0, size_out h⟩

theorem names_eq (t : Int) : ∃ a b, F23 t = some a ∧ F24 t = some b ∧ a.toList = b.toList := by
  by_cases h : 0 ≤ t ∧ t < 12
  · obtain ⟨i, rfl⟩ := nat12 h
    obtain ⟨n, h1, h2⟩ := name_some i
    obtain ⟨fs, hfs⟩ : ∃ fs, F51 = some fs := ⟨_, rfl⟩
    rw [hfs] at h2
    refine ⟨(fs i.1).f0, n, ?_, h1, Option.some.inj h2⟩
    have hn := i.2
    simp [F23, f50_eq, h.2, hfs, ifs, chk, hn]
  · refine ⟨⟨#[]⟩, ⟨#[]⟩, by simp [F23, f50_eq, h, ifs], ?_, rfl⟩
    have : (bif (decide (t < (0 : Int))) then true else (decide (t > (11 : Int)))) = true := by
      by_cases h0 : t < 0
      · simp [h0]
      · simp [h0]; omega
    simp only [F24, this, ifs]

theorem fields (t0 : Int) (t1 : ByteArray) : F6 64 t0 t1 = some true := by
  unfold F6
  cases h : decide ((t1.size : Int) > (100 : Int)) with
  | true => simp [ifs, answers]
  | false =>
    obtain ⟨r, hr⟩ := ref_field_some t1
    obtain ⟨z, h1, h2⟩ := sizes_eq t0
    obtain ⟨a, b, h3, h4, h5⟩ := names_eq t0
    simp [ifs, field_eq, hr, answers, callIf, h1, h2, h3, h4, h5]

theorem wf_u8 {n : Int} (h : (Lit.int .u8 n).wf = true) : 0 ≤ n ∧ n < 256 := by
  simp only [Lit.wf, Bool.and_eq_true, decide_eq_true_eq, show IntKind.min .u8 = 0 from rfl, show IntKind.max .u8 = 255 from rfl] at h
  omega

/-! ### Masks, counted -/

def sumsAt (i j : Int) : Option Bool :=
  (F15 i j).bind fun r1 =>
  after (iter (fun s => F4_L1 65 i j r1.1 r1.2 s.1 s.2) 65 ((0 : Int), (0 : Int))) fun e4 =>
  (F17).bind fun r4 =>
  some (bif (bif r4 then r1.2 else false) then (e4 == j) else false)

theorem sums_tab : ∀ i : Fin 12, ∀ j : Fin 49, (j.1 : Int) ≤ (F18 (i.1 : Int)).getD 0 → sumsAt (i.1 : Int) (j.1 : Int) = some true := by decide +kernel

theorem sums {t0 t1 : Int} (h0 : 0 ≤ t0 ∧ t0 < 256) (h1 : 0 ≤ t1 ∧ t1 < 256) : F4 65 t0 t1 = some true := by
  have hi : 0 ≤ t0 % 12 ∧ t0 % 12 < 12 := by omega
  have e1 : IntKind.wrap .i64 (Int.tmod t0 12) = t0 % 12 := by
    rw [Int.tmod_eq_emod_of_nonneg h0.1]; exact wrap_i64 (by omega) (by omega)
  have e2 : IntKind.wrap .i64 t1 = t1 := wrap_i64 (by omega) (by omega)
  obtain ⟨i, hi'⟩ := nat12 hi
  obtain ⟨r, h3, h4, _⟩ := size_some hi
  have e3 : IntKind.wrap .i64 ((r : Int) + 1) = (r : Int) + 1 := wrap_i64 (by omega) (by omega)
  have e4 : Int.tmod t1 ((r : Int) + 1) = t1 % ((r : Int) + 1) := Int.tmod_eq_emod_of_nonneg h1.1
  have hj0 : 0 ≤ t1 % ((r : Int) + 1) := Int.emod_nonneg _ (by omega)
  have hj1 : t1 % ((r : Int) + 1) < (r : Int) + 1 := Int.emod_lt_of_pos _ (by omega)
  obtain ⟨j, hj⟩ : ∃ j : Fin 49, t1 % ((r : Int) + 1) = (j.1 : Int) := ⟨⟨(t1 % ((r : Int) + 1)).toNat, by omega⟩, by simp; omega⟩
  have hne : ((r : Int) + 1) ≠ 0 := by omega
  have tab := sums_tab i j (by rw [← hi', h4]; simp only [Option.getD_some]; omega)
  unfold sumsAt at tab
  rw [← hi', ← hj] at tab
  simp only [F4, e1, e2, h4, Option.bind_some, e3, e4, chk, hne, ne_eq, not_false_eq_true, if_true]
  exact tab

end Go.Proofs.Ytfhimlhpjbjfgaa
