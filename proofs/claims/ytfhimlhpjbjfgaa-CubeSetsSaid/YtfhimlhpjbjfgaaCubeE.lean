/- Cubes as plain functions: 'CubeMakes'. -/
import Derived.Test.YtfhimlhpjbjfgaaCubeD
namespace Go.Proofs.Ytfhimlhpjbjfgaa
open Go Go.Pod Go.Proofs

/-- The cube of one header, in the first so many fields. -/
def exn (h : Nat → Int) (n : Nat) : S_api_Cube := ⟨h, fun j => if j < n then msk j (sz j) else 0⟩

theorem exn_succ (h : Nat → Int) (i : Nat) : exn h (i + 1) = ⟨(exn h i).f0, fun j => if j = i then msk i (sz i) else (exn h i).f1 j⟩ := by
  unfold exn
  congr 1
  funext j
  dsimp only
  by_cases e : j = i
  · subst e; rw [if_pos (by omega), if_pos rfl]
  · rw [if_neg e]
    by_cases h2 : j < i
    · rw [if_pos h2, if_pos (by omega)]
    · rw [if_neg h2, if_neg (by omega)]

theorem cube_exact {fu : Nat} (hf : 13 ≤ fu) {h : Nat → Int} (hh : UH h) : F_cube_Exact fu h = some (if sndH h then (exn h 12, true) else (zc, false)) := by
  unfold F_cube_Exact
  rw [head_sound hf hh, Option.bind_some]
  cases sndH h with
  | false => rfl
  | true =>
    rw [Bool.not_true, ifs, show ((0 : Int), S_api_Cube.mk h (fun _ => 0)) = (fun i : Nat => ((i : Int), exn h i)) 0 by simp [exn]]
    rw [iter_run0 (fun i : Nat => ((i : Int), exn h i)) 12 fu (by omega) (e := exn h 12)]
    · rfl
    · intro i hi
      unfold F_cube_Exact_L1
      dsimp only
      rw [decide_eq_true (show (i : Int) < 12 by omega), ifs, (size_eq hi).1, Option.bind_some, mask_in hi (Nat.le_refl _), Option.bind_some, chk_at hi, Int.toNat_natCast, chk_nat hi, wrap_succ (by omega), exn_succ]
    · unfold F_cube_Exact_L1
      dsimp only
      rw [decide_eq_false (by decide)]; rfl

theorem uc_exn {h : Nat → Int} (hh : UH h) : UC (exn h 12) := by
  refine ⟨hh, fun i hi => ?_⟩
  show U (if i < 12 then _ else _)
  rw [if_pos hi]; exact u_msk (Nat.le_refl _)

theorem exn_c {h : Nat → Int} {i : Nat} (hi : i < 12) (k : Nat) : tb ((exn h 12).f1 i) k = decide (k < sz i) := by
  show tb (if i < 12 then msk i (sz i) else 0) k = _
  rw [if_pos hi, tb_msk' (Nat.le_refl _), Nat.sub_self]; simp

theorem head_bits {h : Nat → Int} (hh : UH h) (hs : sndH h = true) {i : Nat} (hi : i < 12) {k : Nat} (hk : tb (h i) k = true) : k < sz i := by
  rcases Nat.lt_or_ge k (sz i) with hlt | hge
  · exact hlt
  · rw [(lt_pow (hh i hi) _).1 (sndH_iff.1 hs i hi) k hge] at hk; cases hk

theorem snd_exn {h : Nat → Int} (hh : UH h) (hs : sndH h = true) : snd (exn h 12) = true := by
  rw [snd_iff (uc_exn hh)]
  refine ⟨fun i hi => ?_, fun i hi k hk => ?_⟩
  · rw [lt_pow ((uc_exn hh).c i hi)]
    intro k hk
    rw [exn_c hi, decide_eq_false (by omega)]
  · rw [exn_c hi, decide_eq_true (head_bits hh hs hi hk)]

theorem hb_exn {h : Nat → Int} (hh : UH h) (hs : sndH h = true) : hb (exn h 12) h = true := by
  rw [hb_iff (uc_exn hh) hh]
  refine ⟨fun i hi k => ?_, snd_exn hh hs, hs⟩
  rw [exn_c hi]
  show _ = tb (h i) k
  cases hk : tb (h i) k with
  | false => rfl
  | true => rw [decide_eq_true (head_bits hh hs hi hk)]; rfl

theorem txt_exn (h : Nat → Int) : txt (exn h 12) = wtxt h := by
  unfold txt wtxt bytesOf
  congr 2
  refine List.map_congr_left fun p hp => ?_
  have hp' := List.mem_range.1 hp
  show UInt8.ofNat ((if p < 248 then sgn (exn h 12) p else 0)).toNat = UInt8.ofNat ((if p < 248 then hsg h p else 0)).toNat
  rw [if_pos hp', if_pos hp']
  obtain ⟨h1, h2, _⟩ := plc_in hp'
  have : sgn (exn h 12) p = hsg h p := by
    unfold sgn hsg bitAt
    rw [exn_c h1, decide_eq_true (by omega)]; rfl
  rw [this]

/-! ### The reference's masks and setting -/

def mv (j n : Nat) : Nat := (2 ^ min n j - 1) * 2 ^ (n - min n j)

theorem mv_lt (j n : Nat) : mv j n < 2 ^ n := by
  unfold mv
  have h1 : 2 ^ min n j * 2 ^ (n - min n j) = 2 ^ n := by rw [← Nat.pow_add]; congr 1; omega
  have h2 : 0 < 2 ^ (n - min n j) := Nat.two_pow_pos _
  have : 0 < 2 ^ n := Nat.two_pow_pos _
  rw [Nat.sub_mul, h1, Nat.one_mul]
  omega
theorem mv_lo {j n : Nat} (h : n < j) : mv j (n + 1) = mv j n * 2 + 1 := by
  unfold mv
  rw [Nat.min_eq_left (by omega : n + 1 ≤ j), Nat.min_eq_left (by omega : n ≤ j), Nat.sub_self, Nat.sub_self, Nat.pow_zero, Nat.mul_one, Nat.mul_one, Nat.pow_succ]
  have : 0 < 2 ^ n := Nat.two_pow_pos _
  omega
theorem mv_hi {j n : Nat} (h : ¬ n < j) : mv j (n + 1) = mv j n * 2 := by
  unfold mv
  rw [Nat.min_eq_right (by omega : j ≤ n + 1), Nat.min_eq_right (by omega : j ≤ n), show n + 1 - j = (n - j) + 1 by omega, Nat.pow_succ, Nat.mul_assoc]
theorem mv_zero (j : Nat) : mv j 0 = 0 := by unfold mv; simp
theorem mv_msk {i j : Nat} (h : j ≤ sz i) : (mv j (sz i) : Int) = msk i j := by
  unfold mv msk; rw [Nat.min_eq_right h]

theorem ref_mask_in {fu : Nat} (hf : 49 ≤ fu) {i j : Nat} (hi : i < 12) (hj : j ≤ sz i) : F_ref01_Mask fu (i : Int) (j : Int) = some (msk i j, true) := by
  have hz := sz_le i
  unfold F_ref01_Mask
  rw [decide_eq_false (show ¬ (i : Int) < 0 by omega), decide_eq_false (show ¬ (i : Int) > 11 by omega), decide_eq_false (show ¬ (j : Int) < 0 by omega), (size_eq hi).2]
  simp only [cond_false, Bool.not_false, callIf, Option.bind_some, decide_eq_false (show ¬ (j : Int) > (sz i : Int) by omega), ifs]
  rw [show ((0 : Int), (0 : Int)) = (fun n : Nat => ((mv j n : Int), (n : Int))) 0 by simp [mv_zero]]
  rw [iter_run0 (fun n : Nat => ((mv j n : Int), (n : Int))) (sz i) fu (by omega) (e := msk i j)]
  · rfl
  · intro n hn
    have hb := mv_lt j n
    have hb2 := two_pow_le (show n ≤ 48 by omega)
    unfold F_ref01_Mask_L1
    dsimp only
    rw [(size_eq hi).2, Option.bind_some, decide_eq_true (show (n : Int) < (sz i : Int) by omega), ifs, wrap_succ (by omega), wrap_u64 (n := (mv j n : Int) * 2) (by omega) (by omega)]
    by_cases hlt : n < j
    · rw [decide_eq_true (show (n : Int) < (j : Int) by omega), ifs, wrap_u64 (by omega) (by omega), mv_lo hlt]; simp
    · rw [decide_eq_false (show ¬ (n : Int) < (j : Int) by omega), ifs, mv_hi hlt]; simp
  · unfold F_ref01_Mask_L1
    dsimp only
    rw [(size_eq hi).2, Option.bind_some, decide_eq_false (by omega), ifs, mv_msk hj]

theorem ref_mask_out {fu : Nat} {t u : Int} (h : ¬ (0 ≤ t ∧ t < 12 ∧ 0 ≤ u ∧ u ≤ (sz t.toNat : Int))) : F_ref01_Mask fu t u = some (0, false) := by
  unfold F_ref01_Mask
  by_cases hi : 0 ≤ t ∧ t < 12
  · obtain ⟨i, hi', rfl⟩ := nat12 hi
    rw [(size_eq hi').2]
    rw [Int.toNat_natCast] at h
    by_cases hu : u < 0
    · simp [hu, callIf, ifs]
    · have : u > (sz i : Int) := by omega
      have h11 : ¬ (i : Int) > 11 := by omega
      have h0 : ¬ (i : Int) < 0 := by omega
      simp [hu, callIf, ifs, this, h11, h0]
  · by_cases h0 : t < 0
    · simp [h0, callIf, ifs]
    · have h11 : t > 11 := by omega
      simp [h0, h11, callIf, ifs]

theorem ref_set_in {g : Nat → Int} {i : Nat} (hi : i < 12) (v : Int) : F_ref01_Set g (i : Int) v = some (if v < 2 ^ sz i then ((fun j => if j = i then v else g j), 0) else ((fun _ => 0), 13)) := by
  unfold F_ref01_Set
  rw [decide_eq_false (show ¬ (i : Int) < 0 by omega), decide_eq_false (show ¬ (i : Int) > 11 by omega), (size_eq hi).2]
  simp only [cond_false, ifs, Option.bind_some, ref_fits, chk_at hi, Int.toNat_natCast, chk_nat hi]
  by_cases h : v < 2 ^ sz i
  · simp only [if_pos h, decide_eq_true h]; rfl
  · simp only [if_neg h, decide_eq_false h]; rfl

theorem ref_set_out {g : Nat → Int} {t v : Int} (h : ¬ (0 ≤ t ∧ t < 12)) : F_ref01_Set g t v = some ((fun _ => 0), 1) := by
  unfold F_ref01_Set
  by_cases h0 : t < 0
  · simp [h0, ifs]
  · have h11 : t > 11 := by omega
    simp [h0, h11, ifs]

/-! ### The law -/

theorem makes_J3 {fu : Nat} {t12 : Bool} {t14 t18 : Int} {m2 m3 m5 : S_api_Cube} (h1 : t14 = t18) (h2 : eqc m3 m5 = true) (h3 : t12 = true ∨ eqc m2 zc = true) : F_law02_CubeMakes_J3 fu t12 t14 t18 m2 m3 m5 = some true := by
  unfold F_law02_CubeMakes_J3
  rw [show (((List.range 12).all fun i => m3.f0 i == m5.f0 i) && (((List.range 12).all fun i => m3.f1 i == m5.f1 i) && true)) = true from h2, h1, beq_self_eq_true]
  rcases h3 with rfl | h3
  · rfl
  · rw [show (((List.range 12).all fun i => m2.f0 i == (fun _ => 0) i) && (((List.range 12).all fun i => m2.f1 i == (fun _ => 0) i) && true)) = true from h3]
    cases t12 <;> rfl

theorem makes_J2 {fu : Nat} {t12 : Bool} {t18 : Int} {m2 m3 m5 : S_api_Cube} (h2 : eqc m3 (if t18 = 0 then m5 else zc) = true) (h3 : t12 = true ∨ eqc m2 zc = true) : F_law02_CubeMakes_J2 fu t12 t18 t18 m2 m3 m5 = some true := by
  unfold F_law02_CubeMakes_J2
  by_cases h : t18 = 0
  · subst h
    rw [show ((0 : Int) != 0) = false from rfl, ifs]
    exact makes_J3 rfl h2 h3
  · rw [if_neg h] at h2
    rw [bne_iff_ne.2 h, ifs]
    exact makes_J3 rfl h2 h3

theorem makes_J1 {fu : Nat} (hf : 49 ≤ fu) {t2 t3 t4 : Int} (u3 : U t3) {t12 : Bool} {m1 m2 : S_api_Cube} (h1 : UC m1) (h3 : t12 = true ∨ eqc m2 zc = true) :
    ((F_cube_With fu m1 t2 t3 t4).bind fun r1 => F_law02_CubeMakes_J1 fu t2 t3 t4 t12 r1.2 m1 m2 r1.1) = some true ∧ ∃ r1, F_cube_With fu m1 t2 t3 t4 = some r1 := by
  have g13 : 13 ≤ fu := by omega
  have ez := eqc_refl zc
  unfold F_law02_CubeMakes_J1 F_cube_With
  rw [cube_sound g13 h1, Option.bind_some]
  simp only [ref_cube hf h1]
  cases hs : snd m1 with
  | false =>
    simp only [Bool.not_false, ifs, Option.bind_some]
    refine ⟨?_, _, rfl⟩
    have e : ∃ a b, F_ref01_Set (fun _ => 0) t2 t3 = some a ∧ F_ref01_Mask fu t2 t4 = some b := by
      by_cases hi : 0 ≤ t2 ∧ t2 < 12
      · obtain ⟨i, hi', rfl⟩ := nat12 hi
        by_cases hj : 0 ≤ t4 ∧ t4 ≤ (sz i : Int)
        · obtain ⟨j, rfl⟩ := Int.eq_ofNat_of_zero_le hj.1
          exact ⟨_, _, ref_set_in hi' t3, ref_mask_in hf hi' (by omega)⟩
        · exact ⟨_, _, ref_set_in hi' t3, ref_mask_out (by rw [Int.toNat_natCast]; omega)⟩
      · exact ⟨_, _, ref_set_out hi, ref_mask_out (by omega)⟩
    obtain ⟨a, b, e1, e2⟩ := e
    rw [e1, Option.bind_some, e2, Option.bind_some]
    exact makes_J2 (by rw [if_neg (by decide)]; exact ez) h3
  | true =>
    simp only [Bool.not_true, ifs, Option.bind_some]
    by_cases hi : 0 ≤ t2 ∧ t2 < 12
    · obtain ⟨i, hi', rfl⟩ := nat12 hi
      rw [set_in hi' u3, ref_set_in hi' t3]
      by_cases hv : t3 < 2 ^ sz i
      · simp only [if_pos hv, Option.bind_some, show ((0 : Int) != 0) = false from rfl, beq_self_eq_true, cond_true]
        by_cases hj : 0 ≤ t4 ∧ t4 ≤ (sz i : Int)
        · obtain ⟨j, rfl⟩ := Int.eq_ofNat_of_zero_le hj.1
          rw [mask_in hi' (by omega), ref_mask_in hf hi' (by omega)]
          simp only [Option.bind_some, Bool.not_true, chk_at hi', Int.toNat_natCast, chk_nat hi']
          exact ⟨makes_J2 (by rw [if_pos rfl]; exact eqc_refl _) h3, _, rfl⟩
        · have ho : ¬ (0 ≤ (i : Int) ∧ (i : Int) < 12 ∧ 0 ≤ t4 ∧ t4 ≤ (sz ((i : Int)).toNat : Int)) := by rw [Int.toNat_natCast]; omega
          rw [mask_out ho, ref_mask_out ho]
          simp only [Option.bind_some, Bool.not_false]
          exact ⟨makes_J2 (by rw [if_neg (by decide)]; exact ez) h3, _, rfl⟩
      · simp only [if_neg hv, Option.bind_some, show ((13 : Int) != 0) = true from rfl, show ((13 : Int) == 0) = false from rfl, cond_false]
        refine ⟨?_, _, rfl⟩
        have e : ∃ b, F_ref01_Mask fu (i : Int) t4 = some b := by
          by_cases hj : 0 ≤ t4 ∧ t4 ≤ (sz i : Int)
          · obtain ⟨j, rfl⟩ := Int.eq_ofNat_of_zero_le hj.1
            exact ⟨_, ref_mask_in hf hi' (by omega)⟩
          · exact ⟨_, ref_mask_out (by rw [Int.toNat_natCast]; omega)⟩
        obtain ⟨b, e2⟩ := e
        rw [e2, Option.bind_some]
        exact makes_J2 (by rw [if_neg (by decide)]; exact ez) h3
    · rw [set_out hi, ref_set_out hi, ref_mask_out (by omega)]
      simp only [Option.bind_some, show ((1 : Int) != 0) = true from rfl, show ((1 : Int) == 0) = false from rfl, cond_false]
      exact ⟨makes_J2 (by rw [if_neg (by decide)]; exact ez) h3, _, rfl⟩

theorem makes {h : Nat → Int} (hh : UH h) {c : S_api_Cube} (hc : UC c) {t2 t3 t4 : Int} (u3 : U t3) : F_law02_CubeMakes 64 h c t2 t3 t4 = some true := by
  have h13 : 13 ≤ 64 := by omega
  have h49 : 49 ≤ 64 := by omega
  have ez : (((List.range 12).all fun i => zc.f0 i == (fun _ => 0) i) && (((List.range 12).all fun i => zc.f1 i == (fun _ => 0) i) && true)) = true := eqc_refl zc
  unfold F_law02_CubeMakes
  rw [cube_exact h13 hh, Option.bind_some]
  cases hs : sndH h with
  | false =>
    rw [show (if false = true then (exn h 12, true) else (zc, false)) = (zc, false) from rfl]
    obtain ⟨k, r1, e1⟩ := makes_J1 (fu := 64) h49 (t2 := t2) (t4 := t4) u3 (t12 := false) (m2 := zc) hc (.inr (eqc_refl _))
    rw [e1, Option.bind_some] at k
    simp only [e1, Option.bind_some, answers, Bool.not_true, Bool.not_false, callIf, ref_head h13, hs, cond_false, beq_self_eq_true, cube_sound h13 hc, ref_cube h49 hc, show F_cube_All = some zc from rfl, ez, ifs]
    exact k
  | true =>
    rw [show (if true = true then (exn h 12, true) else (zc, false)) = (exn h 12, true) from rfl]
    obtain ⟨k, r1, e1⟩ := makes_J1 (fu := 64) h49 (t2 := t2) (t4 := t4) u3 (t12 := true) (m2 := exn h 12) hc (.inl rfl)
    rw [e1, Option.bind_some] at k
    simp only [e1, Option.bind_some, answers, Bool.not_true, Bool.not_false, callIf, ref_head h13, hs, cond_false, beq_self_eq_true, cube_sound h13 hc, ref_cube h49 hc, show F_cube_All = some zc from rfl, ez, ifs, ref_text h49 (uc_exn hh), ref_whole h49 hh, txt_exn, cube_has h13 (uc_exn hh) hh, hb_exn hh hs]
    exact k

theorem pl_CubeMakes (h : Nat → Int) (wh : ∀ i, i < 12 → (Lit.int .u64 (h i)).wf = true) (c : S_api_Cube) (wc : S_api_Cube.wf c) (t2 : Int) (_w2 : (Lit.int .i64 t2).wf = true) (t3 : Int) (w3 : (Lit.int .u64 t3).wf = true) (t4 : Int) (_w4 : (Lit.int .i64 t4).wf = true) : ∃ fu, F_law02_CubeMakes fu h c t2 t3 t4 = some true :=
  ⟨64, makes (fun i hi => u_wf (wh i hi)) (uc_wf wc) (u_wf w3)⟩

end Go.Proofs.Ytfhimlhpjbjfgaa
