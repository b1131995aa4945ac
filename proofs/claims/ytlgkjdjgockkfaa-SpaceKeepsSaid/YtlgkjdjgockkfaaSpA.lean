/- Spaces as plain functions: cubes within cubes; what 'Lean' leaves of a list. -/
import Derived.Test.YtlgkjdjgockkfaaFnC
import Derived.Test.YtlgkjdjgockkfaaUubeI
import Derived.Test.YtlgkjdjgockkfaaThin
namespace Go.Proofs.Ytlgkjdjgockkfaa
open Go Go.Pod Go.Proofs Go.Sort Go.Shelf

abbrev Cs := Nat × (Nat → S_api_Cube)
def UCs (a : Cs) : Prop := ∀ i, i < a.1 → UC (a.2 i)

/-! ### Within -/

def wn (a b : S_api_Cube) : Bool := mok a b && eqc (un a b 12) a

theorem wn_iff {a b : S_api_Cube} (ha : UC a) (hb : UC b) : wn a b = true ↔ snd a = true ∧ snd b = true ∧ ∀ p, p < 248 → cx b p = true → cx a p = true ∧ vx a p = vx b p := by
  unfold wn
  rw [within_places ha hb, Bool.and_eq_true, Bool.and_eq_true, List.all_eq_true]
  have e : ∀ p, win_at a b p = true ↔ (cx b p = true → cx a p = true ∧ vx a p = vx b p) := fun p => by
    unfold win_at
    cases cx a p <;> cases vx a p <;> cases cx b p <;> cases vx b p <;> decide
  exact ⟨fun ⟨⟨h1, h2⟩, h3⟩ => ⟨h1, h3, fun p hp => (e p).1 (h2 p (List.mem_range.2 hp))⟩, fun ⟨h1, h3, h2⟩ => ⟨⟨h1, fun p hp => (e p).2 (h2 p (List.mem_range.1 hp))⟩, h3⟩⟩

theorem eqc_places {a b : S_api_Cube} (ha : UC a) (hb : UC b) (sa : snd a = true) (sb : snd b = true) (h : ∀ p, p < 248 → cx a p = cx b p ∧ vx a p = vx b p) : eqc a b = true := by
  rw [eqc_bits ha hb]
  intro i hi k
  by_cases hk : k < sz i
  · exact (all_places (P := fun i k => tb (a.f0 i) k = tb (b.f0 i) k ∧ tb (a.f1 i) k = tb (b.f1 i) k) (fun p hp => ⟨(h p hp).2, (h p hp).1⟩) hi hk)
  · have a1 : tb (a.f1 i) k = false := by
      cases e : tb (a.f1 i) k with
      | false => rfl
      | true => exact absurd (snd_high ha sa hi e) hk
    have b1 : tb (b.f1 i) k = false := by
      cases e : tb (b.f1 i) k with
      | false => rfl
      | true => exact absurd (snd_high hb sb hi e) hk
    have a0 : tb (a.f0 i) k = false := by
      cases e : tb (a.f0 i) k with
      | false => rfl
      | true => have := snd_bit ha sa hi k e; rw [a1] at this; cases this
    have b0 : tb (b.f0 i) k = false := by
      cases e : tb (b.f0 i) k with
      | false => rfl
      | true => have := snd_bit hb sb hi k e; rw [b1] at this; cases this
    exact ⟨a0.trans b0.symm, a1.trans b1.symm⟩

theorem snd_eqc {a b : S_api_Cube} (ha : UC a) (hb : UC b) (h : eqc a b = true) : snd a = snd b := by
  have h' := eqc_iff.1 h
  rw [Bool.eq_iff_iff, snd_iff ha, snd_iff hb]
  constructor
  · rintro ⟨h1, h2⟩
    exact ⟨fun i hi => (h' i hi).2 ▸ h1 i hi, fun i hi k => by rw [← (h' i hi).1, ← (h' i hi).2]; exact h2 i hi k⟩
  · rintro ⟨h1, h2⟩
    exact ⟨fun i hi => (h' i hi).2 ▸ h1 i hi, fun i hi k => by rw [(h' i hi).1, (h' i hi).2]; exact h2 i hi k⟩

theorem cn_lt {f g : Nat → Bool} : ∀ n, (∀ p, p < n → f p = true → g p = true) → (cn f n ≤ cn g n ∧ ((∃ p, p < n ∧ g p = true ∧ f p = false) → cn f n < cn g n))
  | 0, _ => ⟨Nat.le_refl _, fun ⟨p, hp, _⟩ => absurd hp (Nat.not_lt_zero p)⟩
  | n + 1, h => by
    obtain ⟨h1, h2⟩ := cn_lt n fun p hp => h p (by omega)
    have h3 := h n (by omega)
    refine ⟨?_, fun ⟨p, hp, k1, k2⟩ => ?_⟩
    · simp only [cn]
      cases e : f n with
      | false => simp; omega
      | true => rw [h3 e]; simp; omega
    · simp only [cn]
      by_cases hpn : p = n
      · subst hpn; rw [k1, k2]; simp; omega
      · have := h2 ⟨p, by omega, k1, k2⟩
        cases e : f n with
        | false => simp; omega
        | true => rw [h3 e]; simp; omega

theorem wn_anti {a b : S_api_Cube} (ha : UC a) (hb : UC b) (h1 : wn a b = true) (h2 : wn b a = true) : eqc a b = true := by
  obtain ⟨sa, sb, k1⟩ := (wn_iff ha hb).1 h1
  obtain ⟨_, _, k2⟩ := (wn_iff hb ha).1 h2
  refine eqc_places ha hb sa sb fun p hp => ?_
  have hi := fld_lt hp
  have va : cx a p = false → vx a p = false := fun e => by
    cases e' : vx a p with
    | false => rfl
    | true => have := snd_bit ha sa hi (bt p) e'; rw [show tb (a.f1 (fld p)) (bt p) = cx a p from rfl, e] at this; cases this
  have vb : cx b p = false → vx b p = false := fun e => by
    cases e' : vx b p with
    | false => rfl
    | true => have := snd_bit hb sb hi (bt p) e'; rw [show tb (b.f1 (fld p)) (bt p) = cx b p from rfl, e] at this; cases this
  have q1 := k1 p hp
  have q2 := k2 p hp
  revert q1 q2 va vb
  cases cx a p <;> cases cx b p <;> simp
  · intro h3 h4; rw [h3, h4]
  · intro h _; exact h

theorem wn_le {a b : S_api_Cube} (ha : UC a) (hb : UC b) (h : eqc a b = true) (sa : snd a = true) : wn a b = true := by
  have h' := (eqc_bits ha hb).1 h
  refine (wn_iff ha hb).2 ⟨sa, by rw [← snd_eqc ha hb h]; exact sa, fun p hp hc => ?_⟩
  have := h' _ (fld_lt hp) (bt p)
  exact ⟨this.2.trans hc, this.1⟩

theorem cov : Cov eqc snd wn UC (fun c => cn (cx c) 248) where
  refl := fun a ha sa => wn_le ha ha (eqc_refl a) sa
  trans := fun a b c ha hb hc h1 h2 => by
    obtain ⟨sa, sb, k1⟩ := (wn_iff ha hb).1 h1
    obtain ⟨_, sc, k2⟩ := (wn_iff hb hc).1 h2
    refine (wn_iff ha hc).2 ⟨sa, sc, fun p hp h => ?_⟩
    obtain ⟨q1, q2⟩ := k2 p hp h
    obtain ⟨q3, q4⟩ := k1 p hp q1
    exact ⟨q3, q4.trans q2⟩
  anti := fun a b ha hb => wn_anti ha hb
  le := fun a b ha hb => wn_le ha hb
  okr := fun a b ha hb h => ((wn_iff ha hb).1 h).2.1
  less := fun a b ha hb h ne => by
    obtain ⟨sa, sb, k1⟩ := (wn_iff ha hb).1 h
    refine (cn_lt 248 fun p hp hc => (k1 p hp hc).1).2 ?_
    refine Classical.byContradiction fun hn => ?_
    have h2 : wn b a = true := (wn_iff hb ha).2 ⟨sb, sa, fun p hp hc => by
      cases e : cx b p with
      | false => exact absurd ⟨p, hp, hc, e⟩ hn
      | true => exact ⟨rfl, (k1 p hp e).2.symm⟩⟩
    rw [wn_anti hb ha h2 h] at ne
    cases ne

theorem tot : Tot oc eqc where
  zero := oc_zero
  swap := oc_swap
  le := fun _ _ _ => oc_le

abbrev Lnd (A E : List S_api_Cube) : Prop := Thin oc eqc snd wn A E

/-! ### DeleteFunc -/

theorem lean1_eq {fu : Nat} (hf : 13 ≤ fu) {c : S_api_Cube} (hc : UC c) : F_space_Lean_1 fu c = some (!snd c) := by
  unfold F_space_Lean_1
  rw [cube_sound hf hc, Option.bind_some]

theorem index1 {fu : Nat} (hf : 13 ≤ fu) {a : Cs} (ha : UCs a) (hn : a.1 < fu) (hm : a.1 ≤ 100000) : F_slices_IndexFunc_api_Cube_space_Lean_1 fu a = some (match stopAt (fun i => snd (a.2 i)) a.1 0 with | none => (-1 : Int) | some m => (m : Int)) := by
  unfold F_slices_IndexFunc_api_Cube_space_Lean_1
  rw [show (0 : Int) = (fun i : Nat => (i : Int)) 0 from rfl, iter_scan (fun i : Nat => (i : Int)) (fun i => snd (a.2 i)) (fun i => (i : Int)) (e := ()) a.1 0 fu hn]
  · cases stopAt (fun i => snd (a.2 i)) a.1 0 <;> rfl
  · intro i _ h2
    unfold F_slices_IndexFunc_api_Cube_space_Lean_1_L1
    rw [decide_eq_true (show (i : Int) < (a.1 : Int) by omega), ifs, chk_t (by omega), Int.toNat_natCast, lean1_eq hf (ha i (by omega)), Option.bind_some, wrap_succ (by omega)]
    cases snd (a.2 i) <;> rfl
  · rw [Nat.zero_add]
    unfold F_slices_IndexFunc_api_Cube_space_Lean_1_L1
    rw [decide_eq_false (by omega)]; rfl

theorem del_ok {fu : Nat} (hf : 13 ≤ fu) {a : Cs} (ha : UCs a) (hn : a.1 < fu) (hm : a.1 ≤ 100000) : ∃ r, F_slices_DeleteFunc_api_Cube_space_Lean_1 fu a = some r ∧ ls r = (ls a).filter snd := by
  unfold F_slices_DeleteFunc_api_Cube_space_Lean_1
  rw [index1 hf ha hn hm, Option.bind_some]
  cases hs : stopAt (fun i => snd (a.2 i)) a.1 0 with
  | none =>
    refine ⟨a, rfl, ?_⟩
    have := (stopAt_all a.1 0).1 hs
    rw [List.filter_eq_self.2]
    intro c hc
    obtain ⟨i, hi, rfl⟩ := ls_mem.1 hc
    simpa using this i hi
  | some m =>
    obtain ⟨_, h2, h3, h4⟩ := stopAt_some hs
    have hne : ((m : Int) == (-1 : Int)) = false := by rw [beq_eq_false_iff_ne]; omega
    simp only [hne, ifs]
    rw [wrap_succ (by omega)]
    obtain ⟨e, h5, h6⟩ := iter_inv (f := fun s : Int × Int × Cs => F_slices_DeleteFunc_api_Cube_space_Lean_1_L1 fu s.1 s.2.1 s.2.2)
      (fun j s => ∃ i : Nat, s.1 = (i : Int) ∧ s.2.1 = ((j : Nat) : Int) ∧ i < j ∧ s.2.2.1 = a.1 ∧ (∀ k, j ≤ k → s.2.2.2 k = a.2 k) ∧ ls (i, s.2.2.2) = chs (fun k => snd (a.2 k)) a.2 j)
      (fun e => ∃ (i : Nat) (f : Nat → S_api_Cube), e = .inl ((i : Int), (a.1, f)) ∧ i ≤ a.1 ∧ ls (i, f) = chs (fun k => snd (a.2 k)) a.2 a.1) a.1
      (fun j s hj ⟨i, e1, e2, e3, e4, e5, e6⟩ => .inl (by
        obtain ⟨s1, s2, s3, s4⟩ := s
        simp only at e1 e2 e4 e5 e6
        subst e1 e2 e4
        simp only [F_slices_DeleteFunc_api_Cube_space_Lean_1_L1]
        rw [decide_eq_true (show (j : Int) < (a.1 : Int) by omega), ifs, chk_t (by omega), chk_t (by omega), Int.toNat_natCast, Int.toNat_natCast, e5 j (Nat.le_refl _), lean1_eq hf (ha j hj), Option.bind_some, wrap_succ (i := j) (by omega), wrap_succ (i := i) (by omega)]
        cases hc : snd (a.2 j) with
        | false =>
          refine ⟨_, rfl, i, rfl, rfl, by omega, rfl, fun k hk => e5 k (by omega), ?_⟩
          rw [chs_succ, hc]; simpa using e6
        | true =>
          refine ⟨(((i + 1 : Nat) : Int), ((j + 1 : Nat) : Int), a.1, fun k => if k = i then a.2 j else s4 k), by simp only [Bool.not_true, Bool.not_false, ifs]; rw [chk_t (by omega), chk_t (by omega)], i + 1, rfl, rfl, by omega, rfl, fun k hk => ?_, ?_⟩
          · show (if k = i then a.2 j else s4 k) = a.2 k
            rw [if_neg (by omega)]; exact e5 k (by omega)
          · show ls (i + 1, fun k => if k = i then a.2 j else s4 k) = _
            rw [ls_set, e6, chs_succ, hc]; rfl))
      (fun s ⟨i, e1, e2, e3, e4, e5, e6⟩ => by
        obtain ⟨s1, s2, s3, s4⟩ := s
        simp only at e1 e2 e4 e5 e6
        subst e1 e2 e4
        refine ⟨((i : Int), (a.1, s4)), ?_, i, s4, rfl, by omega, e6⟩
        simp only [F_slices_DeleteFunc_api_Cube_space_Lean_1_L1]
        rw [decide_eq_false (by omega)]; rfl)
      (a.1 - (m + 1)) (m + 1) fu ((m : Int), ((m + 1 : Nat) : Int), a) (by omega) (by omega) ⟨m, rfl, rfl, by omega, rfl, fun _ _ => rfl, by
        rw [chs_succ, h3, chs_all fun i hi => by simpa using h4 i (Nat.zero_le _) hi]; simp⟩
    obtain ⟨i, f, rfl, hi, hl⟩ := h6
    rw [h5]
    simp only [after]
    rw [chk_t (by omega), chk_t (by omega), chk_t (by omega), chk_t (by omega)]
    refine ⟨_, rfl, ?_⟩
    rw [← chs_filter snd a.2 a.1, ← hl]
    show ls ((i : Int).toNat - (0 : Int).toNat, _) = _
    rw [show (i : Int).toNat - (0 : Int).toNat = i by simp]
    exact ls_eq fun k hk => by
      rw [if_neg (by omega)]

end Go.Proofs.Ytlgkjdjgockkfaa
