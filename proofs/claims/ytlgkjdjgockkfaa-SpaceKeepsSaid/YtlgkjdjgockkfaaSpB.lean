/- Spaces as plain functions: Compact, and Lean as a whole. -/
import Derived.Test.YtlgkjdjgockkfaaSpA
namespace Go.Proofs.Ytlgkjdjgockkfaa
open Go Go.Pod Go.Proofs Go.Sort Go.Shelf

theorem wrap_pred {j : Nat} (h : 1 ≤ j) (h2 : j < 1000000) : IntKind.wrap .i64 ((j : Int) - 1) = ((j - 1 : Nat) : Int) := by
  rw [wrap_i64 (by omega) (by omega)]; omega

/-! ### Sorting -/

theorem ls_arr {A : Array S_api_Cube} {n : Nat} (h : A.size = n) : ls (n, fun i => A[i]!) = A.toList := by
  subst h
  apply List.ext_getElem
  · simp [ls]
  · intro i h1 h2
    have : i < A.size := by simpa [ls] using h1
    simp [ls, getElem!_pos A i this]

theorem ext_all {α : Type} {A : Array α} {n : Nat} (h : A.size = n) : A.extract 0 n = A := by subst h; simp

theorem sort_ok (a : Cs) (hm : a.1 ≤ 100000) : ∃ f : Nat → S_api_Cube, F_slices_SortFunc_cube_Compare a = some (a.1, f) ∧ (ls (a.1, f)).Perm (ls a) ∧ ∀ i j, i < j → j < a.1 → oc (f i) (f j) ≤ 0 := by
  unfold F_slices_SortFunc_cube_Compare
  rw [chk_t (by omega)]
  obtain ⟨h1, h2⟩ := srt_sorts oc oc_swo a.1 a.2
  have hs := srt_size oc oc_swo a.1 a.2
  refine ⟨_, rfl, ?_, fun i j hij hj => ?_⟩
  · rw [ls_arr hs]
    have k := h1.2.2
    rw [ext_all hs, ext_all (show (Array.ofFn fun i : Fin a.1 => a.2 i).size = a.1 by simp)] at k
    refine k.trans (List.Perm.of_eq ?_)
    apply List.ext_getElem
    · simp [ls]
    · intro i h3 h4
      simp [ls]
  · have := h2 i j (Nat.zero_le _) hij hj
    unfold ltOf at this
    rw [decide_eq_false_iff_not] at this
    have := oc_swap (srt oc a.1 a.2)[i]! (srt oc a.1 a.2)[j]!
    omega

/-! ### Compact -/

def newc (a : Nat → S_api_Cube) (i : Nat) : Bool := i == 0 || !eqc (a i) (a (i - 1))

theorem newc_iff (a : Nat → S_api_Cube) (i : Nat) : newc a i = true ↔ i = 0 ∨ eqc (a i) (a (i - 1)) = false := by
  unfold newc; simp

theorem compact_L2 {fu : Nat} {a : Cs} {lo j k : Nat} {f : Nat → S_api_Cube} (hm : a.1 ≤ 100000) (h1 : 1 ≤ j) (hj : lo + j < a.1) (hk : k < lo + j) :
    F_slices_Compact_api_Cube_L2 fu a lo (a.1 - lo) (k : Int) (j : Int) (a.1, f) = ifs (!eqc (f (lo + j)) (f (lo + (j - 1)))) (some (.next (((k + 1 : Nat) : Int), ((j + 1 : Nat) : Int), (a.1, fun i => if i = k then f (lo + j) else f i)))) (some (.next ((k : Int), ((j + 1 : Nat) : Int), (a.1, f)))) := by
  unfold F_slices_Compact_api_Cube_L2
  rw [decide_eq_true (show (j : Int) < ((a.1 - lo : Nat) : Int) by omega), ifs, wrap_pred h1 (by omega), wrap_succ (i := j) (by omega), wrap_succ (i := k) (by omega)]
  simp only [Int.toNat_natCast]
  rw [chk_t (by omega), chk_t (by omega), chk_t (by omega), chk_t (by omega), chk_t (by omega), chk_t (by omega), chk_t (by omega), chk_t (by omega)]
  rfl

theorem compact_L1 {fu : Nat} {a : Cs} {j : Nat} (hm : a.1 ≤ 100000) (h1 : 1 ≤ j) (hj : j < a.1) :
    F_slices_Compact_api_Cube_L1 fu a (j : Int) = ifs (eqc (a.2 j) (a.2 (j - 1))) (after (iter (fun s => F_slices_Compact_api_Cube_L2 fu a j (a.1 - j) s.1 s.2.1 s.2.2) fu ((j : Int), (1 : Int), a)) fun e14 =>
      chk (0 ≤ e14.1 ∧ e14.1 ≤ ((e14.2.1 : Nat) : Int) ∧ ((e14.2.1 : Nat) : Int) ≤ ((e14.2.1 : Nat) : Int)) <|
      chk ((e14.1).toNat + ((((e14.2.1 : Nat) : Int)).toNat - (e14.1).toNat) ≤ e14.2.1) <|
      chk (0 ≤ (0 : Int) ∧ (0 : Int) ≤ e14.1 ∧ e14.1 ≤ ((e14.2.1 : Nat) : Int)) <|
      chk (((e14.1).toNat - ((0 : Int)).toNat) ≤ e14.2.1) <|
      some (.ret (((e14.1).toNat - ((0 : Int)).toNat), (fun i => if (e14.1).toNat ≤ i ∧ i < (e14.1).toNat + ((((e14.2.1 : Nat) : Int)).toNat - (e14.1).toNat) then (S_api_Cube.mk (fun _ => 0) (fun _ => 0)) else e14.2.2 i)))) (some (.next ((j + 1 : Nat) : Int))) := by
  unfold F_slices_Compact_api_Cube_L1
  rw [decide_eq_true (show (j : Int) < (a.1 : Int) by omega), ifs, wrap_pred h1 (by omega), wrap_succ (i := j) (by omega)]
  simp only [Int.toNat_natCast]
  rw [chk_t (by omega), chk_t (by omega), chk_t (by omega), chk_t (by omega), chk_t (by omega)]
  rfl

theorem compact_ok {fu : Nat} {a : Cs} (hn : a.1 < fu) (hm : a.1 ≤ 100000) : ∃ r, F_slices_Compact_api_Cube fu a = some r ∧ ls r = chs (newc a.2) a.2 a.1 := by
  unfold F_slices_Compact_api_Cube
  by_cases h2 : a.1 < 2
  · rw [decide_eq_true (show (a.1 : Int) < 2 by omega), ifs]
    refine ⟨a, rfl, (chs_all fun i hi => ?_).symm⟩
    rw [show i = 0 by omega]; rfl
  · rw [decide_eq_false (show ¬ (a.1 : Int) < 2 by omega), ifs]
    obtain ⟨e, h5, h6⟩ := iter_inv (f := fun s : Int => F_slices_Compact_api_Cube_L1 fu a s)
      (fun j s => s = (j : Int) ∧ 1 ≤ j ∧ ∀ i, 1 ≤ i → i < j → eqc (a.2 i) (a.2 (i - 1)) = false)
      (fun e => match e with | .inl _ => ∀ i, 1 ≤ i → i < a.1 → eqc (a.2 i) (a.2 (i - 1)) = false | .inr r => ls r = chs (newc a.2) a.2 a.1) a.1
      (fun j s hj ⟨e1, e2, e3⟩ => by
        subst e1
        simp only
        rw [compact_L1 hm e2 hj]
        cases hc : eqc (a.2 j) (a.2 (j - 1)) with
        | false =>
          refine .inl ⟨_, rfl, rfl, by omega, fun i h1 hi => ?_⟩
          by_cases he : i = j
          · rw [he]; exact hc
          · exact e3 i h1 (by omega)
        | true =>
          right
          obtain ⟨e', h7, h8⟩ := iter_inv (f := fun s : Int × Int × Cs => F_slices_Compact_api_Cube_L2 fu a j (a.1 - j) s.1 s.2.1 s.2.2)
            (fun i s => 1 ≤ i ∧ ∃ (k : Nat) (f : Nat → S_api_Cube), s = ((k : Int), (i : Int), (a.1, f)) ∧ k < j + i ∧ (∀ x, j + i - 1 ≤ x → f x = a.2 x) ∧ ls (k, f) = chs (newc a.2) a.2 (j + i))
            (fun e => ∃ (k : Nat) (f : Nat → S_api_Cube), e = .inl ((k : Int), (a.1, f)) ∧ k ≤ a.1 ∧ ls (k, f) = chs (newc a.2) a.2 a.1) (a.1 - j)
            (fun i s hi ⟨i1, k, f, es, hk, hf, hl⟩ => .inl (by
              subst es
              simp only
              rw [compact_L2 hm i1 (by omega) hk]
              have q1 : f (j + i) = a.2 (j + i) := hf _ (by omega)
              have q2 : f (j + (i - 1)) = a.2 (j + i - 1) := by
                rw [show j + (i - 1) = j + i - 1 by omega]; exact hf _ (Nat.le_refl _)
              rw [q1, q2]
              have qs : newc a.2 (j + i) = !eqc (a.2 (j + i)) (a.2 (j + i - 1)) := by
                unfold newc
                rw [show (j + i == 0) = false by rw [beq_eq_false_iff_ne]; omega]; rfl
              cases hq : eqc (a.2 (j + i)) (a.2 (j + i - 1)) with
              | true =>
                refine ⟨_, rfl, by omega, k, f, rfl, by omega, fun x hx => hf x (by omega), ?_⟩
                rw [show j + (i + 1) = j + i + 1 by omega, chs_succ, qs, hq, hl]; simp
              | false =>
                refine ⟨_, rfl, by omega, k + 1, _, rfl, by omega, fun x hx => ?_, ?_⟩
                · rw [if_neg (by omega)]; exact hf x (by omega)
                · rw [ls_set, show j + (i + 1) = j + i + 1 by omega, chs_succ, qs, hq, hl]; rfl))
            (fun s ⟨i1, k, f, es, hk, hf, hl⟩ => by
              subst es
              refine ⟨((k : Int), (a.1, f)), ?_, k, f, rfl, by omega, by rw [hl]; congr 1; omega⟩
              simp only [F_slices_Compact_api_Cube_L2]
              rw [decide_eq_false (by omega)]; rfl)
            (a.1 - j - 1) 1 fu ((j : Int), (1 : Int), a) (by omega) (by omega) ⟨by omega, j, a.2, rfl, by omega, fun _ _ => rfl, by
              rw [chs_succ]
              have : newc a.2 j = false := by
                unfold newc
                rw [show (j == 0) = false by rw [beq_eq_false_iff_ne]; omega, hc]; rfl
              rw [this, chs_all fun i hi => ?_]
              · simp
              · rw [newc_iff]
                by_cases h0 : i = 0
                · exact .inl h0
                · exact .inr (e3 i (by omega) hi)⟩
          obtain ⟨k, f, rfl, hk, hl⟩ := h8
          rw [h7]
          simp only [after, ifs]
          rw [chk_t (by omega), chk_t (by omega), chk_t (by omega), chk_t (by omega)]
          refine ⟨_, rfl, ?_⟩
          rw [← hl]
          show ls ((k : Int).toNat - (0 : Int).toNat, _) = _
          rw [show (k : Int).toNat - (0 : Int).toNat = k by simp]
          exact ls_eq fun x hx => by rw [if_neg (by omega)])
      (fun s ⟨e1, e2, e3⟩ => by
        subst e1
        refine ⟨(), ?_, e3⟩
        simp only [F_slices_Compact_api_Cube_L1]
        rw [decide_eq_false (by omega)]; rfl)
      (a.1 - 1) 1 fu (1 : Int) (by omega) (by omega) ⟨rfl, by omega, fun i h1 hi => by omega⟩
    rw [h5]
    cases e with
    | inl e =>
      refine ⟨a, rfl, (chs_all fun i hi => ?_).symm⟩
      rw [newc_iff]
      by_cases h0 : i = 0
      · exact .inl h0
      · exact .inr (h6 i (by omega) hi)
    | inr r => exact ⟨r, rfl, h6⟩

/-! ### Lean -/

def cov2 (c d : S_api_Cube) : Bool := !eqc d c && wn c d

theorem lean2_eq {fu : Nat} (hf : 13 ≤ fu) {d c : S_api_Cube} (hd : UC d) (hc : UC c) : F_space_Lean_2 fu d c = some (cov2 c d) := by
  have e : F_space_Lean_2 fu d c = (callIf (!eqc d c) (F_cube_Within fu c d) false).bind fun r0 => some (bif !eqc d c then r0 else false) := rfl
  rw [e, cube_within hf hc hd]
  unfold cov2 wn
  cases eqc d c <;> rfl

theorem contains2 {fu : Nat} (hf : 13 ≤ fu) {a : Cs} (ha : UCs a) (hn : a.1 < fu) (hm : a.1 ≤ 100000) {c : S_api_Cube} (hc : UC c) : F_slices_ContainsFunc_api_Cube_space_Lean_2 fu a c = some ((List.range a.1).any fun j => cov2 c (a.2 j)) := by
  unfold F_slices_ContainsFunc_api_Cube_space_Lean_2 F_slices_IndexFunc_api_Cube_space_Lean_2
  have : iter (fun s => F_slices_IndexFunc_api_Cube_space_Lean_2_L1 fu a c ((a.1 : Nat) : Int) s) fu ((fun i : Nat => (i : Int)) 0) = _ :=
    iter_scan (fun i : Nat => (i : Int)) (fun i => !cov2 c (a.2 i)) (fun i => (i : Int)) (e := ()) a.1 0 fu hn (fun i _ h2 => by
      unfold F_slices_IndexFunc_api_Cube_space_Lean_2_L1
      rw [decide_eq_true (show (i : Int) < (a.1 : Int) by omega), ifs, chk_t (by omega), Int.toNat_natCast, lean2_eq hf (ha i (by omega)) hc, Option.bind_some, wrap_succ (by omega)]
      cases cov2 c (a.2 i) <;> rfl) (by
      rw [Nat.zero_add]
      unfold F_slices_IndexFunc_api_Cube_space_Lean_2_L1
      rw [decide_eq_false (by omega)]; rfl)
  rw [show (0 : Int) = (fun i : Nat => (i : Int)) 0 from rfl, this]
  cases h : stopAt (fun j => !cov2 c (a.2 j)) a.1 0 with
  | none =>
    have h2 := (stopAt_all a.1 0).1 h
    simp only [after, Option.bind_some, Option.some.injEq]
    rw [decide_eq_false (by decide)]
    symm
    rw [List.any_eq_false]
    intro i hi
    have := h2 i (by simpa using hi)
    simpa using this
  | some m =>
    obtain ⟨_, h2, h3, _⟩ := stopAt_some h
    simp only [after, Option.bind_some, Option.some.injEq]
    rw [decide_eq_true (by omega)]
    symm
    rw [List.any_eq_true]
    exact ⟨m, by simpa using h2, by simpa using h3⟩

theorem any_split (p : Nat → Bool) {j n : Nat} (h : j ≤ n) : (List.range n).any p = ((List.range j).any p || (List.range (n - j)).any fun i => p (j + i)) := by
  obtain ⟨m, rfl⟩ : ∃ m, n = j + m := ⟨n - j, by omega⟩
  rw [List.range_add, List.any_append, List.any_map, Nat.add_sub_cancel_left]
  rfl

theorem lean_L1 {fu : Nat} (hf : 13 ≤ fu) {a : Cs} (ha : UCs a) (hn : a.1 < fu) (hm : a.1 ≤ 100000) : ∃ r, iter (fun s => F_space_Lean_L1 fu ((a.1 : Nat) : Int) a s.1 s.2) fu ((0 : Int), (0, (fun _ => (S_api_Cube.mk (fun _ => 0) (fun _ => 0))))) = some (.inl r) ∧ ls r = (ls a).filter fun c => !(ls a).any (cov2 c) := by
  have hany : ∀ c, (ls a).any (cov2 c) = (List.range a.1).any fun i => cov2 c (a.2 i) := fun c => by unfold ls; rw [List.any_map]; rfl
  obtain ⟨e, h5, h6⟩ := iter_inv (f := fun s : Int × Cs => F_space_Lean_L1 fu ((a.1 : Nat) : Int) a s.1 s.2)
    (fun j s => s.1 = (j : Int) ∧ s.2.1 ≤ j ∧ ls s.2 = chs (fun i => !(ls a).any (cov2 (a.2 i))) a.2 j)
    (fun e => ∃ r, e = .inl r ∧ ls r = chs (fun i => !(ls a).any (cov2 (a.2 i))) a.2 a.1) a.1
    (fun j s hj ⟨e1, e2, e3⟩ => .inl (by
      obtain ⟨s1, m⟩ := s
      simp only at e1 e2 e3
      subst e1
      simp only [F_space_Lean_L1]
      rw [decide_eq_true (show (j : Int) < (a.1 : Int) by omega), ifs, wrap_succ (i := j) (by omega)]
      simp only [Int.toNat_natCast, show ((0 : Int)).toNat = 0 from rfl, Nat.zero_add, Nat.sub_zero]
      rw [chk_t (by omega), chk_t (by omega), chk_t (by omega), contains2 hf (a := (j, fun i => a.2 i)) (fun i hi => ha i (by have : i < j := hi; omega)) (show j < fu by omega) (show j ≤ 100000 by omega) (ha j hj), Option.bind_some,
        chk_t (by omega), chk_t (fun _ => by omega), contains2 hf (a := (a.1 - j, fun i => a.2 (j + i))) (fun i hi => ha (j + i) (by have : i < a.1 - j := hi; omega)) (show a.1 - j < fu by omega) (show a.1 - j ≤ 100000 by omega) (ha j hj)]
      have hs := any_split (fun i => cov2 (a.2 j) (a.2 i)) (Nat.le_of_lt hj)
      rw [← hany] at hs
      simp only
      generalize hA : ((List.range j).any fun i => cov2 (a.2 j) (a.2 i)) = A at hs ⊢
      generalize hB : ((List.range (a.1 - j)).any fun i => cov2 (a.2 j) (a.2 (j + i))) = B at hs ⊢
      cases A with
      | true =>
        refine ⟨((j + 1 : Nat), m), rfl, rfl, show m.1 ≤ j + 1 by omega, ?_⟩
        rw [chs_succ, hs, e3]; simp
      | false =>
        simp only [Bool.not_false, callIf, Option.bind_some]
        rw [chk_t (fun _ => by omega)]
        cases B with
        | true =>
          refine ⟨((j + 1 : Nat), m), rfl, rfl, show m.1 ≤ j + 1 by omega, ?_⟩
          rw [chs_succ, hs, e3]; simp
        | false =>
          simp only [Bool.not_false, cond_true]
          rw [chk_t (room_ok (by omega) (by omega))]
          refine ⟨_, rfl, rfl, Nat.succ_le_succ e2, ?_⟩
          rw [chs_succ, hs]
          exact (ls_push e3)))
    (fun s ⟨e1, e2, e3⟩ => by
      obtain ⟨s1, m⟩ := s
      simp only at e1 e2 e3
      subst e1
      refine ⟨m, ?_, m, rfl, e3⟩
      simp only [F_space_Lean_L1]
      rw [decide_eq_false (by omega)]; rfl)
    a.1 0 fu ((0 : Int), (0, (fun _ => (S_api_Cube.mk (fun _ => 0) (fun _ => 0))))) (by omega) hn ⟨rfl, Nat.le_refl _, rfl⟩
  obtain ⟨r, rfl, h7⟩ := h6
  exact ⟨r, h5, h7.trans (chs_filter (fun c => !(ls a).any (cov2 c)) a.2 a.1)⟩

theorem lean_ok {fu : Nat} (hf : 13 ≤ fu) {a : Cs} (ha : UCs a) (hn : a.1 < fu) (hm : a.1 ≤ 100000) : ∃ r, F_space_Lean fu a = some r ∧ Lnd (ls a) (ls r) ∧ r.1 ≤ a.1 := by
  unfold F_space_Lean F_slices_Clone_api_Cube
  rw [chk_t (room_ok (by omega) (by omega)), Option.bind_some]
  obtain ⟨r1, k1, k2⟩ := del_ok hf ha hn hm
  have hl1 : r1.1 ≤ a.1 := by
    have := List.length_filter_le snd (ls a)
    rw [← k2, ls_len, ls_len] at this; exact this
  obtain ⟨f, k3, k4, k5⟩ := sort_ok r1 (by omega)
  have hG : ∀ c ∈ ls a, UC c := fun c hc => by
    obtain ⟨i, hi, rfl⟩ := ls_mem.1 hc
    exact ha i hi
  have hp : (ls (r1.1, f)).Perm ((ls a).filter snd) := by rw [← k2]; exact k4
  obtain ⟨r3, k6, k7⟩ := compact_ok (fu := fu) (a := (r1.1, f)) (show r1.1 < fu by omega) (show r1.1 ≤ 100000 by omega)
  have hl3 : r3.1 ≤ r1.1 := by
    have := chs_len (newc f) f r1.1
    rw [← k7, ls_len] at this; exact this
  have hu3 : UCs r3 := fun i hi => by
    have hm : r3.2 i ∈ ls r3 := ls_mem.2 ⟨i, hi, rfl⟩
    rw [k7] at hm
    obtain ⟨j, hj, _, e⟩ := chs_mem.1 hm
    rw [← e]
    exact hG _ (List.mem_filter.1 (hp.mem_iff.1 (ls_mem.2 ⟨j, hj, rfl⟩))).1
  obtain ⟨r, k8, k9⟩ := lean_L1 hf hu3 (by omega) (by omega)
  have hlr : r.1 ≤ a.1 := by
    have := List.length_filter_le (fun c => !(ls r3).any (cov2 c)) (ls r3)
    rw [← k9, ls_len, ls_len] at this; omega
  refine ⟨r, ?_, ?_, hlr⟩
  · rw [k1, Option.bind_some, k3, Option.bind_some, k6, Option.bind_some, k8]; rfl
  · refine Thin.mk' tot cov hG hp k5 (fun i _ => newc_iff f i) k7 (keep := fun c => !(ls r3).any (cov2 c)) (fun c hc => ?_) k9
    rw [Bool.not_eq_true', List.any_eq_false]
    constructor
    · intro h d hd hw
      have := h d hd
      unfold cov2 at this
      rw [hw] at this
      simpa using this
    · intro h d hd
      unfold cov2
      cases hw : wn c d with
      | false => simp
      | true => rw [h d hd hw]; simp

end Go.Proofs.Ytlgkjdjgockkfaa
