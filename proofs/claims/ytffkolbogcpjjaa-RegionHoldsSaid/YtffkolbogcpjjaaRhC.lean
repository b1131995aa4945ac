/- Rules as plain functions: Sort, Touched, Apply, Alone. -/
import Derived.Test.YtffkolbogcpjjaaRhB
namespace Go.Proofs.Ytffkolbogcpjjaa
open Go Go.Pod Go.Proofs Go.Sort Go.Shelf

theorem sort_L1 {fu : Nat} (hf : 300 ≤ fu) {L out : Ru} {j : Nat} (hj : j < L.1) (hL : L.1 ≤ 100) (ho : out.1 ≤ j) (hr : F_ref04_Rule fu (L.2 j) = some true) :
    ∃ (r : Ru) (k k' : Nat), F_ref04_Sort_L1 fu L out (j : Int) = some (.next (r, ((j + 1 : Nat) : Int))) ∧ k ≤ out.1 ∧ (k' = k ∨ (k' = k + 1 ∧ k < out.1 ∧ kk (out.2 k) (L.2 j) = true)) ∧ ls r = ls (k, out.2) ++ [L.2 j] ++ ls (out.1 - k', fun i => out.2 (k' + i)) ∧ r.1 ≤ j + 1 := by
  unfold F_ref04_Sort_L1
  obtain ⟨k, hk, q1⟩ := sort_L2 hf L out hj (by omega) (by omega)
  rw [decide_eq_true (show (j : Int) < (L.1 : Int) by omega), ifs, chk_t (by omega), Int.toNat_natCast, hr, Option.bind_some]
  simp only [Bool.not_true, ifs]
  rw [q1]
  simp only [after, Int.toNat_natCast, show ((0 : Int)).toNat = 0 from rfl, show ((1 : Int)).toNat = 1 from rfl, Nat.zero_add]
  rw [chk_t (show 0 ≤ (k : Int) ∧ (k : Int) ≤ ((out.1 : Nat) : Int) ∧ ((out.1 : Nat) : Int) ≤ ((out.1 : Nat) : Int) by omega), chk_t (room_big (by omega) (by omega)), chk_t (fun h => by have := decide_eq_true_iff.1 h; omega), chk_t (fun _ => by omega), kk_eq]
  by_cases h0 : out.1 - k > 0
  · rw [decide_eq_true (show ((out.1 - k : Nat) : Int) > 0 by omega)]
    simp only [callIf, Option.bind_some, cond_true]
    have e0 : (if 0 < 0 then (fun i => ([] : List S_api_Rule).getD i S_api_Rule.z) 0 else (fun i => out.2 (k + i)) (0 - 0)) = out.2 k := rfl
    have e1 : kk (if 0 < 0 then ([] : List S_api_Rule).getD 0 S_api_Rule.z else out.2 (k + (0 - 0))) (L.2 j) = kk (out.2 k) (L.2 j) := rfl
    rw [e1]
    cases hc : kk (out.2 k) (L.2 j) with
    | true =>
      simp only
      rw [chk_t (by omega)]
      obtain ⟨r, p1, p2, p3⟩ := sort_J1 (fu := fu) (L := L) (out := out) (j := j) (k := k) (t6 := (out.1 - k - 1, fun i => (fun i => if i < 0 then (fun i => ([] : List S_api_Rule).getD i S_api_Rule.z) i else (fun i => out.2 (k + i)) (i - 0)) (1 + i))) hj (by omega) hk (by omega) (show out.1 - k - 1 ≤ 100 by omega)
      refine ⟨r, k, k + 1, p1, hk, .inr ⟨rfl, by omega, hc⟩, ?_, by rw [p3]; show k + 1 + (out.1 - k - 1) ≤ j + 1; omega⟩
      rw [p2]
      congr 1
      rw [show out.1 - k - 1 = out.1 - (k + 1) by omega]
      exact ls_eq fun i _ => by
        show out.2 (k + (1 + i)) = out.2 (k + 1 + i)
        rw [Nat.add_assoc]
    | false =>
      simp only
      obtain ⟨r, p1, p2, p3⟩ := sort_J1 (fu := fu) (L := L) (out := out) (j := j) (k := k) (t6 := (out.1 - k, fun i => if i < 0 then (fun i => ([] : List S_api_Rule).getD i S_api_Rule.z) i else (fun i => out.2 (k + i)) (i - 0))) hj (by omega) hk (by omega) (show out.1 - k ≤ 100 by omega)
      refine ⟨r, k, k, p1, hk, .inl rfl, ?_, by rw [p3]; show k + 1 + (out.1 - k) ≤ j + 1; omega⟩
      rw [p2]
      congr 1
  · rw [decide_eq_false (show ¬ ((out.1 - k : Nat) : Int) > 0 by omega)]
    simp only [callIf, Option.bind_some, cond_false]
    obtain ⟨r, p1, p2, p3⟩ := sort_J1 (fu := fu) (L := L) (out := out) (j := j) (k := k) (t6 := (out.1 - k, fun i => if i < 0 then (fun i => ([] : List S_api_Rule).getD i S_api_Rule.z) i else (fun i => out.2 (k + i)) (i - 0))) hj (by omega) hk (by omega) (show out.1 - k ≤ 100 by omega)
    refine ⟨r, k, k, p1, hk, .inl rfl, ?_, by rw [p3]; show k + 1 + (out.1 - k) ≤ j + 1; omega⟩
    rw [p2]
    congr 1

/-- Sort only loses what has the key of a later one. -/
theorem sort_ru {fu : Nat} (hf : 300 ≤ fu) {L : Ru} (hu : URu L) (hL : L.1 ≤ 100) (hl : ∀ i, i < L.1 → (L.2 i).f2.1 < fu ∧ (L.2 i).f2.1 ≤ 9223372036854775807) :
    ∃ r : Ru, F_ref04_Sort fu L = some r ∧ (∀ c ∈ ls r, c ∈ ls L) ∧ (∀ i, i < L.1 → F_ref04_Rule fu (L.2 i) = some true → ∃ i', i ≤ i' ∧ i' < L.1 ∧ kk (L.2 i) (L.2 i') = true ∧ L.2 i' ∈ ls r) ∧ r.1 ≤ L.1 := by
  unfold F_ref04_Sort
  obtain ⟨e, h1, r, rfl, h2, h3, h4⟩ := iter_inv (f := fun s : Ru × Int => F_ref04_Sort_L1 fu L s.1 s.2)
    (fun j s => s.2 = (j : Int) ∧ s.1.1 ≤ j ∧ (∀ c ∈ ls s.1, c ∈ ls L) ∧ ∀ i, i < j → F_ref04_Rule fu (L.2 i) = some true → ∃ i', i ≤ i' ∧ i' < j ∧ kk (L.2 i) (L.2 i') = true ∧ L.2 i' ∈ ls s.1)
    (fun e => ∃ r : Ru, e = .inl r ∧ (∀ c ∈ ls r, c ∈ ls L) ∧ (∀ i, i < L.1 → F_ref04_Rule fu (L.2 i) = some true → ∃ i', i ≤ i' ∧ i' < L.1 ∧ kk (L.2 i) (L.2 i') = true ∧ L.2 i' ∈ ls r) ∧ r.1 ≤ L.1) L.1
    (fun j s hj ⟨e1, e2, e3, e4⟩ => .inl (by
      obtain ⟨out, s2⟩ := s
      simp only at e1 e2 e3 e4
      subst e1
      simp only
      obtain ⟨b, q1, _⟩ := rule_ok hf (hu j hj) (hl j hj).1 (hl j hj).2
      cases b with
      | false =>
        refine ⟨(out, ((j + 1 : Nat) : Int)), ?_, rfl, show out.1 ≤ j + 1 by omega, e3, fun i hi hr => ?_⟩
        · unfold F_ref04_Sort_L1
          rw [decide_eq_true (show (j : Int) < (L.1 : Int) by omega), ifs, chk_t (by omega), Int.toNat_natCast, q1, Option.bind_some, wrap_succ (i := j) (by omega)]
          rfl
        · by_cases e : i = j
          · subst e; rw [q1] at hr; cases hr
          · obtain ⟨i', g1, g2, g3, g4⟩ := e4 i (by omega) hr
            exact ⟨i', g1, by omega, g3, g4⟩
      | true =>
        obtain ⟨r, k, k', p1, p2, p3, p4, p5⟩ := sort_L1 hf hj hL e2 q1
        refine ⟨(r, ((j + 1 : Nat) : Int)), p1, rfl, p5, fun c hc => ?_, fun i hi hr => ?_⟩
        · simp only [p4, List.mem_append, List.mem_singleton] at hc
          rcases hc with (hc | rfl) | hc
          · obtain ⟨p, hp, rfl⟩ := ls_mem.1 hc
            exact e3 _ (ls_mem.2 ⟨p, by simp only at hp; omega, rfl⟩)
          · exact ls_mem.2 ⟨j, hj, rfl⟩
          · obtain ⟨p, hp, rfl⟩ := ls_mem.1 hc
            exact e3 _ (ls_mem.2 ⟨k' + p, by simp only at hp; omega, rfl⟩)
        · simp only [p4, List.mem_append, List.mem_singleton]
          by_cases e : i = j
          · subst e; exact ⟨i, Nat.le_refl _, by omega, kk_refl _, .inl (.inr rfl)⟩
          · obtain ⟨i', g1, g2, g3, g4⟩ := e4 i (by omega) hr
            obtain ⟨p, hp, hpe⟩ := ls_mem.1 g4
            by_cases h5 : p < k
            · exact ⟨i', g1, by omega, g3, .inl (.inl (ls_mem.2 ⟨p, h5, hpe⟩))⟩
            · by_cases h6 : k' ≤ p
              · exact ⟨i', g1, by omega, g3, .inr (ls_mem.2 ⟨p - k', by simp only; omega, by simp only; rw [show k' + (p - k') = p by omega]; exact hpe⟩)⟩
              · rcases p3 with p3 | ⟨p3, _, p6⟩
                · omega
                · have : p = k := by omega
                  subst this
                  rw [hpe] at p6
                  exact ⟨j, by omega, by omega, kk_trans g3 p6, .inl (.inr rfl)⟩))
    (fun s ⟨e1, e2, e3, e4⟩ => by
      obtain ⟨out, s2⟩ := s
      simp only at e1 e2 e3 e4
      subst e1
      refine ⟨out, ?_, out, rfl, e3, e4, e2⟩
      simp only [F_ref04_Sort_L1]
      rw [decide_eq_false (by omega)]; rfl)
    L.1 0 fu ((0, (fun _ => S_api_Rule.z)), (0 : Int)) (by omega) (by omega) ⟨rfl, Nat.le_refl _, (fun c hc => by cases hc), fun i hi => by omega⟩
  rw [h1]
  exact ⟨r, rfl, h2, h3, h4⟩

/-! ### Equal, Alone -/

theorem same_ok {fu : Nat} {a b : Nat × (Nat → S_api_Act)} (hn : a.1 < fu) (hm : a.1 ≤ 100) : ∃ v, F_ref04_SameActs fu a b = some v ∧ (a = b → v = true) := by
  unfold F_ref04_SameActs
  by_cases hl : a.1 = b.1
  · rw [hl, bne_self_eq_false, ifs]
    obtain ⟨e, h1, h2⟩ := iter_inv (f := fun s : Int => F_ref04_SameActs_L1 fu a b s) (fun j s => s = (j : Int)) (fun e => match e with | .inl _ => True | .inr r => r = false ∧ a ≠ b) a.1
      (fun j s hj es => by
        subst es
        simp only [F_ref04_SameActs_L1]
        rw [decide_eq_true (show (j : Int) < (a.1 : Int) by omega), ifs, chk_t (by omega), chk_t (by omega), Int.toNat_natCast, wrap_succ (i := j) (by omega)]
        cases hc : (((a.2 j).f0 == (b.2 j).f0) && (((a.2 j).f1 == (b.2 j).f1) && (((a.2 j).f2 == (b.2 j).f2) && (((a.2 j).f3 == (b.2 j).f3) && true)))) with
        | true => exact .inl ⟨_, rfl, rfl⟩
        | false => exact .inr ⟨false, rfl, rfl, fun e => by subst e; simp at hc⟩)
      (fun s es => by
        subst es
        refine ⟨(), ?_, trivial⟩
        simp only [F_ref04_SameActs_L1]
        rw [decide_eq_false (by omega)]; rfl)
      a.1 0 fu (0 : Int) (by omega) hn rfl
    rw [h1]
    cases e with
    | inl e => exact ⟨true, rfl, fun _ => rfl⟩
    | inr r => exact ⟨r, rfl, fun e => absurd e h2.2⟩
  · rw [bne_iff_ne.2 (show ((a.1 : Nat) : Int) ≠ ((b.1 : Nat) : Int) by omega), ifs]
    exact ⟨false, rfl, fun e => by subst e; exact absurd rfl hl⟩

theorem equal_ok {fu : Nat} {a b : S_api_Rule} (hn : a.f2.1 < fu) (hm : a.f2.1 ≤ 100) : ∃ v, F_ref04_Equal fu a b = some v ∧ (a = b → v = true) := by
  unfold F_ref04_Equal
  obtain ⟨v, h1, h2⟩ := same_ok (b := b.f2) hn hm
  rw [kk_eq, Option.bind_some, h1, callIf_b, Option.bind_some]
  refine ⟨_, rfl, fun e => ?_⟩
  subst e
  rw [h2 rfl, kk_refl]
  simp

theorem alone_L2 {fu : Nat} {a b m : Ru} {i : Nat} (hi : i < a.1) (hn : b.1 < fu) (hb : b.1 ≤ 1000) (hl : (a.2 i).f2.1 < fu ∧ (a.2 i).f2.1 ≤ 100) :
    ∃ v, iter (fun s => F_ref04_Alone_L2 fu a b (i : Int) m s.1 s.2) fu (false, (0 : Int)) = some (.inl v) ∧ (a.2 i ∈ ls b → v = true) := by
  obtain ⟨e, h1, v, rfl, h2⟩ := iter_inv (f := fun s : Bool × Int => F_ref04_Alone_L2 fu a b (i : Int) m s.1 s.2)
    (fun j s => s.2 = (j : Int) ∧ ∀ k, k < j → b.2 k = a.2 i → s.1 = true)
    (fun e => ∃ v, e = .inl v ∧ (a.2 i ∈ ls b → v = true)) b.1
    (fun j s hj ⟨e1, e2⟩ => .inl (by
      obtain ⟨v, s2⟩ := s
      simp only at e1 e2
      subst e1
      simp only [F_ref04_Alone_L2]
      rw [decide_eq_true (show (j : Int) < (b.1 : Int) by omega), ifs, chk_t (fun _ => by omega), chk_t (fun _ => by omega), Int.toNat_natCast, Int.toNat_natCast, wrap_succ (i := j) (by omega)]
      cases v with
      | true => exact ⟨_, rfl, rfl, fun _ _ _ => rfl⟩
      | false =>
        obtain ⟨w, q1, q2⟩ := equal_ok (b := b.2 j) hl.1 hl.2
        simp only [Bool.not_false, callIf]
        rw [q1, Option.bind_some]
        refine ⟨_, rfl, rfl, fun k hk he => ?_⟩
        by_cases e : k = j
        · subst e; exact q2 he.symm
        · exact absurd (e2 k (by omega) he) (by simp)))
    (fun s ⟨e1, e2⟩ => by
      obtain ⟨v, s2⟩ := s
      simp only at e1 e2
      subst e1
      refine ⟨v, ?_, v, rfl, fun h => ?_⟩
      · simp only [F_ref04_Alone_L2]
        rw [decide_eq_false (by omega)]; rfl
      · obtain ⟨k, hk, he⟩ := ls_mem.1 h
        exact e2 k hk he)
    b.1 0 fu (false, (0 : Int)) (by omega) hn ⟨rfl, fun k hk => by omega⟩
  exact ⟨v, h1, h2⟩

theorem alone_ok {fu : Nat} {a b : Ru} (hn : a.1 < fu ∧ b.1 < fu) (hb : a.1 ≤ 1000 ∧ b.1 ≤ 1000) (hl : ∀ i, i < a.1 → (a.2 i).f2.1 < fu ∧ (a.2 i).f2.1 ≤ 100) : ∃ r : Ru, F_ref04_Alone fu a b = some r ∧ (∀ c ∈ ls r, c ∈ ls a ∧ c ∉ ls b) ∧ r.1 ≤ a.1 := by
  unfold F_ref04_Alone
  obtain ⟨e, h1, r, rfl, h2, h3⟩ := iter_inv (f := fun s : Int × Ru => F_ref04_Alone_L1 fu a b s.1 s.2)
    (fun j s => s.1 = (j : Int) ∧ s.2.1 ≤ j ∧ ∀ c ∈ ls s.2, c ∈ ls a ∧ c ∉ ls b)
    (fun e => ∃ r : Ru, e = .inl r ∧ (∀ c ∈ ls r, c ∈ ls a ∧ c ∉ ls b) ∧ r.1 ≤ a.1) a.1
    (fun j s hj ⟨e1, e2, e3⟩ => .inl (by
      obtain ⟨s1, m⟩ := s
      simp only at e1 e2 e3
      subst e1
      simp only [F_ref04_Alone_L1]
      obtain ⟨v, q1, q2⟩ := alone_L2 (m := m) hj hn.2 hb.2 (hl j hj)
      rw [decide_eq_true (show (j : Int) < (a.1 : Int) by omega), ifs, q1, wrap_succ (i := j) (by omega)]
      simp only [after]
      cases v with
      | true => exact ⟨((j + 1 : Nat), m), rfl, rfl, show m.1 ≤ j + 1 by omega, e3⟩
      | false =>
        simp only [Bool.not_false, ifs]
        rw [chk_t (by omega), chk_t (room_big (by omega) (by omega)), Int.toNat_natCast]
        refine ⟨_, rfl, rfl, show m.1 + 1 ≤ j + 1 by omega, fun c hc => ?_⟩
        rw [show ls (m.1 + 1, fun i => if i < m.1 then m.2 i else (fun i => ([a.2 j] : List S_api_Rule).getD i S_api_Rule.z) (i - m.1)) = ls m ++ [a.2 j] from ls_push rfl] at hc
        rcases List.mem_append.1 hc with h | h
        · exact e3 c h
        · rw [List.mem_singleton.1 h]
          exact ⟨ls_mem.2 ⟨j, hj, rfl⟩, fun hb => by have := q2 hb; cases this⟩))
    (fun s ⟨e1, e2, e3⟩ => by
      obtain ⟨s1, m⟩ := s
      simp only at e1 e2 e3
      subst e1
      refine ⟨m, ?_, m, rfl, e3, e2⟩
      simp only [F_ref04_Alone_L1]
      rw [decide_eq_false (by omega)]; rfl)
    a.1 0 fu ((0 : Int), (0, (fun _ => S_api_Rule.z))) (by omega) hn.1 ⟨rfl, Nat.le_refl _, fun c hc => by cases hc⟩
  rw [h1]
  exact ⟨r, rfl, h2, h3⟩

/-! ### Touched -/

def tch (m : S_api_Mod) (c : S_api_Rule) : Bool := (c.f5 == m.f6) && (bif (m.f0 == (2 : Int)) || (m.f0 == (3 : Int)) then wn c.f0 m.f1 else bif (m.f0 == (4 : Int)) || (m.f0 == (5 : Int)) then (eqc c.f0 m.f1 && (c.f1 == m.f2)) else false)

theorem tch_wn {m : S_api_Mod} {c : S_api_Rule} (hm : UC m.f1) (hc : UC c.f0) (sc : snd c.f0 = true) (h : tch m c = true) : wn c.f0 m.f1 = true := by
  unfold tch at h
  obtain ⟨_, h⟩ := Bool.and_eq_true_iff.1 h
  cases h1 : (m.f0 == (2 : Int)) || (m.f0 == (3 : Int)) with
  | true => rw [h1] at h; exact h
  | false =>
    rw [h1] at h
    simp only [cond_false] at h
    cases h2 : (m.f0 == (4 : Int)) || (m.f0 == (5 : Int)) with
    | true =>
      rw [h2] at h
      simp only [cond_true, Bool.and_eq_true] at h
      exact wn_le hc hm h.1 sc
    | false => rw [h2] at h; cases h

/-- The places from one on that are touched. -/
def rl (m : S_api_Mod) (l : Nat → S_api_Rule) : Nat → Nat → List Int
  | 0, _ => []
  | k + 1, j => (if tch m (l j) then [(j : Int)] else []) ++ rl m l k (j + 1)

theorem rl_ge {m : S_api_Mod} {l : Nat → S_api_Rule} : ∀ (k j : Nat) (x : Int), x ∈ rl m l k j → (j : Int) ≤ x
  | 0, j, x, h => by cases h
  | k + 1, j, x, h => by
    simp only [rl, List.mem_append] at h
    rcases h with h | h
    · split at h
      · rw [List.mem_singleton.1 h]; exact Int.le_refl _
      · cases h
    · have := rl_ge k (j + 1) x h; omega

theorem touched_L1 {fu : Nat} (hf : 300 ≤ fu) {l : Ru} (hu : URu l) {m : S_api_Mod} (hm : UC m.f1) (hM : F_ref04_Mod fu m = some true) {j : Nat} (hj : j < l.1) (hl : l.1 ≤ 100) {r : Nat × (Nat → Int)} (hr : r.1 ≤ j) :
    ∃ r' : Nat × (Nat → Int), F_ref04_Touched_L1 fu l m (j : Int) r = some (.next (((j + 1 : Nat) : Int), r')) ∧ ls r' = ls r ++ (if tch m (l.2 j) then [(j : Int)] else []) ∧ r'.1 ≤ j + 1 := by
  have J2 : ∀ b : Bool, ∃ r' : Nat × (Nat → Int), F_ref04_Touched_J2 fu l m (j : Int) b r = some (.next (((j + 1 : Nat) : Int), r')) ∧ ls r' = ls r ++ (if b then [(j : Int)] else []) ∧ r'.1 ≤ j + 1 := fun b => by
    unfold F_ref04_Touched_J2
    rw [hM, callIf_b, Option.bind_some, wrap_succ (i := j) (by omega)]
    cases b with
    | true =>
      simp only [Bool.and_true, cond_true, ifs]
      rw [chk_t (room_big (by omega) (by omega))]
      exact ⟨_, rfl, ls_push rfl, show r.1 + 1 ≤ j + 1 by omega⟩
    | false => exact ⟨r, rfl, by simp, by omega⟩
  have J3 : ∀ t t' : Bool, ∃ r' : Nat × (Nat → Int), F_ref04_Touched_J3 fu l m (j : Int) t t' r (l.2 j) = some (.next (((j + 1 : Nat) : Int), r')) ∧ ls r' = ls r ++ (if (t' && (bif (bif t then eqc (l.2 j).f0 m.f1 else false) then ((l.2 j).f1 == m.f2) else false)) then [(j : Int)] else []) ∧ r'.1 ≤ j + 1 := fun t t' => by
    unfold F_ref04_Touched_J3
    cases t' with
    | true => exact J2 _
    | false => exact J2 false
  have J1 : ∀ t t' : Bool, ∃ r' : Nat × (Nat → Int), F_ref04_Touched_J1 fu l m (j : Int) t m.f0 t' r (l.2 j) = some (.next (((j + 1 : Nat) : Int), r')) ∧ ls r' = ls r ++ (if (bif t' then (bif t then wn (l.2 j).f0 m.f1 else false) else ((m.f0 == 4 || m.f0 == 5) && (bif (bif t then eqc (l.2 j).f0 m.f1 else false) then ((l.2 j).f1 == m.f2) else false))) then [(j : Int)] else []) ∧ r'.1 ≤ j + 1 := fun t t' => by
    unfold F_ref04_Touched_J1
    cases t' with
    | true =>
      simp only [ifs]
      rw [ref_wn hf (hu j hj) hm, callIf_b, Option.bind_some]
      have := J2 (bif t then (t && wn (l.2 j).f0 m.f1) else false)
      cases t <;> exact this
    | false =>
      simp only [ifs]
      cases h4 : (m.f0 == (4 : Int)) with
      | true => exact J3 t true
      | false => exact J3 t _
  unfold F_ref04_Touched_L1
  rw [decide_eq_true (show (j : Int) < (l.1 : Int) by omega), ifs, chk_t (by omega), Int.toNat_natCast]
  have fin : ∀ {b b' : Bool} {r' : Nat × (Nat → Int)}, b = b' → ls r' = ls r ++ (if b then [(j : Int)] else []) → ls r' = ls r ++ (if b' then [(j : Int)] else []) := fun e h => e ▸ h
  cases h2 : (m.f0 == (2 : Int)) with
  | true =>
    simp only [ifs]
    obtain ⟨r', q1, q2, q3⟩ := J1 ((l.2 j).f5 == m.f6) true
    refine ⟨r', q1, fin ?_ q2, q3⟩
    unfold tch
    rw [h2]
    cases (l.2 j).f5 == m.f6 <;> rfl
  | false =>
    simp only [ifs]
    obtain ⟨r', q1, q2, q3⟩ := J1 ((l.2 j).f5 == m.f6) (m.f0 == (3 : Int))
    refine ⟨r', q1, fin ?_ q2, q3⟩
    unfold tch
    rw [h2]
    cases (l.2 j).f5 == m.f6 <;> cases m.f0 == (3 : Int) <;> cases (m.f0 == (4 : Int) || m.f0 == (5 : Int)) <;> cases eqc (l.2 j).f0 m.f1 <;> cases (l.2 j).f1 == m.f2 <;> rfl

theorem touched_ok {fu : Nat} (hf : 300 ≤ fu) {l : Ru} (hu : URu l) {m : S_api_Mod} (hm : UC m.f1) (hM : F_ref04_Mod fu m = some true) (hl : l.1 ≤ 100) : ∃ r, F_ref04_Touched fu l m = some r ∧ ls r = rl m l.2 l.1 0 := by
  unfold F_ref04_Touched
  obtain ⟨e, h1, r, rfl, h2⟩ := iter_inv (f := fun s : Int × (Nat × (Nat → Int)) => F_ref04_Touched_L1 fu l m s.1 s.2)
    (fun j s => s.1 = (j : Int) ∧ s.2.1 ≤ j ∧ j ≤ l.1 ∧ ls s.2 ++ rl m l.2 (l.1 - j) j = rl m l.2 l.1 0)
    (fun e => ∃ r, e = .inl r ∧ ls r = rl m l.2 l.1 0) l.1
    (fun j s hj ⟨e1, e2, e3, e4⟩ => .inl (by
      obtain ⟨s1, r⟩ := s
      simp only at e1 e2 e4
      subst e1
      simp only
      obtain ⟨r', q1, q2, q3⟩ := touched_L1 hf hu hm hM hj hl e2
      refine ⟨_, q1, rfl, q3, by omega, ?_⟩
      simp only
      rw [q2, List.append_assoc, ← e4]
      congr 1
      rw [show l.1 - j = (l.1 - (j + 1)) + 1 by omega]; rfl))
    (fun s ⟨e1, e2, _, e4⟩ => by
      obtain ⟨s1, r⟩ := s
      simp only at e1 e2 e4
      subst e1
      refine ⟨r, ?_, r, rfl, by rw [Nat.sub_self] at e4; simpa [rl] using e4⟩
      simp only [F_ref04_Touched_L1]
      rw [decide_eq_false (by omega)]; rfl)
    l.1 0 fu ((0 : Int), (0, (fun _ => 0))) (by omega) (by omega) ⟨rfl, Nat.le_refl _, Nat.zero_le _, rfl⟩
  rw [h1]
  exact ⟨r, rfl, h2⟩

end Go.Proofs.Ytffkolbogcpjjaa
