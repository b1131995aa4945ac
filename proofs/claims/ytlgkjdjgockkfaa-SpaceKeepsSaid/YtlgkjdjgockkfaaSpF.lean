/- SpaceKeeps as a plain law. -/
import Derived.Test.YtlgkjdjgockkfaaFnD
import Derived.Test.YtlgkjdjgockkfaaSpE
namespace Go.Proofs.Ytlgkjdjgockkfaa
open Go Go.Pod Go.Proofs Go.Sort Go.Shelf

/-! ### SpaceKeeps -/



theorem sless_own_L2 {fu : Nat} (hf : 20000 ≤ fu) (t23 : Cs) (t24 t25 : Int) {l : Cs} (hl : UCs l) (hn : l.1 ≤ 64) (sl : ∀ c ∈ ls l, snd c = true) {y : S_api_Cube} (hy : UC y) (sy : snd y = true) :
    ∃ m, iter (fun s => F_space_Less_own_L2 fu t23 t24 t25 ((l.1 : Nat) : Int) l y s.1 s.2) fu ((0 : Int), (0, (fun _ => (S_api_Cube.mk (fun _ => 0) (fun _ => 0))))) = some (.inl m) ∧ ls m = (ls l).flatMap (fun x => ls (lsv x y)) ∧ m.1 ≤ 248 * l.1 := by
  obtain ⟨e, h5, m, rfl, h6, h7⟩ := iter_inv (f := fun s : Int × Cs => F_space_Less_own_L2 fu t23 t24 t25 ((l.1 : Nat) : Int) l y s.1 s.2)
    (fun j s => s.1 = (j : Int) ∧ ls s.2 = (ls (j, l.2)).flatMap (fun x => ls (lsv x y)) ∧ s.2.1 ≤ 248 * j)
    (fun e => ∃ m, e = .inl m ∧ ls m = (ls l).flatMap (fun x => ls (lsv x y)) ∧ m.1 ≤ 248 * l.1) l.1
    (fun j s hj ⟨e1, e2, e3⟩ => .inl (by
      obtain ⟨s1, m⟩ := s
      simp only at e1 e2 e3
      subst e1
      simp only [F_space_Less_own_L2]
      have uj := hl j hj
      have P := lsv_ok uj hy (sl _ (ls_mem.2 ⟨j, hj, rfl⟩)) sy
      rw [decide_eq_true (show (j : Int) < (l.1 : Int) by omega), ifs, chk_t (by omega), chk_t (by omega), Int.toNat_natCast, cube_less (by omega) uj hy, wrap_succ (i := j) (by omega)]
      show ∃ s', ((some (lsv (l.2 j) y)).bind fun r3 => chk (RoomOk (m.1 + r3.1) 192) <| some (Lo.next (((j + 1 : Nat) : Int), ((m.1 + r3.1), (fun i => if i < m.1 then m.2 i else r3.2 (i - m.1)))))) = some (Lo.next s') ∧ _
      have := P.le
      rw [Option.bind_some, chk_t (room_ok (by omega) (by omega))]
      refine ⟨_, rfl, rfl, ?_, by show m.1 + (lsv (l.2 j) y).1 ≤ 248 * (j + 1); omega⟩
      show ls (m.1 + (lsv (l.2 j) y).1, fun i => if i < m.1 then m.2 i else (lsv (l.2 j) y).2 (i - m.1)) = _
      rw [ls_cat, e2]
      have : ls (j + 1, l.2) = ls (j, l.2) ++ [l.2 j] := by unfold ls; rw [List.range_succ, List.map_append]; rfl
      rw [this, List.flatMap_append, List.flatMap_singleton]))
    (fun s ⟨e1, e2, e3⟩ => by
      obtain ⟨s1, m⟩ := s
      simp only at e1 e2 e3
      subst e1
      refine ⟨m, ?_, m, rfl, e2, e3⟩
      simp only [F_space_Less_own_L2]
      rw [decide_eq_false (by omega)]; rfl)
    l.1 0 fu ((0 : Int), (0, (fun _ => (S_api_Cube.mk (fun _ => 0) (fun _ => 0))))) (by omega) (by omega) ⟨rfl, rfl, Nat.le_refl _⟩
  exact ⟨m, h5, h6, h7⟩

theorem less_own {fu : Nat} (hf : 20000 ≤ fu) {a b : Cs} (ha : UCs a) (hb : UCs b) : ∃ r, F_space_Less_own fu a b = some r ∧ r.1.1 ≤ 64 := by
  unfold F_space_Less_own
  rw [space_sound (by omega) ha, Option.bind_some, callIf_nn, space_sound (by omega) hb, callIf_b, Option.bind_some, cond_or]
  by_cases hs : ((decide (a.1 ≤ 64) && (ls a).all snd) && (decide (b.1 ≤ 64) && (ls b).all snd)) = true
  · simp only [Bool.and_eq_true, decide_eq_true_eq] at hs
    obtain ⟨⟨na, sa⟩, nb, sb⟩ := hs
    rw [sa, sb, decide_eq_true na, decide_eq_true nb]
    simp only [Bool.and_self, Bool.not_true, ifs]
    obtain ⟨r2, k1, k2, k3⟩ := lean_ok (fu := fu) (by omega) ha (by omega) (by omega)
    rw [show F_space_Lean_own fu a = F_space_Lean fu a from rfl, k1, Option.bind_some]
    obtain ⟨e, h5, h6⟩ := iter_inv (f := fun s : Int × Cs => F_space_Less_own_L1 fu b ((b.1 : Nat) : Int) s.1 s.2)
      (fun j s => s.1 = (j : Int) ∧ UCs s.2 ∧ (∀ c ∈ ls s.2, snd c = true) ∧ s.2.1 ≤ 64)
      (fun e => match e with | .inl r => r.1 ≤ 64 | .inr r => r.1.1 ≤ 64) b.1
      (fun j s hj ⟨e1, e2, e3, e4⟩ => by
        obtain ⟨s2, l⟩ := s
        simp only at e1 e2 e3 e4
        subst e1
        simp only [F_space_Less_own_L1]
        have uy := hb j hj
        have sy : snd (b.2 j) = true := List.all_eq_true.1 sb _ (ls_mem.2 ⟨j, hj, rfl⟩)
        obtain ⟨m, q1, h2, h3⟩ := sless_own_L2 hf b ((b.1 : Nat) : Int) ((j : Nat) : Int) e2 e4 e3 uy sy
        obtain ⟨r, q2, q3, q4, _, _⟩ := less_rest hf e2 e4 e3 uy sy h2 h3
        rw [decide_eq_true (show (j : Int) < (b.1 : Int) by omega), ifs, chk_t (by omega), Int.toNat_natCast, q1, wrap_succ (i := j) (by omega)]
        simp only [after]
        rw [show F_space_lean_own fu m = F_space_lean fu m from rfl]
        unfold F_space_lean
        rw [q2, Option.bind_some]
        by_cases hr : r.1 > 64
        · rw [decide_eq_true (show (r.1 : Int) > 64 by omega)]
          exact .inr ⟨_, rfl, show 0 ≤ 64 by decide⟩
        · rw [decide_eq_false (show ¬ (r.1 : Int) > 64 by omega)]
          exact .inl ⟨_, rfl, rfl, q3, q4, show r.1 ≤ 64 by omega⟩)
      (fun s ⟨e1, e2, e3, e4⟩ => by
        obtain ⟨s2, l⟩ := s
        simp only at e1 e2 e3 e4
        subst e1
        refine ⟨l, ?_, e4⟩
        simp only [F_space_Less_own_L1]
        rw [decide_eq_false (by omega)]; rfl)
      b.1 0 fu ((0 : Int), r2) (by omega) (by omega) ⟨rfl, lean_uc ha k2, fun c hc => (k2.sub c hc).2, show r2.1 ≤ 64 by omega⟩
    rw [h5]
    cases e with
    | inl r => exact ⟨(r, 0), rfl, h6⟩
    | inr r => exact ⟨r, rfl, h6⟩
  · rw [Bool.eq_false_iff.2 hs, Bool.and_false]
    exact ⟨_, rfl, show 0 ≤ 64 by decide⟩

/-- A loop that writes to each element ends. -/
theorem keeps_loop {E : Type} {f : Int × Cs → Option (Lo (Int × Cs) E Bool)} {e : E} {n fu : Nat} (hn : n < fu) (g : Nat → Cs → Cs)
    (h1 : ∀ (j : Nat) (m : Cs), m.1 = n → j < n → f ((j : Int), m) = some (.next (((j + 1 : Nat) : Int), g j m)) ∧ (g j m).1 = n) (h2 : ∀ m : Cs, m.1 = n → f ((n : Int), m) = some (.exit e)) (m : Cs) (hm : m.1 = n) :
    iter f fu ((0 : Int), m) = some (.inl e) := by
  obtain ⟨x, k1, k2⟩ := iter_inv (f := f) (fun j s => s.1 = (j : Int) ∧ s.2.1 = n) (fun x => x = .inl e) n
    (fun j s hj ⟨e1, e2⟩ => .inl (by
      obtain ⟨s1, s2⟩ := s
      simp only at e1 e2
      subst e1
      obtain ⟨q1, q2⟩ := h1 j s2 e2 hj
      exact ⟨_, q1, rfl, q2⟩))
    (fun s ⟨e1, e2⟩ => by
      obtain ⟨s1, s2⟩ := s
      simp only at e1 e2
      subst e1
      exact ⟨e, h2 s2 e2, rfl⟩) n 0 fu ((0 : Int), m) (by omega) hn ⟨rfl, hm⟩
  rw [k1, k2]

def wr (t : Nat) (m : Cs) : Cs := (m.1, fun j => if j = t then S_api_Cube.mk (m.2 t).f0 (fun j => if j = (0 : Int).toNat then (77 : Int) else (m.2 t).f1 j) else m.2 j)

theorem space_keeps {fu : Nat} (hf : 20000 ≤ fu) {a b : Cs} (ha : UCs a) (hb : UCs b) : F_law03_SpaceKeeps fu a b = some true := by
  unfold F_law03_SpaceKeeps
  rw [few_eq, few_eq, Option.bind_some, callIf_nn, callIf_b, Option.bind_some]
  cases hl : (bif (!decide (a.1 ≤ 8)) then true else !(decide (a.1 ≤ 8) && decide (b.1 ≤ 8))) with
  | true =>
    show (F_law03_answers fu).bind _ = _
    rw [answers_ok hf]; rfl
  | false =>
    rw [cond_or] at hl
    simp only [Bool.not_eq_false', Bool.and_eq_true, decide_eq_true_eq] at hl
    obtain ⟨na, _, nb⟩ := hl
    simp only [ifs]
    rw [chk_t (room_ok (by omega) (by omega)), chk_t (room_ok (by omega) (by omega)), cat0, cat0]
    obtain ⟨r, k1, _, k3⟩ := lean_ok (fu := fu) (by omega) ha (by omega) (by omega)
    rw [show F_space_Lean_own fu a = F_space_Lean fu a from rfl, k1, Option.bind_some]
    have i1 : iter (fun s => F_law03_SpaceKeeps_L1 fu a b a b s.1 s.2) fu ((0 : Int), r) = some (.inl ()) := by
      refine keeps_loop (n := r.1) (by omega) wr (fun j m hm hj => ⟨?_, hm⟩) (fun m hm => ?_) r rfl
      · simp only [F_law03_SpaceKeeps_L1]
        rw [decide_eq_true (show (j : Int) < (m.1 : Int) by omega), ifs, chk_t (by omega), chk_t (by omega), chk_t (by omega), chk_t (by decide), wrap_succ (by omega), Int.toNat_natCast]; rfl
      · simp only [F_law03_SpaceKeeps_L1]
        rw [decide_eq_false (by omega)]; rfl
    rw [i1]
    simp only [after]
    obtain ⟨m, e, q1, q2, q3, q4⟩ := meet_ok hf ha hb
    rw [show F_space_Meet_own fu a b = F_space_Meet fu a b from rfl, q1, Option.bind_some]
    obtain ⟨l, p1, p2⟩ := less_own hf ha hb
    rw [p1, Option.bind_some]
    have i2 : iter (fun s => F_law03_SpaceKeeps_L2 fu a b a b l.1 s.1 s.2) fu ((0 : Int), m) = some (.inl ()) := by
      refine keeps_loop (n := m.1) (by omega) wr (fun j m hm hj => ⟨?_, hm⟩) (fun m hm => ?_) m rfl
      · simp only [F_law03_SpaceKeeps_L2]
        rw [decide_eq_true (show (j : Int) < (m.1 : Int) by omega), ifs, chk_t (by omega), chk_t (by omega), chk_t (by omega), chk_t (by decide), wrap_succ (by omega), Int.toNat_natCast]; rfl
      · simp only [F_law03_SpaceKeeps_L2]
        rw [decide_eq_false (by omega)]; rfl
    have i3 : iter (fun s => F_law03_SpaceKeeps_L3 fu a b a b s.1 s.2) fu ((0 : Int), l.1) = some (.inl ()) := by
      refine keeps_loop (n := l.1.1) (by omega) wr (fun j m hm hj => ⟨?_, hm⟩) (fun m hm => ?_) l.1 rfl
      · simp only [F_law03_SpaceKeeps_L3]
        rw [decide_eq_true (show (j : Int) < (m.1 : Int) by omega), ifs, chk_t (by omega), chk_t (by omega), chk_t (by omega), chk_t (by decide), wrap_succ (by omega), Int.toNat_natCast]; rfl
      · simp only [F_law03_SpaceKeeps_L3]
        rw [decide_eq_false (by omega)]; rfl
    simp only
    rw [i2]
    simp only
    rw [i3]
    simp only
    rw [answers_ok hf, Option.bind_some]
    simp only [callIf]
    rw [same_cubes (by omega) (by omega) rfl fun i _ => eqc_refl _, Option.bind_some]
    simp only [cond_true]
    rw [same_cubes (by omega) (by omega) rfl fun i _ => eqc_refl _]
    rfl

theorem pl_SpaceKeeps (x0 : Cs) (w0 : x0.1 ≤ maxLen ∧ ∀ i, i < x0.1 → S_api_Cube.wf (x0.2 i)) (x1 : Cs) (w1 : x1.1 ≤ maxLen ∧ ∀ i, i < x1.1 → S_api_Cube.wf (x1.2 i)) : ∃ fu, F_law03_SpaceKeeps fu x0 x1 = some true := ⟨20000, space_keeps (Nat.le_refl _) (ucs_wf w0) (ucs_wf w1)⟩


end Go.Proofs.Ytlgkjdjgockkfaa
