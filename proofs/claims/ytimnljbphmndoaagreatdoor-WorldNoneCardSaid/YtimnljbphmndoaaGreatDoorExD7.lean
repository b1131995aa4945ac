/- Literals; new rows. -/
import Derived.Test.YtimnljbphmndoaaGreatDoorExD6
namespace Go.Exe
open Go

section
variable {P : Program} {σ : Sig} {ρ : Rho}

theorem onCellsOf_some {R : Type} {v : AV} {k : List AV → Option R} {x : R} (h : onCellsOf v k = some x) : ∃ l, k l = some x ∧ ∀ (σ : Sig) (ρ : Rho) (u : Value), (∀ i, (σ i).oneCell' = true) → VR σ ρ v u → l.all cellB = true ∧ LR σ ρ l u.cells.toList := by
  unfold onCellsOf at h
  split at h
  · refine ⟨_, h, fun σ ρ u _ hu => ?_⟩
    obtain ⟨cs, rfl, h1, h2⟩ := hu
    exact ⟨h2, h1⟩
  · cases h
  · cases h
  · cases h
  · rename_i h1 h2 h3 h4
    refine ⟨_, h, fun σ ρ u hσ hu => ?_⟩
    have hc : cellB v = true := by
      cases v <;> first | rfl | exact (h1 _ rfl).elim | exact (h2 _ rfl).elim | exact (h3 rfl).elim | exact (h4 rfl).elim
    have := VR.one hσ hc hu
    rw [cellsOf_one this]
    exact ⟨by simp [hc], u, [], rfl, hu, rfl⟩

/-! ### Parts laid over cells -/

theorem foldl_zipIdx_set (off : Nat) : ∀ (l : List Value) (k : Nat) (c : Array Value), off + k + l.length ≤ c.size →
    ((l.zipIdx k).foldl (fun cs (p : Value × Nat) => cs.setIfInBounds (off + p.2) p.1) c).size = c.size ∧
    (∀ j, j < l.length → ((l.zipIdx k).foldl (fun cs (p : Value × Nat) => cs.setIfInBounds (off + p.2) p.1) c)[off + k + j]? = l[j]?) ∧
    ∀ j, (j < off + k ∨ off + k + l.length ≤ j) → ((l.zipIdx k).foldl (fun cs (p : Value × Nat) => cs.setIfInBounds (off + p.2) p.1) c)[j]? = c[j]?
  | [], k, c, _ => ⟨rfl, fun j hj => by simp at hj, fun _ _ => rfl⟩
  | v :: l, k, c, h => by
    simp only [List.length_cons] at h
    simp only [List.zipIdx_cons, List.foldl_cons]
    obtain ⟨h1, h2, h3⟩ := foldl_zipIdx_set off l (k + 1) (c.setIfInBounds (off + k) v) (by simp; omega)
    refine ⟨by simpa using h1, fun j hj => ?_, fun j hj => ?_⟩
    · cases j with
      | zero =>
        rw [h3 _ (by omega)]
        simp [show off + k < c.size by omega]
      | succ j =>
        have := h2 j (by simpa using hj)
        rw [show off + k + (j + 1) = off + (k + 1) + j by omega, this]; rfl
    · simp only [List.length_cons] at hj
      rw [h3 j (by omega), Array.getElem?_setIfInBounds_ne (by omega)]

/-- One part. -/
theorem fill_one {l m l' : List AV} {cells : Array Value} {v : Value} {off : Nat} (h : overAt m l off = some l') (hm : LR σ ρ m v.cells.toList) (hl : LR σ ρ l cells.toList) :
    LR σ ρ l' (v.cells.zipIdx.foldl (fun cs (p : Value × Nat) => cs.setIfInBounds (off + p.2) p.1) cells).toList ∧ off + v.cells.size ≤ cells.size := by
  obtain ⟨h1, _⟩ := overAt_some h
  obtain ⟨g1, g2⟩ := overAt_get h
  have e1 : v.cells.toList.length = m.length := hm.length
  have e2 : cells.toList.length = l.length := hl.length
  have e1' : v.cells.size = m.length := by simpa using e1
  have e2' : cells.size = l.length := by simpa using e2
  have hle : off + 0 + v.cells.toList.length ≤ cells.size := by omega
  obtain ⟨f1, f2, f3⟩ := foldl_zipIdx_set off v.cells.toList 0 cells hle
  have hfold : v.cells.zipIdx.foldl (fun cs (p : Value × Nat) => cs.setIfInBounds (off + p.2) p.1) cells = (v.cells.toList.zipIdx 0).foldl (fun cs (p : Value × Nat) => cs.setIfInBounds (off + p.2) p.1) cells := by
    rw [← Array.foldl_toList, Array.toList_zipIdx]
  rw [hfold]
  refine ⟨LR.mk (by simp only [Array.length_toList]; omega) fun i a u ha hu => ?_, by omega⟩
  rw [g2] at ha
  simp only [Array.getElem?_toList] at hu
  by_cases hi : off ≤ i ∧ i < off + m.length
  · rw [if_pos hi] at ha
    have := f2 (i - off) (by omega)
    rw [show off + 0 + (i - off) = i by omega] at this
    rw [this] at hu
    obtain ⟨u', k1, k2⟩ := hm.get _ _ ha
    rw [k1] at hu; cases hu; exact k2
  · rw [if_neg hi] at ha
    rw [f3 i (by omega)] at hu
    obtain ⟨u', k1, k2⟩ := hl.get _ _ ha
    have k1 : cells[i]? = some u' := by simpa using k1
    rw [k1] at hu; cases hu; exact k2

theorem all_over {m l l' : List AV} {off : Nat} (h : overAt m l off = some l') (hm : m.all cellB = true) (hl : l.all cellB = true) : l'.all cellB = true := by
  obtain ⟨_, rfl⟩ := overAt_some h
  simp only [List.all_append, Bool.and_eq_true]
  exact ⟨⟨List.all_eq_true.2 fun x hx => List.all_eq_true.1 hl x (List.mem_of_mem_take hx), hm⟩, List.all_eq_true.2 fun x hx => List.all_eq_true.1 hl x (List.mem_of_mem_drop hx)⟩

/-- Parts as they are and as the code has them. -/
def PR (σ : Sig) (ρ : Rho) : List (Nat × AV) → List (Nat × Value) → Prop
  | [], m => m = []
  | p :: l, m => ∃ q r, m = q :: r ∧ q.1 = p.1 ∧ VR σ ρ p.2 q.2 ∧ PR σ ρ l r

theorem parts_ok {env : Env} {a : Act} (hg : Glo P ρ) (he : ER σ ρ env a.tmps) : ∀ {l : List (Nat × Operand)} {r : List (Nat × AV)}, parts P l env = some r → PR σ ρ r (l.map fun p => (p.1, a.eval p.2))
  | [], r, h => by cases h; rfl
  | (i, o) :: l, r, h => by
    obtain ⟨v, h1, h⟩ := bnd_some.1 (show bnd (opd P o env) (fun v => bnd (parts P l env) fun r => some ((i, v) :: r)) = some r from h)
    obtain ⟨r', h2, h⟩ := bnd_some.1 h
    cases h
    exact ⟨_, _, rfl, rfl, opd_ok hg he h1, parts_ok hg he h2⟩

theorem fill_ok (hσ : ∀ i, (σ i).oneCell' = true) {pl place : Nat → Option (Nat × Nat)} (hp : ∀ i q, place i = some q → pl i = some q) : ∀ {ps : List (Nat × AV)} {qs : List (Nat × Value)} {l l' : List AV} {cells : Array Value}, fillL place ps l = some l' → PR σ ρ ps qs → LR σ ρ l cells.toList → l.all cellB = true →
    ∃ cells', Instr.fill pl cells qs = some cells' ∧ LR σ ρ l' cells'.toList ∧ l'.all cellB = true
  | [], qs, l, l', cells, h, hq, hl, hc => by
    cases h; cases hq; exact ⟨cells, rfl, hl, hc⟩
  | (i, v) :: ps, qs, l, l', cells, h, ⟨q, r, e1, e2, e3, e4⟩, hl, hc => by
    subst e1
    obtain ⟨j, u⟩ := q
    obtain rfl : j = i := e2
    obtain ⟨o, s, h1, h⟩ := bnd2_some.1 (show bnd2 (place j) (fun o s => onCellsOf v fun m => ite' (Nat.beq (len m) s) (bnd (overAt m l o) (fillL place ps))) = some l' from h)
    obtain ⟨m, h, h2⟩ := onCellsOf_some h
    obtain ⟨h3, h⟩ := ite_some.1 h
    obtain ⟨l2, h4, h⟩ := bnd_some.1 h
    obtain ⟨k1, k2⟩ := h2 σ ρ u hσ e3
    obtain ⟨k3, k4⟩ := fill_one h4 k2 hl
    obtain ⟨cells', k5, k6, k7⟩ := fill_ok hσ hp h e4 k3 (all_over h4 k1 hc)
    have hs : u.cells.size = s := by
      have := k2.length
      rw [len_eq] at h3
      have h3 := Nat.eq_of_beq_eq_true h3
      simp only [Array.length_toList] at this
      omega
    refine ⟨cells', ?_, k6, k7⟩
    simp only [Instr.fill, hp _ _ h1]
    have hcond : (decide (u.cells.size ≠ s) || decide (o + u.cells.size > cells.size)) = false := by
      rw [decide_eq_false (show ¬ u.cells.size ≠ s by omega), decide_eq_false (show ¬ o + u.cells.size > cells.size by omega)]; rfl
    rw [hcond, if_neg (by simp)]
    exact k5

theorem mapM_places {fs : List Field} : (∀ f ∈ fs, ∃ s, szOf P f.type = some s) → ∃ r : List (Nat × Nat), (∀ w, (fs.mapM fun f => (do pure (f.offset, ← sizeOf f.type) : Sem (Nat × Nat))).run P w = .ok r w) ∧ ∀ i q, fieldPl P fs i = some q → r[i]? = some q := by
  induction fs with
  | nil => exact fun _ => ⟨[], fun w => by simp, fun i q h => by obtain ⟨f, h1, _⟩ := bnd_some.1 h; rw [nth_eq] at h1; simp at h1⟩
  | cons f fs ih =>
    intro h
    obtain ⟨s, hs⟩ := h f (List.mem_cons_self ..)
    obtain ⟨r, h1, h2⟩ := ih fun g hg => h g (List.mem_cons_of_mem _ hg)
    refine ⟨(f.offset, s) :: r, fun w => ?_, fun i q hq => ?_⟩
    · rw [List.mapM_cons]
      simp only [Sem.run_bind, run_sz hs, Result.andThen_ok, Sem.run_pure]
      rw [h1 w]; rfl
    · obtain ⟨g, h3, h4⟩ := bnd_some.1 hq
      obtain ⟨s', h5, h6⟩ := bnd_some.1 h4
      cases h6
      rw [nth_eq] at h3
      cases i with
      | zero => simp at h3; subst h3; rw [hs] at h5; cases h5; rfl
      | succ i =>
        simp only [List.getElem?_cons_succ] at h3 ⊢
        exact h2 i _ (bnd_some.2 ⟨g, by rw [nth_eq]; exact h3, bnd_some.2 ⟨_, h5, rfl⟩⟩)

theorem buildO_ok (hσ : ∀ i, (σ i).oneCell' = true) {t : TypeId} {ps : List (Nat × AV)} {v : AV} (h : buildO P t ps = some v) {qs : Array (Nat × Value)} (hq : PR σ ρ ps qs.toList) : ∃ u, VR σ ρ v u ∧ ∀ w, (Instr.build t qs).run P w = .ok u w := by
  obtain ⟨z, h1, h⟩ := bnd_some.1 h
  obtain ⟨f, h2, h⟩ := bnd_some.1 h
  obtain ⟨l, h, h3⟩ := onCellsOf_some h
  obtain ⟨l', h4, h⟩ := bnd_some.1 h
  cases h
  obtain ⟨zv, k1, k2⟩ := zeroOf_ok (P := P) (σ := σ) (ρ := ρ) h1
  obtain ⟨k3, k4⟩ := h3 σ ρ zv hσ k1
  obtain ⟨d, h5, h6⟩ := bnd_some.1 h2
  have hu := und_some h5
  split at h6
  · rename_i fs
    obtain ⟨h8, h6⟩ := ite_some.1 h6
    cases h6
    have hall : ∀ f ∈ fs.toList, ∃ s, szOf P f.type = some s := fun f hf => by
      have := List.all_eq_true.1 h8 f hf
      exact Option.isSome_iff_exists.1 this
    obtain ⟨r, r1, r2⟩ := mapM_places hall
    obtain ⟨cells', f1, f2, f3⟩ := fill_ok (pl := (r.toArray[·]?)) hσ (fun i q e => by simpa using r2 i q e) h4 hq k4 k3
    refine ⟨.agg cells', ⟨_, rfl, f2, f3⟩, fun w => ?_⟩
    have r1' : ∀ w, (fs.mapM fun f => (do pure (f.offset, ← sizeOf f.type) : Sem (Nat × Nat))).run P w = .ok r.toArray w := fun w => by
      rw [Array.mapM_eq_mapM_toList, Sem.run_map, r1]; rfl
    simp only [Instr.build, Sem.run_bind, k2, Result.andThen_ok, run_underlying hu, r1', f1, Sem.run_pure]
  · rename_i n e
    obtain ⟨s, h7, h6⟩ := bnd_some.1 h6
    cases h6
    obtain ⟨cells', f1, f2, f3⟩ := fill_ok (pl := fun i => some (i * s, s)) hσ (fun i q e => e) h4 hq k4 k3
    refine ⟨.agg cells', ⟨_, rfl, f2, f3⟩, fun w => ?_⟩
    simp only [Instr.build, Sem.run_bind, k2, Result.andThen_ok, run_underlying hu, run_sz h7, f1, Sem.run_pure]
  · cases h6
end
end Go.Exe
