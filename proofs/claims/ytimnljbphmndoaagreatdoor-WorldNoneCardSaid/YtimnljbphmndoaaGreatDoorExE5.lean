/- Slices laid new, conversions, small builtins. -/
import Derived.Test.YtimnljbphmndoaaGreatDoorExE4
import Derived.Laws.BytesString
import Derived.Laws.MakeOwn
import Derived.MapKept
namespace Go.Exe
open Go

theorem overAt_of {α : Type} {m : List α} : ∀ {l : List α} {i : Nat}, i + m.length ≤ l.length → ∃ l', overAt m l i = some l' := by
  have ov : ∀ (m l : List α), m.length ≤ l.length → ∃ l', over m l = some l' := by
    intro m
    induction m with
    | nil => exact fun l _ => ⟨l, rfl⟩
    | cons a m ih =>
      intro l h
      cases l with
      | nil => simp at h
      | cons b l =>
        obtain ⟨l', h1⟩ := ih l (by simpa using h)
        exact ⟨a :: l', show bnd (over m l) (fun l' => some (a :: l')) = _ by rw [h1]; rfl⟩
  intro l
  induction l with
  | nil =>
    intro i h
    have h0 : i = 0 := by simp at h; omega
    subst h0
    exact ov m [] (by simpa using h)
  | cons a l ih =>
    intro i h
    cases i with
    | zero => exact ov m (a :: l) (by simpa using h)
    | succ i =>
      obtain ⟨l', h1⟩ := ih (i := i) (by simp at h; omega)
      exact ⟨a :: l', show bnd (overAt m l i) (fun l' => some (a :: l')) = _ by rw [h1]; rfl⟩

theorem over_flat {α : Type} {s : Nat} {ls : List (List α)} (hl : ∀ l ∈ ls, l.length = s) {i : Nat} (hi : i < ls.length) {m : List α} (hm : m.length = s) : overAt m ls.flatten (i * s) = some (ls.set i m).flatten := by
  have hfl := flat_length hl
  have hlt : (i + 1) * s ≤ ls.length * s := Nat.mul_le_mul_right s hi
  rw [Nat.add_mul, Nat.one_mul] at hlt
  obtain ⟨l', h1⟩ := overAt_of (m := m) (l := ls.flatten) (i := i * s) (by omega)
  rw [h1]
  congr 1
  obtain ⟨g1, g2⟩ := overAt_get h1
  have hl2 : ∀ l ∈ ls.set i m, l.length = s := fun l hm2 => by
    rcases List.mem_or_eq_of_mem_set hm2 with h | rfl
    · exact hl l h
    · exact hm
  have hfl2 := flat_length hl2
  rw [List.length_set] at hfl2
  apply List.ext_getElem?
  intro j
  rw [g2]
  rcases Nat.lt_or_ge j (ls.length * s) with hj | hj
  · have h0 : 0 < s := Nat.pos_of_ne_zero fun h => by subst h; simp at hj
    have hd : j / s < ls.length := (Nat.div_lt_iff_lt_mul h0).2 hj
    have hmod := Nat.mod_lt j h0
    have ej := dm j s
    have hd2 : j / s < (ls.set i m).length := by simpa using hd
    have e2 := flat_get hl2 (j / s) _ (List.getElem?_eq_getElem hd2) (j % s) hmod
    rw [ej] at e2
    rw [e2]
    by_cases hij : i = j / s
    · rw [if_pos (by subst hij; omega)]
      have : (ls.set i m)[j / s] = m := by simp [← hij]
      rw [this]; congr 1; subst hij; omega
    · have hne : (ls.set i m)[j / s] = ls[j / s] := by simp [hij]
      rw [hne, if_neg ?_]
      · have e1 := flat_get hl (j / s) _ (List.getElem?_eq_getElem hd) (j % s) hmod
        rw [ej] at e1; exact e1
      · rcases Nat.lt_or_gt_of_ne hij with h | h
        · have : (i + 1) * s ≤ j / s * s := Nat.mul_le_mul_right s h
          rw [Nat.add_mul, Nat.one_mul] at this
          omega
        · have : (j / s + 1) * s ≤ i * s := Nat.mul_le_mul_right s h
          rw [Nat.add_mul, Nat.one_mul] at this
          omega
  · rw [List.getElem?_eq_none (by omega : (ls.set i m).flatten.length ≤ j), if_neg (by omega), List.getElem?_eq_none (by omega)]

theorem both_true {a b : Bool} (h : both a b = true) : a = true ∧ b = true := by cases a <;> cases b <;> first | exact ⟨rfl, rfl⟩ | exact nomatch h

section
variable {P : Program} {σ : Sig} {N : Nat} {ρ : Rho} {h h' : H} {w w' : World} {o : Oper} {a : Act} {v : AV}

/-- Zero cells, again and again. -/
theorem rep_fl {l : List AV} {zc : Array Value} (hl : LR σ ρ l zc.toList) (hc : l.all cellB = true) {s : Nat} (hs : l.length = s) (n : Nat) {z2 : Array Value} (hz2 : n * s = 0 ∨ z2 = zc) : FL σ ρ s (rep n l) ((Array.range (n * s)).map (z2[· % z2.size]!)).toList where
  len := fun x hx => by rw [rep_eq] at hx; rw [(List.mem_replicate.1 hx).2]; exact hs
  one := fun x hx => by rw [rep_eq] at hx; rw [(List.mem_replicate.1 hx).2]; exact hc
  lr := by
    have hlen : ∀ x ∈ rep n l, x.length = s := fun x hx => by rw [rep_eq] at hx; rw [(List.mem_replicate.1 hx).2]; exact hs
    have hfl := flat_length hlen
    have hrl : (rep n l).length = n := by rw [rep_eq]; simp
    rw [hrl] at hfl
    refine LR.mk (by simp [hfl]) fun i x u e1 e2 => ?_
    have hi : i < n * s := by rw [← hfl]; exact (List.getElem?_eq_some_iff.1 e1).1
    have h0 : 0 < s := Nat.pos_of_ne_zero fun h => by subst h; simp at hi
    have hz : z2 = zc := hz2.resolve_left (by omega)
    subst hz
    have hd : i / s < n := (Nat.div_lt_iff_lt_mul h0).2 hi
    have hmod := Nat.mod_lt i h0
    have hget : (rep n l)[i / s]? = some l := by rw [rep_eq]; simp [hd]
    have e3 := flat_get hlen (i / s) l hget (i % s) hmod
    rw [dm, e1] at e3
    obtain ⟨u', k1, k2⟩ := hl.get _ _ e3.symm
    have hzs : z2.size = s := by have := hl.length; simp only [Array.length_toList] at this; omega
    have k1' : z2[i % s]? = some u' := by simpa using k1
    simp [hi, hzs] at e2
    rw [getElem!_def, k1'] at e2
    simp at e2
    rw [← e2]; exact k2

theorem layParts_ok (hσ : ∀ i, (σ i).oneCell' = true) {s : Nat} : ∀ {ps : List (Nat × AV)} {qs : List (Nat × Value)} {ls ls' : List (List AV)} {cells : Array Value}, layParts s ps ls = some ls' → PR σ ρ ps qs → FL σ ρ s ls cells.toList →
    ∃ cells', Instr.fill (fun i => some (i * s, s)) cells qs = some cells' ∧ FL σ ρ s ls' cells'.toList ∧ ls'.length = ls.length
  | [], qs, ls, ls', cells, e, hq, hf => by cases e; cases hq; exact ⟨cells, rfl, hf, rfl⟩
  | (i, v) :: ps, qs, ls, ls', cells, e, ⟨q, r, e1, e2, e3, e4⟩, hf => by
    subst e1
    obtain ⟨j, u⟩ := q
    obtain rfl : j = i := e2
    obtain ⟨m, e5, h2⟩ := onCellsOf_some (show (onCellsOf v fun m => ite' (Nat.beq (len m) s) (bnd (setN m ls j) (layParts s ps))) = some ls' from e)
    obtain ⟨h3, e6⟩ := ite_some.1 e5
    obtain ⟨l2, h4, e7⟩ := bnd_some.1 e6
    obtain ⟨k1, k2⟩ := h2 σ ρ u hσ e3
    rw [len_eq] at h3
    have h3 : m.length = s := Nat.eq_of_beq_eq_true h3
    obtain ⟨h5, rfl⟩ := setN_some h4
    have ho := over_flat hf.len h5 h3
    obtain ⟨k3, k4⟩ := fill_one ho k2 hf.lr
    have hu : u.cells.size = s := by have := k2.length; simp only [Array.length_toList] at this; omega
    obtain ⟨cells', k5, k6, k7⟩ := layParts_ok hσ e7 e4 ⟨fun x hx => by
        rcases List.mem_or_eq_of_mem_set hx with h | rfl
        · exact hf.len x h
        · exact h3, fun x hx => by
        rcases List.mem_or_eq_of_mem_set hx with h | rfl
        · exact hf.one x h
        · exact k1, k3⟩
    refine ⟨cells', ?_, k6, by rw [k7, List.length_set]⟩
    simp only [Instr.fill]
    have hcond : (decide (u.cells.size ≠ s) || decide (j * s + u.cells.size > cells.size)) = false := by
      rw [decide_eq_false (show ¬ u.cells.size ≠ s by omega), decide_eq_false (show ¬ j * s + u.cells.size > cells.size by omega)]; rfl
    rw [hcond, if_neg (by simp)]
    exact k5

theorem op_buildSlice_gen {ρ0 : Rho} {h0 hx hx' : H} {w0 : World} (L : Laid σ N ρ h w ρ0 h0 w0 hx hx' h') (hσ : ∀ i, (σ i).oneCell' = true) {t : TypeId} {n : Nat} {ps : Array (Nat × Operand)} (ho : o.op = .buildSlice t n ps) {qs : List (Nat × AV)} (hq : PR σ ρ qs (ps.toList.map fun p => (p.1, a.eval p.2))) (e : buildSliceO P t n qs hx = some (v, hx')) : Lain P σ N o a ρ w ρ0 h0 w0 hx.nx v h' := by
  obtain ⟨el, k1, e1⟩ := bnd_some.1 e
  obtain ⟨s, k2, e2⟩ := bnd_some.1 e1
  obtain ⟨z, k3, e3⟩ := bnd_some.1 e2
  obtain ⟨l, e4, k4⟩ := onCellsOf_some e3
  obtain ⟨k5, e5⟩ := ite_some.1 e4
  obtain ⟨k6, e6⟩ := ite_some.1 e5
  obtain ⟨ls, k7, e7⟩ := bnd_some.1 e6
  have hu := sliceE_some k1
  obtain ⟨zv, z1, z2⟩ := zeroOf_ok (P := P) (σ := σ) (ρ := ρ) k3
  obtain ⟨z3, z4⟩ := k4 σ ρ zv hσ z1
  rw [len_eq] at k5
  have k5 : l.length = s := Nat.eq_of_beq_eq_true k5
  obtain ⟨k6, hn⟩ := both_true k6
  have k6 : n * s ≤ 0xffffff := Nat.le_of_ble_eq_true k6
  have hn : n ≤ 0xffffff := Nat.le_of_ble_eq_true hn
  have hlen : ¬ (n * s > 2 ^ 24) := by omega
  have main : ∀ z2a : Array Value, (n * s = 0 ∨ z2a = zv.cells) → (n * s = 0 → z2a = #[]) → (¬ n * s = 0 → z2a = zv.cells) → Lain P σ N o a ρ w ρ0 h0 w0 hx.nx v h' := fun z2a hz2 hza hzb => by
    have hf := rep_fl z4 z3 k5 n hz2
    obtain ⟨cells', f1, f2, f3⟩ := layParts_ok hσ k7 hq hf
    have hll : ls.length = n := by rw [f3, rep_eq]; simp
    have hcs : cells'.size = n * s := by have := f2.length; simp only [Array.length_toList] at this; rw [this, hll]
    refine newS_gen L f2 (by omega) e7 (Nat.le_refl _) (by simp only [maxLen]; omega) ?_
    have hmap : (ps.map fun (p : Nat × Operand) => (p.1, a.eval p.2)).toList = ps.toList.map fun p => (p.1, a.eval p.2) := by simp
    by_cases hz : n * s = 0
    · have hz1 := hza hz
      subst hz1
      simp only [execOp, ho, Instr.buildSlice, Sem.run_bind, run_underlying hu, run_sz k2, Result.andThen_ok, Sem.run_ite, if_neg hlen, if_pos hz, Sem.run_pure]
      rw [hmap, f1]
      simp [newRow, pushed]
    · have hz1 := hzb hz
      subst hz1
      simp only [execOp, ho, Instr.buildSlice, Sem.run_bind, run_underlying hu, run_sz k2, Result.andThen_ok, Sem.run_ite, if_neg hlen, if_neg hz, Sem.run_pure, z2]
      rw [hmap, f1]
      simp [newRow, pushed]
  by_cases hz : n * s = 0
  · exact main #[] (.inl hz) (fun _ => rfl) fun h => absurd hz h
  · exact main zv.cells (.inr rfl) (fun h => absurd h hz) fun _ => rfl

theorem op_makeSlice_gen {ρ0 : Rho} {h0 hx hx' : H} {w0 : World} (L : Laid σ N ρ h w ρ0 h0 w0 hx hx' h') (hσ : ∀ i, (σ i).oneCell' = true) {t : TypeId} {y1 y2 : Operand} (ho : o.op = .makeSlice t y1 y2) {x1 x2 : AV} (hx1 : VR σ ρ x1 (a.eval y1)) (hx2 : VR σ ρ x2 (a.eval y2)) (e : makeSliceO P t x1 x2 hx = some (v, hx')) : Lain P σ N o a ρ w ρ0 h0 w0 hx.nx v h' := by
  obtain ⟨el, k1, e1⟩ := bnd_some.1 e
  obtain ⟨s, k2, e2⟩ := bnd_some.1 e1
  obtain ⟨z, k3, e3⟩ := bnd_some.1 e2
  obtain ⟨l, e4, k4⟩ := onCellsOf_some e3
  obtain ⟨k5, e5⟩ := ite_some.1 e4
  obtain ⟨kok, e5'⟩ := ite_some.1 e5
  obtain ⟨n, k6, e6⟩ := bnd_some.1 e5'
  obtain ⟨c, k7, e7⟩ := bnd_some.1 e6
  obtain ⟨k8, e8⟩ := ite_some.1 e7
  obtain ⟨k9, e9⟩ := ite_some.1 e8
  have hu := sliceE_some k1
  have k8 : n ≤ c := Nat.le_of_ble_eq_true k8
  have k9 : c ≤ 0xfffff := Nat.le_of_ble_eq_true k9
  obtain ⟨i, zc, hi, hz, hzz, hb⟩ := okE_some kok
  have hsi := szOf_info k2 hi
  obtain ⟨zv, z1, z2⟩ := zeroOf_ok (P := P) (σ := σ) (ρ := ρ) k3
  have hzv : zv = zc := by
    have h1 := z2 w
    have h2 : (zeroValue el).run P w = .ok zc w := by simp [zeroValue, typeInfo, hi, hz]
    rw [h1] at h2; injection h2
  subst hzv
  obtain ⟨z3, z4⟩ := k4 σ ρ _ hσ z1
  rw [len_eq] at k5
  have k5 : l.length = s := Nat.eq_of_beq_eq_true k5
  obtain ⟨kk1, rfl⟩ := natOf_some k6
  obtain ⟨kk2, rfl⟩ := natOf_some k7
  have hf := rep_fl z4 z3 k5 c (.inr rfl)
  have hbytes : (i.bytes : Int) * (c : Int) ≤ 281474976710656 := by
    have h1 : i.bytes * c ≤ 0x7ffffff * 0xfffff := Nat.mul_le_mul hb k9
    have h2 : (0x7ffffff * 0xfffff : Nat) ≤ 281474976710656 := by decide
    have h3 : ((i.bytes * c : Nat) : Int) ≤ ((281474976710656 : Nat) : Int) := Int.ofNat_le.2 (Nat.le_trans h1 h2)
    rw [Int.natCast_mul] at h3
    exact h3
  have hrun := run_make (P := P) w t el i _ hu hi hz kk1 kk2 (n : Int) (c : Int) (by omega) (by omega) hbytes (by omega)
  have hll : (rep c l).length = c := by rw [rep_eq]; simp
  refine newS_gen L (cs := madeCells zv.cells (c * s)) hf (by omega) e9 k8 (by simp only [maxLen]; omega) ?_
  have h1 : a.eval y1 = .int kk1 n := hx1
  have h2 : a.eval y2 = .int kk2 c := hx2
  simp only [execOp, ho, Sem.run_bind, h1, h2, hrun, Result.andThen_ok, Sem.run_pure, Int.toNat_natCast, hsi]
  rfl

theorem buildSliceO_lays {t : TypeId} {n : Nat} {qs : List (Nat × AV)} (e : buildSliceO P t n qs h = some (v, h')) : Lays h h' := by
  obtain ⟨el, k1, e1⟩ := bnd_some.1 e
  obtain ⟨s, k2, e2⟩ := bnd_some.1 e1
  obtain ⟨z, k3, e3⟩ := bnd_some.1 e2
  obtain ⟨l, e4, k4⟩ := onCellsOf_some e3
  obtain ⟨k5, e5⟩ := ite_some.1 e4
  obtain ⟨k6, e6⟩ := ite_some.1 e5
  obtain ⟨ls, k7, e7⟩ := bnd_some.1 e6
  exact (newS_lays e7).1
theorem makeSliceO_lays {t : TypeId} {x1 x2 : AV} (e : makeSliceO P t x1 x2 h = some (v, h')) : Lays h h' := by
  obtain ⟨el, k1, e1⟩ := bnd_some.1 e
  obtain ⟨s, k2, e2⟩ := bnd_some.1 e1
  obtain ⟨z, k3, e3⟩ := bnd_some.1 e2
  obtain ⟨l, e4, k4⟩ := onCellsOf_some e3
  obtain ⟨k5, e5⟩ := ite_some.1 e4
  obtain ⟨kok, e5'⟩ := ite_some.1 e5
  obtain ⟨n, k6, e6⟩ := bnd_some.1 e5'
  obtain ⟨c, k7, e7⟩ := bnd_some.1 e6
  obtain ⟨k8, e8⟩ := ite_some.1 e7
  obtain ⟨k9, e9⟩ := ite_some.1 e8
  exact (newS_lays e9).1
theorem op_buildSlice (hh : HR σ N ρ h w) (hσ : ∀ i, (σ i).oneCell' = true) {t : TypeId} {n : Nat} {ps : Array (Nat × Operand)} (ho : o.op = .buildSlice t n ps) {qs : List (Nat × AV)} (hq : PR σ ρ qs (ps.toList.map fun p => (p.1, a.eval p.2))) (e : buildSliceO P t n qs h = some (v, h')) : Okv P σ N o a ρ h w v h' := (op_buildSlice_gen (.self hh (buildSliceO_lays e)) hσ ho hq e).okv
theorem op_makeSlice (hh : HR σ N ρ h w) (hσ : ∀ i, (σ i).oneCell' = true) {t : TypeId} {y1 y2 : Operand} (ho : o.op = .makeSlice t y1 y2) {x1 x2 : AV} (hx1 : VR σ ρ x1 (a.eval y1)) (hx2 : VR σ ρ x2 (a.eval y2)) (e : makeSliceO P t x1 x2 h = some (v, h')) : Okv P σ N o a ρ h w v h' := (op_makeSlice_gen (.self hh (makeSliceO_lays e)) hσ ho hx1 hx2 e).okv
end
end Go.Exe
