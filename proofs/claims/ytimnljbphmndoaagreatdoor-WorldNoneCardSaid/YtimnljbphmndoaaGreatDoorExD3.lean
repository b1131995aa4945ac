/- Operations on values alone: parts, equality, indices, slices. -/
import Derived.Test.YtimnljbphmndoaaGreatDoorExD2
import Derived.Laws.StructEq
import Derived.Laws.Cells
namespace Go.Exe
open Go

section
variable {P : Program}

theorem run_sz {t : TypeId} {n : Nat} (h : szOf P t = some n) (w : World) : (sizeOf t).run P w = .ok n w := by
  obtain ⟨i, h1, h2⟩ := bnd_some.1 h
  cases h2
  have h1 : P.info? t = some i := h1
  simp [sizeOf, typeInfo, h1]
theorem run_agg {t : TypeId} {g : Bool} (h : aggOf P t = some g) (w : World) : (isAgg t).run P w = .ok g w := by
  obtain ⟨d, h1, h2⟩ := bnd_some.1 h
  cases h2
  have h1 : P.underlying t = some d := h1
  cases d <;> simp [isAgg, run_underlying h1, aggD]
theorem und_some {t : TypeId} {d : TypeDesc} (h : undOf P t = some d) : P.underlying t = some d := h
end

theorem cellsOf_one {v : Value} (h : v.oneCell' = true) : v.cells = #[v] := by cases v <;> simp [Value.oneCell'] at h <;> rfl

section
variable {P : Program} {σ : Sig} {ρ : Rho}

theorem ofCells_some {g : Bool} {l : List AV} {v : AV} (h : ofCells g l = some v) : (g = true ∧ v = .agg l) ∨ (g = false ∧ l = [v]) := by
  cases g with
  | true => cases h; exact .inl ⟨rfl, rfl⟩
  | false => match l, h with
    | [a], h => cases h; exact .inr ⟨rfl, rfl⟩
    | [], h => exact nomatch h
    | _ :: _ :: _, h => exact nomatch h

theorem LR.sub {l l' : List AV} {m : List Value} {o n : Nat} (h : LR σ ρ l m) (e : Exe.sub l o n = some l') : LR σ ρ l' ((m.drop o).take n) := by
  obtain ⟨h1, rfl⟩ := sub_some e
  refine LR.mk (by simp [h.length]) fun i a v e1 e2 => ?_
  rw [List.getElem?_take] at e1 e2
  split at e1
  · rename_i hi
    rw [if_pos hi] at e2
    rw [List.getElem?_drop] at e1 e2
    obtain ⟨u, k1, k2⟩ := h.get _ _ e1
    rw [k1] at e2; cases e2; exact k2
  · cases e1
theorem all_sub {l l' : List AV} {o n : Nat} (h : l.all cellB = true) (e : Exe.sub l o n = some l') : l'.all cellB = true := by
  obtain ⟨_, rfl⟩ := sub_some e
  exact List.all_eq_true.2 fun x hx => List.all_eq_true.1 h x (List.mem_of_mem_drop (List.mem_of_mem_take hx))

/-- A part of a struct's or an array's cells. -/
theorem part_ok {t : TypeId} {l l' : List AV} {cs : Array Value} {o n : Nat} {g : Bool} {a : AV} (h : LR σ ρ l cs.toList) (hc : l.all cellB = true) (hn : szOf P t = some n) (hg : aggOf P t = some g) (e : Exe.sub l o n = some l') (e2 : ofCells g l' = some a) :
    ∃ u, VR σ ρ a u ∧ ∀ w, (Go.part t cs o).run P w = .ok u w := by
  have h1 := h.sub e
  have hl := h.length
  obtain ⟨hlen, _⟩ := sub_get e
  have hb := (sub_some e).1
  rcases ofCells_some e2 with ⟨rfl, rfl⟩ | ⟨rfl, rfl⟩
  · refine ⟨.agg (cs.extract o (o + n)), ⟨_, rfl, ?_, all_sub hc e⟩, fun w => by simp [Go.part, run_agg hg, run_sz hn]⟩
    have : (cs.extract o (o + n)).toList = (cs.toList.drop o).take n := by simp
    rw [this]; exact h1
  · obtain ⟨u, r, k1, k2, k3⟩ := h1
    have hn1 : n = 1 := by simpa using hlen.symm
    subst hn1
    refine ⟨u, k2, fun w => ?_⟩
    have : cs[o]? = some u := by
      have e3 : ((cs.toList.drop o).take 1)[0]? = some u := by rw [k1]; rfl
      rw [List.getElem?_take, if_pos (by omega), List.getElem?_drop] at e3
      simpa using e3
    simp [Go.part, run_agg hg, this]

/-! ### Equality -/

theorem eqA_int {k j : IntKind} {x y : Int} {b : Bool} (h : eqA (.int k x) (.int j y) = some b) : k = j ∧ b = (x == y) := by
  obtain ⟨h1, h2⟩ := ite_some.1 (show ite' (kEq k j) (some (ieq x y)) = some b from h)
  cases h2
  exact ⟨kEq_eq h1, ieq_eq x y⟩
theorem eqA_bool {x y b : Bool} (h : eqA (.bool x) (.bool y) = some b) : b = (x == y) := by
  have : (Bool.rec (!y) y x : Bool) = b := by injection (show some (Bool.rec (!y) y x : Bool) = some b from h)
  rw [← this]; cases x <;> cases y <;> rfl
theorem eqA_str {n x m y : Nat} {b : Bool} (h : eqA (.str n x) (.str m y) = some b) {s r : ByteArray} (hs1 : s.data.toList.length = n) (hs2 : bytesN s.data.toList = x) (hr1 : r.data.toList.length = m) (hr2 : bytesN r.data.toList = y) : b = (s.toList == r.toList) := by
  have : strEq n x m y = b := by injection (show some (strEq n x m y) = some b from h)
  subst hs1 hs2 hr1 hr2
  rw [← this, strEq_eq, ByteArray.toList_eq, ByteArray.toList_eq]

theorem rec_some {b : Bool} {x : Option Bool} {r : Bool} (h : (Bool.rec (some false) x b : Option Bool) = some r) : (b = false ∧ r = false) ∨ (b = true ∧ x = some r) := by
  cases b with
  | false => cases h; exact .inl ⟨rfl, rfl⟩
  | true => exact .inr ⟨rfl, h⟩

theorem arr_loop {e : TypeId} {s : Nat} {g : Bool} {m : Nat} {l l' : List AV} {xs ys : Array Value} {f : AV → AV → Option Bool} (hs : szOf P e = some s) (hg : aggOf P e = some g) (hx : LR σ ρ l xs.toList) (hy : LR σ ρ l' ys.toList) (cx : l.all cellB = true) (cy : l'.all cellB = true)
    (hf : ∀ a b r, f a b = some r → ∀ x y, VR σ ρ a x → VR σ ρ b y → ∀ w, (Op.equalIn m e x y).run P w = .ok r w) : ∀ (n i : Nat) (b : Bool), eqArr f s g l l' n i = some b → ∀ w, (forIn (List.range' i n) ((none, ()) : Option Bool × Unit) fun i (_ : Option Bool × Unit) => (do
        let a ← Go.part e xs (i * s)
        let b ← Go.part e ys (i * s)
        let r ← Op.equalIn m e a b
        if (!r) = true then pure (ForInStep.done (some false, ())) else pure (ForInStep.yield (none, ())) : Sem (ForInStep (Option Bool × Unit)))).run P w =
      .ok (if b then (none, ()) else (some false, ())) w
  | 0, i, b, h, w => by cases h; simp
  | n + 1, i, b, h, w => by
    obtain ⟨p, h1, h⟩ := bnd_some.1 (show bnd (sub l (Nat.mul i s) s) _ = some b from h)
    obtain ⟨q, h2, h⟩ := bnd_some.1 h
    obtain ⟨p', h3, h⟩ := bnd_some.1 h
    obtain ⟨q', h4, h⟩ := bnd_some.1 h
    obtain ⟨r, h5, h⟩ := bnd_some.1 h
    obtain ⟨u, k1, k2⟩ := part_ok (P := P) hx cx hs hg h1 h3
    obtain ⟨v, k3, k4⟩ := part_ok (P := P) hy cy hs hg h2 h4
    have k2' : ∀ w, (Go.part e xs (i * s)).run P w = .ok u w := k2
    have k4' : ∀ w, (Go.part e ys (i * s)).run P w = .ok v w := k4
    rw [List.range'_succ, List.forIn_cons]
    rcases rec_some h with ⟨rfl, rfl⟩ | ⟨rfl, h⟩
    · simp only [Sem.run_bind, k2', k4', Result.andThen_ok, hf _ _ _ h5 u v k1 k3, Bool.not_false, if_true, Sem.run_pure, Bool.false_eq_true, if_false]
    · replace h : force (Nat.succ i) (eqArr f s g l l' n) = some b := h
      rw [force_eq] at h
      have ih := arr_loop hs hg hx hy cx cy hf n (i + 1) b h w
      simp only [Sem.run_bind, k2', k4', Result.andThen_ok, hf _ _ _ h5 u v k1 k3, Bool.not_true, Bool.false_eq_true, if_false, Sem.run_pure]
      exact ih

theorem run_equalIn_arr {t e : TypeId} {len s : Nat} {m : Nat} (hu : P.underlying t = some (.array len e)) (hs : szOf P e = some s) {xs ys : Array Value} {b : Bool}
    (h : ∀ w, (forIn (List.range' 0 len) ((none, ()) : Option Bool × Unit) fun i (_ : Option Bool × Unit) => (do
        let a ← Go.part e xs (i * s)
        let b ← Go.part e ys (i * s)
        let r ← Op.equalIn m e a b
        if (!r) = true then pure (ForInStep.done (some false, ())) else pure (ForInStep.yield (none, ())) : Sem (ForInStep (Option Bool × Unit)))).run P w =
      .ok (if b then (none, ()) else (some false, ())) w) (w : World) :
    (Op.equalIn (m + 1) t (.agg xs) (.agg ys)).run P w = .ok b w := by
  rw [Op.equalIn]
  simp only [Sem.run_bind, run_underlying hu, Result.andThen_ok, run_sz hs, Std.Legacy.Range.forIn_eq_forIn_range', Std.Legacy.Range.size, Nat.sub_zero, Nat.add_one_sub_one, Nat.div_one]
  rw [h w]
  cases b <;> rfl

theorem fieldsOf_eq {t : TypeId} {fs : Array Field} (h : P.underlying t = some (.struct fs)) : P.fieldsOf t = fs := by simp [Program.fieldsOf, h]

theorem fl_loop {m : Nat} {l l' : List AV} {xs ys : Array Value} {f : TypeId → AV → AV → Option Bool} (hx : LR σ ρ l xs.toList) (hy : LR σ ρ l' ys.toList) (cx : l.all cellB = true) (cy : l'.all cellB = true)
    (hf : ∀ t a b r, f t a b = some r → ∀ x y, VR σ ρ a x → VR σ ρ b y → ∀ w, (Op.equalIn m t x y).run P w = .ok r w) : ∀ (fs : List Field) (b : Bool), eqFl P f l l' fs = some b → ∀ w, (Op.eqFields m xs ys fs).run P w = .ok b w
  | [], b, h, w => by cases h; rfl
  | fl :: fs, b, h, w => by
    have h : (Bool.rec (bnd (szOf P fl.type) fun s => bnd (aggOf P fl.type) fun g => bnd (sub l fl.offset s) fun a => bnd (sub l' fl.offset s) fun b => bnd (ofCells g a) fun a => bnd (ofCells g b) fun b => bnd (f fl.type a b) fun r => Bool.rec (some false) (eqFl P f l l' fs) r) none (fl.name == "_") : Option Bool) = some b := h
    cases hn : fl.name == "_" with
    | true => rw [hn] at h; exact nomatch h
    | false =>
      rw [hn] at h
      have hne : fl.name ≠ "_" := by simpa using hn
      obtain ⟨s, h1, h⟩ := bnd_some.1 h
      obtain ⟨g, h2, h⟩ := bnd_some.1 h
      obtain ⟨p, h3, h⟩ := bnd_some.1 h
      obtain ⟨q, h4, h⟩ := bnd_some.1 h
      obtain ⟨p', h5, h⟩ := bnd_some.1 h
      obtain ⟨q', h6, h⟩ := bnd_some.1 h
      obtain ⟨r, h7, h⟩ := bnd_some.1 h
      obtain ⟨u, k1, k2⟩ := part_ok (P := P) hx cx h1 h2 h3 h5
      obtain ⟨v, k3, k4⟩ := part_ok (P := P) hy cy h1 h2 h4 h6
      rcases rec_some h with ⟨rfl, rfl⟩ | ⟨rfl, h⟩
      · simp only [Op.eqFields, hne, ne_eq, not_false_eq_true, if_true, Sem.run_bind, k2, k4, Result.andThen_ok, hf _ _ _ _ h7 u v k1 k3, Sem.run_ite, Sem.run_pure]; rfl
      · have ih := fl_loop hx hy cx cy hf fs b h w
        simp only [Op.eqFields, hne, ne_eq, not_false_eq_true, if_true, Sem.run_bind, k2, k4, Result.andThen_ok, hf _ _ _ _ h7 u v k1 k3, Sem.run_ite, Sem.run_pure, Bool.not_true, Bool.false_eq_true, if_false]
        exact ih

theorem eqP_ok : ∀ (n : Nat) {t : TypeId} {a b : AV} {r : Bool}, eqP P n t a b = some r → ∀ {x y : Value}, VR σ ρ a x → VR σ ρ b y → ∀ (m : Nat), n ≤ m → ∀ w, (Op.equalIn m t x y).run P w = .ok r w
  | 0, t, a, b, r, h, _, _, _, _, _, _, _ => nomatch h
  | n + 1, t, a, b, r, h, x, y, hx, hy, m, hm, w => by
    obtain ⟨m, rfl⟩ : ∃ k, m = k + 1 := ⟨m - 1, by omega⟩
    unfold eqP at h
    obtain ⟨d, h1, h⟩ := bnd_some.1 h
    have hu := und_some h1
    split at h
    · cases hx; cases hy; rw [eqA_bool h]; exact run_equalIn_bool' (P := P) w m t _ _ hu
    · cases hx; cases hy; obtain ⟨rfl, rfl⟩ := eqA_int h; exact run_equalIn_int (P := P) w m t _ _ _ _ hu
    · obtain ⟨s, rfl, hs1, hs2⟩ := hx
      obtain ⟨s', rfl, hr1, hr2⟩ := hy
      rw [eqA_str h hs1 hs2 hr1 hr2]; exact run_equalIn_string (P := P) w m t _ _ hu
    · skip
      obtain ⟨cs, rfl, k1, k2⟩ := hx
      obtain ⟨cs', rfl, k3, k4⟩ := hy
      obtain ⟨h2, h⟩ := ite_some.1 h
      rw [run_equalIn_struct (P := P) w m t cs cs' (by rw [fieldsOf_eq hu]; exact hu) (by simpa using h2), fieldsOf_eq hu]
      exact fl_loop k1 k3 k2 k4 (fun t a b r e x y hx hy w => eqP_ok n e hx hy m (by omega) w) _ r h w
    · skip
      obtain ⟨cs, rfl, k1, k2⟩ := hx
      obtain ⟨cs', rfl, k3, k4⟩ := hy
      obtain ⟨s, h2, h⟩ := bnd_some.1 h
      obtain ⟨g, h3, h⟩ := bnd_some.1 h
      exact run_equalIn_arr hu h2 (arr_loop h2 h3 k1 k3 k2 k4 (fun a b r e x y hx hy w => eqP_ok n e hx hy m (by omega) w) _ 0 r h) w
    · exact nomatch h
end
end Go.Exe
