/- What an operation that writes, or lays new memory, does to the rows. -/
import Derived.Test.YteaghbcenjhjhaaDoorPodC
import Derived.Deep.AppendSrc
import Derived.Laws.OwnMore
namespace Go.Pod
open Go

theorem RowR_to {x y : Cx} (h : x.le y) {u : Value} {row : Row} (hb : ∀ b, blkOf u = some b → y.w.heap[b]? = x.w.heap[b]?) (k : RowR x u row) : RowR y u row := by
  cases row with
  | box d =>
    obtain ⟨b, cs, e, rfl, h2, h3, h4⟩ := k
    exact ⟨b, cs, e, rfl, h2.to (hb b rfl), h3, (VR_le h d).m _ _ h4⟩
  | seq e n sz d =>
    refine ⟨k.1, k.2.imp (fun ⟨h1, h2, h3⟩ => ⟨h1, h2, (VR_le h d).m _ _ h3⟩) ?_⟩
    rintro ⟨b, cap, cur, rfl, h2, h3, h4, h5, h6⟩
    exact ⟨b, cap, cur, rfl, h2.to (hb b rfl), h3, h4, h5, (VR_le h d).m _ _ h6⟩

theorem Step.leF {X : Nat → Prop} {ρ ρ' : Hnd} {w w' : World} (h : Step Full ρ w ρ' w') : (cx X ρ w).le (cx X ρ' w') := h.le

/-- New memory that no row speaks of. -/
theorem HRel.beside {X : Nat → Prop} {ρ : Hnd} {h : Heap} {w w' : World} (hh : HRel X ρ h w) (st : Step Full ρ w ρ w') (hb : ∀ b, b < w.heap.size → w'.heap[b]? = w.heap[b]?) : HRel X ρ h w' where
  live := fun r row e => by
    obtain ⟨u, h1, h2⟩ := hh.live r row e
    refine ⟨u, h1, RowR_to st.leF (fun b hu => hb b ?_) h2⟩
    cases row with
    | box d => obtain ⟨b', cs, e', rfl, h3, _⟩ := h2; cases hu; exact h3.lt
    | seq e' n sz d =>
      rcases h2.2 with ⟨rfl, _⟩ | ⟨b', cap, cur, rfl, h3, _⟩
      · cases hu
      · cases hu; exact h3.lt
  dead := hh.dead
  past := hh.past
  inj := hh.inj
  apart := hh.apart
  old := fun b hx => Nat.lt_of_lt_of_le (hh.old b hx) st.size
  gl := hh.gl.step st

theorem RowR_lt {x : Cx} {u : Value} {row : Row} (k : RowR x u row) {b : Nat} (hu : blkOf u = some b) : b < x.w.heap.size := by
  cases row with
  | box d => obtain ⟨b', cs, e', rfl, h3, _⟩ := k; cases hu; exact h3.lt
  | seq e' n sz d =>
    rcases k.2 with ⟨rfl, _⟩ | ⟨b', cap, cur, rfl, h3, _⟩
    · cases hu
    · cases hu; exact h3.lt

theorem HRel.own_lt {X : Nat → Prop} {ρ : Hnd} {h : Heap} {w : World} (hh : HRel X ρ h w) {b : Nat} (hb : own ρ b) : b < w.heap.size := by
  obtain ⟨r, u, h1, h2⟩ := hb
  cases hr : h[r]? with
  | none => rw [hh.past r hr] at h1; cases h1
  | some q =>
    cases q with
    | none => rcases hh.dead r hr with e | e <;> (rw [e] at h1; cases h1)
    | some row =>
      obtain ⟨u', h3, h4⟩ := hh.live r row hr
      obtain rfl : u = u' := Option.some.inj (Option.some.inj (h1.symm.trans h3))
      exact RowR_lt h4 h2

def hset (ρ : Hnd) (r : Nat) (o : Option Value) : Hnd := fun q => if q = r then some o else ρ q

theorem hset_self (ρ : Hnd) (r : Nat) (o : Option Value) : hset ρ r o r = some o := by simp [hset]
theorem hset_other (ρ : Hnd) {r q : Nat} (o : Option Value) (h : q ≠ r) : hset ρ r o q = ρ q := by simp [hset, h]

theorem own_hset {ρ : Hnd} {r : Nat} {o : Option Value} {b : Nat} (h : own (hset ρ r o) b) : (∃ u, o = some u ∧ blkOf u = some b) ∨ own ρ b := by
  obtain ⟨q, u, h1, h2⟩ := h
  by_cases hq : q = r
  · subst hq; rw [hset_self] at h1; cases h1; exact .inl ⟨u, rfl, h2⟩
  · rw [hset_other _ _ hq] at h1; exact .inr ⟨q, u, h1, h2⟩

/-- One row more, over a block that is new. -/
theorem HRel.push {X : Nat → Prop} {ρ : Hnd} {h : Heap} {w w' : World} (hh : HRel X ρ h w) {u : Value} {row : Row} (os : w'.os = w.os) (tape : w'.tape = w.tape) (output : w'.output = w.output) (drawn : w.drawn ≤ w'.drawn) (size : w.heap.size ≤ w'.heap.size)
    (hb : ∀ b, b < w.heap.size → w'.heap[b]? = w.heap[b]?) (hu : ∀ b, blkOf u = some b → w.heap.size ≤ b) (hr : ∀ y : Cx, (cx X ρ w).le y → y.w = w' → RowR y u row) :
    Step Full ρ w (hset ρ h.length (some u)) w' ∧ HRel X (hset ρ h.length (some u)) (h ++ [some row]) w' := by
  have st : Step Full ρ w (hset ρ h.length (some u)) w' := {
    os := os, tape := tape, output := output, drawn := fun _ => drawn, size := size
    block := fun b hlt _ => hb b hlt
    rho := fun r _ => by
      by_cases hr : r = h.length
      · subst hr; exact .inl (hh.past _ (by simp))
      · exact .inr (.inr (hset_other _ _ hr))
    owns := fun b ho => (own_hset ho).elim (fun ⟨u', e, k⟩ => by cases e; exact .inr (hu b k)) .inl }
  refine ⟨st, ?_⟩
  exact {
    live := fun r row' e => by
      by_cases hlt : r < h.length
      · rw [List.getElem?_append_left hlt] at e
        obtain ⟨u', h1, h2⟩ := hh.live r row' e
        exact ⟨u', by rw [hset_other _ _ (by omega)]; exact h1, RowR_to st.leF (fun b hb' => hb b (RowR_lt h2 hb')) h2⟩
      · have hrl : r = h.length := by
          rcases Nat.lt_or_ge h.length r with h' | h'
          · rw [List.getElem?_eq_none (by simp; omega)] at e; cases e
          · omega
        subst hrl
        simp only [List.getElem?_append_right (Nat.le_refl _), Nat.sub_self, List.getElem?_cons_zero, Option.some.injEq] at e
        subst e
        exact ⟨u, hset_self _ _ _, hr _ st.leF rfl⟩
    dead := fun r e => by
      by_cases hlt : r < h.length
      · rw [List.getElem?_append_left hlt] at e
        rw [hset_other _ _ (by omega)]; exact hh.dead r e
      · rcases Nat.lt_or_ge h.length r with h' | h'
        · rw [List.getElem?_eq_none (by simp; omega)] at e; cases e
        · obtain rfl : r = h.length := by omega
          simp at e
    past := fun r e => by
      have : (h ++ [some row]).length ≤ r := by simpa using e
      simp at this
      rw [hset_other _ _ (by omega)]
      exact hh.past r (by simp; omega)
    inj := fun r r' a a' b h1 h2 h3 h4 => by
      by_cases e1 : r = h.length <;> by_cases e2 : r' = h.length
      · rw [e1, e2]
      · subst e1; rw [hset_self] at h1; cases h1; rw [hset_other _ _ e2] at h2
        have := hh.own_lt ⟨r', a', h2, h4⟩
        have := hu b h3; omega
      · subst e2; rw [hset_self] at h2; cases h2; rw [hset_other _ _ e1] at h1
        have := hh.own_lt ⟨r, a, h1, h3⟩
        have := hu b h4; omega
      · rw [hset_other _ _ e1] at h1; rw [hset_other _ _ e2] at h2
        exact hh.inj r r' a a' b h1 h2 h3 h4
    apart := fun b ho hx => (own_hset ho).elim (fun ⟨u', e, k⟩ => by cases e; have := hu b k; have := hh.old b hx; omega) fun ho => hh.apart b ho hx
    old := fun b hx => Nat.lt_of_lt_of_le (hh.old b hx) size
    gl := hh.gl.step st }

/-- The row 'r' gets another content, in its own block. -/
theorem HRel.set {X : Nat → Prop} {ρ : Hnd} {h : Heap} {w w' : World} (hh : HRel X ρ h w) {r : Nat} {row : Row} {u : Value} (hr : r < h.length) (hu : ρ r = some (some u)) (os : w'.os = w.os) (tape : w'.tape = w.tape) (output : w'.output = w.output) (drawn : w.drawn ≤ w'.drawn)
    (size : w'.heap.size = w.heap.size) (hb : ∀ b, blkOf u ≠ some b → w'.heap[b]? = w.heap[b]?) (hrow : ∀ y : Cx, (cx X ρ w).le y → y.w = w' → RowR y u row) :
    Step Full ρ w ρ w' ∧ HRel X ρ (h.set r (some row)) w' := by
  have st : Step Full ρ w ρ w' := {
    os := os, tape := tape, output := output, drawn := fun _ => drawn, size := Nat.le_of_eq size.symm
    block := fun b hlt ho => hb b fun e => ho ⟨r, u, hu, e⟩
    rho := fun _ _ => .inr (.inr rfl)
    owns := fun b ho => .inl ho }
  refine ⟨st, ?_⟩
  exact {
    live := fun q row' e => by
      by_cases hq : q = r
      · subst hq
        rw [List.getElem?_set_self hr] at e
        cases e
        exact ⟨u, hu, hrow _ st.leF rfl⟩
      · rw [List.getElem?_set_ne (Ne.symm hq)] at e
        obtain ⟨u', h1, h2⟩ := hh.live q row' e
        refine ⟨u', h1, RowR_to st.leF (fun b hb' => hb b fun e' => hq ?_) h2⟩
        exact hh.inj q r u' u b h1 hu hb' e'
    dead := fun q e => by
      by_cases hq : q = r
      · subst hq; rw [List.getElem?_set_self hr] at e; cases e
      · rw [List.getElem?_set_ne (Ne.symm hq)] at e; exact hh.dead q e
    past := fun q e => hh.past q (by simpa using e)
    inj := hh.inj
    apart := hh.apart
    old := fun b hx => size ▸ hh.old b hx
    gl := hh.gl.step st }

/-- The row 'r' is forgotten, and a row is there more that takes its place (in its block, or in a new one). -/
theorem HRel.move {X : Nat → Prop} {ρ : Hnd} {h : Heap} {w w' : World} (hh : HRel X ρ h w) {r : Nat} {row : Row} {u v : Value} (hr : r < h.length) (hu : ρ r = some (some u)) (os : w'.os = w.os) (tape : w'.tape = w.tape) (output : w'.output = w.output) (drawn : w.drawn ≤ w'.drawn)
    (size : w.heap.size ≤ w'.heap.size) (hb : ∀ b, b < w.heap.size → blkOf u ≠ some b → w'.heap[b]? = w.heap[b]?) (hv : ∀ b, blkOf v = some b → blkOf u = some b ∨ w.heap.size ≤ b) (hrow : ∀ y : Cx, (cx X ρ w).le y → y.w = w' → RowR y v row) :
    Step Full ρ w (hset (hset ρ r none) h.length (some v)) w' ∧ HRel X (hset (hset ρ r none) h.length (some v)) (h.set r none ++ [some row]) w' := by
  have hne : r ≠ h.length := by omega
  have hown : ∀ b, own (hset (hset ρ r none) h.length (some v)) b → blkOf v = some b ∨ ∃ q u', q ≠ r ∧ ρ q = some (some u') ∧ blkOf u' = some b := fun b ⟨q, u', h1, h2⟩ => by
    by_cases e1 : q = h.length
    · subst e1; rw [hset_self] at h1; cases h1; exact .inl h2
    · rw [hset_other _ _ e1] at h1
      by_cases e2 : q = r
      · subst e2; rw [hset_self] at h1; cases h1
      · rw [hset_other _ _ e2] at h1; exact .inr ⟨q, u', e2, h1, h2⟩
  have st : Step Full ρ w (hset (hset ρ r none) h.length (some v)) w' := {
    os := os, tape := tape, output := output, drawn := fun _ => drawn, size := size
    block := fun b hlt ho => hb b hlt fun e => ho ⟨r, u, hu, e⟩
    rho := fun q _ => by
      by_cases e1 : q = h.length
      · subst e1; exact .inl (hh.past _ (by simp))
      · rw [hset_other _ _ e1]
        by_cases e2 : q = r
        · subst e2; rw [hset_self]; exact .inr (.inl rfl)
        · rw [hset_other _ _ e2]; exact .inr (.inr rfl)
    owns := fun b ho => (hown b ho).elim (fun e => (hv b e).imp (fun e' => ⟨r, u, hu, e'⟩) id) fun ⟨q, u', _, h1, h2⟩ => .inl ⟨q, u', h1, h2⟩ }
  refine ⟨st, ?_⟩
  exact {
    live := fun q row' e => by
      by_cases hlt : q < h.length
      · rw [List.getElem?_append_left (by simpa using hlt)] at e
        by_cases hq : q = r
        · subst hq; rw [List.getElem?_set_self hr] at e; cases e
        · rw [List.getElem?_set_ne (Ne.symm hq)] at e
          obtain ⟨u', h1, h2⟩ := hh.live q row' e
          refine ⟨u', by rw [hset_other _ _ (by omega), hset_other _ _ hq]; exact h1, RowR_to st.leF (fun b hb' => hb b (RowR_lt h2 hb') fun e' => hq ?_) h2⟩
          exact hh.inj q r u' u b h1 hu hb' e'
      · have hrl : q = h.length := by
          rcases Nat.lt_or_ge h.length q with h' | h'
          · rw [List.getElem?_eq_none (by simp; omega)] at e; cases e
          · omega
        subst hrl
        rw [List.getElem?_append_right (by simp)] at e
        simp only [List.length_set, Nat.sub_self, List.getElem?_cons_zero, Option.some.injEq] at e
        subst e
        exact ⟨v, hset_self _ _ _, hrow _ st.leF rfl⟩
    dead := fun q e => by
      by_cases hlt : q < h.length
      · rw [List.getElem?_append_left (by simpa using hlt)] at e
        rw [hset_other _ _ (by omega)]
        by_cases hq : q = r
        · subst hq; exact .inr (hset_self _ _ _)
        · rw [List.getElem?_set_ne (Ne.symm hq)] at e; rw [hset_other _ _ hq]; exact hh.dead q e
      · rcases Nat.lt_or_ge h.length q with h' | h'
        · rw [List.getElem?_eq_none (by simp; omega)] at e; cases e
        · obtain rfl : q = h.length := by omega
          rw [List.getElem?_append_right (by simp)] at e
          simp at e
    past := fun q e => by
      have : (h.set r none ++ [some row]).length ≤ q := by simpa using e
      simp at this
      rw [hset_other _ _ (by omega), hset_other _ _ (by omega)]
      exact hh.past q (by simp; omega)
    inj := fun q q' a a' b h1 h2 h3 h4 => by
      have key : ∀ q a, hset (hset ρ r none) h.length (some v) q = some (some a) → (q = h.length ∧ a = v) ∨ (q ≠ r ∧ q ≠ h.length ∧ ρ q = some (some a)) := fun q a e => by
        by_cases e1 : q = h.length
        · subst e1; rw [hset_self] at e; cases e; exact .inl ⟨rfl, rfl⟩
        · rw [hset_other _ _ e1] at e
          by_cases e2 : q = r
          · subst e2; rw [hset_self] at e; cases e
          · rw [hset_other _ _ e2] at e; exact .inr ⟨e2, e1, e⟩
      have clash : ∀ q a b, q ≠ r → ρ q = some (some a) → blkOf a = some b → blkOf v = some b → False := fun q a b hq hρ hab hvb => by
        rcases hv b hvb with e | e
        · exact hq (hh.inj q r a u b hρ hu hab e)
        · have := hh.own_lt ⟨q, a, hρ, hab⟩; omega
      rcases key q a h1 with ⟨e1, rfl⟩ | ⟨e1, _, e1'⟩ <;> rcases key q' a' h2 with ⟨e2, rfl⟩ | ⟨e2, _, e2'⟩
      · rw [e1, e2]
      · exact (clash q' a' b e2 e2' h4 h3).elim
      · exact (clash q a b e1 e1' h3 h4).elim
      · exact hh.inj q q' a a' b e1' e2' h3 h4
    apart := fun b ho hx => (hown b ho).elim (fun e => (hv b e).elim (fun e' => hh.apart b ⟨r, u, hu, e'⟩ hx) fun e' => by have := hh.old b hx; omega) fun ⟨q, u', _, h1, h2⟩ => hh.apart b ⟨q, u', h1, h2⟩ hx
    old := fun b hx => Nat.lt_of_lt_of_le (hh.old b hx) size
    gl := hh.gl.step st }

/-! ### Cells that are stored -/

theorem setCells_fz (b : Nat) : ∀ (l : List Value) (o : Nat) (w : World) (a : Addr), (w.setCells b o l).frozen? a = w.frozen? a
  | [], _, _, _ => rfl
  | v :: l, o, w, a => by rw [World.setCells, setCells_fz b l, World.frozen?_setCell]

theorem setCells_os (b : Nat) : ∀ (vs : List Value) (o : Nat) (w : World), (w.setCells b o vs).os = w.os ∧ (w.setCells b o vs).tape = w.tape ∧ (w.setCells b o vs).output = w.output ∧ (w.setCells b o vs).heap.size = w.heap.size
  | [], _, _ => ⟨rfl, rfl, rfl, rfl⟩
  | v :: vs, o, w => by
    have := setCells_os b vs (o + 1) (w.setCell ⟨b, o, none⟩ v)
    exact ⟨this.1, this.2.1, this.2.2.1, by rw [World.setCells, this.2.2.2]; simp [World.setCell]⟩

theorem setCells_drawn (b : Nat) : ∀ (vs : List Value) (o : Nat) (w : World), (w.setCells b o vs).drawn = w.drawn
  | [], _, _ => rfl
  | v :: vs, o, w => by rw [World.setCells, setCells_drawn b vs]; rfl

theorem setCells_other (b : Nat) {k : Nat} (hk : k ≠ b) : ∀ (vs : List Value) (o : Nat) (w : World), (w.setCells b o vs).heap[k]? = w.heap[k]?
  | [], _, _ => rfl
  | v :: vs, o, w => by rw [World.setCells, setCells_other b hk vs, heap_setCell_other w _ k v hk]

theorem cel_setCell {w : World} {b : Nat} {cs : Array Value} {e : TypeId} (h : Cel w b cs e) (o : Nat) (v : Value) : Cel (w.setCell ⟨b, o, none⟩ v) b (cs.setIfInBounds o v) e := by
  obtain ⟨fz, h1, h2⟩ := h
  have hlt := (Array.getElem?_eq_some_iff.1 h1).1
  refine ⟨fz, ?_, by simpa using h2⟩
  obtain ⟨_, h3⟩ := Array.getElem?_eq_some_iff.1 h1
  simp [World.setCell, hlt, Array.getElem_modify, h3]

theorem setCells_row (b : Nat) (e : TypeId) : ∀ (vs : List Value) (o : Nat) (w : World) (cs : Array Value), Cel w b cs e → o + vs.length ≤ cs.size →
    ∃ cs' : Array Value, Cel (w.setCells b o vs) b cs' e ∧ cs'.size = cs.size ∧ (∀ j, j < vs.length → cs'[o + j]? = vs[j]?) ∧ ∀ j, (j < o ∨ o + vs.length ≤ j) → cs'[j]? = cs[j]?
  | [], o, w, cs, h, _ => ⟨cs, h, rfl, fun j hj => by simp at hj, fun _ _ => rfl⟩
  | v :: vs, o, w, cs, h, hle => by
    simp only [List.length_cons] at hle
    obtain ⟨cs', h1, h2, h3, h4⟩ := setCells_row b e vs (o + 1) (w.setCell ⟨b, o, none⟩ v) (cs.setIfInBounds o v) (cel_setCell h o v) (by simp; omega)
    refine ⟨cs', h1, by simpa using h2, fun j hj => ?_, fun j hj => ?_⟩
    · cases j with
      | zero =>
        rw [Nat.add_zero, h4 o (.inl (by omega))]
        simp [show o < cs.size by omega]
      | succ j =>
        have := h3 j (by simpa using hj)
        rw [show o + (j + 1) = o + 1 + j by omega, this]; rfl
    · simp only [List.length_cons] at hj
      rw [h4 j (by omega), Array.getElem?_setIfInBounds_ne (by omega)]

theorem look_heap {w : World} {b : Nat} {cs : Array Value} {e : TypeId} (h : Cel w b cs e) (i : Nat) : memL w b i = cs[i]? := h.cell i

/-! ### The operations -/

theorem VR_ones {x : Cx} {d : D} (hs : d.solid = true) {v : Value} (h : (VR x d).v v) : ∀ u ∈ v.cells.toList, u.oneCell' = true := by
  intro u hu
  cases ha : d.isAg with
  | true =>
    obtain ⟨cs, rfl, hz, hm⟩ := agg_m ha h
    obtain ⟨i, hi, rfl⟩ := List.mem_iff_getElem.1 hu
    have hi' : i < cs.size := by simpa [Value.cells] using hi
    obtain ⟨u', h1, h2⟩ := VR_one d hm i (by omega)
    have : cs[i]? = some u' := by simpa using h1
    simp only [Value.cells, Array.getElem_toList]
    rw [Array.getElem?_eq_getElem hi'] at this
    cases this; exact h2
  | false =>
    have h2 : v.oneCell' = true := by
      cases d <;> simp only [D.solid, D.isAg, Bool.false_eq_true, Bool.true_eq_false] at hs ha
      all_goals exact h.2
    cases v <;> simp only [Value.oneCell', Bool.false_eq_true] at h2
    all_goals (simp only [Value.cells, List.mem_singleton] at hu; subst hu; rfl)

section
variable {P : Program} {X : Nat → Prop} {ρ : Hnd} {h : Heap} {w : World}

/-- A variable of the call's own. -/
theorem push_box (hh : HRel X ρ h w) {d : D} (hs : d.solid = true) {v : Value} (hv : (VR (cx X ρ w) d).v v) (e : TypeId) :
    Step Full ρ w (hset ρ h.length (some (.pointer (some ⟨w.heap.size, 0, none⟩)))) (w.alloc (.cells v.cells e)) ∧
      HRel X (hset ρ h.length (some (.pointer (some ⟨w.heap.size, 0, none⟩)))) (h ++ [some (.box d)]) (w.alloc (.cells v.cells e)) := by
  refine hh.push rfl rfl rfl (Nat.le_refl _) (by simp) (fun b hb => RowKit.Below.heap_alloc w _ b hb) (fun b e => by cases e; exact Nat.le_refl _) fun y hy hw => ?_
  refine ⟨_, v.cells, e, rfl, by rw [hw]; exact .mk0 (MapKept.heap_alloc w _).1, VR_size hs hv, (VR_le hy d).m _ _ (VR_lay hs hv (fun i _ => by rw [Nat.zero_add]))⟩

theorem ptr_new {x : Cx} {r b : Nat} (h : x.ρ r = some (some (.pointer (some ⟨b, 0, none⟩)))) : (VR x (.ptr r [])).v (.pointer (some ⟨b, 0, none⟩)) :=
  ⟨⟨_, h, fun u e => by cases e; exact ⟨b, rfl, rfl⟩⟩, rfl⟩

/-- An empty slice that is to grow. -/
theorem push_nil (hh : HRel X ρ h w) (e : TypeId) (sz : Nat) (d : D) (hd : d.size = 0) (hm : ∀ x : Cx, (VR x d).m (fun _ => none) 0) : Step Full ρ w (hset ρ h.length (some (.slice none 0 0))) w ∧ HRel X (hset ρ h.length (some (.slice none 0 0))) (h ++ [some (.seq e 0 sz d)]) w :=
  hh.push rfl rfl rfl (Nat.le_refl _) (Nat.le_refl _) (fun _ _ => rfl) (fun b e => by cases e) fun y _ _ => ⟨by simpa using hd, .inl ⟨rfl, rfl, hm y⟩⟩

/-- A store through a pointer. -/
def storeR (h : Heap) (r : Nat) (p : List Stp) (y : D) : Option (List Prop × Heap) :=
  match h[r]? with
  | some (some (.box d)) => (upd p d y).map fun q => (q.1, h.set r (some (.box q.2)))
  | some (some (.seq e n sz d)) => (upd p d y).map fun q => (q.1, h.set r (some (.seq e n sz q.2)))
  | _ => none

theorem getElem?_lt {α : Type} {l : List α} {i : Nat} {x : α} (h : l[i]? = some x) : i < l.length := by
  rcases Nat.lt_or_ge i l.length with h' | h'
  · exact h'
  · rw [List.getElem?_eq_none h'] at h; cases h

theorem storeR_ok (hh : HRel X ρ h w) {r : Nat} {p : List Stp} {y : D} {ob : List Prop} {h' : Heap} (e : storeR h r p y = some (ob, h')) (ha : All ob) (hs : y.solid = true) {T : TypeId} {i : TypeInfo} (hi : P.info? T = some i) (hz : i.size = y.size)
    {vp vy : Value} (hp : (VR (cx X ρ w) (.ptr r p)).v vp) (hy : (VR (cx X ρ w) y).v vy) :
    ∃ w', (Instr.storeAt T vp vy).run P w = .ok () w' ∧ Step Full ρ w ρ w' ∧ HRel X ρ h' w' := by
  have fin : ∀ (d d' : D) (b : Nat) (cs : Array Value) (el : TypeId) (u : Value) (row : Row), rowOf h r = some d → ρ r = some (some u) → blkOf u = some b → Cel w b cs el → d.size ≤ cs.size → upd p d y = some (ob, d') → (VR (cx X ρ w) d).m (fun i => cs[i]?) 0 →
      (∀ (z : Cx) (cs' : Array Value), (cx X ρ w).le z → Cel z.w b cs' el → cs'.size = cs.size → (VR z d').m (fun i => cs'[i]?) 0 → d'.size = d.size → RowR z u row) →
      ∃ w', (Instr.storeAt T vp vy).run P w = .ok () w' ∧ Step Full ρ w ρ w' ∧ HRel X ρ (h.set r (some row)) w' := fun d d' b cs el u row hr hu hb hc hdle hup hm hrow => by
    obtain ⟨u', b', k1, k2, rfl⟩ := live_ptr hh hr hp
    obtain rfl : u = u' := Option.some.inj (Option.some.inj (hu.symm.trans k1))
    obtain rfl : b = b' := Option.some.inj (hb.symm.trans k2)
    obtain ⟨z1, z2, z3⟩ := upd_m (x := cx X ρ w) p hup ha
    have hvz := VR_size hs hy
    have hlen : vy.cells.toList.length = y.size := by simpa using hvz
    have hfit : pathOff p + vy.cells.toList.length ≤ cs.size := by omega
    have run := run_storeCells_cells (P := P) b (pathOff p) vy.cells.toList 0 w (fun j hj => by
        rw [Nat.add_zero]
        have : pathOff p + j < cs.size := by omega
        rw [hc.cell]; simp [this]) (fun j hj => by rw [Nat.add_zero]; exact hc.fz (by omega)) (fun v hv => VR_ones hs hy v hv)
    rw [Nat.add_zero] at run
    obtain ⟨cs', h1, h2, h3, h4⟩ := setCells_row b el vy.cells.toList (pathOff p) w cs hc hfit
    obtain ⟨o1, o2, o3, o4⟩ := setCells_os b vy.cells.toList (pathOff p) w
    refine ⟨w.setCells b (pathOff p) vy.cells.toList, ?_, ?_⟩
    · simp [Instr.storeAt, Instr.sureAddr, storeVar, run_sizeOf' hi, hz, hvz, run]
    · refine hh.set (by
        unfold rowOf at hr
        split at hr
        · exact getElem?_lt ‹_›
        · exact getElem?_lt ‹_›
        · cases hr) hu o1 o2 o3 (Nat.le_of_eq (setCells_drawn _ _ _ w).symm) o4 (fun k hk => setCells_other b (fun e => hk (by rw [e]; exact hb)) _ _ _) fun z hle hw => ?_
      refine hrow z cs' hle (by rw [hw]; exact h1) h2 ((VR_le hle d').m _ _ (z3 hm (fun j hj ho => ?_) ?_)) z1
      · simp only [Nat.zero_add]
        exact h4 j (by omega)
      · refine VR_lay hs hy fun j hj => ?_
        rw [Nat.zero_add]
        have := h3 j (by simpa using hj)
        simpa using this
  unfold storeR at e
  split at e
  · rename_i d hr
    simp only [Option.map_eq_some_iff, Prod.mk.injEq] at e
    obtain ⟨q, hq, rfl, rfl⟩ := e
    obtain ⟨u, k1, b, cs, el, rfl, k3, k4, k5⟩ := hh.live r _ hr
    exact fin d q.2 b cs el _ _ (by simp [rowOf, hr]) k1 rfl k3 (by omega) hq k5 fun z cs' _ h1 h2 h3 h4 => ⟨b, cs', el, rfl, h1, by omega, h3⟩
  · rename_i el n sz d hr
    simp only [Option.map_eq_some_iff, Prod.mk.injEq] at e
    obtain ⟨q, hq, rfl, rfl⟩ := e
    obtain ⟨u, k1, k2, k3⟩ := hh.live r _ hr
    rcases k3 with ⟨rfl, _⟩ | ⟨b, cap, cur, rfl, k4, k5, k5', k6, k7⟩
    · obtain ⟨u', b', l1, l2, _⟩ := live_ptr hh (d := d) (by simp [rowOf, hr]) hp
      obtain rfl : _ = u' := Option.some.inj (Option.some.inj (k1.symm.trans l1))
      cases l2
    · exact fin d q.2 b cur el _ _ (by simp [rowOf, hr]) k1 rfl k4 (by rw [k2, k6]; exact Nat.mul_le_mul_right _ k5) hq k7 fun z cs' _ h1 h2 h3 h4 => ⟨by omega, .inr ⟨b, cap, cs', rfl, h1, k5, k5', by omega, h3⟩⟩
  · cases e
end

/-! ### append -/

/-- 'dn' is 'd' with 's' behind it. -/
def CatOk (d s dn : D) : Prop := dn.size = d.size + s.size ∧ ∀ (x : Cx) (L : Look) (o : Nat), (VR x d).m L o → (VR x s).m L (o + d.size) → (VR x dn).m L o

def bytesD (s : ByteArray) : D := .ints .u8 s.size fun i => ((s[i]?).getD 0).toNat

/-- What a source holds: how many elements, and their cells. -/
def srcOf (h : Heap) (sz : Nat) : D → Option (Nat × D)
  | .lit m sz' g => if sz' = sz then some (m, .arr m sz g) else none
  | .own r =>
    match h[r]? with
    | some (some (.seq _ n sz' d)) => if sz' = sz then some (n, d) else none
    | _ => none
  | .nils => some (0, .nil)
  | .str s => if sz = 1 then some (s.size, bytesD s) else none
  | _ => none

def listOf (L : Look) (o n : Nat) : List Value := (List.range n).map fun j => (L (o + j)).getD undef

theorem listOf_get {x : Cx} {d : D} {L : Look} {o : Nat} (h : (VR x d).m L o) : ∀ j, j < d.size → (listOf L o d.size)[j]? = L (o + j) := fun j hj => by
  obtain ⟨u, h1, _⟩ := VR_one d h j hj
  simp [listOf, hj, h1]

theorem listOf_one {x : Cx} {d : D} {L : Look} {o : Nat} (h : (VR x d).m L o) : ∀ u ∈ listOf L o d.size, u.oneCell' = true := fun u hu => by
  simp only [listOf, List.mem_map, List.mem_range] at hu
  obtain ⟨j, hj, rfl⟩ := hu
  obtain ⟨u, h1, h2⟩ := VR_one d h j hj
  simpa [h1] using h2

theorem listOf_m {x : Cx} {d : D} {L : Look} {o : Nat} (h : (VR x d).m L o) : (VR x d).m (fun i => (listOf L o d.size)[i]?) 0 :=
  VR_look d (fun j hj => by rw [Nat.zero_add]; exact listOf_get h j hj) h

section
variable {P : Program} {X : Nat → Prop} {ρ : Hnd} {h : Heap} {w : World}

/-- The source's own kind of type. -/
def srcT (P : Program) (tx : TypeId) : D → Bool
  | .str _ => match P.underlying tx with
    | some .string => true
    | _ => false
  | _ => match P.underlying tx with
    | some (.slice _) => true
    | _ => false

theorem src_empty {tx el : TypeId} (hu : P.underlying tx = some (.slice el)) (a : Option Addr) {sz c : Nat} : Src P sz tx (.slice a 0 c) 0 [] w := by
  cases a with
  | none => exact Src.ofNil (P := P) w hu c
  | some a => exact Src.ofSlice (P := P) w hu a 0 c [] (by simp) (fun j u e => by simp at e) (fun _ h => by cases h)

theorem src_ok (hh : HRel X ρ h w) {sz m : Nat} {s sd : D} (e : srcOf h sz s = some (m, sd)) {tx : TypeId} (ht : srcT P tx s = true) {v : Value} (hv : (VR (cx X ρ w) s).v v) :
    sd.size = m * sz ∧ ∃ news : List Value, Src P sz tx v m news w ∧ (VR (cx X ρ w) sd).m (fun i => news[i]?) 0 := by
  have cellsAt : ∀ (el : TypeId) (b o c : Nat), P.underlying tx = some (.slice el) → sd.size = m * sz → (VR (cx X ρ w) sd).m (memL w b) o → v = .slice (some ⟨b, o, none⟩) m c → ∃ news : List Value, Src P sz tx v m news w ∧ (VR (cx X ρ w) sd).m (fun i => news[i]?) 0 :=
    fun el b o c hu hz hm e => by
      subst e
      refine ⟨listOf (memL w b) o sd.size, Src.ofSlice (P := P) w hu _ m c _ (by simp [listOf, hz]) (fun j u hj => ?_) (listOf_one hm), listOf_m hm⟩
      have hlt : j < sd.size := by
        have := getElem?_lt hj
        simpa [listOf] using this
      rw [listOf_get hm j hlt] at hj
      rw [Addr.add_lit]; exact hj
  have sl : (∀ b, s ≠ .str b) → ∃ el, P.underlying tx = some (.slice el) := fun hs => by
    unfold srcT at ht
    split at ht
    · exact absurd rfl (hs _)
    · split at ht
      · exact ⟨_, ‹_›⟩
      · cases ht
  cases s <;> simp only [srcOf, reduceCtorEq] at e
  case lit m' sz' g =>
    split at e
    · rename_i hz; subst hz; cases e
      obtain ⟨el, hu⟩ := sl (by simp)
      refine ⟨rfl, ?_⟩
      obtain ⟨hv, _⟩ := hv
      rcases hv with ⟨⟨a0, c0, rfl⟩, rfl⟩ | ⟨b, o, cap, rfl, _, _, _, _, h5⟩
      · exact ⟨[], src_empty hu a0, fun i hi => absurd hi (Nat.not_lt_zero i)⟩
      · exact cellsAt el b o cap hu rfl h5 rfl
    · cases e
  case own r =>
    split at e
    · rename_i el' n sz' d hr
      split at e
      · rename_i hz; subst hz; cases e
        obtain ⟨el, hu⟩ := sl (by simp)
        obtain ⟨u, k1, k2, k3⟩ := hh.live r _ hr
        obtain ⟨⟨o, h1, h2⟩, _⟩ := hv
        have hvu := h2 u (Option.some.inj (h1.symm.trans k1))
        refine ⟨k2, ?_⟩
        rcases k3 with ⟨rfl, rfl, k4⟩ | ⟨b, cap, cur, rfl, k4, k5, k5', k6, k7⟩
        · have h0 : sd.size = 0 := by simpa using k2
          rcases hvu with rfl | ⟨_, a0, rfl⟩
          · exact ⟨[], src_empty hu none, VR_look sd (fun i hi => by omega) k4⟩
          · exact ⟨[], src_empty hu a0, VR_look sd (fun i hi => by omega) k4⟩
        · obtain rfl : v = _ := hvu.resolve_right (by simp)
          exact cellsAt el b 0 cap hu k2 (VR_look sd (fun i _ => look_heap k4 _) k7) rfl
      · cases e
    · cases e
  case nils =>
    cases e
    obtain ⟨el, hu⟩ := sl (by simp)
    obtain ⟨rfl, _⟩ := hv
    exact ⟨by simp [D.size], [], Src.ofNil (P := P) w hu 0, trivial⟩
  case str b =>
    split at e
    · rename_i hz; subst hz; cases e
      obtain ⟨rfl, _⟩ := hv
      have hu : P.underlying tx = some .string := by
        unfold srcT at ht
        split at ht
        · split at ht
          · assumption
          · cases ht
        · rename_i hs; exact absurd rfl (hs _)
      refine ⟨by simp [D.size, bytesD], byteCells b, Src.ofString (P := P) w hu b, fun i hi => ?_⟩
      have hi' : i < b.data.size := hi
      rw [Nat.zero_add]
      have e1 : b[i]? = some b.data[i] := (getElem?_pos b i hi).trans rfl
      have e2 : b.data[i]? = some b.data[i] := Array.getElem?_eq_getElem hi'
      simp [byteCells, e1, e2]
    · cases e
end

section
variable {P : Program} {X : Nat → Prop} {ρ : Hnd} {h : Heap} {w : World}

theorem run_append_none {t tx ty e : TypeId} {i : TypeInfo} (ht : P.underlying t = some (.slice e)) (hi : P.info? e = some i) {v : Value} {news : List Value} (hs : Src P i.size tx v 0 news w) :
    (Builtin.append_ #[t, tx] ty #[.slice none 0 0, v]).run P w = .ok (.slice none 0 0) w := by
  rcases hs.kind with ⟨e', hk⟩ | hk <;> simp [Builtin.append_, run_underlying ht, run_underlying hk, sizeOf, typeInfo, hi, hs.len, hs.cells]

theorem run_append_some {t tx ty e : TypeId} {i : TypeInfo} (ht : P.underlying t = some (.slice e)) (hi : P.info? e = some i) (a : Addr) {v : Value} {news : List Value} (hs : Src P i.size tx v 0 news w) :
    (Builtin.append_ #[t, tx] ty #[.slice (some a) 0 0, v]).run P w = .ok (.slice (some a) 0 0) w := by
  have h0 : news = [] := List.eq_nil_of_length_eq_zero (by simpa using hs.newsLen)
  subst h0
  have hst : ∀ b : Addr, (storeCells b []).run P w = .ok () w := fun b => by simp [storeCells]
  rcases hs.kind with ⟨e', hk⟩ | hk <;> simp [Builtin.append_, run_underlying ht, run_underlying hk, sizeOf, typeInfo, hi, hs.len, hs.cells, hst]

theorem append_ok (hh : HRel X ρ h w) {r : Nat} {el : TypeId} {n sz : Nat} {d : D} (hr : h[r]? = some (some (.seq el n sz d))) {s sd dn : D} {m : Nat} (hs : srcOf h sz s = some (m, sd)) {t tx ty : TypeId} (hst : srcT P tx s = true) (ht : P.underlying t = some (.slice el))
    {i : TypeInfo} (hi : P.info? el = some i) (hsz : i.size = sz) {z : Value} (hz : i.zero = some z) (hzz : z.cells.size = sz) (hsz0 : 0 < sz) (hn : n + m ≤ 9223372036854775807) (hb : (n + m) * i.bytes ≤ 140737488355328) (hc : CatOk d sd dn)
    {v vs : Value} (hv : (VR (cx X ρ w) (.own r)).v v) (hvs : (VR (cx X ρ w) s).v vs) :
    ∃ v' u' w', (Builtin.append_ #[t, tx] ty #[v, vs]).run P w = .ok v' w' ∧ Step Full ρ w (hset (hset ρ r none) h.length (some u')) w' ∧
      HRel X (hset (hset ρ r none) h.length (some u')) (h.set r none ++ [some (.seq el (n + m) sz dn)]) w' ∧ (v' = u' ∨ (u' = .slice none 0 0 ∧ ∃ a, v' = .slice a 0 0)) ∧ v'.oneCell' = true := by
  obtain ⟨hsd, news, src, hnm⟩ := src_ok (P := P) hh hs hst hvs
  subst hsz
  obtain ⟨u, k1, k2, k3⟩ := hh.live r _ hr
  obtain ⟨⟨o, h1, h2⟩, _⟩ := hv
  have hvu := h2 u (Option.some.inj (h1.symm.trans k1))
  have hrl := getElem?_lt hr
  have hdn : dn.size = (n + m) * i.size := by rw [hc.1, k2, hsd, Nat.add_mul]
  have hmx : n + m ≤ maxLen := by simp only [maxLen]; omega
  -- a new row
  have grown : ∀ (cap : Nat) (olds : List Value) (u : Value), ρ r = some (some u) → olds.length = n * i.size → (VR (cx X ρ w) d).m (fun j => olds[j]?) 0 →
      Step Full ρ w (hset (hset ρ r none) h.length (some (.slice (some ⟨w.heap.size, 0, none⟩) (n + m) (grownCap w (n + m) cap el)))) (w.drew.alloc (.cells ((olds ++ news).toArray ++ Builtin.zeroCells z.cells (grownCap w (n + m) cap el - (n + m))) el)) ∧
        HRel X (hset (hset ρ r none) h.length (some (.slice (some ⟨w.heap.size, 0, none⟩) (n + m) (grownCap w (n + m) cap el)))) (h.set r none ++ [some (.seq el (n + m) i.size dn)])
          (w.drew.alloc (.cells ((olds ++ news).toArray ++ Builtin.zeroCells z.cells (grownCap w (n + m) cap el - (n + m))) el)) := fun cap olds u hu hol hom => by
    have hge := grownCap_ge w (n + m) cap el
    have hcm : grownCap w (n + m) cap el ≤ maxLen := grownCap_le_maxLen w (n + m) cap el hmx
    refine hh.move hrl hu rfl rfl rfl (Nat.le_succ _) (by simp) (fun b hlt _ => RowKit.Below.heap_alloc w.drew _ b hlt) (fun b e => by cases e; exact .inr (Nat.le_refl _)) fun y hle hw => ⟨hdn, .inr ⟨w.heap.size, _, _, rfl, by rw [hw]; exact .mk0 (MapKept.heap_alloc w.drew _).1, hge, hcm, ?_, ?_⟩⟩
    · simp only [Array.size_append, List.size_toArray, List.length_append, size_zeroCells, hzz, hol, src.newsLen, ← Nat.add_mul]
      congr 1
      omega
    · refine hc.2 y _ 0 (VR_look d (fun j hj => ?_) ((VR_le hle d).m _ _ hom)) (VR_look sd (fun j hj => ?_) ((VR_le hle sd).m _ _ hnm))
      · have : j < olds.length := by omega
        simp only [Nat.zero_add]
        rw [Array.getElem?_append_left (by simp; omega)]
        simp only [List.getElem?_toArray]
        exact List.getElem?_append_left this
      · have hj' : j < news.length := by rw [src.newsLen, ← hsd]; exact hj
        simp only [Nat.zero_add]
        rw [Array.getElem?_append_left (by simp; omega)]
        simp only [List.getElem?_toArray]
        rw [List.getElem?_append_right (by omega)]
        congr 1
        omega
  rcases k3 with ⟨rfl, rfl, hm0⟩ | ⟨b, cap, cur, rfl, hbk, hncap, hcapm, hcur, hmem⟩
  · by_cases hm : m = 0
    · subst hm
      have hn0 : news = [] := List.eq_nil_of_length_eq_zero (by simpa using src.newsLen)
      have hrun : ∃ a, v = .slice a 0 0 ∧ (Builtin.append_ #[t, tx] ty #[v, vs]).run P w = .ok (.slice a 0 0) w := by
        rcases hvu with rfl | ⟨_, a0, rfl⟩
        · exact ⟨none, rfl, run_append_none (P := P) ht hi src⟩
        · cases a0 with
          | none => exact ⟨none, rfl, run_append_none (P := P) ht hi src⟩
          | some a0 => exact ⟨some a0, rfl, run_append_some (P := P) ht hi a0 src⟩
      obtain ⟨a0, _, hrun⟩ := hrun
      refine ⟨.slice a0 0 0, .slice none 0 0, w, hrun, ?_⟩
      have := hh.move (v := .slice none 0 0) (row := .seq el (0 + 0) i.size dn) hrl k1 rfl rfl rfl (Nat.le_refl _) (Nat.le_refl _) (fun _ _ _ => rfl) (fun b e => by cases e) fun y hle hw => ⟨hdn, .inl ⟨rfl, rfl, ?_⟩⟩
      · exact ⟨this.1, this.2, .inr ⟨rfl, a0, rfl⟩, rfl⟩
      have hd0 : d.size = 0 := by simpa using k2
      have hs0 : sd.size = 0 := by simpa using hsd
      exact hc.2 y _ 0 ((VR_le hle d).m _ _ hm0) (VR_look sd (fun j hj => by omega) ((VR_le hle sd).m _ _ hnm))
    · have hva : ∃ a, v = .slice a 0 0 := hvu.elim (fun e => ⟨none, e⟩) fun e => e.2
      obtain ⟨a0, rfl⟩ := hva
      have hf0 : (Builtin.firstCells i.size 0 (.slice a0 0 0)).run P w.drew = .ok ([] : List Value).toArray w.drew := by
        cases a0 with
        | none => exact run_firstCells_none (P := P) w.drew i.size 0 0 0
        | some a0 => exact run_firstCells_some (P := P) w.drew i.size 0 a0 0 0 [] (by simp) (fun j u e => by simp at e)
      have hrun := run_append_grow_src (P := P) w t tx ty el i z ht hi hz a0 0 0 [] hf0 vs m news src (by omega) (by omega) (growslice_fits (by omega) hb)
      exact ⟨_, _, _, hrun, (grown 0 [] _ k1 (by simp) hm0).1, (grown 0 [] _ k1 (by simp) hm0).2, .inl rfl, rfl⟩
  · obtain rfl : v = _ := hvu.resolve_right (by simp)
    replace hbk : Cel w b cur el := hbk
    by_cases hroom : n + m ≤ cap
    · have hfit : n * i.size + news.length ≤ cur.size := by rw [src.newsLen, hcur, ← Nat.add_mul]; exact Nat.mul_le_mul_right _ hroom
      have hrun := run_append_room_src (P := P) w t tx ty el i ht hi b 0 n cap vs m news src hroom (fun j hj => by
          have : n * i.size + j < cur.size := by omega
          rw [Nat.zero_add]
          rw [hbk.cell]; simp [this]) (fun j hj => by rw [Nat.zero_add]; exact hbk.fz (by omega))
      rw [Nat.zero_add] at hrun
      obtain ⟨cs', q1, q2, q3, q4⟩ := setCells_row b el news (n * i.size) w cur hbk hfit
      obtain ⟨o1, o2, o3, o4⟩ := setCells_os b news (n * i.size) w
      refine ⟨_, .slice (some ⟨b, 0, none⟩) (n + m) cap, _, hrun, ?_⟩
      have := hh.move (v := .slice (some ⟨b, 0, none⟩) (n + m) cap) (row := .seq el (n + m) i.size dn) hrl k1 o1 o2 o3 (Nat.le_of_eq (setCells_drawn _ _ _ w).symm) (Nat.le_of_eq o4.symm) (fun k _ hk => setCells_other b (fun e => hk (by rw [e]; rfl)) _ _ _) (fun b' e => .inl (by cases e; rfl)) fun y hle hw => ⟨hdn, .inr ⟨b, cap, cs', rfl, by rw [hw]; exact q1, hroom, hcapm, by omega, ?_⟩⟩
      · exact ⟨this.1, this.2, .inl rfl, rfl⟩
      refine hc.2 y _ 0 (VR_look d (fun j hj => ?_) ((VR_le hle d).m _ _ hmem)) (VR_look sd (fun j hj => ?_) ((VR_le hle sd).m _ _ hnm))
      · simp only [Nat.zero_add]; exact q4 j (.inl (by omega))
      · simp only [Nat.zero_add]
        rw [k2]
        exact q3 j (by rw [src.newsLen, ← hsd]; exact hj)
    · have hcd : (VR (cx X ρ w) d).m (memL w b) 0 := VR_look d (fun i _ => look_heap hbk _) hmem
      have hold : (Builtin.firstCells i.size n (.slice (some ⟨b, 0, none⟩) n cap)).run P w.drew = .ok (listOf (memL w b) 0 d.size).toArray w.drew :=
        run_firstCells_some (P := P) w.drew i.size n ⟨b, 0, none⟩ n cap _ (by simp [listOf, k2]) (fun j u hj => by
          have hlt : j < d.size := by
            have := getElem?_lt hj
            simpa [listOf] using this
          rw [listOf_get hcd j hlt] at hj
          rw [Addr.add_lit]; exact hj)
      have hrun := run_append_grow_src (P := P) w t tx ty el i z ht hi hz (some ⟨b, 0, none⟩) n cap _ hold vs m news src (by omega) (by omega) (growslice_fits (by omega) hb)
      have hg := grown cap _ _ k1 (by simp [listOf, k2]) (listOf_m hcd)
      exact ⟨_, _, _, hrun, hg.1, hg.2, .inl rfl, rfl⟩
end

end Go.Pod
