/- Rows that are written no more, and rows that take another's place. -/
import Derived.Test.YteaghbcenjhjhaaDoorPodI
namespace Go.Pod
open Go

/-! ### Rows that are written no more -/

/-- What becomes of a pointer to a row, of a slice that is a row. -/
def fzP (r : Nat) : Row → D
  | .box d => .lptr d
  | .seq _ _ _ _ => .ptr r []
def fzO (r : Nat) : Row → D
  | .seq _ n sz (.arr _ sz' g) => if sz' = sz ∧ 0 < sz then .lit n sz g else .own r
  | .seq _ n sz (.ints k _ g) => if sz = 1 then .lit n 1 (fun i => .int k (g i)) else .own r
  | _ => .own r

def D.fz (r : Nat) (row : Row) : D → D
  | .ptr r' p => if r' = r ∧ p = [] then fzP r row else .ptr r' p
  | .own r' => if r' = r then fzO r row else .own r'
  | .cons a b => .cons (a.fz r row) (b.fz r row)
  | .lptr d => .lptr (d.fz r row)
  | .fn f c => .fn f (c.fz r row)
  | .tup d => .tup (d.fz r row)
  | .gd b d => .gd b (d.fz r row)
  | .nn d => .nn (d.fz r row)
  | d => d

theorem fzP_size (r : Nat) (row : Row) : (fzP r row).size = 1 := by cases row <;> rfl
theorem fzO_size (r : Nat) (row : Row) : (fzO r row).size = 1 := by unfold fzO; split <;> (try split) <;> rfl

theorem fz_size (r : Nat) (row : Row) : ∀ d : D, (d.fz r row).size = d.size
  | .ptr r' p => by unfold D.fz; split; exact fzP_size r row; rfl
  | .own r' => by unfold D.fz; split; exact fzO_size r row; rfl
  | .cons a b => by simp only [D.fz, D.size, fz_size r row a, fz_size r row b]
  | .bool _ | .int _ _ | .str _ | .ints _ _ _ | .nil | .arr _ _ _ | .lptr _ | .nilp | .nils | .lit _ _ _ | .fn _ _ | .nilf | .z0 | .is _ | .err _ | .ifc _ _ | .nn _ | .view _ _ _ _ | .tup _ | .gd _ _ | .junk => rfl

theorem fzP_leaf (r : Nat) (row : Row) (y : Cx) : ∃ p, VR y (fzP r row) = leaf p := by cases row <;> exact ⟨_, rfl⟩
theorem fzO_leaf (r : Nat) (row : Row) (y : Cx) : ∃ p, VR y (fzO r row) = leaf p := by unfold fzO; split <;> (try split) <;> exact ⟨_, rfl⟩

theorem leaf_to {p q : Value → Prop} (h : ∀ v, (leaf p).v v → (leaf q).v v) : (∀ v, (leaf p).v v → (leaf q).v v) ∧ (∀ L o, (leaf p).m L o → (leaf q).m L o) ∧ (∀ vs i, (leaf p).c vs i → (leaf q).c vs i) :=
  ⟨h, fun _ _ ⟨u, h1, h2, h3⟩ => ⟨u, h1, (h u ⟨h2, h3⟩).1, h3⟩, fun _ _ h => h.elim⟩

theorem fz_to {x y : Cx} (hle : x.le y) (hw : y.w = x.w) {r : Nat} {row : Row} (hp : ∀ v, (VR x (.ptr r [])).v v → (VR y (fzP r row)).v v) (ho : ∀ v, (VR x (.own r)).v v → (VR y (fzO r row)).v v) :
    ∀ d : D, (∀ v, (VR x d).v v → (VR y (d.fz r row)).v v) ∧ (∀ L o, (VR x d).m L o → (VR y (d.fz r row)).m L o) ∧ (∀ vs i, (VR x d).c vs i → (VR y (d.fz r row)).c vs i)
  | .ptr r' p => by
    unfold D.fz
    split
    · rename_i e
      obtain ⟨rfl, rfl⟩ := e
      obtain ⟨q, hq⟩ := fzP_leaf r' row y
      rw [hq] at hp ⊢
      exact leaf_to hp
    · exact ⟨fun v h => (VR_le hle _).v v h, fun L o h => (VR_le hle _).m L o h, fun vs i h => (VR_le hle _).c vs i h⟩
  | .own r' => by
    unfold D.fz
    split
    · rename_i e
      subst e
      obtain ⟨q, hq⟩ := fzO_leaf r' row y
      rw [hq] at ho ⊢
      exact leaf_to ho
    · exact ⟨fun v h => (VR_le hle _).v v h, fun L o h => (VR_le hle _).m L o h, fun vs i h => (VR_le hle _).c vs i h⟩
  | .cons a b => by
    obtain ⟨a1, a2, a3⟩ := fz_to hle hw hp ho a
    obtain ⟨b1, b2, b3⟩ := fz_to hle hw hp ho b
    have hm : ∀ L o, (VR x (.cons a b)).m L o → (VR y ((D.cons a b).fz r row)).m L o := fun L o h => ⟨a2 L o h.1, by
      show (VR y (b.fz r row)).m L (o + (a.fz r row).size)
      rw [fz_size]; exact b2 _ _ h.2⟩
    refine ⟨fun v ⟨cs, h1, h2, h3⟩ => ⟨cs, h1, by simp only [fz_size]; exact h2, hm _ _ h3⟩, hm, fun vs i ⟨⟨u, h1, h2⟩, h3⟩ => ⟨⟨u, h1, a1 u h2⟩, b3 _ _ h3⟩⟩
  | .lptr d => by
    obtain ⟨_, d2, _⟩ := fz_to hle hw hp ho d
    exact leaf_to fun v ⟨⟨b, o, h1, h2, h3, h4⟩, h5⟩ => ⟨⟨b, o, h1, fun hb => (hle.av b hb).elim h2 (by omega), by rw [hw]; exact h3, by rw [hw]; exact d2 _ _ h4⟩, h5⟩
  | .fn f c => by
    obtain ⟨_, _, c3⟩ := fz_to hle hw hp ho c
    exact leaf_to fun v ⟨⟨cs, h1, h2⟩, h5⟩ => ⟨⟨cs, h1, c3 _ _ h2⟩, h5⟩
  | .tup c => by
    obtain ⟨_, _, c3⟩ := fz_to hle hw hp ho c
    exact ⟨fun v ⟨cs, h1, h2⟩ => ⟨cs, h1, c3 _ _ h2⟩, fun _ _ h => h, fun _ _ h => h⟩
  | .nn d => by
    obtain ⟨d1, _, _⟩ := fz_to hle hw hp ho d
    exact leaf_to fun v ⟨⟨h1, h2⟩, h3⟩ => ⟨⟨d1 v h1, h2⟩, h3⟩
  | .gd b d => by
    obtain ⟨d1, _, _⟩ := fz_to hle hw hp ho d
    exact ⟨fun v hv => ⟨fun hb => d1 v (hv.1 hb), hv.2⟩, fun _ _ h => h, fun _ _ h => h⟩
  | .bool _ | .int _ _ | .str _ | .ints _ _ _ | .nil | .arr _ _ _ | .nilp | .nils | .lit _ _ _ | .nilf | .z0 | .is _ | .err _ | .ifc _ _ | .view _ _ _ _ | .junk => ⟨fun v h => (VR_le hle _).v v h, fun L o h => (VR_le hle _).m L o h, fun vs i h => (VR_le hle _).c vs i h⟩

def Row.map (f : D → D) : Row → Row
  | .box d => .box (f d)
  | .seq e n sz d => .seq e n sz (f d)

def hfz (r : Nat) (row : Row) (h : Heap) : Heap := (h.set r none).map fun q => q.map (Row.map (D.fz r row))
def efz (r : Nat) (row : Row) (env : Env) : Env := env.map fun p => (p.1, p.2.fz r row)

section
variable {P : Program} {X : Nat → Prop} {ρ : Hnd} {h : Heap} {w : World}

/-- Rule: a row of which it is known that nobody writes it any more. -/
theorem runs_freeze {fn : Func} {n : Nat} {T : List Item} {env : Env} {d : D} {h' : Heap} (r : Nat) {row : Row} (e : h[r]? = some (some row)) (hr : Runs P fn n T (efz r row env) (hfz r row h) d h') : Runs P fn n T env h d h' := by
  intro X ρ a w b cs hh hE hd hnt
  obtain ⟨u, l1, l2⟩ := hh.live r row e
  have hset_le : ∀ q, ρ q = none ∨ hset ρ r none q = some none ∨ hset ρ r none q = ρ q := fun q => by
    by_cases e : q = r
    · subst e; exact .inr (.inl (hset_self _ _ _))
    · exact .inr (.inr (hset_other _ _ e))
  have ho' : ∀ b, own (hset ρ r none) b → own ρ b := fun b ho => (own_hset ho).elim (fun ⟨_, e, _⟩ => by cases e) id
  have st : Step Full ρ w (hset ρ r none) w := {
    os := rfl, tape := rfl, output := rfl, drawn := fun _ => Nat.le_refl _, size := Nat.le_refl _
    block := fun _ _ _ => rfl
    rho := fun q _ => hset_le q
    owns := fun b ho => .inl (ho' b ho) }
  have hno : ∀ b, blkOf u = some b → ¬ av X (hset ρ r none) b := fun b hb ha => by
    rcases ha with ha | ⟨q, u', q1, q2⟩
    · exact hh.apart b ⟨r, u, l1, hb⟩ ha
    · by_cases hq : q = r
      · subst hq; rw [hset_self] at q1; cases q1
      · rw [hset_other _ _ hq] at q1
        exact hq (hh.inj q r u' u b q1 l1 q2 hb)
  have hle := st.leF (X := X)
  have hv : ∀ v, (VR (cx X ρ w) (.own r)).v v → v = u ∨ (u = .slice none 0 0 ∧ ∃ a, v = .slice a 0 0) := fun v ⟨⟨o, k1, k2⟩, _⟩ => k2 u (Option.some.inj (k1.symm.trans l1))
  have hP : ∀ v, (VR (cx X ρ w) (.ptr r [])).v v → (VR (cx X (hset ρ r none) w) (fzP r row)).v v := fun v hptr => by
    cases row with
    | seq _ _ _ _ => exact (VR_le hle _).v v hptr
    | box dr =>
      obtain ⟨b, cs, e', rfl, k1, k2, k3⟩ := l2
      obtain ⟨⟨o, q1, q2⟩, _⟩ := hptr
      obtain ⟨b', q3, rfl⟩ := q2 _ (Option.some.inj (q1.symm.trans l1))
      cases q3
      refine ⟨⟨b, 0, rfl, hno b rfl, k1.lt, VR_look _ (fun k _ => ?_) ((VR_le hle dr).m _ _ k3)⟩, rfl⟩
      exact look_heap k1 _
  have hO : ∀ v, (VR (cx X ρ w) (.own r)).v v → (VR (cx X (hset ρ r none) w) (fzO r row)).v v := fun v hown => by
    have key : ∀ (n' sz : Nat) (g : Nat → D) (e' : TypeId) (dd : D), row = .seq e' n' sz dd → (∀ (y : Cx) (L : Look) (o : Nat), (VR y dd).m L o → ∀ i, i < n' → (g i).size = sz ∧ (VR y (g i)).m L (o + i * sz)) → (VR (cx X (hset ρ r none) w) (.lit n' sz g)).v v := by
      intro n' sz g e' dd er hd
      subst er
      obtain ⟨_, k⟩ := l2
      rcases k with ⟨rfl, k1, _⟩ | ⟨b, cap, cur, rfl, k1, k2, k3, k4, k5⟩
      · rcases hv v hown with rfl | ⟨_, a, rfl⟩
        · exact ⟨.inl ⟨⟨_, _, rfl⟩, k1⟩, rfl⟩
        · exact ⟨.inl ⟨⟨_, _, rfl⟩, k1⟩, rfl⟩
      · obtain rfl : v = _ := (hv v hown).resolve_right (by simp)
        refine ⟨.inr ⟨b, 0, cap, rfl, k2, k3, hno b rfl, k1.lt, fun i hi => ?_⟩, rfl⟩
        have := hd _ _ _ ((VR_le hle dd).m _ _ k5) i hi
        exact ⟨this.1, VR_look _ (fun k _ => look_heap k1 _) this.2⟩
    unfold fzO
    split
    · rename_i e' n' sz n'' sz' g
      split
      · rename_i hc
        obtain ⟨rfl, hz⟩ := hc
        have hn : n'' = n' := Nat.eq_of_mul_eq_mul_right hz l2.1
        subst hn
        exact key _ _ g e' _ rfl fun y L o hm => hm
      · exact (VR_le hle _).v v hown
    · rename_i e' n' sz k n'' g
      split
      · rename_i hc
        subst hc
        have hn : n'' = n' := by have := l2.1; simpa [D.size] using this
        subst hn
        refine key _ _ _ e' _ rfl fun y L o hm i hi => ?_
        have k1 : (VR y (.int k (g i))).m L (o + i) := ⟨_, hm i hi, rfl, rfl⟩
        rw [Nat.mul_one]
        exact ⟨rfl, k1⟩
      · exact (VR_le hle _).v v hown
    · exact (VR_le hle _).v v hown
  have hto := fz_to (x := cx X ρ w) (y := cx X (hset ρ r none) w) hle rfl hP hO
  have hrow : ∀ u row', RowR (cx X ρ w) u row' → RowR (cx X (hset ρ r none) w) u (row'.map (D.fz r row)) := fun u row' hr => by
    cases row' with
    | box dr =>
      obtain ⟨b, cs, e', k0, k1, k2, k3⟩ := hr
      exact ⟨b, cs, e', k0, k1, by rw [fz_size]; exact k2, (hto dr).2.1 _ _ k3⟩
    | seq e' n' sz dr =>
      refine ⟨by rw [fz_size]; exact hr.1, hr.2.imp (fun ⟨h1, h2, h3⟩ => ⟨h1, h2, (hto dr).2.1 _ _ h3⟩) ?_⟩
      rintro ⟨b, cap, cur, h1, h2, h3, h4, h5, h6⟩
      exact ⟨b, cap, cur, h1, h2, h3, h4, h5, (hto dr).2.1 _ _ h6⟩
  have hlen := getElem?_lt e
  have hh' : HRel X (hset ρ r none) (hfz r row h) w := {
    live := fun q row' e' => by
      simp only [hfz, List.getElem?_map, Option.map_eq_some_iff] at e'
      obtain ⟨o, e1, e2⟩ := e'
      obtain ⟨row2, rfl, rfl⟩ := e2
      by_cases hq : q = r
      · subst hq; rw [List.getElem?_set_self hlen] at e1; cases e1
      · rw [List.getElem?_set_ne (Ne.symm hq)] at e1
        obtain ⟨u', q1, q2⟩ := hh.live q row2 e1
        exact ⟨u', by rw [hset_other _ _ hq]; exact q1, hrow _ _ q2⟩
    dead := fun q e' => by
      simp only [hfz, List.getElem?_map, Option.map_eq_some_iff] at e'
      obtain ⟨o, e1, e2⟩ := e'
      have e3 : o = none := by cases o <;> simp_all
      subst e3
      by_cases hq : q = r
      · subst hq; exact .inr (hset_self _ _ _)
      · rw [List.getElem?_set_ne (Ne.symm hq)] at e1; rw [hset_other _ _ hq]; exact hh.dead q e1
    past := fun q e' => by
      have hq : q ≠ r := fun e'' => by
        subst e''
        simp [hfz] at e'; omega
      rw [hset_other _ _ hq]; exact hh.past q (by simpa [hfz] using e')
    inj := fun q q' u1 u2 b q1 q2 q3 q4 => by
      have f : ∀ q u, hset ρ r none q = some (some u) → ρ q = some (some u) := fun q u e => by
        by_cases hq : q = r
        · subst hq; rw [hset_self] at e; cases e
        · rwa [hset_other _ _ hq] at e
      exact hh.inj q q' u1 u2 b (f _ _ q1) (f _ _ q2) q3 q4
    apart := fun b ho => hh.apart b (ho' b ho)
    old := hh.old
    gl := hh.gl.less ho' }
  have hE' : ERel (cx X (hset ρ r none) w) (efz r row env) a.tmps := fun t d' hm => by
    simp only [efz, List.mem_map] at hm
    obtain ⟨⟨t', d2⟩, hm, e1⟩ := hm
    cases e1
    exact ⟨(hE _ _ hm).1, (hto d2).1 _ (hE _ _ hm).2⟩
  obtain ⟨a', w', ρ', T', v, k1, k2, k3, k4, k5, k6⟩ := hr X (hset ρ r none) a w b cs hh' hE' hd hnt
  exact ⟨a', w', ρ', T', v, k1, k2, k3, k4, (st.mono fun _ _ => trivial).trans k5, k6⟩

end

/-! ### A row that takes a dead row's place -/

def rnN (r0 r1 q : Nat) : Nat := if q = r1 then r0 else q

/-- 'r1' takes the name 'r0'. -/
def D.rn (r0 r1 : Nat) : D → D
  | .ptr q p => .ptr (rnN r0 r1 q) p
  | .own q => .own (rnN r0 r1 q)
  | .cons a b => .cons (a.rn r0 r1) (b.rn r0 r1)
  | .lptr d => .lptr (d.rn r0 r1)
  | .fn f c => .fn f (c.rn r0 r1)
  | .tup d => .tup (d.rn r0 r1)
  | .gd b d => .gd b (d.rn r0 r1)
  | .view q lo m sz => .view (rnN r0 r1 q) lo m sz
  | d => d

/-- Nothing speaks of 'r0'; what is not renamed speaks of neither. -/
def rnOk (r0 r1 : Nat) : D → Prop
  | .ptr q _ => q ≠ r0
  | .own q => q ≠ r0
  | .cons a b => rnOk r0 r1 a ∧ rnOk r0 r1 b
  | .lptr d => rnOk r0 r1 d
  | .fn _ c => rnOk r0 r1 c
  | .tup d => rnOk r0 r1 d
  | .gd _ d => rnOk r0 r1 d
  | .view q _ _ _ => q ≠ r0
  | d => d.In fun q => q ≠ r0 ∧ q ≠ r1

theorem rn_own {r0 r1 q : Nat} (h : Nat.beq q r0 = false) : rnOk r0 r1 (.own q) := Nat.ne_of_beq_eq_false h
theorem rn_ptr {r0 r1 q : Nat} {p : List Stp} (h : Nat.beq q r0 = false) : rnOk r0 r1 (.ptr q p) := Nat.ne_of_beq_eq_false h

theorem rn_size (r0 r1 : Nat) : ∀ d : D, (d.rn r0 r1).size = d.size
  | .cons a b => by simp only [D.rn, D.size, rn_size r0 r1 a, rn_size r0 r1 b]
  | .ptr _ _ | .own _ | .bool _ | .int _ _ | .str _ | .ints _ _ _ | .nil | .arr _ _ _ | .lptr _ | .nilp | .nils | .lit _ _ _ | .fn _ _ | .nilf | .z0 | .is _ | .err _ | .ifc _ _ | .nn _ | .view _ _ _ _ | .tup _ | .gd _ _ | .junk => rfl

theorem rn_to {x y : Cx} {r0 r1 : Nat} (hav : ∀ b, y.av b → x.av b) (hw : y.w = x.w) (hρ : ∀ q, q ≠ r0 → x.ρ q = none ∨ y.ρ (rnN r0 r1 q) = some none ∨ y.ρ (rnN r0 r1 q) = x.ρ q) (hle : x.leS (fun q => q ≠ r0 ∧ q ≠ r1) y) :
    ∀ d : D, rnOk r0 r1 d → (∀ v, (VR x d).v v → (VR y (d.rn r0 r1)).v v) ∧ (∀ L o, (VR x d).m L o → (VR y (d.rn r0 r1)).m L o) ∧ (∀ vs i, (VR x d).c vs i → (VR y (d.rn r0 r1)).c vs i)
  | .ptr q p, hk => leaf_to fun v ⟨⟨o, h1, h2⟩, h3⟩ => by
    rcases hρ q hk with h | h | h
    · rw [h] at h1; cases h1
    · exact ⟨⟨none, h, fun u e => by cases e⟩, h3⟩
    · exact ⟨⟨o, h.trans h1, h2⟩, h3⟩
  | .own q, hk => leaf_to fun v ⟨⟨o, h1, h2⟩, h3⟩ => by
    rcases hρ q hk with h | h | h
    · rw [h] at h1; cases h1
    · exact ⟨⟨none, h, fun u e => by cases e⟩, h3⟩
    · exact ⟨⟨o, h.trans h1, h2⟩, h3⟩
  | .cons a b, hk => by
    obtain ⟨a1, a2, a3⟩ := rn_to hav hw hρ hle a hk.1
    obtain ⟨b1, b2, b3⟩ := rn_to hav hw hρ hle b hk.2
    have hm : ∀ L o, (VR x (.cons a b)).m L o → (VR y ((D.cons a b).rn r0 r1)).m L o := fun L o h => ⟨a2 L o h.1, by
      show (VR y (b.rn r0 r1)).m L (o + (a.rn r0 r1).size)
      rw [rn_size]; exact b2 _ _ h.2⟩
    refine ⟨fun v ⟨cs, h1, h2, h3⟩ => ⟨cs, h1, by simp only [rn_size]; exact h2, hm _ _ h3⟩, hm, fun vs i ⟨⟨u, h1, h2⟩, h3⟩ => ⟨⟨u, h1, a1 u h2⟩, b3 _ _ h3⟩⟩
  | .lptr d, hk => by
    obtain ⟨_, d2, _⟩ := rn_to hav hw hρ hle d hk
    exact leaf_to fun v ⟨⟨b, o, h1, h2, h3, h4⟩, h5⟩ => ⟨⟨b, o, h1, fun hb => h2 (hav b hb), by rw [hw]; exact h3, by rw [hw]; exact d2 _ _ h4⟩, h5⟩
  | .fn f c, hk => by
    obtain ⟨_, _, c3⟩ := rn_to hav hw hρ hle c hk
    exact leaf_to fun v ⟨⟨cs, h1, h2⟩, h5⟩ => ⟨⟨cs, h1, c3 _ _ h2⟩, h5⟩
  | .tup c, hk => by
    obtain ⟨_, _, c3⟩ := rn_to hav hw hρ hle c hk
    exact ⟨fun v ⟨cs, h1, h2⟩ => ⟨cs, h1, c3 _ _ h2⟩, fun _ _ h => h, fun _ _ h => h⟩
  | .gd b d, hk => by
    obtain ⟨d1, _, _⟩ := rn_to hav hw hρ hle d hk
    exact ⟨fun v hv => ⟨fun hb => d1 v (hv.1 hb), hv.2⟩, fun _ _ h => h, fun _ _ h => h⟩
  | .bool b, hk => ⟨fun v h => (VR_leS hle _ hk).v v h, fun L o h => (VR_leS hle _ hk).m L o h, fun vs i h => (VR_leS hle _ hk).c vs i h⟩
  | .int k n, hk => ⟨fun v h => (VR_leS hle _ hk).v v h, fun L o h => (VR_leS hle _ hk).m L o h, fun vs i h => (VR_leS hle _ hk).c vs i h⟩
  | .str s, hk => ⟨fun v h => (VR_leS hle _ hk).v v h, fun L o h => (VR_leS hle _ hk).m L o h, fun vs i h => (VR_leS hle _ hk).c vs i h⟩
  | .ints k n g, hk => ⟨fun v h => (VR_leS hle _ hk).v v h, fun L o h => (VR_leS hle _ hk).m L o h, fun vs i h => (VR_leS hle _ hk).c vs i h⟩
  | .nil, hk => ⟨fun v h => (VR_leS hle _ hk).v v h, fun L o h => (VR_leS hle _ hk).m L o h, fun vs i h => (VR_leS hle _ hk).c vs i h⟩
  | .arr n sz g, hk => ⟨fun v h => (VR_leS hle _ hk).v v h, fun L o h => (VR_leS hle _ hk).m L o h, fun vs i h => (VR_leS hle _ hk).c vs i h⟩
  | .nilp, hk => ⟨fun v h => (VR_leS hle _ hk).v v h, fun L o h => (VR_leS hle _ hk).m L o h, fun vs i h => (VR_leS hle _ hk).c vs i h⟩
  | .nils, hk => ⟨fun v h => (VR_leS hle _ hk).v v h, fun L o h => (VR_leS hle _ hk).m L o h, fun vs i h => (VR_leS hle _ hk).c vs i h⟩
  | .lit n sz g, hk => ⟨fun v h => (VR_leS hle _ hk).v v h, fun L o h => (VR_leS hle _ hk).m L o h, fun vs i h => (VR_leS hle _ hk).c vs i h⟩
  | .nilf, hk => ⟨fun v h => (VR_leS hle _ hk).v v h, fun L o h => (VR_leS hle _ hk).m L o h, fun vs i h => (VR_leS hle _ hk).c vs i h⟩
  | .z0, hk => ⟨fun v h => (VR_leS hle _ hk).v v h, fun L o h => (VR_leS hle _ hk).m L o h, fun vs i h => (VR_leS hle _ hk).c vs i h⟩
  | .err _, hk => ⟨fun v h => (VR_leS hle _ hk).v v h, fun L o h => (VR_leS hle _ hk).m L o h, fun vs i h => (VR_leS hle _ hk).c vs i h⟩
  | .is _, hk => ⟨fun v h => (VR_leS hle _ hk).v v h, fun L o h => (VR_leS hle _ hk).m L o h, fun vs i h => (VR_leS hle _ hk).c vs i h⟩
  | .ifc _ _, hk => ⟨fun v h => (VR_leS hle _ hk).v v h, fun L o h => (VR_leS hle _ hk).m L o h, fun vs i h => (VR_leS hle _ hk).c vs i h⟩
  | .nn _, hk => ⟨fun v h => (VR_leS hle _ hk).v v h, fun L o h => (VR_leS hle _ hk).m L o h, fun vs i h => (VR_leS hle _ hk).c vs i h⟩
  | .view q _ _ _, hk => leaf_to fun v ⟨⟨o, h1, h2⟩, h3⟩ => by
    rcases hρ q hk with h | h | h
    · rw [h] at h1; cases h1
    · exact ⟨⟨none, h, fun u e => by cases e⟩, h3⟩
    · exact ⟨⟨o, h.trans h1, h2⟩, h3⟩
  | .junk, hk => ⟨fun v h => (VR_leS hle _ hk).v v h, fun L o h => (VR_leS hle _ hk).m L o h, fun vs i h => (VR_leS hle _ hk).c vs i h⟩

def hrn (r0 r1 : Nat) (row : Row) (h : Heap) : Heap := ((h.set r1 none).set r0 (some row)).map fun q => q.map (Row.map (D.rn r0 r1))
def ern (r0 r1 : Nat) (env : Env) : Env := env.map fun p => (p.1, p.2.rn r0 r1)

def HRn (r0 r1 : Nat) : Heap → Prop
  | [] => True
  | none :: r => HRn r0 r1 r
  | some row :: r => rnOk r0 r1 row.d ∧ HRn r0 r1 r

def ERn (r0 r1 : Nat) : Env → Prop
  | [] => True
  | (_, d) :: r => rnOk r0 r1 d ∧ ERn r0 r1 r

theorem HRn.at {r0 r1 : Nat} : ∀ {h : Heap} (_ : HRn r0 r1 h) (q : Nat) (row : Row), h[q]? = some (some row) → rnOk r0 r1 row.d
  | [], _, q, row, e => by simp at e
  | none :: h, hs, 0, row, e => by simp at e
  | none :: h, hs, q + 1, row, e => by simp only [List.getElem?_cons_succ] at e; exact HRn.at (h := h) hs q row e
  | some w :: h, hs, 0, row, e => by simp only [List.getElem?_cons_zero, Option.some.injEq] at e; subst e; exact hs.1
  | some w :: h, hs, q + 1, row, e => by simp only [List.getElem?_cons_succ] at e; exact HRn.at (h := h) hs.2 q row e

theorem ERn.at {r0 r1 : Nat} : ∀ {env : Env} (_ : ERn r0 r1 env) (t : Nat) (d : D), (t, d) ∈ env → rnOk r0 r1 d
  | [], _, _, _, h => by cases h
  | (u, e) :: r, hs, t, d, h => by
    rcases List.mem_cons.1 h with h | h
    · cases h; exact hs.1
    · exact ERn.at hs.2 t d h

/-- Rule: a row takes a dead row's place. -/
theorem runs_rename {P : Program} {fn : Func} {n : Nat} {T : List Item} {env : Env} {h : Heap} {d : D} {h' : Heap} (r0 r1 : Nat) {row : Row} (hne : r0 ≠ r1) (hn0 : n ≤ r0) (e0 : h[r0]? = some none) (e1 : h[r1]? = some (some row)) (hH : HRn r0 r1 h) (hEn : ERn r0 r1 env)
    (hr : Runs P fn n T (ern r0 r1 env) (hrn r0 r1 row h) d h') : Runs P fn n T env h d h' := by
  intro X ρ a w b cs hh hE hd hnt
  let ρ' : Hnd := fun q => if q = r0 then ρ r1 else if q = r1 then some none else ρ q
  have p0 : ρ' r0 = ρ r1 := by simp [ρ']
  have p1 : ρ' r1 = some none := by simp [ρ', Ne.symm hne]
  have pq : ∀ q, q ≠ r0 → q ≠ r1 → ρ' q = ρ q := fun q h0 h1 => by simp [ρ', h0, h1]
  have hown : ∀ b, own ρ' b → own ρ b := fun b ⟨q, u, q1, q2⟩ => by
    by_cases h0 : q = r0
    · subst h0; rw [p0] at q1; exact ⟨_, u, q1, q2⟩
    · by_cases h1 : q = r1
      · subst h1; rw [p1] at q1; cases q1
      · rw [pq q h0 h1] at q1; exact ⟨q, u, q1, q2⟩
  have hto := rn_to (x := cx X ρ w) (y := cx X ρ' w) (r0 := r0) (r1 := r1) (fun b hb => hb.imp id (hown b)) rfl (fun q h0 => by
      by_cases h1 : q = r1
      · subst h1; exact .inr (.inr (by simp only [rnN, if_true]; exact p0))
      · exact .inr (.inr (by simp only [rnN, h1, if_false]; exact pq q h0 h1)))
    { ρ := fun q hq => .inr (.inr (pq q hq.1 hq.2)), av := fun b hb => .inl (hb.imp id (hown b)), size := Nat.le_refl _, block := fun _ _ _ => rfl }
  have st : Step (Bel n) ρ w ρ' w := {
    os := rfl, tape := rfl, output := rfl, drawn := fun _ => Nat.le_refl _, size := Nat.le_refl _
    block := fun _ _ _ => rfl
    rho := fun q hq => by
      by_cases h1 : q = r1
      · subst h1; exact .inr (.inl p1)
      · exact .inr (.inr (pq q (by have : q < n := hq; omega) h1))
    owns := fun b ho => .inl (hown b ho) }
  have hrow : ∀ u row', rnOk r0 r1 row'.d → RowR (cx X ρ w) u row' → RowR (cx X ρ' w) u (row'.map (D.rn r0 r1)) := fun u row' hk hr => by
    cases row' with
    | box dr =>
      obtain ⟨b, cs, e', k0, k1, k2, k3⟩ := hr
      exact ⟨b, cs, e', k0, k1, by rw [rn_size]; exact k2, (hto dr hk).2.1 _ _ k3⟩
    | seq e' n' sz dr =>
      refine ⟨by rw [rn_size]; exact hr.1, hr.2.imp (fun ⟨h1, h2, h3⟩ => ⟨h1, h2, (hto dr hk).2.1 _ _ h3⟩) ?_⟩
      rintro ⟨b, cap, cur, h1, h2, h3, h4, h5, h6⟩
      exact ⟨b, cap, cur, h1, h2, h3, h4, h5, (hto dr hk).2.1 _ _ h6⟩
  have l0 := getElem?_lt e0
  have l1 := getElem?_lt e1
  have hget : ∀ q, (hrn r0 r1 row h)[q]? = (if q = r0 then some (some row) else if q = r1 then some none else h[q]?).map (Option.map (Row.map (D.rn r0 r1))) := fun q => by
    simp only [hrn, List.getElem?_map]
    congr 1
    by_cases h0 : q = r0
    · subst h0; rw [List.getElem?_set_self (by simpa using l0)]; simp
    · rw [List.getElem?_set_ne (Ne.symm h0), if_neg h0]
      by_cases h1 : q = r1
      · subst h1; rw [List.getElem?_set_self l1]; simp
      · rw [List.getElem?_set_ne (Ne.symm h1), if_neg h1]
  have hh' : HRel X ρ' (hrn r0 r1 row h) w := {
    live := fun q row' e' => by
      rw [hget] at e'
      by_cases h0 : q = r0
      · subst h0
        simp only [if_true, Option.map_some, Option.some.injEq] at e'
        subst e'
        obtain ⟨u, q1, q2⟩ := hh.live r1 row e1
        exact ⟨u, p0.trans q1, hrow _ _ (hH.at r1 row e1) q2⟩
      · by_cases h1 : q = r1
        · subst h1; simp [h0] at e'
        · rw [if_neg h0, if_neg h1] at e'
          simp only [Option.map_eq_some_iff] at e'
          obtain ⟨o, k1, k2⟩ := e'
          obtain ⟨row2, rfl, rfl⟩ := k2
          obtain ⟨u, q1, q2⟩ := hh.live q row2 k1
          exact ⟨u, (pq q h0 h1).trans q1, hrow _ _ (hH.at q row2 k1) q2⟩
    dead := fun q e' => by
      rw [hget] at e'
      by_cases h0 : q = r0
      · subst h0; simp at e'
      · by_cases h1 : q = r1
        · subst h1; exact .inr p1
        · rw [if_neg h0, if_neg h1] at e'
          simp only [Option.map_eq_some_iff] at e'
          obtain ⟨o, k1, k2⟩ := e'
          have : o = none := by cases o <;> simp_all
          subst this
          rw [pq q h0 h1]; exact hh.dead q k1
    past := fun q e' => by
      rw [hget] at e'
      by_cases h0 : q = r0
      · subst h0; simp at e'
      · by_cases h1 : q = r1
        · subst h1; simp [h0] at e'
        · rw [if_neg h0, if_neg h1] at e'
          exact (pq q h0 h1).trans (hh.past q (by simpa using e'))
    inj := fun q q' u1 u2 b q1 q2 q3 q4 => by
      have f : ∀ q u, ρ' q = some (some u) → ρ (if q = r0 then r1 else q) = some (some u) ∧ q ≠ r1 := fun q u e => by
        by_cases h0 : q = r0
        · subst h0; rw [if_pos rfl]; exact ⟨p0 ▸ e, hne⟩
        · by_cases h1 : q = r1
          · subst h1; rw [p1] at e; cases e
          · rw [if_neg h0]; exact ⟨pq q h0 h1 ▸ e, h1⟩
      have := hh.inj _ _ u1 u2 b (f q u1 q1).1 (f q' u2 q2).1 q3 q4
      have n1 := (f q u1 q1).2
      have n2 := (f q' u2 q2).2
      split at this <;> split at this <;> simp_all
    apart := fun b ho => hh.apart b (hown b ho)
    old := hh.old
    gl := hh.gl.less hown }
  have hE' : ERel (cx X ρ' w) (ern r0 r1 env) a.tmps := fun t d' hm => by
    simp only [ern, List.mem_map] at hm
    obtain ⟨⟨t', d2⟩, hm, e1⟩ := hm
    cases e1
    exact ⟨(hE _ _ hm).1, (hto d2 (hEn.at _ _ hm)).1 _ (hE _ _ hm).2⟩
  obtain ⟨a', w', ρ2, T', v, k1, k2, k3, k4, k5, k6⟩ := hr X ρ' a w b cs hh' hE' hd hnt
  exact ⟨a', w', ρ2, T', v, k1, k2, k3, k4, st.trans k5, k6⟩

/-- Rule: the slice that is none, as one of no elements. -/
theorem runs_nils {P : Program} {fn : Func} {n : Nat} {T : List Item} {env : Env} {h : Heap} {d : D} {h' : Heap} (t sz : Nat) (g : Nat → D) (e : get env t = some .nils) (hr : Runs P fn n T (put env t (.lit 0 sz g)) h d h') : Runs P fn n T env h d h' :=
  fun X ρ a w b cs hh hE hd hnt => hr X ρ a w b cs hh (fun u d' hm => by
    rcases List.mem_cons.1 hm with hm | hm
    · cases hm
      have := hE t _ (get_mem e)
      exact ⟨this.1, .inl ⟨⟨none, 0, this.2.1⟩, rfl⟩, this.2.2⟩
    · exact hE u d' (mem_drop1 hm).1) hd hnt

/-- Rule: one number more, of no row. -/
theorem runs_pad {P : Program} {fn : Func} {n : Nat} {T : List Item} {env : Env} {h : Heap} {d : D} {h' : Heap} (hr : Runs P fn n T env (h ++ [none]) d h') : Runs P fn n T env h d h' :=
  fun X ρ a w b cs hh hE hd hnt => hr X ρ a w b cs {
    live := fun r row e => by
      rcases Nat.lt_or_ge r h.length with hr | hr
      · rw [List.getElem?_append_left hr] at e; exact hh.live r row e
      · rw [List.getElem?_append_right hr] at e
        have : r - h.length = 0 ∨ 0 < r - h.length := by omega
        rcases this with k | k
        · rw [k] at e; cases e
        · rw [List.getElem?_eq_none (by simp; omega)] at e; cases e
    dead := fun r e => by
      rcases Nat.lt_or_ge r h.length with hr | hr
      · rw [List.getElem?_append_left hr] at e; exact hh.dead r e
      · exact .inl (hh.past r (List.getElem?_eq_none hr))
    past := fun r e => hh.past r (by
      rw [List.getElem?_eq_none_iff] at e ⊢
      simp at e; omega)
    inj := hh.inj
    apart := hh.apart
    old := hh.old
    gl := hh.gl } hE hd hnt

/-- Rule: a slice that is none, in a box, as a row of no elements. -/
theorem runs_boxnil {P : Program} {fn : Func} {n : Nat} {T : List Item} {env : Env} {h : Heap} {d : D} {h' : Heap} (r : Nat) (p : List Stp) {d0 d1 dd : D} (el : TypeId) (sz : Nat) (e0 : h[r]? = some (some (.box d0))) (en : nav p d0 = some ([], .nils)) (eu : upd p d0 (.own h.length) = some ([], d1)) (hd : EmptyOk dd)
    (hr : Runs P fn n T env (h.set r (some (.box d1)) ++ [some (.seq el 0 sz dd)]) d h') : Runs P fn n T env h d h' := by
  intro X ρ a w b cs hh hE hdf hnt
  obtain ⟨st, hp⟩ := push_nil hh el sz dd hd.1 hd.2
  have hrl := getElem?_lt e0
  have hne : r ≠ h.length := by omega
  have hh2 : HRel X (hset ρ h.length (some (.slice none 0 0))) (h.set r (some (.box d1)) ++ [some (.seq el 0 sz dd)]) w := {
    live := fun q row e => by
      by_cases hq : q = r
      · subst hq
        rw [List.getElem?_append_left (by simpa using hrl), List.getElem?_set_self hrl] at e
        cases e
        obtain ⟨u, k1, b', cs', e', k2, k3, k4, k5⟩ := hp.live q (.box d0) (by rw [List.getElem?_append_left hrl]; exact e0)
        refine ⟨u, k1, b', cs', e', k2, k3, ?_, ?_⟩
        · rw [k4]; exact ((upd_m (x := cx X ρ w) p eu trivial).1).symm
        · have h1 := (nav_m p en trivial k5).1
          refine (upd_m p eu trivial).2.2 (L := fun i => cs'[i]?) k5 (fun _ _ _ => rfl) ?_
          obtain ⟨v, v1, rfl, v3⟩ := h1
          exact ⟨_, v1, ⟨_, hset_self _ _ _, fun u eu => by cases eu; exact .inl rfl⟩, v3⟩
      · refine hp.live q row ?_
        rcases Nat.lt_or_ge q h.length with hl | hl
        · rw [List.getElem?_append_left (by simpa using hl), List.getElem?_set_ne (Ne.symm hq)] at e
          rw [List.getElem?_append_left hl]; exact e
        · rw [List.getElem?_append_right (by simpa using hl)] at e
          rw [List.getElem?_append_right hl]; simpa using e
    dead := fun q e => by
      by_cases hq : q = r
      · subst hq
        rw [List.getElem?_append_left (by simpa using hrl), List.getElem?_set_self hrl] at e
        cases e
      · refine hp.dead q ?_
        rcases Nat.lt_or_ge q h.length with hl | hl
        · rw [List.getElem?_append_left (by simpa using hl), List.getElem?_set_ne (Ne.symm hq)] at e
          rw [List.getElem?_append_left hl]; exact e
        · rw [List.getElem?_append_right (by simpa using hl)] at e
          rw [List.getElem?_append_right hl]; simpa using e
    past := fun q e => hp.past q (by
      rw [List.getElem?_eq_none_iff] at e ⊢
      simpa using e)
    inj := hp.inj
    apart := hp.apart
    old := hp.old
    gl := hp.gl }
  obtain ⟨a', w', ρ', T', v, k1, k2, k3, k4, k5, k6⟩ := hr X _ a w b cs hh2 (hE.le st.leF) hdf hnt
  exact ⟨a', w', ρ', T', v, k1, k2, k3, k4, (st.mono fun _ _ => trivial).trans k5, k6⟩

/-- Rule: a slice is none, or it is not. -/
theorem runs_nilsplit {P : Program} {fn : Func} {n : Nat} {T : List Item} {env : Env} {h : Heap} {d : D} {h' : Heap} (t : Nat) {m sz : Nat} {g : Nat → D} (e : get env t = some (.lit m sz g)) (h1 : m = 0 → Runs P fn n T (put env t .z0) h d h') (h2 : Runs P fn n T (put env t (.nn (.lit m sz g))) h d h') : Runs P fn n T env h d h' := by
  intro X ρ a w b cs hh hE hd hnt
  have hv := hE t _ (get_mem e)
  have put' : ∀ d', (VR (cx X ρ w) d').v (a.tmps.getD t undef) → ERel (cx X ρ w) (put env t d') a.tmps := fun d' hd' u d2 hm => by
    rcases List.mem_cons.1 hm with hm | hm
    · cases hm; exact ⟨hv.1, hd'⟩
    · exact hE u d2 (mem_drop1 hm).1
  by_cases hc : ∃ k c, a.tmps.getD t undef = .slice none k c
  · obtain ⟨k, c, hc⟩ := hc
    have h0 : k = 0 ∧ m = 0 := by
      rcases hv.2.1 with ⟨⟨a0, c0, e1⟩, e2⟩ | ⟨b0, o, cap, e1, _⟩
      · rw [hc] at e1; cases e1; exact ⟨rfl, e2⟩
      · rw [hc] at e1; cases e1
    obtain ⟨rfl, hm⟩ := h0
    exact h1 hm X ρ a w b cs hh (put' _ (by rw [hc]; exact ⟨⟨c, rfl⟩, rfl⟩)) hd hnt
  · exact h2 X ρ a w b cs hh (put' _ ⟨⟨hv.2, fun k c e => hc ⟨k, c, e⟩⟩, hv.2.2⟩) hd hnt

theorem runs_nn {P : Program} {fn : Func} {n : Nat} {T : List Item} {env : Env} {h : Heap} {d : D} {h' : Heap} (t : Nat) {d0 : D} (e : get env t = some (.nn d0)) (hr : Runs P fn n T (put env t d0) h d h') : Runs P fn n T env h d h' :=
  fun X ρ a w b cs hh hE hd hnt => hr X ρ a w b cs hh (fun u d' hm => by
    rcases List.mem_cons.1 hm with hm | hm
    · cases hm
      have := hE t _ (get_mem e)
      exact ⟨this.1, this.2.1.1⟩
    · exact hE u d' (mem_drop1 hm).1) hd hnt

/-- What is left of a row. -/
def TruncOk (m sz : Nat) (d d' : D) : Prop := d'.size = m * sz ∧ ∀ (x : Cx) (L : Look) (o : Nat), (VR x d).m L o → (VR x d').m L o

/-- Rule: of a row only its beginning is asked for any more. -/
theorem runs_trunc {P : Program} {fn : Func} {n0 : Nat} {T : List Item} {env : Env} {h : Heap} {d0 : D} {h' : Heap} (t r : Nat) {el : TypeId} {n m sz : Nat} {d d' : D} (e : get env t = some (.view r 0 m sz)) (hr : h[r]? = some (some (.seq el n sz d))) (hm : m ≤ n) (hd : TruncOk m sz d d')
    (hk : Runs P fn n0 T (put env t (.own h.length)) (h.set r none ++ [some (.seq el m sz d')]) d0 h') : Runs P fn n0 T env h d0 h' := by
  intro X ρ a w b cs hh hE hdf hnt
  obtain ⟨u, k1, k2, k3⟩ := hh.live r _ hr
  have hv := hE t _ (get_mem e)
  obtain ⟨⟨o, g1, g2⟩, hone⟩ := hv.2
  have main : ∀ u' : Value, (∀ b, blkOf u' = some b → blkOf u = some b) → (∀ y : Cx, (cx X ρ w).le y → y.w = w → RowR y u' (.seq el m sz d')) → (a.tmps.getD t undef = u' ∨ (u' = .slice none 0 0 ∧ ∃ a0, a.tmps.getD t undef = .slice a0 0 0)) →
      ∃ a' w' ρ' T' v, Steps P (lone (b.at a T) cs w) (lone { b.at a' T' with mode := .returning } cs w') ∧ a'.defers = [] ∧ (results fn a'.tmps).run P w' = .ok v w' ∧ HRel X ρ' h' w' ∧ Step (Bel n0) ρ w ρ' w' ∧ (VR (cx X ρ' w') d0).v v := fun u' hb hrow hval => by
    obtain ⟨st, hh2⟩ := hh.move (w' := w) (v := u') (row := .seq el m sz d') (getElem?_lt hr) k1 rfl rfl rfl (Nat.le_refl _) (Nat.le_refl _) (fun _ _ _ => rfl) (fun b hb' => .inl (hb b hb')) hrow
    have hE2 := hE.le (st.leF (X := X))
    obtain ⟨a', w', ρ', T', v, q1, q2, q3, q4, q5, q6⟩ := hk X _ a w b cs hh2 (fun s e' hm' => by
      rcases List.mem_cons.1 hm' with hm' | hm'
      · cases hm'
        exact ⟨hv.1, ⟨_, hset_self _ _ _, fun u eu => by cases eu; exact hval⟩, hone⟩
      · exact hE2 s e' (mem_drop1 hm').1) hdf hnt
    exact ⟨a', w', ρ', T', v, q1, q2, q3, q4, (st.mono fun _ _ => trivial).trans q5, q6⟩
  rcases g2 u (Option.some.inj (g1.symm.trans k1)) with ⟨rfl, _, rfl, a0, ev⟩ | ⟨b1, n', cap, rfl, q1, ev⟩
  · refine main (.slice none 0 0) (fun b e => by cases e) (fun y hle _ => ⟨hd.1, .inl ⟨rfl, rfl, ?_⟩⟩) (.inr ⟨rfl, a0, ev⟩)
    rcases k3 with ⟨_, _, q3⟩ | ⟨b, cap, cur, k, _⟩
    · exact (VR_le hle d').m _ _ (hd.2 _ _ _ q3)
    · cases k
  · rcases k3 with ⟨k, _⟩ | ⟨b', cap', cur, k, k4, k5, k6, k7, k8⟩
    · cases k
    · cases k
      refine main (.slice (some ⟨b1, 0, none⟩) m cap) (fun b e => e) (fun y hle hw => ⟨hd.1, .inr ⟨b1, cap, cur, rfl, by rw [hw]; exact k4, by omega, k6, k7, (VR_le hle d').m _ _ (hd.2 _ _ _ k8)⟩⟩) (.inl ?_)
      rw [ev]
      by_cases hc : cap = 0 <;> simp [hc]

end Go.Pod
