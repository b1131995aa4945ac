/- Memory: loads, stores, new rows. -/
import Derived.Test.YtimnljbphmndoaaGreatDoorExD7
namespace Go.Exe
open Go

/-- An operation gives a value and memory, whatever the machine's memory stands for. -/
def Okv (P : Program) (σ : Sig) (N : Nat) (o : Oper) (a : Act) (ρ : Rho) (h : H) (w : World) (v : AV) (h' : H) : Prop :=
  ∀ (next : Act → World → Prop) (Q : Exit → Act → World → Prop), (∀ ρ' u w', HR σ N ρ' h' w' → St ρ h w ρ' h' w' → VR σ ρ' v u → next (a.put o.dst u) w') → o.upon P a next Q ((execOp a.eval o).run P w)

section
variable {P : Program} {σ : Sig} {N : Nat} {ρ : Rho} {h h' : H} {w w' : World} {o : Oper} {a : Act} {v : AV}

theorem okv_val {ρ' : Rho} {u : Value} (e : (execOp a.eval o).run P w = .ok (.value u) w') (hh : HR σ N ρ' h' w') (st : St ρ h w ρ' h' w') (hv : VR σ ρ' v u) : Okv P σ N o a ρ h w v h' :=
  fun next Q k => by rw [e]; exact k _ _ _ hh st hv
theorem okv_skip {ρ' : Rho} (e : (execOp a.eval o).run P w = .ok .skip w') (hh : HR σ N ρ' h' w') (st : St ρ h w ρ' h' w') : Okv P σ N o a ρ h w .und h' :=
  fun next Q k => by rw [e]; exact k _ _ _ hh st rfl
theorem okv_pure {u : Value} (e : (execOp a.eval o).run P w = .ok (.value u) w) (hh : HR σ N ρ h w) (hv : VR σ ρ v u) : Okv P σ N o a ρ h w v h := okv_val e hh (St.refl _ _ _) hv

theorem cell_at {b i : Nat} {cs : Array Value} {e : TypeId} {fz : Nat × Nat} (hc : w.heap[b]? = some (.cells cs e fz)) : w.cell? ⟨b, i, none⟩ = cs[i]? := by simp [World.cell?, hc]

theorem dm (o sz : Nat) : o / sz * sz + o % sz = o := by have := Nat.div_add_mod o sz; rw [Nat.mul_comm] at this; exact this

theorem loadR_ok {cs : Array Value} {base sz n : Nat} {t : Tr (List AV)} (he : Els σ ρ cs base sz n t) {o m : Nat} {l : List AV} (hl : loadR t sz o m = some l) :
    l.all cellB = true ∧ l.length = m ∧ ∃ vs : List Value, LR σ ρ l vs ∧ ∀ j u, vs[j]? = some u → cs[base + o + j]? = some u := by
  obtain ⟨le, h1, h2⟩ := bnd_some.1 hl
  change t.get (o / sz) = some le at h1
  change sub le (o % sz) m = some l at h2
  obtain ⟨_, h3, h4, h5⟩ := he _ _ h1
  obtain ⟨g1, g2⟩ := sub_get h2
  have key : ∀ j, j < m → ∃ u, cs[base + o + j]? = some u ∧ ∀ x, l[j]? = some x → VR σ ρ x u := fun j hj => by
    have e := g2 j hj
    have hlt : j < l.length := by omega
    rw [List.getElem?_eq_getElem hlt] at e
    obtain ⟨u, k1, k2⟩ := h5 _ _ e.symm
    refine ⟨u, by rw [← k1]; congr 1; have := dm o sz; omega, fun x hx => ?_⟩
    rw [List.getElem?_eq_getElem hlt] at hx
    cases hx; exact k2
  refine ⟨all_sub h4 h2, g1, (List.range m).map fun j => (cs[base + o + j]?).getD undef, LR.mk (by simp [g1]) fun j x u hx hu => ?_, fun j u hu => ?_⟩
  · have hj : j < m := by have := (List.getElem?_eq_some_iff.1 hx).1; omega
    obtain ⟨u', k1, k2⟩ := key j hj
    simp [hj, k1] at hu
    subst hu
    exact k2 x hx
  · have hj : j < m := by have := (List.getElem?_eq_some_iff.1 hu).1; simpa using this
    obtain ⟨u', k1, k2⟩ := key j hj
    simp [hj, k1] at hu
    subst hu
    exact k1

theorem loadH_ok (hh : HR σ N ρ h w) {r o m : Nat} {l : List AV} (hl : loadH h r o m = some l) :
    l.all cellB = true ∧ l.length = m ∧ ∃ p, ρ r = some p ∧ ∃ vs : List Value, LR σ ρ l vs ∧ ∀ j u, vs[j]? = some u → w.cell? ⟨p.b, p.base + o + j, none⟩ = some u := by
  obtain ⟨e, sz, n, t, wr, rel, h1, h2⟩ := onCells_some hl
  obtain ⟨p, h3, cs, fz, h4, _, _, h5⟩ := hh.live r _ h1
  obtain ⟨k1, k2, vs, k3, k4⟩ := loadR_ok h5 h2
  exact ⟨k1, k2, p, h3, vs, k3, fun j u e => by rw [cell_at h4]; exact k4 j u e⟩

theorem run_loadVar {t : TypeId} {n : Nat} {g : Bool} (hn : szOf P t = some n) (hg : aggOf P t = some g) {l : List AV} {v : AV} (hv : ofCells g l = some v) (hc : l.all cellB = true) {b i : Nat} {vs : List Value} (hl : LR σ ρ l vs) (hlen : l.length = n)
    (hw : ∀ j u, vs[j]? = some u → w.cell? ⟨b, i + j, none⟩ = some u) : ∃ u, VR σ ρ v u ∧ (loadVar t ⟨b, i, none⟩).run P w = .ok u w := by
  have hvl := hl.length
  have rl := run_loadCells_list (P := P) w ⟨b, i, none⟩ vs fun j u e => by rw [add_lit]; exact hw j u e
  rw [hvl, hlen] at rl
  rcases ofCells_some hv with ⟨rfl, rfl⟩ | ⟨rfl, rfl⟩
  · exact ⟨.agg vs.toArray, ⟨_, rfl, by simpa using hl, hc⟩, by simp [loadVar, run_agg hg, run_sz hn, rl]⟩
  · obtain ⟨u, r, rfl, k2, k3⟩ := hl
    have := hw 0 u rfl
    refine ⟨u, k2, ?_⟩
    simp [loadVar, run_agg hg]
    rw [show (⟨b, i, none⟩ : Addr) = ⟨b, i + 0, none⟩ from rfl, this]

theorem loadO_ok (hh : HR σ N ρ h w) {t : TypeId} {x v : AV} {h' : H} (e : loadO (szOf P t) (aggOf P t) x h = some (v, h')) {y : Value} (hy : VR σ ρ x y) : h' = h ∧ ∃ u, VR σ ρ v u ∧ ∃ b i, y = .pointer (some ⟨b, i, none⟩) ∧ (loadVar t ⟨b, i, none⟩).run P w = .ok u w := by
  obtain ⟨r, i, hx, e1⟩ := onPtr_some e
  subst hx
  obtain ⟨n, h1, e2⟩ := bnd_some.1 e1
  obtain ⟨g, h2, e3⟩ := bnd_some.1 e2
  obtain ⟨l, h3, e4⟩ := bnd_some.1 e3
  obtain ⟨v', h4, e5⟩ := bnd_some.1 e4
  cases e5
  obtain ⟨k1, k2, p, k3, vs, k4, k5⟩ := loadH_ok hh h3
  obtain ⟨p', g1, rfl⟩ := hy
  rw [k3] at g1; cases g1
  obtain ⟨u, g2, g3⟩ := run_loadVar (P := P) h1 h2 h4 k1 k4 k2 k5
  exact ⟨rfl, u, g2, _, _, rfl, g3⟩

theorem op_load (hh : HR σ N ρ h w) {t : TypeId} {y : Operand} (ho : o.op = .load t y) {x : AV} (hx : VR σ ρ x (a.eval y)) (e : loadO (szOf P t) (aggOf P t) x h = some (v, h')) : Okv P σ N o a ρ h w v h' ∧ h' = h := by
  obtain ⟨rfl, u, h1, b, i, h2, h3⟩ := loadO_ok (P := P) hh e hx
  exact ⟨okv_pure (u := u) (by simp [execOp, ho, h2, Instr.loadAt, Instr.sureAddr, h3]) hh h1, rfl⟩

theorem op_store (hh : HR σ N ρ h w) (hσ : ∀ i, (σ i).oneCell' = true) {t : TypeId} {y z : Operand} (ho : o.op = .store t y z) {x m : AV} (hx : VR σ ρ x (a.eval y)) (hm : VR σ ρ m (a.eval z)) (e : storeO (szOf P t) x m h = some (v, h')) : Okv P σ N o a ρ h w v h' := by
  obtain ⟨r, i, hx', e1⟩ := onPtr_some e
  subst hx'
  obtain ⟨n, h1, e2⟩ := bnd_some.1 e1
  obtain ⟨l, e3, h2⟩ := onCellsOf_some e2
  obtain ⟨h3, e4⟩ := ite_some.1 e3
  obtain ⟨h'', h4, e5⟩ := bnd_some.1 e4
  cases e5
  obtain ⟨k1, k2⟩ := h2 σ ρ _ hσ hm
  obtain ⟨p, cs, ty, fz, g1, g2, g3, g4, g5, g6, g7, _⟩ := hh.wr hσ h4 k1 P k2
  obtain ⟨p', g8, g9⟩ := hx
  rw [g1] at g8; cases g8
  have hz : (a.eval z).cells.size = n := by
    have := k2.length
    rw [len_eq] at h3
    have h3 := Nat.eq_of_beq_eq_true h3
    simp only [Array.length_toList] at this
    omega
  exact okv_skip (by simp [execOp, ho, g9, Instr.storeAt, Instr.sureAddr, storeVar, run_sz h1, hz, g3 _ rfl]) g6 g7

/-! ### New rows -/

theorem Els.mono {ρ' : Rho} (hs : Sub ρ ρ') {cs : Array Value} {base sz n : Nat} {t : Tr (List AV)} (h : Els σ ρ cs base sz n t) : Els σ ρ' cs base sz n t := fun i l e => let ⟨h1, h2, h3⟩ := h i l e; ⟨h1, h2, h3.mono hs⟩

theorem new_cells (hh : HR σ N ρ h w) {ρ0 : Rho} {h0 : H} {w0 : World} (st0 : St ρ0 h0 w0 ρ h w) {r : Nat} (hr0 : h0.nx ≤ r) (hr : ρ r = none) {e : TypeId} {sz n : Nat} {t : Tr (List AV)} {cs : Array Value} (he : Els σ ρ cs 0 sz n t) (hg : ∀ q, h'.get q = if q = r then some (.cells e sz n t true []) else h.get q) (hn : h.nx ≤ h'.nx) (hrn : r < h'.nx) {fz : Nat × Nat} (hfz : fz.1 = fz.2 ∨ cs.size ≤ fz.1) :
    HR σ N (upd ρ r ⟨w.heap.size, 0, cs.size⟩) h' (pushed w (.cells cs e fz)) ∧ St ρ0 h0 w0 (upd ρ r ⟨w.heap.size, 0, cs.size⟩) h' (pushed w (.cells cs e fz)) :=
  hh.add st0 hr0 hr hg hn hrn (fun q hq => by simp [relOf] at hq) rfl ⟨cs, fz, pushed_new w _, rfl, ⟨Nat.zero_mod _, fun _ => hfz⟩, he.mono (upd_sub hr _)⟩

/-- One row is new. -/
def Lays (h h' : H) : Prop := h'.nx = h.nx + 1 ∧ (∀ q, q ≠ h.nx → h'.get q = h.get q) ∧ ∃ row, h'.get h.nx = some row ∧ relOf row = []

/-- A row laid by an evaluation elsewhere goes into this memory. -/
structure Laid (σ : Sig) (N : Nat) (ρ : Rho) (h : H) (w : World) (ρ0 : Rho) (h0 : H) (w0 : World) (hx hx' h' : H) : Prop where
  hh : HR σ N ρ h w
  free : ρ hx.nx = none
  st : St ρ0 h0 w0 ρ h w
  low : h0.nx ≤ hx.nx
  get : ∀ q, h'.get q = if q = hx.nx then hx'.get q else h.get q
  nx : h.nx ≤ h'.nx
  lt : hx.nx < h'.nx
theorem Laid.self (hh : HR σ N ρ h w) (l : Lays h h') : Laid σ N ρ h w ρ h w h h' h' := ⟨hh, hh.new _ (Nat.le_refl _), St.refl _ _ _, Nat.le_refl _, fun q => by
  by_cases hq : q = h.nx
  · rw [if_pos hq]
  · rw [if_neg hq]; exact l.2.1 q hq, by rw [l.1]; omega, by rw [l.1]; omega⟩
/-- The operation lays its row. -/
def Lain (P : Program) (σ : Sig) (N : Nat) (o : Oper) (a : Act) (ρ : Rho) (w : World) (ρ0 : Rho) (h0 : H) (w0 : World) (r : Nat) (v : AV) (h' : H) : Prop :=
  ∃ ρ' u w', (execOp a.eval o).run P w = .ok (.value u) w' ∧ HR σ N ρ' h' w' ∧ St ρ0 h0 w0 ρ' h' w' ∧ VR σ ρ' v u ∧ Sub ρ ρ' ∧ ∀ q, q ≠ r → ρ' q = ρ q
theorem Lain.okv {r : Nat} (l : Lain P σ N o a ρ w ρ h w r v h') : Okv P σ N o a ρ h w v h' := let ⟨_, _, _, k1, k2, k3, k4, _⟩ := l; okv_val k1 k2 k3 k4
theorem upd_ne {ρ : Rho} {r q : Nat} {p : Pl} (h : q ≠ r) : upd ρ r p q = ρ q := if_neg h

theorem els_one {l : List AV} {cs : Array Value} (hl : LR σ ρ l cs.toList) (hc : l.all cellB = true) : Els σ ρ cs 0 l.length 1 (.node .leaf (some l) .leaf) := fun i l' e => by
  rw [Tr.get_node] at e
  by_cases hi : i = 0
  · subst hi
    rw [if_pos rfl] at e
    cases e
    exact ⟨Nat.one_pos, rfl, hc, fun j a ha => by
      obtain ⟨u, h1, h2⟩ := hl.get j a ha
      exact ⟨u, by simpa using h1, h2⟩⟩
  · rw [if_neg hi] at e
    split at e <;> simp at e

theorem newV_lays {e : TypeId} {sz : Nat} {l : List AV} (hv : newV e sz l h = some (v, h')) : Lays h h' ∧ v = .ptr h.nx 0 ∧ h'.get h.nx = some (.cells e sz 1 (.node .leaf (some l) .leaf) true []) := by
  obtain ⟨h1, k1, k2, k3⟩ := new_some hv
  cases k1
  exact ⟨⟨k2, fun q hq => by rw [k3, if_neg hq], _, by rw [k3, if_pos rfl], rfl⟩, rfl, by rw [k3, if_pos rfl]⟩

section
variable {ρ0 : Rho} {h0 hx hx' : H} {w0 : World}
theorem newV_gen (L : Laid σ N ρ h w ρ0 h0 w0 hx hx' h') {e : TypeId} {sz : Nat} {l : List AV} (hsz : sz = l.length) {cs : Array Value} (hl : LR σ ρ l cs.toList) (hc : l.all cellB = true) (hv : newV e sz l hx = some (v, hx'))
    (run : (execOp a.eval o).run P w = .ok (.value (.pointer (some ⟨w.heap.size, 0, none⟩))) (pushed w (.cells cs e))) : Lain P σ N o a ρ w ρ0 h0 w0 hx.nx v h' := by
  obtain ⟨_, rfl, k3⟩ := newV_lays hv
  subst hsz
  obtain ⟨g1, g2⟩ := new_cells L.hh L.st L.low L.free (els_one hl hc) (e := e) (h' := h') (fun q => by
    rw [L.get]
    by_cases hq : q = hx.nx
    · rw [if_pos hq, if_pos hq, hq, k3]
    · rw [if_neg hq, if_neg hq]) L.nx L.lt (fz := (0, 0)) (.inl rfl)
  exact ⟨_, _, _, run, g1, g2, ⟨_, upd_same _ _ _, rfl⟩, upd_sub L.free _, fun q hq => upd_ne hq⟩

theorem allocO_lays {t : TypeId} (e : allocO t (szOf P t) (zeroOf P t) hx = some (v, hx')) : Lays hx hx' := by
  obtain ⟨sz, h1, e⟩ := bnd_some.1 e
  obtain ⟨z, h2, e⟩ := bnd_some.1 e
  obtain ⟨l, e, h3⟩ := onCellsOf_some e
  obtain ⟨h4, e⟩ := ite_some.1 e
  exact (newV_lays e).1
theorem op_alloc_gen (L : Laid σ N ρ h w ρ0 h0 w0 hx hx' h') (hσ : ∀ i, (σ i).oneCell' = true) {t : TypeId} (ho : o.op = .alloc t) (e : allocO t (szOf P t) (zeroOf P t) hx = some (v, hx')) : Lain P σ N o a ρ w ρ0 h0 w0 hx.nx v h' := by
  obtain ⟨sz, h1, e⟩ := bnd_some.1 e
  obtain ⟨z, h2, e⟩ := bnd_some.1 e
  obtain ⟨l, e, h3⟩ := onCellsOf_some e
  obtain ⟨h4, e⟩ := ite_some.1 e
  rw [len_eq] at h4
  obtain ⟨zv, k1, k2⟩ := zeroOf_ok (P := P) (σ := σ) (ρ := ρ) h2
  obtain ⟨k3, k4⟩ := h3 σ ρ zv hσ k1
  exact newV_gen L (Nat.eq_of_beq_eq_true h4).symm k4 k3 e (by simp [execOp, ho, Instr.alloc, k2, newVar, newRow, pushed])

theorem boxO_lays {t : TypeId} {x : AV} (e : (onCellsOf x fun l => force (len l) fun n => newV t n l hx) = some (v, hx')) : Lays hx hx' := by
  obtain ⟨l, e, h3⟩ := onCellsOf_some e
  rw [force_eq, len_eq] at e
  exact (newV_lays e).1
theorem op_box_gen (L : Laid σ N ρ h w ρ0 h0 w0 hx hx' h') (hσ : ∀ i, (σ i).oneCell' = true) {t : TypeId} {y : Operand} (ho : o.op = .box t y) {x : AV} (hx1 : VR σ ρ x (a.eval y)) (e : (onCellsOf x fun l => force (len l) fun n => newV t n l hx) = some (v, hx')) : Lain P σ N o a ρ w ρ0 h0 w0 hx.nx v h' := by
  obtain ⟨l, e, h3⟩ := onCellsOf_some e
  rw [force_eq, len_eq] at e
  obtain ⟨k3, k4⟩ := h3 σ ρ _ hσ hx1
  exact newV_gen L rfl k4 k3 e (by simp [execOp, ho, Instr.box, newVar, newRow, pushed])
end

theorem op_alloc (hh : HR σ N ρ h w) (hσ : ∀ i, (σ i).oneCell' = true) {t : TypeId} (ho : o.op = .alloc t) (e : allocO t (szOf P t) (zeroOf P t) h = some (v, h')) : Okv P σ N o a ρ h w v h' := (op_alloc_gen (.self hh (allocO_lays e)) hσ ho e).okv
theorem op_box (hh : HR σ N ρ h w) (hσ : ∀ i, (σ i).oneCell' = true) {t : TypeId} {y : Operand} (ho : o.op = .box t y) {x : AV} (hx : VR σ ρ x (a.eval y)) (e : (onCellsOf x fun l => force (len l) fun n => newV t n l h) = some (v, h')) : Okv P σ N o a ρ h w v h' := (op_box_gen (.self hh (boxO_lays e)) hσ ho hx e).okv
end
end Go.Exe
