/- Memory: loads, stores, new rows. -/
import Derived.Test.YtflmelafomlllaaGreatExD
import Derived.Deep.AppendSrc
import Derived.Laws.AppendOwn
import Derived.Laws.BytesString
import Derived.Laws.MakeOwn
import Derived.MapKept
import Derived.Laws.LoneSync
import Derived.Lib.Builder
namespace Go.Exe
open Go

/-- An operation gives a value and memory, whatever the machine's memory stands for. -/
def Okv (P : Program) (σ : Sig) (N : Nat) (o : Oper) (a : Act) (ρ : Rho) (h : H) (w : World) (v : AV) (h' : H) : Prop :=
  ∀ (next : Act → World → Prop) (Q : Exit → Act → World → Prop), (∀ ρ' u w', HR σ N ρ' h' w' → St ρ h w ρ' h' w' → VR σ ρ' v u → next (a.put o.dst u) w') → o.upon P a next Q ((execOp a.eval o).run P w)

section
variable {P : Program} {σ : Sig} {N : Nat} {ρ : Rho} {h h' : H} {w w' : World} {o : Oper} {a : Act} {v : AV}

theorem okv_val {ρ' : Rho} {u : Value} (e : (execOp a.eval o).run P w = .ok (.value u) w') (hh : HR σ N ρ' h' w') (st : St ρ h w ρ' h' w') (hv : VR σ ρ' v u) : Okv P σ N o a ρ h w v h' :=
  fun next Q k => by rw [e]; exact k _ _ _ hh st hv
theorem okv_skip {ρ' : Rho} (e : (execOp a.eval o).run P w = .ok .skip w') (hh : HR σ N ρ' h' w') (st : St ρ h w ρ' h' w') : Okv P σ N o a ρ h w .und h' :=
  fun next Q k => by rw [e]; exact k _ _ _ hh st rfl
theorem okv_pure {u : Value} (e : (execOp a.eval o).run P w = .ok (.value u) w) (hh : HR σ N ρ h w) (hv : VR σ ρ v u) : Okv P σ N o a ρ h w v h := okv_val e hh (St.refl _ _ _) hv

theorem cell_at {b i : Nat} {cs : Array Value} {e : TypeId} {fz : Nat × Nat} (hc : w.heap[b]? = some (.cells cs e fz)) : w.cell? ⟨b, i, none⟩ = cs[i]? := by simp [World.cell?, hc]

theorem dm (o sz : Nat) : o / sz * sz + o % sz = o := by have := Nat.div_add_mod o sz; rw [Nat.mul_comm] at this; exact this

theorem loadR_ok {cs : Array Value} {base sz n : Nat} {t : Tr (List AV)} (he : Els σ ρ cs base sz n t) {o m : Nat} {l : List AV} (hl : loadR t sz o m = some l) :
    l.all cellB = true ∧ l.length = m ∧ ∃ vs : List Value, LR σ ρ l vs ∧ ∀ j u, vs[j]? = some u → cs[base + o + j]? = some u := by
  obtain ⟨le, h1, h2⟩ := bnd_some.1 hl
  change t.get (o / sz) = some le at h1
  change sub le (o % sz) m = some l at h2
  obtain ⟨_, h3, h4, h5⟩ := he _ _ h1
  obtain ⟨g1, g2⟩ := sub_get h2
  have key : ∀ j, j < m → ∃ u, cs[base + o + j]? = some u ∧ ∀ x, l[j]? = some x → VR σ ρ x u := fun j hj => by
    have e := g2 j hj
    have hlt : j < l.length := by omega
    rw [List.getElem?_eq_getElem hlt] at e
    obtain ⟨u, k1, k2⟩ := h5 _ _ e.symm
    refine ⟨u, by rw [← k1]; congr 1; have := dm o sz; omega, fun x hx => ?_⟩
    rw [List.getElem?_eq_getElem hlt] at hx
    cases hx; exact k2
  refine ⟨all_sub h4 h2, g1, (List.range m).map fun j => (cs[base + o + j]?).getD undef, LR.mk (by simp [g1]) fun j x u hx hu => ?_, fun j u hu => ?_⟩
  · have hj : j < m := by have := (List.getElem?_eq_some_iff.1 hx).1; omega
    obtain ⟨u', k1, k2⟩ := key j hj
    simp [hj, k1] at hu
    subst hu
    exact k2 x hx
  · have hj : j < m := by have := (List.getElem?_eq_some_iff.1 hu).1; simpa using this
    obtain ⟨u', k1, k2⟩ := key j hj
    simp [hj, k1] at hu
    subst hu
    exact k1

theorem loadH_ok (hh : HR σ N ρ h w) {r o m : Nat} {l : List AV} (hl : loadH h r o m = some l) :
    l.all cellB = true ∧ l.length = m ∧ ∃ p, ρ r = some p ∧ ∃ vs : List Value, LR σ ρ l vs ∧ ∀ j u, vs[j]? = some u → w.cell? ⟨p.b, p.base + o + j, none⟩ = some u := by
  obtain ⟨e, sz, n, t, wr, rel, h1, h2⟩ := onCells_some hl
  obtain ⟨p, h3, cs, fz, h4, _, _, h5⟩ := hh.live r _ h1
  obtain ⟨k1, k2, vs, k3, k4⟩ := loadR_ok h5 h2
  exact ⟨k1, k2, p, h3, vs, k3, fun j u e => by rw [cell_at h4]; exact k4 j u e⟩

theorem run_loadVar {t : TypeId} {n : Nat} {g : Bool} (hn : szOf P t = some n) (hg : aggOf P t = some g) {l : List AV} {v : AV} (hv : ofCells g l = some v) (hc : l.all cellB = true) {b i : Nat} {vs : List Value} (hl : LR σ ρ l vs) (hlen : l.length = n)
    (hw : ∀ j u, vs[j]? = some u → w.cell? ⟨b, i + j, none⟩ = some u) : ∃ u, VR σ ρ v u ∧ (loadVar t ⟨b, i, none⟩).run P w = .ok u w := by
  have hvl := hl.length
  have rl := run_loadCells_list (P := P) w ⟨b, i, none⟩ vs fun j u e => by rw [add_lit]; exact hw j u e
  rw [hvl, hlen] at rl
  rcases ofCells_some hv with ⟨rfl, rfl⟩ | ⟨rfl, rfl⟩
  · exact ⟨.agg vs.toArray, ⟨_, rfl, by simpa using hl, hc⟩, by simp [loadVar, run_agg hg, run_sz hn, rl]⟩
  · obtain ⟨u, r, rfl, k2, k3⟩ := hl
    have := hw 0 u rfl
    refine ⟨u, k2, ?_⟩
    simp [loadVar, run_agg hg]
    rw [show (⟨b, i, none⟩ : Addr) = ⟨b, i + 0, none⟩ from rfl, this]

theorem loadO_ok (hh : HR σ N ρ h w) {t : TypeId} {x v : AV} {h' : H} (e : loadO (szOf P t) (aggOf P t) x h = some (v, h')) {y : Value} (hy : VR σ ρ x y) : h' = h ∧ ∃ u, VR σ ρ v u ∧ ∃ b i, y = .pointer (some ⟨b, i, none⟩) ∧ (loadVar t ⟨b, i, none⟩).run P w = .ok u w := by
  obtain ⟨r, i, hx, e1⟩ := onPtr_some e
  subst hx
  obtain ⟨n, h1, e2⟩ := bnd_some.1 e1
  obtain ⟨g, h2, e3⟩ := bnd_some.1 e2
  obtain ⟨l, h3, e4⟩ := bnd_some.1 e3
  obtain ⟨v', h4, e5⟩ := bnd_some.1 e4
  cases e5
  obtain ⟨k1, k2, p, k3, vs, k4, k5⟩ := loadH_ok hh h3
  obtain ⟨p', g1, rfl⟩ := hy
  rw [k3] at g1; cases g1
  obtain ⟨u, g2, g3⟩ := run_loadVar (P := P) h1 h2 h4 k1 k4 k2 k5
  exact ⟨rfl, u, g2, _, _, rfl, g3⟩

theorem op_load (hh : HR σ N ρ h w) {t : TypeId} {y : Operand} (ho : o.op = .load t y) {x : AV} (hx : VR σ ρ x (a.eval y)) (e : loadO (szOf P t) (aggOf P t) x h = some (v, h')) : Okv P σ N o a ρ h w v h' ∧ h' = h := by
  obtain ⟨rfl, u, h1, b, i, h2, h3⟩ := loadO_ok (P := P) hh e hx
  exact ⟨okv_pure (u := u) (by simp [execOp, ho, h2, Instr.loadAt, Instr.sureAddr, h3]) hh h1, rfl⟩

theorem op_store (hh : HR σ N ρ h w) (hσ : ∀ i, (σ i).oneCell' = true) {t : TypeId} {y z : Operand} (ho : o.op = .store t y z) {x m : AV} (hx : VR σ ρ x (a.eval y)) (hm : VR σ ρ m (a.eval z)) (e : storeO (szOf P t) x m h = some (v, h')) : Okv P σ N o a ρ h w v h' := by
  obtain ⟨r, i, hx', e1⟩ := onPtr_some e
  subst hx'
  obtain ⟨n, h1, e2⟩ := bnd_some.1 e1
  obtain ⟨l, e3, h2⟩ := onCellsOf_some e2
  obtain ⟨h3, e4⟩ := ite_some.1 e3
  obtain ⟨h'', h4, e5⟩ := bnd_some.1 e4
  cases e5
  obtain ⟨k1, k2⟩ := h2 σ ρ _ hσ hm
  obtain ⟨p, cs, ty, fz, g1, g2, g3, g4, g5, g6, g7, _⟩ := hh.wr hσ h4 k1 P k2
  obtain ⟨p', g8, g9⟩ := hx
  rw [g1] at g8; cases g8
  have hz : (a.eval z).cells.size = n := by
    have := k2.length
    rw [len_eq] at h3
    have h3 := Nat.eq_of_beq_eq_true h3
    simp only [Array.length_toList] at this
    omega
  exact okv_skip (by simp [execOp, ho, g9, Instr.storeAt, Instr.sureAddr, storeVar, run_sz h1, hz, g3 _ rfl]) g6 g7

/-! ### New rows -/

theorem Els.mono {ρ' : Rho} (hs : Sub ρ ρ') {cs : Array Value} {base sz n : Nat} {t : Tr (List AV)} (h : Els σ ρ cs base sz n t) : Els σ ρ' cs base sz n t := fun i l e => let ⟨h1, h2, h3⟩ := h i l e; ⟨h1, h2, h3.mono hs⟩

theorem new_cells (hh : HR σ N ρ h w) {ρ0 : Rho} {h0 : H} {w0 : World} (st0 : St ρ0 h0 w0 ρ h w) {r : Nat} (hr0 : h0.nx ≤ r) (hr : ρ r = none) {e : TypeId} {sz n : Nat} {t : Tr (List AV)} {cs : Array Value} (he : Els σ ρ cs 0 sz n t) (hg : ∀ q, h'.get q = if q = r then some (.cells e sz n t true []) else h.get q) (hn : h.nx ≤ h'.nx) (hrn : r < h'.nx) {fz : Nat × Nat} (hfz : fz.1 = fz.2 ∨ cs.size ≤ fz.1) :
    HR σ N (upd ρ r ⟨w.heap.size, 0, cs.size⟩) h' (pushed w (.cells cs e fz)) ∧ St ρ0 h0 w0 (upd ρ r ⟨w.heap.size, 0, cs.size⟩) h' (pushed w (.cells cs e fz)) :=
  hh.add st0 hr0 hr hg hn hrn (fun q hq => by simp [relOf] at hq) rfl ⟨cs, fz, pushed_new w _, rfl, ⟨Nat.zero_mod _, fun _ => hfz⟩, he.mono (upd_sub hr _)⟩

/-- One row is new. -/
def Lays (h h' : H) : Prop := h'.nx = h.nx + 1 ∧ (∀ q, q ≠ h.nx → h'.get q = h.get q) ∧ ∃ row, h'.get h.nx = some row ∧ relOf row = []

/-- A row laid by an evaluation elsewhere goes into this memory. -/
structure Laid (σ : Sig) (N : Nat) (ρ : Rho) (h : H) (w : World) (ρ0 : Rho) (h0 : H) (w0 : World) (hx hx' h' : H) : Prop where
  hh : HR σ N ρ h w
  free : ρ hx.nx = none
  st : St ρ0 h0 w0 ρ h w
  low : h0.nx ≤ hx.nx
  get : ∀ q, h'.get q = if q = hx.nx then hx'.get q else h.get q
  nx : h.nx ≤ h'.nx
  lt : hx.nx < h'.nx
theorem Laid.self (hh : HR σ N ρ h w) (l : Lays h h') : Laid σ N ρ h w ρ h w h h' h' := ⟨hh, hh.new _ (Nat.le_refl _), St.refl _ _ _, Nat.le_refl _, fun q => by
  by_cases hq : q = h.nx
  · rw [if_pos hq]
  · rw [if_neg hq]; exact l.2.1 q hq, by rw [l.1]; omega, by rw [l.1]; omega⟩
/-- The operation lays its row. -/
def Lain (P : Program) (σ : Sig) (N : Nat) (o : Oper) (a : Act) (ρ : Rho) (w : World) (ρ0 : Rho) (h0 : H) (w0 : World) (r : Nat) (v : AV) (h' : H) : Prop :=
  ∃ ρ' u w', (execOp a.eval o).run P w = .ok (.value u) w' ∧ HR σ N ρ' h' w' ∧ St ρ0 h0 w0 ρ' h' w' ∧ VR σ ρ' v u ∧ Sub ρ ρ' ∧ ∀ q, q ≠ r → ρ' q = ρ q
theorem Lain.okv {r : Nat} (l : Lain P σ N o a ρ w ρ h w r v h') : Okv P σ N o a ρ h w v h' := let ⟨_, _, _, k1, k2, k3, k4, _⟩ := l; okv_val k1 k2 k3 k4
theorem upd_ne {ρ : Rho} {r q : Nat} {p : Pl} (h : q ≠ r) : upd ρ r p q = ρ q := if_neg h

theorem els_one {l : List AV} {cs : Array Value} (hl : LR σ ρ l cs.toList) (hc : l.all cellB = true) : Els σ ρ cs 0 l.length 1 (.node .leaf (some l) .leaf) := fun i l' e => by
  rw [Tr.get_node] at e
  by_cases hi : i = 0
  · subst hi
    rw [if_pos rfl] at e
    cases e
    exact ⟨Nat.one_pos, rfl, hc, fun j a ha => by
      obtain ⟨u, h1, h2⟩ := hl.get j a ha
      exact ⟨u, by simpa using h1, h2⟩⟩
  · rw [if_neg hi] at e
    split at e <;> simp at e

theorem newV_lays {e : TypeId} {sz : Nat} {l : List AV} (hv : newV e sz l h = some (v, h')) : Lays h h' ∧ v = .ptr h.nx 0 ∧ h'.get h.nx = some (.cells e sz 1 (.node .leaf (some l) .leaf) true []) := by
  obtain ⟨h1, k1, k2, k3⟩ := new_some hv
  cases k1
  exact ⟨⟨k2, fun q hq => by rw [k3, if_neg hq], _, by rw [k3, if_pos rfl], rfl⟩, rfl, by rw [k3, if_pos rfl]⟩

section
variable {ρ0 : Rho} {h0 hx hx' : H} {w0 : World}
theorem newV_gen (L : Laid σ N ρ h w ρ0 h0 w0 hx hx' h') {e : TypeId} {sz : Nat} {l : List AV} (hsz : sz = l.length) {cs : Array Value} (hl : LR σ ρ l cs.toList) (hc : l.all cellB = true) (hv : newV e sz l hx = some (v, hx'))
    (run : (execOp a.eval o).run P w = .ok (.value (.pointer (some ⟨w.heap.size, 0, none⟩))) (pushed w (.cells cs e))) : Lain P σ N o a ρ w ρ0 h0 w0 hx.nx v h' := by
  obtain ⟨_, rfl, k3⟩ := newV_lays hv
  subst hsz
  obtain ⟨g1, g2⟩ := new_cells L.hh L.st L.low L.free (els_one hl hc) (e := e) (h' := h') (fun q => by
    rw [L.get]
    by_cases hq : q = hx.nx
    · rw [if_pos hq, if_pos hq, hq, k3]
    · rw [if_neg hq, if_neg hq]) L.nx L.lt (fz := (0, 0)) (.inl rfl)
  exact ⟨_, _, _, run, g1, g2, ⟨_, upd_same _ _ _, rfl⟩, upd_sub L.free _, fun q hq => upd_ne hq⟩

theorem allocO_lays {t : TypeId} (e : allocO t (szOf P t) (zeroOf P t) hx = some (v, hx')) : Lays hx hx' := by
  obtain ⟨sz, h1, e⟩ := bnd_some.1 e
  obtain ⟨z, h2, e⟩ := bnd_some.1 e
  obtain ⟨l, e, h3⟩ := onCellsOf_some e
  obtain ⟨h4, e⟩ := ite_some.1 e
  exact (newV_lays e).1
theorem op_alloc_gen (L : Laid σ N ρ h w ρ0 h0 w0 hx hx' h') (hσ : ∀ i, (σ i).oneCell' = true) {t : TypeId} (ho : o.op = .alloc t) (e : allocO t (szOf P t) (zeroOf P t) hx = some (v, hx')) : Lain P σ N o a ρ w ρ0 h0 w0 hx.nx v h' := by
  obtain ⟨sz, h1, e⟩ := bnd_some.1 e
  obtain ⟨z, h2, e⟩ := bnd_some.1 e
  obtain ⟨l, e, h3⟩ := onCellsOf_some e
  obtain ⟨h4, e⟩ := ite_some.1 e
  rw [len_eq] at h4
  obtain ⟨zv, k1, k2⟩ := zeroOf_ok (P := P) (σ := σ) (ρ := ρ) h2
  obtain ⟨k3, k4⟩ := h3 σ ρ zv hσ k1
  exact newV_gen L (Nat.eq_of_beq_eq_true h4).symm k4 k3 e (by simp [execOp, ho, Instr.alloc, k2, newVar, newRow, pushed])

theorem boxO_lays {t : TypeId} {x : AV} (e : (onCellsOf x fun l => force (len l) fun n => newV t n l hx) = some (v, hx')) : Lays hx hx' := by
  obtain ⟨l, e, h3⟩ := onCellsOf_some e
  rw [force_eq, len_eq] at e
  exact (newV_lays e).1
theorem op_box_gen (L : Laid σ N ρ h w ρ0 h0 w0 hx hx' h') (hσ : ∀ i, (σ i).oneCell' = true) {t : TypeId} {y : Operand} (ho : o.op = .box t y) {x : AV} (hx1 : VR σ ρ x (a.eval y)) (e : (onCellsOf x fun l => force (len l) fun n => newV t n l hx) = some (v, hx')) : Lain P σ N o a ρ w ρ0 h0 w0 hx.nx v h' := by
  obtain ⟨l, e, h3⟩ := onCellsOf_some e
  rw [force_eq, len_eq] at e
  obtain ⟨k3, k4⟩ := h3 σ ρ _ hσ hx1
  exact newV_gen L rfl k4 k3 e (by simp [execOp, ho, Instr.box, newVar, newRow, pushed])
end

theorem op_alloc (hh : HR σ N ρ h w) (hσ : ∀ i, (σ i).oneCell' = true) {t : TypeId} (ho : o.op = .alloc t) (e : allocO t (szOf P t) (zeroOf P t) h = some (v, h')) : Okv P σ N o a ρ h w v h' := (op_alloc_gen (.self hh (allocO_lays e)) hσ ho e).okv
theorem op_box (hh : HR σ N ρ h w) (hσ : ∀ i, (σ i).oneCell' = true) {t : TypeId} {y : Operand} (ho : o.op = .box t y) {x : AV} (hx : VR σ ρ x (a.eval y)) (e : (onCellsOf x fun l => force (len l) fun n => newV t n l h) = some (v, h')) : Okv P σ N o a ρ h w v h' := (op_box_gen (.self hh (boxO_lays e)) hσ ho hx e).okv
end
end Go.Exe
/- Elements as lists; new slices. -/
namespace Go.Exe
open Go

section
variable {P : Program} {σ : Sig} {N : Nat} {ρ : Rho} {h h' : H} {w w' : World} {o : Oper} {a : Act} {v : AV}

theorem flat_get {α : Type} {s : Nat} : ∀ {ls : List (List α)}, (∀ l ∈ ls, l.length = s) → ∀ (i : Nat) (l : List α), ls[i]? = some l → ∀ j, j < s → ls.flatten[i * s + j]? = l[j]?
  | [], _, i, l, e, _, _ => by simp at e
  | x :: ls, h, 0, l, e, j, hj => by
    simp at e; subst e
    rw [List.flatten_cons, Nat.zero_mul, Nat.zero_add, List.getElem?_append_left (by rw [h x (List.mem_cons_self ..)]; exact hj)]
  | x :: ls, h, i + 1, l, e, j, hj => by
    have hx := h x (List.mem_cons_self ..)
    rw [List.flatten_cons, List.getElem?_append_right (by rw [hx, Nat.add_mul]; omega), hx, show (i + 1) * s + j - s = i * s + j by rw [Nat.add_mul]; omega]
    exact flat_get (fun l hl => h l (List.mem_cons_of_mem _ hl)) i l (by simpa using e) j hj
theorem flat_length {α : Type} {s : Nat} : ∀ {ls : List (List α)}, (∀ l ∈ ls, l.length = s) → ls.flatten.length = ls.length * s
  | [], _ => by simp
  | x :: ls, h => by
    rw [List.flatten_cons, List.length_append, h x (List.mem_cons_self ..), flat_length (fun l hl => h l (List.mem_cons_of_mem _ hl)), List.length_cons, Nat.add_mul]; omega

/-- Elements of s cells each, and their cells one behind the other. -/
structure FL (σ : Sig) (ρ : Rho) (s : Nat) (ls : List (List AV)) (vs : List Value) : Prop where
  len : ∀ l ∈ ls, l.length = s
  one : ∀ l ∈ ls, l.all cellB = true
  lr : LR σ ρ ls.flatten vs

theorem FL.mono {ρ' : Rho} (hs : Sub ρ ρ') {s : Nat} {ls : List (List AV)} {vs : List Value} (h : FL σ ρ s ls vs) : FL σ ρ' s ls vs := ⟨h.len, h.one, LR.mono hs _ h.lr⟩
theorem FL.length {s : Nat} {ls : List (List AV)} {vs : List Value} (h : FL σ ρ s ls vs) : vs.length = ls.length * s := by rw [h.lr.length, flat_length h.len]
theorem FL.append {s : Nat} {ls ms : List (List AV)} {vs us : List Value} (h : FL σ ρ s ls vs) (k : FL σ ρ s ms us) : FL σ ρ s (ls ++ ms) (vs ++ us) :=
  ⟨fun l hl => (List.mem_append.1 hl).elim (h.len l) (k.len l), fun l hl => (List.mem_append.1 hl).elim (h.one l) (k.one l), by rw [List.flatten_append]; exact h.lr.append k.lr⟩
theorem FL.nil (s : Nat) : FL σ ρ s [] [] := ⟨fun l h => by simp at h, fun l h => by simp at h, rfl⟩
theorem FL.oneCell (hσ : ∀ i, (σ i).oneCell' = true) {s : Nat} {ls : List (List AV)} {vs : List Value} (h : FL σ ρ s ls vs) : ∀ u ∈ vs, u.oneCell' = true := fun u hu => by
  obtain ⟨j, hj, rfl⟩ := List.mem_iff_getElem.1 hu
  have hl := h.lr.length
  obtain ⟨x, h1, h2⟩ := h.lr.get j (ls.flatten[j]'(by omega)) (List.getElem?_eq_getElem _)
  rw [List.getElem?_eq_getElem hj] at h1
  cases h1
  obtain ⟨l, hl1, hl2⟩ := List.mem_flatten.1 (List.getElem_mem (show j < ls.flatten.length by omega))
  exact VR.one hσ (List.all_eq_true.1 (h.one l hl1) _ hl2) h2

/-- They lie in cells from a place on. -/
theorem FL.els {s : Nat} {ls : List (List AV)} {vs : List Value} (h : FL σ ρ s ls vs) {cs : Array Value} {base : Nat} (hc : ∀ j u, vs[j]? = some u → cs[base + j]? = some u) {t : Tr (List AV)} {n : Nat} (hn : ls.length ≤ n) (ht : ∀ i l, t.get i = some l → ls[i]? = some l) : Els σ ρ cs base s n t := fun i l e => by
  have hi := ht i l e
  have hlt := (List.getElem?_eq_some_iff.1 hi).1
  have hmem : l ∈ ls := List.mem_of_getElem? hi
  refine ⟨by omega, h.len l hmem, h.one l hmem, fun j x hx => ?_⟩
  have hj : j < s := by rw [← h.len l hmem]; exact (List.getElem?_eq_some_iff.1 hx).1
  have e1 := flat_get h.len i l hi j hj
  rw [hx] at e1
  obtain ⟨u, h1, h2⟩ := h.lr.get _ _ e1
  exact ⟨u, by rw [Nat.add_assoc]; exact hc _ _ h1, h2⟩

theorem lay_get : ∀ {ls : List (List AV)} {i : Nat} {t t' : Tr (List AV)}, lay ls i t = some t' → ∀ j, t'.get j = if i ≤ j ∧ j < i + ls.length then ls[j - i]? else t.get j
  | [], i, t, t', h, j => by cases h; rw [if_neg (by simp only [List.length_nil]; omega)]
  | l :: ls, i, t, t', h, j => by
    obtain ⟨t1, h1, h⟩ := bnd_some.1 (show bnd (t.set (some l) 30 i) (fun t => force (Nat.succ i) fun j => lay ls j t) = some t' from h)
    rw [force_eq] at h
    rw [lay_get h, Tr.get_set h1]
    simp only [List.length_cons]
    by_cases hj : j = i
    · subst hj; rw [if_neg (by omega), if_pos rfl, if_pos (by omega)]; simp
    · rw [if_neg hj]
      by_cases hj2 : i.succ ≤ j ∧ j < i.succ + ls.length
      · rw [if_pos hj2, if_pos (by omega), show j - i = (j - i.succ) + 1 by omega, List.getElem?_cons_succ]
      · rw [if_neg hj2, if_neg (by omega)]
theorem lay0_get {ls : List (List AV)} {t' : Tr (List AV)} (h : lay ls 0 .leaf = some t') (i : Nat) (l : List AV) (e : t'.get i = some l) : ls[i]? = some l := by
  rw [lay_get h] at e
  by_cases hi : 0 ≤ i ∧ i < 0 + ls.length
  · rw [if_pos hi] at e; simpa using e
  · rw [if_neg hi] at e; simp at e

theorem elems_some : ∀ {k i : Nat} {t : Tr (List AV)} {ls : List (List AV)}, elems t k i = some ls → ls.length = k ∧ ∀ j, j < k → t.get (i + j) = ls[j]?
  | 0, i, t, ls, h => by cases h; exact ⟨rfl, fun j hj => absurd hj (Nat.not_lt_zero _)⟩
  | k + 1, i, t, ls, h => by
    obtain ⟨l, h1, h⟩ := bnd_some.1 (show bnd (t.get i) (fun l => force (Nat.succ i) fun j => bnd (elems t k j) fun ls => some (l :: ls)) = some ls from h)
    rw [force_eq] at h
    obtain ⟨ls', h2, h⟩ := bnd_some.1 h
    cases h
    obtain ⟨k1, k2⟩ := elems_some h2
    refine ⟨by simp [k1], fun j hj => ?_⟩
    cases j with
    | zero => simpa using h1
    | succ j => rw [List.getElem?_cons_succ, ← k2 j (by omega)]; congr 1; omega

theorem part_some {s : Nat} : ∀ {f : Nat} {l : List AV} {ls : List (List AV)}, part s f l = some ls → ls.length = f ∧ ls.flatten = l ∧ ∀ x ∈ ls, x.length = s
  | 0, l, ls, h => by
    cases l with
    | nil => cases h; exact ⟨rfl, rfl, fun x hx => by simp at hx⟩
    | cons => exact nomatch h
  | f + 1, l, ls, h => by
    obtain ⟨p, h1, h⟩ := bnd_some.1 (show bnd (takeN l s) (fun a => bnd (dropN l s) fun r => bnd (part s f r) fun e => some (a :: e)) = some ls from h)
    obtain ⟨r, h2, h⟩ := bnd_some.1 h
    obtain ⟨e, h3, h⟩ := bnd_some.1 h
    cases h
    obtain ⟨g1, rfl⟩ := takeN_some h1
    obtain ⟨g2, rfl⟩ := dropN_some h2
    obtain ⟨k1, k2, k3⟩ := part_some h3
    exact ⟨by simp [k1], by rw [List.flatten_cons, k2, List.take_append_drop], fun x hx => (List.mem_cons.1 hx).elim (fun e => by rw [e]; simp; omega) (k3 x)⟩

theorem bytesL_flat : ∀ (n : Nat) (l : List UInt8), n ≤ l.length → (bytesL n (bytesN l)).flatten = (l.take n).map fun b => AV.int .u8 (b.toNat : Nat)
  | 0, l, _ => by rw [show bytesL 0 (bytesN l) = [] from rfl]; simp
  | n + 1, [], h => by simp at h
  | n + 1, b :: l, h => by
    have hb : b.toNat < 256 := b.toNat_lt
    have e1 : Nat.land (bytesN (b :: l)) 255 = b.toNat := by
      show (bytesN (b :: l)) &&& 255 = _
      rw [show (255 : Nat) = 2 ^ 8 - 1 from rfl, Nat.and_two_pow_sub_one_eq_mod, bytesN_cons]; omega
    have e2 : Nat.shiftRight (bytesN (b :: l)) 8 = bytesN l := by
      show (bytesN (b :: l)) >>> 8 = _
      rw [Nat.shiftRight_eq_div_pow, bytesN_cons]; omega
    show (([AV.int .u8 (.ofNat (Nat.land (bytesN (b :: l)) 255))] :: bytesL n (Nat.shiftRight (bytesN (b :: l)) 8)).flatten) = _
    rw [e1, e2, List.flatten_cons, bytesL_flat n l (by simpa using h)]
    rfl
theorem bytesL_mem : ∀ (n x : Nat), ∀ l ∈ bytesL n x, ∃ b : Nat, l = [AV.int .u8 (.ofNat b)]
  | 0, x, l, h => by rw [show bytesL 0 x = [] from rfl] at h; simp at h
  | n + 1, x, l, h => by
    rcases List.mem_cons.1 (show l ∈ [AV.int .u8 (.ofNat (Nat.land x 255))] :: bytesL n (Nat.shiftRight x 8) from h) with rfl | h
    · exact ⟨_, rfl⟩
    · exact bytesL_mem n _ l h
theorem bytesL_length : ∀ (n x : Nat), (bytesL n x).length = n
  | 0, _ => rfl
  | n + 1, x => congrArg Nat.succ (bytesL_length n (Nat.shiftRight x 8))

theorem bytesL_fl (l : List UInt8) {n : Nat} (hn : n ≤ l.length) : FL σ ρ 1 (bytesL n (bytesN l)) ((l.take n).map fun b => Value.int .u8 (b.toNat : Nat)) where
  len := fun x hx => by obtain ⟨b, rfl⟩ := bytesL_mem _ _ x hx; rfl
  one := fun x hx => by obtain ⟨b, rfl⟩ := bytesL_mem _ _ x hx; rfl
  lr := by
    rw [bytesL_flat n l hn]
    refine LR.mk (by simp) fun i x u e1 e2 => ?_
    simp only [List.getElem?_map, Option.map_eq_some_iff] at e1 e2
    obtain ⟨b, hb, rfl⟩ := e1
    obtain ⟨b', hb', rfl⟩ := e2
    rw [hb] at hb'; cases hb'
    rfl

/-- The elements of a slice or a string, as the code finds them. -/
theorem elemsOf_ok (hh : HR σ N ρ h w) {s n : Nat} {x : AV} {ls : List (List AV)} (e : elemsOf s h x n = some ls) {y : Value} (hy : VR σ ρ x y) :
    ls.length = n ∧ ∃ vs, FL σ ρ s ls vs ∧ ∀ w', w'.heap = w.heap → (Builtin.firstCells s n y).run P w' = .ok vs.toArray w' := by
  unfold elemsOf at e
  split at e
  · obtain ⟨h1, e⟩ := ite_some.1 e
    obtain ⟨h2, e⟩ := ite_some.1 e
    cases e
    obtain ⟨b, rfl, rfl, rfl⟩ := hy
    have h1 := Nat.eq_of_beq_eq_true h1
    subst h1
    have h2 := Nat.le_of_ble_eq_true h2
    refine ⟨bytesL_length _ _, _, bytesL_fl b.data.toList h2, fun w' _ => ?_⟩
    simp only [Builtin.firstCells, Sem.run_pure]
    congr 1
    apply Array.ext'
    simp
  · obtain ⟨h1, e⟩ := ite_some.1 e
    cases e
    obtain rfl : n = 0 := Nat.eq_of_beq_eq_true h1
    cases hy
    exact ⟨rfl, [], FL.nil s, fun w' _ => by simp [Builtin.firstCells]⟩
  · rename_i r o m c g
    rw [beq_eq] at e
    obtain ⟨p, cap, off, h1, rfl, h2, h3, h4, h5, h6, h7⟩ := hy
    by_cases hn : n = 0
    · subst hn
      rw [decide_eq_true rfl] at e
      cases e
      exact ⟨rfl, [], FL.nil s, fun w' _ => by simp [Builtin.firstCells, loadCells, loadCellsFrom]⟩
    · rw [decide_eq_false hn] at e
      obtain ⟨k1, e⟩ := ite_some.1 (show ite' (Nat.ble n m) _ = some ls from e)
      have k1 := Nat.le_of_ble_eq_true k1
      obtain ⟨ty, sz, nn, t, wr, rel, k2, e⟩ := onCells_some e
      obtain ⟨p', k3, cs, fz, k4, k5, k6, k7⟩ := hh.live r _ k2
      rw [h1] at k3; cases k3
      obtain rfl : off = p.base + o := h2.resolve_right (by omega)
      have fin : ∀ vs : List Value, FL σ ρ s ls vs → ls.length = n → (∀ j u, vs[j]? = some u → cs[p.base + o + j]? = some u) → ls.length = n ∧ ∃ vs, FL σ ρ s ls vs ∧ ∀ w', w'.heap = w.heap → (Builtin.firstCells s n (.slice (some ⟨p.b, p.base + o, none⟩) m cap)).run P w' = .ok vs.toArray w' := fun vs hf hl hv => by
        refine ⟨hl, vs, hf, fun w' hw => run_firstCells_some (P := P) w' s n _ m cap vs (by rw [hf.length, hl]) fun j u hu => ?_⟩
        rw [add_lit, cell_at (by rw [hw]; exact k4)]
        exact hv j u hu
      rw [beq_eq sz s] at e
      by_cases hsz : sz = s
      · subst hsz
        rw [decide_eq_true rfl] at e
        obtain ⟨g1, e⟩ := ite_some.1 (show ite' (Nat.beq (Nat.mod o sz) 0) (elems t n (Nat.div o sz)) = some ls from e)
        obtain ⟨g2, g3⟩ := elems_some e
        have g1 : o % sz = 0 := Nat.eq_of_beq_eq_true g1
        have hdm := dm o sz
        have hseg : ∀ j (hj : j < ls.length), ls[j].length = sz ∧ Seg σ ρ cs (p.base + (o / sz + j) * sz) ls[j] := fun j hj => by
          have := g3 j (by omega)
          rw [List.getElem?_eq_getElem hj] at this
          obtain ⟨_, q1, q2⟩ := k7 _ _ this
          exact ⟨q1, q2⟩
        have hlen : ∀ l ∈ ls, l.length = sz := fun l hl => by obtain ⟨j, hj, rfl⟩ := List.mem_iff_getElem.1 hl; exact (hseg j hj).1
        have hfl := flat_length hlen
        have key : ∀ j, j < ls.flatten.length → ∃ u, cs[p.base + o + j]? = some u ∧ ∀ x, ls.flatten[j]? = some x → VR σ ρ x u := fun j hj => by
          rcases Nat.eq_zero_or_pos sz with h0 | h0
          · rw [hfl, h0, Nat.mul_zero] at hj; exact absurd hj (Nat.not_lt_zero _)
          · have hd : j / sz < ls.length := (Nat.div_lt_iff_lt_mul h0).2 (by rw [← hfl]; exact hj)
            have hm : j % sz < sz := Nat.mod_lt _ h0
            obtain ⟨q1, q2⟩ := hseg _ hd
            obtain ⟨u, q3, q4⟩ := q2.2 (j % sz) (ls[j / sz]'hd)[j % sz] (List.getElem?_eq_getElem (by rw [q1]; exact hm))
            have ej := dm j sz
            refine ⟨u, by rw [← q3]; congr 1; rw [Nat.add_mul]; omega, fun x hx => ?_⟩
            have := flat_get hlen (j / sz) _ (List.getElem?_eq_getElem hd) (j % sz) hm
            rw [ej, hx, List.getElem?_eq_getElem (by rw [q1]; exact hm)] at this
            cases this; exact q4
        refine fin ((List.range ls.flatten.length).map fun j => (cs[p.base + o + j]?).getD undef) ⟨hlen, fun l hl => ?_, LR.mk (by simp) fun j x u hx hu => ?_⟩ g2 fun j u hu => ?_
        · obtain ⟨j, hj, rfl⟩ := List.mem_iff_getElem.1 hl; exact (hseg j hj).2.1
        · have hj : j < ls.flatten.length := (List.getElem?_eq_some_iff.1 hx).1
          obtain ⟨u', q1, q2⟩ := key j hj
          rw [List.getElem?_map, List.getElem?_range hj, Option.map_some, q1] at hu
          cases hu; exact q2 x hx
        · have hj : j < ls.flatten.length := by have := (List.getElem?_eq_some_iff.1 hu).1; simpa using this
          obtain ⟨u', q1, q2⟩ := key j hj
          rw [List.getElem?_map, List.getElem?_range hj, Option.map_some, q1] at hu
          cases hu; exact q1
      · rw [decide_eq_false hsz] at e
        obtain ⟨l, g1, e⟩ := bnd_some.1 (show bnd (loadR t sz o (Nat.mul n s)) (fun l => part s n l) = some ls from e)
        obtain ⟨q1, q2, vs, q3, q4⟩ := loadR_ok k7 g1
        obtain ⟨g2, g3, g4⟩ := part_some e
        refine fin vs ⟨g4, fun x hx => List.all_eq_true.2 fun y hy => List.all_eq_true.1 q1 y ?_, by rw [g3]; exact q3⟩ g2 q4
        rw [← g3]; exact List.mem_flatten.2 ⟨x, hx, hy⟩
  · cases e

/-- A new slice. -/
theorem newS_ok (hh : HR σ N ρ h w) {e : TypeId} {sz n m g : Nat} {ls : List (List AV)} {vs : List Value} (hf : FL σ ρ sz ls vs) (hm : ls.length ≤ m) (hv : newS e sz n m g ls h = some (v, h')) {w0 : World} (h0 : w0.heap = w.heap) (h1 : w0.os = w.os ∧ w0.tape = w.tape ∧ w0.output = w.output)
    {cs : Array Value} (hc : ∀ (j : Nat) (u : Value), vs[j]? = some u → cs[j]? = some u) {cap : Nat} (hcap : n ≤ cap) (hcm : m ≤ cap) (hml : cap ≤ maxLen) (hg0 : g = 0 → cap = m) (hg1 : ∀ s, g = s + 1 → cap * s ≤ cs.size) {fz : Nat × Nat} (hfz : fz.1 = fz.2 ∨ cs.size ≤ fz.1) :
    ∃ ρ', HR σ N ρ' h' (pushed w0 (.cells cs e fz)) ∧ St ρ h w ρ' h' (pushed w0 (.cells cs e fz)) ∧ VR σ ρ' v (.slice (some ⟨w0.heap.size, 0, none⟩) n cap) := by
  obtain ⟨t, k1, hv⟩ := bnd_some.1 hv
  obtain ⟨h1', k2, k3, k4⟩ := new_some hv
  cases k2
  have hr := hh.new h.nx (Nat.le_refl _)
  have hh0 : HR σ N ρ h w0 := { live := fun r row e => let ⟨p, a, b⟩ := hh.live r row e; ⟨p, a, b.mono (Sub.refl _) (by rw [h0])⟩, new := hh.new, sep := hh.sep, old := hh.old, rels := hh.rels, glob := hh.glob }
  obtain ⟨g1, g2⟩ := new_cells hh0 (St.refl _ _ _) (Nat.le_refl _) hr (hf.els (cs := cs) (base := 0) (fun j u hu => by rw [Nat.zero_add]; exact hc j u hu) hm (fun i l e => lay0_get k1 i l e)) (e := e) k4 (by omega) (by omega) hfz
  refine ⟨_, g1, ?_, ⟨_, cap, 0, upd_same _ _ _, rfl, .inl rfl, hcap, hcm, hml, hg0, fun s hs => by rw [Nat.zero_add]; exact hg1 s hs⟩⟩
  exact { os := g2.os.trans h1.1, tape := g2.tape.trans h1.2.1, output := g2.output.trans h1.2.2, size := by have := g2.size; rw [h0] at this; exact this, block := fun b hb hn => (g2.block b (by rw [h0]; exact hb) hn).trans (by rw [h0]), rho := g2.rho, owns := fun b hb ho => g2.owns b (by rw [h0]; exact hb) ho, nx := g2.nx, dom := fun q row p e1 e2 => by have := g2.dom q row p e1 e2; rwa [h0] at this, ids := g2.ids, rel := g2.rel, fresh := g2.fresh }
theorem newS_lays {e : TypeId} {sz n m g : Nat} {ls : List (List AV)} (hv : newS e sz n m g ls h = some (v, h')) : Lays h h' ∧ v = .slc h.nx 0 n m g ∧ ∃ t, lay ls 0 .leaf = some t ∧ h'.get h.nx = some (.cells e sz m t true []) := by
  obtain ⟨t, k1, hv⟩ := bnd_some.1 hv
  obtain ⟨h1', k2, k3, k4⟩ := new_some hv
  cases k2
  exact ⟨⟨k3, fun q hq => by rw [k4, if_neg hq], _, by rw [k4, if_pos rfl], rfl⟩, rfl, t, k1, by rw [k4, if_pos rfl]⟩

theorem newS_gen {ρ0 : Rho} {h0 hx hx' : H} {w0 : World} (L : Laid σ N ρ h w ρ0 h0 w0 hx hx' h') {e : TypeId} {sz n m : Nat} {ls : List (List AV)} {cs : Array Value} (hf : FL σ ρ sz ls cs.toList) (hm : ls.length ≤ m) (hv : newS e sz n m 0 ls hx = some (v, hx')) (hcap : n ≤ m) (hml : m ≤ maxLen)
    (run : (execOp a.eval o).run P w = .ok (.value (.slice (some ⟨w.heap.size, 0, none⟩) n m)) (pushed w (.cells cs e))) : Lain P σ N o a ρ w ρ0 h0 w0 hx.nx v h' := by
  obtain ⟨_, rfl, t, k1, k3⟩ := newS_lays hv
  obtain ⟨g1, g2⟩ := new_cells L.hh L.st L.low L.free (hf.els (cs := cs) (base := 0) (fun j u hu => by rw [Nat.zero_add]; simpa using hu) hm (fun i l e => lay0_get k1 i l e)) (e := e) (h' := h') (fun q => by
    rw [L.get]
    by_cases hq : q = hx.nx
    · rw [if_pos hq, if_pos hq, hq, k3]
    · rw [if_neg hq, if_neg hq]) L.nx L.lt (fz := (0, 0)) (.inl rfl)
  exact ⟨_, _, _, run, g1, g2, ⟨_, m, 0, upd_same _ _ _, rfl, .inl rfl, hcap, Nat.le_refl _, hml, fun _ => rfl, fun s hs => nomatch hs⟩, upd_sub L.free _, fun q hq => upd_ne hq⟩
end
end Go.Exe
/- Appends, copies. -/
namespace Go.Exe
open Go

section
variable {P : Program} {σ : Sig} {N : Nat} {ρ : Rho} {h h' : H} {w w' : World} {o : Oper} {a : Act} {v : AV}

theorem LR.split : ∀ {l l' : List AV} {m : List Value}, LR σ ρ (l ++ l') m → ∃ m1 m2, m = m1 ++ m2 ∧ LR σ ρ l m1 ∧ LR σ ρ l' m2
  | [], l', m, h => ⟨[], m, rfl, rfl, h⟩
  | x :: l, l', m, ⟨v, r, h1, h2, h3⟩ => by
    obtain ⟨m1, m2, rfl, k2, k3⟩ := LR.split h3
    exact ⟨v :: m1, m2, h1, ⟨v, m1, rfl, h2, k2⟩, k3⟩

theorem storeCells_shift (b : Nat) : ∀ (vs : List Value) (o i j : Nat), storeCells ⟨b, o, none⟩ vs (i + j) = storeCells ⟨b, o + i, none⟩ vs j
  | [], _, _, _ => rfl
  | v :: vs, o, i, j => by
    simp only [storeCells]
    rw [show i + j + 1 = i + (j + 1) by omega, storeCells_shift b vs o i (j + 1), add_lit, add_lit, Nat.add_assoc]
theorem run_storeCells_append (a : Addr) : ∀ (xs ys : List Value) (i : Nat) (w : World), (storeCells a (xs ++ ys) i).run P w = ((storeCells a xs i).run P w).andThen fun _ w' => (storeCells a ys (i + xs.length)).run P w'
  | [], ys, i, w => by simp [storeCells]
  | x :: xs, ys, i, w => by
    simp only [List.cons_append, storeCells, Sem.run_bind, List.length_cons]
    cases h : (Go.store (a.add i) x).run P w with
    | ok u w1 => simp only [Result.andThen_ok]; rw [run_storeCells_append a xs ys (i + 1) w1, show i + 1 + xs.length = i + (xs.length + 1) by omega]
    | halt _ _ => rfl

theorem storeL_ok (hσ : ∀ i, (σ i).oneCell' = true) {r s : Nat} {p : Pl} (hp : ρ r = some p) : ∀ {ls : List (List AV)} {o : Nat} {h h' : H} {w : World} {vs : List Value}, HR σ N ρ h w → storeL r s ls o h = some h' → FL σ ρ s ls vs →
    ∃ w', (storeCells ⟨p.b, p.base + o, none⟩ vs).run P w = .ok () w' ∧ HR σ N ρ h' w' ∧ St ρ h w ρ h' w'
  | [], o, h, h', w, vs, hh, e, hf => by
    cases e
    have : vs = [] := hf.lr
    subst this
    exact ⟨w, rfl, hh, St.refl _ _ _⟩
  | l :: ls, o, h, h', w, vs, hh, e, hf => by
    obtain ⟨h1, k1, e⟩ := bnd_some.1 (show bnd (storeH h r o l) (fun h => force (Nat.add o s) fun o => storeL r s ls o h) = some h' from e)
    rw [force_eq] at e
    have hlr := hf.lr
    rw [List.flatten_cons] at hlr
    obtain ⟨v1, v2, rfl, g1, g2⟩ := hlr.split
    obtain ⟨p', cs, ty, fz, q1, q2, q3, q4, q5, q6, q7, _⟩ := hh.wr hσ k1 (hf.one l (List.mem_cons_self ..)) P g1
    rw [hp] at q1; cases q1
    obtain ⟨w', r1, r2, r3⟩ := storeL_ok hσ hp q6 e ⟨fun x hx => hf.len x (List.mem_cons_of_mem _ hx), fun x hx => hf.one x (List.mem_cons_of_mem _ hx), g2⟩
    refine ⟨w', ?_, r2, q7.trans r3⟩
    have hl1 : v1.length = s := by rw [g1.length]; exact hf.len l (List.mem_cons_self ..)
    rw [run_storeCells_append, q3 _ rfl, Result.andThen_ok, hl1, show (0 + s) = s + 0 by omega, storeCells_shift, Nat.add_assoc]
    exact r1

theorem okE_some {e : TypeId} (h : okE P e = true) : ∃ i z, P.info? e = some i ∧ i.zero = some z ∧ z.cells.size = i.size ∧ i.bytes ≤ 0x7ffffff := by
  unfold okE at h
  split at h
  · rename_i i hi
    simp only [Bool.and_eq_true] at h
    obtain ⟨h1, h2⟩ := h
    split at h1
    · rename_i z hz
      exact ⟨i, z, hi, hz, by simpa using h1, Nat.le_of_ble_eq_true h2⟩
    · cases h1
  · cases h
theorem szOf_info {e : TypeId} {s : Nat} (h : szOf P e = some s) {i : TypeInfo} (hi : P.info? e = some i) : i.size = s := by
  obtain ⟨j, h1, h2⟩ := bnd_some.1 h
  have h1 : P.info? e = some j := h1
  rw [hi] at h1; cases h1; cases h2; rfl
theorem srcT_some {t : TypeId} (h : srcT P t = true) : (∃ e', P.underlying t = some (.slice e')) ∨ P.underlying t = some .string := by
  unfold srcT at h
  split at h
  · exact .inl ⟨_, ‹_›⟩
  · exact .inr ‹_›
  · cases h
theorem lenS_ok {x : AV} {k : Nat} (h : lenS x = some k) {y : Value} (hy : VR σ ρ x y) (w : World) : (Builtin.lenOf y).run P w = .ok k w := by
  unfold lenS at h
  split at h
  · cases h; obtain ⟨s, rfl, rfl, _⟩ := hy
    have e1 : s.size = s.data.toList.length := (Array.length_toList (xs := s.data)).symm
    show Result.ok s.size w = _
    rw [e1]
  · cases h; cases hy; simp [Builtin.lenOf]
  · cases h; obtain ⟨p, cap, off, _, rfl, _⟩ := hy; simp [Builtin.lenOf]
  · cases h

theorem src_ok (hσ : ∀ i, (σ i).oneCell' = true) (hh : HR σ N ρ h w) {tx : TypeId} (hs : srcT P tx = true) {x : AV} {k s : Nat} (hk : lenS x = some k) {ls : List (List AV)} (he : elemsOf s h x k = some ls) {y : Value} (hy : VR σ ρ x y) :
    ls.length = k ∧ ∃ vs, FL σ ρ s ls vs ∧ Src P s tx y k vs w := by
  obtain ⟨h1, vs, h2, h3⟩ := elemsOf_ok (P := P) hh he hy
  exact ⟨h1, vs, h2, srcT_some hs, lenS_ok hk hy, h3 w rfl, h3 w.drew rfl, by rw [h2.length, h1], h2.oneCell hσ⟩

theorem run_append_room' {t tx ty e : TypeId} {i : TypeInfo} (ht : P.underlying t = some (.slice e)) (hi : P.info? e = some i) {b off sLen sCap n : Nat} {x : Value} {news : List Value} (hs : Src P i.size tx x n news w) (hroom : sLen + n ≤ sCap)
    (hst : (storeCells ⟨b, off + sLen * i.size, none⟩ news).run P w = .ok () w') :
    (Builtin.append_ #[t, tx] ty #[.slice (some ⟨b, off, none⟩) sLen sCap, x]).run P w = .ok (.slice (some ⟨b, off, none⟩) (sLen + n) sCap) w' := by
  rcases hs.kind with ⟨e', hk⟩ | hk <;> simp [Builtin.append_, run_underlying ht, run_underlying hk, sizeOf, typeInfo, hi, hs.len, hroom, hs.cells, add_lit, hst]
theorem run_append_zero {t tx ty e : TypeId} {i : TypeInfo} (ht : P.underlying t = some (.slice e)) (hi : P.info? e = some i) {base : Option Addr} {sLen sCap : Nat} {x : Value} {news : List Value} (hs : Src P i.size tx x 0 news w) (hle : sLen ≤ sCap) :
    (Builtin.append_ #[t, tx] ty #[.slice base sLen sCap, x]).run P w = .ok (.slice base sLen sCap) w := by
  have h0 : news = [] := List.eq_nil_of_length_eq_zero (by simpa using hs.newsLen)
  subst h0
  have hst : ∀ b : Addr, (storeCells b []).run P w = .ok () w := fun b => by simp [storeCells]
  cases base <;> rcases hs.kind with ⟨e', hk⟩ | hk <;> simp [Builtin.append_, run_underlying ht, run_underlying hk, sizeOf, typeInfo, hi, hs.len, hs.cells, hst, hle]

/-- Less is known of memory: some rows are forgotten, some may not be written any more. -/
theorem HR.weak (hh : HR σ N ρ h w) {h1 : H} (hn : h1.nx = h.nx) (hs : ∀ q row, h1.get q = some row → ∃ row0, h.get q = some row0 ∧ (∀ p, RowR σ ρ w p row0 → RowR σ ρ w p row) ∧ (wrOf row = true → wrOf row0 = true) ∧ (∀ x, x ∈ relOf row → x ∈ relOf row0) ∧ ∀ x, x ∈ relOf row0 → x ∉ relOf row → h1.get x = none) : HR σ N ρ h1 w where
  live := fun r row e => by
    obtain ⟨row0, k1, k2, _⟩ := hs r row e
    obtain ⟨p, k3, k4⟩ := hh.live r row0 k1
    exact ⟨p, k3, k2 p k4⟩
  new := fun r hr => hh.new r (by rw [hn] at hr; exact hr)
  sep := fun r q row row' p p' e1 e2 hne h1' h2' => by
    obtain ⟨row0, k1, _, _, _, k2⟩ := hs r row e1
    obtain ⟨row1, k3, _, _, _, k4⟩ := hs q row' e2
    refine hh.sep r q row0 row1 p p' k1 k3 hne (fun hc => ?_) (fun hc => ?_)
    · have := k2 q hc h1'; rw [e2] at this; cases this
    · have := k4 r hc h2'; rw [e1] at this; cases this
  old := fun r q row row' e1 hq e2 => by
    obtain ⟨row0, k1, _, _, k2, _⟩ := hs r row e1
    obtain ⟨row1, k3, _, k4, _⟩ := hs q row' e2
    have := hh.old r q row0 row1 k1 (k2 q hq) k3
    cases hw : wrOf row' with
    | false => rfl
    | true => rw [k4 hw] at this; cases this
  rels := fun r q row e1 hq => by
    obtain ⟨row0, k1, _, _, k2, _⟩ := hs r row e1
    exact hh.rels r q row0 k1 (k2 q hq)
  glob := hh.glob

/-- A slice that grows in its place: the old row and the new one share the block. -/
theorem HR.alias (hh : HR σ N ρ h w) {r : Nat} {row : Row} {p : Pl} (hp : ρ r = some p) (hr : h.get r = some row) (hwr : wrOf row = true)
    {cs cs' : Array Value} {ty : TypeId} {fz : Nat × Nat} (_ : w.heap[p.b]? = some (.cells cs ty fz)) {rowo rown : Row} {p' : Pl} (hpb : p'.b = p.b) {h' : H} (hnx : h'.nx = h.nx + 1)
    (hg : ∀ q, h'.get q = if q = h.nx then some rown else if q = r then some rowo else if q ∈ relOf row then none else h.get q)
    (ho : ∀ ρ', Sub ρ ρ' → RowR σ ρ' (w.setRow p.b cs') p rowo) (hn : ∀ ρ', Sub ρ ρ' → RowR σ ρ' (w.setRow p.b cs') p' rown) (hro : relOf rowo = []) (hwo : wrOf rowo = false) (hrn : relOf rown = [r]) :
    HR σ N (upd ρ h.nx p') h' (w.setRow p.b cs') ∧ St ρ h w (upd ρ h.nx p') h' (w.setRow p.b cs') := by
  have hfree := hh.new h.nx (Nat.le_refl _)
  have sub := upd_sub hfree p'
  have hne : r ≠ h.nx := fun e => by rw [e, hfree] at hp; cases hp
  have upn : ∀ q pq, q ≠ h.nx → upd ρ h.nx p' q = some pq → ρ q = some pq := fun q pq hne e => by unfold upd at e; rw [if_neg hne] at e; exact e
  have other : ∀ q row0, h'.get q = some row0 → q ≠ h.nx → q ≠ r → h.get q = some row0 ∧ q ∉ relOf row := fun q row0 e h1 h2 => by
    rw [hg, if_neg h1, if_neg h2] at e
    split at e
    · cases e
    · exact ⟨e, ‹_›⟩
  have apart : ∀ q row0 pq, h'.get q = some row0 → q ≠ h.nx → q ≠ r → ρ q = some pq → pq.b ≠ p.b := fun q row0 pq e h1 h2 hpq => by
    obtain ⟨k1, k2⟩ := other q row0 e h1 h2
    have h3 : r ∉ relOf row0 := fun hc => by
      have := hh.old q r row0 row k1 hc hr
      rw [hwr] at this; cases this
    exact fun hb => hh.sep r q row row0 p pq hr k1 (Ne.symm h2) k2 h3 hp hpq hb.symm
  have getn : h'.get h.nx = some rown := by rw [hg, if_pos rfl]
  have geto : h'.get r = some rowo := by rw [hg, if_neg hne, if_pos rfl]
  constructor
  · refine ⟨fun q row0 e => ?_, fun q hq => ?_, fun q q' row0 row1 pq pq' e1 e2 hqq hr1 hr2 hp1 hp2 => ?_, fun q q' row0 row1 e1 hq e2 => ?_, fun q q' row0 e1 hq => ?_, fun g hgl => let ⟨z, e⟩ := hh.glob g hgl; ⟨z, sub _ _ e⟩⟩
    · by_cases h1 : q = h.nx
      · subst h1; rw [getn] at e; cases e; exact ⟨p', upd_same _ _ _, hn _ sub⟩
      · by_cases h2 : q = r
        · subst h2; rw [geto] at e; cases e; exact ⟨p, sub _ _ hp, ho _ sub⟩
        · obtain ⟨k1, _⟩ := other q row0 e h1 h2
          obtain ⟨pq, k3, k4⟩ := hh.live q row0 k1
          exact ⟨pq, sub _ _ k3, k4.mono sub (setRow_other w p.b pq.b _ (apart q row0 pq e h1 h2 k3))⟩
    · unfold upd; rw [if_neg (by omega)]; exact hh.new q (by omega)
    · have key : ∀ q q' row0 row1 pq pq', h'.get q = some row0 → h'.get q' = some row1 → q ≠ q' → q' ∉ relOf row0 → q ∉ relOf row1 → upd ρ h.nx p' q = some pq → upd ρ h.nx p' q' = some pq' → (q = h.nx ∨ q = r) → pq.b ≠ pq'.b := fun q q' row0 row1 pq pq' e1 e2 hqq hr1 hr2 hp1 hp2 hor => by
        have hpq : pq.b = p.b := by
          rcases hor with rfl | rfl
          · rw [upd_same] at hp1; cases hp1; exact hpb
          · have := upn _ _ hne hp1; rw [hp] at this; cases this; rfl
        have h3 : q' ≠ h.nx := fun h4 => by
          subst h4
          rcases hor with rfl | rfl
          · exact hqq rfl
          · rw [getn] at e2; cases e2; rw [hrn] at hr2; exact hr2 (List.mem_singleton.2 rfl)
        have h4 : q' ≠ r := fun h4 => by
          subst h4
          rcases hor with rfl | rfl
          · rw [getn] at e1; cases e1; rw [hrn] at hr1; exact hr1 (List.mem_singleton.2 rfl)
          · exact hqq rfl
        rw [hpq]
        exact Ne.symm (apart q' row1 pq' e2 h3 h4 (upn _ _ h3 hp2))
      by_cases h1 : q = h.nx ∨ q = r
      · exact key q q' row0 row1 pq pq' e1 e2 hqq hr1 hr2 hp1 hp2 h1
      · by_cases h2 : q' = h.nx ∨ q' = r
        · exact Ne.symm (key q' q row1 row0 pq' pq e2 e1 (Ne.symm hqq) hr2 hr1 hp2 hp1 h2)
        · have a1 : q ≠ h.nx := fun e => h1 (.inl e)
          have a2 : q ≠ r := fun e => h1 (.inr e)
          have b1 : q' ≠ h.nx := fun e => h2 (.inl e)
          have b2 : q' ≠ r := fun e => h2 (.inr e)
          exact hh.sep q q' row0 row1 pq pq' (other q row0 e1 a1 a2).1 (other q' row1 e2 b1 b2).1 hqq hr1 hr2 (upn _ _ a1 hp1) (upn _ _ b1 hp2)
    · by_cases h1 : q = h.nx
      · subst h1; rw [getn] at e1; cases e1
        rw [hrn] at hq
        obtain rfl := List.mem_singleton.1 hq
        rw [geto] at e2; cases e2; exact hwo
      · by_cases h2 : q = r
        · subst h2; rw [geto] at e1; cases e1; rw [hro] at hq; cases hq
        · have k1 := (other q row0 e1 h1 h2).1
          by_cases h3 : q' = h.nx
          · subst h3; exact absurd hfree (hh.rels q _ row0 k1 hq)
          · by_cases h4 : q' = r
            · subst h4
              have := hh.old q q' row0 row k1 hq hr
              rw [hwr] at this; cases this
            · exact hh.old q q' row0 row1 k1 hq (other q' row1 e2 h3 h4).1
    · by_cases h1 : q = h.nx
      · subst h1; rw [getn] at e1; cases e1
        rw [hrn] at hq
        obtain rfl := List.mem_singleton.1 hq
        rw [sub _ _ hp]; exact fun h => nomatch h
      · by_cases h2 : q = r
        · subst h2; rw [geto] at e1; cases e1; rw [hro] at hq; cases hq
        · have := hh.rels q q' row0 (other q row0 e1 h1 h2).1 hq
          cases hx : ρ q' with
          | none => exact absurd hx this
          | some x => rw [sub _ _ hx]; exact fun h => nomatch h
  · have own : Owns ρ h p.b := ⟨r, row, p, hr, hwr, hp, rfl⟩
    refine ⟨rfl, rfl, rfl, by rw [setRow_size]; exact Nat.le_refl _, fun b _ hnb => setRow_other w p.b b cs' fun hb => hnb (hb ▸ own), sub, fun b _ ⟨q, row0, pq, e1, e2, e3, e4⟩ => ?_, by omega, fun q row0 pq e1 e2 => ?_, fun q row0 e1 => ?_, fun q row0 x e1 hx => ?_, fun q h1 h2 => ?_⟩
    · by_cases h1 : q = h.nx
      · subst h1; rw [upd_same] at e3; cases e3; rw [← e4, hpb]; exact own
      · by_cases h2 : q = r
        · subst h2; rw [geto] at e1; cases e1; rw [hwo] at e2; cases e2
        · exact ⟨q, row0, pq, (other q row0 e1 h1 h2).1, e2, upn _ _ h1 e3, e4⟩
    · by_cases h1 : q = h.nx
      · subst h1; rw [upd_same] at e2; cases e2; exact .inr (.inr (hpb ▸ own))
      · by_cases h2 : q = r
        · subst h2; exact .inl ⟨row, hr, upn _ _ h1 e2⟩
        · exact .inl ⟨row0, (other q row0 e1 h1 h2).1, upn _ _ h1 e2⟩
    · by_cases h1 : q = h.nx
      · exact .inr (by omega)
      · by_cases h2 : q = r
        · subst h2; exact .inl ⟨row, hr⟩
        · exact .inl ⟨row0, (other q row0 e1 h1 h2).1⟩
    · by_cases h1 : q = h.nx
      · subst h1; rw [getn] at e1; cases e1
        rw [hrn] at hx
        obtain rfl := List.mem_singleton.1 hx
        exact .inr (.inl ⟨row, hr⟩)
      · by_cases h2 : q = r
        · subst h2; rw [geto] at e1; cases e1; rw [hro] at hx; cases hx
        · exact .inr (.inr ⟨q, row0, (other q row0 e1 h1 h2).1, hx⟩)
    · unfold upd; rw [if_neg (by omega)]; exact h2
end
end Go.Exe
/- The builtin 'append'. -/
namespace Go.Exe
open Go

section
variable {P : Program} {σ : Sig} {N : Nat} {ρ : Rho} {h h' : H} {w w' : World} {o : Oper} {a : Act} {v : AV}

/-- What a builtin that gives a value comes to. -/
def Gives (P : Program) (σ : Sig) (N : Nat) (ρ : Rho) (h : H) (w : World) (s : Sem Value) (v : AV) (h' : H) : Prop :=
  ∃ ρ' u w', s.run P w = .ok u w' ∧ HR σ N ρ' h' w' ∧ St ρ h w ρ' h' w' ∧ VR σ ρ' v u

theorem HR.heap (hh : HR σ N ρ h w) (e : w'.heap = w.heap) : HR σ N ρ h w' :=
  { live := fun r row x => let ⟨p, k1, k2⟩ := hh.live r row x; ⟨p, k1, k2.mono (Sub.refl _) (by rw [e])⟩, new := hh.new, sep := hh.sep, old := hh.old, rels := hh.rels, glob := hh.glob }
theorem St.drew {ρ' : Rho} (st : St ρ h w.drew ρ' h' w') : St ρ h w ρ' h' w' := ⟨st.os, st.tape, st.output, st.size, st.block, st.rho, st.owns, st.nx, st.dom, st.ids, st.rel, st.fresh⟩

theorem zeroCells_size {z : Array Value} {n : Nat} : (Builtin.zeroCells z n).size = n * z.size := size_zeroCells z n

theorem grow_new (hh : HR σ N ρ h w) {t tx e : TypeId} {s : Nat} (ht : P.underlying t = some (.slice e)) (hs : szOf P e = some s) (hok : okE P e = true) {base : Option Addr} {n cap k : Nat} {olds news : List Value} {ol nl : List (List AV)} {y : Value}
    (ho : FL σ ρ s ol olds) (hol : ol.length = n) (hold : (Builtin.firstCells s n (.slice base n cap)).run P w.drew = .ok olds.toArray w.drew) (hn : FL σ ρ s nl news) (hsrc : Src P s tx y k news w) (hnl : nl.length = k) (hlt : cap < n + k) (hm : n + k ≤ 0xfffff)
    (hv : newS e s (n + k) (n + k) (s + 1) (ol ++ nl) h = some (v, h')) : Gives P σ N ρ h w (Builtin.append_ #[t, tx] o.type #[.slice base n cap, y]) v h' := by
  obtain ⟨i, z, hi, hz, hzz, hb⟩ := okE_some hok
  have hsi := szOf_info hs hi
  subst hsi
  have hml : n + k ≤ maxLen := by simp only [maxLen]; omega
  have hge := grownCap_ge w (n + k) cap e
  have hgm := grownCap_le_maxLen w (n + k) cap e hml
  have hbytes : (n + k) * i.bytes ≤ 140737488355328 := Nat.le_trans (Nat.mul_le_mul hm hb) (by decide)
  have hrun := run_append_grow_src (P := P) w t tx o.type e i z ht hi hz base n cap olds hold y k news hsrc hlt (by omega) (growslice_fits hlt hbytes)
  have hf := ho.append hn
  have hlen : (olds ++ news).length = (n + k) * i.size := by rw [hf.length]; simp [hol, hnl]
  obtain ⟨ρ', g1, g2, g3⟩ := newS_ok (cap := grownCap w (n + k) cap e) (w0 := w.drew) (fz := (0, 0)) hh hf (by simp [hol, hnl]) hv rfl ⟨rfl, rfl, rfl⟩ (cs := (olds ++ news).toArray ++ Builtin.zeroCells z.cells (grownCap w (n + k) cap e - (n + k))) (fun j u hu => by
      have hj := (List.getElem?_eq_some_iff.1 hu).1
      rw [Array.getElem?_append_left (by simp at hj ⊢; omega)]
      simpa using hu) hge hge hgm (fun h => nomatch h) (fun s' hs' => by
      cases hs'
      rw [Array.size_append, zeroCells_size, hzz, List.size_toArray, hlen, ← Nat.add_mul, Nat.add_sub_cancel' hge]; exact Nat.le_refl _) (.inl rfl)
  exact ⟨ρ', _, _, hrun, g1, g2, g3⟩

theorem els_sub {cs cs' : Array Value} {base sz n : Nat} {t : Tr (List AV)} (he : Els σ ρ cs base sz n t) (hc : ∀ j, j < base + n * sz → cs'[j]? = cs[j]?) : Els σ ρ cs' base sz n t := fun i l e => by
  obtain ⟨h1, h2, h3, h4⟩ := he i l e
  refine ⟨h1, h2, h3, fun j x hx => ?_⟩
  obtain ⟨u, k1, k2⟩ := h4 j x hx
  have hj : j < sz := by rw [← h2]; exact (List.getElem?_eq_some_iff.1 hx).1
  have : (i + 1) * sz ≤ n * sz := Nat.mul_le_mul_right sz h1
  rw [Nat.add_mul, Nat.one_mul] at this
  exact ⟨u, by rw [hc _ (by omega)]; exact k1, k2⟩

/-- An append for which there may be room. -/
theorem growO_ok (hσ : ∀ i, (σ i).oneCell' = true) (hh : HR σ N ρ h w) {t tx e : TypeId} {s : Nat} (ht : P.underlying t = some (.slice e)) (hs : szOf P e = some s) (hok : okE P e = true) {r q n c g k : Nat} {ls : List (List AV)} {news : List Value} {x y : Value}
    (hx : VR σ ρ (.slc r q n c g) x) (hn : FL σ ρ s ls news) (hsrc : Src P s tx y k news w) (hnl : ls.length = k) (_ : k ≠ 0) (hm : n + k ≤ 0xfffff) (hc : ¬ n + k ≤ c)
    (hv : growO e s (n + k) r q n g (.slc r q n c g) ls h = some (v, h')) : Gives P σ N ρ h w (Builtin.append_ #[t, tx] o.type #[x, y]) v h' := by
  cases g with
  | zero =>
    obtain ⟨old, k1, hv⟩ := bnd_some.1 (show bnd (elemsOf s h (.slc r q n c 0) n) (fun old => bnd (app old ls) fun al => newS e s (n + k) (n + k) (Nat.succ s) al h) = some (v, h') from hv)
    rw [app_eq] at hv
    obtain ⟨k2, vs, k3, k4⟩ := elemsOf_ok (P := P) hh k1 hx
    obtain ⟨p, cap, off, h1, rfl, h2, h3, h4, h5, h6, h7⟩ := hx
    exact grow_new hh ht hs hok k3 k2 (k4 w.drew rfl) hn hsrc hnl (by rw [h6 rfl]; omega) hm hv
  | succ g =>
    obtain ⟨k0, v0⟩ := ite_some.1 (show ite' (Nat.beq g s) (ite' (Nat.ble 1 s) (onCells (h.get r) fun e' sz nn tr wr rel => ite' (Nat.beq e' e) (ite' (Nat.beq sz s) (ite' wr (ite' (Nat.beq (Nat.add q (Nat.mul n s)) (Nat.mul nn s)) (bnd (Bool.rec (bnd (elemsOf s h (.slc r q n c (g + 1)) n) fun old => bnd (app old ls) fun al => lay al 0 .leaf) (lay ls n tr) (Nat.beq q 0)) fun tr' =>
    bnd (H.kills rel h) fun h => bnd (h.put r (some (.cells e' sz nn tr false []))) fun h => h.new (.cells e s (n + k) tr' true [r]) fun r' h => some (.slc r' 0 (n + k) (n + k) (Nat.succ s), h))))))) = some (v, h') from hv)
    clear hv
    obtain rfl : g = s := Nat.eq_of_beq_eq_true k0
    obtain ⟨k1', v1⟩ := ite_some.1 v0
    have hs1 : 1 ≤ g := Nat.le_of_ble_eq_true k1'
    obtain ⟨e', sz, nn, tr, wr, rel, k1, v2⟩ := onCells_some v1
    obtain ⟨ke', v2'⟩ := ite_some.1 v2
    have ke : e' = e := Nat.eq_of_beq_eq_true ke'
    obtain ⟨k2', v3⟩ := ite_some.1 v2'
    have k2 : sz = g := Nat.eq_of_beq_eq_true k2'
    obtain ⟨k3, v4⟩ := ite_some.1 v3
    obtain ⟨k4', v5⟩ := ite_some.1 v4
    have k4 : q + n * g = nn * g := Nat.eq_of_beq_eq_true k4'
    obtain ⟨tr', k5, v6⟩ := bnd_some.1 v5
    obtain ⟨h1, k6, v7⟩ := bnd_some.1 v6
    obtain ⟨h2, k7, v8⟩ := bnd_some.1 v7
    obtain ⟨h3, v9, k8, k9⟩ := new_some v8
    clear v0 v1 v2 v2' ke' v3 v4 v5 v6 v7 v8 k0 k1' k2' k4'
    cases v9
    subst k2 k3 ke
    obtain ⟨a1, a2⟩ := kills_some k6
    obtain ⟨a3, a4⟩ := put_some k7
    obtain ⟨p, p1, cs, fz, p2, p3, p4, p5⟩ := hh.live r _ k1
    obtain ⟨p', cap, off, q1, rfl, q2, q3, q4, q5, q6, q7⟩ := hx
    rw [p1] at q1; cases q1
    have q7 := q7 sz rfl
    have hns : n * sz ≤ cap * sz := Nat.mul_le_mul_right _ q3
    -- what the new row's elements are
    obtain ⟨i, z, hi, hz, hzz, hb⟩ := okE_some hok
    have hsi := szOf_info hs hi
    -- the old cells
    have hcell : ∀ j, j < n * sz → ∃ u, cs[off + j]? = some u := fun j hj => ⟨cs[off + j]'(by omega), Array.getElem?_eq_getElem _⟩
    let olds : List Value := (List.range (n * sz)).map fun j => (cs[off + j]?).getD undef
    have holds : ∀ (j : Nat) (u : Value), olds[j]? = some u → cs[off + j]? = some u := fun j u hu => by
      have hj : j < n * sz := by have := (List.getElem?_eq_some_iff.1 hu).1; simpa [olds] using this
      obtain ⟨u', hu'⟩ := hcell j hj
      simp [olds, hj, hu'] at hu
      rw [hu', hu]
    have hol : olds.length = n * sz := by simp [olds]
    have hnewl : news.length = k * sz := by rw [hn.length, hnl]
    have hoff : n = 0 ∨ off = p.base + q := by
      rcases q2 with h | h
      · exact .inr h
      · exact .inl (by omega)
    -- the new row's elements, wherever their cells lie
    have hels : ∀ (cs2 : Array Value) (base2 : Nat), (∀ j u, olds[j]? = some u → cs2[base2 + j]? = some u) → (∀ j u, news[j]? = some u → cs2[base2 + n * sz + j]? = some u) → Els σ ρ cs2 base2 sz (n + k) tr' := fun cs2 base2 ho hne => by
      rw [beq_eq] at k5
      by_cases hq : q = 0
      · subst hq
        rw [decide_eq_true rfl] at k5
        have gl := lay_get (show lay ls n tr = some tr' from k5)
        intro i l hil
        rw [gl] at hil
        by_cases hin : n ≤ i ∧ i < n + ls.length
        · rw [if_pos hin] at hil
          have hmem : l ∈ ls := List.mem_of_getElem? hil
          refine ⟨by omega, hn.len l hmem, hn.one l hmem, fun j x hx => ?_⟩
          have hj : j < sz := by rw [← hn.len l hmem]; exact (List.getElem?_eq_some_iff.1 hx).1
          have e1 := flat_get hn.len (i - n) l hil j hj
          rw [hx] at e1
          obtain ⟨u, g1, g2⟩ := hn.lr.get _ _ e1
          refine ⟨u, by rw [← hne _ _ g1]; congr 1; rw [Nat.sub_mul]; have : n * sz ≤ i * sz := Nat.mul_le_mul_right _ hin.1; omega, g2⟩
        · rw [if_neg hin] at hil
          obtain ⟨g1, g2, g3, g4⟩ := p5 i l hil
          have hnn : n = nn := Nat.eq_of_mul_eq_mul_right (show 0 < sz by omega) (by omega)
          have hin2 : i < n := by omega
          refine ⟨by omega, g2, g3, fun j x hx => ?_⟩
          · have hj : j < sz := by rw [← g2]; exact (List.getElem?_eq_some_iff.1 hx).1
            obtain ⟨u, g5, g6⟩ := g4 j x hx
            have hjn : i * sz + j < n * sz := by
              have : (i + 1) * sz ≤ n * sz := Nat.mul_le_mul_right sz hin2
              rw [Nat.add_mul, Nat.one_mul] at this; omega
            have ho1 : off = p.base + 0 := hoff.resolve_left (by omega)
            refine ⟨u, ?_, g6⟩
            rw [Nat.add_assoc]
            refine ho _ _ ?_
            obtain ⟨u', hu'⟩ := hcell _ hjn
            have e2 : cs[off + (i * sz + j)]? = some u := by rw [ho1, Nat.add_zero, ← Nat.add_assoc]; exact g5
            simp [olds, hjn, e2]
      · rw [decide_eq_false hq] at k5
        obtain ⟨old, b1, b2⟩ := bnd_some.1 (show bnd (elemsOf sz h (.slc r q n c (sz + 1)) n) (fun old => bnd (app old ls) fun al => lay al 0 .leaf) = some tr' from k5)
        rw [app_eq] at b2
        obtain ⟨c1, vs, c2, c3⟩ := elemsOf_ok (P := P) hh b1 (y := .slice (some ⟨p.b, off, none⟩) n cap) ⟨p, cap, off, p1, rfl, q2, q3, q4, q5, q6, fun s' hs' => by cases hs'; exact q7⟩
        have c4 := run_firstCells_some (P := P) w sz n ⟨p.b, off, none⟩ n cap olds hol (fun j u hu => by rw [add_lit, cell_at p2]; exact holds j u hu)
        have c5 : vs = olds := by
          have := (c3 w rfl).symm.trans c4
          injection this with e1 _
          simpa using e1
        subst c5
        refine (c2.append hn).els (fun j u hu => ?_) (by simp [c1, hnl]) (fun i l hil => lay0_get (show lay (old ++ ls) 0 .leaf = some tr' from b2) i l hil)
        rcases Nat.lt_or_ge j olds.length with hj | hj
        · rw [List.getElem?_append_left hj] at hu; exact ho j u hu
        · rw [List.getElem?_append_right hj] at hu
          rw [← hne _ _ hu]; congr 1; omega
    have hnx1 : h1.nx = h.nx := a1
    have hnx2 : h2.nx = h.nx := a3.trans a1
    have get3 : ∀ x, h'.get x = if x = h.nx then some (.cells e' sz (n + k) tr' true [r]) else if x = r then some (.cells e' sz nn tr false []) else if x ∈ rel then none else h.get x := fun x => by
      rw [k9, hnx2, a4, a2]
    by_cases hroom : n + k ≤ cap
    · -- in its place
      have ho1 : off = p.base + q := q2.resolve_right (by omega)
      have hcap : (n + k) * sz ≤ cap * sz := Nat.mul_le_mul_right _ hroom
      have halign : off % sz = 0 := by
        rw [ho1]
        have h1 : (q + n * sz) % sz = 0 := by rw [k4]; exact Nat.mul_mod_left _ _
        rw [Nat.add_mul_mod_self_right] at h1
        rw [Nat.add_mod, p4.1, h1]; simp
      rw [Nat.add_mul] at hcap
      have hfit : off + n * sz + news.length ≤ cs.size := by omega
      have hst := run_storeCells_ovr P p.b (off + n * sz) e' fz news 0 cs w p2 (p4.2 rfl) (by omega) (hn.oneCell hσ)
      rw [Nat.add_zero] at hst
      have hrun := run_append_room' (P := P) (t := t) (tx := tx) (ty := o.type) ht hi (b := p.b) (off := off) (sLen := n) (sCap := cap) (n := k) (x := y) (news := news) (w := w) (by rw [hsi]; exact hsrc) hroom (by rw [hsi]; exact hst)
      have og := ovr_get (cs := cs) (o := off + n * sz) (vs := news) hfit
      have osz := ovr_size (cs := cs) (o := off + n * sz) (vs := news) hfit
      have hh' := hh.alias (cs' := ovr cs (off + n * sz) news) (rowo := .cells e' sz nn tr false []) (rown := .cells e' sz (n + k) tr' true [r]) (p' := ⟨p.b, off, p.size⟩) p1 k1 rfl p2 rfl (by rw [k8, hnx2]) get3
        (fun ρ' hs => ⟨_, fz, setRow_heap w p.b cs _ e' fz p2, by rw [osz, p3], ⟨p4.1, fun hc => nomatch hc⟩, els_sub (p5.mono hs) fun j hj => by rw [og, if_neg (by omega)]⟩)
        (fun ρ' hs => ⟨_, fz, setRow_heap w p.b cs _ e' fz p2, by rw [osz, p3], ⟨halign, fun _ => by rw [osz]; exact p4.2 rfl⟩, (hels (ovr cs (off + n * sz) news) off (fun j u hu => by
            have hj : j < olds.length := (List.getElem?_eq_some_iff.1 hu).1
            rw [og, if_neg (by omega)]; exact holds j u hu) (fun j u hu => by
            have hj : j < news.length := (List.getElem?_eq_some_iff.1 hu).1
            rw [og, if_pos (by omega), show off + n * sz + j - (off + n * sz) = j by omega]; exact hu)).mono hs⟩) rfl rfl rfl
      exact ⟨_, _, _, hrun, hh'.1, hh'.2, ⟨p.b, off, p.size⟩, cap, off, by rw [hnx2]; exact upd_same _ _ _, rfl, .inl rfl, hroom, hroom, q5, (fun h => nomatch h), fun s' hs' => by cases hs'; exact q7⟩
    · -- in a new one
      have hml : n + k ≤ maxLen := by simp only [maxLen]; omega
      have hge := grownCap_ge w (n + k) cap e'
      have hgm := grownCap_le_maxLen w (n + k) cap e' hml
      have hbytes : (n + k) * i.bytes ≤ 140737488355328 := Nat.le_trans (Nat.mul_le_mul hm hb) (by decide)
      have hold := run_firstCells_some (P := P) w.drew sz n ⟨p.b, off, none⟩ n cap olds hol (fun j u hu => by rw [add_lit]; show w.cell? _ = _; rw [cell_at p2]; exact holds j u hu)
      have hrun := run_append_grow_src (P := P) w t tx o.type e' i z ht hi hz (some ⟨p.b, off, none⟩) n cap olds (by rw [hsi]; exact hold) y k news (by rw [hsi]; exact hsrc) (by omega) (by omega) (growslice_fits (by omega) hbytes)
      have hrr : r ∉ rel := fun hc => by have := hh.old r r _ _ k1 hc k1; cases this
      have get2 : ∀ x, h2.get x = if x = r then some (.cells e' sz nn tr false []) else if x ∈ rel then none else h.get x := fun x => by rw [a4, a2]
      have was : ∀ x row, h2.get x = some row → x ≠ r → h.get x = some row := fun x row e1 hne => by
        rw [get2, if_neg hne] at e1
        split at e1
        · cases e1
        · exact e1
      have hw2 : HR σ N ρ h2 w := hh.weak hnx2 fun x row e1 => by
        by_cases hx : x = r
        · subst hx
          rw [get2, if_pos rfl] at e1
          cases e1
          refine ⟨_, k1, fun pp ⟨cs, fz, b1, b2, b4, b3⟩ => ⟨cs, fz, b1, b2, ⟨b4.1, fun hc => nomatch hc⟩, b3⟩, (fun hc => nomatch hc), (fun y hy => nomatch hy), fun y hy _ => ?_⟩
          have hyr : y ≠ x := fun e => hrr (e ▸ hy)
          rw [get2, if_neg hyr, if_pos (show y ∈ rel from hy)]
        · exact ⟨row, was x row e1 hx, fun _ k => k, id, fun _ k => k, fun y hy hny => absurd hy hny⟩
      have st2 : St ρ h w ρ h2 w := ⟨rfl, rfl, rfl, Nat.le_refl _, fun _ _ _ => rfl, Sub.refl _, fun b _ ⟨x, row, px, e1, e2, e3, e4⟩ => by
          by_cases hx : x = r
          · subst hx; rw [get2, if_pos rfl] at e1; cases e1; cases e2
          · exact ⟨x, row, px, was x row e1 hx, e2, e3, e4⟩, by rw [hnx2]; exact Nat.le_refl _, fun x row px e1 e2 => by
          by_cases hx : x = r
          · subst hx; exact .inl ⟨_, k1, e2⟩
          · exact .inl ⟨row, was x row e1 hx, e2⟩, fun x row e1 => by
          by_cases hx : x = r
          · subst hx; exact .inl ⟨_, k1⟩
          · exact .inl ⟨row, was x row e1 hx⟩, fun x row y e1 e2 => by
          by_cases hx : x = r
          · subst hx; rw [get2, if_pos rfl] at e1; cases e1; cases e2
          · exact .inr (.inr ⟨x, row, was x row e1 hx, e2⟩), fun _ _ h => h⟩
      have hlen : (olds ++ news).length = (n + k) * sz := by rw [List.length_append, hol, hnewl, Nat.add_mul]
      have hfree := hh.new h.nx (Nat.le_refl _)
      let big : Array Value := (olds ++ news).toArray ++ Builtin.zeroCells z.cells (grownCap w (n + k) cap e' - (n + k))
      have hbig : big.size = grownCap w (n + k) cap e' * sz := by
        show ((olds ++ news).toArray ++ Builtin.zeroCells z.cells (grownCap w (n + k) cap e' - (n + k))).size = _
        rw [Array.size_append, zeroCells_size, hzz, hsi, List.size_toArray, hlen, ← Nat.add_mul, Nat.add_sub_cancel' hge]
      have hgetb : ∀ (j : Nat) (u : Value), (olds ++ news)[j]? = some u → big[j]? = some u := fun j u hu => by
        have hj := (List.getElem?_eq_some_iff.1 hu).1
        show ((olds ++ news).toArray ++ _)[j]? = _
        rw [Array.getElem?_append_left (by simpa using hj)]
        simpa using hu
      have hh3 := (hw2.heap (w' := w.drew) rfl).add (St.refl _ _ _) (by rw [hnx2]; exact Nat.le_refl _) (h' := h') (r := h.nx) (row := .cells e' sz (n + k) tr' true [r]) (o := .cells big e') (p := ⟨w.heap.size, 0, big.size⟩) hfree (fun x => by rw [get3, get2]) (by rw [hnx2, k8, hnx2]; omega) (by rw [k8, hnx2]; omega)
        (fun x hx => by
          obtain rfl := List.mem_singleton.1 hx
          exact ⟨_, by rw [get2, if_pos rfl], rfl⟩) rfl
        ⟨big, (0, 0), pushed_new w.drew _, rfl, ⟨Nat.zero_mod _, fun _ => .inl rfl⟩, (hels big 0 (fun j u hu => by
            rw [Nat.zero_add]
            have hj : j < olds.length := (List.getElem?_eq_some_iff.1 hu).1
            exact hgetb j u (by rw [List.getElem?_append_left hj]; exact hu)) (fun j u hu => by
            rw [Nat.zero_add]
            refine hgetb _ u ?_
            rw [List.getElem?_append_right (by omega), show n * sz + j - olds.length = j by omega]; exact hu)).mono (upd_sub hfree _)⟩
      refine ⟨_, _, _, hrun, hh3.1, st2.trans hh3.2.drew, ⟨w.heap.size, 0, big.size⟩, grownCap w (n + k) cap e', 0, by rw [hnx2]; exact upd_same _ _ _, rfl, .inl rfl, hge, hge, hgm, (fun h => nomatch h), fun s' hs' => ?_⟩
      cases hs'
      rw [Nat.zero_add]
      show _ ≤ big.size
      rw [hbig]; exact Nat.le_refl _

theorem appendO_ok (hσ : ∀ i, (σ i).oneCell' = true) (hh : HR σ N ρ h w) {t tx : TypeId} {x y : AV} (hv : appendO P t tx x y h = some (v, h')) {vx vy : Value} (hx : VR σ ρ x vx) (hy : VR σ ρ y vy) : Gives P σ N ρ h w (Builtin.append_ #[t, tx] o.type #[vx, vy]) v h' := by
  obtain ⟨k1, v1⟩ := ite_some.1 hv
  obtain ⟨e, k2, v2⟩ := bnd_some.1 v1
  obtain ⟨s, k3, v3⟩ := bnd_some.1 v2
  obtain ⟨k4, v4⟩ := ite_some.1 v3
  obtain ⟨k, k5, v5⟩ := bnd_some.1 v4
  obtain ⟨ls, k6, v6⟩ := bnd_some.1 v5
  clear hv v1 v2 v3 v4 v5
  have hu := sliceE_some k2
  obtain ⟨i, z, hi, hz, hzz, hb⟩ := okE_some k4
  have hsi := szOf_info k3 hi
  obtain ⟨g1, news, g2, g3⟩ := src_ok (P := P) hσ hh k1 k5 k6 hy
  split at v6
  · cases hx
    rw [beq_eq] at v6
    by_cases hk : k = 0
    · subst hk
      rw [decide_eq_true rfl] at v6
      cases v6
      exact ⟨ρ, _, w, run_append_zero (P := P) hu hi (by rw [hsi]; exact g3) (Nat.le_refl _), hh, St.refl _ _ _, rfl⟩
    · rw [decide_eq_false hk] at v6
      obtain ⟨k7, v7⟩ := ite_some.1 (show ite' (Nat.ble k 0xfffff) (newS e s k k (Nat.succ s) ls h) = some (v, h') from v6)
      exact grow_new (o := o) (n := 0) (cap := 0) (ol := []) (olds := []) hh hu k3 k4 (FL.nil s) rfl (run_firstCells_none (P := P) w.drew s 0 0 0) g2 g3 g1 (by omega) (by have := Nat.le_of_ble_eq_true k7; omega) (by rw [Nat.zero_add]; exact v7)
  · rename_i r q n c g
    rw [beq_eq] at v6
    by_cases hk : k = 0
    · subst hk
      rw [decide_eq_true rfl] at v6
      cases v6
      obtain ⟨p, cap, off, h1, rfl, h2, h3, h4⟩ := hx
      exact ⟨ρ, _, w, run_append_zero (P := P) hu hi (by rw [hsi]; exact g3) h3, hh, St.refl _ _ _, p, cap, off, h1, rfl, h2, h3, h4⟩
    · rw [decide_eq_false hk] at v6
      replace v6 : (force (Nat.add n k) fun m => ite' (Nat.ble m 0xfffff) (Bool.rec (growO e s m r q n g (.slc r q n c g) ls h) (bnd (storeL r s ls (Nat.add q (Nat.mul n s)) h) fun h => some (.slc r q m c g, h)) (Nat.ble m c))) = some (v, h') := v6
      rw [force_eq] at v6
      obtain ⟨k7, v7⟩ := ite_some.1 v6
      have k7 : n + k ≤ 0xfffff := Nat.le_of_ble_eq_true k7
      rw [ble_eq] at v7
      by_cases hr : n + k ≤ c
      · rw [show decide (Nat.add n k ≤ c) = true from decide_eq_true hr] at v7
        obtain ⟨h1, k8, v8⟩ := bnd_some.1 (show bnd (storeL r s ls (Nat.add q (Nat.mul n s)) h) (fun h => some (AV.slc r q (n + k) c g, h)) = some (v, h') from v7)
        cases v8
        obtain ⟨p, cap, off, q1, rfl, q2, q3, q4, q5, q6, q7⟩ := hx
        have ho : off = p.base + q := q2.resolve_right (by omega)
        obtain ⟨w', r1, r2, r3⟩ := storeL_ok (P := P) hσ q1 hh k8 g2
        refine ⟨ρ, _, w', run_append_room' (P := P) hu hi (by rw [hsi]; exact g3) (by omega) ?_, r2, r3, p, cap, off, q1, rfl, q2, by omega, q4, q5, q6, q7⟩
        rw [hsi, ho]
        have : p.base + q + n * s = p.base + Nat.add q (Nat.mul n s) := Nat.add_assoc _ _ _
        rw [this]; exact r1
      · rw [show decide (Nat.add n k ≤ c) = false from decide_eq_false hr] at v7
        exact growO_ok (o := o) hσ hh hu k3 k4 hx g2 g3 g1 hk k7 hr v7
  · cases v6

theorem copyO_ok (hσ : ∀ i, (σ i).oneCell' = true) (hh : HR σ N ρ h w) {t tx : TypeId} {x y : AV} (hv : copyO P t x y h = some (v, h')) {vx vy : Value} (hx : VR σ ρ x vx) (hy : VR σ ρ y vy) : Gives P σ N ρ h w (Builtin.copy_ #[t, tx] o.type #[vx, vy]) v h' := by
  obtain ⟨e, k2, v2⟩ := bnd_some.1 hv
  obtain ⟨s, k3, v3⟩ := bnd_some.1 v2
  obtain ⟨k, k5, v5⟩ := bnd_some.1 v3
  obtain ⟨n, k6, v6⟩ := bnd_some.1 v5
  rw [force_eq] at v6
  obtain ⟨ls, k7, v7⟩ := bnd_some.1 v6
  have hu := sliceE_some k2
  have hm : (Bool.rec n k (Nat.ble k n) : Nat) = Nat.min k n := by
    rw [ble_eq]
    by_cases hkn : k ≤ n
    · rw [decide_eq_true hkn]; exact (Nat.min_eq_left hkn).symm
    · rw [decide_eq_false hkn]; exact (Nat.min_eq_right (show n ≤ k by omega)).symm
  rw [hm] at k7 v7
  obtain ⟨g1, vs, g2, g3⟩ := elemsOf_ok (P := P) hh k7 hy
  have hl := lenS_ok (P := P) k5 hy
  have hfc := g3 w rfl
  split at v7
  · obtain ⟨h1, k8, v8⟩ := bnd_some.1 v7
    cases v8
    cases k6
    obtain ⟨p, cap, off, q1, rfl, q2, q3, q4, q5, q6, q7⟩ := hx
    obtain ⟨w', r1, r2, r3⟩ := storeL_ok (P := P) hσ q1 hh k8 g2
    refine ⟨ρ, _, w', ?_, r2, r3, rfl⟩
    have hst : (storeCells ⟨p.b, off, none⟩ vs).run P w = .ok () w' := by
      rcases q2 with rfl | h0
      · exact r1
      · have hvs : vs = [] := by
          have : ls.length = 0 := by
            rw [g1]
            exact Nat.le_zero.1 (Nat.le_trans (Nat.min_le_right _ _) (by omega))
          exact List.eq_nil_of_length_eq_zero (by rw [g2.length, this]; simp)
        subst hvs
        exact r1
    simp only [Builtin.copy_, Array.size, List.getElem?_toArray]
    simp [run_underlying hu, hl, run_sz k3, hfc, hst, goInt]
  · cases v7
    cases k6
    cases hx
    have e0 : Nat.min k 0 = 0 := Nat.min_zero k
    rw [e0] at hfc ⊢
    refine ⟨ρ, .int .i64 0, w, ?_, hh, St.refl _ _ _, rfl⟩
    simp only [Builtin.copy_, Array.size, List.getElem?_toArray]
    simp [run_underlying hu, hl, run_sz k3, hfc, goInt]
  · cases v7
end
end Go.Exe
/- Slices laid new, conversions, small builtins. -/
namespace Go.Exe
open Go

theorem overAt_of {α : Type} {m : List α} : ∀ {l : List α} {i : Nat}, i + m.length ≤ l.length → ∃ l', overAt m l i = some l' := by
  have ov : ∀ (m l : List α), m.length ≤ l.length → ∃ l', over m l = some l' := by
    intro m
    induction m with
    | nil => exact fun l _ => ⟨l, rfl⟩
    | cons a m ih =>
      intro l h
      cases l with
      | nil => simp at h
      | cons b l =>
        obtain ⟨l', h1⟩ := ih l (by simpa using h)
        exact ⟨a :: l', show bnd (over m l) (fun l' => some (a :: l')) = _ by rw [h1]; rfl⟩
  intro l
  induction l with
  | nil =>
    intro i h
    have h0 : i = 0 := by simp at h; omega
    subst h0
    exact ov m [] (by simpa using h)
  | cons a l ih =>
    intro i h
    cases i with
    | zero => exact ov m (a :: l) (by simpa using h)
    | succ i =>
      obtain ⟨l', h1⟩ := ih (i := i) (by simp at h; omega)
      exact ⟨a :: l', show bnd (overAt m l i) (fun l' => some (a :: l')) = _ by rw [h1]; rfl⟩

theorem over_flat {α : Type} {s : Nat} {ls : List (List α)} (hl : ∀ l ∈ ls, l.length = s) {i : Nat} (hi : i < ls.length) {m : List α} (hm : m.length = s) : overAt m ls.flatten (i * s) = some (ls.set i m).flatten := by
  have hfl := flat_length hl
  have hlt : (i + 1) * s ≤ ls.length * s := Nat.mul_le_mul_right s hi
  rw [Nat.add_mul, Nat.one_mul] at hlt
  obtain ⟨l', h1⟩ := overAt_of (m := m) (l := ls.flatten) (i := i * s) (by omega)
  rw [h1]
  congr 1
  obtain ⟨g1, g2⟩ := overAt_get h1
  have hl2 : ∀ l ∈ ls.set i m, l.length = s := fun l hm2 => by
    rcases List.mem_or_eq_of_mem_set hm2 with h | rfl
    · exact hl l h
    · exact hm
  have hfl2 := flat_length hl2
  rw [List.length_set] at hfl2
  apply List.ext_getElem?
  intro j
  rw [g2]
  rcases Nat.lt_or_ge j (ls.length * s) with hj | hj
  · have h0 : 0 < s := Nat.pos_of_ne_zero fun h => by subst h; simp at hj
    have hd : j / s < ls.length := (Nat.div_lt_iff_lt_mul h0).2 hj
    have hmod := Nat.mod_lt j h0
    have ej := dm j s
    have hd2 : j / s < (ls.set i m).length := by simpa using hd
    have e2 := flat_get hl2 (j / s) _ (List.getElem?_eq_getElem hd2) (j % s) hmod
    rw [ej] at e2
    rw [e2]
    by_cases hij : i = j / s
    · rw [if_pos (by subst hij; omega)]
      have : (ls.set i m)[j / s] = m := by simp [← hij]
      rw [this]; congr 1; subst hij; omega
    · have hne : (ls.set i m)[j / s] = ls[j / s] := by simp [hij]
      rw [hne, if_neg ?_]
      · have e1 := flat_get hl (j / s) _ (List.getElem?_eq_getElem hd) (j % s) hmod
        rw [ej] at e1; exact e1
      · rcases Nat.lt_or_gt_of_ne hij with h | h
        · have : (i + 1) * s ≤ j / s * s := Nat.mul_le_mul_right s h
          rw [Nat.add_mul, Nat.one_mul] at this
          omega
        · have : (j / s + 1) * s ≤ i * s := Nat.mul_le_mul_right s h
          rw [Nat.add_mul, Nat.one_mul] at this
          omega
  · rw [List.getElem?_eq_none (by omega : (ls.set i m).flatten.length ≤ j), if_neg (by omega), List.getElem?_eq_none (by omega)]

theorem both_true {a b : Bool} (h : both a b = true) : a = true ∧ b = true := by cases a <;> cases b <;> first | exact ⟨rfl, rfl⟩ | exact nomatch h

section
variable {P : Program} {σ : Sig} {N : Nat} {ρ : Rho} {h h' : H} {w w' : World} {o : Oper} {a : Act} {v : AV}

/-- Zero cells, again and again. -/
theorem rep_fl {l : List AV} {zc : Array Value} (hl : LR σ ρ l zc.toList) (hc : l.all cellB = true) {s : Nat} (hs : l.length = s) (n : Nat) {z2 : Array Value} (hz2 : n * s = 0 ∨ z2 = zc) : FL σ ρ s (rep n l) ((Array.range (n * s)).map (z2[· % z2.size]!)).toList where
  len := fun x hx => by rw [rep_eq] at hx; rw [(List.mem_replicate.1 hx).2]; exact hs
  one := fun x hx => by rw [rep_eq] at hx; rw [(List.mem_replicate.1 hx).2]; exact hc
  lr := by
    have hlen : ∀ x ∈ rep n l, x.length = s := fun x hx => by rw [rep_eq] at hx; rw [(List.mem_replicate.1 hx).2]; exact hs
    have hfl := flat_length hlen
    have hrl : (rep n l).length = n := by rw [rep_eq]; simp
    rw [hrl] at hfl
    refine LR.mk (by simp [hfl]) fun i x u e1 e2 => ?_
    have hi : i < n * s := by rw [← hfl]; exact (List.getElem?_eq_some_iff.1 e1).1
    have h0 : 0 < s := Nat.pos_of_ne_zero fun h => by subst h; simp at hi
    have hz : z2 = zc := hz2.resolve_left (by omega)
    subst hz
    have hd : i / s < n := (Nat.div_lt_iff_lt_mul h0).2 hi
    have hmod := Nat.mod_lt i h0
    have hget : (rep n l)[i / s]? = some l := by rw [rep_eq]; simp [hd]
    have e3 := flat_get hlen (i / s) l hget (i % s) hmod
    rw [dm, e1] at e3
    obtain ⟨u', k1, k2⟩ := hl.get _ _ e3.symm
    have hzs : z2.size = s := by have := hl.length; simp only [Array.length_toList] at this; omega
    have k1' : z2[i % s]? = some u' := by simpa using k1
    simp [hi, hzs] at e2
    rw [getElem!_def, k1'] at e2
    simp at e2
    rw [← e2]; exact k2

theorem layParts_ok (hσ : ∀ i, (σ i).oneCell' = true) {s : Nat} : ∀ {ps : List (Nat × AV)} {qs : List (Nat × Value)} {ls ls' : List (List AV)} {cells : Array Value}, layParts s ps ls = some ls' → PR σ ρ ps qs → FL σ ρ s ls cells.toList →
    ∃ cells', Instr.fill (fun i => some (i * s, s)) cells qs = some cells' ∧ FL σ ρ s ls' cells'.toList ∧ ls'.length = ls.length
  | [], qs, ls, ls', cells, e, hq, hf => by cases e; cases hq; exact ⟨cells, rfl, hf, rfl⟩
  | (i, v) :: ps, qs, ls, ls', cells, e, ⟨q, r, e1, e2, e3, e4⟩, hf => by
    subst e1
    obtain ⟨j, u⟩ := q
    obtain rfl : j = i := e2
    obtain ⟨m, e5, h2⟩ := onCellsOf_some (show (onCellsOf v fun m => ite' (Nat.beq (len m) s) (bnd (setN m ls j) (layParts s ps))) = some ls' from e)
    obtain ⟨h3, e6⟩ := ite_some.1 e5
    obtain ⟨l2, h4, e7⟩ := bnd_some.1 e6
    obtain ⟨k1, k2⟩ := h2 σ ρ u hσ e3
    rw [len_eq] at h3
    have h3 : m.length = s := Nat.eq_of_beq_eq_true h3
    obtain ⟨h5, rfl⟩ := setN_some h4
    have ho := over_flat hf.len h5 h3
    obtain ⟨k3, k4⟩ := fill_one ho k2 hf.lr
    have hu : u.cells.size = s := by have := k2.length; simp only [Array.length_toList] at this; omega
    obtain ⟨cells', k5, k6, k7⟩ := layParts_ok hσ e7 e4 ⟨fun x hx => by
        rcases List.mem_or_eq_of_mem_set hx with h | rfl
        · exact hf.len x h
        · exact h3, fun x hx => by
        rcases List.mem_or_eq_of_mem_set hx with h | rfl
        · exact hf.one x h
        · exact k1, k3⟩
    refine ⟨cells', ?_, k6, by rw [k7, List.length_set]⟩
    simp only [Instr.fill]
    have hcond : (decide (u.cells.size ≠ s) || decide (j * s + u.cells.size > cells.size)) = false := by
      rw [decide_eq_false (show ¬ u.cells.size ≠ s by omega), decide_eq_false (show ¬ j * s + u.cells.size > cells.size by omega)]; rfl
    rw [hcond, if_neg (by simp)]
    exact k5

theorem op_buildSlice_gen {ρ0 : Rho} {h0 hx hx' : H} {w0 : World} (L : Laid σ N ρ h w ρ0 h0 w0 hx hx' h') (hσ : ∀ i, (σ i).oneCell' = true) {t : TypeId} {n : Nat} {ps : Array (Nat × Operand)} (ho : o.op = .buildSlice t n ps) {qs : List (Nat × AV)} (hq : PR σ ρ qs (ps.toList.map fun p => (p.1, a.eval p.2))) (e : buildSliceO P t n qs hx = some (v, hx')) : Lain P σ N o a ρ w ρ0 h0 w0 hx.nx v h' := by
  obtain ⟨el, k1, e1⟩ := bnd_some.1 e
  obtain ⟨s, k2, e2⟩ := bnd_some.1 e1
  obtain ⟨z, k3, e3⟩ := bnd_some.1 e2
  obtain ⟨l, e4, k4⟩ := onCellsOf_some e3
  obtain ⟨k5, e5⟩ := ite_some.1 e4
  obtain ⟨k6, e6⟩ := ite_some.1 e5
  obtain ⟨ls, k7, e7⟩ := bnd_some.1 e6
  have hu := sliceE_some k1
  obtain ⟨zv, z1, z2⟩ := zeroOf_ok (P := P) (σ := σ) (ρ := ρ) k3
  obtain ⟨z3, z4⟩ := k4 σ ρ zv hσ z1
  rw [len_eq] at k5
  have k5 : l.length = s := Nat.eq_of_beq_eq_true k5
  obtain ⟨k6, hn⟩ := both_true k6
  have k6 : n * s ≤ 0xffffff := Nat.le_of_ble_eq_true k6
  have hn : n ≤ 0xffffff := Nat.le_of_ble_eq_true hn
  have hlen : ¬ (n * s > 2 ^ 24) := by omega
  have main : ∀ z2a : Array Value, (n * s = 0 ∨ z2a = zv.cells) → (n * s = 0 → z2a = #[]) → (¬ n * s = 0 → z2a = zv.cells) → Lain P σ N o a ρ w ρ0 h0 w0 hx.nx v h' := fun z2a hz2 hza hzb => by
    have hf := rep_fl z4 z3 k5 n hz2
    obtain ⟨cells', f1, f2, f3⟩ := layParts_ok hσ k7 hq hf
    have hll : ls.length = n := by rw [f3, rep_eq]; simp
    have hcs : cells'.size = n * s := by have := f2.length; simp only [Array.length_toList] at this; rw [this, hll]
    refine newS_gen L f2 (by omega) e7 (Nat.le_refl _) (by simp only [maxLen]; omega) ?_
    have hmap : (ps.map fun (p : Nat × Operand) => (p.1, a.eval p.2)).toList = ps.toList.map fun p => (p.1, a.eval p.2) := by simp
    by_cases hz : n * s = 0
    · have hz1 := hza hz
      subst hz1
      simp only [execOp, ho, Instr.buildSlice, Sem.run_bind, run_underlying hu, run_sz k2, Result.andThen_ok, Sem.run_ite, if_neg hlen, if_pos hz, Sem.run_pure]
      rw [hmap, f1]
      simp [newRow, pushed]
    · have hz1 := hzb hz
      subst hz1
      simp only [execOp, ho, Instr.buildSlice, Sem.run_bind, run_underlying hu, run_sz k2, Result.andThen_ok, Sem.run_ite, if_neg hlen, if_neg hz, Sem.run_pure, z2]
      rw [hmap, f1]
      simp [newRow, pushed]
  by_cases hz : n * s = 0
  · exact main #[] (.inl hz) (fun _ => rfl) fun h => absurd hz h
  · exact main zv.cells (.inr rfl) (fun h => absurd h hz) fun _ => rfl

theorem op_makeSlice_gen {ρ0 : Rho} {h0 hx hx' : H} {w0 : World} (L : Laid σ N ρ h w ρ0 h0 w0 hx hx' h') (hσ : ∀ i, (σ i).oneCell' = true) {t : TypeId} {y1 y2 : Operand} (ho : o.op = .makeSlice t y1 y2) {x1 x2 : AV} (hx1 : VR σ ρ x1 (a.eval y1)) (hx2 : VR σ ρ x2 (a.eval y2)) (e : makeSliceO P t x1 x2 hx = some (v, hx')) : Lain P σ N o a ρ w ρ0 h0 w0 hx.nx v h' := by
  obtain ⟨el, k1, e1⟩ := bnd_some.1 e
  obtain ⟨s, k2, e2⟩ := bnd_some.1 e1
  obtain ⟨z, k3, e3⟩ := bnd_some.1 e2
  obtain ⟨l, e4, k4⟩ := onCellsOf_some e3
  obtain ⟨k5, e5⟩ := ite_some.1 e4
  obtain ⟨kok, e5'⟩ := ite_some.1 e5
  obtain ⟨n, k6, e6⟩ := bnd_some.1 e5'
  obtain ⟨c, k7, e7⟩ := bnd_some.1 e6
  obtain ⟨k8, e8⟩ := ite_some.1 e7
  obtain ⟨k9, e9⟩ := ite_some.1 e8
  have hu := sliceE_some k1
  have k8 : n ≤ c := Nat.le_of_ble_eq_true k8
  have k9 : c ≤ 0xfffff := Nat.le_of_ble_eq_true k9
  obtain ⟨i, zc, hi, hz, hzz, hb⟩ := okE_some kok
  have hsi := szOf_info k2 hi
  obtain ⟨zv, z1, z2⟩ := zeroOf_ok (P := P) (σ := σ) (ρ := ρ) k3
  have hzv : zv = zc := by
    have h1 := z2 w
    have h2 : (zeroValue el).run P w = .ok zc w := by simp [zeroValue, typeInfo, hi, hz]
    rw [h1] at h2; injection h2
  subst hzv
  obtain ⟨z3, z4⟩ := k4 σ ρ _ hσ z1
  rw [len_eq] at k5
  have k5 : l.length = s := Nat.eq_of_beq_eq_true k5
  obtain ⟨kk1, rfl⟩ := natOf_some k6
  obtain ⟨kk2, rfl⟩ := natOf_some k7
  have hf := rep_fl z4 z3 k5 c (.inr rfl)
  have hbytes : (i.bytes : Int) * (c : Int) ≤ 281474976710656 := by
    have h1 : i.bytes * c ≤ 0x7ffffff * 0xfffff := Nat.mul_le_mul hb k9
    have h2 : (0x7ffffff * 0xfffff : Nat) ≤ 281474976710656 := by decide
    have h3 : ((i.bytes * c : Nat) : Int) ≤ ((281474976710656 : Nat) : Int) := Int.ofNat_le.2 (Nat.le_trans h1 h2)
    rw [Int.natCast_mul] at h3
    exact h3
  have hrun := run_make (P := P) w t el i _ hu hi hz kk1 kk2 (n : Int) (c : Int) (by omega) (by omega) hbytes (by omega)
  have hll : (rep c l).length = c := by rw [rep_eq]; simp
  refine newS_gen L (cs := madeCells zv.cells (c * s)) hf (by omega) e9 k8 (by simp only [maxLen]; omega) ?_
  have h1 : a.eval y1 = .int kk1 n := hx1
  have h2 : a.eval y2 = .int kk2 c := hx2
  simp only [execOp, ho, Sem.run_bind, h1, h2, hrun, Result.andThen_ok, Sem.run_pure, Int.toNat_natCast, hsi]
  rfl

theorem buildSliceO_lays {t : TypeId} {n : Nat} {qs : List (Nat × AV)} (e : buildSliceO P t n qs h = some (v, h')) : Lays h h' := by
  obtain ⟨el, k1, e1⟩ := bnd_some.1 e
  obtain ⟨s, k2, e2⟩ := bnd_some.1 e1
  obtain ⟨z, k3, e3⟩ := bnd_some.1 e2
  obtain ⟨l, e4, k4⟩ := onCellsOf_some e3
  obtain ⟨k5, e5⟩ := ite_some.1 e4
  obtain ⟨k6, e6⟩ := ite_some.1 e5
  obtain ⟨ls, k7, e7⟩ := bnd_some.1 e6
  exact (newS_lays e7).1
theorem makeSliceO_lays {t : TypeId} {x1 x2 : AV} (e : makeSliceO P t x1 x2 h = some (v, h')) : Lays h h' := by
  obtain ⟨el, k1, e1⟩ := bnd_some.1 e
  obtain ⟨s, k2, e2⟩ := bnd_some.1 e1
  obtain ⟨z, k3, e3⟩ := bnd_some.1 e2
  obtain ⟨l, e4, k4⟩ := onCellsOf_some e3
  obtain ⟨k5, e5⟩ := ite_some.1 e4
  obtain ⟨kok, e5'⟩ := ite_some.1 e5
  obtain ⟨n, k6, e6⟩ := bnd_some.1 e5'
  obtain ⟨c, k7, e7⟩ := bnd_some.1 e6
  obtain ⟨k8, e8⟩ := ite_some.1 e7
  obtain ⟨k9, e9⟩ := ite_some.1 e8
  exact (newS_lays e9).1
theorem op_buildSlice (hh : HR σ N ρ h w) (hσ : ∀ i, (σ i).oneCell' = true) {t : TypeId} {n : Nat} {ps : Array (Nat × Operand)} (ho : o.op = .buildSlice t n ps) {qs : List (Nat × AV)} (hq : PR σ ρ qs (ps.toList.map fun p => (p.1, a.eval p.2))) (e : buildSliceO P t n qs h = some (v, h')) : Okv P σ N o a ρ h w v h' := (op_buildSlice_gen (.self hh (buildSliceO_lays e)) hσ ho hq e).okv
theorem op_makeSlice (hh : HR σ N ρ h w) (hσ : ∀ i, (σ i).oneCell' = true) {t : TypeId} {y1 y2 : Operand} (ho : o.op = .makeSlice t y1 y2) {x1 x2 : AV} (hx1 : VR σ ρ x1 (a.eval y1)) (hx2 : VR σ ρ x2 (a.eval y2)) (e : makeSliceO P t x1 x2 h = some (v, h')) : Okv P σ N o a ρ h w v h' := (op_makeSlice_gen (.self hh (makeSliceO_lays e)) hσ ho hx1 hx2 e).okv
end
end Go.Exe
/- Conversions, small builtins. -/
namespace Go.Exe
open Go

section
variable {P : Program} {σ : Sig} {N : Nat} {ρ : Rho} {h h' : H} {w w' : World} {o : Oper} {a : Act} {v : AV}

theorem byteOf_some {x : AV} {b : Nat} (h : byteOf x = some b) : x = .int .u8 (b : Int) ∧ b < 256 := by
  unfold byteOf at h
  split at h
  · obtain ⟨h1, h⟩ := ite_some.1 h
    cases h
    have := Nat.le_of_ble_eq_true h1
    exact ⟨rfl, by omega⟩
  · cases h

/-- Elements that are bytes. -/
theorem bytesOf_some : ∀ {ls : List (List AV)} {x : Nat}, bytesOf ls = some x → ∃ bs : List UInt8, bs.length = ls.length ∧ bytesN bs = x ∧ ls.flatten = bs.map fun b => AV.int .u8 (b.toNat : Nat)
  | [], x, h => by cases h; exact ⟨[], rfl, rfl, rfl⟩
  | l :: ls, x, h => by
    match l, h with
    | [], h => exact nomatch h
    | _ :: _ :: _, h => exact nomatch h
    | [y], h =>
      obtain ⟨b, h1, h⟩ := bnd_some.1 (show bnd (byteOf y) (fun b => bnd (bytesOf ls) fun n => force (Nat.add b (Nat.shiftLeft n 8)) fun n => some n) = some x from h)
      obtain ⟨n, h2, h⟩ := bnd_some.1 h
      rw [force_eq] at h
      cases h
      obtain ⟨rfl, hb⟩ := byteOf_some h1
      obtain ⟨bs, k1, k2, k3⟩ := bytesOf_some h2
      have hbt : (UInt8.ofNat b).toNat = b := by simp; omega
      refine ⟨UInt8.ofNat b :: bs, by simp [k1], ?_, ?_⟩
      · rw [bytesN_cons, hbt, k2]
        show b + 256 * n = b + n <<< 8
        rw [Nat.shiftLeft_eq]; omega
      · rw [List.flatten_cons, k3, List.map_cons, hbt]; rfl

theorem foldl_push : ∀ (l : List Int) (s : ByteArray), l.foldl (fun r n => r.push (UInt8.ofNat n.toNat)) s = ⟨s.data ++ (l.map fun a => UInt8.ofNat a.toNat).toArray⟩
  | [], s => by simp
  | a :: l, s => by
    rw [List.foldl_cons, foldl_push l]
    simp [ByteArray.push]

theorem bytes_vals {ls : List (List AV)} {bs : List UInt8} (h : ls.flatten = bs.map fun b => AV.int .u8 (b.toNat : Nat)) {vs : List Value} (hl : LR σ ρ ls.flatten vs) : vs = bs.map fun b => Value.int .u8 (b.toNat : Nat) := by
  rw [h] at hl
  have hlen := hl.length
  apply List.ext_getElem?
  intro j
  rcases Nat.lt_or_ge j bs.length with hj | hj
  · obtain ⟨u, h1, h2⟩ := hl.get j (.int .u8 ((bs[j].toNat : Nat) : Int)) (by simp [hj])
    rw [h1]
    have h2 : u = .int .u8 ((bs[j].toNat : Nat) : Int) := h2
    simp [hj, h2]
  · rw [List.getElem?_eq_none (by simp at hlen; omega), List.getElem?_eq_none (by simpa using hj)]

theorem u8T_some {t : TypeId} (h : u8T P t = true) : P.underlying t = some (.int .u8) := by
  unfold u8T at h
  split at h
  · assumption
  · cases h
theorem bytesT_some {d : TypeDesc} (h : bytesT P d = true) : ∃ e, d = .slice e ∧ P.underlying e = some (.int .u8) := by
  unfold bytesT at h
  split at h
  · exact ⟨_, rfl, u8T_some h⟩
  · cases h

theorem run_stringToBytes (w : World) (e : TypeId) (b : ByteArray) : ∃ fz : Nat × Nat, grownCap w b.size 0 e ≤ fz.1 ∧
    (Conv.stringToBytes e b).run P w = .ok (.slice (some ⟨w.heap.size, 0, none⟩) b.size (grownCap w b.size 0 e)) (w.drew.alloc (.cells (b.data.map (fun x => Value.int .u8 x.toNat) ++ Array.replicate (grownCap w b.size 0 e - b.size) (.int .u8 0)) e fz)) := by
  have hsz : b.data.size = b.size := rfl
  have hge := grownCap_ge w b.size 0 e
  unfold Conv.stringToBytes
  simp only [Sem.run_bind, run_choose_drew, Question.forced, Bool.false_eq_true, if_false, Result.andThen_ok]
  rw [show (Question.appendCap b.size 0 e).cut (w.tape w.drawn (.appendCap b.size 0 e)) = grownCap w b.size 0 e from rfl]
  have key : ∀ (w : World) (cs : Array Value), (w.alloc (.cells cs e)).freeze ⟨w.heap.size, cs.size, none⟩ 1 = w.alloc (.cells cs e (cs.size, cs.size + 1)) := fun w cs => by
    simp only [World.freeze, World.alloc, Nat.one_ne_zero, if_false]
    congr 1
    apply Array.ext
    · simp
    · intro i h1 h2
      rw [Array.getElem_modify]
      by_cases hi : i = w.heap.size
      · subst hi; simp
      · have : i < w.heap.size := by simp at h2; omega
        simp [Array.getElem_push_lt this, Ne.symm hi]
  refine ⟨(grownCap w b.size 0 e, grownCap w b.size 0 e + 1), Nat.le_refl _, ?_⟩
  have hcs : (b.data.map (fun x => Value.int .u8 x.toNat) ++ Array.replicate (grownCap w b.size 0 e - b.size) (Value.int .u8 0)).size = grownCap w b.size 0 e := by simp; omega
  have := key w.drew (b.data.map (fun x => Value.int .u8 x.toNat) ++ Array.replicate (grownCap w b.size 0 e - b.size) (Value.int .u8 0))
  rw [hcs] at this
  generalize hcc : (b.data.map (fun x => Value.int .u8 x.toNat) ++ Array.replicate (grownCap w b.size 0 e - b.size) (Value.int .u8 0)) = cs at *
  have hsh : (w.drew.alloc (.cells cs e)).shape? w.heap.size = some (e, grownCap w b.size 0 e) := by
    have := (MapKept.heap_alloc w.drew (.cells cs e)).1
    simp only [World.shape?]
    rw [show w.heap.size = w.drew.heap.size from rfl, this]
    simp [hcs]
  simp [newRow, markStringish, hsh]
  exact this

theorem row_same {fits : TypeId → Bool} {e : TypeId} {sz : Nat} (hc : P.cellsOf e = sz) {r : Nat} (hr : r < sz) : ∀ {d : Nat}, rowAt P fits d e 1 r 1 = true → ∀ {count off : Nat}, off % sz = r → off / sz + 1 ≤ count → rowAt P fits d e count off 1 = true
  | 0, h, _, _, _, _ => nomatch h
  | d + 1, h, count, off, ho, hk => by
    rw [rowAt] at h ⊢
    have h0 : ¬ sz = 0 := by omega
    have h1 : r / sz = 0 := Nat.div_eq_of_lt hr
    have h2 : r % sz = r := Nat.mod_eq_of_lt hr
    have h3 : off / sz < count := by omega
    simp only [hc, h0, if_false, h1, h2, ho] at h ⊢
    simp only [h3, hk, decide_true, Nat.zero_add, Nat.le_refl, Nat.zero_lt_one, Bool.true_and, Bool.and_true] at h ⊢
    exact h
theorem lies_same {e u : TypeId} {sz : Nat} (hc : P.cellsOf e = sz) {r : Nat} (hr : r < sz) (hl : rowAt P (sameLayout P P.depth · u) P.depth e 1 r 1 = true) {count off : Nat} (ho : off % sz = r) (h : off / sz + 1 ≤ count) : liesAt P P.depth e count off u 1 = true := by
  have hrow := row_same hc hr hl ho h
  have hd : P.depth = (P.depth - 1) + 1 := by simp only [Program.depth]; omega
  rw [hd] at hrow ⊢
  rw [liesAt]
  simp only [← hd] at hrow ⊢
  simp [hrow]

theorem toUnsafeO_ok (hh : HR σ N ρ h w) {s t : TypeId} {ds : TypeDesc} (us : P.underlying s = some ds) (ut : P.underlying t = some .unsafePointer) {x : AV} (e : toUnsafeO P ds x h = some (v, h')) {y : Value} (hy : VR σ ρ x y) : Gives P σ N ρ h w (convert s t y) v h' := by
  obtain ⟨u, h1, e⟩ := bnd_some.1 e
  obtain ⟨n, h2, e⟩ := bnd_some.1 e
  obtain ⟨h3, e9⟩ := ite_some.1 e
  have h3 := Nat.le_of_ble_eq_true h3
  have hds : ds = .pointer u := by
    unfold ptrT at h1
    split at h1
    · cases h1; rfl
    · cases h1
  subst hds
  split at e9
  · cases e9; cases hy
    exact ⟨ρ, _, w, by simp [convert, run_underlying us, run_underlying ut, Conv.unsafePointer], hh, St.refl _ _ _, rfl⟩
  · rename_i r o
    obtain ⟨l, h4, e8⟩ := bnd_some.1 e9
    cases e8
    obtain ⟨_, h5, p, h6, vs, h7, h8⟩ := loadH_ok hh h4
    obtain ⟨p', h9, rfl⟩ := hy
    rw [h6] at h9; cases h9
    have hl := h7.length
    obtain ⟨c, hc⟩ : ∃ c, vs[0]? = some c := ⟨vs[0]'(by omega), List.getElem?_eq_getElem _⟩
    obtain ⟨i, g1, g2⟩ := bnd_some.1 h2
    have g1 : P.info? u = some i := g1
    have g2 : i.size = n := by injection g2
    have hz : ¬ i.size = 0 := by omega
    refine ⟨ρ, _, w, run_convert_to_unsafe us ut (by rw [g1]; simp [hz]) (h8 0 c hc), hh, St.refl _ _ _, p, h6, rfl⟩
  · cases e9

theorem fromUnsafeO_ok (hh : HR σ N ρ h w) {s t u : TypeId} {ds : TypeDesc} (us : P.underlying s = some ds) (ut : P.underlying t = some (.pointer u)) {x : AV} (e : fromUnsafeO P ds u x h = some (v, h')) {y : Value} (hy : VR σ ρ x y) : Gives P σ N ρ h w (convert s t y) v h' := by
  obtain ⟨h1, e9⟩ := ite_some.1 e
  have hds : ds = .unsafePointer := by
    unfold isUns at h1
    split at h1
    · rfl
    · cases h1
  subst hds
  split at e9
  · cases e9; cases hy
    exact ⟨ρ, _, w, by simp [convert, run_underlying us, run_underlying ut, Conv.unsafePointer], hh, St.refl _ _ _, rfl⟩
  · rename_i r o
    obtain ⟨el, sz, n, tr, wr, rel, h2, e⟩ := onCells_some e9
    obtain ⟨s1, h3, e⟩ := bnd_some.1 e
    obtain ⟨h4, e⟩ := ite_some.1 e
    obtain ⟨h5, e⟩ := ite_some.1 e
    obtain ⟨l, h7, e⟩ := bnd_some.1 e
    obtain ⟨s2, h8, e⟩ := bnd_some.1 e
    obtain ⟨h9, e⟩ := ite_some.1 e
    cases e
    have h4 : s1 = sz := Nat.eq_of_beq_eq_true h4
    have h5 := Nat.le_of_ble_eq_true h5
    subst h4
    obtain ⟨p, g1, cs, fz, g2, _, g4, g5⟩ := hh.live r _ h2
    obtain ⟨p', g6, rfl⟩ := hy
    rw [g1] at g6; cases g6
    obtain ⟨_, k1, k2⟩ := g5 _ _ (show tr.get (o / s1) = some l from h7)
    obtain ⟨j, i1, _⟩ := bnd_some.1 h8
    have i1 : P.info? u = some j := i1
    obtain ⟨j2, i2, i3⟩ := bnd_some.1 h3
    have i2 : P.info? el = some j2 := i2
    have i3 : j2.size = s1 := by injection i3
    have hc : P.cellsOf el = s1 := by simp [Program.cellsOf, i2, i3]
    have hdm := dm o s1
    obtain ⟨c, hc1, _⟩ := k2.2 (s1 - 1) (l[s1 - 1]'(by omega)) (List.getElem?_eq_getElem _)
    have hlt := (Array.getElem?_eq_some_iff.1 hc1).1
    have hoff : (p.base + o) % s1 = o % s1 := by rw [Nat.add_mod, g4.1, Nat.zero_add, Nat.mod_mod]
    have hfit : (p.base + o) / s1 + 1 ≤ cs.size / s1 := by
      rw [Nat.le_div_iff_mul_le (by omega), Nat.add_mul, Nat.one_mul]
      have h1 := dm (p.base + o) s1
      rw [hoff] at h1
      omega
    have hsh : w.shape? p.b = some (el, cs.size) := by simp [World.shape?, g2]
    refine ⟨ρ, _, w, Lib.run_from_unsafe w ⟨p.b, p.base + o, none⟩ us ut i1 hsh (by rw [hc]; exact lies_same hc (Nat.mod_lt _ h5) h9 hoff hfit), hh, St.refl _ _ _, p, g1, rfl⟩
  · cases e9

theorem convertO_ok (hh : HR σ N ρ h w) {s t : TypeId} {x : AV} (e : convertO P s t x h = some (v, h')) {y : Value} (hy : VR σ ρ x y) : Gives P σ N ρ h w (convert s t y) v h' := by
  unfold convertO at e
  cases hs : undOf P s with
  | none => rw [hs] at e; exact nomatch e
  | some ds =>
    rw [hs] at e
    cases ht : undOf P t with
    | none => rw [ht] at e; exact nomatch e
    | some d =>
      rw [ht] at e
      have us := und_some hs
      have ut := und_some ht
      dsimp only at e
      split at e
      · split at e
        · obtain ⟨v', h1, h2⟩ := bnd_some.1 e
          rw [mkI_eq] at h1
          cases h1; cases h2; cases hy
          exact ⟨ρ, _, w, by simp [convert, run_underlying us, run_underlying ut, Conv.intToInt], hh, St.refl _ _ _, rfl⟩
        · cases e
      · split at e
        · cases e
          obtain ⟨b, rfl, h1, h2⟩ := hy
          exact ⟨ρ, _, w, by simp [convert, run_underlying us, run_underlying ut], hh, St.refl _ _ _, b, rfl, h1, h2⟩
        · obtain ⟨h1, e⟩ := ite_some.1 e
          cases e; cases hy
          obtain ⟨el, rfl, h2⟩ := bytesT_some h1
          exact ⟨ρ, .string .empty, w, by simp [convert, run_underlying us, run_underlying ut, run_underlying h2, Conv.bytesToString], hh, St.refl _ _ _, _, rfl, rfl, rfl⟩
        · rename_i r q n c g
          obtain ⟨h1, e1⟩ := ite_some.1 e
          obtain ⟨ls, h2, e2⟩ := bnd_some.1 e1
          obtain ⟨x, h3, e3⟩ := bnd_some.1 e2
          cases e3
          obtain ⟨el, rfl, h4⟩ := bytesT_some h1
          obtain ⟨k1, vs, k2, k3⟩ := elemsOf_ok (P := P) hh h2 hy
          obtain ⟨bs, b1, b2, b3⟩ := bytesOf_some h3
          have hv := bytes_vals b3 k2.lr
          have hfc := k3 w rfl
          obtain ⟨p, cap, off, q1, rfl, q2⟩ := hy
          have hload : (loadCells ⟨p.b, off, none⟩ n).run P w = .ok ((bs.map fun b => ((b.toNat : Nat) : Int)).map (Value.int .u8)).toArray w := by
            have : (Builtin.firstCells 1 n (.slice (some ⟨p.b, off, none⟩) n cap)).run P w = (loadCells ⟨p.b, off, none⟩ n).run P w := by simp [Builtin.firstCells]
            rw [← this, hfc, hv, List.map_map]; rfl
          have hrun := run_bytesToString (P := P) w ⟨p.b, off, none⟩ n cap (bs.map fun b => ((b.toNat : Nat) : Int)) hload
          rw [foldl_push] at hrun
          have hdata : ((bs.map fun b => ((b.toNat : Nat) : Int)).map fun a => UInt8.ofNat a.toNat) = bs := by
            rw [List.map_map]
            have : ((fun a : Int => UInt8.ofNat a.toNat) ∘ fun b : UInt8 => ((b.toNat : Nat) : Int)) = id := by funext b; simp
            rw [this, List.map_id]
          rw [hdata] at hrun
          refine ⟨ρ, _, w, by simp [convert, run_underlying us, run_underlying ut, run_underlying h4, hrun]; rfl, hh, St.refl _ _ _, _, rfl, ?_, ?_⟩
          · simp [b1, k1]
          · simpa using b2
        · cases e
      · rename_i el
        split at e
        · rename_i n x
          obtain ⟨h1, e1⟩ := ite_some.1 e
          obtain ⟨h2, e2⟩ := ite_some.1 e1
          have h4 := u8T_some h1
          have h2 := Nat.le_of_ble_eq_true h2
          obtain ⟨b, rfl, rfl, rfl⟩ := hy
          obtain ⟨fz, f1, hrun⟩ := run_stringToBytes (P := P) w el b
          have hbs : b.size = b.data.toList.length := (Array.length_toList (xs := b.data)).symm
          have hge := grownCap_ge w b.size 0 el
          have hml := grownCap_le_maxLen w b.size 0 el (by simp only [maxLen]; omega)
          have hcs : (b.data.map (fun x => Value.int .u8 x.toNat) ++ Array.replicate (grownCap w b.size 0 el - b.size) (Value.int .u8 0)).size = grownCap w b.size 0 el := by
            simp; have : b.data.size = b.size := rfl; omega
          have hfl := bytesL_fl (σ := σ) (ρ := ρ) b.data.toList (Nat.le_refl _)
          obtain ⟨ρ', g1, g2, g3⟩ := newS_ok (cap := grownCap w b.size 0 el) (w0 := w.drew) (fz := fz) hh hfl (by rw [bytesL_length]; exact Nat.le_refl _) e2 rfl ⟨rfl, rfl, rfl⟩ (cs := b.data.map (fun x => Value.int .u8 x.toNat) ++ Array.replicate (grownCap w b.size 0 el - b.size) (.int .u8 0)) (fun j u hu => by
            have hj : j < b.data.toList.length := by have := (List.getElem?_eq_some_iff.1 hu).1; simpa using this
            rw [Array.getElem?_append_left (by simpa using hj)]
            rw [List.take_length] at hu
            simpa using hu) (by omega) (by omega) hml (fun hg => nomatch hg) (fun s hs => by cases hs; rw [hcs]; omega) (.inr (by rw [hcs]; exact f1))
          refine ⟨ρ', _, _, ?_, g1, g2, g3⟩
          rw [show b.data.toList.length = b.size from hbs.symm]
          simp only [convert, Sem.run_bind, run_underlying us, run_underlying ut, Result.andThen_ok, run_underlying h4, hrun]
          rfl
        · cases e
      · exact toUnsafeO_ok hh us ut e hy
      · exact fromUnsafeO_ok hh us ut e hy
      · cases e

theorem lenO_ok (hh : HR σ N ρ h w) {t : TypeId} {x : AV} (e : lenO P t x h = some (v, h')) {y : Value} (hy : VR σ ρ x y) : Gives P σ N ρ h w (Builtin.len_ #[t] o.type #[y]) v h' := by
  unfold lenO at e
  cases ht : undOf P t with
  | none => rw [ht] at e; exact nomatch e
  | some d =>
    rw [ht] at e
    have ut := und_some ht
    dsimp only at e
    split at e
    · cases e
      exact ⟨ρ, _, w, by simp [Builtin.len_, run_underlying ut, goInt], hh, St.refl _ _ _, rfl⟩
    · split at e
      · cases e
        obtain ⟨b, rfl, rfl, h2⟩ := hy
        have hbs : b.size = b.data.toList.length := (Array.length_toList (xs := b.data)).symm
        refine ⟨ρ, .int .i64 (b.size : Int), w, by simp [Builtin.len_, run_underlying ut, goInt], hh, St.refl _ _ _, ?_⟩
        rw [hbs]; rfl
      · cases e
    · split at e
      · cases e; cases hy
        exact ⟨ρ, _, w, by simp [Builtin.len_, run_underlying ut, goInt], hh, St.refl _ _ _, rfl⟩
      · cases e
        obtain ⟨p, cap, off, h1, rfl, h2⟩ := hy
        exact ⟨ρ, _, w, by simp [Builtin.len_, run_underlying ut, goInt], hh, St.refl _ _ _, rfl⟩
      · cases e
    · split at e
      · cases e; cases hy
        exact ⟨ρ, _, w, by simp [Builtin.len_, run_underlying ut, goInt], hh, St.refl _ _ _, rfl⟩
      · obtain ⟨l, c, h1, e1⟩ := onMap_some e
        rw [force_eq] at e1
        cases e1
        obtain ⟨p, h2, es, h3, h4⟩ := hh.live _ _ h1
        obtain ⟨p', h5, rfl⟩ := hy
        rw [h2] at h5; cases h5
        have hlen : es.size = l.length := by
          have : ∀ (l : List (AV × AV × Nat)) (m : List MapEntry), MR σ ρ l m → m.length = l.length := by
            intro l
            induction l with
            | nil => intro m h; cases h; rfl
            | cons x l ih => intro m ⟨y, r, k1, _, _, _, k2⟩; rw [k1]; simp [ih r k2]
          simpa using this l es.toList h4
        refine ⟨ρ, .int .i64 (es.size : Int), w, by simp [Builtin.len_, run_underlying ut, goInt, MapKept.run_getObj_map h3], hh, St.refl _ _ _, ?_⟩
        rw [len_eq, hlen]; rfl
      · cases e
    · split at e
      · cases e; cases hy
        exact ⟨ρ, _, w, by simp [Builtin.len_, run_underlying ut, goInt], hh, St.refl _ _ _, rfl⟩
      · obtain ⟨n, l, h1, e1⟩ := onChan_some e
        rw [force_eq] at e1
        cases e1
        obtain ⟨p, h2, bs, s, r, h3, h4⟩ := hh.live _ _ h1
        obtain ⟨p', h5, rfl⟩ := hy
        rw [h2] at h5; cases h5
        have hlen : bs.size = l.length := by simpa using h4.length
        have hg : (getObj p.b).run P w = .ok (.chan n bs false s r false) w := by simp [getObj, Sem.run, h3]
        refine ⟨ρ, .int .i64 (bs.size : Int), w, by simp [Builtin.len_, run_underlying ut, goInt, hg], hh, St.refl _ _ _, ?_⟩
        rw [len_eq, hlen]; rfl
      · cases e
    · cases e

theorem capO_ok (hh : HR σ N ρ h w) {t : TypeId} {x : AV} (e : capO P t x h = some (v, h')) {y : Value} (hy : VR σ ρ x y) : Gives P σ N ρ h w (Builtin.cap_ #[t] o.type #[y]) v h' := by
  obtain ⟨el, h1, e⟩ := bnd_some.1 e
  have ut := sliceE_some h1
  split at e
  · cases e; cases hy
    exact ⟨ρ, _, w, by simp [Builtin.cap_, run_underlying ut, goInt], hh, St.refl _ _ _, rfl⟩
  · cases e
    obtain ⟨p, cap, off, h1, rfl, h2, h3, h4, h5, h6, h7⟩ := hy
    refine ⟨ρ, .int .i64 (cap : Int), w, by simp [Builtin.cap_, run_underlying ut, goInt], hh, St.refl _ _ _, ?_⟩
    rw [h6 rfl]; rfl
  · cases e

theorem minmax_max (w : World) : ∀ {l : List AV} {x v : AV}, minmax false l x = some v → ∀ {m : List Value} {y : Value}, LR σ ρ l m → VR σ ρ x y → ∃ u, VR σ ρ v u ∧ (m.foldlM Builtin.max2 y).run P w = .ok u w
  | [], x, v, e, m, y, hm, hy => by cases e; cases hm; exact ⟨y, hy, by simp⟩
  | b :: l, x, v, e, m, y, ⟨u, r, h1, h2, h3⟩, hy => by
    subst h1
    match x, b, e, hy, h2 with
    | .int k i, .int j n, e, hy, h2 =>
      cases hy; cases h2
      obtain ⟨hk, e⟩ := ite_some.1 (show ite' (kEq k j) (Bool.rec (minmax false l (.int k i)) (minmax false l (.int k n)) (ile i n)) = some v from e)
      rw [ile_eq] at e
      rw [List.foldlM_cons]
      by_cases hin : i ≤ n
      · rw [decide_eq_true hin] at e
        obtain ⟨u, k1, k2⟩ := minmax_max w (show minmax false l (.int k n) = some v from e) h3 (show VR σ ρ (.int k n) (.int k n) from rfl)
        refine ⟨u, k1, ?_⟩
        have : (if n > i then n else i) = n := by split <;> omega
        simp only [Builtin.max2, this, Sem.run_bind, Sem.run_pure, Result.andThen_ok, k2]
      · rw [decide_eq_false hin] at e
        obtain ⟨u, k1, k2⟩ := minmax_max w (show minmax false l (.int k i) = some v from e) h3 (show VR σ ρ (.int k i) (.int k i) from rfl)
        refine ⟨u, k1, ?_⟩
        have : (if n > i then n else i) = i := by split <;> omega
        simp only [Builtin.max2, this, Sem.run_bind, Sem.run_pure, Result.andThen_ok, k2]
theorem minmax_min (w : World) : ∀ {l : List AV} {x v : AV}, minmax true l x = some v → ∀ {m : List Value} {y : Value}, LR σ ρ l m → VR σ ρ x y → ∃ u, VR σ ρ v u ∧ (m.foldlM Builtin.min2 y).run P w = .ok u w
  | [], x, v, e, m, y, hm, hy => by cases e; cases hm; exact ⟨y, hy, by simp⟩
  | b :: l, x, v, e, m, y, ⟨u, r, h1, h2, h3⟩, hy => by
    subst h1
    match x, b, e, hy, h2 with
    | .int k i, .int j n, e, hy, h2 =>
      cases hy; cases h2
      obtain ⟨hk, e⟩ := ite_some.1 (show ite' (kEq k j) (Bool.rec (minmax true l (.int k n)) (minmax true l (.int k i)) (ile i n)) = some v from e)
      rw [ile_eq] at e
      rw [List.foldlM_cons]
      by_cases hin : i ≤ n
      · rw [decide_eq_true hin] at e
        obtain ⟨u, k1, k2⟩ := minmax_min w (show minmax true l (.int k i) = some v from e) h3 (show VR σ ρ (.int k i) (.int k i) from rfl)
        refine ⟨u, k1, ?_⟩
        have : (if n < i then n else i) = i := by split <;> omega
        simp only [Builtin.min2, this, Sem.run_bind, Sem.run_pure, Result.andThen_ok, k2]
      · rw [decide_eq_false hin] at e
        obtain ⟨u, k1, k2⟩ := minmax_min w (show minmax true l (.int k n) = some v from e) h3 (show VR σ ρ (.int k n) (.int k n) from rfl)
        refine ⟨u, k1, ?_⟩
        have : (if n < i then n else i) = n := by split <;> omega
        simp only [Builtin.min2, this, Sem.run_bind, Sem.run_pure, Result.andThen_ok, k2]
end
end Go.Exe
/- A row that turns; bytes seen as a string. -/
namespace Go.Exe
open Go

section
variable {P : Program} {σ : Sig} {N : Nat} {ρ : Rho} {h h' : H} {w w' : World} {o : Oper} {a : Act} {v : AV}

/-- A row that may be written turns in its block. -/
theorem HR.turn (hh : HR σ N ρ h w) {r : Nat} {row row' : Row} {p : Pl} (hp : ρ r = some p) (hr : h.get r = some row) (hw : wrOf row = true) (hg : ∀ q, h'.get q = if q = r then some row' else if q ∈ relOf row then none else h.get q) (hnx : h'.nx = h.nx) (hrel : relOf row' = [])
    (e1 : w'.os = w.os ∧ w'.tape = w.tape ∧ w'.output = w.output) (hsz : w'.heap.size = w.heap.size) (hb : ∀ b, b ≠ p.b → w'.heap[b]? = w.heap[b]?) (hrow : RowR σ ρ w' p row') : HR σ N ρ h' w' ∧ St ρ h w ρ h' w' := by
  have other : ∀ q row0, h'.get q = some row0 → q ≠ r → h.get q = some row0 ∧ q ∉ relOf row := fun q row0 e h2 => by
    rw [hg, if_neg h2] at e
    split at e
    · cases e
    · exact ⟨e, ‹_›⟩
  have apart : ∀ q row0 pq, h'.get q = some row0 → q ≠ r → ρ q = some pq → pq.b ≠ p.b := fun q row0 pq e h2 hpq => by
    obtain ⟨k1, k2⟩ := other q row0 e h2
    have h3 : r ∉ relOf row0 := fun hc => by
      have := hh.old q r row0 row k1 hc hr
      rw [hw] at this; cases this
    exact fun hb => hh.sep r q row row0 p pq hr k1 (Ne.symm h2) k2 h3 hp hpq hb.symm
  have getr : h'.get r = some row' := by rw [hg, if_pos rfl]
  have own : Owns ρ h p.b := ⟨r, row, p, hr, hw, hp, rfl⟩
  constructor
  · refine ⟨fun q row0 e => ?_, fun q hq => hh.new q (by omega), fun q q' row0 row1 pq pq' e1 e2 hqq hr1 hr2 hp1 hp2 => ?_, fun q q' row0 row1 e1 hq e2 => ?_, fun q q' row0 e1 hq => ?_, hh.glob⟩
    · by_cases h2 : q = r
      · subst h2; rw [getr] at e; cases e; exact ⟨p, hp, hrow⟩
      · obtain ⟨k1, _⟩ := other q row0 e h2
        obtain ⟨pq, k3, k4⟩ := hh.live q row0 k1
        exact ⟨pq, k3, k4.mono (Sub.refl _) (hb _ (apart q row0 pq e h2 k3))⟩
    · by_cases h1 : q = r
      · subst h1
        rw [hp] at hp1; cases hp1
        exact Ne.symm (apart q' row1 pq' e2 (Ne.symm hqq) hp2)
      · by_cases h2 : q' = r
        · subst h2
          rw [hp] at hp2; cases hp2
          exact apart q row0 pq e1 h1 hp1
        · exact hh.sep q q' row0 row1 pq pq' (other q row0 e1 h1).1 (other q' row1 e2 h2).1 hqq hr1 hr2 hp1 hp2
    · by_cases h1 : q = r
      · subst h1; rw [getr] at e1; cases e1; rw [hrel] at hq; cases hq
      · have k1 := (other q row0 e1 h1).1
        by_cases h4 : q' = r
        · subst h4
          have := hh.old q q' row0 row k1 hq hr
          rw [hw] at this; cases this
        · exact hh.old q q' row0 row1 k1 hq (other q' row1 e2 h4).1
    · by_cases h1 : q = r
      · subst h1; rw [getr] at e1; cases e1; rw [hrel] at hq; cases hq
      · exact hh.rels q q' row0 (other q row0 e1 h1).1 hq
  · refine ⟨e1.1, e1.2.1, e1.2.2, by rw [hsz]; exact Nat.le_refl _, fun b _ hnb => hb b fun hb' => hnb (hb' ▸ own), Sub.refl _, fun b _ ⟨q, row0, pq, e1, e2, e3, e4⟩ => ?_, by omega, fun q row0 pq e1 e2 => ?_, fun q row0 e1 => ?_, fun q row0 x e1 hx => ?_, fun _ _ h => h⟩
    · by_cases h2 : q = r
      · subst h2; rw [hp] at e3; cases e3; rw [← e4]; exact own
      · exact ⟨q, row0, pq, (other q row0 e1 h2).1, e2, e3, e4⟩
    · by_cases h2 : q = r
      · subst h2; exact .inl ⟨row, hr, e2⟩
      · exact .inl ⟨row0, (other q row0 e1 h2).1, e2⟩
    · by_cases h2 : q = r
      · subst h2; exact .inl ⟨row, hr⟩
      · exact .inl ⟨row0, (other q row0 e1 h2).1⟩
    · by_cases h2 : q = r
      · subst h2; rw [getr] at e1; cases e1; rw [hrel] at hx; cases hx
      · exact .inr (.inr ⟨q, row0, (other q row0 e1 h2).1, hx⟩)

theorem run_loadBytes (b : Nat) : ∀ (bs : List UInt8) (i : Nat) (acc : ByteArray) (w : World), (∀ j x, bs[j]? = some x → w.cell? ⟨b, i + j, none⟩ = some (.int .u8 (x.toNat : Nat))) → (loadBytes ⟨b, i, none⟩ acc bs.length).run P w = .ok ⟨acc.data ++ bs.toArray⟩ w
  | [], i, acc, w, _ => by simp [loadBytes]
  | x :: bs, i, acc, w, h => by
    have h0 := h 0 x rfl
    rw [Nat.add_zero] at h0
    have ih := run_loadBytes b bs (i + 1) (acc.push x) w fun j y e => by
      have := h (j + 1) y (by simpa using e)
      rwa [show i + (j + 1) = i + 1 + j by omega] at this
    have hx : (UInt8.ofNat x.toNat) = x := by simp
    simp only [List.length_cons, loadBytes, Sem.run_bind, run_load, h0, Result.andThen_ok, add_lit, Nat.toUInt8, Int.toNat_natCast, hx, ih]
    simp [ByteArray.push]

theorem pu8T_some {t : TypeId} (h : pu8T P t = true) : ∃ e, P.underlying t = some (.pointer e) ∧ P.underlying e = some (.int .u8) := by
  unfold pu8T at h
  split at h
  · exact ⟨_, ‹_›, u8T_some h⟩
  · cases h

theorem lies_bytes {e u : TypeId} (he : P.underlying e = some (.int .u8)) (hu : P.underlying u = some (.int .u8)) (hs : szOf P e = some 1) {count off n : Nat} (h : off + n ≤ count) : liesAt P P.depth e count off u n = true := by
  have hc : P.cellsOf e = 1 := by
    obtain ⟨i, h1, h2⟩ := bnd_some.1 hs
    have h1 : P.info? e = some i := h1
    have h2 : i.size = 1 := by injection h2
    simp [Program.cellsOf, h1, h2]
  have hd : P.depth = (P.depth - 1) + 1 := by simp only [Program.depth]; omega
  have hlay : sameLayout P P.depth e u = true := by
    rw [hd, sameLayout]
    simp [he, hu]
  have hrow : rowAt P (sameLayout P P.depth · u) P.depth e count off n = true := by
    rw [hd] at hlay ⊢
    rw [rowAt]
    simp [hc, h, hlay, Nat.mod_one]
  rw [hd] at hrow ⊢
  rw [liesAt]
  simp only [← hd] at hrow ⊢
  simp [hrow]

theorem unsafeString_def (pt it ty : TypeId) (a : Addr) (k : IntKind) (n : Int) : Builtin.unsafeString_ #[pt, it] ty #[.pointer (some a), .int k n] = (do
    let n ← asInt (.int k n)
    if n < 0 then runtimePanic (.error "unsafe.String: len out of range")
    if n > IntKind.i64.max then unsupported (.unsafePointer "String: a length above the largest int")
    if n = 0 then pure (.string .empty)
    else if ← variablesAt a (← elemOf pt) n.toNat then do
      let s ← loadBytes a .empty n.toNat
      freeze a n.toNat
      pure (.string s)
    else unsupported (.unsafePointer "String: not so many bytes at ptr")) := rfl

theorem unsafeStringO_ok (hh : HR σ N ρ h w) {t t2 : TypeId} {x1 x2 : AV} (e : unsafeStringO P t x1 x2 h = some (v, h')) {y1 y2 : Value} (hy1 : VR σ ρ x1 y1) (hy2 : VR σ ρ x2 y2) : Gives P σ N ρ h w (Builtin.unsafeString_ #[t, t2] o.type #[y1, y2]) v h' := by
  obtain ⟨k0, e1⟩ := ite_some.1 e
  obtain ⟨r, q, hx1, e2⟩ := onPtr_some e1
  obtain ⟨n, k1, e3⟩ := bnd_some.1 e2
  obtain ⟨k2, e4⟩ := ite_some.1 e3
  obtain ⟨kk, hx2⟩ := natOf_some k1
  subst hx1 hx2
  clear e e1 e2 e3
  have k2 : n ≤ 0xfffffff := Nat.le_of_ble_eq_true k2
  obtain ⟨el, ht, hel⟩ := pu8T_some k0
  obtain ⟨p, hp, rfl⟩ := hy1
  cases hy2
  have hmax : IntKind.i64.max = 9223372036854775807 := rfl
  have hn1 : ¬ ((n : Int) < 0) := by omega
  have hn3 : ¬ (9223372036854775807 : Int) < (n : Int) := by omega
  rw [beq_eq] at e4
  by_cases hn : n = 0
  · subst hn
    rw [decide_eq_true rfl] at e4
    cases e4
    exact ⟨ρ, .string .empty, w, by rw [unsafeString_def]; simp [asInt, asIntOf, hmax], hh, St.refl _ _ _, _, rfl, rfl, rfl⟩
  · rw [decide_eq_false hn] at e4
    obtain ⟨ty, sz, nn, tr, wr, rel, k3, e5⟩ := onCells_some (show (onCells (h.get r) fun e sz nn t wr rel => ite' (Nat.beq sz 1) (ite' wr (ite' (u8T P e) (bnd (szOf P e) fun s1 => ite' (Nat.beq s1 1) (bnd (elems t n q) fun ls => bnd (bytesOf ls) fun y => bnd (H.kills rel h) fun h => bnd (h.put r (some (.cells e sz nn t false []))) fun h => some (.str n y, h)))))) = some (v, h') from e4)
    obtain ⟨k4, e6⟩ := ite_some.1 e5
    obtain ⟨k5, e7⟩ := ite_some.1 e6
    obtain ⟨k6, e8⟩ := ite_some.1 e7
    obtain ⟨s1, k7, e9⟩ := bnd_some.1 e8
    obtain ⟨k8, e10⟩ := ite_some.1 e9
    obtain ⟨ls, k9, e11⟩ := bnd_some.1 e10
    obtain ⟨y, k10, e12⟩ := bnd_some.1 e11
    obtain ⟨h1, k11, e13⟩ := bnd_some.1 e12
    obtain ⟨h2, k12, e14⟩ := bnd_some.1 e13
    clear e4 e5 e6 e7 e8 e9 e10 e11 e12 e13
    have k4 : sz = 1 := Nat.eq_of_beq_eq_true k4
    have k8 : s1 = 1 := Nat.eq_of_beq_eq_true k8
    subst k4 k5 k8
    cases e14
    have he := u8T_some k6
    obtain ⟨p', hp', cs, fz, c1, c2, c3, c4⟩ := hh.live r _ k3
    rw [hp] at hp'; cases hp'
    obtain ⟨g1, g2⟩ := elems_some k9
    obtain ⟨bs, b1, b2, b3⟩ := bytesOf_some k10
    have hlen : ∀ l ∈ ls, l.length = 1 := fun l hl => by
      obtain ⟨j, hj, rfl⟩ := List.mem_iff_getElem.1 hl
      have := g2 j (by omega)
      rw [List.getElem?_eq_getElem hj] at this
      exact (c4 _ _ this).2.1
    have hcell : ∀ j x, bs[j]? = some x → cs[p.base + q + j]? = some (.int .u8 ((x.toNat : Nat) : Int)) := fun j x hx => by
      have hj : j < bs.length := (List.getElem?_eq_some_iff.1 hx).1
      have hjl : j < ls.length := by omega
      have e1 := g2 j (by omega)
      rw [List.getElem?_eq_getElem hjl] at e1
      obtain ⟨_, h3, h4, h5⟩ := c4 _ _ e1
      have e2 := flat_get hlen j _ (List.getElem?_eq_getElem hjl) 0 (by omega)
      rw [Nat.mul_one, Nat.add_zero, b3] at e2
      simp [hx] at e2
      obtain ⟨u, h6, h7⟩ := h5 0 _ e2.symm
      have h7 : u = .int .u8 ((x.toNat : Nat) : Int) := h7
      rw [h7] at h6
      rw [← h6]; congr 1; omega
    have hfit : p.base + q + n ≤ cs.size := by
      have := (Array.getElem?_eq_some_iff.1 (hcell (n - 1) (bs[n - 1]'(by omega)) (List.getElem?_eq_getElem _))).1
      omega
    have hload := run_loadBytes (P := P) p.b bs (p.base + q) .empty w fun j x e => by rw [cell_at c1]; exact hcell j x e
    rw [b1, g1, show (⟨ByteArray.empty.data ++ bs.toArray⟩ : ByteArray) = ⟨bs.toArray⟩ from congrArg ByteArray.mk (show (#[] : Array UInt8) ++ bs.toArray = bs.toArray by simp)] at hload
    have hvar : (variablesAt ⟨p.b, p.base + q, none⟩ el n).run P w = .ok true w := by
      have hsh : w.shape? p.b = some (ty, cs.size) := by simp [World.shape?, c1]
      have hc : P.cellsOf ty = 1 := by
        obtain ⟨i, h1, h2⟩ := bnd_some.1 k7
        have h1 : P.info? ty = some i := h1
        have h2 : i.size = 1 := by injection h2
        simp [Program.cellsOf, h1, h2]
      simp only [variablesAt, Sem.run_bind, run_program, Result.andThen_ok, run_shape, hsh, Sem.run_pure, hc, Nat.div_one]
      rw [lies_bytes he hel k7 hfit]
    have hfreeze : ∃ fz', (w.freeze ⟨p.b, p.base + q, none⟩ n).heap[p.b]? = some (.cells cs ty fz') := by
      obtain ⟨lo, hi⟩ := fz
      have hlt := (Array.getElem?_eq_some_iff.1 c1).1
      have hv := (Array.getElem?_eq_some_iff.1 c1).2
      refine ⟨if lo == hi then (p.base + q, p.base + q + n) else (min lo (p.base + q), max hi (p.base + q + n)), ?_⟩
      simp only [World.freeze, if_neg hn]
      rw [Array.getElem?_modify, c1]
      simp
    obtain ⟨fz', hfz'⟩ := hfreeze
    have hfo : ∀ b, b ≠ p.b → (w.freeze ⟨p.b, p.base + q, none⟩ n).heap[b]? = w.heap[b]? := fun b hb => by
      simp only [World.freeze, if_neg hn]
      rw [Array.getElem?_modify]
      simp [Ne.symm hb]
    have hfs : (w.freeze ⟨p.b, p.base + q, none⟩ n).heap.size = w.heap.size := by simp only [World.freeze, if_neg hn]; simp
    have hfe : (w.freeze ⟨p.b, p.base + q, none⟩ n).os = w.os ∧ (w.freeze ⟨p.b, p.base + q, none⟩ n).tape = w.tape ∧ (w.freeze ⟨p.b, p.base + q, none⟩ n).output = w.output := by simp only [World.freeze, if_neg hn, and_self]
    obtain ⟨a1, a2⟩ := kills_some k11
    obtain ⟨a3, a4⟩ := put_some k12
    obtain ⟨q1, q2⟩ := hh.turn (h' := h') hp k3 rfl (fun x => by rw [a4, a2]; rfl) (by rw [a3, a1]) rfl hfe hfs hfo (row' := .cells ty 1 nn tr false []) ⟨cs, fz', hfz', c2, ⟨c3.1, fun hc => nomatch hc⟩, c4⟩
    refine ⟨ρ, _, _, ?_, q1, q2, ⟨bs.toArray⟩, rfl, by simp [b1, g1], by simpa using b2⟩
    rw [unsafeString_def]
    simp [asInt, asIntOf, hmax, hn1, hn3, hn, elemOf, run_underlying ht, hvar, hload]
end
end Go.Exe
