/- Regions that draw their order: whatever their operations; those that change rows come one behind the other. -/
import Derived.Test.YteaghbcenjhjhaaDoorPodG
namespace Go.Pod
open Go

/-! ### What an operation looks at -/

/-- Does an operation leave all rows as they are? ('cr': calls do not; literals that are not empty do) -/
def quietKind (cr : Bool × Bool × Nat × Nat) : Op → Bool
  | .call { callee := .value _, .. } => !cr.1
  | .buildSlice _ n _ => cr.2.1 && n != 0
  | .box _ _ | .alloc _ | .store _ _ _ | .makeSlice _ _ _ | .call { callee := .builtin .append, .. } | .call { callee := .builtin .clear, .. } | .assign (.const (.slice none 0 0)) => false
  | _ => true

/-- 0: no rows; 1: whether a row is there, and of how many elements; 2: what it holds. -/
def cls : Op → Nat
  | .load _ _ | .slice _ _ _ _ _ => 2
  | .nilCheck _ | .fieldAddr _ _ _ | .indexAddr _ _ _ | .call { callee := .builtin _, .. } => 1
  | .binOp _ _ _ y _ => if isNilP y then 1 else 0
  | .move _ | .assign _ | .pick _ _ _ | .unOp _ _ _ | .extract _ _ | .field _ _ _ | .index _ _ _ | .build _ _ | .makeFunc _ _ _ | .buildSlice _ _ _ => 0
  | _ => 2

/-- What an operation that changes rows leaves as it was: likewise. -/
def erk : Op → Nat
  | .box _ _ | .alloc _ | .buildSlice _ _ _ | .makeSlice _ _ _ | .assign _ => 2
  | .store _ _ _ => 1
  | _ => 0

def Row.like : Row → Row → Prop
  | .box _, .box _ => True
  | .seq e n sz _, .seq e' n' sz' _ => e' = e ∧ n' = n ∧ sz' = sz
  | _, _ => False

def Rel : Nat → Heap → Heap → Prop
  | 0, _, _ => True
  | 1, h, h' => ∀ (r : Nat) (row : Row), h[r]? = some (some row) → ∃ row' : Row, h'[r]? = some (some row') ∧ row.like row'
  | _, h, h' => ∀ (r : Nat) (row : Row), h[r]? = some (some row) → h'[r]? = some (some row)

theorem Row.like_refl (row : Row) : row.like row := by cases row <;> simp [Row.like]
theorem Row.like_trans {a b c : Row} (h : a.like b) (k : b.like c) : a.like c := by
  cases a <;> cases b <;> cases c <;> simp_all [Row.like]

theorem Rel.refl : ∀ (c : Nat) (h : Heap), Rel c h h
  | 0, _ => trivial
  | 1, _ => fun _ row e => ⟨row, e, row.like_refl⟩
  | _ + 2, _ => fun _ _ e => e

theorem Rel.trans : ∀ {c : Nat} {h h' h'' : Heap}, Rel c h h' → Rel c h' h'' → Rel c h h''
  | 0, _, _, _, _, _ => trivial
  | 1, _, _, _, a, b => fun r row e => let ⟨row', e', l⟩ := a r row e; let ⟨row'', e'', l'⟩ := b r row' e'; ⟨row'', e'', Row.like_trans l l'⟩
  | _ + 2, _, _, _, a, b => fun r row e => b r row (a r row e)

theorem Rel.mono : ∀ {c d : Nat} {h h' : Heap}, c ≤ d → Rel d h h' → Rel c h h'
  | 0, _, _, _, _, _ => trivial
  | 1, 1, _, _, _, a => a
  | 1, _ + 2, _, _, _, a => fun r row e => ⟨row, a r row e, row.like_refl⟩
  | _ + 2, _ + 2, _, _, _, a => a
  | 1, 0, _, _, h, _ => absurd h (by omega)
  | _ + 2, 0, _, _, h, _ => absurd h (by omega)
  | _ + 2, 1, _, _, h, _ => absurd h (by omega)

theorem rowOf_some {h : Heap} {r : Nat} {d : D} (e : rowOf h r = some d) : ∃ row, h[r]? = some (some row) ∧ row.d = d := by
  unfold rowOf at e
  split at e
  · rename_i d' e'; cases e; exact ⟨_, e', rfl⟩
  · rename_i d' e'; cases e; exact ⟨_, e', rfl⟩
  · cases e
theorem rowOf_mk {h : Heap} {r : Nat} {row : Row} (e : h[r]? = some (some row)) : rowOf h r = some row.d := by
  cases row <;> simp only [rowOf, e, Row.d]

theorem map_rowOf {h h' : Heap} (hr : Rel 1 h h') {r : Nat} {α : Type} {x z : α} (e : (rowOf h r).map (fun _ => x) = some z) : (rowOf h' r).map (fun _ => x) = some z := by
  simp only [Option.map_eq_some_iff] at e
  obtain ⟨d, e1, rfl⟩ := e
  obtain ⟨row, e2, _⟩ := rowOf_some e1
  obtain ⟨row', e3, _⟩ := hr r row e2
  rw [rowOf_mk e3]; rfl

theorem fieldv_mono {P : Program} {h h' : Heap} (hr : Rel 1 h h') {T : TypeId} {j : Nat} {x : D} {z : List Prop × D} (e : fieldv P h T j x = some z) : fieldv P h' T j x = some z := by
  unfold fieldv at e ⊢
  split at e
  · rename_i fs hu
    split at e
    · rename_i f hf
      split at e
      · rename_i hz
        rw [if_pos hz]
        split at e
        · exact map_rowOf hr e
        · exact e
        · cases e
      · cases e
    · cases e
  · cases e

theorem indexv_mono {P : Program} {h h' : Heap} (hr : Rel 1 h h') {T : TypeId} {x : D} {i : Int} {z : List Prop × D} (e : indexv P h T x i = some z) : indexv P h' T x i = some z := by
  unfold indexv at e ⊢
  split at e
  · rename_i n el hu
    split at e
    · rename_i q r p hi; exact map_rowOf hr e
    · rename_i q d hi; exact e
    · cases e
  · rename_i el hu
    split at e
    · rename_i q n sz g hi; exact e
    · rename_i q r hi
      split at e
      · rename_i el' n sz dr hr'
        obtain ⟨row', e1, l⟩ := hr r _ hr'
        cases row' with
        | box _ => exact l.elim
        | seq e2 n2 sz2 d2 =>
          obtain ⟨rfl, rfl, rfl⟩ := l
          simp only [e1]; exact e
      · cases e
    · rename_i q r lo m sz' hi
      split at e
      · rename_i el' n sz dr hr'
        obtain ⟨row', e1, l⟩ := hr r _ hr'
        cases row' with
        | box _ => exact l.elim
        | seq e2 n2 sz2 d2 => simp only [e1]; exact e
      · cases e
    · cases e
  · cases e

theorem lenv_mono {P : Program} {h h' : Heap} (hr : Rel 1 h h') {T : TypeId} {x : D} {z : List Prop × D} (e : lenv P h T x = some z) : lenv P h' T x = some z := by
  cases x <;> simp only [lenv, reduceCtorEq] at e ⊢ <;> first | exact e | skip
  case own r =>
    split at e
    · rename_i el el' n sz dr hu hr'
      obtain ⟨row', e1, l⟩ := hr r _ hr'
      cases row' with
      | box _ => exact l.elim
      | seq e2 n2 sz2 d2 =>
        obtain ⟨rfl, rfl, rfl⟩ := l
        simp only [hu, e1]; exact e
    · cases e
  case view r lo m sz' =>
    split at e
    · rename_i el el' n sz dr hu hr'
      obtain ⟨row', e1, l⟩ := hr r _ hr'
      cases row' with
      | box _ => exact l.elim
      | seq e2 n2 sz2 d2 => simp only [hu, e1]; exact e
    · cases e

theorem loadv_mono {P : Program} {h h' : Heap} (hr : Rel 2 h h') {T : TypeId} {x : D} {z : List Prop × D} (e : loadv P h T x = some z) : loadv P h' T x = some z := by
  cases x <;> simp only [loadv, reduceCtorEq] at e ⊢ <;> first | exact e | skip
  rename_i r p
  simp only [Option.bind_eq_some_iff] at e ⊢
  obtain ⟨d, e1, y, e2, e3⟩ := e
  obtain ⟨row, e4, rfl⟩ := rowOf_some e1
  exact ⟨row.d, rowOf_mk (hr r row e4), y, e2, e3⟩

theorem bytesv_mono {P : Program} {h h' : Heap} (hr : Rel 2 h h') {s t : TypeId} {x : D} {z : List Prop × D} (e : bytesv P h s t x = some z) : bytesv P h' s t x = some z := by
  unfold bytesv at e ⊢
  split at e
  · split at e
    · exact e
    · rename_i r he
      split at e
      · rename_i el' n n' f hr'
        rw [hr r _ hr']
        exact e
      · cases e
    · exact e
    · cases e
  · cases e

theorem binv3_mono {P : Program} {h h' : Heap} {op : BinOp} {t : TypeId} {y : Operand} (hr : Rel (if isNilP y then 1 else 0) h h') {a b : D} {z : List Prop × D} (e : binv3 P h op t y a b = some z) : binv3 P h' op t y a b = some z := by
  unfold binv3 at e ⊢
  split at e
  · rename_i r p hn
    rw [hn, if_pos rfl] at hr
    simp only [Option.bind_eq_some_iff] at e ⊢
    obtain ⟨d, e1, e2⟩ := e
    obtain ⟨row, e3, _⟩ := rowOf_some e1
    obtain ⟨row', e4, _⟩ := hr r row e3
    exact ⟨_, rowOf_mk e4, e2⟩
  · exact e
  · exact e
  · exact e
  · exact e

theorem slicev2_mono {P : Program} {h h' : Heap} (hr : Rel 2 h h') {T : TypeId} {x : D} {lo hi : Option Int} {z : List Prop × D} (e : slicev2 P h T x lo hi = some z) : slicev2 P h' T x lo hi = some z := by
  unfold slicev2 at e ⊢
  split at e
  · rename_i el r hu
    split at e
    · rename_i q el' n sz dr hi' hr'
      rw [hr r _ hr', hi']
      exact e
    · cases e
  · exact e

theorem oval_mono {P : Program} {g : Bool} {env : Env} {h h' : Heap} {op : Op} (hr : Rel (cls op) h h') {z : List Prop × D} (e : oval P g env h op = some z) : oval P g env h' op = some z := by
  cases op <;> simp only [oval, reduceCtorEq] at e ⊢ <;> first | exact e | skip
  case load T x =>
    simp only [Option.bind_eq_some_iff, Option.map_eq_some_iff] at e ⊢
    obtain ⟨q, e1, y, e2, e3⟩ := e
    exact ⟨q, e1, y, loadv_mono hr e2, e3⟩
  case nilCheck x =>
    simp only [Option.bind_eq_some_iff] at e ⊢
    obtain ⟨q, e1, e2⟩ := e
    refine ⟨q, e1, ?_⟩
    split at e2
    · exact e2
    · exact e2
    · exact map_rowOf hr e2
    · cases e2
  case slice T x lo hi mx =>
    cases mx <;> simp only [Option.bind_eq_some_iff, Option.map_eq_some_iff] at e ⊢
    · obtain ⟨q, e1, l, e2, u, e3, y, e4, e5⟩ := e
      exact ⟨q, e1, l, e2, u, e3, y, slicev2_mono hr e4, e5⟩
    · exact e
  case binOp op t x y ty =>
    simp only [Option.bind_eq_some_iff, Option.map_eq_some_iff] at e ⊢
    obtain ⟨q, e1, b, e2, y', e3, e4⟩ := e
    exact ⟨q, e1, b, e2, y', binv3_mono hr e3, e4⟩
  case convert s t x =>
    simp only [Option.bind_eq_some_iff, Option.map_eq_some_iff] at e ⊢
    obtain ⟨q, e1, y, e2, e3⟩ := e
    refine ⟨q, e1, y, ?_, e3⟩
    unfold cbv at e2 ⊢
    split at e2
    · exact e2
    · exact bytesv_mono hr e2
  case fieldAddr T x j =>
    simp only [Option.bind_eq_some_iff, Option.map_eq_some_iff] at e ⊢
    obtain ⟨q, e1, y, e2, e3⟩ := e
    exact ⟨q, e1, y, fieldv_mono hr e2, e3⟩
  case indexAddr T x i =>
    simp only [Option.bind_eq_some_iff, Option.map_eq_some_iff] at e ⊢
    obtain ⟨q, e1, b, e2, n, e3, y, e4, e5⟩ := e
    exact ⟨q, e1, b, e2, n, e3, y, indexv_mono hr e4, e5⟩

theorem vval_mono {P : Program} {g : Bool} {env : Env} {h h' : Heap} {op : Op} (hr : Rel (cls op) h h') {z : List Prop × D} (e : vval P g env h op = some z) : vval P g env h' op = some z := by
  unfold vval at e ⊢
  split at e
  · exact e
  · exact e
  · split at e
    · rename_i x T hx hT
      simp only [Option.bind_eq_some_iff, Option.map_eq_some_iff] at e ⊢
      obtain ⟨q, e1, y, e2, e3⟩ := e
      exact ⟨q, e1, y, lenv_mono hr e2, e3⟩
    · cases e
  · exact e
  · exact e
  · exact oval_mono hr e

theorem lend1_mono {h h' : Heap} (hr : Rel 2 h h') {d a : D} (e : lend1 h d = some a) : lend1 h' d = some a := by
  cases d <;> simp only [lend1] at e ⊢ <;> first | exact e | skip
  rename_i r
  split at e
  · rename_i el n sz n' sz' g k
    rw [hr r _ k]; exact e
  · rename_i el n sz k' n' g k
    rw [hr r _ k]; exact e
  · cases e

theorem lendL_mono {h h' : Heap} (hr : Rel 2 h h') : ∀ {ds as : List D}, lendL h ds = some as → lendL h' ds = some as
  | [], as, e => e
  | d :: ds, as, e => by
    simp only [lendL, Option.bind_eq_some_iff, Option.map_eq_some_iff] at e ⊢
    obtain ⟨a, h1, l, h2, h3⟩ := e
    exact ⟨a, lend1_mono hr h1, l, lendL_mono hr h2, h3⟩

theorem lendV_mono {h h' : Heap} (hr : Rel 2 h h') {d : D} {a : List Prop × D} (e : lendV h d = some a) : lendV h' d = some a := by
  have plain : (lend1 h d).map (fun e => (([] : List Prop), e)) = some a → (lend1 h' d).map (fun e => (([] : List Prop), e)) = some a := fun e => by
    simp only [Option.map_eq_some_iff] at e ⊢
    obtain ⟨q, h1, h2⟩ := e
    exact ⟨q, lend1_mono hr h1, h2⟩
  cases d <;> first | exact plain e | skip
  rename_i r lo m sz
  simp only [lendV] at e ⊢
  split at e
  · rename_i el n sz' n' sz'' g k
    rw [hr r _ k]; exact e
  · rename_i el n sz' k' n' g k
    rw [hr r _ k]; exact e
  · cases e

theorem lendVL_mono {h h' : Heap} (hr : Rel 2 h h') : ∀ {ds : List D} {as : List Prop × List D}, lendVL h ds = some as → lendVL h' ds = some as
  | [], as, e => e
  | d :: ds, as, e => by
    simp only [lendVL, Option.bind_eq_some_iff, Option.map_eq_some_iff] at e ⊢
    obtain ⟨a, h1, l, h2, h3⟩ := e
    exact ⟨a, lendV_mono hr h1, l, lendVL_mono hr h2, h3⟩

theorem rowsAt_mono {h h' : Heap} (hr : Rel 2 h h') {τ : Nat → Nat} : ∀ {σ : List Nat} {hc : List Row}, RowsAt τ h σ hc → RowsAt τ h' σ hc
  | [], [], _ => trivial
  | _ :: _, _ :: _, k => ⟨hr _ _ k.1, rowsAt_mono hr k.2⟩
  | [], _ :: _, k => k.elim
  | _ :: _, [], k => k.elim

theorem callv_mono {P : Program} {g : Bool} {env : Env} {h h' : Heap} (hr : Rel 2 h h') {hint : Hint} {f : Operand} {args : Array Operand} {z : List Prop × D} (e : callv P g env h hint f args = some z) :
    ∃ ob, callv P g env h' hint f args = some (ob, z.2) ∧ (All z.1 → All ob) := by
  unfold callv at e ⊢
  simp only [Option.bind_eq_some_iff] at e
  obtain ⟨qf, h1, qa, h2, h3⟩ := e
  simp only [h1, h2, Option.bind_some]
  split at h3
  · rename_i fid caps hq
    split at h3
    · rename_i hc
      rw [if_pos hc]
      split at h3
      · cases h3; exact ⟨_, rfl, id⟩
      · rename_i d
        simp only [Option.bind_eq_some_iff] at h3
        obtain ⟨as, h4, h5⟩ := h3
        simp only [lendVL_mono hr h4, Option.bind_some]
        split at h5
        · rename_i hd
          cases h5
          exact ⟨_, by rw [if_pos hd], id⟩
        · cases h5
      · rename_i σ as hc' dc
        split at h3
        · rename_i hn
          cases h3
          refine ⟨_, by simp only [hn, if_true]; rfl, fun ha => ?_⟩
          obtain ⟨a12, b1, b2, b3, b4, b5, b6, _⟩ := All_append.1 ha
          exact All_append.2 ⟨a12, b1, b2, rowsAt_mono hr b3, b4, b5, b6, trivial⟩
        · cases h3
      · cases h3
    · cases h3
  · cases h3

theorem stepG_mono {P : Program} {g : Bool} {env : Env} {h h' : Heap} {hs : List Hint} {op : Op} (hr : Rel (cls op) h h') {z : List Prop × D × List Hint} (e : stepG P g env h hs op = some z) : ∃ ob, stepG P g env h' hs op = some (ob, z.2) ∧ (All z.1 → All ob) := by
  unfold stepG at e ⊢
  split at e
  · rename_i f args ats
    split at e
    · simp only [Option.map_eq_some_iff] at e
      obtain ⟨q, e1, rfl⟩ := e
      obtain ⟨ob, k1, k2⟩ := callv_mono hr e1
      exact ⟨ob, by rw [k1]; rfl, k2⟩
    · cases e
  · exact ⟨z.1, e, id⟩
  · rename_i hn
    simp only [Option.map_eq_some_iff] at e
    obtain ⟨q, e1, rfl⟩ := e
    exact ⟨q.1, by rw [vval_mono hr e1]; rfl, id⟩

theorem rel_append (h t : Heap) : Rel 2 h (h ++ t) := fun r row e => by
  have := getElem?_lt e
  rw [List.getElem?_append_left this]; exact e

theorem step1_rel {P : Program} {env : Env} {h : Heap} {hs : List Hint} {op : Op} {cr : Bool × Bool × Nat × Nat} (hk : quietKind cr op = false) {q : Told} (e : step1 P env h hs op = some q) : Rel (erk op) h q.2.2.1 := by
  unfold step1 at e
  split at e
  · simp only [Option.bind_eq_some_iff] at e
    obtain ⟨a, _, e⟩ := e
    split at e
    · cases e; exact rel_append _ _
    · cases e
  · simp only [Option.map_eq_some_iff] at e
    obtain ⟨a, _, rfl⟩ := e
    exact rel_append _ _
  · simp only [Option.bind_eq_some_iff] at e
    obtain ⟨a, _, b, _, e⟩ := e
    split at e
    · rename_i r pa i _ _
      split at e
      · simp only [Option.map_eq_some_iff] at e
        obtain ⟨y, e1, rfl⟩ := e
        unfold storeR at e1
        intro r' row' e'
        have key : ∀ (row row2 : Row), h[r]? = some (some row) → row.like row2 → ∃ row3, (h.set r (some row2))[r']? = some (some row3) ∧ row'.like row3 := fun row row2 k1 k2 => by
          by_cases hq : r' = r
          · subst hq
            rw [k1] at e'
            cases e'
            exact ⟨row2, List.getElem?_set_self (getElem?_lt k1), k2⟩
          · exact ⟨row', by rw [List.getElem?_set_ne (Ne.symm hq)]; exact e', row'.like_refl⟩
        split at e1
        · rename_i d hr
          simp only [Option.map_eq_some_iff] at e1
          obtain ⟨y', _, rfl⟩ := e1
          exact key _ _ hr trivial
        · rename_i d hr
          simp only [Option.map_eq_some_iff] at e1
          obtain ⟨y', _, rfl⟩ := e1
          exact key _ _ hr ⟨rfl, rfl, rfl⟩
        · cases e1
      · cases e
    · cases e
  · unfold stepLit at e
    simp only [Option.bind_eq_some_iff] at e
    obtain ⟨a, _, e⟩ := e
    split at e
    · simp only [Option.bind_eq_some_iff] at e
      obtain ⟨b, _, e⟩ := e
      split at e
      · split at e
        · cases e; exact rel_append _ _
        · cases e; exact Rel.refl 2 _
        · cases e; exact Rel.refl 2 _
      · cases e
    · cases e
  · unfold stepMake at e
    split at e
    · simp only [Option.bind_eq_some_iff] at e
      obtain ⟨a, _, b, _, e⟩ := e
      split at e
      · simp only [Option.bind_eq_some_iff] at e
        obtain ⟨i, _, z, _, e⟩ := e
        cases e; exact rel_append _ _
      · cases e
    · cases e
  · trivial
  · trivial
  · trivial
  · simp [quietKind] at hk
  · simp [quietKind] at hk
  · split at e
    · cases e; exact rel_append _ _
    · cases e; exact Rel.refl 2 _
  · rename_i h1 h2 h3 h4 hmk h5 hcl h6 hcv h7 h8
    exfalso
    unfold quietKind at hk
    split at hk <;> first | cases hk | skip
    · exact h6 _ _ _ rfl
    · exact h4 _ _ _ rfl
    · exact h1 _ _ rfl
    · exact h2 _ rfl
    · exact h3 _ _ _ rfl
    · exact hmk _ _ _ rfl
    · exact h5 _ _ rfl
    · exact hcl _ _ rfl
    · exact h8 rfl

end Go.Pod
