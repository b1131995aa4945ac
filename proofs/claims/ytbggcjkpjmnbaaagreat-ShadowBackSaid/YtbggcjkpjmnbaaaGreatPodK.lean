/- What the printed walks lean on: regions in a row, arrivals, checks, loops. -/
import Derived.Test.YtbggcjkpjmnbaaaGreatPodJ
namespace Go.Pod
open Go

/-- Chosen slots of an environment, in the order asked for. -/
def sel (env : Env) : List Nat → Option Env
  | [] => some []
  | t :: r => (get env t).bind fun d => (sel env r).map fun l => (t, d) :: l

theorem sel_mem {env : Env} : ∀ {ts : List Nat} {l : Env}, sel env ts = some l → ∀ t d, (t, d) ∈ l → (t, d) ∈ env
  | [], l, e, t, d, hm => by cases e; cases hm
  | u :: ts, l, e, t, d, hm => by
    simp only [sel, Option.bind_eq_some_iff, Option.map_eq_some_iff] at e
    obtain ⟨d', h1, l', h2, rfl⟩ := e
    rcases List.mem_cons.1 hm with hm | hm
    · cases hm; exact get_mem h1
    · exact sel_mem h2 t d hm

/-- Regions one behind the other: of each, what the reader is told, and which slots are kept. -/
def bexecs (P : Program) (nt : Nat) : List (List Hint × List Nat) → List Item → Env → Heap → Option (List Prop × Env × Heap)
  | [], _, env, h => some ([], env, h)
  | a :: r, T, env, h => (bexec P nt T env h a.1).bind fun z => (sel z.2.1 a.2).bind fun env' =>
      (bexecs P nt r (nxt T) env' z.2.2).map fun y => (z.1 ++ y.1, y.2)

def nxts : Nat → List Item → List Item
  | 0, T => T
  | n + 1, T => nxts n (nxt T)

section
variable {P : Program} {fn : Func} {n : Nat} {T : List Item} {env : Env} {h : Heap} {d : D} {h' : Heap}

theorem runs_sel {env' : Env} (hs : ∀ t d, (t, d) ∈ env' → (t, d) ∈ env) (hr : Runs P fn n T env' h d h') : Runs P fn n T env h d h' :=
  fun X ρ a w b cs hh hE hd hn => hr X ρ a w b cs hh (hE.sub hs) hd hn

theorem runs_regions (k : Nat) : ∀ (l : List (List Hint × List Nat)) {T : List Item} {env : Env} {h : Heap} {z : List Prop × Env × Heap}, l.length = k → bexecs P fn.ntmps l T env h = some z → All z.1 →
    Runs P fn n (nxts k T) z.2.1 z.2.2 d h' → Runs P fn n T env h d h' := by
  induction k with
  | zero =>
    intro l T env h z hl e ha hr
    cases l with
    | nil => cases e; exact hr
    | cons a r => simp at hl
  | succ k ih =>
    intro l T env h z hl e ha hr
    cases l with
    | nil => simp at hl
    | cons a r =>
      simp only [bexecs, Option.bind_eq_some_iff, Option.map_eq_some_iff] at e
      obtain ⟨z1, h1, env', h2, y, h3, rfl⟩ := e
      obtain ⟨a1, a2⟩ := All_append.1 ha
      exact runs_region a.1 h1 a1 (runs_sel (fun t d hm => sel_mem h2 t d hm) (ih r (by simpa using hl) h3 a2 hr))

/-- An arrival: the same place under another name, the slots that are asked for, the rows that are asked for. -/
theorem runs_to (ts : List Nat) {T' : List Item} {env' : Env} {h2 : Heap} (eT : norm 200 T = T') (eE : sel env ts = some env') (hs : HSub h h2) (hn : n ≤ h2.length) (hi : HIn (Bel h2.length) h2) (hei : EIn (Bel h2.length) env')
    (hr : Runs P fn n T' env' h2 d h') : Runs P fn n T env h d h' := by
  refine runs_norm 200 eT ?_
  exact runs_less (fun t d hm => sel_mem eE t d hm) hs hn hi hei hr
theorem runs_keep (ts : List Nat) {env' : Env} {h2 : Heap} (eE : sel env ts = some env') (hs : HSub h h2) (hn : n ≤ h2.length) (hi : HIn (Bel h2.length) h2) (hei : EIn (Bel h2.length) env')
    (hr : Runs P fn n T env' h2 d h') : Runs P fn n T env h d h' :=
  runs_less (fun t d hm => sel_mem eE t d hm) hs hn hi hei hr
end

theorem cast_fun {F : (Nat → D) → Prop} {x y : Nat → D} (e : x = y) (h : F y) : F x := e ▸ h

theorem d_ite {α : Type} {c : Prop} [Decidable c] {f : α → D} {x y : D} {a b : α} (h1 : x = f a) (h2 : y = f b) : (if c then x else y) = f (if c then a else b) := by
  by_cases h : c
  · rw [if_pos h, if_pos h, h1]
  · rw [if_neg h, if_neg h, h2]

/-- A list of elements, as a table reads it. -/
def tabEq (g : Nat → D) : Nat → List D → Prop
  | _, [] => True
  | k, d :: r => g k = d ∧ tabEq g (k + 1) r

theorem tabEq_get {g : Nat → D} : ∀ (ds : List D) {k : Nat}, tabEq g k ds → ∀ i, i < ds.length → g (k + i) = tab ds i
  | [], _, _, i, hi => by simp at hi
  | d :: r, k, h, 0, _ => h.1
  | d :: r, k, h, i + 1, hi => by
    have := tabEq_get r h.2 i (by simpa using hi)
    rw [show k + (i + 1) = k + 1 + i by omega, this]; rfl

theorem tabOk_arr {ds : List D} {n sz : Nat} {g : Nat → D} (hn : n = ds.length) (h : tabEq g 0 ds) : TabOk ds sz (.arr n sz g) := by
  subst hn
  refine ⟨rfl, fun x L o hm i hi => ?_⟩
  have := tabEq_get ds h i hi
  rw [Nat.zero_add] at this
  rw [this]
  exact hm i hi

/-- Data that read as others do, too: slices that are none as slices of no elements. -/
def DSub (a b : D) : Prop := a.size = b.size ∧ ∀ (x : Cx) (L : Look) (o : Nat), (VR x a).m L o → (VR x b).m L o
theorem dsub_refl {a : D} : DSub a a := ⟨rfl, fun _ _ _ h => h⟩
theorem dsub_nils {sz : Nat} {g : Nat → D} : DSub .nils (.lit 0 sz g) := ⟨rfl, fun _ _ _ ⟨u, h1, h2, h3⟩ => ⟨u, h1, .inl ⟨⟨none, 0, h2⟩, rfl⟩, h3⟩⟩
theorem dsub_cons {a b a' b' : D} (ha : DSub a a') (hb : DSub b b') : DSub (.cons a b) (.cons a' b') := ⟨by simp only [D.size, ha.1, hb.1], fun x L o h => ⟨ha.2 x L o h.1, by rw [← ha.1]; exact hb.2 x L _ h.2⟩⟩

def tabSub (g : Nat → D) : Nat → List D → Prop
  | _, [] => True
  | k, d :: r => DSub d (g k) ∧ tabSub g (k + 1) r

theorem tabSub_get {g : Nat → D} : ∀ (ds : List D) {k : Nat}, tabSub g k ds → ∀ i, i < ds.length → DSub (tab ds i) (g (k + i))
  | [], _, _, i, hi => by simp at hi
  | d :: r, k, h, 0, _ => h.1
  | d :: r, k, h, i + 1, hi => by
    have := tabSub_get r h.2 i (by simpa using hi)
    rw [show k + (i + 1) = k + 1 + i by omega]; exact this

theorem tabOk_sub {ds : List D} {n sz : Nat} {g : Nat → D} (hn : n = ds.length) (h : tabSub g 0 ds) : TabOk ds sz (.arr n sz g) := by
  subst hn
  refine ⟨rfl, fun x L o hm i hi => ?_⟩
  have := tabSub_get ds h i hi
  rw [Nat.zero_add] at this
  have h2 := hm i hi
  exact ⟨this.1 ▸ h2.1, this.2 x L _ h2.2⟩

theorem tabOk_ints {ds : List D} {n : Nat} {k : IntKind} {g : Nat → Int} (hn : n = ds.length) (h : tabEq (fun i => .int k (g i)) 0 ds) : TabOk ds 1 (.ints k n g) := by
  subst hn
  refine ⟨(Nat.mul_one _).symm, fun x L o hm i hi => ?_⟩
  have := tabEq_get ds h i hi
  rw [Nat.zero_add] at this
  have k1 := (hm i hi).2
  rw [← this, Nat.mul_one] at k1
  obtain ⟨u, k2, rfl, _⟩ := k1
  exact k2

theorem emptyOk_arr {sz : Nat} {g : Nat → D} : EmptyOk (.arr 0 sz g) := ⟨Nat.zero_mul _, fun _ _ hi => absurd hi (Nat.not_lt_zero _)⟩
theorem emptyOk_ints {k : IntKind} {g : Nat → Int} : EmptyOk (.ints k 0 g) := ⟨rfl, fun _ _ hi => absurd hi (Nat.not_lt_zero _)⟩

theorem makeOk_ints {m : Nat} {k : IntKind} : MakeOk m 1 (.int k 0) (.ints k m fun _ => 0) := by
  refine ⟨by simp [D.size], fun x L o h i hi => ?_⟩
  obtain ⟨u, h1, rfl, _⟩ := (h i hi).2
  rw [Nat.mul_one] at h1
  exact h1
theorem makeOk_arr {m sz : Nat} {z : D} : MakeOk m sz z (.arr m sz fun _ => z) := ⟨rfl, fun _ _ _ h => h⟩

theorem truncOk_arr {n m sz : Nat} {g : Nat → D} (h : m ≤ n) : TruncOk m sz (.arr n sz g) (.arr m sz g) := ⟨rfl, fun _ _ _ hm i hi => hm i (by omega)⟩
theorem truncOk_ints {k : IntKind} {n m : Nat} {g : Nat → Int} (h : m ≤ n) : TruncOk m 1 (.ints k n g) (.ints k m g) := ⟨by simp [D.size], fun _ _ _ hm i hi => hm i (by omega)⟩

theorem moveOk_ints {k : IntKind} {n m lo c : Nat} {f F : Nat → Int} (h : ∀ i, F i = if m ≤ i ∧ i < m + c then f (lo + (i - m)) else f i) : MoveOk n m lo c 1 (.ints k n f) (.ints k n F) := by
  refine ⟨rfl, fun hlo x L L' o hm hs hj i hi => ?_⟩
  rw [h]
  by_cases hc : m ≤ i ∧ i < m + c
  · rw [if_pos hc]
    have h1 := hj (i - m) (by omega)
    rw [show o + m * 1 + (i - m) = o + i by omega, show o + lo * 1 + (i - m) = o + (lo + (i - m)) by omega, hm (lo + (i - m)) (by omega)] at h1
    exact h1
  · rw [if_neg hc, hs i (by omega) (by omega)]
    exact hm i hi

theorem moveOk_arr {n m lo c sz : Nat} {g G : Nat → D} (h : ∀ i, G i = if m ≤ i ∧ i < m + c then g (lo + (i - m)) else g i) : MoveOk n m lo c sz (.arr n sz g) (.arr n sz G) := by
  refine ⟨rfl, fun hlo x L L' o hm hs hj i hi => ?_⟩
  rw [h]
  by_cases hc : m ≤ i ∧ i < m + c
  · rw [if_pos hc]
    have q := hm (lo + (i - m)) (by omega)
    refine ⟨q.1, VR_look _ (fun t ht => ?_) q.2⟩
    rw [q.1] at ht
    have q1 : (i - m + 1) * sz ≤ c * sz := Nat.mul_le_mul_right sz (by omega)
    have q2 : (i - m + 1) * sz = (i - m) * sz + sz := Nat.succ_mul ..
    have q3 : (lo + (i - m)) * sz = lo * sz + (i - m) * sz := Nat.add_mul ..
    have q4 : i * sz = m * sz + (i - m) * sz := by rw [← Nat.add_mul]; congr 1; omega
    have h1 := hj ((i - m) * sz + t) (by omega)
    rw [show o + i * sz + t = o + m * sz + ((i - m) * sz + t) by omega, h1]
    congr 1; omega
  · rw [if_neg hc]
    have q := hm i hi
    refine ⟨q.1, VR_look _ (fun k hk => ?_) q.2⟩
    have q1 : (i + 1) * sz ≤ n * sz := Nat.mul_le_mul_right sz hi
    have q2 : (i + 1) * sz = i * sz + sz := Nat.succ_mul ..
    rw [q.1] at hk
    rw [Nat.add_assoc]
    refine hs (i * sz + k) (by omega) ?_
    by_cases h1 : i < m
    · have q3 : (i + 1) * sz ≤ m * sz := Nat.mul_le_mul_right sz h1
      exact .inl (by omega)
    · have q3 : (m + c) * sz ≤ i * sz := Nat.mul_le_mul_right sz (by omega)
      exact .inr (by omega)

theorem clearOk_ints {k : IntKind} {n lo m : Nat} {f F : Nat → Int} (h : ∀ i, F i = if lo ≤ i ∧ i < lo + m then 0 else f i) : ClearOk n lo m 1 (.int k 0) (.ints k n f) (.ints k n F) := by
  refine ⟨rfl, fun x L L' o hm hs hj i hi => ?_⟩
  rw [h]
  by_cases hc : lo ≤ i ∧ i < lo + m
  · rw [if_pos hc]
    obtain ⟨u, h1, rfl, _⟩ := hj (i - lo) (by omega)
    rw [show o + (lo + (i - lo)) * 1 = o + i by omega] at h1
    exact h1
  · rw [if_neg hc, hs i (by omega) (by omega)]
    exact hm i hi

theorem clearOk_arr {n lo m sz : Nat} {z : D} {g G : Nat → D} (hz : z.size = sz) (h : ∀ i, G i = if lo ≤ i ∧ i < lo + m then z else g i) : ClearOk n lo m sz z (.arr n sz g) (.arr n sz G) := by
  refine ⟨rfl, fun x L L' o hm hs hj i hi => ?_⟩
  rw [h]
  by_cases hc : lo ≤ i ∧ i < lo + m
  · rw [if_pos hc]
    have := hj (i - lo) (by omega)
    rw [show lo + (i - lo) = i by omega] at this
    exact ⟨hz, this⟩
  · rw [if_neg hc]
    have q := hm i hi
    refine ⟨q.1, VR_look _ (fun k hk => ?_) q.2⟩
    have q1 : (i + 1) * sz ≤ n * sz := Nat.mul_le_mul_right sz hi
    have q2 : (i + 1) * sz = i * sz + sz := Nat.succ_mul ..
    rw [q.1] at hk
    rw [Nat.add_assoc]
    refine hs (i * sz + k) (by omega) ?_
    by_cases h1 : i < lo
    · left
      have q3 : (i + 1) * sz ≤ lo * sz := Nat.mul_le_mul_right sz h1
      omega
    · right
      have q3 : (lo + m) * sz ≤ i * sz := Nat.mul_le_mul_right sz (by omega)
      omega

theorem clearOk_sub {n lo m sz : Nat} {z z' : D} {g G : Nat → D} (hz : z.size = sz) (hs : DSub z z') (h : ∀ i, G i = if lo ≤ i ∧ i < lo + m then z' else g i) : ClearOk n lo m sz z (.arr n sz g) (.arr n sz G) :=
  have k := clearOk_arr (n := n) (z := z') (g := g) (G := G) (hs.1 ▸ hz) h
  ⟨k.1, fun x L L' o hm h1 h2 => k.2 x L L' o hm h1 fun j hj => hs.2 x _ _ (h2 j hj)⟩

theorem makeOk_sub {m sz : Nat} {z z' : D} (hs : DSub z z') : MakeOk m sz z (.arr m sz fun _ => z') :=
  ⟨rfl, fun x L o h i hi => ⟨hs.1 ▸ (h i hi).1, hs.2 x _ _ (h i hi).2⟩⟩

/-- Whole numbers behind whole numbers. -/
theorem catOk_ints {k : IntKind} {n m : Nat} {g f : Nat → Int} {s : D} (hs : s = .arr m 1 fun i => .int k (f i)) : CatOk (.ints k n g) s (.ints k (n + m) fun i => if i < n then g i else f (i - n)) := by
  subst hs
  refine ⟨by simp [D.size], fun x L o h1 h2 i hi => ?_⟩
  by_cases h : i < n
  · simp only [h, if_true]; exact h1 i h
  · simp only [h, if_false]
    obtain ⟨_, u, k1, rfl, _⟩ := h2 (i - n) (by omega)
    rw [Nat.mul_one] at k1
    rw [← k1]; congr 1
    simp only [D.size]; omega

theorem catOk_arr {n m sz : Nat} {g f : Nat → D} {s : D} (hs : s = .arr m sz f) : CatOk (.arr n sz g) s (.arr (n + m) sz fun i => if i < n then g i else f (i - n)) := by
  subst hs
  refine ⟨by simp only [D.size, Nat.add_mul], fun x L o h1 h2 i hi => ?_⟩
  by_cases h : i < n
  · simp only [h, if_true]; exact h1 i h
  · simp only [h, if_false]
    have := h2 (i - n) (by omega)
    refine ⟨this.1, ?_⟩
    have e : o + (D.arr n sz g).size + (i - n) * sz = o + i * sz := by
      simp only [D.size]
      have : i * sz = (n + (i - n)) * sz := by congr 1; omega
      rw [this, Nat.add_mul]; omega
    rw [← e]; exact this.2

/-- Whole numbers behind whole numbers, which nobody writes any more. -/
theorem catOk_lit {k : IntKind} {n m : Nat} {g f : Nat → Int} {s : D} (hs : s = .arr m 1 fun i => .int k (f i)) : CatOk (.ints k n g) s (.arr (n + m) 1 fun i => .int k ((fun i => if i < n then g i else f (i - n)) i)) := by
  obtain ⟨h1, h2⟩ := catOk_ints (k := k) (n := n) (g := g) hs
  refine ⟨by rw [← h1]; simp [D.size], fun x L o a b i hi => ?_⟩
  have h3 := h2 x L o a b i hi
  rw [Nat.mul_one]
  exact ⟨rfl, _, h3, rfl, rfl⟩

theorem catOk_arr' {n m sz : Nat} {g f G : Nat → D} {s : D} (hs : s = .arr m sz f) (h : ∀ i, G i = if i < n then g i else f (i - n)) : CatOk (.arr n sz g) s (.arr (n + m) sz G) := by
  rw [show G = fun i => if i < n then g i else f (i - n) from funext h]
  exact catOk_arr hs

instance (n b : Nat) : Decidable (RoomOk n b) := inferInstanceAs (Decidable (_ ∧ _))

theorem bel_of {n r : Nat} (h : decide (r < n) = true) : Bel n r := of_decide_eq_true h

/-! ### Checks, calls -/

def chk {α : Type} (p : Prop) [Decidable p] (o : Option α) : Option α := if p then o else none

theorem chk_some {α : Type} {p : Prop} [Decidable p] {o : Option α} {r : α} (h : chk p o = some r) : p ∧ o = some r := by
  unfold chk at h
  split at h
  · exact ⟨‹_›, h⟩
  · cases h

/-- A call that is made only where a test says so. -/
def callIf {α : Type} (g : Bool) (x : Option α) (a : α) : Option α := match g with
  | true => x
  | false => some a

theorem callIf_some {α : Type} {g : Bool} {x : Option α} {a r : α} (h : callIf g x a = some r) (hg : g = true) : x = some r := by
  subst hg; exact h

/-- One of two. -/
def ifs {α : Type} (b : Bool) (x y : Option α) : Option α := match b with
  | true => x
  | false => y

theorem ifs_true {α : Type} {b : Bool} {x y : Option α} {r : α} (h : ifs b x y = some r) (hb : b = true) : x = some r := by subst hb; exact h
theorem ifs_false {α : Type} {b : Bool} {x y : Option α} {r : α} (h : ifs b x y = some r) (hb : b = false) : y = some r := by subst hb; exact h

/-! ### Loops -/

/-- What a round of a loop comes to: another round, an end of the loop, an end of what the loop stands in. -/
inductive Lo (S E R : Type) where
  | next (s : S)
  | exit (e : E)
  | ret (r : R)

def iter {S E R : Type} (f : S → Option (Lo S E R)) : Nat → S → Option (E ⊕ R)
  | 0, _ => none
  | k + 1, s => match f s with
    | none => none
    | some (.next s') => iter f k s'
    | some (.exit e) => some (.inl e)
    | some (.ret r) => some (.inr r)

def Lo.post {S E R : Type} (K : S → Prop) (X : E ⊕ R → Prop) : Lo S E R → Prop
  | .next s => K s
  | .exit e => X (.inl e)
  | .ret r => X (.inr r)

theorem iter_post {S E R : Type} {f : S → Option (Lo S E R)} {K : S → Prop} {X : E ⊕ R → Prop} (hb : ∀ s o, f s = some o → Lo.post K X o → K s) : ∀ (k : Nat) (s : S) (o : E ⊕ R), iter f k s = some o → X o → K s
  | 0, _, _, h, _ => by cases h
  | k + 1, s, o, h, hx => by
    unfold iter at h
    split at h
    · cases h
    · rename_i s' e; exact hb s _ e (iter_post hb k s' o h hx)
    · rename_i e' e; cases h; exact hb s _ e hx
    · rename_i r e; cases h; exact hb s _ e hx

def after {E R : Type} (x : Option (E ⊕ R)) (f : E → Option R) : Option R := match x with
  | none => none
  | some (.inl e) => f e
  | some (.inr r) => some r

theorem after_some {E R : Type} {x : Option (E ⊕ R)} {f : E → Option R} {o : R} (h : after x f = some o) : (∃ e, x = some (.inl e) ∧ f e = some o) ∨ x = some (.inr o) := by
  unfold after at h
  split at h
  · cases h
  · exact .inl ⟨_, rfl, h⟩
  · cases h; exact .inr rfl

/-! ### Data that say less -/

section
variable {P : Program} {fn : Func} {n : Nat} {T : List Item} {env : Env} {h : Heap} {d : D} {h' : Heap}

/-- The same slots and rows, in other words. -/
theorem runs_eq {env2 : Env} {h2 : Heap} (e1 : env = env2) (e2 : h = h2) (hr : Runs P fn n T env2 h2 d h') : Runs P fn n T env h d h' := by subst e1; subst e2; exact hr

def USub (d d' : D) : Prop := d.size = d'.size ∧ ∀ x : Cx, (VR x d).le (VR x d')

theorem usub_refl (d : D) : USub d d := ⟨rfl, fun _ => ⟨fun _ h => h, fun _ _ h => h, fun _ _ h => h⟩⟩
theorem usub_nils {sz : Nat} {g : Nat → D} : USub .nils (.lit 0 sz g) := ⟨rfl, fun _ => leaf_le fun _ h => .inl ⟨⟨none, 0, h⟩, rfl⟩⟩
theorem usub_cons {a b a' b' : D} (ha : USub a a') (hb : USub b b') : USub (.cons a b) (.cons a' b') := by
  refine ⟨by simp only [D.size, ha.1, hb.1], fun x => ?_⟩
  have hm : ∀ L o, (VR x (.cons a b)).m L o → (VR x (.cons a' b')).m L o := fun L o h => ⟨(ha.2 x).m _ _ h.1, by rw [← ha.1]; exact (hb.2 x).m _ _ h.2⟩
  exact ⟨fun v ⟨cs, h1, h2, h3⟩ => ⟨cs, h1, by rw [← ha.1, ← hb.1]; exact h2, hm _ _ h3⟩, hm, fun cs i h => ⟨let ⟨u, h1, h2⟩ := h.1; ⟨u, h1, (ha.2 x).v _ h2⟩, (hb.2 x).c _ _ h.2⟩⟩

def USubs : List D → List D → Prop
  | [], [] => True
  | a :: as, b :: bs => USub a b ∧ USubs as bs
  | _, _ => False

theorem usubs_get : ∀ {as bs : List D}, USubs as bs → as.length = bs.length ∧ ∀ (i : Nat) (b : D), bs[i]? = some b → ∃ a, as[i]? = some a ∧ USub a b
  | [], [], _ => ⟨rfl, fun i b h => by simp at h⟩
  | [], _ :: _, h => h.elim
  | _ :: _, [], h => h.elim
  | a :: as, b :: bs, h => by
    obtain ⟨h1, h2⟩ := usubs_get h.2
    refine ⟨by simp [h1], fun i c hc => ?_⟩
    cases i with
    | zero => simp at hc; subst hc; exact ⟨a, rfl, h.1⟩
    | succ i => simpa using h2 i c (by simpa using hc)

/-- A function that takes data takes data that say more. -/
theorem fc_usub {f : FuncId} {as bs : List D} (hs : USubs as bs) (hf : FC P f bs h d h') : FC P f as h d h' := fun X ρ vs w hh hv =>
  hf X ρ vs w hh ⟨by rw [hv.1, (usubs_get hs).1], fun i b hb => by
    obtain ⟨a, h1, h2⟩ := (usubs_get hs).2 i b hb
    exact (h2.2 _).v _ (hv.2 i a h1)⟩

theorem runs_usub_env (t : Nat) {d0 d1 : D} (e : get env t = some d0) (hs : USub d0 d1) (hr : Runs P fn n T (put env t d1) h d h') : Runs P fn n T env h d h' :=
  fun X ρ a w b cs hh hE hd hnt => hr X ρ a w b cs hh (fun u d' hm => by
    rcases List.mem_cons.1 hm with hm | hm
    · cases hm
      have := hE t _ (get_mem e)
      exact ⟨this.1, (hs.2 _).v _ this.2⟩
    · exact hE u d' (mem_drop1 hm).1) hd hnt

theorem runs_usub_box (r : Nat) {d0 d1 : D} (e : h[r]? = some (some (.box d0))) (hs : USub d0 d1) (hr : Runs P fn n T env (h.set r (some (.box d1))) d h') : Runs P fn n T env h d h' :=
  fun X ρ a w b cs hh hE hd hnt => by
    obtain ⟨u, k1, b0, c0, e0, k2, k3, k4, k5⟩ := hh.live r _ e
    obtain ⟨st, hh2⟩ := hh.set (w' := w) (row := .box d1) (getElem?_lt e) k1 rfl rfl rfl (Nat.le_refl _) rfl (fun _ _ => rfl) fun y hle hw => ⟨b0, c0, e0, k2, by rw [hw]; exact k3, by rw [← hs.1]; exact k4, (hs.2 _).m _ _ ((VR_le hle d0).m _ _ k5)⟩
    exact hr X ρ a w b cs hh2 hE hd hnt
/-- A fresh row that is handed back, as what nobody writes any more. -/
theorem fc_lit {f : FuncId} {as : List D} {e : TypeId} {m sz : Nat} {g : Nat → D} (hin : (D.lit m sz g).In (Bel 0)) (hf : FC P f as [] (.own 0) [some (.seq e m sz (.arr m sz g))]) : FC P f as [] (.lit m sz g) [] := by
  intro X ρ vs w hh hv
  refine (hf X ρ vs w hh hv).mono ?_
  rintro ex w' ⟨v, ρ', rfl, hh', st, hvr⟩
  obtain ⟨m1, m2, m3⟩ := hh'.kill (r := 0) rfl
  obtain ⟨u, l1, l2⟩ := hh'.live 0 _ rfl
  obtain ⟨⟨o, g1, g2⟩, _⟩ := hvr
  have lv := lit_of_row (RowR_to m1.leF (fun _ _ => rfl) l2) (g2 u (Option.some.inj (g1.symm.trans l1))) fun b hb => m3 _ b l1 hb
  exact ⟨v, gcρ (hset ρ' 0 none) [], rfl, m2.gc trivial trivial, (st.trans (m1.mono fun _ _ => trivial)).trans (Step.gc fun r hr => hr), (VR_leS (gc_leS (X := X) (ρ := hset ρ' 0 none) (h2 := []) (w := w')) _ hin).v _ lv⟩

theorem fc_usub2 {f : FuncId} {as bs : List D} {d : D} {h h' : Heap} (hf : FC P f bs h d h') (hu : USubs as bs) : FC P f as h d h' := fc_usub hu hf

/-! ### A region that draws, all its orders one by one -/

def eexec (P : Program) (nt : Nat) (ops : Array Oper) : Nat → Array Bool → Env → Heap → Option (List Prop × List (Env × Heap))
  | 0, listed, env, h => match Region.ready .any ops listed with
    | [] => some ([], [(env, h)])
    | _ => none
  | f + 1, listed, env, h => match Region.ready .any ops listed with
    | [] => some ([], [(env, h)])
    | rs => rs.foldr (fun i acc => acc.bind fun A => match ops[i]? with
        | some o => match o.guard with
          | none => (step1 P env h [] o.op).bind fun q => (setDst nt o.dst q.2.1 env).bind fun env' =>
              (eexec P nt ops f (listed.setIfInBounds i true) env' q.2.2.1).map fun B => (q.1 ++ (B.1 ++ A.1), B.2 ++ A.2)
          | some _ => none
        | none => none) (some ([], []))

theorem eexec_ok {X : Nat → Prop} {nt : Nat} {ops : Array Oper} {Q : Exit → Act → World → Prop} : ∀ (f : Nat) {listed : Array Bool} {env : Env} {h : Heap} {z : List Prop × List (Env × Heap)} (_ : eexec P nt ops f listed env h = some z) (_ : All z.1)
    {ρ : Hnd} {a : Act} {w : World} (_ : HRel X ρ h w) (_ : ERel (cx X ρ w) env a.tmps) (_ : nt ≤ a.tmps.size)
    (_ : ∀ l ∈ z.2, ∀ ρ' a' w', Step Full ρ w ρ' w' → HRel X ρ' l.2 w' → ERel (cx X ρ' w') l.1 a'.tmps → a'.defers = a.defers → a'.tmps.size = a.tmps.size → Q .normal a' w'), wpAny P .any ops Q f listed a w
  | 0, listed, env, h, z, e, ha, ρ, a, w, hh, he, hn, K => by
    simp only [eexec] at e
    split at e
    · rename_i hr
      cases e
      exact ⟨hr, K _ (List.mem_singleton.2 rfl) ρ a w (Step.refl _ _ _) hh he rfl rfl⟩
    · cases e
  | f + 1, listed, env, h, z, e, ha, ρ, a, w, hh, he, hn, K => by
    simp only [eexec] at e
    split at e
    · rename_i hr
      cases e
      exact ⟨fun _ => K _ (List.mem_singleton.2 rfl) ρ a w (Step.refl _ _ _) hh he rfl rfl, fun i hi => by rw [hr] at hi; cases hi⟩
    · rename_i hne
      refine ⟨fun hr => absurd hr hne, ?_⟩
      generalize Region.ready .any ops listed = rs at e hne
      clear hne
      induction rs generalizing z with
      | nil => intro i hi; cases hi
      | cons j rs ih =>
        simp only [List.foldr_cons, Option.bind_eq_some_iff] at e
        obtain ⟨A, e1, e2⟩ := e
        split at e2
        · rename_i o ho
          split at e2
          · rename_i hg
            simp only [Option.bind_eq_some_iff, Option.map_eq_some_iff] at e2
            obtain ⟨q, h1, env1, h2, B, h3, rfl⟩ := e2
            obtain ⟨a1, a2⟩ := All_append.1 ha
            obtain ⟨a2, a3⟩ := All_append.1 a2
            intro i hi
            rcases List.mem_cons.1 hi with rfl | hi
            · unfold wpOp
              rw [ho]
              have hw : Region.wanted o (yielded ops a.tmps) = true := by simp [Region.wanted, hg]
              simp only [hw, if_true]
              refine .inl (upon_of (fun v w1 hp => ?_) (step1_ok (P := P) hh he h1 a1 rfl))
              obtain ⟨ρ1, st, hh1, hv⟩ := hp
              obtain ⟨k1, k2, k3⟩ := setDst_ok (nt := nt) (v := v) h2 (he.le st.leF) hn hv
              refine eexec_ok f h3 a2 hh1 k1 (by omega) fun l hl ρ' a' w' st' hh' he' hd hs' => ?_
              exact K l (List.mem_append_left _ hl) ρ' a' w' (st.trans st') hh' he' (hd.trans k2) (hs'.trans k3)
            · exact ih _ a3 (fun l hl => K l (List.mem_append_right _ hl)) e1 i hi
          · cases e2
        · cases e2

def eregion (P : Program) (nt : Nat) (T : List Item) (ts : List Nat) (env : Env) (h : Heap) : Option (List (Env × Heap)) :=
  match norm 200 T with
  | .code (.region _ ops true) :: _ => if P.follows .mixedOrders then match eexec P nt ops ops.size (Array.replicate ops.size false) env h with
      | some ([], l) => l.mapM fun x => (sel x.1 ts).map fun v => (v, x.2)
      | _ => none
    else none
  | _ => none

theorem mapM_mem {α β : Type} {f : α → Option β} : ∀ {l : List α} {m : List β}, l.mapM f = some m → ∀ x ∈ l, ∃ y ∈ m, f x = some y
  | [], _, _, x, hx => by cases hx
  | a :: l, m, e, x, hx => by
    simp only [List.mapM_cons, Option.bind_eq_bind, Option.bind_eq_some_iff, Option.pure_def, Option.some.injEq] at e
    obtain ⟨b, h1, m', h2, rfl⟩ := e
    rcases List.mem_cons.1 hx with rfl | hx
    · exact ⟨b, List.mem_cons_self .., h1⟩
    · obtain ⟨y, q1, q2⟩ := mapM_mem h2 x hx
      exact ⟨y, List.mem_cons_of_mem _ q1, q2⟩

/-- Rule: a region that draws, in two readings, by its orders. -/
theorem runs_enum2 (ts : List Nat) (bs : List Bool) {z0 z1 : Env × Heap} (e : eregion P fn.ntmps T ts env h = some (bs.map fun b => bif b then z1 else z0))
    (h0 : Runs P fn n (nxt T) z0.1 z0.2 d h') (h1 : Runs P fn n (nxt T) z1.1 z1.2 d h') : Runs P fn n T env h d h' := by
  unfold eregion at e
  split at e
  · rename_i id ops k hT
    split at e
    · rename_i hm
      split at e
      · rename_i l hl
        refine runs_norm 200 hT ?_
        have hN : nxt T = norm 200 k := by unfold nxt; rw [hT]
        rw [hN] at h0 h1
        replace h0 := runs_norm 200 rfl h0
        replace h1 := runs_norm 200 rfl h1
        intro X ρ a w b cs hh hE hd hnt
        have st0 : Step Full ρ w ρ w.drew := { os := rfl, tape := rfl, output := rfl, drawn := fun _ => Nat.le_succ _, size := Nat.le_refl _, block := fun _ _ _ => rfl, rho := fun _ _ => .inr (.inr rfl), owns := fun _ h => .inl h }
        have wp : (Code.region id ops true).wp P (fun e a' w' => e = .normal ∧ ∃ x ∈ l, ∃ ρ', Step Full ρ w ρ' w' ∧ HRel X ρ' x.2 w' ∧ ERel (cx X ρ' w') x.1 a'.tmps ∧ a'.defers = a.defers ∧ a'.tmps.size = a.tmps.size) a w :=
          wp_region_any hm (eexec_ok ops.size hl trivial (hh.beside st0 (fun _ _ => rfl)) (hE.le st0.leF) hnt fun x hx ρ' a' w' k1 k2 k3 k4 k5 => ⟨rfl, x, hx, ρ', st0.trans k1, k2, k3, k4, k5⟩)
        obtain ⟨e', a', w', ⟨rfl, x, hx, ρ', k1, k2, k3, k4, k5⟩, harr⟩ := wp b k cs
        obtain ⟨y, hy, hxy⟩ := mapM_mem e x hx
        obtain ⟨v, hv, rfl⟩ := Option.map_eq_some_iff.1 hxy
        obtain ⟨c, _, hc⟩ := List.mem_map.1 hy
        have hr : Runs P fn n k v x.2 d h' := by
          cases c with
          | true => cases hc; exact h1
          | false => cases hc; exact h0
        obtain ⟨a1, w1, ρ1, T1, u, q1, q2, q3, q4, q5, q6⟩ := hr X ρ' a' w' b cs k2 (k3.sub fun t d hm => sel_mem hv t d hm) (k4.trans hd) (by omega)
        exact ⟨a1, w1, ρ1, T1, u, Steps.trans harr q1, q2, q3, q4, (k1.mono fun _ _ => trivial).trans q5, q6⟩
      · cases e
    · cases e
  · cases e

theorem hsub_snoc (row : Option Row) : ∀ h : Heap, HSub ((h ++ [row]).set h.length none) h
  | [] => trivial
  | _ :: h => ⟨.inr rfl, hsub_snoc row h⟩

/-- A row that is handed back behind others, as what nobody writes any more. -/
theorem fc_frz {f : FuncId} {as : List D} {e : TypeId} {m sz : Nat} {g : Nat → D} {h h' : Heap} (hn : h.length ≤ h'.length) (hi : HIn (Bel h'.length) h') (hin : (D.lit m sz g).In (Bel h'.length)) (hf : FC P f as h (.own h'.length) (h' ++ [some (.seq e m sz (.arr m sz g))])) : FC P f as h (.lit m sz g) h' := by
  intro X ρ vs w hh hv
  refine (hf X ρ vs w hh hv).mono ?_
  rintro ex w' ⟨v, ρ', rfl, hh', st, hvr⟩
  have el : (h' ++ [some (Row.seq e m sz (.arr m sz g))])[h'.length]? = some (some (.seq e m sz (.arr m sz g))) := by simp
  obtain ⟨m1, m2, m3⟩ := hh'.kill el
  obtain ⟨u, l1, l2⟩ := hh'.live _ _ el
  obtain ⟨⟨o, g1, g2⟩, _⟩ := hvr
  have lv := lit_of_row (RowR_to m1.leF (fun _ _ => rfl) l2) (g2 u (Option.some.inj (g1.symm.trans l1))) fun b hb => m3 _ b l1 hb
  exact ⟨v, gcρ (hset ρ' h'.length none) h', rfl, m2.gc (hsub_snoc _ _) hi, (st.trans (m1.mono fun _ _ => trivial)).trans (Step.gc fun r hr => Nat.lt_of_lt_of_le hr hn), (VR_leS (gc_leS (X := X) (ρ := hset ρ' h'.length none) (h2 := h') (w := w')) _ hin).v _ lv⟩

end

end Go.Pod
