/- What the printed walks lean on: regions in a row, arrivals, checks, loops. -/
import Derived.Test.YteaghbcenjhjhaaDoorPodJ
namespace Go.Pod
open Go

/-- Chosen slots of an environment, in the order asked for. -/
def sel (env : Env) : List Nat → Option Env
  | [] => some []
  | t :: r => (get env t).bind fun d => (sel env r).map fun l => (t, d) :: l

theorem sel_mem {env : Env} : ∀ {ts : List Nat} {l : Env}, sel env ts = some l → ∀ t d, (t, d) ∈ l → (t, d) ∈ env
  | [], l, e, t, d, hm => by cases e; cases hm
  | u :: ts, l, e, t, d, hm => by
    simp only [sel, Option.bind_eq_some_iff, Option.map_eq_some_iff] at e
    obtain ⟨d', h1, l', h2, rfl⟩ := e
    rcases List.mem_cons.1 hm with hm | hm
    · cases hm; exact get_mem h1
    · exact sel_mem h2 t d hm

/-- Regions one behind the other: of each, what the reader is told, and which slots are kept. -/
def bexecs (P : Program) (nt : Nat) : List (List Hint × List Nat) → List Item → Env → Heap → Option (List Prop × Env × Heap)
  | [], _, env, h => some ([], env, h)
  | a :: r, T, env, h => (bexec P nt T env h a.1).bind fun z => (sel z.2.1 a.2).bind fun env' =>
      (bexecs P nt r (nxt T) env' z.2.2).map fun y => (z.1 ++ y.1, y.2)

def nxts : Nat → List Item → List Item
  | 0, T => T
  | n + 1, T => nxts n (nxt T)

section
variable {P : Program} {fn : Func} {n : Nat} {T : List Item} {env : Env} {h : Heap} {d : D} {h' : Heap}

theorem runs_sel {env' : Env} (hs : ∀ t d, (t, d) ∈ env' → (t, d) ∈ env) (hr : Runs P fn n T env' h d h') : Runs P fn n T env h d h' :=
  fun X ρ a w b cs hh hE hd hn => hr X ρ a w b cs hh (hE.sub hs) hd hn

theorem runs_regions (k : Nat) : ∀ (l : List (List Hint × List Nat)) {T : List Item} {env : Env} {h : Heap} {z : List Prop × Env × Heap}, l.length = k → bexecs P fn.ntmps l T env h = some z → All z.1 →
    Runs P fn n (nxts k T) z.2.1 z.2.2 d h' → Runs P fn n T env h d h' := by
  induction k with
  | zero =>
    intro l T env h z hl e ha hr
    cases l with
    | nil => cases e; exact hr
    | cons a r => simp at hl
  | succ k ih =>
    intro l T env h z hl e ha hr
    cases l with
    | nil => simp at hl
    | cons a r =>
      simp only [bexecs, Option.bind_eq_some_iff, Option.map_eq_some_iff] at e
      obtain ⟨z1, h1, env', h2, y, h3, rfl⟩ := e
      obtain ⟨a1, a2⟩ := All_append.1 ha
      exact runs_region a.1 h1 a1 (runs_sel (fun t d hm => sel_mem h2 t d hm) (ih r (by simpa using hl) h3 a2 hr))

/-- An arrival: the same place under another name, the slots that are asked for, the rows that are asked for. -/
theorem runs_to (ts : List Nat) {T' : List Item} {env' : Env} {h2 : Heap} (eT : norm 200 T = T') (eE : sel env ts = some env') (hs : HSub h h2) (hn : n ≤ h2.length) (hi : HIn (Bel h2.length) h2) (hei : EIn (Bel h2.length) env')
    (hr : Runs P fn n T' env' h2 d h') : Runs P fn n T env h d h' := by
  refine runs_norm 200 eT ?_
  exact runs_less (fun t d hm => sel_mem eE t d hm) hs hn hi hei hr
theorem runs_keep (ts : List Nat) {env' : Env} {h2 : Heap} (eE : sel env ts = some env') (hs : HSub h h2) (hn : n ≤ h2.length) (hi : HIn (Bel h2.length) h2) (hei : EIn (Bel h2.length) env')
    (hr : Runs P fn n T env' h2 d h') : Runs P fn n T env h d h' :=
  runs_less (fun t d hm => sel_mem eE t d hm) hs hn hi hei hr
end

theorem cast_fun {F : (Nat → D) → Prop} {x y : Nat → D} (e : x = y) (h : F y) : F x := e ▸ h

theorem d_ite {α : Type} {c : Prop} [Decidable c] {f : α → D} {x y : D} {a b : α} (h1 : x = f a) (h2 : y = f b) : (if c then x else y) = f (if c then a else b) := by
  by_cases h : c
  · rw [if_pos h, if_pos h, h1]
  · rw [if_neg h, if_neg h, h2]

/-- A list of elements, as a table reads it. -/
def tabEq (g : Nat → D) : Nat → List D → Prop
  | _, [] => True
  | k, d :: r => g k = d ∧ tabEq g (k + 1) r

theorem tabEq_get {g : Nat → D} : ∀ (ds : List D) {k : Nat}, tabEq g k ds → ∀ i, i < ds.length → g (k + i) = tab ds i
  | [], _, _, i, hi => by simp at hi
  | d :: r, k, h, 0, _ => h.1
  | d :: r, k, h, i + 1, hi => by
    have := tabEq_get r h.2 i (by simpa using hi)
    rw [show k + (i + 1) = k + 1 + i by omega, this]; rfl

theorem tabOk_arr {ds : List D} {n sz : Nat} {g : Nat → D} (hn : n = ds.length) (h : tabEq g 0 ds) : TabOk ds sz (.arr n sz g) := by
  subst hn
  refine ⟨rfl, fun x L o hm i hi => ?_⟩
  have := tabEq_get ds h i hi
  rw [Nat.zero_add] at this
  rw [this]
  exact hm i hi

/-- Data that read as others do, too: slices that are none as slices of no elements. -/
def DSub (a b : D) : Prop := a.size = b.size ∧ ∀ (x : Cx) (L : Look) (o : Nat), (VR x a).m L o → (VR x b).m L o
theorem dsub_refl {a : D} : DSub a a := ⟨rfl, fun _ _ _ h => h⟩
theorem dsub_nils {sz : Nat} {g : Nat → D} : DSub .nils (.lit 0 sz g) := ⟨rfl, fun _ _ _ ⟨u, h1, h2, h3⟩ => ⟨u, h1, .inl ⟨⟨none, 0, h2⟩, rfl⟩, h3⟩⟩
theorem dsub_cons {a b a' b' : D} (ha : DSub a a') (hb : DSub b b') : DSub (.cons a b) (.cons a' b') := ⟨by simp only [D.size, ha.1, hb.1], fun x L o h => ⟨ha.2 x L o h.1, by rw [← ha.1]; exact hb.2 x L _ h.2⟩⟩

def tabSub (g : Nat → D) : Nat → List D → Prop
  | _, [] => True
  | k, d :: r => DSub d (g k) ∧ tabSub g (k + 1) r

theorem tabSub_get {g : Nat → D} : ∀ (ds : List D) {k : Nat}, tabSub g k ds → ∀ i, i < ds.length → DSub (tab ds i) (g (k + i))
  | [], _, _, i, hi => by simp at hi
  | d :: r, k, h, 0, _ => h.1
  | d :: r, k, h, i + 1, hi => by
    have := tabSub_get r h.2 i (by simpa using hi)
    rw [show k + (i + 1) = k + 1 + i by omega]; exact this

theorem tabOk_sub {ds : List D} {n sz : Nat} {g : Nat → D} (hn : n = ds.length) (h : tabSub g 0 ds) : TabOk ds sz (.arr n sz g) := by
  subst hn
  refine ⟨rfl, fun x L o hm i hi => ?_⟩
  have := tabSub_get ds h i hi
  rw [Nat.zero_add] at this
  have h2 := hm i hi
  exact ⟨this.1 ▸ h2.1, this.2 x L _ h2.2⟩

theorem tabOk_ints {ds : List D} {n : Nat} {k : IntKind} {g : Nat → Int} (hn : n = ds.length) (h : tabEq (fun i => .int k (g i)) 0 ds) : TabOk ds 1 (.ints k n g) := by
  subst hn
  refine ⟨(Nat.mul_one _).symm, fun x L o hm i hi => ?_⟩
  have := tabEq_get ds h i hi
  rw [Nat.zero_add] at this
  have k1 := (hm i hi).2
  rw [← this, Nat.mul_one] at k1
  obtain ⟨u, k2, rfl, _⟩ := k1
  exact k2

theorem emptyOk_arr {sz : Nat} {g : Nat → D} : EmptyOk (.arr 0 sz g) := ⟨Nat.zero_mul _, fun _ _ hi => absurd hi (Nat.not_lt_zero _)⟩
theorem emptyOk_ints {k : IntKind} {g : Nat → Int} : EmptyOk (.ints k 0 g) := ⟨rfl, fun _ _ hi => absurd hi (Nat.not_lt_zero _)⟩

theorem makeOk_ints {m : Nat} {k : IntKind} : MakeOk m 1 (.int k 0) (.ints k m fun _ => 0) := by
  refine ⟨by simp [D.size], fun x L o h i hi => ?_⟩
  obtain ⟨u, h1, rfl, _⟩ := (h i hi).2
  rw [Nat.mul_one] at h1
  exact h1
theorem makeOk_arr {m sz : Nat} {z : D} : MakeOk m sz z (.arr m sz fun _ => z) := ⟨rfl, fun _ _ _ h => h⟩

theorem truncOk_arr {n m sz : Nat} {g : Nat → D} (h : m ≤ n) : TruncOk m sz (.arr n sz g) (.arr m sz g) := ⟨rfl, fun _ _ _ hm i hi => hm i (by omega)⟩
theorem truncOk_ints {k : IntKind} {n m : Nat} {g : Nat → Int} (h : m ≤ n) : TruncOk m 1 (.ints k n g) (.ints k m g) := ⟨by simp [D.size], fun _ _ _ hm i hi => hm i (by omega)⟩

theorem clearOk_ints {k : IntKind} {n lo m : Nat} {f F : Nat → Int} (h : ∀ i, F i = if lo ≤ i ∧ i < lo + m then 0 else f i) : ClearOk n lo m 1 (.int k 0) (.ints k n f) (.ints k n F) := by
  refine ⟨rfl, fun x L L' o hm hs hj i hi => ?_⟩
  rw [h]
  by_cases hc : lo ≤ i ∧ i < lo + m
  · rw [if_pos hc]
    obtain ⟨u, h1, rfl, _⟩ := hj (i - lo) (by omega)
    rw [show o + (lo + (i - lo)) * 1 = o + i by omega] at h1
    exact h1
  · rw [if_neg hc, hs i (by omega) (by omega)]
    exact hm i hi

theorem clearOk_arr {n lo m sz : Nat} {z : D} {g G : Nat → D} (hz : z.size = sz) (h : ∀ i, G i = if lo ≤ i ∧ i < lo + m then z else g i) : ClearOk n lo m sz z (.arr n sz g) (.arr n sz G) := by
  refine ⟨rfl, fun x L L' o hm hs hj i hi => ?_⟩
  rw [h]
  by_cases hc : lo ≤ i ∧ i < lo + m
  · rw [if_pos hc]
    have := hj (i - lo) (by omega)
    rw [show lo + (i - lo) = i by omega] at this
    exact ⟨hz, this⟩
  · rw [if_neg hc]
    have q := hm i hi
    refine ⟨q.1, VR_look _ (fun k hk => ?_) q.2⟩
    have q1 : (i + 1) * sz ≤ n * sz := Nat.mul_le_mul_right sz hi
    have q2 : (i + 1) * sz = i * sz + sz := Nat.succ_mul ..
    rw [q.1] at hk
    rw [Nat.add_assoc]
    refine hs (i * sz + k) (by omega) ?_
    by_cases h1 : i < lo
    · left
      have q3 : (i + 1) * sz ≤ lo * sz := Nat.mul_le_mul_right sz h1
      omega
    · right
      have q3 : (lo + m) * sz ≤ i * sz := Nat.mul_le_mul_right sz (by omega)
      omega

/-- Whole numbers behind whole numbers. -/
theorem catOk_ints {k : IntKind} {n m : Nat} {g f : Nat → Int} {s : D} (hs : s = .arr m 1 fun i => .int k (f i)) : CatOk (.ints k n g) s (.ints k (n + m) fun i => if i < n then g i else f (i - n)) := by
  subst hs
  refine ⟨by simp [D.size], fun x L o h1 h2 i hi => ?_⟩
  by_cases h : i < n
  · simp only [h, if_true]; exact h1 i h
  · simp only [h, if_false]
    obtain ⟨_, u, k1, rfl, _⟩ := h2 (i - n) (by omega)
    rw [Nat.mul_one] at k1
    rw [← k1]; congr 1
    simp only [D.size]; omega

theorem catOk_arr {n m sz : Nat} {g f : Nat → D} {s : D} (hs : s = .arr m sz f) : CatOk (.arr n sz g) s (.arr (n + m) sz fun i => if i < n then g i else f (i - n)) := by
  subst hs
  refine ⟨by simp only [D.size, Nat.add_mul], fun x L o h1 h2 i hi => ?_⟩
  by_cases h : i < n
  · simp only [h, if_true]; exact h1 i h
  · simp only [h, if_false]
    have := h2 (i - n) (by omega)
    refine ⟨this.1, ?_⟩
    have e : o + (D.arr n sz g).size + (i - n) * sz = o + i * sz := by
      simp only [D.size]
      have : i * sz = (n + (i - n)) * sz := by congr 1; omega
      rw [this, Nat.add_mul]; omega
    rw [← e]; exact this.2

/-- Whole numbers behind whole numbers, which nobody writes any more. -/
theorem catOk_lit {k : IntKind} {n m : Nat} {g f : Nat → Int} {s : D} (hs : s = .arr m 1 fun i => .int k (f i)) : CatOk (.ints k n g) s (.arr (n + m) 1 fun i => .int k ((fun i => if i < n then g i else f (i - n)) i)) := by
  obtain ⟨h1, h2⟩ := catOk_ints (k := k) (n := n) (g := g) hs
  refine ⟨by rw [← h1]; simp [D.size], fun x L o a b i hi => ?_⟩
  have h3 := h2 x L o a b i hi
  rw [Nat.mul_one]
  exact ⟨rfl, _, h3, rfl, rfl⟩

theorem catOk_arr' {n m sz : Nat} {g f G : Nat → D} {s : D} (hs : s = .arr m sz f) (h : ∀ i, G i = if i < n then g i else f (i - n)) : CatOk (.arr n sz g) s (.arr (n + m) sz G) := by
  rw [show G = fun i => if i < n then g i else f (i - n) from funext h]
  exact catOk_arr hs

instance (n b : Nat) : Decidable (RoomOk n b) := inferInstanceAs (Decidable (_ ∧ _))

theorem bel_of {n r : Nat} (h : decide (r < n) = true) : Bel n r := of_decide_eq_true h

/-! ### Checks, calls -/

def chk {α : Type} (p : Prop) [Decidable p] (o : Option α) : Option α := if p then o else none

theorem chk_some {α : Type} {p : Prop} [Decidable p] {o : Option α} {r : α} (h : chk p o = some r) : p ∧ o = some r := by
  unfold chk at h
  split at h
  · exact ⟨‹_›, h⟩
  · cases h

/-- A call that is made only where a test says so. -/
def callIf {α : Type} (g : Bool) (x : Option α) (a : α) : Option α := match g with
  | true => x
  | false => some a

theorem callIf_some {α : Type} {g : Bool} {x : Option α} {a r : α} (h : callIf g x a = some r) (hg : g = true) : x = some r := by
  subst hg; exact h

/-- One of two. -/
def ifs {α : Type} (b : Bool) (x y : Option α) : Option α := match b with
  | true => x
  | false => y

theorem ifs_true {α : Type} {b : Bool} {x y : Option α} {r : α} (h : ifs b x y = some r) (hb : b = true) : x = some r := by subst hb; exact h
theorem ifs_false {α : Type} {b : Bool} {x y : Option α} {r : α} (h : ifs b x y = some r) (hb : b = false) : y = some r := by subst hb; exact h

/-! ### Loops -/

/-- What a round of a loop comes to: another round, an end of the loop, an end of what the loop stands in. -/
inductive Lo (S E R : Type) where
  | next (s : S)
  | exit (e : E)
  | ret (r : R)

def iter {S E R : Type} (f : S → Option (Lo S E R)) : Nat → S → Option (E ⊕ R)
  | 0, _ => none
  | k + 1, s => match f s with
    | none => none
    | some (.next s') => iter f k s'
    | some (.exit e) => some (.inl e)
    | some (.ret r) => some (.inr r)

def Lo.post {S E R : Type} (K : S → Prop) (X : E ⊕ R → Prop) : Lo S E R → Prop
  | .next s => K s
  | .exit e => X (.inl e)
  | .ret r => X (.inr r)

theorem iter_post {S E R : Type} {f : S → Option (Lo S E R)} {K : S → Prop} {X : E ⊕ R → Prop} (hb : ∀ s o, f s = some o → Lo.post K X o → K s) : ∀ (k : Nat) (s : S) (o : E ⊕ R), iter f k s = some o → X o → K s
  | 0, _, _, h, _ => by cases h
  | k + 1, s, o, h, hx => by
    unfold iter at h
    split at h
    · cases h
    · rename_i s' e; exact hb s _ e (iter_post hb k s' o h hx)
    · rename_i e' e; cases h; exact hb s _ e hx
    · rename_i r e; cases h; exact hb s _ e hx

def after {E R : Type} (x : Option (E ⊕ R)) (f : E → Option R) : Option R := match x with
  | none => none
  | some (.inl e) => f e
  | some (.inr r) => some r

theorem after_some {E R : Type} {x : Option (E ⊕ R)} {f : E → Option R} {o : R} (h : after x f = some o) : (∃ e, x = some (.inl e) ∧ f e = some o) ∨ x = some (.inr o) := by
  unfold after at h
  split at h
  · cases h
  · exact .inl ⟨_, rfl, h⟩
  · cases h; exact .inr rfl

end Go.Pod
