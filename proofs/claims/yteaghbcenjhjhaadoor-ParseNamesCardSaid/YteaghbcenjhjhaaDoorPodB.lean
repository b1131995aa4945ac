/- Rows of a call's own memory, and what it means that a piece of code runs from one reading of the machine to another. -/
import Derived.Test.YteaghbcenjhjhaaDoorPodA
import Derived.Test.YteaghbcenjhjhaaDoorPodGl
namespace Go.Pod
open Go

inductive Row where
  | box (d : D)
  | seq (e : TypeId) (n sz : Nat) (d : D)

abbrev Heap := List (Option Row)
abbrev Env := List (Nat × D)
abbrev Hnd := Nat → Option (Option Value)

def own (ρ : Hnd) (b : Nat) : Prop := ∃ r u, ρ r = some (some u) ∧ blkOf u = some b
def av (X : Nat → Prop) (ρ : Hnd) (b : Nat) : Prop := X b ∨ own ρ b
def cx (X : Nat → Prop) (ρ : Hnd) (w : World) : Cx := ⟨ρ, av X ρ, w⟩

/-- The cells of a block, which may all be written. -/
def Cel (w : World) (b : Nat) (cs : Array Value) (e : TypeId) : Prop := ∃ fz : Nat × Nat, w.heap[b]? = some (.cells cs e fz) ∧ (fz.1 = fz.2 ∨ cs.size ≤ fz.1)

theorem Cel.mk0 {w : World} {b : Nat} {cs : Array Value} {e : TypeId} (h : w.heap[b]? = some (.cells cs e (0, 0))) : Cel w b cs e := ⟨_, h, .inl rfl⟩
theorem Cel.to {w w' : World} {b : Nat} {cs : Array Value} {e : TypeId} (h : Cel w b cs e) (k : w'.heap[b]? = w.heap[b]?) : Cel w' b cs e := let ⟨fz, h1, h2⟩ := h; ⟨fz, k.trans h1, h2⟩
theorem Cel.lt {w : World} {b : Nat} {cs : Array Value} {e : TypeId} (h : Cel w b cs e) : b < w.heap.size := let ⟨_, h1, _⟩ := h; (Array.getElem?_eq_some_iff.1 h1).1
theorem Cel.cell {w : World} {b : Nat} {cs : Array Value} {e : TypeId} (h : Cel w b cs e) (i : Nat) : w.cell? ⟨b, i, none⟩ = cs[i]? := by
  obtain ⟨fz, h1, _⟩ := h
  simp [World.cell?, h1]
theorem Cel.fz {w : World} {b : Nat} {cs : Array Value} {e : TypeId} (h : Cel w b cs e) {i : Nat} (hi : i < cs.size) : w.frozen? ⟨b, i, none⟩ = false := by
  obtain ⟨fz, h1, h2⟩ := h
  have h3 : (decide (fz.1 ≤ i) && decide (i < fz.2)) = false := by
    rw [Bool.and_eq_false_iff, decide_eq_false_iff_not, decide_eq_false_iff_not]; omega
  simpa [World.frozen?, h1] using h3

def RowR (x : Cx) (u : Value) : Row → Prop
  | .box d => ∃ b cs e, u = .pointer (some ⟨b, 0, none⟩) ∧ Cel x.w b cs e ∧ cs.size = d.size ∧ (VR x d).m (fun i => cs[i]?) 0
  | .seq e n sz d => d.size = n * sz ∧ ((u = .slice none 0 0 ∧ n = 0 ∧ (VR x d).m (fun _ => none) 0) ∨
      ∃ b cap cur, u = .slice (some ⟨b, 0, none⟩) n cap ∧ Cel x.w b cur e ∧ n ≤ cap ∧ cap ≤ maxLen ∧ cur.size = cap * sz ∧ (VR x d).m (fun i => cur[i]?) 0)

/-- The variables that nobody writes lie in blocks that are no row's. -/
def Gl (ρ : Hnd) (w : World) : Prop := ∀ q, q ∈ Glob → ¬ own ρ q.1 ∧ ∃ cs e fz, w.heap[q.1]? = some (.cells cs e fz) ∧ q.2 cs

theorem Gl.less {ρ ρ' : Hnd} {w : World} (h : Gl ρ w) (k : ∀ b, own ρ' b → own ρ b) : Gl ρ' w := fun q hq => ⟨fun ho => (h q hq).1 (k _ ho), (h q hq).2⟩
theorem Gl.none {ρ : Hnd} {w : World} (h : Gl ρ w) : Gl (fun _ => Option.none) w := h.less fun _ ⟨_, _, e, _⟩ => by cases e

structure HRel (X : Nat → Prop) (ρ : Hnd) (h : Heap) (w : World) : Prop where
  live : ∀ r row, h[r]? = some (some row) → ∃ u, ρ r = some (some u) ∧ RowR (cx X ρ w) u row
  dead : ∀ r, h[r]? = some none → ρ r = none ∨ ρ r = some none
  past : ∀ r, h[r]? = none → ρ r = none
  inj : ∀ r r' u u' b, ρ r = some (some u) → ρ r' = some (some u') → blkOf u = some b → blkOf u' = some b → r = r'
  apart : ∀ b, own ρ b → ¬ X b
  old : ∀ b, X b → b < w.heap.size
  gl : Gl ρ w

/-- What a run may do to memory: write the rows of the call's own, lay new blocks; of the rows S it keeps or forgets the handles. -/
structure Step (S : Nat → Prop) (ρ : Hnd) (w : World) (ρ' : Hnd) (w' : World) : Prop where
  os : w'.os = w.os
  tape : w'.tape = w.tape
  output : w'.output = w.output
  drawn : Drawing → w.drawn ≤ w'.drawn
  size : w.heap.size ≤ w'.heap.size
  block : ∀ b, b < w.heap.size → ¬ own ρ b → w'.heap[b]? = w.heap[b]?
  rho : ∀ r, S r → ρ r = none ∨ ρ' r = some none ∨ ρ' r = ρ r
  owns : ∀ b, own ρ' b → own ρ b ∨ w.heap.size ≤ b

theorem Gl.step {S : Nat → Prop} {ρ ρ' : Hnd} {w w' : World} (h : Gl ρ w) (st : Step S ρ w ρ' w') : Gl ρ' w' := fun q hq => by
  obtain ⟨h1, cs, e, fz, h2, h3⟩ := h q hq
  have hlt : q.1 < w.heap.size := (Array.getElem?_eq_some_iff.1 h2).1
  exact ⟨fun ho => (st.owns _ ho).elim h1 fun hs => absurd hlt (by omega), cs, e, fz, (st.block _ hlt h1).trans h2, h3⟩

theorem Step.refl (S : Nat → Prop) (ρ : Hnd) (w : World) : Step S ρ w ρ w := ⟨rfl, rfl, rfl, fun _ => Nat.le_refl _, Nat.le_refl _, fun _ _ _ => rfl, fun _ _ => .inr (.inr rfl), fun _ h => .inl h⟩

theorem Step.le {S : Nat → Prop} {X : Nat → Prop} {ρ ρ' : Hnd} {w w' : World} (h : Step S ρ w ρ' w') : (cx X ρ w).leS S (cx X ρ' w') where
  ρ := fun r hr => h.rho r hr
  av := fun b hb => hb.elim (fun hx => .inl (.inl hx)) fun ho => (h.owns b ho).imp .inr id
  size := h.size
  block := fun b hb hn => h.block b hb fun ho => hn (.inr ho)

theorem Step.trans {S : Nat → Prop} {ρ ρ' ρ'' : Hnd} {w w' w'' : World} (h : Step S ρ w ρ' w') (k : Step S ρ' w' ρ'' w'') : Step S ρ w ρ'' w'' where
  os := k.os.trans h.os
  tape := k.tape.trans h.tape
  output := k.output.trans h.output
  drawn := fun g => Nat.le_trans (h.drawn g) (k.drawn g)
  size := Nat.le_trans h.size k.size
  block := fun b hb hn => (k.block b (Nat.lt_of_lt_of_le hb h.size) fun ho => (h.owns b ho).elim hn (by omega)).trans (h.block b hb hn)
  rho := fun r hr => by
    rcases h.rho r hr with e | e | e <;> rcases k.rho r hr with e' | e' | e'
    · exact .inl e
    · exact .inl e
    · exact .inl e
    · rw [e'] at e; cases e
    · exact .inr (.inl e')
    · exact .inr (.inl (e'.trans e))
    · exact .inl (e.symm.trans e')
    · exact .inr (.inl e')
    · exact .inr (.inr (e'.trans e))
  owns := fun b hb => (k.owns b hb).elim (h.owns b) fun e => .inr (Nat.le_trans h.size e)

theorem Step.mono {S S' : Nat → Prop} {ρ ρ' : Hnd} {w w' : World} (h : Step S ρ w ρ' w') (hs : ∀ r, S' r → S r) : Step S' ρ w ρ' w' := { h with rho := fun r hr => h.rho r (hs r hr) }

abbrev Full : Nat → Prop := fun _ => True
abbrev Bel (n : Nat) : Nat → Prop := fun r => r < n

/-- The frame's slots read as the environment says. -/
def ERel (x : Cx) (env : Env) (tmps : Array Value) : Prop := ∀ t d, (t, d) ∈ env → t < tmps.size ∧ (VR x d).v (tmps.getD t undef)

theorem ERel.le {x y : Cx} (h : x.le y) {env : Env} {tmps : Array Value} (he : ERel x env tmps) : ERel y env tmps := fun t d hm => ⟨(he t d hm).1, (VR_le h d).v _ (he t d hm).2⟩

def get (env : Env) (t : Nat) : Option D :=
  match env with
  | [] => none
  | (u, d) :: r => if u = t then some d else get r t

def drop1 (t : Nat) : Env → Env
  | [] => []
  | (u, d) :: r => if u = t then drop1 t r else (u, d) :: drop1 t r

def put (env : Env) (t : Nat) (d : D) : Env := (t, d) :: drop1 t env

theorem get_mem {env : Env} {t : Nat} {d : D} (h : get env t = some d) : (t, d) ∈ env := by
  induction env with
  | nil => cases h
  | cons e r ih =>
    obtain ⟨u, d'⟩ := e
    simp only [get] at h
    split at h
    · rename_i hu; subst hu; cases h; exact List.mem_cons_self ..
    · exact List.mem_cons_of_mem _ (ih h)

theorem mem_drop1 {t u : Nat} {d : D} {env : Env} (h : (u, d) ∈ drop1 t env) : (u, d) ∈ env ∧ u ≠ t := by
  induction env with
  | nil => cases h
  | cons e r ih =>
    obtain ⟨v, d'⟩ := e
    simp only [drop1] at h
    split at h
    · exact ⟨List.mem_cons_of_mem _ (ih h).1, (ih h).2⟩
    · rename_i hv
      rcases List.mem_cons.1 h with h | h
      · cases h; exact ⟨List.mem_cons_self .., hv⟩
      · exact ⟨List.mem_cons_of_mem _ (ih h).1, (ih h).2⟩

theorem getD_set_self {tmps : Array Value} {t : Nat} {v : Value} (h : t < tmps.size) : (tmps.setIfInBounds t v).getD t undef = v := by
  simp [Array.getD_eq_getD_getElem?, h]
theorem getD_set_other {tmps : Array Value} {t u : Nat} {v : Value} (h : u ≠ t) : (tmps.setIfInBounds t v).getD u undef = tmps.getD u undef := by
  simp [Array.getD_eq_getD_getElem?, Ne.symm h]

theorem ERel.put {x : Cx} {env : Env} {tmps : Array Value} (h : ERel x env tmps) {t : Nat} (ht : t < tmps.size) {d : D} {v : Value} (hv : (VR x d).v v) : ERel x (Pod.put env t d) (tmps.setIfInBounds t v) := by
  intro u e hm
  rcases List.mem_cons.1 hm with hm | hm
  · cases hm; exact ⟨by simpa using ht, by rw [getD_set_self ht]; exact hv⟩
  · have ⟨h1, h2⟩ := mem_drop1 hm
    exact ⟨by simpa using (h u e h1).1, by rw [getD_set_other h2]; exact (h u e h1).2⟩

/-- A slot that is written and of which nothing is known. -/
theorem ERel.lose {x : Cx} {env : Env} {tmps : Array Value} (h : ERel x env tmps) (t : Nat) (v : Value) : ERel x (drop1 t env) (tmps.setIfInBounds t v) := by
  intro u e hm
  have ⟨h1, h2⟩ := mem_drop1 hm
  exact ⟨by simpa using (h u e h1).1, by rw [getD_set_other h2]; exact (h u e h1).2⟩

theorem ERel.sub {x : Cx} {env env' : Env} {tmps : Array Value} (h : ERel x env tmps) (hs : ∀ t d, (t, d) ∈ env' → (t, d) ∈ env) : ERel x env' tmps := fun t d hm => h t d (hs t d hm)

/-! ### Contracts -/

def VRs (x : Cx) (args : List D) (vs : Array Value) : Prop := vs.size = args.length ∧ ∀ i d, args[i]? = some d → (VR x d).v (vs.getD i undef)

/-- Called with what reads as 'args' over rows that read as 'h', the function hands back what reads as 'd', over rows that read as 'h''. -/
def FC (P : Program) (f : FuncId) (args : List D) (h : Heap) (d : D) (h' : Heap) : Prop :=
  ∀ (X : Nat → Prop) (ρ : Hnd) (vs : Array Value) (w : World), HRel X ρ h w → VRs (cx X ρ w) args vs →
    Calls P f vs w fun e w' => ∃ v ρ', e = .returned v ∧ HRel X ρ' h' w' ∧ Step (Bel h.length) ρ w ρ' w' ∧ (VR (cx X ρ' w') d).v v

/-- From here on the code comes to its end: what it hands back reads as 'd'. -/
def Runs (P : Program) (fn : Func) (n : Nat) (T : List Item) (env : Env) (h : Heap) (d : D) (h' : Heap) : Prop :=
  ∀ (X : Nat → Prop) (ρ : Hnd) (a : Act) (w : World) (b : Frame) (cs : List Frame), HRel X ρ h w → ERel (cx X ρ w) env a.tmps → a.defers = [] → fn.ntmps ≤ a.tmps.size →
    ∃ a' w' ρ' T' v, Steps P (lone (b.at a T) cs w) (lone { b.at a' T' with mode := .returning } cs w') ∧ a'.defers = [] ∧
      (results fn a'.tmps).run P w' = .ok v w' ∧ HRel X ρ' h' w' ∧ Step (Bel n) ρ w ρ' w' ∧ (VR (cx X ρ' w') d).v v

def argsEnv (args : List D) : Nat → Env
  | i => match args with
    | [] => []
    | d :: r => (i, d) :: argsEnv r (i + 1)

theorem mem_argsEnv {t : Nat} {d : D} : ∀ {args : List D} {i : Nat}, (t, d) ∈ argsEnv args i → ∃ j, t = i + j ∧ args[j]? = some d
  | [], _, h => by cases h
  | e :: r, i, h => by
    rcases List.mem_cons.1 h with h | h
    · cases h; exact ⟨0, rfl, rfl⟩
    · obtain ⟨j, h1, h2⟩ := mem_argsEnv h
      exact ⟨j + 1, by omega, by simpa using h2⟩

theorem fc_of_runs {P : Program} {f : FuncId} {fn : Func} {c : Code} {args : List D} {h : Heap} {d : D} {h' : Heap} (hf : P.funcs[f]? = some fn) (hb : fn.body = some c)
    (hr : Runs P fn h.length [.code c] (argsEnv args 0) h d h') : FC P f args h d h' := by
  intro X ρ vs w hh hv cs
  let b : Frame := { (default : Frame) with fn := f, kind := .normal }
  have henter : Frame.enter P f vs .normal = b.at { tmps := vs ++ Array.replicate (fn.ntmps - vs.size) undef, defers := [] } [.code c] := by
    simp [Frame.enter, Frame.at, hf, hb, b]
  obtain ⟨a', w', ρ', T', v, hs, hd, hres, hh', hst, hvr⟩ := hr X ρ { tmps := vs ++ Array.replicate (fn.ntmps - vs.size) undef, defers := [] } w b cs hh (by
    intro t e hm
    obtain ⟨j, rfl, hj⟩ := mem_argsEnv hm
    have hlt : j < args.length := by
      rcases Nat.lt_or_ge j args.length with h | h
      · exact h
      · rw [List.getElem?_eq_none h] at hj; cases hj
    have hlt' : j < vs.size := hv.1 ▸ hlt
    refine ⟨by simp; omega, ?_⟩
    have := hv.2 j e hj
    simpa [Array.getD_eq_getD_getElem?, Array.getElem?_append_left hlt'] using this) rfl (by simp; omega)
  rw [← henter] at hs
  exact ⟨.returned v, w', _, ⟨v, ρ', rfl, hh', hst, hvr⟩, hs, rfl, rfl, hd, rfl, fn, hf, hres⟩

theorem Runs.steps {P : Program} {fn : Func} {n : Nat} {T T' : List Item} {env : Env} {h : Heap} {d : D} {h' : Heap}
    (hs : ∀ (a : Act) (w : World) (b : Frame) (cs : List Frame), Steps P (lone (b.at a T) cs w) (lone (b.at a T') cs w)) (hr : Runs P fn n T' env h d h') : Runs P fn n T env h d h' := by
  intro X ρ a w b cs hh he hd hn
  obtain ⟨a', w', ρ', T'', v, k, rest⟩ := hr X ρ a w b cs hh he hd hn
  exact ⟨a', w', ρ', T'', v, (hs a w b cs).trans k, rest⟩

/-! ### Code that only leads on -/

def norm1 : List Item → Option (List Item)
  | .code .skip :: k => some k
  | .code (.label _) :: k => some k
  | .inBlock _ :: k => some k
  | .inScope _ :: k => some k
  | .code (.seq a b) :: k => some (.code a :: .code b :: k)
  | .code (.block id c) :: k => some (.code c :: .inBlock id :: k)
  | .code (.loop c) :: k => some (.code c :: .inLoop c :: k)
  | .inLoop c :: k => some (.code c :: .inLoop c :: k)
  | .code (.scope c) :: k => some (.code c :: .inScope c :: k)
  | .code (.exit id) :: k => exitTo id k
  | .code (.goto l) :: k => gotoIn l k
  | .inRegion _ [] :: k => some k
  | _ => none

def norm : Nat → List Item → List Item
  | 0, T => T
  | n + 1, T => match norm1 T with
    | some T' => norm n T'
    | none => T

theorem pstep_inScope (P : Program) {b : Frame} {a : Act} {k : List Item} {cs : List Frame} {w : World} {c : Code} : step P (lone (b.at a (.inScope c :: k)) cs w) = .next (lone (b.at a k) cs w) :=
  step_lone_go (by simp [stepG, stepG.exec, Frame.at])
theorem pstep_scope (P : Program) {b : Frame} {a : Act} {k : List Item} {cs : List Frame} {w : World} {c : Code} : step P (lone (b.at a (.code (.scope c) :: k)) cs w) = .next (lone (b.at a (.code c :: .inScope c :: k)) cs w) :=
  step_lone_go (by simp [stepG, stepG.exec, Frame.at])

theorem norm1_step {P : Program} {T T' : List Item} (h : norm1 T = some T') (a : Act) (w : World) (b : Frame) (cs : List Frame) : step P (lone (b.at a T) cs w) = .next (lone (b.at a T') cs w) := by
  unfold norm1 at h
  split at h
  · cases h; exact step_skip
  · cases h; exact step_label
  · cases h; exact step_inBlock
  · cases h; exact pstep_inScope P
  · cases h; exact step_seq
  · cases h; exact step_block
  · cases h; exact step_loop
  · cases h; exact step_inLoop
  · cases h; exact pstep_scope P
  · exact step_exit h
  · exact step_goto h
  · cases h; exact step_region_end
  · cases h

theorem norm_steps {P : Program} : ∀ (n : Nat) (T : List Item) (a : Act) (w : World) (b : Frame) (cs : List Frame), Steps P (lone (b.at a T) cs w) (lone (b.at a (norm n T)) cs w)
  | 0, T, a, w, b, cs => .refl _ _
  | n + 1, T, a, w, b, cs => by
    unfold norm
    split
    · rename_i T' h; exact .head (norm1_step h a w b cs) (norm_steps n T' a w b cs)
    · exact .refl _ _

theorem runs_norm {P : Program} {fn : Func} {n : Nat} {T T' : List Item} {env : Env} {h : Heap} {d : D} {h' : Heap} (k : Nat) (e : norm k T = T') (hr : Runs P fn n T' env h d h') : Runs P fn n T env h d h' :=
  Runs.steps (fun a w b cs => e ▸ norm_steps k T a w b cs) hr

/-! ### Rows that nobody asks for any more -/

def Row.d : Row → D
  | .box d => d
  | .seq _ _ _ d => d

/-- 'h2' is 'h' with some rows forgotten, some at the end struck. -/
def HSub : Heap → Heap → Prop
  | _, [] => True
  | r :: h, r2 :: h2 => (r2 = none ∨ r2 = r) ∧ HSub h h2
  | [], _ :: _ => False

def EIn (S : Nat → Prop) : Env → Prop
  | [] => True
  | (_, d) :: r => d.In S ∧ EIn S r

def HIn (S : Nat → Prop) : Heap → Prop
  | [] => True
  | none :: r => HIn S r
  | some row :: r => row.d.In S ∧ HIn S r

theorem HSub.at : ∀ {h h2 : Heap} (_ : HSub h h2) (r : Nat) (q : Option Row), h2[r]? = some q → q = none ∨ h[r]? = some q
  | [], [], _, r, q, e => by simp at e
  | [], _ :: _, hs, _, _, _ => hs.elim
  | _ :: _, [], _, r, q, e => by simp at e
  | a :: h, b :: h2, hs, 0, q, e => by
    simp only [List.getElem?_cons_zero, Option.some.injEq] at e ⊢
    subst e
    exact hs.1.imp id Eq.symm
  | a :: h, b :: h2, hs, r + 1, q, e => by
    simp only [List.getElem?_cons_succ] at e ⊢
    exact hs.2.at r q e

theorem HIn.at {S : Nat → Prop} : ∀ {h : Heap} (_ : HIn S h) (r : Nat) (row : Row), h[r]? = some (some row) → row.d.In S
  | [], _, r, row, e => by simp at e
  | none :: h, hs, 0, row, e => by simp at e
  | none :: h, hs, r + 1, row, e => by simp only [List.getElem?_cons_succ] at e; exact HIn.at (h := h) hs r row e
  | some q :: h, hs, 0, row, e => by simp only [List.getElem?_cons_zero, Option.some.injEq] at e; subst e; exact hs.1
  | some q :: h, hs, r + 1, row, e => by simp only [List.getElem?_cons_succ] at e; exact HIn.at (h := h) hs.2 r row e

theorem EIn.at {S : Nat → Prop} : ∀ {env : Env} (_ : EIn S env) (t : Nat) (d : D), (t, d) ∈ env → d.In S
  | [], _, _, _, h => by cases h
  | (u, e) :: r, hs, t, d, h => by
    rcases List.mem_cons.1 h with h | h
    · cases h; exact hs.1
    · exact EIn.at hs.2 t d h

theorem RowR_le {S : Nat → Prop} {x y : Cx} (h : x.leS S y) (hw : y.w = x.w) {u : Value} {row : Row} (hr : row.d.In S) (k : RowR x u row) : RowR y u row := by
  cases row with
  | box d =>
    obtain ⟨b, cs, e, h1, h2, h3, h4⟩ := k
    exact ⟨b, cs, e, h1, hw ▸ h2, h3, (VR_leS h d hr).m _ _ h4⟩
  | seq e n sz d =>
    refine ⟨k.1, k.2.imp (fun ⟨h1, h2, h3⟩ => ⟨h1, h2, (VR_leS h d hr).m _ _ h3⟩) ?_⟩
    rintro ⟨b, cap, cur, h1, h2, h3, h4, h5, h6⟩
    exact ⟨b, cap, cur, h1, hw ▸ h2, h3, h4, h5, (VR_leS h d hr).m _ _ h6⟩

/-- The handles of what is left. -/
def gcρ (ρ : Hnd) (h2 : Heap) : Hnd := fun r => match h2[r]? with
  | some (some _) => ρ r
  | some none => some none
  | none => none

theorem own_gc {ρ : Hnd} {h2 : Heap} {b : Nat} (h : own (gcρ ρ h2) b) : own ρ b := by
  obtain ⟨r, u, h1, h2'⟩ := h
  unfold gcρ at h1
  split at h1
  · exact ⟨r, u, h1, h2'⟩
  · cases h1
  · cases h1

theorem gc_leS {X : Nat → Prop} {ρ : Hnd} {h2 : Heap} {w : World} : (cx X ρ w).leS (Bel h2.length) (cx X (gcρ ρ h2) w) where
  ρ := fun r hr => by
    show _ ∨ gcρ ρ h2 r = some none ∨ gcρ ρ h2 r = ρ r
    unfold gcρ
    rw [List.getElem?_eq_getElem hr]
    cases h2[r] with
    | none => exact .inr (.inl rfl)
    | some row => exact .inr (.inr rfl)
  av := fun b hb => .inl (hb.imp id own_gc)
  size := Nat.le_refl _
  block := fun _ _ _ => rfl

theorem HRel.gc {X : Nat → Prop} {ρ : Hnd} {h h2 : Heap} {w : World} (hh : HRel X ρ h w) (hs : HSub h h2) (hi : HIn (Bel h2.length) h2) : HRel X (gcρ ρ h2) h2 w where
  live := fun r row e => by
    have e1 : h[r]? = some (some row) := (hs.at r _ e).resolve_left (by simp)
    obtain ⟨u, h1, h2'⟩ := hh.live r row e1
    refine ⟨u, by simp only [gcρ, e]; exact h1, RowR_le gc_leS rfl (hi.at r row e) h2'⟩
  dead := fun r e => .inr (by simp [gcρ, e])
  past := fun r e => by simp [gcρ, e]
  inj := fun r r' u u' b h1 h2' h3 h4 => by
    have f : ∀ r u, gcρ ρ h2 r = some (some u) → ρ r = some (some u) := fun r u e => by
      unfold gcρ at e
      split at e
      · exact e
      · cases e
      · cases e
    exact hh.inj r r' u u' b (f _ _ h1) (f _ _ h2') h3 h4
  apart := fun b hb => hh.apart b (own_gc hb)
  old := hh.old
  gl := hh.gl.less fun _ ho => own_gc ho

theorem Step.gc {S : Nat → Prop} {ρ : Hnd} {h2 : Heap} {w : World} (hS : ∀ r, S r → r < h2.length) : Step S ρ w (gcρ ρ h2) w where
  os := rfl
  tape := rfl
  output := rfl
  drawn := fun _ => Nat.le_refl _
  size := Nat.le_refl _
  block := fun _ _ _ => rfl
  rho := fun r hr => (gc_leS (X := fun _ => False) (ρ := ρ) (h2 := h2) (w := w)).ρ r (hS r hr)
  owns := fun _ hb => .inl (own_gc hb)

/-- Less is asked of what follows: fewer slots, fewer rows. -/
theorem runs_less {P : Program} {fn : Func} {n : Nat} {T : List Item} {env env2 : Env} {h h2 : Heap} {d : D} {h' : Heap} (he : ∀ t d, (t, d) ∈ env2 → (t, d) ∈ env) (hs : HSub h h2) (hn : n ≤ h2.length)
    (hi : HIn (Bel h2.length) h2) (hei : EIn (Bel h2.length) env2) (hr : Runs P fn n T env2 h2 d h') : Runs P fn n T env h d h' := by
  intro X ρ a w b cs hh hE hd hnt
  obtain ⟨a', w', ρ', T', v, k1, k2, k3, k4, k5, k6⟩ := hr X (gcρ ρ h2) a w b cs (hh.gc hs hi) (fun t e hm => ⟨(hE t e (he t e hm)).1, (VR_leS gc_leS e (hei.at t e hm)).v _ (hE t e (he t e hm)).2⟩) hd hnt
  exact ⟨a', w', ρ', T', v, k1, k2, k3, k4, (Step.gc fun r hr => Nat.lt_of_lt_of_le hr hn).trans k5, k6⟩

/-! ### Tests -/

def opd (env : Env) : Operand → Option D
  | .tmp t => get env t
  | .const (.bool b) => some (.bool b)
  | .const (.int k n) => some (.int k n)
  | .const (.string s) => some (.str s)
  | .const (.pointer none) => some .nilp
  | .const (.slice none 0 0) => some .nils
  | .const .nilFunc => some .nilf
  | .const .nilIface => some (.err true)
  | .func f => some (.fn f .nil)
  | _ => none

theorem opd_v {x : Cx} {env : Env} {a : Act} (he : ERel x env a.tmps) {o : Operand} {d : D} (h : opd env o = some d) : (VR x d).v (a.eval o) := by
  unfold opd at h
  split at h
  · exact (he _ _ (get_mem h)).2
  · cases h; exact ⟨rfl, rfl⟩
  · cases h; exact ⟨rfl, rfl⟩
  · cases h; exact ⟨rfl, rfl⟩
  · cases h; exact ⟨rfl, rfl⟩
  · cases h; exact ⟨rfl, rfl⟩
  · cases h; exact ⟨rfl, rfl⟩
  · cases h; exact ⟨rfl, rfl⟩
  · cases h; exact ⟨⟨#[], rfl, rfl⟩, rfl⟩
  · cases h

def condOf : List Item → Option (Operand × List Item × List Item)
  | .code (.cond c x y) :: k => some (c, norm 200 (.code x :: k), norm 200 (.code y :: k))
  | _ => none

theorem runs_cond {P : Program} {fn : Func} {n : Nat} {T T1 T2 : List Item} {env : Env} {h : Heap} {d : D} {h' : Heap} {c : Operand} {b : Bool} (hc : condOf T = some (c, T1, T2)) (he : opd env c = some (.bool b))
    (h1 : b = true → Runs P fn n T1 env h d h') (h2 : b = false → Runs P fn n T2 env h d h') : Runs P fn n T env h d h' := by
  unfold condOf at hc
  split at hc
  · rename_i c' x y k
    simp only [Option.some.injEq, Prod.mk.injEq] at hc
    obtain ⟨rfl, rfl, rfl⟩ := hc
    intro X ρ a w bf cs hh hE hd hnt
    have hv : a.eval c' = .bool b := (opd_v hE he).1
    have hs := step_cond (P := P) (b := bf) (a := a) (k := k) (cs := cs) (w := w) (x := x) (y := y) hv
    cases b with
    | true =>
      obtain ⟨a', w', ρ', T', v, k1, rest⟩ := h1 rfl X ρ a w bf cs hh hE hd hnt
      exact ⟨a', w', ρ', T', v, .head hs ((norm_steps 200 _ a w bf cs).trans k1), rest⟩
    | false =>
      obtain ⟨a', w', ρ', T', v, k1, rest⟩ := h2 rfl X ρ a w bf cs hh hE hd hnt
      exact ⟨a', w', ρ', T', v, .head hs ((norm_steps 200 _ a w bf cs).trans k1), rest⟩
  · cases hc

end Go.Pod
