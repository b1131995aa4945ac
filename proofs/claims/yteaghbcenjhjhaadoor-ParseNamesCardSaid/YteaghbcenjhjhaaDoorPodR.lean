/- Regions that draw their order: one reading in the lexical order serves every order. -/
import Derived.Test.YteaghbcenjhjhaaDoorPodQ
namespace Go.Pod
open Go

/-! ### Which operations wait for which -/

def maskE (acc : List Nat) (m : Nat) (e : Edge) : Nat := if Region.binds .any e = true then (m ||| 2 ^ e.on) ||| acc.getD e.on 0 else m
def maskOf (acc : List Nat) (o : Oper) : Nat := o.after.toList.foldl (maskE acc) 0
def ancs : List Oper → List Nat → List Nat
  | [], acc => acc
  | o :: r, acc => ancs r (acc ++ [maskOf acc o])

def Waits (ops : Array Oper) (S : Nat → Bool) (i : Nat) : Prop := ∀ o, ops[i]? = some o → ∀ e ∈ o.after, Region.binds .any e = true → S e.on = true
def Closed (ops : Array Oper) (S : Nat → Bool) : Prop := ∀ i, S i = true → Waits ops S i

def AncOk (ops : Array Oper) (acc : List Nat) : Prop := ∀ (k m : Nat), acc[k]? = some m → ∀ S, Closed ops S → Waits ops S k → ∀ j, m.testBit j = true → S j = true

theorem maskE_ok {ops : Array Oper} {acc : List Nat} (ha : AncOk ops acc) {S : Nat → Bool} (hc : Closed ops S) : ∀ (l : List Edge) (m : Nat), (∀ e ∈ l, Region.binds .any e = true → S e.on = true) → (∀ j, m.testBit j = true → S j = true) → ∀ j, (l.foldl (maskE acc) m).testBit j = true → S j = true
  | [], m, _, hm, j, h => hm j h
  | e :: l, m, he, hm, j, h => by
    refine maskE_ok ha hc l _ (fun e' h' => he e' (List.mem_cons_of_mem _ h')) (fun j' h' => ?_) j h
    unfold maskE at h'
    split at h'
    · rename_i hb
      have hs := he e (List.mem_cons_self ..) hb
      simp only [Nat.testBit_or, Bool.or_eq_true, Nat.testBit_two_pow, decide_eq_true_eq] at h'
      rcases h' with (h' | h') | h'
      · exact hm j' h'
      · rw [← h']; exact hs
      · cases hk : acc[e.on]? with
        | none => simp [List.getD, hk] at h'
        | some m' =>
          rw [show acc.getD e.on 0 = m' by simp [List.getD, hk]] at h'
          exact ha e.on m' hk S hc (hc _ hs) j' h'
    · exact hm j' h'

theorem ancs_ok {ops : Array Oper} : ∀ (l : List Oper) (acc : List Nat), (∀ j, j < l.length → l[j]? = ops[acc.length + j]?) → AncOk ops acc → AncOk ops (ancs l acc)
  | [], acc, _, h => h
  | o :: l, acc, hl, h => by
    refine ancs_ok l _ (fun j hj => ?_) fun k m hk S hc hw j hj => ?_
    · have := hl (j + 1) (by simpa using hj)
      simp only [List.getElem?_cons_succ] at this
      rw [this]; congr 1; simp; omega
    · rcases Nat.lt_or_ge k acc.length with h' | h'
      · rw [List.getElem?_append_left h'] at hk
        exact h k m hk S hc hw j hj
      · rw [List.getElem?_append_right h'] at hk
        have h0 : k = acc.length := by
          have := getElem?_lt hk
          simp at this; omega
        subst h0
        simp only [Nat.sub_self, List.getElem?_cons_zero, Option.some.injEq] at hk
        subst hk
        have ho : ops[acc.length]? = some o := by simpa using (hl 0 (by simp)).symm
        exact maskE_ok h hc _ 0 (fun e he hb => hw o ho e (by simpa using he) hb) (fun j' h' => by simp at h') j hj

theorem anc_spec {ops : Array Oper} : AncOk ops (ancs ops.toList []) := ancs_ok _ _ (fun j _ => by simp) fun k m e => by simp at e

/-! ### Events -/

structure Ev where
  dst : Option Nat
  d : Option D
  h : Option Heap

def cur (S : Nat → Bool) (t : Nat) : Nat → List Ev → Option D → Option D
  | _, [], b => b
  | k, e :: r, b => cur S t (k + 1) r (if S k = true ∧ e.dst = some t then e.d else b)

def curH (S : Nat → Bool) : Nat → List Ev → Heap → Heap
  | _, [], b => b
  | k, e :: r, b => curH S (k + 1) r (match e.h with
    | some h' => if S k = true then h' else b
    | none => b)

theorem cur_congr {S S' : Nat → Bool} {t : Nat} : ∀ (l : List Ev) (k : Nat) (b : Option D), (∀ i e, l[i]? = some e → e.dst = some t → S (k + i) = S' (k + i)) → cur S t k l b = cur S' t k l b
  | [], _, _, _ => rfl
  | e :: l, k, b, h => by
    have h0 : (if S k = true ∧ e.dst = some t then e.d else b) = (if S' k = true ∧ e.dst = some t then e.d else b) := by
      by_cases he : e.dst = some t
      · rw [show S k = S' k by simpa using h 0 e rfl he]
      · simp [he]
    simp only [cur, h0]
    exact cur_congr l (k + 1) _ fun i e' hi he => by
      have := h (i + 1) e' (by simpa using hi) he
      rwa [show k + (i + 1) = k + 1 + i by omega] at this

theorem cur_append {S : Nat → Bool} {t : Nat} : ∀ (l m : List Ev) (k : Nat) (b : Option D), cur S t k (l ++ m) b = cur S t (k + l.length) m (cur S t k l b)
  | [], _, _, _ => rfl
  | e :: l, m, k, b => by
    simp only [List.cons_append, cur, List.length_cons]
    rw [cur_append l m (k + 1)]
    congr 1; omega

theorem cur_none {S : Nat → Bool} {t : Nat} : ∀ (l : List Ev) (k : Nat) (b : Option D), (∀ i e, l[i]? = some e → e.dst = some t → S (k + i) = false) → cur S t k l b = b
  | [], _, _, _ => rfl
  | e :: l, k, b, h => by
    have h0 : (if S k = true ∧ e.dst = some t then e.d else b) = b := by
      by_cases he : e.dst = some t
      · have := h 0 e rfl he
        simp only [Nat.add_zero] at this
        simp [this]
      · simp [he]
    simp only [cur, h0]
    exact cur_none l (k + 1) _ fun i e' hi he => by
      have := h (i + 1) e' (by simpa using hi) he
      rwa [show k + (i + 1) = k + 1 + i by omega] at this

theorem curH_congr {S S' : Nat → Bool} : ∀ (l : List Ev) (k : Nat) (b : Heap), (∀ i e, l[i]? = some e → e.h ≠ none → S (k + i) = S' (k + i)) → curH S k l b = curH S' k l b
  | [], _, _, _ => rfl
  | e :: l, k, b, h => by
    have h0 : (match e.h with | some h' => if S k = true then h' else b | none => b) = (match e.h with | some h' => if S' k = true then h' else b | none => b) := by
      split
      · rename_i h' he
        rw [show S k = S' k by simpa using h 0 e rfl (by rw [he]; simp)]
      · rfl
    simp only [curH]
    rw [h0]
    exact curH_congr l (k + 1) _ fun i e' hi he => by
      have := h (i + 1) e' (by simpa using hi) he
      rwa [show k + (i + 1) = k + 1 + i by omega] at this

theorem curH_append {S : Nat → Bool} : ∀ (l m : List Ev) (k : Nat) (b : Heap), curH S k (l ++ m) b = curH S (k + l.length) m (curH S k l b)
  | [], _, _, _ => rfl
  | e :: l, m, k, b => by
    simp only [List.cons_append, curH, List.length_cons]
    rw [curH_append l m (k + 1)]
    congr 1; omega

theorem curH_none {S : Nat → Bool} : ∀ (l : List Ev) (k : Nat) (b : Heap), (∀ i e, l[i]? = some e → e.h ≠ none → S (k + i) = false) → curH S k l b = b
  | [], _, _, _ => rfl
  | e :: l, k, b, h => by
    have h0 : (match e.h with | some h' => if S k = true then h' else b | none => b) = b := by
      split
      · rename_i h' he
        have := h 0 e rfl (by rw [he]; simp)
        simp only [Nat.add_zero] at this
        simp [this]
      · rfl
    simp only [curH]
    rw [h0]
    exact curH_none l (k + 1) _ fun i e' hi he => by
      have := h (i + 1) e' (by simpa using hi) he
      rwa [show k + (i + 1) = k + 1 + i by omega] at this

/-- Rows as they are where only 'A' has been carried out, and where 'S' has: the changes come in one order, of which both have a beginning. -/
theorem curH_rel {c : Nat} {A S L : Nat → Bool} : ∀ (l : List Ev) (k : Nat) (bA bS bL : Heap),
    (∀ i e, l[i]? = some e → e.h ≠ none → L (k + i) = true ∧ (A (k + i) = true → S (k + i) = true)) →
    (∀ i i' e e', i < i' → l[i]? = some e → l[i']? = some e' → e.h ≠ none → e'.h ≠ none → (S (k + i') = true → S (k + i) = true) ∧ (A (k + i') = true → A (k + i) = true)) →
    (∀ i e h', l[i]? = some e → e.h = some h' → S (k + i) = true → A (k + i) = false → Rel c (curH L k (l.take i) bL) h') →
    ((bA = bS ∧ bS = bL) ∨ (bS = bL ∧ Rel c bA bS ∧ ∀ i e, l[i]? = some e → e.h ≠ none → A (k + i) = false) ∨ (Rel c bA bS ∧ ∀ i e, l[i]? = some e → e.h ≠ none → A (k + i) = false ∧ S (k + i) = false)) →
    Rel c (curH A k l bA) (curH S k l bS)
  | [], k, bA, bS, bL, _, _, _, h => by
    rcases h with ⟨rfl, _⟩ | ⟨_, h, _⟩ | ⟨h, _⟩
    · exact Rel.refl c _
    · exact h
    · exact h
  | e :: l, k, bA, bS, bL, h1, h2, h3, h => by
    have sh : ∀ (i : Nat), k + (i + 1) = k + 1 + i := fun i => by omega
    rcases h with ⟨rfl, rfl⟩ | ⟨rfl, hr, hA⟩ | ⟨hr, hAS⟩
    case inr.inr =>
      have ha : curH A k (e :: l) bA = bA := curH_none _ _ _ fun i e' hi he => (hAS i e' hi he).1
      have hs : curH S k (e :: l) bS = bS := curH_none _ _ _ fun i e' hi he => (hAS i e' hi he).2
      rw [ha, hs]; exact hr
    all_goals
      simp only [curH]
      cases heh : e.h with
      | none =>
        simp only []
        refine curH_rel l (k + 1) _ _ _ (fun i e' hi he => by have := h1 (i + 1) e' (by simpa using hi) he; rwa [sh i] at this)
          (fun i i' e1 e2 hlt hi hi' he he' => by have := h2 (i + 1) (i' + 1) e1 e2 (by omega) (by simpa using hi) (by simpa using hi') he he'; rwa [sh i, sh i'] at this)
          (fun i e' h' hi he hS hA => by
            have := h3 (i + 1) e' h' (by simpa using hi) he (by rwa [sh]) (by rwa [sh])
            simpa only [List.take_succ_cons, curH, heh] using this) ?_
        first
          | exact .inl ⟨rfl, rfl⟩
          | exact .inr (.inl ⟨rfl, hr, fun i e' hi he => by have := hA (i + 1) e' (by simpa using hi) he; rwa [sh] at this⟩)
      | some h' =>
        simp only []
        have hne : e.h ≠ none := by rw [heh]; simp
        have hL := (h1 0 e rfl hne).1
        simp only [Nat.add_zero] at hL
        have rest1 := fun (i : Nat) (e' : Ev) (hi : l[i]? = some e') (he : e'.h ≠ none) => (by have := h1 (i + 1) e' (by simpa using hi) he; rwa [sh i] at this : L (k + 1 + i) = true ∧ (A (k + 1 + i) = true → S (k + 1 + i) = true))
        have rest2 := fun (i i' : Nat) (e1 e2 : Ev) (hlt : i < i') (hi : l[i]? = some e1) (hi' : l[i']? = some e2) (he : e1.h ≠ none) (he' : e2.h ≠ none) => (by have := h2 (i + 1) (i' + 1) e1 e2 (by omega) (by simpa using hi) (by simpa using hi') he he'; rwa [sh i, sh i'] at this : (S (k + 1 + i') = true → S (k + 1 + i) = true) ∧ (A (k + 1 + i') = true → A (k + 1 + i) = true))
        have rest3 : ∀ (i : Nat) (e' : Ev) (h'' : Heap), l[i]? = some e' → e'.h = some h'' → S (k + 1 + i) = true → A (k + 1 + i) = false → Rel c (curH L (k + 1) (l.take i) h') h'' := fun i e' h'' hi he hS hA => by
          have := h3 (i + 1) e' h'' (by simpa using hi) he (by rwa [sh]) (by rwa [sh])
          simpa only [List.take_succ_cons, curH, heh, hL, if_true] using this
        have laterA : A k = false → ∀ i e', l[i]? = some e' → e'.h ≠ none → A (k + 1 + i) = false := fun hk i e' hi he => by
          have := (h2 0 (i + 1) e e' (by omega) rfl (by simpa using hi) hne he).2
          rw [sh i] at this
          simp only [Nat.add_zero, hk, Bool.false_eq_true, imp_false, Bool.not_eq_true] at this
          exact this
        have laterS : S k = false → ∀ i e', l[i]? = some e' → e'.h ≠ none → S (k + 1 + i) = false := fun hk i e' hi he => by
          have := (h2 0 (i + 1) e e' (by omega) rfl (by simpa using hi) hne he).1
          rw [sh i] at this
          simp only [Nat.add_zero, hk, Bool.false_eq_true, imp_false, Bool.not_eq_true] at this
          exact this
        by_cases hSk : S k = true
        · rw [if_pos hSk]
          by_cases hAk : A k = true
          · rw [if_pos hAk]
            exact curH_rel l (k + 1) _ _ h' rest1 rest2 rest3 (.inl ⟨rfl, rfl⟩)
          · have hAk' : A k = false := by simpa using hAk
            rw [if_neg hAk]
            have hrel := h3 0 e h' rfl heh (by simpa using hSk) (by simpa using hAk')
            simp only [List.take_zero, curH] at hrel
            refine curH_rel l (k + 1) _ _ h' rest1 rest2 rest3 (.inr (.inl ⟨rfl, ?_, laterA hAk'⟩))
            first
              | exact hrel
              | exact hr.trans hrel
        · have hSk' : S k = false := by simpa using hSk
          have hAk' : A k = false := by
            cases hx : A k
            · rfl
            · have := (h1 0 e rfl hne).2
              simp only [Nat.add_zero] at this
              rw [this hx] at hSk'; cases hSk'
          rw [if_neg hSk, if_neg (by rw [hAk']; simp)]
          refine curH_rel l (k + 1) _ _ h' rest1 rest2 rest3 (.inr (.inr ⟨?_, fun i e' hi he => ⟨laterA hAk' i e' hi he, laterS hSk' i e' hi he⟩⟩))
          first
            | exact Rel.refl c _
            | exact hr

/-! ### One reading -/

def pick (env : Env) (ts : List Nat) : Env := ts.filterMap fun t => (get env t).map fun d => (t, d)

def gdw : Option Bool → D → D
  | none, d => d
  | some b, d => .gd b d
def gdo : Option Bool → List Prop → List Prop
  | none, l => l
  | some b, l => underG b l

theorem rel_nil (k : Nat) (h : Heap) : Rel k [] h := by
  unfold Rel
  split
  · trivial
  all_goals (intro r row e; simp at e)

/-- Rows that are boxes. -/
def boxes : Heap → Heap
  | [] => []
  | some (.box d) :: h => some (.box d) :: boxes h
  | _ :: h => none :: boxes h

theorem boxes_at : ∀ {h : Heap} {r : Nat} {row : Row}, (boxes h)[r]? = some (some row) → ∃ d, row = .box d ∧ h[r]? = some (some (.box d))
  | [], r, row, e => by simp [boxes] at e
  | q :: h, 0, row, e => by
    cases q with
    | none => simp [boxes] at e
    | some q =>
      cases q with
      | box d => simp [boxes] at e; exact ⟨d, e.symm, by simp⟩
      | seq _ _ _ _ => simp [boxes] at e
  | q :: h, r + 1, row, e => by
    have e' : (boxes h)[r]? = some (some row) := by
      cases q with
      | none => simpa [boxes] using e
      | some q => cases q <;> simpa [boxes] using e
    obtain ⟨d, h1, h2⟩ := boxes_at e'
    exact ⟨d, h1, by simpa using h2⟩

/-- All boxes stand. -/
def Keeps (h h' : Heap) : Prop := ∀ (r : Nat) (d : D), h[r]? = some (some (.box d)) → h'[r]? = some (some (.box d))

theorem rel_boxes (k : Nat) {h h' : Heap} (hk : Keeps h h') : Rel k (boxes h) h' := by
  unfold Rel
  split
  · trivial
  · intro r row e
    obtain ⟨d, rfl, h2⟩ := boxes_at e
    exact ⟨_, hk r d h2, Row.like_refl _⟩
  · intro r row e
    obtain ⟨d, rfl, h2⟩ := boxes_at e
    exact hk r d h2

/-- Operations that leave all boxes as they are. -/
def boxSafe : Op → Bool
  | .buildSlice _ _ _ | .makeSlice _ _ _ | .call { callee := .builtin .append, .. } | .assign _ => true
  | _ => false

theorem keeps_append (h t : Heap) : Keeps h (h ++ t) := fun r d e => by rw [List.getElem?_append_left (getElem?_lt e)]; exact e

theorem step1_keeps {P : Program} {env : Env} {h : Heap} {hs : List Hint} {op : Op} (hb : boxSafe op = true) {q : Told} (e : step1 P env h hs op = some q) : Keeps h q.2.2.1 := by
  unfold boxSafe at hb
  split at hb
  · simp only [step1] at e
    unfold stepLit at e
    simp only [Option.bind_eq_some_iff] at e
    obtain ⟨a, _, e⟩ := e
    split at e
    · simp only [Option.bind_eq_some_iff] at e
      obtain ⟨b, _, e⟩ := e
      split at e
      · split at e
        · cases e; exact keeps_append _ _
        · cases e; exact fun _ _ h => h
        · cases e; exact fun _ _ h => h
      · cases e
    · cases e
  · simp only [step1] at e
    unfold stepMake at e
    split at e
    · simp only [Option.bind_eq_some_iff] at e
      obtain ⟨a, _, b, _, e⟩ := e
      split at e
      · simp only [Option.bind_eq_some_iff] at e
        obtain ⟨i, _, z, _, e⟩ := e
        cases e; exact keeps_append _ _
      · cases e
    · cases e
  · rename_i args ats
    have key : ∀ (r : Nat) (row : Row) (t : Heap), h[r]? = some (some row) → (∀ d, row ≠ .box d) → Keeps h (h.set r none ++ t) := fun r row t h1 h2 r' d e' => by
      have hne : r ≠ r' := fun e => by subst e; rw [h1] at e'; cases e'; exact h2 d rfl
      rw [List.getElem?_append_left (by rw [List.length_set]; exact getElem?_lt e'), List.getElem?_set_ne hne]; exact e'
    simp only [step1] at e
    split at e
    · unfold stepApp at e
      split at e
      · simp only [Option.bind_eq_some_iff] at e
        obtain ⟨a, _, b, _, e⟩ := e
        split at e
        · split at e
          · rename_i hr
            simp only [Option.bind_eq_some_iff] at e
            obtain ⟨i, _, sr, _, e⟩ := e
            split at e
            · cases e; exact key _ _ _ hr (fun d => nofun)
            · cases e
          · cases e
        · cases e
      · simp only [Option.bind_eq_some_iff] at e
        obtain ⟨a, _, b, _, e⟩ := e
        split at e
        · split at e
          · rename_i hr
            simp only [Option.bind_eq_some_iff] at e
            obtain ⟨i, _, sr, _, e⟩ := e
            split at e
            · cases e; exact key _ _ _ hr (fun d => nofun)
            · cases e
          · cases e
        · cases e
      · cases e
    · cases e
  · rename_i x
    unfold step1 at e
    split at e <;> try (first | (rename_i hx; cases hx) | skip)
    all_goals first
      | (split at e
         · cases e; exact keeps_append _ _
         · cases e; exact fun _ _ h => h)
      | (simp only [Option.map_eq_some_iff] at e
         obtain ⟨y, _, rfl⟩ := e
         exact fun _ _ h => h)
  · cases hb

theorem curH_from {S : Nat → Bool} : ∀ (evs : List Ev) (o : Nat) (b : Heap), curH S o evs b = b ∨ ∃ (k : Nat) (e : Ev), evs[k]? = some e ∧ e.h = some (curH S o evs b) ∧ S (o + k) = true
  | [], o, b => .inl rfl
  | e :: evs, o, b => by
    simp only [curH]
    rcases curH_from (S := S) evs (o + 1) (match e.h with | some h' => if S o then h' else b | none => b) with h | ⟨k, e', h1, h2, h3⟩
    · rw [h]
      cases he : e.h with
      | none => exact .inl rfl
      | some h' =>
        by_cases hS : S o = true
        · right
          refine ⟨0, e, rfl, ?_, by simpa using hS⟩
          simp only [hS, if_true]; exact he
        · left; simp [hS]
    · exact .inr ⟨k + 1, e', by simpa using h1, h2, by rw [show o + (k + 1) = o + 1 + k by omega]; exact h3⟩

/-- Is an operation one that looks at no rows, or at boxes alone (its slot stands in a mask)? -/
def free (cr : Bool × Bool × Nat × Nat) (o : Oper) : Bool := match o.dst with
  | some t => cr.2.2.1.testBit t || cr.2.2.2.testBit t
  | none => false
def seen (cr : Bool × Bool × Nat × Nat) (o : Oper) (h0 h : Heap) : Heap := match o.dst with
  | some t => match cr.2.2.1.testBit t with
    | true => []
    | false => match cr.2.2.2.testBit t with
      | true => boxes h0
      | false => h
  | none => h

def aexec (cr : Bool × Bool × Nat × Nat) (P : Program) (nt : Nat) (ops : Array Oper) (h0 : Heap) : List Oper → List Nat → List Ev → Env → List Hint → Option (List Prop × List Ev × Env)
  | [], _, evs, env, _ => some ([], evs, env)
  | _ :: _, [], _, _, _ => none
  | o :: r, m :: ms, evs, env, hs =>
    if quietKind cr o.op then
      match guardOf ops (pick env (o.looksAt ops)) o.guard with
      | none => none
      | some g => (stepG P (g.getD true) (pick env (o.looksAt ops)) (seen cr o h0 (curH (fun i => m.testBit i) 0 evs h0)) hs o.op).bind fun q =>
          (setDst nt o.dst (some (gdw g q.2.1)) env).bind fun env' =>
            (aexec cr P nt ops h0 r ms (evs ++ [⟨o.dst, some (gdw g q.2.1), none⟩]) env' q.2.2).map fun z => (gdo g q.1 ++ z.1, z.2)
    else
      match guardOf ops (pick env (o.looksAt ops)) o.guard with
      | some none => (step1 P (pick env (o.looksAt ops)) (curH (fun _ => true) 0 evs h0) hs o.op).bind fun q =>
          (setDst nt o.dst q.2.1 env).bind fun env' =>
            (aexec cr P nt ops h0 r ms (evs ++ [⟨o.dst, q.2.1, some q.2.2.1⟩]) env' q.2.2.2).map fun z => (q.1 ++ z.1, z.2)
      | _ => none

def Fact (cr : Bool × Bool × Nat × Nat) (P : Program) (nt : Nat) (ops : Array Oper) (env0 : Env) (h0 : Heap) (evs : List Ev) (j : Nat) (o : Oper) (m : Nat) : Prop :=
  ∃ (re : Env) (e : Ev), evs[j]? = some e ∧ e.dst = o.dst ∧ (∀ t d, (t, d) ∈ re → t ∈ o.looksAt ops ∧ cur (fun i => decide (i < j)) t 0 evs (get env0 t) = some d) ∧ (∀ t d, e.dst = some t → e.d = some d → t < nt) ∧
    ((quietKind cr o.op = true ∧ e.h = none ∧ ∃ (hs : List Hint) (q : List Prop × D × List Hint) (g : Option Bool), guardOf ops re o.guard = some g ∧ stepG P (g.getD true) re (seen cr o h0 (curH (fun i => decide (i < j) && m.testBit i) 0 evs h0)) hs o.op = some q ∧
        (g.getD true = true → All q.1) ∧ e.d = some (gdw g q.2.1)) ∨
     (quietKind cr o.op = false ∧ guardOf ops re o.guard = some none ∧ ∃ (hs : List Hint) (q : Told), step1 P re (curH (fun i => decide (i < j)) 0 evs h0) hs o.op = some q ∧ All q.1 ∧ e.d = q.2.1 ∧ e.h = some q.2.2.1))

theorem get_drop1 {t u : Nat} : ∀ env : Env, get (drop1 t env) u = if u = t then none else get env u
  | [] => by simp [drop1, get]
  | (v, d) :: r => by
    simp only [drop1]
    by_cases h : v = t
    · subst h
      rw [if_pos rfl, get_drop1 r]
      by_cases h2 : u = v
      · subst h2; simp
      · simp [get, h2, Ne.symm h2]
    · rw [if_neg h]
      simp only [get]
      by_cases h2 : v = u
      · subst h2; simp [h]
      · rw [if_neg h2, if_neg h2, get_drop1 r]

theorem get_put {t u : Nat} {d : D} (env : Env) : get (put env t d) u = if u = t then some d else get env u := by
  simp only [put, get, get_drop1]
  by_cases h : t = u
  · subst h; simp
  · simp [h, Ne.symm h]

theorem setDst_get {nt : Nat} {dst : Option Nat} {d : Option D} {env env' : Env} (h : setDst nt dst d env = some env') (u : Nat) : get env' u = if dst = some u then d else get env u := by
  unfold setDst at h
  split at h
  · cases h; simp
  · rename_i t d'
    split at h
    · cases h; rw [get_put]
      by_cases hu : u = t
      · subst hu; simp
      · rw [if_neg hu, if_neg (by simpa using Ne.symm hu)]
    · cases h
  · rename_i t
    cases h; rw [get_drop1]
    by_cases hu : u = t
    · subst hu; simp
    · rw [if_neg hu, if_neg (by simpa using Ne.symm hu)]

theorem setDst_lt {nt t : Nat} {dst : Option Nat} {d : D} {env env' : Env} (h : setDst nt dst (some d) env = some env') (e : dst = some t) : t < nt := by
  subst e
  unfold setDst at h
  simp only at h
  split at h
  · assumption
  · cases h

theorem pick_mem {env : Env} {ts : List Nat} {t : Nat} {d : D} (h : (t, d) ∈ pick env ts) : t ∈ ts ∧ get env t = some d := by
  simp only [pick, List.mem_filterMap, Option.map_eq_some_iff, Prod.mk.injEq] at h
  obtain ⟨t', h1, d', h2, rfl, rfl⟩ := h
  exact ⟨h1, h2⟩

theorem cur_pre {t : Nat} (pre post : List Ev) (b : Option D) : cur (fun i => decide (i < pre.length)) t 0 (pre ++ post) b = cur (fun _ => true) t 0 pre b := by
  rw [cur_append, cur_none post]
  · exact cur_congr pre 0 b fun i e hi _ => by
      have := getElem?_lt hi
      simp; omega
  · intro i e _ _; simp

theorem curH_pre (m : Nat → Bool) (pre post : List Ev) (b : Heap) : curH (fun i => decide (i < pre.length) && m i) 0 (pre ++ post) b = curH m 0 pre b := by
  rw [curH_append, curH_none post]
  · exact curH_congr pre 0 b fun i e hi _ => by
      have := getElem?_lt hi
      simp; omega
  · intro i e _ _
    rw [Bool.and_eq_false_iff]; left; simp

theorem aexec_facts {cr : Bool × Bool × Nat × Nat} {P : Program} {nt : Nat} {ops : Array Oper} {h0 : Heap} {env0 : Env} : ∀ (l : List Oper) (ms : List Nat) (pre : List Ev) (env : Env) (hs : List Hint) {z : List Prop × List Ev × Env}, aexec cr P nt ops h0 l ms pre env hs = some z → All z.1 →
    (∀ t, get env t = cur (fun _ => true) t 0 pre (get env0 t)) →
    (∃ post, z.2.1 = pre ++ post ∧ post.length = l.length) ∧ (∀ t, get z.2.2 t = cur (fun _ => true) t 0 z.2.1 (get env0 t)) ∧ ∀ j o m, l[j]? = some o → ms[j]? = some m → Fact cr P nt ops env0 h0 z.2.1 (pre.length + j) o m
  | [], ms, pre, env, hs, z, h, _, hg => by
    cases h
    exact ⟨⟨[], by simp, rfl⟩, hg, fun j o m e => by simp at e⟩
  | _ :: _, [], pre, env, hs, z, h, _, hg => by cases h
  | o :: l, m :: ms, pre, env, hs, z, h, ha, hg => by
    have go : ∀ (e : Ev) (env' : Env) (hs' : List Hint) (z' : List Prop × List Ev × Env), aexec cr P nt ops h0 l ms (pre ++ [e]) env' hs' = some z' → All z'.1 → z'.2 = z.2 → e.dst = o.dst → setDst nt o.dst e.d env = some env' →
        (∀ post, Fact cr P nt ops env0 h0 (pre ++ e :: post) pre.length o m) →
        (∃ post, z.2.1 = pre ++ post ∧ post.length = (o :: l).length) ∧ (∀ t, get z.2.2 t = cur (fun _ => true) t 0 z.2.1 (get env0 t)) ∧ ∀ j o' m', (o :: l)[j]? = some o' → (m :: ms)[j]? = some m' → Fact cr P nt ops env0 h0 z.2.1 (pre.length + j) o' m' := by
      intro e env' hs' z' h1 a1 ez ed h2 hf
      obtain ⟨⟨post, k1, k2⟩, k3, k4⟩ := aexec_facts (env0 := env0) l ms (pre ++ [e]) env' hs' h1 a1 (fun t => by
        rw [setDst_get h2 t, cur_append, ← hg t]
        simp only [cur, true_and, ed])
      rw [ez] at k1 k3 k4
      refine ⟨⟨e :: post, by simpa using k1, by simp [k2]⟩, k3, fun j o' m' e1 e2 => ?_⟩
      cases j with
      | zero =>
        simp only [List.getElem?_cons_zero, Option.some.injEq] at e1 e2
        subst e1; subst e2
        have := hf post
        rw [k1]; simpa using this
      | succ j =>
        have := k4 j o' m' (by simpa using e1) (by simpa using e2)
        rwa [show (pre ++ [e]).length + j = pre.length + (j + 1) by simp; omega] at this
    have reOk : ∀ (e : Ev) (post : List Ev) (t : Nat) (d : D), (t, d) ∈ pick env (o.looksAt ops) → t ∈ o.looksAt ops ∧ cur (fun i => decide (i < pre.length)) t 0 (pre ++ e :: post) (get env0 t) = some d := fun e post t d hm => by
      obtain ⟨h1, h2⟩ := pick_mem hm
      exact ⟨h1, by rw [cur_pre, ← hg t]; exact h2⟩
    simp only [aexec] at h
    split at h
    · rename_i hq
      split at h
      · cases h
      · rename_i g hgd
        simp only [Option.bind_eq_some_iff, Option.map_eq_some_iff] at h
        obtain ⟨q, h1, env', h2, z', h3, rfl⟩ := h
        obtain ⟨a1, a2⟩ := All_append.1 ha
        refine go ⟨o.dst, some (gdw g q.2.1), none⟩ env' _ z' h3 a2 rfl rfl h2 fun post => ⟨pick env (o.looksAt ops), ⟨o.dst, some (gdw g q.2.1), none⟩, by simp, rfl, reOk _ post, fun t d e1 e2 => ?_, .inl ⟨hq, rfl, hs, q, g, hgd, ?_, fun hgt => ?_, rfl⟩⟩
        · exact setDst_lt h2 e1
        · rw [curH_pre (fun i => m.testBit i)]; exact h1
        · cases g with
          | none => exact a1
          | some b => exact underG_ok a1 hgt
    · rename_i hq
      split at h
      · rename_i hgd
        simp only [Option.bind_eq_some_iff, Option.map_eq_some_iff] at h
        obtain ⟨q, h1, env', h2, z', h3, rfl⟩ := h
        obtain ⟨a1, a2⟩ := All_append.1 ha
        refine go ⟨o.dst, q.2.1, some q.2.2.1⟩ env' _ z' h3 a2 rfl rfl h2 fun post => ⟨pick env (o.looksAt ops), ⟨o.dst, q.2.1, some q.2.2.1⟩, by simp, rfl, reOk _ post, fun t d e1 e2 => ?_, .inr ⟨by simpa using hq, hgd, hs, q, ?_, a1, rfl, rfl⟩⟩
        · have e2' : q.2.1 = some d := e2
          rw [e2'] at h2
          exact setDst_lt h2 e1
        · have := curH_pre (fun _ => true) pre (⟨o.dst, q.2.1, some q.2.2.1⟩ :: post) h0
          simp only [Bool.and_true] at this
          rw [this]; exact h1
      · cases h

/-! ### Any order -/

def eff (cr : Bool × Bool × Nat × Nat) (o : Oper) : Bool := !quietKind cr o.op

/-- Does it matter which of the two comes first? -/
def clash (cr : Bool × Bool × Nat × Nat) (ops : Array Oper) (x y : Oper) : Bool :=
  (x.dst.any fun d => (y.looksAt ops).contains d || y.dst == some d) || (y.dst.any fun d => (x.looksAt ops).contains d) ||
  (eff cr x && eff cr y) || (eff cr x && !eff cr y && !free cr y && !decide (cls y.op ≤ erk x.op)) || (!eff cr x && eff cr y && !free cr x && !decide (cls x.op ≤ erk y.op))

theorem clash_eff {cr : Bool × Bool × Nat × Nat} {ops : Array Oper} {x y : Oper} (h : eff cr x = true) (k : eff cr y = true) : clash cr ops x y = true := by simp [clash, h, k]
theorem clash_one {cr : Bool × Bool × Nat × Nat} {ops : Array Oper} {x y : Oper} (h : eff cr x = true) (k : eff cr y = false) (f : free cr y = false) (l : erk x.op < cls y.op) : clash cr ops x y = true := by
  have : decide (cls y.op ≤ erk x.op) = false := by simp; omega
  simp [clash, h, k, f, this]
theorem clash_two {cr : Bool × Bool × Nat × Nat} {ops : Array Oper} {x y : Oper} (h : eff cr x = false) (k : eff cr y = true) (f : free cr x = false) (l : erk y.op < cls x.op) : clash cr ops x y = true := by
  have : decide (cls x.op ≤ erk y.op) = false := by simp; omega
  simp [clash, h, k, f, this]

def aok1 (cr : Bool × Bool × Nat × Nat) (ops : Array Oper) (j : Nat) (y : Oper) (m : Nat) : Bool :=
  y.after.all (fun e => !Region.binds .any e || decide (e.on < j)) &&
  (List.range j).all fun i => match ops[i]? with
    | some x => (m.testBit i || !clash cr ops x y) && (!eff cr x || m.testBit i || (List.range j).all fun i' => match ops[i']? with
        | some x' => decide (i' ≤ i) || !eff cr x' || !m.testBit i'
        | none => true)
    | none => true

def aok (cr : Bool × Bool × Nat × Nat) (ops : Array Oper) (ms : List Nat) : Bool :=
  (cr.2.2.2 == 0 || ops.toList.all fun o => !eff cr o || boxSafe o.op) && (List.range ops.size).all fun j => match ops[j]?, ms[j]? with
    | some y, some m => aok1 cr ops j y m
    | _, _ => false

def unl : List Bool → Nat
  | [] => 0
  | b :: l => (if b then 0 else 1) + unl l

theorem unl_set : ∀ (l : List Bool) (i : Nat), l[i]? = some false → unl (l.set i true) + 1 = unl l
  | [], i, h => by simp at h
  | b :: l, 0, h => by simp at h; subst h; simp [unl]; omega
  | b :: l, i + 1, h => by
    have := unl_set l i (by simpa using h)
    simp only [List.set_cons_succ, unl]; omega

theorem unl_zero : ∀ (l : List Bool), unl l = 0 → ∀ (i : Nat) b, l[i]? = some b → b = true
  | [], _, i, b, h => by simp at h
  | c :: l, hz, 0, b, h => by simp at h; subst h; cases c <;> simp [unl] at hz; rfl
  | c :: l, hz, i + 1, b, h => unl_zero l (by simp only [unl] at hz; omega) i b (by simpa using h)

theorem unl_pos : ∀ (l : List Bool), unl l ≠ 0 → ∃ i : Nat, l[i]? = some false
  | [], h => absurd rfl h
  | false :: l, _ => ⟨0, rfl⟩
  | true :: l, h => let ⟨i, hi⟩ := unl_pos l (by simpa [unl] using h); ⟨i + 1, by simpa using hi⟩

def lis (listed : Array Bool) : Nat → Bool := fun i => listed.getD i false

theorem lis_set {listed : Array Bool} {j : Nat} (hj : j < listed.size) (i : Nat) : lis (listed.setIfInBounds j true) i = (decide (i = j) || lis listed i) := by
  unfold lis
  by_cases h : i = j
  · subst h; simp [hj]
  · rw [getD_set_ne false (Ne.symm h)]; simp [h]

section
variable {P : Program} {X : Nat → Prop}

theorem any_ok {cr : Bool × Bool × Nat × Nat} {nt : Nat} {ops : Array Oper} {env0 : Env} {h0 : Heap} {evs : List Ev} {Q : Exit → Act → World → Prop} (hok : aok cr ops (ancs ops.toList []) = true) (hl : evs.length = ops.size)
    (F : ∀ j o m, ops[j]? = some o → (ancs ops.toList [])[j]? = some m → Fact cr P nt ops env0 h0 evs j o m) {ρ0 : Hnd} {w0 : World} {a0 : Act} (hn : nt ≤ a0.tmps.size)
    (K : ∀ ρ a w, Step Full ρ0 w0 ρ w → HRel X ρ (curH (fun _ => true) 0 evs h0) w → (∀ t d, cur (fun _ => true) t 0 evs (get env0 t) = some d → t < a.tmps.size ∧ (VR (cx X ρ w) d).v (a.tmps.getD t undef)) → a.defers = a0.defers → a.tmps.size = a0.tmps.size → Q .normal a w) :
    ∀ (f : Nat) (listed : Array Bool) (ρ : Hnd) (a : Act) (w : World), listed.size = ops.size → unl listed.toList = f → Closed ops (lis listed) → Step Full ρ0 w0 ρ w → HRel X ρ (curH (lis listed) 0 evs h0) w →
      (∀ t d, cur (lis listed) t 0 evs (get env0 t) = some d → t < a.tmps.size ∧ (VR (cx X ρ w) d).v (a.tmps.getD t undef)) → a.defers = a0.defers → a.tmps.size = a0.tmps.size → wpAny P .any ops Q f listed a w
  | 0, listed, ρ, a, w, hsz, hu, hc, st, hh, he, hd, ht => by
    have hall : ∀ i, i < ops.size → lis listed i = true := fun i hi => by
      have hi' : i < listed.size := by omega
      have := unl_zero _ hu i listed[i] (by simp [hi'])
      simp [lis, hi', this]
    refine ⟨?_, K ρ a w st ?_ (fun t d hd' => he t d ?_) hd ht⟩
    · refine List.eq_nil_iff_forall_not_mem.2 fun i hi => ?_
      obtain ⟨h1, o, ho, _⟩ := mem_ready.1 hi
      have hi' : i < ops.size := (Array.getElem?_eq_some_iff.1 ho).1
      have := hall i hi'
      rw [lis, getD_both h1] at this; cases this
    · rw [curH_congr (S' := lis listed) evs 0 h0 fun i e hi _ => by
        have := getElem?_lt hi
        rw [Nat.zero_add, hall i (by omega)]]
      exact hh
    · rw [← cur_congr (S := fun _ => true) evs 0 _ fun i e hi _ => by
        have := getElem?_lt hi
        rw [Nat.zero_add, hall i (by omega)]]
      exact hd'
  | f + 1, listed, ρ, a, w, hsz, hu, hc, st, hh, he, hd, ht => by
    have okj : ∀ j o, ops[j]? = some o → ∃ m, (ancs ops.toList [])[j]? = some m ∧ aok1 cr ops j o m = true := fun j o ho => by
      have hj : j < ops.size := (Array.getElem?_eq_some_iff.1 ho).1
      have := List.all_eq_true.1 (Bool.and_eq_true_iff.1 hok).2 j (List.mem_range.2 hj)
      rw [ho] at this
      split at this
      · rename_i y m e1 e2
        cases e1
        exact ⟨m, e2, this⟩
      · cases this
    refine ⟨fun hr => ?_, fun j hj => ?_⟩
    · -- one of them may always come up
      exfalso
      obtain ⟨i, hi⟩ := unl_pos listed.toList (by omega)
      have key : ∀ i, listed.getD i true = false → False := fun i => by
        induction i using Nat.strongRecOn with
        | ind i ih =>
          intro hi
          have hi' : i < ops.size := by
            rcases Nat.lt_or_ge i listed.size with h | h
            · omega
            · simp [h] at hi
          have ho : ops[i]? = some ops[i] := Array.getElem?_eq_getElem hi'
          obtain ⟨m, _, hm⟩ := okj i _ ho
          unfold aok1 at hm
          simp only [Bool.and_eq_true] at hm
          have hmem : i ∈ Region.ready .any ops listed := mem_ready.2 ⟨hi, _, ho, fun e hee hb => by
            have h1 := Array.all_eq_true.1 hm.1
            have hlt : e.on < i := by
              obtain ⟨q, hq, rfl⟩ := Array.mem_iff_getElem.1 hee
              have := h1 q hq
              simpa [hb] using this
            cases hx : listed.getD e.on false with
            | true => rfl
            | false => exact (ih e.on hlt (getD_in (by omega) hx)).elim⟩
          rw [hr] at hmem; cases hmem
      exact key i (by
        have hi' := getElem?_lt hi
        simp only [Array.length_toList] at hi'
        simp only [Array.getElem?_toList] at hi
        simp [Array.getD_eq_getD_getElem?, hi])
    · obtain ⟨hj1, o, ho, hw⟩ := mem_ready.1 hj
      have hjs : j < ops.size := (Array.getElem?_eq_some_iff.1 ho).1
      have hjl : j < listed.size := by omega
      have hSj : lis listed j = false := getD_both hj1
      obtain ⟨m, hm, hk⟩ := okj j o ho
      have hwaits : Waits ops (lis listed) j := fun o' ho' e hee hb => by
        rw [ho] at ho'; cases ho'; exact hw e hee hb
      have hanc := anc_spec j m hm (lis listed) hc hwaits
      -- one that clashes and stands ahead has come up; one that stands behind has not
      have ahead : ∀ i x, ops[i]? = some x → i < j → clash cr ops x o = true → m.testBit i = true ∧ lis listed i = true := fun i x hx hlt hcl => by
        unfold aok1 at hk
        simp only [Bool.and_eq_true] at hk
        have := List.all_eq_true.1 hk.2 i (List.mem_range.2 hlt)
        simp only [hx, Bool.and_eq_true] at this
        have h1 : m.testBit i = true := by simpa [hcl] using this.1
        exact ⟨h1, hanc i h1⟩
      have behind : ∀ i x, ops[i]? = some x → j < i → clash cr ops o x = true → lis listed i = false := fun i x hx hlt hcl => by
        cases hS : lis listed i with
        | false => rfl
        | true =>
          exfalso
          obtain ⟨m', hm', hk'⟩ := okj i x hx
          unfold aok1 at hk'
          simp only [Bool.and_eq_true] at hk'
          have := List.all_eq_true.1 hk'.2 j (List.mem_range.2 hlt)
          simp only [ho, Bool.and_eq_true] at this
          have h1 : m'.testBit j = true := by simpa [hcl] using this.1
          have := anc_spec i m' hm' (lis listed) hc (hc i hS) j h1
          rw [hSj] at this; cases this
      obtain ⟨re, e, he1, he2, hre, hlt, hfact⟩ := F j o m ho hm
      have evDst : ∀ (i : Nat) (e' : Ev), evs[i]? = some e' → ∃ x, ops[i]? = some x ∧ e'.dst = x.dst ∧ (e'.h ≠ none → eff cr x = true) := fun i e' hi => by
        have hi' : i < ops.size := by have := getElem?_lt hi; omega
        have hx : ops[i]? = some ops[i] := Array.getElem?_eq_getElem hi'
        obtain ⟨m', hm', _⟩ := okj i _ hx
        obtain ⟨_, e2, k1, k2, _, _, k3⟩ := F i _ m' hx hm'
        rw [hi] at k1; cases k1
        refine ⟨_, hx, k2, fun hne => ?_⟩
        rcases k3 with ⟨_, hn', _⟩ | ⟨hq, _⟩
        · exact absurd hn' hne
        · simp [eff, hq]
      -- its operands read as in the lexical order
      have hE : ERel (cx X ρ w) re a.tmps := fun t d hm' => by
        obtain ⟨h1, h2⟩ := hre t d hm'
        refine he t d ?_
        rw [← h2]
        refine cur_congr evs 0 _ fun i e' hi hdst => ?_
        rw [Nat.zero_add]
        obtain ⟨x, hx, hxd, _⟩ := evDst i e' hi
        rw [hxd] at hdst
        rcases Nat.lt_trichotomy i j with hij | hij | hij
        · rw [(ahead i x hx hij (by simp [clash, hdst, h1])).2]; simp [hij]
        · subst hij; rw [hSj]; simp
        · rw [behind i x hx hij (by simp [clash, hdst, h1])]; simp; omega
      have hna : nt ≤ a.tmps.size := by omega
      have hS' : ∀ i, lis (listed.setIfInBounds j true) i = (decide (i = j) || lis listed i) := lis_set hjl
      have hclosed : Closed ops (lis (listed.setIfInBounds j true)) := fun i hi o' ho' e' he' hb => by
        rw [hS'] at hi ⊢
        simp only [Bool.or_eq_true, decide_eq_true_eq] at hi ⊢
        rcases hi with rfl | hi
        · rw [ho] at ho'; cases ho'; exact .inr (hw e' he' hb)
        · exact .inr (hc i hi o' ho' e' he' hb)
      have hunl : unl (listed.setIfInBounds j true).toList = f := by
        have := unl_set listed.toList j (by
          have hjt : listed[j]? = some false := by
            have := hj1
            simp only [Array.getD_eq_getD_getElem?, Array.getElem?_eq_getElem hjl, Option.getD_some] at this
            rw [Array.getElem?_eq_getElem hjl, this]
          simpa using hjt)
        simp only [Array.toList_setIfInBounds]; omega
      -- the events in three parts
      have hsplit : evs = evs.take j ++ e :: evs.drop (j + 1) := by
        have hlt := getElem?_lt he1
        have h2 : evs[j] = e := by rw [List.getElem?_eq_getElem hlt] at he1; exact Option.some.inj he1
        rw [← h2, ← List.drop_eq_getElem_cons hlt, List.take_append_drop]
      have hlen : (evs.take j).length = j := by simp; omega
      -- what follows
      have next : ∀ (d : Option D) (v : Value) (ρ1 : Hnd) (w1 : World), e.d = d → Step Full ρ w ρ1 w1 → HRel X ρ1 (curH (lis (listed.setIfInBounds j true)) 0 evs h0) w1 → (∀ d', d = some d' → (VR (cx X ρ1 w1) d').v v) →
          wpAny P .any ops Q f (listed.setIfInBounds j true) (a.put o.dst v) w1 := by
        intro d v ρ1 w1 hed st1 hh1 hv
        have hput : (a.put o.dst v).tmps.size = a.tmps.size := by
          unfold Act.put; split <;> simp
        have hputd : (a.put o.dst v).defers = a.defers := by
          unfold Act.put; split <;> rfl
        refine any_ok hok hl F hn K f _ ρ1 _ w1 (by simpa using hsz) hunl hclosed (st.trans st1) hh1 (fun t d' hcur => ?_) (hputd.trans hd) (hput.trans ht)
        by_cases hdt : o.dst = some t
        · -- the slot that it writes
          have hlast : cur (lis (listed.setIfInBounds j true)) t 0 evs (get env0 t) = e.d := by
            rw [hsplit, cur_append, Nat.zero_add, hlen]
            simp only [cur]
            rw [cur_none]
            · rw [if_pos ⟨by rw [hS']; simp, by rw [he2]; exact hdt⟩]
            · intro i e' hi hdst
              rw [hS']
              have hi2 : evs[j + 1 + i]? = some e' := by simpa [List.getElem?_drop] using hi
              obtain ⟨x, hx, hxd, _⟩ := evDst _ e' hi2
              rw [hxd] at hdst
              rw [behind _ x hx (by omega) (by simp [clash, hdst, hdt])]
              simp; omega
          rw [hlast, hed] at hcur
          have htl : t < a.tmps.size := Nat.lt_of_lt_of_le (hlt t d' (by rw [he2]; exact hdt) (by rw [hed]; exact hcur)) hna
          refine ⟨by rw [hput]; exact htl, ?_⟩
          rw [hdt]
          simp only [Act.put]
          rw [getD_set_self htl]
          exact hv d' hcur
        · have hsame : cur (lis (listed.setIfInBounds j true)) t 0 evs (get env0 t) = cur (lis listed) t 0 evs (get env0 t) := cur_congr evs 0 _ fun i e' hi hdst => by
            rw [Nat.zero_add, hS']
            by_cases hij : i = j
            · subst hij
              rw [he1] at hi; cases hi
              rw [he2] at hdst; exact absurd hdst hdt
            · simp [hij]
          rw [hsame] at hcur
          obtain ⟨k1, k2⟩ := he t d' hcur
          refine ⟨by rw [hput]; exact k1, ?_⟩
          have hg : (a.put o.dst v).tmps.getD t undef = a.tmps.getD t undef := by
            unfold Act.put
            split
            · rename_i u hu
              exact getD_set_other (fun e => hdt (by rw [hu, e]))
            · rfl
          rw [hg]
          exact (VR_le st1.leF d').v _ k2
      unfold wpOp
      simp only [ho]
      rcases hfact with ⟨hq, hnone, hs, q, g, hgd, hstep, hall, hed⟩ | ⟨hq, hgd, hs, q, hstep, hall, hed, heh⟩
      · -- it changes no rows
        have hheap : curH (lis (listed.setIfInBounds j true)) 0 evs h0 = curH (lis listed) 0 evs h0 := curH_congr evs 0 h0 fun i e' hi hne => by
          rw [Nat.zero_add, hS']
          by_cases hij : i = j
          · subst hij; rw [he1] at hi; cases hi; exact absurd hnone hne
          · simp [hij]
        have hrel : Rel (cls o.op) (seen cr o h0 (curH (fun i => decide (i < j) && m.testBit i) 0 evs h0)) (curH (lis listed) 0 evs h0) := by
          cases hfr : free cr o with
          | true =>
            unfold free at hfr
            unfold seen
            cases hdt : o.dst with
            | none => rw [hdt] at hfr; cases hfr
            | some t =>
              rw [hdt] at hfr
              simp only at hfr ⊢
              cases h1 : cr.2.2.1.testBit t with
              | true => exact rel_nil _ _
              | false =>
                rw [h1, Bool.false_or] at hfr
                rw [hfr]
                refine rel_boxes _ ?_
                have hz : ops.toList.all (fun o => !eff cr o || boxSafe o.op) = true := by
                  rcases Bool.or_eq_true_iff.1 (Bool.and_eq_true_iff.1 hok).1 with h | h
                  · rw [beq_iff_eq] at h; rw [h] at hfr; simp at hfr
                  · exact h
                have claim : ∀ (n i : Nat), i < n → ∀ (e' : Ev) (h' : Heap), evs[i]? = some e' → e'.h = some h' → Keeps h0 h' := by
                  intro n
                  induction n with
                  | zero => intro i hi; omega
                  | succ n ih =>
                    intro i hi e' h' hi1 hi2
                    obtain ⟨x, hx, _, hxe⟩ := evDst i e' hi1
                    have hxe := hxe (by rw [hi2]; simp)
                    obtain ⟨m', hm', _⟩ := okj i x hx
                    obtain ⟨_, e2, k1, _, _, _, k3⟩ := F i x m' hx hm'
                    rw [hi1] at k1; cases k1
                    rcases k3 with ⟨_, hn', _⟩ | ⟨hq', _, hs', q', hst', _, _, heh'⟩
                    · rw [hi2] at hn'; cases hn'
                    · rw [hi2] at heh'
                      cases heh'
                      have hsafe : boxSafe x.op = true := by
                        have := List.all_eq_true.1 hz x (by
                          have := Array.getElem?_eq_some_iff.1 hx
                          obtain ⟨g1, g2⟩ := this
                          rw [← g2]; simp)
                        simpa [hxe] using this
                      have hk1 := step1_keeps hsafe hst'
                      refine fun r d e0 => hk1 r d ?_
                      rcases curH_from (S := fun k => decide (k < i)) evs 0 h0 with h | ⟨k, e3, g1, g2, g3⟩
                      · rw [h]; exact e0
                      · have : k < i := by simpa using g3
                        exact ih k (by omega) e3 _ g1 g2 r d e0
                rcases curH_from (S := lis listed) evs 0 h0 with h | ⟨k, e3, g1, g2, _⟩
                · rw [h]; exact fun _ _ h => h
                · exact claim (k + 1) k (by omega) e3 _ g1 g2
          | false =>
          rw [show seen cr o h0 (curH (fun i => decide (i < j) && m.testBit i) 0 evs h0) = curH (fun i => decide (i < j) && m.testBit i) 0 evs h0 by
            unfold seen
            unfold free at hfr
            cases hdt : o.dst with
            | none => rfl
            | some t =>
              rw [hdt] at hfr
              obtain ⟨f1, f2⟩ := Bool.or_eq_false_iff.1 hfr
              simp only [f1, f2]]
          refine curH_rel (L := fun _ => true) evs 0 h0 h0 h0 (fun i e' hi hne => ⟨rfl, fun hA => ?_⟩) (fun i i' e1 e2 hlt hi hi' hne hne' => ⟨fun hS => ?_, fun hA => ?_⟩) (fun i e' h' hi heh hS hA => ?_) (.inl ⟨rfl, rfl⟩)
          · simp only [Nat.zero_add, Bool.and_eq_true] at hA ⊢
            exact hanc i hA.2
          · simp only [Nat.zero_add] at hS ⊢
            obtain ⟨x, hx, _, hxe⟩ := evDst i e1 hi
            obtain ⟨x', hx', _, hxe'⟩ := evDst i' e2 hi'
            obtain ⟨m', hm', hk'⟩ := okj i' x' hx'
            unfold aok1 at hk'
            simp only [Bool.and_eq_true] at hk'
            have := List.all_eq_true.1 hk'.2 i (List.mem_range.2 hlt)
            simp only [hx, Bool.and_eq_true] at this
            have hcl : clash cr ops x x' = true := by simp [clash, hxe hne, hxe' hne']
            have h1 : m'.testBit i = true := by simpa [hcl] using this.1
            exact anc_spec i' m' hm' (lis listed) hc (hc i' hS) i h1
          · simp only [Nat.zero_add, Bool.and_eq_true, decide_eq_true_eq] at hA ⊢
            obtain ⟨x, hx, _, hxe⟩ := evDst i e1 hi
            obtain ⟨x', hx', _, hxe'⟩ := evDst i' e2 hi'
            refine ⟨by omega, ?_⟩
            have hk2 := hk
            unfold aok1 at hk2
            simp only [Bool.and_eq_true] at hk2
            have := List.all_eq_true.1 hk2.2 i (List.mem_range.2 (by omega))
            simp only [hx, Bool.and_eq_true, hxe hne, Bool.not_true, Bool.false_or, Bool.or_eq_true] at this
            rcases this.2 with h | h
            · exact h
            · exfalso
              have := List.all_eq_true.1 h i' (List.mem_range.2 hA.1)
              simp only [hx', hxe' hne', Bool.not_true, Bool.or_false, hA.2, decide_eq_true_eq] at this
              omega
          · simp only [Nat.zero_add] at hS hA
            obtain ⟨x, hx, _, hxe⟩ := evDst i e' hi
            have hxe := hxe (by rw [heh]; simp)
            have hij : i ≠ j := fun e => by subst e; rw [hSj] at hS; cases hS
            have hrank : cls o.op ≤ erk x.op := by
              by_cases hlt : i < j
              · rcases Nat.lt_or_ge (erk x.op) (cls o.op) with h | h
                · exfalso
                  have := (ahead i x hx hlt (clash_one hxe (by simp [eff, hq]) hfr h)).1
                  simp [hlt, this] at hA
                · exact h
              · rcases Nat.lt_or_ge (erk x.op) (cls o.op) with h | h
                · exfalso
                  have := behind i x hx (by omega) (clash_two (by simp [eff, hq]) hxe hfr h)
                  rw [this] at hS; cases hS
                · exact h
            obtain ⟨m', hm', _⟩ := okj i x hx
            obtain ⟨_, e2, k1, _, _, _, k3⟩ := F i x m' hx hm'
            rw [hi] at k1; cases k1
            rcases k3 with ⟨_, hn', _⟩ | ⟨hq', _, hs', q', hst', _, _, heh'⟩
            · rw [heh] at hn'; cases hn'
            · rw [heh] at heh'
              cases heh'
              have := (step1_rel hq' hst').mono hrank
              have e0 : curH (fun i_1 => decide (i_1 < i)) 0 evs h0 = curH (fun _ => true) 0 (evs.take i) h0 := by
                have hlen' : (evs.take i).length = i := by have := getElem?_lt hi; simp; omega
                have := curH_pre (fun _ => true) (evs.take i) (evs.drop i) h0
                rw [List.take_append_drop, hlen'] at this
                simpa using this
              rw [e0] at this
              exact this
        obtain ⟨ob', hstep', hob'⟩ := stepG_mono hrel hstep
        cases g with
        | none =>
          rw [if_pos (guardOf_none hgd _)]
          refine .inl (upon_of (fun v w1 ⟨ρ1, st1, hh1, hv⟩ => next _ v ρ1 w1 hed st1 (by rw [hheap]; exact hh1) (fun d' hd' => by cases hd'; exact hv _ rfl)) (stepG_ok (P := P) hh hE rfl hstep' (hob' (hall rfl)) rfl))
        | some b =>
          rw [guardOf_some hE hgd]
          cases b with
          | true =>
            rw [if_pos rfl]
            refine .inl (upon_of (fun v w1 ⟨ρ1, st1, hh1, hv⟩ => next _ v ρ1 w1 hed st1 (by rw [hheap]; exact hh1) (fun d' hd' => by cases hd'; exact ⟨fun _ => hv _ rfl, nofun⟩)) (stepG_ok (P := P) hh hE rfl hstep' (hob' (hall rfl)) rfl))
          | false =>
            rw [if_neg (by simp)]
            exact next _ undef ρ w hed (Step.refl _ _ _) (by rw [hheap]; exact hh) (fun d' hd' => by cases hd'; exact ⟨nofun, fun _ => rfl⟩)
      · -- it changes rows
        have hbase : curH (lis listed) 0 evs h0 = curH (fun i => decide (i < j)) 0 evs h0 := curH_congr evs 0 h0 fun i e' hi hne => by
          rw [Nat.zero_add]
          obtain ⟨x, hx, _, hxe⟩ := evDst i e' hi
          rcases Nat.lt_trichotomy i j with hij | hij | hij
          · rw [(ahead i x hx hij (clash_eff (hxe hne) (by simp [eff, hq]))).2]; simp [hij]
          · subst hij; rw [hSj]; simp
          · rw [behind i x hx hij (clash_eff (by simp [eff, hq]) (hxe hne))]; simp; omega
        have hheap : curH (lis (listed.setIfInBounds j true)) 0 evs h0 = q.2.2.1 := by
          rw [hsplit, curH_append, Nat.zero_add, hlen]
          simp only [curH, heh]
          rw [if_pos (by rw [hS']; simp), curH_none]
          intro i e' hi hne
          rw [hS']
          have hi2 : evs[j + 1 + i]? = some e' := by simpa [List.getElem?_drop] using hi
          obtain ⟨x, hx, _, hxe⟩ := evDst _ e' hi2
          rw [behind _ x hx (by omega) (clash_eff (by simp [eff, hq]) (hxe hne))]
          simp; omega
        rw [if_pos (guardOf_none hgd _)]
        rw [hbase] at hh
        exact .inl (upon_of (fun v w1 ⟨ρ1, st1, hh1, hv⟩ => next _ v ρ1 w1 hed st1 (by rw [hheap]; exact hh1) hv) (step1_ok (P := P) hh hE hstep hall rfl))

def selAll (env : Env) : Env := env.filterMap fun p => (get env p.1).map fun d => (p.1, d)

theorem selAll_mem {env : Env} {t : Nat} {d : D} (h : (t, d) ∈ selAll env) : get env t = some d := by
  simp only [selAll, List.mem_filterMap, Option.map_eq_some_iff, Prod.mk.injEq] at h
  obtain ⟨p, _, d', h2, rfl, rfl⟩ := h
  exact h2

/-- Slots that stand in a list more than once are not meant. -/
def uniq : Env → Bool
  | [] => true
  | p :: r => !(r.any fun q => q.1 == p.1) && uniq r

theorem uniq_get : ∀ {env : Env} (_ : uniq env = true) {t : Nat} {d : D}, (t, d) ∈ env → get env t = some d
  | [], _, _, _, h => by cases h
  | (u, e) :: r, hq, t, d, h => by
    simp only [uniq, Bool.and_eq_true, Bool.not_eq_true'] at hq
    rcases List.mem_cons.1 h with h | h
    · cases h; simp [get]
    · have : u ≠ t := fun e' => by
        have := List.any_eq_false.1 hq.1 _ h
        simp [e'] at this
      simp only [get, if_neg this]
      exact uniq_get hq.2 h

theorem any_region {cr : Bool × Bool × Nat × Nat} {nt : Nat} {ops : Array Oper} {env : Env} {h : Heap} {hs : List Hint} {z : List Prop × List Ev × Env} (hm : P.follows .mixedOrders = true) (hok : aok cr ops (ancs ops.toList []) = true) (e : aexec cr P nt ops h ops.toList (ancs ops.toList []) [] env hs = some z) (ha : All z.1)
    {ρ : Hnd} {a : Act} {w : World} (hh : HRel X ρ h w) (he : ERel (cx X ρ w) env a.tmps) (hn : nt ≤ a.tmps.size) (id : Nat) {Q : Exit → Act → World → Prop}
    (K : ∀ ρ' a' w', Step Full ρ w ρ' w' → HRel X ρ' (curH (fun _ => true) 0 z.2.1 h) w' → ERel (cx X ρ' w') (selAll z.2.2) a'.tmps → a'.defers = a.defers → a'.tmps.size = a.tmps.size → Q .normal a' w') :
    (Code.region id ops true).wp P Q a w := by
  obtain ⟨⟨post, k1, k2⟩, k3, k4⟩ := aexec_facts (env0 := env) _ _ [] env hs e ha (fun t => rfl)
  simp only [List.nil_append] at k1
  have hlen : z.2.1.length = ops.size := by rw [k1, k2]; simp
  have hfl : ∀ i, lis (Array.replicate ops.size false) i = false := fun i => getD_replicate_false _ _
  have st : Step Full ρ w ρ { w with drawn := w.drawn + 1 } := { os := rfl, tape := rfl, output := rfl, drawn := fun _ => Nat.le_succ _, size := Nat.le_refl _, block := fun _ _ _ => rfl, rho := fun _ _ => .inr (.inr rfl), owns := fun _ h => .inl h }
  refine wp_region_any hm (any_ok (X := X) (ρ0 := ρ) (w0 := w) (a0 := a) hok hlen (fun j o m ho hm' => by
      have := k4 j o m (by simpa using ho) hm'
      simpa using this) hn (fun ρ' a' w' st' hh' he' hd hs' => K ρ' a' w' st' hh' (fun t d hmem => he' t d (by rw [← k3]; exact selAll_mem hmem)) hd hs')
    ops.size _ ρ a _ (by simp) ?_ (fun i hi => by rw [hfl] at hi; cases hi) st ?_ ?_ rfl rfl)
  · have : ∀ n, unl (List.replicate n false) = n := fun n => by
      induction n with
      | zero => rfl
      | succ n ih => simp only [List.replicate_succ, unl, ih]; simp; omega
    simpa using this ops.size
  · rw [curH_none _ _ _ (fun i e _ _ => hfl _)]
    exact hh.beside st (fun _ _ => rfl)
  · intro t d hc
    rw [cur_none _ _ _ (fun i e _ _ => hfl _)] at hc
    have := he t d (get_mem hc)
    exact ⟨this.1, (VR_le st.leF d).v _ this.2⟩
end

end Go.Pod
