/- Drawn regions: which operation waits for which; what the evaluation keeps. -/
import Derived.Test.YtimnljbphmndoaaGreatDoorExG3
namespace Go.Exe
open Go

def Waits (ops : Array Oper) (S : Nat → Bool) (i : Nat) : Prop := ∀ o, ops[i]? = some o → ∀ e ∈ o.after, Region.binds .any e = true → S e.on = true
def Closed (ops : Array Oper) (S : Nat → Bool) : Prop := ∀ i, S i = true → Waits ops S i
def AncOk (ops : Array Oper) (acc : List Nat) : Prop := ∀ (k m : Nat), acc[k]? = some m → ∀ S, Closed ops S → Waits ops S k → ∀ j, m.testBit j = true → S j = true

theorem maskE_ok {ops : Array Oper} {acc : List Nat} (ha : AncOk ops acc) {S : Nat → Bool} (hc : Closed ops S) : ∀ (l : List Edge) (m : Nat), (∀ e ∈ l, Region.binds .any e = true → S e.on = true) → (∀ j, m.testBit j = true → S j = true) → ∀ j, (l.foldl (maskE acc) m).testBit j = true → S j = true
  | [], m, _, hm, j, h => hm j h
  | e :: l, m, he, hm, j, h => by
    refine maskE_ok ha hc l _ (fun e' h' => he e' (List.mem_cons_of_mem _ h')) (fun j' h' => ?_) j h
    unfold maskE at h'
    split at h'
    · rename_i hb
      have hs := he e (List.mem_cons_self ..) hb
      simp only [Nat.testBit_or, Bool.or_eq_true, Nat.testBit_two_pow, decide_eq_true_eq] at h'
      rcases h' with (h' | h') | h'
      · exact hm j' h'
      · rw [← h']; exact hs
      · cases hk : acc[e.on]? with
        | none => simp [List.getD, hk] at h'
        | some m' =>
          rw [show acc.getD e.on 0 = m' by simp [List.getD, hk]] at h'
          exact ha e.on m' hk S hc (hc _ hs) j' h'
    · exact hm j' h'

theorem ancs_ok {ops : Array Oper} : ∀ (l : List Oper) (acc : List Nat), (∀ j, j < l.length → l[j]? = ops[acc.length + j]?) → AncOk ops acc → AncOk ops (ancs l acc)
  | [], acc, _, h => h
  | o :: l, acc, hl, h => by
    refine ancs_ok l _ (fun j hj => ?_) fun k m hk S hc hw j hj => ?_
    · have := hl (j + 1) (by simpa using hj)
      simp only [List.getElem?_cons_succ] at this
      rw [this]; congr 1; simp; omega
    · rcases Nat.lt_or_ge k acc.length with h' | h'
      · rw [List.getElem?_append_left h'] at hk
        exact h k m hk S hc hw j hj
      · rw [List.getElem?_append_right h'] at hk
        have h0 : k = acc.length := by
          have := (List.getElem?_eq_some_iff.1 hk).1
          simp at this; omega
        subst h0
        simp only [Nat.sub_self, List.getElem?_cons_zero, Option.some.injEq] at hk
        subst hk
        have ho : ops[acc.length]? = some o := by simpa using (hl 0 (by simp)).symm
        exact maskE_ok h hc _ 0 (fun e he hb => hw o ho e (by simpa using he) hb) (fun j' h' => by simp at h') j hj

theorem anc_spec {ops : Array Oper} : AncOk ops (ancs ops.toList []) := ancs_ok _ _ (fun j _ => by simp) fun k m e => by simp at e

/-- What 'tidy' has seen. -/
theorem tidy_spec {ops : List Oper} : ∀ (l : List Oper) (ms : List Nat) (seen : List (Nat × Nat × Nat)) (j0 : Nat), tidy ops l ms seen j0 = true → ∀ j o m, l[j]? = some o → ms[j]? = some m →
    (∀ e ∈ o.after, Region.binds .any e = true → e.on < j0 + j) ∧ (∀ q ∈ seen, m.testBit q.1 = true ∨ (q.2.1 &&& namesOf ops o = 0 ∧ q.2.2 &&& dstBit o = 0)) ∧ ∀ i x, i < j → l[i]? = some x → m.testBit (j0 + i) = true ∨ (dstBit x &&& namesOf ops o = 0 ∧ namesOf ops x &&& dstBit o = 0)
  | [], ms, seen, j0, h, j, o, m, ho, hm => by simp at ho
  | o' :: l, [], seen, j0, h, j, o, m, ho, hm => by simp at hm
  | o' :: l, m' :: ms, seen, j0, h, j, o, m, ho, hm => by
    simp only [tidy, Bool.and_eq_true] at h
    obtain ⟨⟨h1, h2⟩, h3⟩ := h
    cases j with
    | zero =>
      cases ho; cases hm
      refine ⟨fun e he hb => ?_, fun q hq => ?_, fun i x hi => absurd hi (Nat.not_lt_zero _)⟩
      · have := List.all_eq_true.1 h1 e (by simpa using he)
        rw [hb] at this
        have : Nat.blt e.on j0 = true := by simpa using this
        exact Nat.le_of_ble_eq_true this
      · have := List.all_eq_true.1 h2 q hq
        simpa using this
    | succ j =>
      obtain ⟨k1, k2, k3⟩ := tidy_spec l ms _ (j0 + 1) h3 j o m (by simpa using ho) (by simpa using hm)
      refine ⟨fun e he hb => by have := k1 e he hb; omega, fun q hq => k2 q (List.mem_cons_of_mem _ hq), fun i x hi hx => ?_⟩
      cases i with
      | zero => cases hx; exact k2 _ (List.mem_cons_self ..)
      | succ i => have := k3 i x (by omega) (by simpa using hx); rwa [show j0 + 1 + i = j0 + (i + 1) by omega] at this

theorem and_zero {a b i : Nat} (h : a &&& b = 0) (h1 : a.testBit i = true) (h2 : b.testBit i = true) : False := by
  have := Nat.testBit_and a b i
  rw [h, h1, h2] at this
  simp at this

theorem dst_bit {o : Oper} {t : Nat} : (dstBit o).testBit t = true ↔ o.dst = some t := by
  unfold dstBit
  cases o.dst with
  | none => simp
  | some d => simp [Nat.testBit_two_pow]
theorem fold_bit {t : Nat} : ∀ (l : List Operand) (m : Nat), (m.testBit t = true ∨ Operand.tmp t ∈ l) → (l.foldl (fun m x => m ||| nameBit x) m).testBit t = true
  | [], m, h => by simpa using h
  | x :: l, m, h => by
    refine fold_bit l _ ?_
    rcases h with h | h
    · left; simp [h]
    · rcases List.mem_cons.1 h with h | h
      · left; subst h; simp [nameBit]
      · exact .inr h
theorem names_bit {ops : List Oper} {o : Oper} {t : Nat} (h : o.dst = some t ∨ Operand.tmp t ∈ o.op.operands ∨ ∃ g b q, o.guard = some (g, b) ∧ ops[g]? = some q ∧ q.dst = some t) : (namesOf ops o).testBit t = true := by
  refine fold_bit _ _ ?_
  rcases h with h | h | ⟨g, b, q, h1, h2, h3⟩
  · left; simp [dst_bit.2 h]
  · right; simpa using h
  · left
    have : guardBit ops o = dstBit q := by
      unfold guardBit
      rw [h1]
      simp only [nth_eq, h2]
    simp [this, dst_bit.2 h3]

section
variable {P : Program} {F : Facts} {K : Known} {ih : Run} {ops : Array Oper} {sts : Nat → Stt} {n0 : Nat}

/-- An evaluation of a drawn region. -/
structure Trace (P : Program) (F : Facts) (K : Known) (ih : Run) (ops : Array Oper) (n0 : Nat) (sts : Nat → Stt) : Prop where
  start : (sts 0).ra = n0 ∧ (sts 0).pend = [] ∧ (sts 0).ab = 0 ∧ (sts 0).em = 0 ∧ (sts 0).snaps = [] ∧ (sts 0).watch = [] ∧ (sts 0).hc.nx = n0 + countA ops.toList
  step : ∀ j o, ops[j]? = some o → ∃ m, (ancs ops.toList [])[j]? = some m ∧ Step1 P F K ih ops.toList j o m (sts j) (sts (j + 1))
  tidy : tidy ops.toList ops.toList (ancs ops.toList []) [] 0 = true

/-- Operation e changes memory. -/
def effAt (sts : Nat → Stt) (e : Nat) : Prop := (sts (e + 1)).em.testBit e = true

theorem countA_cons (o : Oper) (l : List Oper) : countA (o :: l) = if kindO o.op = 1 then countA l + 1 else countA l := by
  show Bool.rec (motive := fun _ => Nat) (countA l) (Nat.succ (countA l)) (Nat.beq (kindO o.op) 1) = _
  rw [beq_eq]
  by_cases h : kindO o.op = 1
  · rw [if_pos h, decide_eq_true h]
  · rw [if_neg h, decide_eq_false h]
theorem kind_one {op : Op} (h : kindC P op = 1) : kindO op = 1 := by
  unfold kindC at h
  split at h
  · rename_i d x
    split at h <;> cases h
  · exact h

namespace Trace

theorem edges (T : Trace P F K ih ops n0 sts) {j : Nat} {o : Oper} (ho : ops[j]? = some o) : ∀ e ∈ o.after, Region.binds .any e = true → e.on < j := by
  obtain ⟨m, hm, _⟩ := T.step j o ho
  have := (tidy_spec _ _ _ 0 T.tidy j o m (by simpa using ho) hm).1
  simpa using this
theorem clash (T : Trace P F K ih ops n0 sts) {i j : Nat} {x o : Oper} {m : Nat} (hi : i < j) (hx : ops[i]? = some x) (ho : ops[j]? = some o) (hm : (ancs ops.toList [])[j]? = some m) : m.testBit i = true ∨ (dstBit x &&& namesOf ops.toList o = 0 ∧ namesOf ops.toList x &&& dstBit o = 0) := by
  have := (tidy_spec _ _ _ 0 T.tidy j o m (by simpa using ho) hm).2.2 i x hi (by simpa using hx)
  simpa using this
/-- Whom an operation waits for stands ahead of it. -/
theorem below (T : Trace P F K ih ops n0 sts) {j : Nat} {o : Oper} (ho : ops[j]? = some o) {m : Nat} (hm : (ancs ops.toList [])[j]? = some m) {i : Nat} (hi : m.testBit i = true) : i < j := by
  have := anc_spec j m hm (fun k => decide (k < j)) (fun a ha o' ho' e he hb => by
      have := T.edges ho' e he hb
      simp only [decide_eq_true_eq] at ha ⊢
      omega) (fun o' ho' e he hb => by
      rw [ho] at ho'; cases ho'
      have := T.edges ho e he hb
      simpa using this) i hi
  simpa using this

theorem em_low (T : Trace P F K ih ops n0 sts) : ∀ j, j ≤ ops.size → ∀ i, (sts j).em.testBit i = true → i < j
  | 0, _, i, h => by rw [T.start.2.2.2.1] at h; simp at h
  | j + 1, hj, i, h => by
    obtain ⟨m, hm, st⟩ := T.step j ops[j] (Array.getElem?_eq_getElem (by omega))
    have ih := em_low T j (by omega) i
    generalize sts (j + 1) = s' at st h
    cases st with
    | eff =>
      simp only [Nat.testBit_or, Bool.or_eq_true, Nat.testBit_shiftLeft, Bool.and_eq_true, decide_eq_true_eq] at h
      rcases h with h | ⟨h1, h2⟩
      · have := ih h; omega
      · have : i - j = 0 := by
          rcases Nat.eq_zero_or_pos (i - j) with h | h
          · exact h
          · rw [show (1 : Nat) = 2 ^ 0 from rfl, Nat.testBit_two_pow] at h2
            simp at h2; omega
        omega
    | _ => have := ih h; omega

/-- A step at e that is none of an effect leaves memory alone. -/
theorem still (T : Trace P F K ih ops n0 sts) {e : Nat} (he : e < ops.size) (hn : ¬ effAt sts e) : (sts (e + 1)).hc = (sts e).hc ∧ (sts (e + 1)).ab = (sts e).ab ∧ (sts (e + 1)).em = (sts e).em ∧ (sts (e + 1)).snaps = (sts e).snaps := by
  obtain ⟨m, hm, st⟩ := T.step e ops[e] (Array.getElem?_eq_getElem he)
  unfold effAt at hn
  generalize sts (e + 1) = s' at st hn
  cases st with
  | eff => exfalso; apply hn; simp [Nat.testBit_or, Nat.testBit_shiftLeft]
  | _ => exact ⟨rfl, rfl, rfl, rfl⟩

theorem em_mem (T : Trace P F K ih ops n0 sts) : ∀ j, j ≤ ops.size → ∀ i, i < j → effAt sts i → (sts j).em.testBit i = true
  | 0, _, i, h, _ => absurd h (Nat.not_lt_zero _)
  | j + 1, hj, i, h, he => by
    rcases Nat.lt_or_ge i j with hlt | hge
    · have ih := em_mem T j (by omega) i hlt he
      obtain ⟨m, hm, st⟩ := T.step j ops[j] (Array.getElem?_eq_getElem (by omega))
      generalize sts (j + 1) = s' at st
      cases st with
      | eff => simp [Nat.testBit_or, ih]
      | _ => exact ih
    · have : i = j := by omega
      subst this; exact he

theorem quiet (T : Trace P F K ih ops n0 sts) {a b : Nat} (hab : a ≤ b) (hb : b ≤ ops.size) (hn : ∀ e, a ≤ e → e < b → ¬ effAt sts e) : (sts b).hc = (sts a).hc ∧ (sts b).ab = (sts a).ab := by
  induction b with
  | zero => have : a = 0 := by omega
            subst this; exact ⟨rfl, rfl⟩
  | succ b ihb =>
    rcases Nat.eq_or_lt_of_le hab with h | h
    · subst h; exact ⟨rfl, rfl⟩
    · obtain ⟨k1, k2⟩ := ihb (by omega) (by omega) fun e h1 h2 => hn e h1 (by omega)
      obtain ⟨g1, g2, _⟩ := T.still (e := b) (by omega) (hn b (by omega) (by omega))
      exact ⟨g1.trans k1, g2.trans k2⟩

theorem snap_mem (T : Trace P F K ih ops n0 sts) {e : Nat} (hE : effAt sts e) : ∀ j, j ≤ ops.size → e < j → (e, (sts e).ab, (sts e).hc) ∈ (sts j).snaps
  | 0, _, h => absurd h (Nat.not_lt_zero _)
  | j + 1, hj, h => by
    obtain ⟨m, hm, st⟩ := T.step j ops[j] (Array.getElem?_eq_getElem (by omega))
    rcases Nat.lt_or_ge e j with hlt | hge
    · have ih := snap_mem T hE j (by omega) hlt
      generalize sts (j + 1) = s' at st
      cases st with
      | eff => exact List.mem_cons_of_mem _ ih
      | _ => exact ih
    · have : e = j := by omega
      subst this
      unfold effAt at hE
      generalize sts (e + 1) = s' at st hE
      cases st with
      | eff => exact List.mem_cons_self ..
      | _ => have := T.em_low e (by omega) e hE; omega

theorem watch_keep (T : Trace P F K ih ops n0 sts) {x : Nat × Nat × Oper × Env × AV} : ∀ {j j' : Nat}, j ≤ j' → j' ≤ ops.size → x ∈ (sts j).watch → x ∈ (sts j').watch
  | j, 0, h, _, hx => by have : j = 0 := by omega
                         subst this; exact hx
  | j, j' + 1, h, hj, hx => by
    rcases Nat.eq_or_lt_of_le h with h | h
    · subst h; exact hx
    · have ih := watch_keep T (j := j) (j' := j') (by omega) (by omega) hx
      obtain ⟨m, hm, st⟩ := T.step j' ops[j'] (Array.getElem?_eq_getElem (by omega))
      generalize sts (j' + 1) = s' at st
      cases st with
      | read => exact List.mem_cons_of_mem _ ih
      | _ => exact ih

/-- The rows beside memory. -/
theorem pend_ok (T : Trace P F K ih ops n0 sts) : ∀ j, j ≤ ops.size → (∀ i r row, (i, r, row) ∈ (sts j).pend → i < j ∧ n0 ≤ r ∧ r < (sts j).ra ∧ relOf row = []) ∧ Apart (sts j).pend ∧ n0 ≤ (sts j).ra ∧ (sts j).ra + countA (ops.toList.drop j) ≤ n0 + countA ops.toList
  | 0, _ => by
    obtain ⟨h1, h2, _⟩ := T.start
    rw [h2]
    exact ⟨(fun _ _ _ h => nomatch h), (fun _ _ _ _ _ _ h => nomatch h), by omega, by rw [h1]; simp⟩
  | j + 1, hj => by
    obtain ⟨k1, k2, k3, k4⟩ := pend_ok T j (by omega)
    obtain ⟨m, hm, st⟩ := T.step j ops[j] (Array.getElem?_eq_getElem (by omega))
    have hd : ops.toList.drop j = ops[j] :: ops.toList.drop (j + 1) := by
      rw [List.drop_eq_getElem_cons (by simpa using (by omega : j < ops.size))]; simp
    rw [hd, countA_cons] at k4
    have same : ∀ s' : Stt, s'.pend = (sts j).pend → s'.ra = (sts j).ra → (∀ i r row, (i, r, row) ∈ s'.pend → i < j + 1 ∧ n0 ≤ r ∧ r < s'.ra ∧ relOf row = []) ∧ Apart s'.pend ∧ n0 ≤ s'.ra ∧ s'.ra + countA (ops.toList.drop (j + 1)) ≤ n0 + countA ops.toList := fun s' e1 e2 => by
      rw [e1, e2]
      refine ⟨fun i r row h => ?_, k2, k3, ?_⟩
      · obtain ⟨q1, q2⟩ := k1 i r row h; exact ⟨by omega, q2⟩
      · split at k4 <;> omega
    generalize sts (j + 1) = s' at st
    cases st with
    | alloc hw hk e hrow hp =>
      rename_i env' v h1 row
      obtain ⟨_, _, row2, q1, q2⟩ := opV_lays hk e
      have q1 : h1.get (sts j).ra = some row2 := q1
      rw [hrow] at q1; cases q1
      rw [if_pos (kind_one hk)] at k4
      refine ⟨fun i r row' h => ?_, fun i r row1 i' r' row2 h1 h2 hor => ?_, by show n0 ≤ (sts j).ra + 1; omega, by show (sts j).ra + 1 + _ ≤ _; omega⟩
      · rcases List.mem_cons.1 h with h | h
        · cases h; exact ⟨by omega, k3, Nat.lt_succ_self _, q2⟩
        · obtain ⟨q1, q2, q3, q4⟩ := k1 i r row' h; exact ⟨by omega, q2, Nat.lt_succ_of_lt q3, q4⟩
      · rcases List.mem_cons.1 h1 with g1 | g1
        · rcases List.mem_cons.1 h2 with g2 | g2
          · cases g1; cases g2; exact ⟨rfl, rfl, rfl⟩
          · cases g1
            obtain ⟨q1, _, q3, _⟩ := k1 _ _ _ g2
            omega
        · rcases List.mem_cons.1 h2 with g2 | g2
          · cases g2
            obtain ⟨q1, _, q3, _⟩ := k1 _ _ _ g1
            omega
          · exact k2 _ _ _ _ _ _ g1 g2 hor
    | _ => exact same _ rfl rfl

theorem pend_keep (T : Trace P F K ih ops n0 sts) {x : Nat × Nat × Row} : ∀ {j j' : Nat}, j ≤ j' → j' ≤ ops.size → (x ∈ (sts j').pend ↔ x ∈ (sts j).pend ∨ (j ≤ x.1 ∧ x ∈ (sts j').pend))
  | j, 0, h, _ => by
    have : j = 0 := by omega
    subst this
    exact ⟨.inl, fun h => h.elim id (·.2)⟩
  | j, j' + 1, h, hj => by
    rcases Nat.eq_or_lt_of_le h with h | h
    · subst h; exact ⟨.inl, fun h => h.elim id (·.2)⟩
    · have ih := pend_keep T (x := x) (j := j) (j' := j') (by omega) (by omega)
      obtain ⟨m, hm, st⟩ := T.step j' ops[j'] (Array.getElem?_eq_getElem (by omega))
      generalize sts (j' + 1) = s' at st
      cases st with
      | alloc hw hk e hrow hp =>
        refine ⟨fun hx => ?_, fun hx => hx.elim (fun h => List.mem_cons_of_mem _ (ih.2 (.inl h))) (·.2)⟩
        rcases List.mem_cons.1 hx with g | g
        · refine .inr ⟨?_, hx⟩
          subst g; show j ≤ j'; omega
        · rcases ih.1 g with g | g
          · exact .inl g
          · exact .inr ⟨g.1, hx⟩
      | _ => exact ih

/-- An entry of the end's list stands in the list as soon as its operation is through. -/
theorem pend_at (T : Trace P F K ih ops n0 sts) {i r : Nat} {row : Row} {j : Nat} (hj : j ≤ ops.size) (hi : i < j) : (i, r, row) ∈ (sts ops.size).pend ↔ (i, r, row) ∈ (sts j).pend := by
  rw [T.pend_keep hj (Nat.le_refl _)]
  exact ⟨fun h => h.elim id fun h => absurd h.1 (by simp; omega), .inl⟩
end Trace
end
end Go.Exe
