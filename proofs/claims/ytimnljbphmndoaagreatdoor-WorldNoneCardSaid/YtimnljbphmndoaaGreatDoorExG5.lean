/- Drawn regions: slots and memory in any order. -/
import Derived.Test.YtimnljbphmndoaaGreatDoorExG4
namespace Go.Exe
open Go

/-- A slot after the operations of S, in the order of the text. -/
noncomputable def vAt (ops : Array Oper) (sts : Nat → Stt) (S : Nat → Bool) (t : Nat) : Nat → Option AV
  | 0 => getT (sts 0).env t
  | n + 1 => if S n = true ∧ (ops[n]?).bind (·.dst) = some t then getT (sts (n + 1)).env t else vAt ops sts S t n

def with1 (S : Nat → Bool) (j : Nat) : Nat → Bool := fun i => decide (i = j) || S i
theorem with1_self (S : Nat → Bool) (j : Nat) : with1 S j j = true := by simp [with1]
theorem with1_ne {S : Nat → Bool} {j i : Nat} (h : i ≠ j) : with1 S j i = S i := by simp [with1, h]

theorem putD_some {env env' : Env} {d : Option Nat} {v : AV} (h : putD d v env = some env') : (∀ t, d = some t → (getT env t).isSome = true) ∧ ∀ u, getT env' u = if d = some u then some v else getT env u := by
  cases d with
  | none => cases h; exact ⟨(fun _ h => nomatch h), fun u => by simp⟩
  | some t =>
    obtain ⟨h1, h2⟩ := setT_some (show setT env t v = some env' from h)
    refine ⟨fun t' e => by cases e; exact h1, fun u => ?_⟩
    rw [h2]
    by_cases hu : u = t
    · subst hu; simp
    · rw [if_neg hu, if_neg (fun e => hu (by cases e; rfl))]
theorem putD_of {env : Env} {d : Option Nat} {v : AV} (h : ∀ t, d = some t → (getT env t).isSome = true) : ∃ env', putD d v env = some env' := by
  cases d with
  | none => exact ⟨env, rfl⟩
  | some t => exact setT_of (h t rfl)

theorem ER.congr {σ : Sig} {ρ : Rho} {env env' : Env} {tmps : Array Value} (h : ER σ ρ env tmps) (e : ∀ t, getT env' t = getT env t) : ER σ ρ env' tmps := fun t x ht => h t x (by rw [← e]; exact ht)

section
variable {P : Program} {F : Facts} {K : Known} {ih : Run} {ops : Array Oper} {sts : Nat → Stt} {n0 : Nat} {o : Oper} {m j : Nat} {S : Nat → Bool}

/-- What an operation names, it finds as in the order of the text. -/
structure Comes (P : Program) (F : Facts) (K : Known) (ih : Run) (ops : Array Oper) (n0 : Nat) (sts : Nat → Stt) (S : Nat → Bool) (j : Nat) (o : Oper) (m : Nat) : Prop where
  T : Trace P F K ih ops n0 sts
  ho : ops[j]? = some o
  hm : (ancs ops.toList [])[j]? = some m
  closed : Closed ops S
  waits : Waits ops S j
  fresh : S j = false

namespace Comes

theorem lt (C : Comes P F K ih ops n0 sts S j o m) : j < ops.size := (Array.getElem?_eq_some_iff.1 C.ho).1
theorem mS (C : Comes P F K ih ops n0 sts S j o m) {i : Nat} (h : m.testBit i = true) : S i = true := anc_spec j m C.hm S C.closed C.waits i h
theorem after (C : Comes P F K ih ops n0 sts S j o m) {k : Nat} {m' : Nat} (hS : S k = true) (hm : (ancs ops.toList [])[k]? = some m') : m'.testBit j = false := by
  cases h : m'.testBit j with
  | false => rfl
  | true => have := anc_spec k m' hm S C.closed (C.closed k hS) j h; rw [C.fresh] at this; cases this

theorem dst_step (C : Comes P F K ih ops n0 sts S j o m) {i : Nat} (hi : i < ops.size) : ∃ v, putD (ops[i]).dst v (sts i).env = some (sts (i + 1)).env := by
  obtain ⟨m', _, st⟩ := C.T.step i ops[i] (Array.getElem?_eq_getElem hi)
  generalize sts (i + 1) = s' at st
  cases st <;> exact ⟨_, ‹_›⟩

theorem slots (C : Comes P F K ih ops n0 sts S j o m) {t : Nat} (ht : (namesOf ops.toList o).testBit t = true) : vAt ops sts S t ops.size = getT (sts j).env t := by
  have up : ∀ i, i ≤ j → vAt ops sts S t i = getT (sts i).env t := fun i => by
    induction i with
    | zero => intro _; rfl
    | succ i ihi =>
      intro hi
      have hlt : i < ops.size := by have := C.lt; omega
      obtain ⟨v, hv⟩ := C.dst_step hlt
      unfold vAt
      rw [Array.getElem?_eq_getElem hlt]
      by_cases hd : (ops[i]).dst = some t
      · have hS : S i = true := by
          rcases C.T.clash (by omega) (Array.getElem?_eq_getElem hlt) C.ho C.hm with h | ⟨h, _⟩
          · exact C.mS h
          · exact (and_zero h (dst_bit.2 hd) ht).elim
        rw [if_pos ⟨hS, hd⟩]
      · rw [if_neg (fun h => hd h.2), ihi (by omega), (putD_some hv).2, if_neg hd]
  have down : ∀ i, j ≤ i → i ≤ ops.size → vAt ops sts S t i = vAt ops sts S t j := fun i hji => by
    induction i with
    | zero => intro _; have : j = 0 := by omega
              rw [this]
    | succ i ihi =>
      intro hi
      rcases Nat.eq_or_lt_of_le hji with h | h
      · rw [h]
      · have hlt : i < ops.size := by omega
        rw [vAt, if_neg ?_, ihi (by omega) (by omega)]
        rintro ⟨hS, hd⟩
        rw [Array.getElem?_eq_getElem hlt] at hd
        have hne : j ≠ i := fun e => by subst e; rw [C.fresh] at hS; cases hS
        obtain ⟨m', hm', _⟩ := C.T.step i ops[i] (Array.getElem?_eq_getElem hlt)
        rcases C.T.clash (by omega) C.ho (Array.getElem?_eq_getElem hlt) hm' with h | ⟨_, h⟩
        · rw [C.after hS hm'] at h; cases h
        · exact and_zero h ht (dst_bit.2 hd)
  rw [down _ (Nat.le_of_lt C.lt) (Nat.le_refl _), up j (Nat.le_refl _)]

theorem vAt_with1 (C : Comes P F K ih ops n0 sts S j o m) (t : Nat) : vAt ops sts (with1 S j) t ops.size = if o.dst = some t then getT (sts (j + 1)).env t else vAt ops sts S t ops.size := by
  have low : ∀ i, i ≤ j → vAt ops sts (with1 S j) t i = vAt ops sts S t i := fun i => by
    induction i with
    | zero => intro _; rfl
    | succ i ihi =>
      intro hi
      unfold vAt
      rw [with1_ne (show i ≠ j by omega), ihi (by omega)]
  have high : ∀ i, j < i → i ≤ ops.size → vAt ops sts (with1 S j) t i = if o.dst = some t then getT (sts (j + 1)).env t else vAt ops sts S t i := fun i hji => by
    induction i with
    | zero => omega
    | succ i ihi =>
      intro hi
      rcases Nat.eq_or_lt_of_le hji with h | h
      · have : i = j := by omega
        subst this
        unfold vAt
        rw [with1_self, C.ho, C.fresh, low i (Nat.le_refl _)]
        simp
      · have hlt : i < ops.size := by omega
        have ihi := ihi (by omega) (by omega)
        unfold vAt
        rw [with1_ne (show i ≠ j by omega), ihi]
        by_cases hc : S i = true ∧ (ops[i]?).bind (·.dst) = some t
        · rw [if_pos hc, if_pos hc, if_neg ?_]
          intro hd
          obtain ⟨hS, hd2⟩ := hc
          rw [Array.getElem?_eq_getElem hlt] at hd2
          obtain ⟨m', hm', _⟩ := C.T.step i ops[i] (Array.getElem?_eq_getElem hlt)
          rcases C.T.clash (by omega) C.ho (Array.getElem?_eq_getElem hlt) hm' with h | ⟨_, h⟩
          · rw [C.after hS hm'] at h; cases h
          · exact and_zero h (names_bit (.inl hd)) (dst_bit.2 hd2)
        · rw [if_neg hc, if_neg hc]
  exact high _ C.lt (Nat.le_refl _)

/-- The slots' next state. -/
theorem env_step (C : Comes P F K ih ops n0 sts S j o m) {envS : Env} (he : ∀ t, getT envS t = vAt ops sts S t ops.size) {v : AV} (hp : putD o.dst v (sts j).env = some (sts (j + 1)).env) : ∃ env', putD o.dst v envS = some env' ∧ ∀ t, getT env' t = vAt ops sts (with1 S j) t ops.size := by
  obtain ⟨h1, h2⟩ := putD_some hp
  obtain ⟨env', h3⟩ := putD_of (env := envS) (d := o.dst) (v := v) fun t ht => by
    rw [he, C.slots (names_bit (.inl ht))]; exact h1 t ht
  refine ⟨env', h3, fun t => ?_⟩
  rw [(putD_some h3).2, C.vAt_with1, h2]
  by_cases hd : o.dst = some t
  · rw [if_pos hd, if_pos hd, if_pos hd]
  · rw [if_neg hd, if_neg hd, he]

theorem opd_same (C : Comes P F K ih ops n0 sts S j o m) {envS : Env} (he : ∀ t, getT envS t = vAt ops sts S t ops.size) : ∀ x ∈ o.op.operands, opd P x (sts j).env = opd P x envS := fun x hx => by
  cases x with
  | tmp t => show getT _ t = getT _ t; rw [he, C.slots (names_bit (.inr (.inl hx)))]
  | const c => rfl
  | global g => rfl
  | func f => rfl

theorem wanted_same (C : Comes P F K ih ops n0 sts S j o m) {envS : Env} (he : ∀ t, getT envS t = vAt ops sts S t ops.size) {b : Bool} (e : wantedO (guardT ops.toList o.guard) (sts j).env = some b) : wantedO (guardT ops.toList o.guard) envS = some b := by
  obtain ⟨g, h1, h2⟩ := bnd_some.1 e
  unfold wantedO
  rw [h1]
  show Option.rec (motive := fun _ => Option Bool) (some true) (fun q => bnd (getT envS q.1) fun v => wanted v q.2) g = some b
  cases hg : o.guard with
  | none => rw [hg] at h1; cases h1; exact h2
  | some q =>
    obtain ⟨i, b0⟩ := q
    rw [hg] at h1
    obtain ⟨o', k1, k2⟩ := bnd_some.1 (show bnd (nth ops.toList i) (fun o => bnd o.dst fun t => some (some (t, b0))) = some g from h1)
    obtain ⟨t, k3, k4⟩ := bnd_some.1 k2
    cases k4
    have h2 : bnd (getT (sts j).env t) (fun v => wanted v b0) = some b := h2
    show bnd (getT envS t) (fun v => wanted v b0) = some b
    rw [nth_eq] at k1
    rw [he, C.slots (names_bit (.inr (.inr ⟨i, b0, o', hg, k1, k3⟩)))]
    exact h2
end Comes

/-! ### Memory -/

/-- Memory after the operations of S: behind the effects ahead of k, with the rows beside it. -/
structure Mem (σ : Sig) (N : Nat) (ops : Array Oper) (sts : Nat → Stt) (ρ0 : Rho) (h0 : H) (w0 : World) (S : Nat → Bool) (k : Nat) (ρ : Rho) (hS : H) (w : World) : Prop where
  le : k ≤ ops.size
  eff : ∀ e, e < ops.size → effAt sts e → (S e = true ↔ e < k)
  hr : HR σ N ρ hS w
  nx : hS.nx = (sts k).hc.nx
  lt : ∀ i r row, (i, r, row) ∈ (sts ops.size).pend → r < hS.nx
  row : ∀ i r row, (i, r, row) ∈ (sts ops.size).pend → S i = true → (sts k).ab.testBit i = false → hS.get r = some row
  rest : ∀ q, (∀ i row, (i, q, row) ∈ (sts ops.size).pend → S i = true → (sts k).ab.testBit i = false → False) → hS.get q = (sts k).hc.get q
  gone : ∀ i r row, (i, r, row) ∈ (sts ops.size).pend → (sts k).ab.testBit i = false → (sts k).hc.get r = none
  rel : ∀ i r row, (i, r, row) ∈ (sts ops.size).pend → (sts k).ab.testBit i = false → ∀ q row0, (sts k).hc.get q = some row0 → r ∉ relOf row0
  free : ∀ i r row, (i, r, row) ∈ (sts ops.size).pend → S i = false → ρ r = none
  abs : ∀ i, (sts k).ab.testBit i = true → S i = true
  st : St ρ0 h0 w0 ρ hS w

variable {σ : Sig} {N : Nat} {ρ ρ' ρ0 : Rho} {h0 hS hv h' : H} {w w' w0 : World} {k : Nat}

/-- Which rows are beside what an operation sees? -/
def Beside (ops : Array Oper) (sts : Nat → Stt) (S : Nat → Bool) (m k : Nat) (q : Nat) : Prop := ∃ i row, (i, q, row) ∈ (sts ops.size).pend ∧ S i = true ∧ m.testBit i = false ∧ (sts k).ab.testBit i = false

theorem Mem.vis (M : Mem σ N ops sts ρ0 h0 w0 S k ρ hS w) (T : Trace P F K ih ops n0 sts) {m : Nat} (hm : ∀ i, m.testBit i = true → S i = true) {pend : List (Nat × Nat × Row)} (hp : ∀ i r row, m.testBit i = true → ((i, r, row) ∈ pend ↔ (i, r, row) ∈ (sts ops.size).pend)) (ha : Apart pend) {hk : H} (hhk : hk = (sts k).hc) {ab : Nat} (hab : ab = (sts k).ab) (e : visible m ab pend hk = some hv) :
    hv.nx = hS.nx ∧ (∀ q row, hv.get q = some row → hS.get q = some row) ∧ (∀ q, Beside ops sts S m k q → ∃ row, hS.get q = some row ∧ relOf row = [] ∧ hv.get q = none ∧ q < hS.nx) ∧ (∀ q, ¬ Beside ops sts S m k q → hS.get q = hv.get q) ∧ ∀ q row0 x, Beside ops sts S m k x → hv.get q = some row0 → x ∉ relOf row0 := by
  subst hhk hab
  obtain ⟨k1, k2, k3⟩ := visible_spec ha e
  have pn := T.pend_ok ops.size (Nat.le_refl _)
  have other : ∀ q, ¬ Beside ops sts S m k q → hS.get q = hv.get q := fun q hq => by
    by_cases hin : ∃ i row, (i, q, row) ∈ (sts ops.size).pend ∧ S i = true ∧ (sts k).ab.testBit i = false
    · obtain ⟨i, row, g1, g2, g3⟩ := hin
      have hmi : m.testBit i = true := by
        cases h : m.testBit i with
        | true => rfl
        | false => exact absurd ⟨i, row, g1, g2, h, g3⟩ hq
      rw [M.row i q row g1 g2 g3, k2 i q row ((hp i q row hmi).2 g1) hmi g3]
    · rw [M.rest q fun i row g1 g2 g3 => hin ⟨i, row, g1, g2, g3⟩, k3 q fun i row g1 g2 g3 => hin ⟨i, row, (hp i q row g2).1 g1, hm i g2, g3⟩]
  have besides : ∀ q, Beside ops sts S m k q → ∃ row, hS.get q = some row ∧ relOf row = [] ∧ hv.get q = none ∧ q < hS.nx := fun q ⟨i, row, g1, g2, g3, g4⟩ => by
    refine ⟨row, M.row i q row g1 g2 g4, (pn.1 i q row g1).2.2.2, ?_, M.lt i q row g1⟩
    rw [k3 q fun i' row' q1 q2 q3 => ?_, M.gone i q row g1 g4]
    obtain ⟨e1, _⟩ := pn.2.1 i q row i' q row' g1 ((hp i' q row' q2).1 q1) (.inr rfl)
    subst e1; rw [g3] at q2; cases q2
  refine ⟨by rw [k1, M.nx], fun q row hq => ?_, besides, other, fun q row0 x hx hq hc => ?_⟩
  · by_cases hb : Beside ops sts S m k q
    · obtain ⟨_, _, _, h3, _⟩ := besides q hb
      rw [hq] at h3; cases h3
    · rw [other q hb]; exact hq
  · obtain ⟨i, row, g1, g2, g3, g4⟩ := hx
    by_cases hin : ∃ i' row', (i', q, row') ∈ pend ∧ m.testBit i' = true ∧ (sts k).ab.testBit i' = false
    · obtain ⟨i', row', q1, q2, q3⟩ := hin
      rw [k2 i' q row' q1 q2 q3] at hq
      cases hq
      rw [(pn.1 i' q _ ((hp i' q _ q2).1 q1)).2.2.2] at hc; cases hc
    · rw [k3 q fun i' row' q1 q2 q3 => hin ⟨i', row', q1, q2, q3⟩] at hq
      exact M.rel i x row g1 g4 q row0 hq hc

/-- A step that is neither an effect nor lays a row. -/
theorem Mem.other (M : Mem σ N ops sts ρ0 h0 w0 S k ρ hS w) {j : Nat} (he : ¬ effAt sts j) (ha : ∀ r row, (j, r, row) ∉ (sts ops.size).pend) (hh : HR σ N ρ' hS w') (st : St ρ hS w ρ' hS w') : Mem σ N ops sts ρ0 h0 w0 (with1 S j) k ρ' hS w' := by
  have ne : ∀ {i r row}, (i, r, row) ∈ (sts ops.size).pend → with1 S j i = S i := fun {i r row} h => with1_ne fun e => by subst e; exact ha _ _ h
  exact { le := M.le, eff := fun e h1 h2 => by
            have hne : e ≠ j := fun h => by subst h; exact he h2
            rw [with1_ne hne]; exact M.eff e h1 h2, hr := hh, nx := M.nx, lt := M.lt,
          row := fun i r row h1 h2 => M.row i r row h1 (by rw [← ne h1]; exact h2), rest := fun q hq => M.rest q fun i row h1 h2 => hq i row h1 (by rw [ne h1]; exact h2), gone := M.gone, rel := M.rel,
          free := fun i r row h1 h2 => st.fresh r (M.lt i r row h1) (M.free i r row h1 (by rw [← ne h1]; exact h2)), abs := fun i h => by simp [with1, M.abs i h], st := M.st.trans st }
end
end Go.Exe
