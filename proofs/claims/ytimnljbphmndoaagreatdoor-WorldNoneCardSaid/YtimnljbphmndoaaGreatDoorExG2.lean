/- Reads, new rows, sameness; what another order leaves alone. -/
import Derived.Test.YtimnljbphmndoaaGreatDoorExG1
namespace Go.Exe
open Go

section
variable {P : Program} {F : Facts} {K : Known} {ih : Run} {env env' : Env} {h h' h1 : H} {v : AV}

theorem lenO_same {t : TypeId} {a : AV} (e : lenO P t a h = some (v, h1)) : h1 = h := by
  unfold lenO at e
  cases hu : undOf P t with
  | none => rw [hu] at e; cases (show (none : Out) = some (v, h1) from e)
  | some d =>
    rw [hu] at e
    dsimp only at e
    cases d <;> first | (cases (show (none : Out) = some (v, h1) from e); done) | skip
    case array => cases e; rfl
    case string => dsimp only at e; split at e <;> first | (cases e; rfl) | cases e
    case slice => dsimp only at e; split at e <;> first | (cases e; rfl) | cases e
    case map =>
      dsimp only at e
      split at e
      · cases e; rfl
      · unfold onMap at e
        cases hr : h.get _ with
        | none => rw [hr] at e; cases (show (none : Out) = some (v, h1) from e)
        | some row =>
          rw [hr] at e
          cases row <;> first | (cases (show (none : Out) = some (v, h1) from e); done) | skip
          case map l c => 
            have e : force (len l) (fun n => (some (AV.int .i64 (.ofNat n), h) : Out)) = some (v, h1) := e
            rw [force_eq] at e
            cases e; rfl
      · cases e
    case chan =>
      dsimp only at e
      split at e
      · cases e; rfl
      · obtain ⟨n, l, _, e⟩ := onChan_some e
        rw [force_eq] at e
        cases e; rfl
      · cases e

/-- Reads leave memory alone. -/
theorem read_same {op : Op} (hk : kindC P op = 2) (e : opV P F K ih op env h = some (v, h1)) : h1 = h := by
  cases op <;> first | (cases hk; done) | (cases (show (none : Out) = some (v, h1) from e); done) | skip
  case load t x =>
    obtain ⟨a, _, e⟩ := bnd_some.1 (show bnd (opd P x env) (fun a => loadO (szOf P t) (aggOf P t) a h) = some (v, h1) from e)
    obtain ⟨r, i, _, e⟩ := onPtr_some e
    obtain ⟨_, _, e⟩ := bnd_some.1 e
    obtain ⟨_, _, e⟩ := bnd_some.1 e
    obtain ⟨_, _, e⟩ := bnd_some.1 e
    obtain ⟨_, _, e⟩ := bnd_some.1 e
    cases e; rfl
  case lookup t x y ok =>
    obtain ⟨a, _, e⟩ := bnd_some.1 (show bnd (opd P x env) (fun a => bnd (opd P y env) fun b => lookupO P t a b ok h) = some (v, h1) from e)
    obtain ⟨b, _, e⟩ := bnd_some.1 e
    unfold lookupO onKey at e
    obtain ⟨kt, et, _, e⟩ := bnd2_some.1 e
    obtain ⟨_, e⟩ := ite_some.1 e
    obtain ⟨q, _, e⟩ := bnd_some.1 e
    cases q with
    | none =>
      obtain ⟨z, _, e⟩ := bnd_some.1 e
      cases ok <;> (cases e; rfl)
    | some q => cases ok <;> (cases e; rfl)
  case convert s d x =>
    obtain ⟨a, _, e⟩ := bnd_some.1 (show bnd (opd P x env) (fun a => convF P F s d a h) = some (v, h1) from e)
    have cv : convF P F s d a h = some (v, h1) → (convertO P s d a h = some (v, h1) → h1 = h) → h1 = h := fun e k => by
      cases a <;> first | exact (vO_any e).1 | exact k e
    refine cv e fun e => ?_
    unfold kindC at hk
    unfold convertO at e
    cases hs : undOf P s with
    | none => rw [hs] at e; cases (show (none : Out) = some (v, h1) from e)
    | some ds =>
      cases hd : undOf P d with
      | none => rw [hs, hd] at e; cases (show (none : Out) = some (v, h1) from e)
      | some dd =>
        rw [hs, hd] at e
        simp only [hd] at hk
        cases dd <;> first | (cases hk; done) | skip
        case string =>
          dsimp only at e
          split at e
          · cases e; rfl
          · obtain ⟨_, e⟩ := ite_some.1 e; cases e; rfl
          · obtain ⟨_, e⟩ := ite_some.1 e
            obtain ⟨_, _, e⟩ := bnd_some.1 e
            obtain ⟨_, _, e⟩ := bnd_some.1 e
            cases e; rfl
          · cases e
  case call c =>
    unfold kindC kindO at hk
    have e : callF P K F ih c env h = some (v, h1) := e
    unfold callF at e
    cases hs : symLen P c env with
    | some s => rw [hs] at e; exact (vO_any (x := F.len s) e).1
    | none =>
    rw [hs] at e
    have e : callO P K ih c env h = some (v, h1) := e
    unfold callO at e
    obtain ⟨cal, args, ats⟩ := c
    cases cal with
    | value f => cases hk
    | invoke r n => cases hk
    | builtin b =>
      cases b <;> first | (cases hk; done) | skip
      case len =>
        obtain ⟨l, _, e⟩ := bnd_some.1 (show bnd (opds P args.toList env) (fun l => builtinO P .len ats.toList l h) = some (v, h1) from e)
        generalize ats.toList = tl at e
        cases tl with
        | nil => cases (show (none : Out) = some (v, h1) from e)
        | cons t ts =>
          cases ts with
          | cons => cases (show (none : Out) = some (v, h1) from e)
          | nil =>
            cases l with
            | nil => cases (show (none : Out) = some (v, h1) from e)
            | cons a l =>
              cases l with
              | cons => cases (show (none : Out) = some (v, h1) from e)
              | nil => exact lenO_same (P := P) (t := t) (a := a) e

/-- New rows. -/
theorem opV_lays {op : Op} (hk : kindC P op = 1) (e : opV P F K ih op env h = some (v, h1)) : Lays h h1 := by
  cases op <;> first | (cases hk; done) | (cases (show (none : Out) = some (v, h1) from e); done) | skip
  case alloc t => exact allocO_lays (P := P) (t := t) e
  case box t x => obtain ⟨a, _, e⟩ := bnd_some.1 (show bnd (opd P x env) (fun v => onCellsOf v fun l => force (len l) fun n => newV t n l h) = some (v, h1) from e); exact boxO_lays e
  case buildSlice t n ps => obtain ⟨a, _, e⟩ := bnd_some.1 (show bnd (parts P ps.toList env) (fun l => buildSliceO P t n l h) = some (v, h1) from e); exact buildSliceO_lays e
  case makeSlice t x y =>
    obtain ⟨a, _, e⟩ := bnd_some.1 (show bnd (opd P x env) (fun a => bnd (opd P y env) fun b => makeSliceO P t a b h) = some (v, h1) from e)
    obtain ⟨b, _, e⟩ := bnd_some.1 e
    exact makeSliceO_lays e
  case makeChan t x =>
    obtain ⟨a, _, e⟩ := bnd_some.1 (show bnd (opd P x env) (fun a => makeChanO P t a h) = some (v, h1) from e)
    exact (makeChanO_lays e).1
  case makeMap t r =>
    cases r with
    | some => cases (show (none : Out) = some (v, h1) from e)
    | none => exact (makeMapO_lays e).1
  case convert s d x =>
    unfold kindC at hk
    cases hd : undOf P d with
    | none => simp [hd] at hk
    | some dd => simp only [hd] at hk; cases dd <;> simp at hk
  case call c =>
    unfold kindC kindO at hk
    obtain ⟨cal, args, ats⟩ := c
    cases cal with
    | value f => cases hk
    | invoke r n => cases hk
    | builtin b => cases b <;> cases hk

theorem opV_lain {σ : Sig} {N : Nat} {ρ : Rho} {h0 hx hx' : H} {w w0 : World} {ρ0 : Rho} {o : Oper} {a : Act} (hσ : ∀ i, (σ i).oneCell' = true) (hN : N = P.globals.size) (L : Laid σ N ρ h w ρ0 h0 w0 hx hx' h') (he : ER σ ρ env a.tmps) (hk : kindC P o.op = 1) (e : opV P F K ih o.op env hx = some (v, hx')) : Lain P σ N o a ρ w ρ0 h0 w0 hx.nx v h' := by
  have hg : Glo P ρ := fun g hgl => L.hh.glob g (hN ▸ hgl)
  cases ho : o.op <;> rw [ho] at hk e <;> first | (cases hk; done) | (cases (show (none : Out) = some (v, hx') from e); done) | skip
  case alloc t => exact op_alloc_gen L hσ ho e
  case box t x =>
    obtain ⟨y, h1, e⟩ := bnd_some.1 (show bnd (opd P x env) (fun v => onCellsOf v fun l => force (len l) fun n => newV t n l hx) = some (v, hx') from e)
    exact op_box_gen L hσ ho (opd_ok hg he h1) e
  case buildSlice t n ps =>
    obtain ⟨l, h1, e⟩ := bnd_some.1 (show bnd (parts P ps.toList env) (fun l => buildSliceO P t n l hx) = some (v, hx') from e)
    exact op_buildSlice_gen L hσ ho (parts_ok hg he h1) e
  case makeSlice t x y =>
    obtain ⟨b, h1, e⟩ := bnd_some.1 (show bnd (opd P x env) (fun a => bnd (opd P y env) fun b => makeSliceO P t a b hx) = some (v, hx') from e)
    obtain ⟨c, h2, e⟩ := bnd_some.1 e
    exact op_makeSlice_gen L hσ ho (opd_ok hg he h1) (opd_ok hg he h2) e
  case makeChan t x =>
    obtain ⟨b, h1, e⟩ := bnd_some.1 (show bnd (opd P x env) (fun a => makeChanO P t a hx) = some (v, hx') from e)
    exact op_makeChan_gen L ho (opd_ok hg he h1) e
  case makeMap t r =>
    cases r with
    | some => cases (show (none : Out) = some (v, hx') from e)
    | none => exact op_makeMap_gen L ho e
  case convert s d x =>
    exfalso
    unfold kindC at hk
    cases hd : undOf P d with
    | none => simp [hd] at hk
    | some dd => simp only [hd] at hk; cases dd <;> simp at hk
  case call c =>
    exfalso
    unfold kindC kindO at hk
    obtain ⟨cal, args, ats⟩ := c
    cases cal with
    | value f => cases hk
    | invoke r n => cases hk
    | builtin b => cases b <;> cases hk

/-! ### Sameness -/

/-! ### Slots and rows set without fail -/

theorem setN_of {α : Type} {x : α} : ∀ {l : List α} {i : Nat}, i < l.length → ∃ l', setN x l i = some l'
  | [], i, h => absurd h (Nat.not_lt_zero _)
  | a :: l, 0, _ => ⟨x :: l, rfl⟩
  | a :: l, i + 1, h => by
    obtain ⟨l', e⟩ := setN_of (x := x) (l := l) (i := i) (by simpa using h)
    exact ⟨a :: l', show bnd (setN x l i) (fun l' => some (a :: l')) = _ by rw [e]; rfl⟩
theorem setT_of {t : Nat} {x : AV} (h : (getT env t).isSome = true) : ∃ env', setT env t x = some env' := by
  obtain ⟨y, hy⟩ := Option.isSome_iff_exists.1 h
  obtain ⟨l, h1, h2⟩ := bnd_some.1 hy
  have h1' := h1
  rw [nth_eq] at h1' h2
  obtain ⟨l', h3⟩ := setN_of (x := x) (List.getElem?_eq_some_iff.1 h2).1
  obtain ⟨e', h4⟩ := setN_of (x := l') (List.getElem?_eq_some_iff.1 h1').1
  refine ⟨e', ?_⟩
  show bnd (nth env (Nat.div t 8)) (fun l => bnd (setN x l (Nat.mod t 8)) fun l => setN l env (Nat.div t 8)) = _
  rw [h1]
  show bnd (setN x l (Nat.mod t 8)) (fun l => setN l env (Nat.div t 8)) = _
  rw [h3]
  exact h4

theorem Tr.set_of {α : Type} (x : Option α) : ∀ (d : Nat) (t : Tr α) (i : Nat), i < d → ∃ t', t.set x d i = some t'
  | 0, _, _, h => absurd h (Nat.not_lt_zero _)
  | d + 1, t, i, h => by
    have node : ∀ (l : Tr α) (v : Option α) (r : Tr α), ∃ t', Bool.rec (motive := fun _ => Option (Tr α)) (Bool.rec (motive := fun _ => Option (Tr α)) (bnd (Tr.set x d r (Nat.pred (Nat.div i 2))) fun r => some (.node l v r)) (bnd (Tr.set x d l (Nat.div i 2)) fun l => some (.node l v r)) (Nat.beq (Nat.land i 1) 1)) (some (.node l x r)) (Nat.beq i 0) = some t' := fun l v r => by
      cases h0 : Nat.beq i 0 with
      | true => exact ⟨_, rfl⟩
      | false =>
        have hi : i ≠ 0 := fun e => by subst e; cases h0
        have h2 : Nat.div i 2 = i / 2 := rfl
        cases Nat.beq (Nat.land i 1) 1 with
        | true => obtain ⟨t', e⟩ := Tr.set_of x d l (Nat.div i 2) (by rw [h2]; omega); exact ⟨_, by dsimp only; rw [e]; rfl⟩
        | false => obtain ⟨t', e⟩ := Tr.set_of x d r (Nat.pred (Nat.div i 2)) (by rw [h2, Nat.pred_eq_sub_one]; omega); exact ⟨_, by dsimp only; rw [e]; rfl⟩
    cases t with
    | leaf => exact node .leaf none .leaf
    | node l v r => exact node l v r
theorem put_of (h : H) (r : Nat) (row : Option Row) : ∃ h' : H, h'.nx = h.nx ∧ ∀ q, h'.get q = if q = r then row else h.get q := by
  obtain ⟨t, nx⟩ := h
  obtain ⟨t', e⟩ := Tr.set_of row (r + 1) t r (Nat.lt_succ_self _)
  exact ⟨⟨t', nx⟩, rfl, Tr.get_set e⟩

theorem bit_eq (m i : Nat) : bit m i = m.testBit i := by
  show Nat.beq (Nat.land (Nat.shiftRight m i) 1) 1 = _
  show Nat.beq ((m >>> i) &&& 1) 1 = _
  rw [beq_eq, Nat.testBit, Nat.and_comm (m >>> i) 1]
  have : (1 &&& m >>> i) = (m >>> i) % 2 := by rw [Nat.and_comm, Nat.and_one_is_mod]
  rw [this]
  rcases Nat.mod_two_eq_zero_or_one (m >>> i) with h | h <;> rw [h] <;> rfl

/-- Rows that lie beside memory. -/
def Apart (pend : List (Nat × Nat × Row)) : Prop := ∀ i r row i' r' row', (i, r, row) ∈ pend → (i', r', row') ∈ pend → (i = i' ∨ r = r') → i = i' ∧ r = r' ∧ row = row'

theorem visible_spec {m ab : Nat} : ∀ {pend : List (Nat × Nat × Row)} {h hv : H}, Apart pend → visible m ab pend h = some hv → hv.nx = h.nx ∧ (∀ i r row, (i, r, row) ∈ pend → m.testBit i = true → ab.testBit i = false → hv.get r = some row) ∧ ∀ q, (∀ i row, (i, q, row) ∈ pend → m.testBit i = true → ab.testBit i = false → False) → hv.get q = h.get q
  | [], h, hv, _, e => by cases e; exact ⟨rfl, (fun _ _ _ h => nomatch h), fun _ _ => rfl⟩
  | (i, r, row) :: pend, h, hv, hp, e => by
    have hp' : Apart pend := fun a b c a' b' c' h1 h2 => hp a b c a' b' c' (List.mem_cons_of_mem _ h1) (List.mem_cons_of_mem _ h2)
    have e : Bool.rec (motive := fun _ => Option H) (visible m ab pend h) (Bool.rec (motive := fun _ => Option H) (bnd (h.put r (some row)) (visible m ab pend)) (visible m ab pend h) (bit ab i)) (bit m i) = some hv := e
    have skip : visible m ab pend h = some hv → (m.testBit i = true → ab.testBit i = false → False) → hv.nx = h.nx ∧ (∀ j s row', (j, s, row') ∈ (i, r, row) :: pend → m.testBit j = true → ab.testBit j = false → hv.get s = some row') ∧ ∀ q, (∀ j row', (j, q, row') ∈ (i, r, row) :: pend → m.testBit j = true → ab.testBit j = false → False) → hv.get q = h.get q := fun e hno => by
      obtain ⟨k1, k2, k3⟩ := visible_spec hp' e
      refine ⟨k1, fun j s row' hm h1 h2 => ?_, fun q hq => k3 q fun j row' hm => hq j row' (List.mem_cons_of_mem _ hm)⟩
      rcases List.mem_cons.1 hm with h3 | h3
      · cases h3; exact (hno h1 h2).elim
      · exact k2 j s row' h3 h1 h2
    rw [bit_eq, bit_eq] at e
    cases h1 : m.testBit i with
    | false => rw [h1] at e; exact skip e fun h => by rw [h1] at h; cases h
    | true =>
      cases h2 : ab.testBit i with
      | true => rw [h1, h2] at e; exact skip e fun _ h => by rw [h2] at h; cases h
      | false =>
        rw [h1, h2] at e
        obtain ⟨h3, e1, e2⟩ := bnd_some.1 (show bnd (h.put r (some row)) (visible m ab pend) = some hv from e)
        obtain ⟨p1, p2⟩ := put_some e1
        obtain ⟨k1, k2, k3⟩ := visible_spec hp' e2
        refine ⟨k1.trans p1, fun j s row' hm g1 g2 => ?_, fun q hq => ?_⟩
        · by_cases hin : ∃ j' row2, (j', s, row2) ∈ pend ∧ m.testBit j' = true ∧ ab.testBit j' = false
          · obtain ⟨j', row2, q1, q2, q3⟩ := hin
            obtain ⟨_, _, h5⟩ := hp j s row' j' s row2 hm (List.mem_cons_of_mem _ q1) (.inr rfl)
            rw [h5]
            exact k2 j' s row2 q1 q2 q3
          · rcases List.mem_cons.1 hm with h4 | h4
            · cases h4
              rw [k3 r fun j' row2 q1 q2 q3 => hin ⟨j', row2, q1, q2, q3⟩, p2, if_pos rfl]
            · exact (hin ⟨j, row', h4, g1, g2⟩).elim
        · rw [k3 q fun j row' hm => hq j row' (List.mem_cons_of_mem _ hm), p2, if_neg ?_]
          intro e; subst e
          exact hq i row (List.mem_cons_self ..) h1 h2

theorem rest_visible {ab : Nat} : ∀ {pend : List (Nat × Nat × Row)} {h : H} {m : Nat}, (∀ i r row, (i, r, row) ∈ pend → m.testBit i = true) → restOf ab pend h = visible m ab pend h
  | [], _, _, _ => rfl
  | (i, r, row) :: pend, h, m, hm => by
    have ih : ∀ h, restOf ab pend h = visible m ab pend h := fun h => rest_visible fun i r row hi => hm i r row (List.mem_cons_of_mem _ hi)
    show Bool.rec (motive := fun _ => Option H) (bnd (h.put r (some row)) (restOf ab pend)) (restOf ab pend h) (bit ab i) = Bool.rec (motive := fun _ => Option H) (visible m ab pend h) (Bool.rec (motive := fun _ => Option H) (bnd (h.put r (some row)) (visible m ab pend)) (visible m ab pend h) (bit ab i)) (bit m i)
    rw [bit_eq m, hm i r row (List.mem_cons_self ..), ih, show restOf ab pend = visible m ab pend from funext ih]
end
end Go.Exe
