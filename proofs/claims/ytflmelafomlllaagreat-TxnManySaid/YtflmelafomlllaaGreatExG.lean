/- What operations look at. -/
import Derived.Test.YtflmelafomlllaaGreatExF
namespace Go.Exe
open Go

section
variable {P : Program} {F : Facts} {K : Known} {ih : Run} {env env' : Env} {h h' h1 : H} {v : AV}

theorem opds_congr : ∀ {l : List Operand}, (∀ x ∈ l, opd P x env = opd P x env') → opds P l env = opds P l env'
  | [], _ => rfl
  | x :: l, H => by
    show bnd (opd P x env) (fun v => bnd (opds P l env) fun r => some (v :: r)) = bnd (opd P x env') (fun v => bnd (opds P l env') fun r => some (v :: r))
    rw [H x (List.mem_cons_self ..), opds_congr fun y hy => H y (List.mem_cons_of_mem _ hy)]
theorem parts_congr : ∀ {l : List (Nat × Operand)}, (∀ x ∈ l, opd P x.2 env = opd P x.2 env') → parts P l env = parts P l env'
  | [], _ => rfl
  | (i, x) :: l, H => by
    show bnd (opd P x env) (fun v => bnd (parts P l env) fun r => some ((i, v) :: r)) = bnd (opd P x env') (fun v => bnd (parts P l env') fun r => some ((i, v) :: r))
    rw [H (i, x) (List.mem_cons_self ..), parts_congr fun y hy => H y (List.mem_cons_of_mem _ hy)]
theorem bmap_congr {x : Option Operand} (H : ∀ y, x = some y → opd P y env = opd P y env') : (x.map fun o => opd P o env) = (x.map fun o => opd P o env') := by
  cases x with
  | none => rfl
  | some y => exact congrArg some (H y rfl)

theorem callO_congr {c : Call} (H : ∀ x ∈ c.operands, opd P x env = opd P x env') : callO P K ih c env h = callO P K ih c env' h := by
  unfold callO
  unfold Call.operands at H
  cases hc : c.callee with
  | builtin b =>
    rw [hc] at H
    show bnd (opds P c.args.toList env) _ = bnd (opds P c.args.toList env') _
    rw [opds_congr fun x hx => H x (by simp at hx ⊢; exact hx)]
  | value f =>
    rw [hc] at H
    show bnd (opd P f env) (fun fv => bnd (opds P c.args.toList env) _) = bnd (opd P f env') (fun fv => bnd (opds P c.args.toList env') _)
    rw [opds_congr fun x hx => H x (by simp at hx ⊢; exact .inr hx), H f (by simp)]
  | invoke r n => rfl

theorem callF_callO {c : Call} (hc : c.callee ≠ .builtin .len) : callF P K F ih c env h = callO P K ih c env h := by
  unfold callF symLen
  split
  · contradiction
  · rfl
/-- Slots that are not named do not matter. -/
theorem opV_congr {op : Op} (H : ∀ x ∈ op.operands, opd P x env = opd P x env') : opV P F K ih op env h = opV P F K ih op env' h := by
  cases op <;> first | rfl | skip
  case move x => exact congrArg (vO · h) (H x (by simp [Op.operands]))
  case assign x => exact congrArg (vO · h) (H x (by simp [Op.operands]))
  case pick c x y =>
    show onBool (opd P c env) (vO (opd P x env) h) (vO (opd P y env) h) = onBool (opd P c env') (vO (opd P x env') h) (vO (opd P y env') h)
    rw [H c (by simp [Op.operands]), H x (by simp [Op.operands]), H y (by simp [Op.operands])]
  case box t x => exact congrArg (bnd · _) (H x (by simp [Op.operands]))
  case build t ps => exact congrArg (bnd · _) (parts_congr fun x hx => H x.2 (by simp [Op.operands]; exact ⟨_, by simpa using hx⟩))
  case buildSlice t n ps => exact congrArg (bnd · _) (parts_congr fun x hx => H x.2 (by simp [Op.operands]; exact ⟨_, by simpa using hx⟩))
  case load t x => exact congrArg (bnd · _) (H x (by simp [Op.operands]))
  case nilCheck x => exact congrArg (bnd · _) (H x (by simp [Op.operands]))
  case unOp u t x => exact congrArg (bnd · _) (H x (by simp [Op.operands]))
  case convert s d x => exact congrArg (bnd · _) (H x (by simp [Op.operands]))
  case makeInterface t x => exact congrArg (bnd · _) (H x (by simp [Op.operands]))
  case fieldAddr t x f => exact congrArg (bnd · _) (H x (by simp [Op.operands]))
  case field t x f => exact congrArg (bnd · _) (H x (by simp [Op.operands]))
  case extract x i => exact congrArg (bnd · _) (H x (by simp [Op.operands]))
  case call c =>
    show callF P K F ih c env h = callF P K F ih c env' h
    unfold callF
    rw [show symLen P c env = symLen P c env' from ?_, callO_congr H]
    unfold symLen
    split
    · rename_i hc
      congr 1
      funext t
      congr 1
      have : ∀ x ∈ c.args.toList, opd P x env = opd P x env' := fun x hx => H x (by
        show x ∈ c.operands
        unfold Call.operands
        rw [hc]
        simpa using hx)
      generalize c.args.toList = l at this ⊢
      cases l with
      | nil => rfl
      | cons x l =>
        cases l with
        | nil => show bnd (opd P x env) symO = bnd (opd P x env') symO; rw [this x (List.mem_cons_self ..)]
        | cons => rfl
    · rfl
  case store t x y =>
    show bnd (opd P x env) (fun a => bnd (opd P y env) _) = bnd (opd P x env') (fun a => bnd (opd P y env') _)
    rw [H x (by simp [Op.operands]), H y (by simp [Op.operands])]
  case binOp b t x y ty =>
    show bnd (opd P x env) (fun a => bnd (opd P y env) fun c => vO (binO P F b t (isC x || isC y) a c) h) = bnd (opd P x env') (fun a => bnd (opd P y env') fun c => vO (binO P F b t (isC x || isC y) a c) h)
    rw [H x (by simp [Op.operands]), H y (by simp [Op.operands])]
  case makeSlice t x y =>
    show bnd (opd P x env) (fun a => bnd (opd P y env) _) = bnd (opd P x env') (fun a => bnd (opd P y env') _)
    rw [H x (by simp [Op.operands]), H y (by simp [Op.operands])]
  case indexAddr t x y =>
    show bnd (opd P x env) (fun a => bnd (opd P y env) fun j => vO (indexAddrO (elemO P t) a j) h) = bnd (opd P x env') (fun a => bnd (opd P y env') fun j => vO (indexAddrO (elemO P t) a j) h)
    rw [H x (by simp [Op.operands]), H y (by simp [Op.operands])]
  case index t x y =>
    show bnd (opd P x env) (fun a => bnd (opd P y env) fun j => vO (indexF P F t (elemO P t) a j) h) = bnd (opd P x env') (fun a => bnd (opd P y env') fun j => vO (indexF P F t (elemO P t) a j) h)
    rw [H x (by simp [Op.operands]), H y (by simp [Op.operands])]
  case makeMap t r => cases r <;> rfl
  case makeChan t x => exact congrArg (bnd · _) (H x (by simp [Op.operands]))
  case lookup t x y ok =>
    show bnd (opd P x env) (fun a => bnd (opd P y env) _) = bnd (opd P x env') (fun a => bnd (opd P y env') _)
    rw [H x (by simp [Op.operands]), H y (by simp [Op.operands])]
  case mapEntry t x y =>
    show bnd (opd P x env) (fun a => bnd (opd P y env) _) = bnd (opd P x env') (fun a => bnd (opd P y env') _)
    rw [H x (by simp [Op.operands]), H y (by simp [Op.operands])]
  case mapUpdate t x y z =>
    show bnd (opd P x env) (fun a => bnd (opd P y env) fun b => bnd (opd P z env) _) = bnd (opd P x env') (fun a => bnd (opd P y env') fun b => bnd (opd P z env') _)
    rw [H x (by simp [Op.operands]), H y (by simp [Op.operands]), H z (by simp [Op.operands])]
  case insert t x y z =>
    show bnd (opd P x env) (fun a => bnd (opd P y env) fun b => bnd (opd P z env) _) = bnd (opd P x env') (fun a => bnd (opd P y env') fun b => bnd (opd P z env') _)
    rw [H x (by simp [Op.operands]), H y (by simp [Op.operands]), H z (by simp [Op.operands])]
  case entryStore t x y z =>
    show bnd (opd P x env) (fun a => bnd (opd P y env) fun b => bnd (opd P z env) _) = bnd (opd P x env') (fun a => bnd (opd P y env') fun b => bnd (opd P z env') _)
    rw [H x (by simp [Op.operands]), H y (by simp [Op.operands]), H z (by simp [Op.operands])]
  case range t x => exact congrArg (bnd · _) (H x (by simp [Op.operands]))
  case entry x => exact congrArg (bnd · _) (H x (by simp [Op.operands]))
  case next x s =>
    cases s with
    | true => rfl
    | false => exact congrArg (bnd · _) (H x (by simp [Op.operands]))
  case makeFunc f x y =>
    show bnd (opds P x.toList env) (fun l => bnd (opds P y.toList env) _) = bnd (opds P x.toList env') (fun l => bnd (opds P y.toList env') _)
    rw [opds_congr fun z hz => H z (by simp [Op.operands] at hz ⊢; exact .inl hz), opds_congr (l := y.toList) fun z hz => H z (by simp [Op.operands] at hz ⊢; exact .inr hz)]
  case slice t x lo hi mx =>
    show bnd (opd P x env) (fun a => vO (sliceF P F t a (lo.map fun o => opd P o env) (hi.map fun o => opd P o env) (mx.map fun o => opd P o env)) h) = bnd (opd P x env') (fun a => vO (sliceF P F t a (lo.map fun o => opd P o env') (hi.map fun o => opd P o env') (mx.map fun o => opd P o env')) h)
    rw [H x (by simp [Op.operands]), bmap_congr (x := lo) fun y hy => H y (by simp [Op.operands, hy]), bmap_congr (x := hi) fun y hy => H y (by simp [Op.operands, hy]), bmap_congr (x := mx) fun y hy => H y (by simp [Op.operands, hy])]

theorem vO_any {x : Option AV} (e : vO x h = some (v, h1)) : h1 = h ∧ ∀ h2, vO x h2 = some (v, h2) := by
  obtain ⟨rfl, rfl⟩ := vO_some e
  exact ⟨rfl, fun _ => rfl⟩
theorem bnd_any {α : Type} {x : Option α} {k : α → H → Out} (e : bnd x (fun a => k a h) = some (v, h1)) (H : ∀ a, k a h = some (v, h1) → h1 = h ∧ ∀ h2, k a h2 = some (v, h2)) : h1 = h ∧ ∀ h2, bnd x (fun a => k a h2) = some (v, h2) := by
  obtain ⟨a, rfl, e⟩ := bnd_some.1 e
  exact H a e
theorem ite_any {b : Bool} {k : H → Out} (e : ite' b (k h) = some (v, h1)) (H : k h = some (v, h1) → h1 = h ∧ ∀ h2, k h2 = some (v, h2)) : h1 = h ∧ ∀ h2, ite' b (k h2) = some (v, h2) := by
  obtain ⟨rfl, e⟩ := ite_some.1 e
  exact H e
theorem some_any {x : AV} (e : (some (x, h) : Out) = some (v, h1)) : h1 = h ∧ ∀ h2, (some (x, h2) : Out) = some (v, h2) := by cases e; exact ⟨rfl, fun _ => rfl⟩
theorem capO_any {t : TypeId} {a : AV} (e : capO P t a h = some (v, h1)) : h1 = h ∧ ∀ h2, capO P t a h2 = some (v, h2) := by
  obtain ⟨q, h3, e⟩ := bnd_some.1 e
  split at e
  · cases e; exact ⟨rfl, fun h2 => by unfold capO; rw [h3]; rfl⟩
  · cases e; exact ⟨rfl, fun h2 => by unfold capO; rw [h3]; rfl⟩
  · cases e

theorem undOf_eq {t : TypeId} : undOf P t = P.underlying t := rfl

/-- Operations that look at values alone. -/
theorem pure_any {op : Op} (hk : kindC P op = 0) (e : opV P F K ih op env h = some (v, h1)) : h1 = h ∧ ∀ h2, opV P F K ih op env h2 = some (v, h2) := by
  cases op <;> first | (cases hk; done) | (cases (show (none : Out) = some (v, h1) from e); done) | skip
  case move x => exact vO_any e
  case assign x => exact vO_any e
  case pick c x y =>
    obtain ⟨b, h2, e⟩ := onBool_some (show onBool (opd P c env) (vO (opd P x env) h) (vO (opd P y env) h) = some (v, h1) from e)
    have key : h1 = h ∧ ∀ h2, (bif b then vO (opd P x env) h2 else vO (opd P y env) h2) = some (v, h2) := by cases b <;> exact vO_any e
    refine ⟨key.1, fun h3 => ?_⟩
    show onBool (opd P c env) (vO (opd P x env) h3) (vO (opd P y env) h3) = _
    rw [h2]
    have := key.2 h3
    cases b <;> exact this
  case build t ps => exact bnd_any (k := fun l h => vO (buildO P t l) h) e fun _ => vO_any
  case nilCheck x => exact bnd_any (k := fun a h => vO (nilCheckO a) h) e fun _ => vO_any
  case unOp u t x => exact bnd_any (k := fun a h => vO (unO u a) h) e fun _ => vO_any
  case makeInterface t x => exact bnd_any (k := fun a h => ite' (concT P t) (some (.ifc t a, h))) e fun _ e => ite_any (k := fun h => some (.ifc t _, h)) e some_any
  case fieldAddr t x f => exact bnd_any (k := fun a h => vO (fieldAddrO (fieldO P t f) a) h) e fun _ => vO_any
  case field t x f => exact bnd_any (k := fun a h => vO (fieldVO (fieldO P t f) a) h) e fun _ => vO_any
  case extract x i => exact bnd_any (k := fun a h => vO (tupO a i) h) e fun _ => vO_any
  case binOp b t x y ty => exact bnd_any (k := fun a h => bnd (opd P y env) fun c => vO (binO P F b t (isC x || isC y) a c) h) e fun _ e => bnd_any (k := fun c h => vO (binO P F b t (isC x || isC y) _ c) h) e fun _ => vO_any
  case indexAddr t x y => exact bnd_any (k := fun a h => bnd (opd P y env) fun c => vO (indexAddrO (elemO P t) a c) h) e fun _ e => bnd_any (k := fun c h => vO (indexAddrO (elemO P t) _ c) h) e fun _ => vO_any
  case index t x y => exact bnd_any (k := fun a h => bnd (opd P y env) fun c => vO (indexF P F t (elemO P t) a c) h) e fun _ e => bnd_any (k := fun c h => vO (indexF P F t (elemO P t) _ c) h) e fun _ => vO_any
  case makeFunc f x y => exact bnd_any (k := fun l h => bnd (opds P y.toList env) fun m => some (.fn f l m, h)) e fun _ e => bnd_any (k := fun m h => some (.fn f _ m, h)) e fun _ => some_any
  case slice t x lo hi mx => exact bnd_any (k := fun a h => vO (sliceF P F t a (lo.map fun o => opd P o env) (hi.map fun o => opd P o env) (mx.map fun o => opd P o env)) h) e fun _ => vO_any
  case convert s d x =>
    refine bnd_any (k := fun a h => convF P F s d a h) e fun a e => ?_
    have cv : convF P F s d a h = some (v, h1) → (convertO P s d a h = some (v, h1) → h1 = h ∧ ∀ h2, convertO P s d a h2 = some (v, h2)) → h1 = h ∧ ∀ h2, convF P F s d a h2 = some (v, h2) := fun e k => by
      cases a <;> first | exact vO_any e | exact k e
    refine cv e fun e => ?_
    unfold kindC at hk
    unfold convertO at e ⊢
    cases hs : undOf P s with
    | none => rw [hs] at e; cases (show (none : Out) = some (v, h1) from e)
    | some ds =>
      cases hd : undOf P d with
      | none => rw [hs, hd] at e; cases (show (none : Out) = some (v, h1) from e)
      | some dd =>
        rw [hs, hd] at e
        simp only [hd] at hk
        cases dd <;> first | (cases hk; done) | skip
        case int k =>
          cases a <;> first | (cases (show (none : Out) = some (v, h1) from e); done) | skip
          case int _ n _ => exact vO_any (x := mkI k n) e
  case call c =>
    have hl : c.callee ≠ .builtin .len := fun hc => by
      obtain ⟨cal, args, ats⟩ := c
      cases hc; cases hk
    unfold kindC kindO at hk
    have e : callO P K ih c env h = some (v, h1) := (callF_callO hl).symm.trans e
    suffices hg : h1 = h ∧ ∀ h2, callO P K ih c env h2 = some (v, h2) from ⟨hg.1, fun h2 => (callF_callO hl).trans (hg.2 h2)⟩
    unfold callO at e ⊢
    obtain ⟨cal, args, ats⟩ := c
    cases cal with
    | value f => cases hk
    | invoke r n => cases hk
    | builtin b =>
      cases b <;> first | (cases hk; done) | skip
      case max =>
        refine bnd_any (k := fun l h => builtinO P .max ats.toList l h) e fun l e => ?_
        cases l with
        | nil => cases (show (none : Out) = some (v, h1) from e)
        | cons a l => exact vO_any (x := minmax false l a) e
      case min =>
        refine bnd_any (k := fun l h => builtinO P .min ats.toList l h) e fun l e => ?_
        cases l with
        | nil => cases (show (none : Out) = some (v, h1) from e)
        | cons a l => exact vO_any (x := minmax true l a) e
      case cap =>
        refine bnd_any (k := fun l h => builtinO P .cap ats.toList l h) e fun l e => ?_
        generalize ats.toList = tl at e ⊢
        cases tl with
        | nil => cases (show (none : Out) = some (v, h1) from e)
        | cons t ts =>
          cases ts with
          | cons => cases (show (none : Out) = some (v, h1) from e)
          | nil =>
            cases l with
            | nil => cases (show (none : Out) = some (v, h1) from e)
            | cons a l =>
              cases l with
              | cons => cases (show (none : Out) = some (v, h1) from e)
              | nil => exact capO_any (P := P) (t := t) (a := a) e
end
end Go.Exe
/- Reads, new rows, sameness; what another order leaves alone. -/
namespace Go.Exe
open Go

section
variable {P : Program} {F : Facts} {K : Known} {ih : Run} {env env' : Env} {h h' h1 : H} {v : AV}

theorem lenO_same {t : TypeId} {a : AV} (e : lenO P t a h = some (v, h1)) : h1 = h := by
  unfold lenO at e
  cases hu : undOf P t with
  | none => rw [hu] at e; cases (show (none : Out) = some (v, h1) from e)
  | some d =>
    rw [hu] at e
    dsimp only at e
    cases d <;> first | (cases (show (none : Out) = some (v, h1) from e); done) | skip
    case array => cases e; rfl
    case string => dsimp only at e; split at e <;> first | (cases e; rfl) | cases e
    case slice => dsimp only at e; split at e <;> first | (cases e; rfl) | cases e
    case map =>
      dsimp only at e
      split at e
      · cases e; rfl
      · unfold onMap at e
        cases hr : h.get _ with
        | none => rw [hr] at e; cases (show (none : Out) = some (v, h1) from e)
        | some row =>
          rw [hr] at e
          cases row <;> first | (cases (show (none : Out) = some (v, h1) from e); done) | skip
          case map l c => 
            have e : force (len l) (fun n => (some (AV.int .i64 (.ofNat n), h) : Out)) = some (v, h1) := e
            rw [force_eq] at e
            cases e; rfl
      · cases e
    case chan =>
      dsimp only at e
      split at e
      · cases e; rfl
      · obtain ⟨n, l, _, e⟩ := onChan_some e
        rw [force_eq] at e
        cases e; rfl
      · cases e

/-- Reads leave memory alone. -/
theorem read_same {op : Op} (hk : kindC P op = 2) (e : opV P F K ih op env h = some (v, h1)) : h1 = h := by
  cases op <;> first | (cases hk; done) | (cases (show (none : Out) = some (v, h1) from e); done) | skip
  case load t x =>
    obtain ⟨a, _, e⟩ := bnd_some.1 (show bnd (opd P x env) (fun a => loadO (szOf P t) (aggOf P t) a h) = some (v, h1) from e)
    obtain ⟨r, i, _, e⟩ := onPtr_some e
    obtain ⟨_, _, e⟩ := bnd_some.1 e
    obtain ⟨_, _, e⟩ := bnd_some.1 e
    obtain ⟨_, _, e⟩ := bnd_some.1 e
    obtain ⟨_, _, e⟩ := bnd_some.1 e
    cases e; rfl
  case lookup t x y ok =>
    obtain ⟨a, _, e⟩ := bnd_some.1 (show bnd (opd P x env) (fun a => bnd (opd P y env) fun b => lookupO P t a b ok h) = some (v, h1) from e)
    obtain ⟨b, _, e⟩ := bnd_some.1 e
    unfold lookupO onKey at e
    obtain ⟨kt, et, _, e⟩ := bnd2_some.1 e
    obtain ⟨_, e⟩ := ite_some.1 e
    obtain ⟨q, _, e⟩ := bnd_some.1 e
    cases q with
    | none =>
      obtain ⟨z, _, e⟩ := bnd_some.1 e
      cases ok <;> (cases e; rfl)
    | some q => cases ok <;> (cases e; rfl)
  case convert s d x =>
    obtain ⟨a, _, e⟩ := bnd_some.1 (show bnd (opd P x env) (fun a => convF P F s d a h) = some (v, h1) from e)
    have cv : convF P F s d a h = some (v, h1) → (convertO P s d a h = some (v, h1) → h1 = h) → h1 = h := fun e k => by
      cases a <;> first | exact (vO_any e).1 | exact k e
    refine cv e fun e => ?_
    unfold kindC at hk
    unfold convertO at e
    cases hs : undOf P s with
    | none => rw [hs] at e; cases (show (none : Out) = some (v, h1) from e)
    | some ds =>
      cases hd : undOf P d with
      | none => rw [hs, hd] at e; cases (show (none : Out) = some (v, h1) from e)
      | some dd =>
        rw [hs, hd] at e
        simp only [hd] at hk
        cases dd <;> first | (cases hk; done) | skip
        case string =>
          dsimp only at e
          split at e
          · cases e; rfl
          · obtain ⟨_, e⟩ := ite_some.1 e; cases e; rfl
          · obtain ⟨_, e⟩ := ite_some.1 e
            obtain ⟨_, _, e⟩ := bnd_some.1 e
            obtain ⟨_, _, e⟩ := bnd_some.1 e
            cases e; rfl
          · cases e
  case call c =>
    unfold kindC kindO at hk
    have e : callF P K F ih c env h = some (v, h1) := e
    unfold callF at e
    cases hs : symLen P c env with
    | some s => rw [hs] at e; exact (vO_any (x := F.len s) e).1
    | none =>
    rw [hs] at e
    have e : callO P K ih c env h = some (v, h1) := e
    unfold callO at e
    obtain ⟨cal, args, ats⟩ := c
    cases cal with
    | value f => cases hk
    | invoke r n => cases hk
    | builtin b =>
      cases b <;> first | (cases hk; done) | skip
      case len =>
        obtain ⟨l, _, e⟩ := bnd_some.1 (show bnd (opds P args.toList env) (fun l => builtinO P .len ats.toList l h) = some (v, h1) from e)
        generalize ats.toList = tl at e
        cases tl with
        | nil => cases (show (none : Out) = some (v, h1) from e)
        | cons t ts =>
          cases ts with
          | cons => cases (show (none : Out) = some (v, h1) from e)
          | nil =>
            cases l with
            | nil => cases (show (none : Out) = some (v, h1) from e)
            | cons a l =>
              cases l with
              | cons => cases (show (none : Out) = some (v, h1) from e)
              | nil => exact lenO_same (P := P) (t := t) (a := a) e

/-- New rows. -/
theorem opV_lays {op : Op} (hk : kindC P op = 1) (e : opV P F K ih op env h = some (v, h1)) : Lays h h1 := by
  cases op <;> first | (cases hk; done) | (cases (show (none : Out) = some (v, h1) from e); done) | skip
  case alloc t => exact allocO_lays (P := P) (t := t) e
  case box t x => obtain ⟨a, _, e⟩ := bnd_some.1 (show bnd (opd P x env) (fun v => onCellsOf v fun l => force (len l) fun n => newV t n l h) = some (v, h1) from e); exact boxO_lays e
  case buildSlice t n ps => obtain ⟨a, _, e⟩ := bnd_some.1 (show bnd (parts P ps.toList env) (fun l => buildSliceO P t n l h) = some (v, h1) from e); exact buildSliceO_lays e
  case makeSlice t x y =>
    obtain ⟨a, _, e⟩ := bnd_some.1 (show bnd (opd P x env) (fun a => bnd (opd P y env) fun b => makeSliceO P t a b h) = some (v, h1) from e)
    obtain ⟨b, _, e⟩ := bnd_some.1 e
    exact makeSliceO_lays e
  case makeChan t x =>
    obtain ⟨a, _, e⟩ := bnd_some.1 (show bnd (opd P x env) (fun a => makeChanO P t a h) = some (v, h1) from e)
    exact (makeChanO_lays e).1
  case makeMap t r =>
    cases r with
    | some => cases (show (none : Out) = some (v, h1) from e)
    | none => exact (makeMapO_lays e).1
  case convert s d x =>
    unfold kindC at hk
    cases hd : undOf P d with
    | none => simp [hd] at hk
    | some dd => simp only [hd] at hk; cases dd <;> simp at hk
  case call c =>
    unfold kindC kindO at hk
    obtain ⟨cal, args, ats⟩ := c
    cases cal with
    | value f => cases hk
    | invoke r n => cases hk
    | builtin b => cases b <;> cases hk

theorem opV_lain {σ : Sig} {N : Nat} {ρ : Rho} {h0 hx hx' : H} {w w0 : World} {ρ0 : Rho} {o : Oper} {a : Act} (hσ : ∀ i, (σ i).oneCell' = true) (hN : N = P.globals.size) (L : Laid σ N ρ h w ρ0 h0 w0 hx hx' h') (he : ER σ ρ env a.tmps) (hk : kindC P o.op = 1) (e : opV P F K ih o.op env hx = some (v, hx')) : Lain P σ N o a ρ w ρ0 h0 w0 hx.nx v h' := by
  have hg : Glo P ρ := fun g hgl => L.hh.glob g (hN ▸ hgl)
  cases ho : o.op <;> rw [ho] at hk e <;> first | (cases hk; done) | (cases (show (none : Out) = some (v, hx') from e); done) | skip
  case alloc t => exact op_alloc_gen L hσ ho e
  case box t x =>
    obtain ⟨y, h1, e⟩ := bnd_some.1 (show bnd (opd P x env) (fun v => onCellsOf v fun l => force (len l) fun n => newV t n l hx) = some (v, hx') from e)
    exact op_box_gen L hσ ho (opd_ok hg he h1) e
  case buildSlice t n ps =>
    obtain ⟨l, h1, e⟩ := bnd_some.1 (show bnd (parts P ps.toList env) (fun l => buildSliceO P t n l hx) = some (v, hx') from e)
    exact op_buildSlice_gen L hσ ho (parts_ok hg he h1) e
  case makeSlice t x y =>
    obtain ⟨b, h1, e⟩ := bnd_some.1 (show bnd (opd P x env) (fun a => bnd (opd P y env) fun b => makeSliceO P t a b hx) = some (v, hx') from e)
    obtain ⟨c, h2, e⟩ := bnd_some.1 e
    exact op_makeSlice_gen L hσ ho (opd_ok hg he h1) (opd_ok hg he h2) e
  case makeChan t x =>
    obtain ⟨b, h1, e⟩ := bnd_some.1 (show bnd (opd P x env) (fun a => makeChanO P t a hx) = some (v, hx') from e)
    exact op_makeChan_gen L ho (opd_ok hg he h1) e
  case makeMap t r =>
    cases r with
    | some => cases (show (none : Out) = some (v, hx') from e)
    | none => exact op_makeMap_gen L ho e
  case convert s d x =>
    exfalso
    unfold kindC at hk
    cases hd : undOf P d with
    | none => simp [hd] at hk
    | some dd => simp only [hd] at hk; cases dd <;> simp at hk
  case call c =>
    exfalso
    unfold kindC kindO at hk
    obtain ⟨cal, args, ats⟩ := c
    cases cal with
    | value f => cases hk
    | invoke r n => cases hk
    | builtin b => cases b <;> cases hk

/-! ### Sameness -/

/-! ### Slots and rows set without fail -/

theorem setN_of {α : Type} {x : α} : ∀ {l : List α} {i : Nat}, i < l.length → ∃ l', setN x l i = some l'
  | [], i, h => absurd h (Nat.not_lt_zero _)
  | a :: l, 0, _ => ⟨x :: l, rfl⟩
  | a :: l, i + 1, h => by
    obtain ⟨l', e⟩ := setN_of (x := x) (l := l) (i := i) (by simpa using h)
    exact ⟨a :: l', show bnd (setN x l i) (fun l' => some (a :: l')) = _ by rw [e]; rfl⟩
theorem setT_of {t : Nat} {x : AV} (h : (getT env t).isSome = true) : ∃ env', setT env t x = some env' := by
  obtain ⟨y, hy⟩ := Option.isSome_iff_exists.1 h
  obtain ⟨l, h1, h2⟩ := bnd_some.1 hy
  have h1' := h1
  rw [nth_eq] at h1' h2
  obtain ⟨l', h3⟩ := setN_of (x := x) (List.getElem?_eq_some_iff.1 h2).1
  obtain ⟨e', h4⟩ := setN_of (x := l') (List.getElem?_eq_some_iff.1 h1').1
  refine ⟨e', ?_⟩
  show bnd (nth env (Nat.div t 8)) (fun l => bnd (setN x l (Nat.mod t 8)) fun l => setN l env (Nat.div t 8)) = _
  rw [h1]
  show bnd (setN x l (Nat.mod t 8)) (fun l => setN l env (Nat.div t 8)) = _
  rw [h3]
  exact h4

theorem Tr.set_of {α : Type} (x : Option α) : ∀ (d : Nat) (t : Tr α) (i : Nat), i < d → ∃ t', t.set x d i = some t'
  | 0, _, _, h => absurd h (Nat.not_lt_zero _)
  | d + 1, t, i, h => by
    have node : ∀ (l : Tr α) (v : Option α) (r : Tr α), ∃ t', Bool.rec (motive := fun _ => Option (Tr α)) (Bool.rec (motive := fun _ => Option (Tr α)) (bnd (Tr.set x d r (Nat.pred (Nat.div i 2))) fun r => some (.node l v r)) (bnd (Tr.set x d l (Nat.div i 2)) fun l => some (.node l v r)) (Nat.beq (Nat.land i 1) 1)) (some (.node l x r)) (Nat.beq i 0) = some t' := fun l v r => by
      cases h0 : Nat.beq i 0 with
      | true => exact ⟨_, rfl⟩
      | false =>
        have hi : i ≠ 0 := fun e => by subst e; cases h0
        have h2 : Nat.div i 2 = i / 2 := rfl
        cases Nat.beq (Nat.land i 1) 1 with
        | true => obtain ⟨t', e⟩ := Tr.set_of x d l (Nat.div i 2) (by rw [h2]; omega); exact ⟨_, by dsimp only; rw [e]; rfl⟩
        | false => obtain ⟨t', e⟩ := Tr.set_of x d r (Nat.pred (Nat.div i 2)) (by rw [h2, Nat.pred_eq_sub_one]; omega); exact ⟨_, by dsimp only; rw [e]; rfl⟩
    cases t with
    | leaf => exact node .leaf none .leaf
    | node l v r => exact node l v r
theorem put_of (h : H) (r : Nat) (row : Option Row) : ∃ h' : H, h'.nx = h.nx ∧ ∀ q, h'.get q = if q = r then row else h.get q := by
  obtain ⟨t, nx⟩ := h
  obtain ⟨t', e⟩ := Tr.set_of row (r + 1) t r (Nat.lt_succ_self _)
  exact ⟨⟨t', nx⟩, rfl, Tr.get_set e⟩

theorem bit_eq (m i : Nat) : bit m i = m.testBit i := by
  show Nat.beq (Nat.land (Nat.shiftRight m i) 1) 1 = _
  show Nat.beq ((m >>> i) &&& 1) 1 = _
  rw [beq_eq, Nat.testBit, Nat.and_comm (m >>> i) 1]
  have : (1 &&& m >>> i) = (m >>> i) % 2 := by rw [Nat.and_comm, Nat.and_one_is_mod]
  rw [this]
  rcases Nat.mod_two_eq_zero_or_one (m >>> i) with h | h <;> rw [h] <;> rfl

/-- Rows that lie beside memory. -/
def Apart (pend : List (Nat × Nat × Row)) : Prop := ∀ i r row i' r' row', (i, r, row) ∈ pend → (i', r', row') ∈ pend → (i = i' ∨ r = r') → i = i' ∧ r = r' ∧ row = row'

theorem visible_spec {m ab : Nat} : ∀ {pend : List (Nat × Nat × Row)} {h hv : H}, Apart pend → visible m ab pend h = some hv → hv.nx = h.nx ∧ (∀ i r row, (i, r, row) ∈ pend → m.testBit i = true → ab.testBit i = false → hv.get r = some row) ∧ ∀ q, (∀ i row, (i, q, row) ∈ pend → m.testBit i = true → ab.testBit i = false → False) → hv.get q = h.get q
  | [], h, hv, _, e => by cases e; exact ⟨rfl, (fun _ _ _ h => nomatch h), fun _ _ => rfl⟩
  | (i, r, row) :: pend, h, hv, hp, e => by
    have hp' : Apart pend := fun a b c a' b' c' h1 h2 => hp a b c a' b' c' (List.mem_cons_of_mem _ h1) (List.mem_cons_of_mem _ h2)
    have e : Bool.rec (motive := fun _ => Option H) (visible m ab pend h) (Bool.rec (motive := fun _ => Option H) (bnd (h.put r (some row)) (visible m ab pend)) (visible m ab pend h) (bit ab i)) (bit m i) = some hv := e
    have skip : visible m ab pend h = some hv → (m.testBit i = true → ab.testBit i = false → False) → hv.nx = h.nx ∧ (∀ j s row', (j, s, row') ∈ (i, r, row) :: pend → m.testBit j = true → ab.testBit j = false → hv.get s = some row') ∧ ∀ q, (∀ j row', (j, q, row') ∈ (i, r, row) :: pend → m.testBit j = true → ab.testBit j = false → False) → hv.get q = h.get q := fun e hno => by
      obtain ⟨k1, k2, k3⟩ := visible_spec hp' e
      refine ⟨k1, fun j s row' hm h1 h2 => ?_, fun q hq => k3 q fun j row' hm => hq j row' (List.mem_cons_of_mem _ hm)⟩
      rcases List.mem_cons.1 hm with h3 | h3
      · cases h3; exact (hno h1 h2).elim
      · exact k2 j s row' h3 h1 h2
    rw [bit_eq, bit_eq] at e
    cases h1 : m.testBit i with
    | false => rw [h1] at e; exact skip e fun h => by rw [h1] at h; cases h
    | true =>
      cases h2 : ab.testBit i with
      | true => rw [h1, h2] at e; exact skip e fun _ h => by rw [h2] at h; cases h
      | false =>
        rw [h1, h2] at e
        obtain ⟨h3, e1, e2⟩ := bnd_some.1 (show bnd (h.put r (some row)) (visible m ab pend) = some hv from e)
        obtain ⟨p1, p2⟩ := put_some e1
        obtain ⟨k1, k2, k3⟩ := visible_spec hp' e2
        refine ⟨k1.trans p1, fun j s row' hm g1 g2 => ?_, fun q hq => ?_⟩
        · by_cases hin : ∃ j' row2, (j', s, row2) ∈ pend ∧ m.testBit j' = true ∧ ab.testBit j' = false
          · obtain ⟨j', row2, q1, q2, q3⟩ := hin
            obtain ⟨_, _, h5⟩ := hp j s row' j' s row2 hm (List.mem_cons_of_mem _ q1) (.inr rfl)
            rw [h5]
            exact k2 j' s row2 q1 q2 q3
          · rcases List.mem_cons.1 hm with h4 | h4
            · cases h4
              rw [k3 r fun j' row2 q1 q2 q3 => hin ⟨j', row2, q1, q2, q3⟩, p2, if_pos rfl]
            · exact (hin ⟨j, row', h4, g1, g2⟩).elim
        · rw [k3 q fun j row' hm => hq j row' (List.mem_cons_of_mem _ hm), p2, if_neg ?_]
          intro e; subst e
          exact hq i row (List.mem_cons_self ..) h1 h2

theorem rest_visible {ab : Nat} : ∀ {pend : List (Nat × Nat × Row)} {h : H} {m : Nat}, (∀ i r row, (i, r, row) ∈ pend → m.testBit i = true) → restOf ab pend h = visible m ab pend h
  | [], _, _, _ => rfl
  | (i, r, row) :: pend, h, m, hm => by
    have ih : ∀ h, restOf ab pend h = visible m ab pend h := fun h => rest_visible fun i r row hi => hm i r row (List.mem_cons_of_mem _ hi)
    show Bool.rec (motive := fun _ => Option H) (bnd (h.put r (some row)) (restOf ab pend)) (restOf ab pend h) (bit ab i) = Bool.rec (motive := fun _ => Option H) (visible m ab pend h) (Bool.rec (motive := fun _ => Option H) (bnd (h.put r (some row)) (visible m ab pend)) (visible m ab pend h) (bit ab i)) (bit m i)
    rw [bit_eq m, hm i r row (List.mem_cons_self ..), ih, show restOf ab pend = visible m ab pend from funext ih]
end
end Go.Exe
/- Drawn regions: the evaluation, step by step; rows beside memory. -/
namespace Go.Exe
open Go

section
variable {σ : Sig} {N : Nat} {ρ ρ' : Rho} {h h' : H} {w w' : World}

/-- What a step does not see stays. -/
theorem frame_ok {hS hv hS' : H} (hr : HR σ N ρ hS w) (hvn : hv.nx = hS.nx) (hvs : ∀ q row, hv.get q = some row → hS.get q = some row) (hh' : HR σ N ρ' h' w') (st : St ρ hv w ρ' h' w') {X : Nat → Prop} (hn' : hS'.nx = h'.nx)
    (hX : ∀ x, X x → ∃ row, hS.get x = some row ∧ hS'.get x = some row ∧ relOf row = [] ∧ hv.get x = none) (hR : ∀ q, ¬ X q → hS'.get q = h'.get q) (hrel : ∀ q row x, X x → hv.get q = some row → x ∉ relOf row) : HR σ N ρ' hS' w' ∧ St ρ hS w ρ' hS' w' := by
  have low : ∀ x row, hS.get x = some row → x < hS.nx := fun x row e => by
    obtain ⟨p, h1, _⟩ := hr.live x row e
    rcases Nat.lt_or_ge x hS.nx with hl | hl
    · exact hl
    · rw [hr.new x hl] at h1; cases h1
  have hrel' : ∀ q row x, X x → h'.get q = some row → x ∉ relOf row := fun q row x hx e hc => by
    obtain ⟨rowx, k1, _, _, k2⟩ := hX x hx
    rcases st.rel q row x e hc with h1 | ⟨row0, h1⟩ | ⟨q0, row0, h1, h2⟩
    · have := low x rowx k1; omega
    · rw [k2] at h1; cases h1
    · exact hrel q0 row0 x hx h1 h2
  have lv : ∀ x, X x → ∀ row, hS.get x = some row → ∃ p, ρ x = some p ∧ ρ' x = some p ∧ RowR σ ρ w p row ∧ (¬ Owns ρ hv p.b) ∧ ∀ q row0 p0, hv.get q = some row0 → ρ q = some p0 → p0.b ≠ p.b := fun x hx row e => by
    obtain ⟨row2, k1, _, k3, k4⟩ := hX x hx
    rw [e] at k1; cases k1
    obtain ⟨p, h1, h2⟩ := hr.live x row e
    have sep : ∀ q row0 p0, hv.get q = some row0 → ρ q = some p0 → p0.b ≠ p.b := fun q row0 p0 g1 g2 => by
      have hne : q ≠ x := fun e => by subst e; rw [k4] at g1; cases g1
      exact hr.sep q x row0 row p0 p (hvs _ _ g1) e hne (hrel q row0 x hx g1) (by rw [k3]; exact (fun h => nomatch h)) g2 h1
    exact ⟨p, h1, st.rho _ _ h1, h2, fun ⟨q, row0, p0, g1, _, g2, g3⟩ => sep q row0 p0 g1 g2 g3, sep⟩
  have inX : ∀ q row, hS'.get q = some row → X q → hS.get q = some row := fun q row e hx => by
    obtain ⟨row2, k1, k2, _⟩ := hX q hx
    rw [e] at k2; cases k2; exact k1
  have notX : ∀ q row, hS'.get q = some row → ¬ X q → h'.get q = some row := fun q row e hx => by rw [← hR q hx]; exact e
  have mix : ∀ x q row row0 p p0, hS'.get x = some row → X x → hS'.get q = some row0 → ¬ X q → ρ' x = some p → ρ' q = some p0 → p.b ≠ p0.b := fun x q row row0 p p0 e1 hx e2 hq h1 h2 => by
    have g1 := inX x row e1 hx
    obtain ⟨p1, k1, k2, k3, _, k5⟩ := lv x hx row g1
    rw [h1] at k2; cases k2
    rcases st.dom q row0 p0 (notX q row0 e2 hq) h2 with ⟨row1, g2, g3⟩ | g2 | ⟨q1, row1, p1, g2, _, g3, g4⟩
    · exact Ne.symm (k5 q row1 p0 g2 g3)
    · have := k3.lt; omega
    · rw [← g4]; exact Ne.symm (k5 q1 row1 p1 g2 g3)
  constructor
  · refine ⟨fun q row e => ?_, fun q hq => hh'.new q (by rw [← hn']; exact hq), fun q q' row row' p p' e1 e2 hne h1 h2 hp hp' => ?_, fun q q' row row' e1 hq e2 => ?_, fun q q' row e1 hq => ?_, hh'.glob⟩
    · by_cases hx : X q
      · obtain ⟨p, k1, k2, k3, k4, _⟩ := lv q hx row (inX q row e hx)
        exact ⟨p, k2, k3.mono st.rho (st.block _ k3.lt k4)⟩
      · exact hh'.live q row (notX q row e hx)
    · by_cases hx : X q
      · by_cases hx' : X q'
        · obtain ⟨p1, k1, k2, _⟩ := lv q hx row (inX q row e1 hx)
          obtain ⟨p2, k3, k4, _⟩ := lv q' hx' row' (inX q' row' e2 hx')
          rw [hp] at k2; cases k2
          rw [hp'] at k4; cases k4
          exact hr.sep q q' row row' p p' (inX _ _ e1 hx) (inX _ _ e2 hx') hne h1 h2 k1 k3
        · exact mix q q' row row' p p' e1 hx e2 hx' hp hp'
      · by_cases hx' : X q'
        · exact Ne.symm (mix q' q row' row p' p e2 hx' e1 hx hp' hp)
        · exact hh'.sep q q' row row' p p' (notX _ _ e1 hx) (notX _ _ e2 hx') hne h1 h2 hp hp'
    · by_cases hx : X q
      · obtain ⟨row2, k1, k2, k3, _⟩ := hX q hx
        rw [e1] at k2; cases k2
        rw [k3] at hq; cases hq
      · by_cases hx' : X q'
        · exact absurd hq (hrel' q row q' hx' (notX _ _ e1 hx))
        · exact hh'.old q q' row row' (notX _ _ e1 hx) hq (notX _ _ e2 hx')
    · by_cases hx : X q
      · obtain ⟨row2, k1, k2, k3, _⟩ := hX q hx
        rw [e1] at k2; cases k2
        rw [k3] at hq; cases hq
      · exact hh'.rels q q' row (notX _ _ e1 hx) hq
  · have up : ∀ b, Owns ρ hv b → Owns ρ hS b := fun b ⟨q, row, p, g1, g2⟩ => ⟨q, row, p, hvs _ _ g1, g2⟩
    refine ⟨st.os, st.tape, st.output, st.size, fun b hb hno => st.block b hb fun h => hno (up b h), st.rho, fun b hb ⟨q, row, p, e1, e2, e3, e4⟩ => ?_, by rw [hn', ← hvn]; exact st.nx, fun q row p e1 e2 => ?_, fun q row e1 => ?_, fun q row x e1 hx => ?_, fun r h1 h2 => st.fresh r (by rw [hvn]; exact h1) h2⟩
    · by_cases hx : X q
      · obtain ⟨p1, k1, k2, _⟩ := lv q hx row (inX q row e1 hx)
        rw [e3] at k2; cases k2
        exact ⟨q, row, p, inX _ _ e1 hx, e2, k1, e4⟩
      · exact up b (st.owns b hb ⟨q, row, p, notX _ _ e1 hx, e2, e3, e4⟩)
    · by_cases hx : X q
      · obtain ⟨p1, k1, k2, _⟩ := lv q hx row (inX q row e1 hx)
        rw [e2] at k2; cases k2
        exact .inl ⟨row, inX _ _ e1 hx, k1⟩
      · rcases st.dom q row p (notX _ _ e1 hx) e2 with ⟨row1, g2, g3⟩ | g2 | g2
        · exact .inl ⟨row1, hvs _ _ g2, g3⟩
        · exact .inr (.inl g2)
        · exact .inr (.inr (up _ g2))
    · by_cases hx : X q
      · exact .inl ⟨row, inX _ _ e1 hx⟩
      · rcases st.ids q row (notX _ _ e1 hx) with ⟨row0, g⟩ | g
        · exact .inl ⟨row0, hvs _ _ g⟩
        · exact .inr (by rw [← hvn]; exact g)
    · by_cases hq : X q
      · obtain ⟨row2, k1, k2, k3, _⟩ := hX q hq
        rw [e1] at k2; cases k2
        rw [k3] at hx; cases hx
      · rcases st.rel q row x (notX _ _ e1 hq) hx with g | ⟨row0, g⟩ | ⟨q0, row0, g1, g2⟩
        · exact .inl (by rw [← hvn]; exact g)
        · exact .inr (.inl ⟨row0, hvs _ _ g⟩)
        · exact .inr (.inr ⟨q0, row0, hvs _ _ g1, g2⟩)

theorem HR.congr (hh : HR σ N ρ h w) (hn : h'.nx = h.nx) (hg : ∀ q, h'.get q = h.get q) : HR σ N ρ h' w :=
  hh.weak hn fun q row e => ⟨row, by rw [← hg]; exact e, fun _ k => k, id, fun _ k => k, fun _ k1 k2 => absurd k1 k2⟩
theorem HR.sub (hh : HR σ N ρ h w) (hn : h'.nx = h.nx) (hg : ∀ q row, h'.get q = some row → h.get q = some row) : HR σ N ρ h' w :=
  hh.weak hn fun _ row e => ⟨row, hg _ _ e, fun _ k => k, id, fun _ k => k, fun _ k1 k2 => absurd k1 k2⟩
theorem St.congr {h1 h2 : H} (st : St ρ h w ρ' h1 w') (hn : h2.nx = h1.nx) (hg : ∀ q, h2.get q = h1.get q) : St ρ h w ρ' h2 w' where
  os := st.os
  tape := st.tape
  output := st.output
  size := st.size
  block := st.block
  rho := st.rho
  owns := fun b hb ⟨q, row, p, e1, e2⟩ => st.owns b hb ⟨q, row, p, by rw [← hg]; exact e1, e2⟩
  nx := by rw [hn]; exact st.nx
  dom := fun q row p e => st.dom q row p (by rw [← hg]; exact e)
  ids := fun q row e => st.ids q row (by rw [← hg]; exact e)
  rel := fun q row x e => st.rel q row x (by rw [← hg]; exact e)
  fresh := st.fresh

/-- Rows put beside memory. -/
theorem beside (c : Nat → Bool) : ∀ {pend : List (Nat × Nat × Row)} (h : H), Apart pend → ∃ hv : H, hv.nx = h.nx ∧ (∀ i r row, (i, r, row) ∈ pend → c i = true → hv.get r = some row) ∧ ∀ q, (∀ i row, (i, q, row) ∈ pend → c i = true → False) → hv.get q = h.get q
  | [], h, _ => ⟨h, rfl, (fun _ _ _ h => nomatch h), fun _ _ => rfl⟩
  | (i, r, row) :: pend, h, hp => by
    have hp' : Apart pend := fun a b c a' b' c' h1 h2 => hp a b c a' b' c' (List.mem_cons_of_mem _ h1) (List.mem_cons_of_mem _ h2)
    obtain ⟨hv, k1, k2, k3⟩ := beside c h hp'
    cases hc : c i with
    | false =>
      refine ⟨hv, k1, fun j s row' hm h1 => ?_, fun q hq => k3 q fun j row' hm => hq j row' (List.mem_cons_of_mem _ hm)⟩
      rcases List.mem_cons.1 hm with h3 | h3
      · cases h3; rw [hc] at h1; cases h1
      · exact k2 j s row' h3 h1
    | true =>
      obtain ⟨h2, g1, g2⟩ := put_of hv r (some row)
      refine ⟨h2, g1.trans k1, fun j s row' hm h1 => ?_, fun q hq => ?_⟩
      · rw [g2]
        by_cases hs : s = r
        · rw [if_pos hs]
          obtain ⟨_, _, h5⟩ := hp j s row' i r row hm (List.mem_cons_self ..) (.inr hs)
          rw [h5]
        · rw [if_neg hs]
          rcases List.mem_cons.1 hm with h3 | h3
          · cases h3; exact absurd rfl hs
          · exact k2 j s row' h3 h1
      · rw [g2, if_neg ?_]
        · exact k3 q fun j row' hm => hq j row' (List.mem_cons_of_mem _ hm)
        · intro e; subst e
          exact hq i row (List.mem_cons_self ..) hc
end

/-! ### The evaluation, step by step -/

structure Stt where
  env : Env
  hc : H
  ra : Nat
  pend : List (Nat × Nat × Row)
  ab : Nat
  em : Nat
  snaps : List (Nat × Nat × H)
  watch : List (Nat × Nat × Oper × Env × AV)

inductive Step1 (P : Program) (F : Facts) (K : Known) (ih : Run) (ops : List Oper) (i : Nat) (o : Oper) (m : Nat) (s : Stt) : Stt → Prop
  | skip {env'} (hw : wantedO (guardT ops o.guard) s.env = some false) (hp : putD o.dst .und s.env = some env') : Step1 P F K ih ops i o m s { s with env := env' }
  | pure {env' v h1} (hw : wantedO (guardT ops o.guard) s.env = some true) (hk : kindC P o.op = 0) (e : opV P F K ih o.op s.env s.hc = some (v, h1)) (hp : putD o.dst v s.env = some env') : Step1 P F K ih ops i o m s { s with env := env' }
  | alloc {env' v h1 row} (hw : wantedO (guardT ops o.guard) s.env = some true) (hk : kindC P o.op = 1) (e : opV P F K ih o.op s.env ⟨.leaf, s.ra⟩ = some (v, h1)) (hrow : h1.get s.ra = some row) (hp : putD o.dst v s.env = some env') : Step1 P F K ih ops i o m s { s with env := env', ra := s.ra + 1, pend := (i, s.ra, row) :: s.pend }
  | read {env' v hv h1} (hw : wantedO (guardT ops o.guard) s.env = some true) (hk : kindC P o.op = 2) (hvis : visible m s.ab s.pend s.hc = some hv) (e : opV P F K ih o.op s.env hv = some (v, h1)) (hb : backs P F K ih m s.pend o s.env v s.snaps = true) (hp : putD o.dst v s.env = some env') : Step1 P F K ih ops i o m s { s with env := env', watch := (i, m, o, s.env, v) :: s.watch }
  | eff {env' v hv h'} (hw : wantedO (guardT ops o.guard) s.env = some true) (hk : 3 ≤ kindC P o.op) (hm : s.em &&& m = s.em) (hvis : visible m s.ab s.pend s.hc = some hv) (e : opV P F K ih o.op s.env hv = some (v, h')) (hwt : watches P F K ih m (s.ab ||| m) s.pend h' s.watch = true) (hp : putD o.dst v s.env = some env') : Step1 P F K ih ops i o m s { s with env := env', hc := h', ab := s.ab ||| m, em := s.em ||| (1 <<< i), snaps := (i, s.ab, s.hc) :: s.snaps }

section
variable {P : Program} {F : Facts} {K : Known} {ih : Run} {ops : List Oper} {k : Env → H → Out} {r : AV × H}

theorem drawnO_trace : ∀ (l : List Oper) (ms : List Nat) (i : Nat) (s : Stt), drawnO P F K ih ops l ms i s.env s.hc s.ra s.pend s.ab s.em s.snaps s.watch k = some r →
    ∃ sts : Nat → Stt, sts 0 = s ∧ (∀ j o, l[j]? = some o → ∃ m, ms[j]? = some m ∧ Step1 P F K ih ops (i + j) o m (sts j) (sts (j + 1))) ∧ ∃ hE, restOf (sts l.length).ab (sts l.length).pend (sts l.length).hc = some hE ∧ k (sts l.length).env hE = some r
  | [], ms, i, s, e => by
    obtain ⟨hE, h1, h2⟩ := bnd_some.1 (show bnd (restOf s.ab s.pend s.hc) (fun h => k s.env h) = some r from e)
    exact ⟨fun _ => s, rfl, fun j o h => by simp at h, hE, h1, h2⟩
  | o :: l, ms, i, s, e => by
    cases ms with
    | nil => exact nomatch e
    | cons m ms =>
      have go : ∀ s' : Stt, Step1 P F K ih ops i o m s s' → drawnO P F K ih ops l ms (i + 1) s'.env s'.hc s'.ra s'.pend s'.ab s'.em s'.snaps s'.watch k = some r →
          ∃ sts : Nat → Stt, sts 0 = s ∧ (∀ j o', (o :: l)[j]? = some o' → ∃ m', (m :: ms)[j]? = some m' ∧ Step1 P F K ih ops (i + j) o' m' (sts j) (sts (j + 1))) ∧ ∃ hE, restOf (sts (o :: l).length).ab (sts (o :: l).length).pend (sts (o :: l).length).hc = some hE ∧ k (sts (o :: l).length).env hE = some r := fun s' st e => by
        obtain ⟨sts, h0, h1, h2⟩ := drawnO_trace l ms (i + 1) s' e
        refine ⟨fun n => match n with | 0 => s | n + 1 => sts n, rfl, fun j o' hj => ?_, h2⟩
        cases j with
        | zero => cases hj; exact ⟨m, rfl, by show Step1 P F K ih ops (i + 0) o m s (sts 0); rw [h0]; exact st⟩
        | succ j =>
          obtain ⟨m', h3, h4⟩ := h1 j o' (by simpa using hj)
          exact ⟨m', by simpa using h3, by rw [show i + (j + 1) = i + 1 + j by omega]; exact h4⟩
      obtain ⟨b, hw, e⟩ := bnd_some.1 (show bnd (wantedO (guardT ops o.guard) s.env) _ = some r from e)
      cases b with
      | false =>
        obtain ⟨env', h1, e⟩ := bnd_some.1 (show bnd (putD o.dst .und s.env) (fun env => drawnO P F K ih ops l ms (i + 1) env s.hc s.ra s.pend s.ab s.em s.snaps s.watch k) = some r from e)
        exact go _ (.skip hw h1) e
      | true =>
        dsimp only at e
        generalize hk : kindC P o.op = kd at e
        cases kd with
        | zero =>
          obtain ⟨v, h1, e1, e⟩ := bnd2_some.1 (show bnd2 (opV P F K ih o.op s.env s.hc) (fun v _ => bnd (putD o.dst v s.env) fun env => drawnO P F K ih ops l ms (i + 1) env s.hc s.ra s.pend s.ab s.em s.snaps s.watch k) = some r from e)
          obtain ⟨env', h2, e⟩ := bnd_some.1 e
          exact go _ (.pure hw hk e1 h2) e
        | succ kd =>
          cases kd with
          | zero =>
            obtain ⟨v, h1, e1, e⟩ := bnd2_some.1 (show bnd2 (opV P F K ih o.op s.env ⟨.leaf, s.ra⟩) (fun v h1 => bnd (h1.get s.ra) fun row => bnd (putD o.dst v s.env) fun env => force (Nat.succ s.ra) fun ra' => drawnO P F K ih ops l ms (i + 1) env s.hc ra' ((i, s.ra, row) :: s.pend) s.ab s.em s.snaps s.watch k) = some r from e)
            obtain ⟨row, h2, e⟩ := bnd_some.1 e
            obtain ⟨env', h3, e⟩ := bnd_some.1 e
            rw [force_eq] at e
            exact go _ (.alloc hw hk e1 h2 h3) e
          | succ kd =>
            cases kd with
            | zero =>
              obtain ⟨hv, h1, e⟩ := bnd_some.1 (show bnd (visible m s.ab s.pend s.hc) (fun hv => bnd2 (opV P F K ih o.op s.env hv) fun v _ => ite' (backs P F K ih m s.pend o s.env v s.snaps) (bnd (putD o.dst v s.env) fun env' => drawnO P F K ih ops l ms (i + 1) env' s.hc s.ra s.pend s.ab s.em s.snaps ((i, m, o, s.env, v) :: s.watch) k)) = some r from e)
              obtain ⟨v, h2, e1, e⟩ := bnd2_some.1 e
              obtain ⟨h3, e⟩ := ite_some.1 e
              obtain ⟨env', h4, e⟩ := bnd_some.1 e
              exact go _ (.read hw hk h1 e1 h3 h4) e
            | succ kd =>
              obtain ⟨h0, e⟩ := ite_some.1 (show ite' (Nat.beq (Nat.land s.em m) s.em) (bnd (visible m s.ab s.pend s.hc) fun hv => bnd2 (opV P F K ih o.op s.env hv) fun v h' => force (Nat.lor s.ab m) fun ab' => ite' (watches P F K ih m ab' s.pend h' s.watch) (bnd (putD o.dst v s.env) fun env => force (Nat.lor s.em (Nat.shiftLeft 1 i)) fun em => drawnO P F K ih ops l ms (i + 1) env h' s.ra s.pend ab' em ((i, s.ab, s.hc) :: s.snaps) s.watch k)) = some r from e)
              obtain ⟨hv, h1, e⟩ := bnd_some.1 e
              obtain ⟨v, h', e1, e⟩ := bnd2_some.1 e
              rw [force_eq] at e
              obtain ⟨h3, e⟩ := ite_some.1 e
              obtain ⟨env', h4, e⟩ := bnd_some.1 e
              rw [force_eq] at e
              exact go _ (.eff hw (by omega) (Nat.eq_of_beq_eq_true h0) h1 e1 h3 h4) e
end
end Go.Exe
/- Drawn regions: which operation waits for which; what the evaluation keeps. -/
namespace Go.Exe
open Go

def Waits (ops : Array Oper) (S : Nat → Bool) (i : Nat) : Prop := ∀ o, ops[i]? = some o → ∀ e ∈ o.after, Region.binds .any e = true → S e.on = true
def Closed (ops : Array Oper) (S : Nat → Bool) : Prop := ∀ i, S i = true → Waits ops S i
def AncOk (ops : Array Oper) (acc : List Nat) : Prop := ∀ (k m : Nat), acc[k]? = some m → ∀ S, Closed ops S → Waits ops S k → ∀ j, m.testBit j = true → S j = true

theorem maskE_ok {ops : Array Oper} {acc : List Nat} (ha : AncOk ops acc) {S : Nat → Bool} (hc : Closed ops S) : ∀ (l : List Edge) (m : Nat), (∀ e ∈ l, Region.binds .any e = true → S e.on = true) → (∀ j, m.testBit j = true → S j = true) → ∀ j, (l.foldl (maskE acc) m).testBit j = true → S j = true
  | [], m, _, hm, j, h => hm j h
  | e :: l, m, he, hm, j, h => by
    refine maskE_ok ha hc l _ (fun e' h' => he e' (List.mem_cons_of_mem _ h')) (fun j' h' => ?_) j h
    unfold maskE at h'
    split at h'
    · rename_i hb
      have hs := he e (List.mem_cons_self ..) hb
      simp only [Nat.testBit_or, Bool.or_eq_true, Nat.testBit_two_pow, decide_eq_true_eq] at h'
      rcases h' with (h' | h') | h'
      · exact hm j' h'
      · rw [← h']; exact hs
      · cases hk : acc[e.on]? with
        | none => simp [List.getD, hk] at h'
        | some m' =>
          rw [show acc.getD e.on 0 = m' by simp [List.getD, hk]] at h'
          exact ha e.on m' hk S hc (hc _ hs) j' h'
    · exact hm j' h'

theorem ancs_ok {ops : Array Oper} : ∀ (l : List Oper) (acc : List Nat), (∀ j, j < l.length → l[j]? = ops[acc.length + j]?) → AncOk ops acc → AncOk ops (ancs l acc)
  | [], acc, _, h => h
  | o :: l, acc, hl, h => by
    refine ancs_ok l _ (fun j hj => ?_) fun k m hk S hc hw j hj => ?_
    · have := hl (j + 1) (by simpa using hj)
      simp only [List.getElem?_cons_succ] at this
      rw [this]; congr 1; simp; omega
    · rcases Nat.lt_or_ge k acc.length with h' | h'
      · rw [List.getElem?_append_left h'] at hk
        exact h k m hk S hc hw j hj
      · rw [List.getElem?_append_right h'] at hk
        have h0 : k = acc.length := by
          have := (List.getElem?_eq_some_iff.1 hk).1
          simp at this; omega
        subst h0
        simp only [Nat.sub_self, List.getElem?_cons_zero, Option.some.injEq] at hk
        subst hk
        have ho : ops[acc.length]? = some o := by simpa using (hl 0 (by simp)).symm
        exact maskE_ok h hc _ 0 (fun e he hb => hw o ho e (by simpa using he) hb) (fun j' h' => by simp at h') j hj

theorem anc_spec {ops : Array Oper} : AncOk ops (ancs ops.toList []) := ancs_ok _ _ (fun j _ => by simp) fun k m e => by simp at e

/-- What 'tidy' has seen. -/
theorem tidy_spec {ops : List Oper} : ∀ (l : List Oper) (ms : List Nat) (seen : List (Nat × Nat × Nat)) (j0 : Nat), tidy ops l ms seen j0 = true → ∀ j o m, l[j]? = some o → ms[j]? = some m →
    (∀ e ∈ o.after, Region.binds .any e = true → e.on < j0 + j) ∧ (∀ q ∈ seen, m.testBit q.1 = true ∨ (q.2.1 &&& namesOf ops o = 0 ∧ q.2.2 &&& dstBit o = 0)) ∧ ∀ i x, i < j → l[i]? = some x → m.testBit (j0 + i) = true ∨ (dstBit x &&& namesOf ops o = 0 ∧ namesOf ops x &&& dstBit o = 0)
  | [], ms, seen, j0, h, j, o, m, ho, hm => by simp at ho
  | o' :: l, [], seen, j0, h, j, o, m, ho, hm => by simp at hm
  | o' :: l, m' :: ms, seen, j0, h, j, o, m, ho, hm => by
    simp only [tidy, Bool.and_eq_true] at h
    obtain ⟨⟨h1, h2⟩, h3⟩ := h
    cases j with
    | zero =>
      cases ho; cases hm
      refine ⟨fun e he hb => ?_, fun q hq => ?_, fun i x hi => absurd hi (Nat.not_lt_zero _)⟩
      · have := List.all_eq_true.1 h1 e (by simpa using he)
        rw [hb] at this
        have : Nat.blt e.on j0 = true := by simpa using this
        exact Nat.le_of_ble_eq_true this
      · have := List.all_eq_true.1 h2 q hq
        simpa using this
    | succ j =>
      obtain ⟨k1, k2, k3⟩ := tidy_spec l ms _ (j0 + 1) h3 j o m (by simpa using ho) (by simpa using hm)
      refine ⟨fun e he hb => by have := k1 e he hb; omega, fun q hq => k2 q (List.mem_cons_of_mem _ hq), fun i x hi hx => ?_⟩
      cases i with
      | zero => cases hx; exact k2 _ (List.mem_cons_self ..)
      | succ i => have := k3 i x (by omega) (by simpa using hx); rwa [show j0 + 1 + i = j0 + (i + 1) by omega] at this

theorem and_zero {a b i : Nat} (h : a &&& b = 0) (h1 : a.testBit i = true) (h2 : b.testBit i = true) : False := by
  have := Nat.testBit_and a b i
  rw [h, h1, h2] at this
  simp at this

theorem dst_bit {o : Oper} {t : Nat} : (dstBit o).testBit t = true ↔ o.dst = some t := by
  unfold dstBit
  cases o.dst with
  | none => simp
  | some d => simp [Nat.testBit_two_pow]
theorem fold_bit {t : Nat} : ∀ (l : List Operand) (m : Nat), (m.testBit t = true ∨ Operand.tmp t ∈ l) → (l.foldl (fun m x => m ||| nameBit x) m).testBit t = true
  | [], m, h => by simpa using h
  | x :: l, m, h => by
    refine fold_bit l _ ?_
    rcases h with h | h
    · left; simp [h]
    · rcases List.mem_cons.1 h with h | h
      · left; subst h; simp [nameBit]
      · exact .inr h
theorem names_bit {ops : List Oper} {o : Oper} {t : Nat} (h : o.dst = some t ∨ Operand.tmp t ∈ o.op.operands ∨ ∃ g b q, o.guard = some (g, b) ∧ ops[g]? = some q ∧ q.dst = some t) : (namesOf ops o).testBit t = true := by
  refine fold_bit _ _ ?_
  rcases h with h | h | ⟨g, b, q, h1, h2, h3⟩
  · left; simp [dst_bit.2 h]
  · right; simpa using h
  · left
    have : guardBit ops o = dstBit q := by
      unfold guardBit
      rw [h1]
      simp only [nth_eq, h2]
    simp [this, dst_bit.2 h3]

section
variable {P : Program} {F : Facts} {K : Known} {ih : Run} {ops : Array Oper} {sts : Nat → Stt} {n0 : Nat}

/-- An evaluation of a drawn region. -/
structure Trace (P : Program) (F : Facts) (K : Known) (ih : Run) (ops : Array Oper) (n0 : Nat) (sts : Nat → Stt) : Prop where
  start : (sts 0).ra = n0 ∧ (sts 0).pend = [] ∧ (sts 0).ab = 0 ∧ (sts 0).em = 0 ∧ (sts 0).snaps = [] ∧ (sts 0).watch = [] ∧ (sts 0).hc.nx = n0 + countA ops.toList
  step : ∀ j o, ops[j]? = some o → ∃ m, (ancs ops.toList [])[j]? = some m ∧ Step1 P F K ih ops.toList j o m (sts j) (sts (j + 1))
  tidy : tidy ops.toList ops.toList (ancs ops.toList []) [] 0 = true

/-- Operation e changes memory. -/
def effAt (sts : Nat → Stt) (e : Nat) : Prop := (sts (e + 1)).em.testBit e = true

theorem countA_cons (o : Oper) (l : List Oper) : countA (o :: l) = if kindO o.op = 1 then countA l + 1 else countA l := by
  show Bool.rec (motive := fun _ => Nat) (countA l) (Nat.succ (countA l)) (Nat.beq (kindO o.op) 1) = _
  rw [beq_eq]
  by_cases h : kindO o.op = 1
  · rw [if_pos h, decide_eq_true h]
  · rw [if_neg h, decide_eq_false h]
theorem kind_one {op : Op} (h : kindC P op = 1) : kindO op = 1 := by
  unfold kindC at h
  split at h
  · rename_i d x
    split at h <;> cases h
  · exact h

namespace Trace

theorem edges (T : Trace P F K ih ops n0 sts) {j : Nat} {o : Oper} (ho : ops[j]? = some o) : ∀ e ∈ o.after, Region.binds .any e = true → e.on < j := by
  obtain ⟨m, hm, _⟩ := T.step j o ho
  have := (tidy_spec _ _ _ 0 T.tidy j o m (by simpa using ho) hm).1
  simpa using this
theorem clash (T : Trace P F K ih ops n0 sts) {i j : Nat} {x o : Oper} {m : Nat} (hi : i < j) (hx : ops[i]? = some x) (ho : ops[j]? = some o) (hm : (ancs ops.toList [])[j]? = some m) : m.testBit i = true ∨ (dstBit x &&& namesOf ops.toList o = 0 ∧ namesOf ops.toList x &&& dstBit o = 0) := by
  have := (tidy_spec _ _ _ 0 T.tidy j o m (by simpa using ho) hm).2.2 i x hi (by simpa using hx)
  simpa using this
/-- Whom an operation waits for stands ahead of it. -/
theorem below (T : Trace P F K ih ops n0 sts) {j : Nat} {o : Oper} (ho : ops[j]? = some o) {m : Nat} (hm : (ancs ops.toList [])[j]? = some m) {i : Nat} (hi : m.testBit i = true) : i < j := by
  have := anc_spec j m hm (fun k => decide (k < j)) (fun a ha o' ho' e he hb => by
      have := T.edges ho' e he hb
      simp only [decide_eq_true_eq] at ha ⊢
      omega) (fun o' ho' e he hb => by
      rw [ho] at ho'; cases ho'
      have := T.edges ho e he hb
      simpa using this) i hi
  simpa using this

theorem em_low (T : Trace P F K ih ops n0 sts) : ∀ j, j ≤ ops.size → ∀ i, (sts j).em.testBit i = true → i < j
  | 0, _, i, h => by rw [T.start.2.2.2.1] at h; simp at h
  | j + 1, hj, i, h => by
    obtain ⟨m, hm, st⟩ := T.step j ops[j] (Array.getElem?_eq_getElem (by omega))
    have ih := em_low T j (by omega) i
    generalize sts (j + 1) = s' at st h
    cases st with
    | eff =>
      simp only [Nat.testBit_or, Bool.or_eq_true, Nat.testBit_shiftLeft, Bool.and_eq_true, decide_eq_true_eq] at h
      rcases h with h | ⟨h1, h2⟩
      · have := ih h; omega
      · have : i - j = 0 := by
          rcases Nat.eq_zero_or_pos (i - j) with h | h
          · exact h
          · rw [show (1 : Nat) = 2 ^ 0 from rfl, Nat.testBit_two_pow] at h2
            simp at h2; omega
        omega
    | _ => have := ih h; omega

/-- A step at e that is none of an effect leaves memory alone. -/
theorem still (T : Trace P F K ih ops n0 sts) {e : Nat} (he : e < ops.size) (hn : ¬ effAt sts e) : (sts (e + 1)).hc = (sts e).hc ∧ (sts (e + 1)).ab = (sts e).ab ∧ (sts (e + 1)).em = (sts e).em ∧ (sts (e + 1)).snaps = (sts e).snaps := by
  obtain ⟨m, hm, st⟩ := T.step e ops[e] (Array.getElem?_eq_getElem he)
  unfold effAt at hn
  generalize sts (e + 1) = s' at st hn
  cases st with
  | eff => exfalso; apply hn; simp [Nat.testBit_or, Nat.testBit_shiftLeft]
  | _ => exact ⟨rfl, rfl, rfl, rfl⟩

theorem em_mem (T : Trace P F K ih ops n0 sts) : ∀ j, j ≤ ops.size → ∀ i, i < j → effAt sts i → (sts j).em.testBit i = true
  | 0, _, i, h, _ => absurd h (Nat.not_lt_zero _)
  | j + 1, hj, i, h, he => by
    rcases Nat.lt_or_ge i j with hlt | hge
    · have ih := em_mem T j (by omega) i hlt he
      obtain ⟨m, hm, st⟩ := T.step j ops[j] (Array.getElem?_eq_getElem (by omega))
      generalize sts (j + 1) = s' at st
      cases st with
      | eff => simp [Nat.testBit_or, ih]
      | _ => exact ih
    · have : i = j := by omega
      subst this; exact he

theorem quiet (T : Trace P F K ih ops n0 sts) {a b : Nat} (hab : a ≤ b) (hb : b ≤ ops.size) (hn : ∀ e, a ≤ e → e < b → ¬ effAt sts e) : (sts b).hc = (sts a).hc ∧ (sts b).ab = (sts a).ab := by
  induction b with
  | zero => have : a = 0 := by omega
            subst this; exact ⟨rfl, rfl⟩
  | succ b ihb =>
    rcases Nat.eq_or_lt_of_le hab with h | h
    · subst h; exact ⟨rfl, rfl⟩
    · obtain ⟨k1, k2⟩ := ihb (by omega) (by omega) fun e h1 h2 => hn e h1 (by omega)
      obtain ⟨g1, g2, _⟩ := T.still (e := b) (by omega) (hn b (by omega) (by omega))
      exact ⟨g1.trans k1, g2.trans k2⟩

theorem snap_mem (T : Trace P F K ih ops n0 sts) {e : Nat} (hE : effAt sts e) : ∀ j, j ≤ ops.size → e < j → (e, (sts e).ab, (sts e).hc) ∈ (sts j).snaps
  | 0, _, h => absurd h (Nat.not_lt_zero _)
  | j + 1, hj, h => by
    obtain ⟨m, hm, st⟩ := T.step j ops[j] (Array.getElem?_eq_getElem (by omega))
    rcases Nat.lt_or_ge e j with hlt | hge
    · have ih := snap_mem T hE j (by omega) hlt
      generalize sts (j + 1) = s' at st
      cases st with
      | eff => exact List.mem_cons_of_mem _ ih
      | _ => exact ih
    · have : e = j := by omega
      subst this
      unfold effAt at hE
      generalize sts (e + 1) = s' at st hE
      cases st with
      | eff => exact List.mem_cons_self ..
      | _ => have := T.em_low e (by omega) e hE; omega

theorem watch_keep (T : Trace P F K ih ops n0 sts) {x : Nat × Nat × Oper × Env × AV} : ∀ {j j' : Nat}, j ≤ j' → j' ≤ ops.size → x ∈ (sts j).watch → x ∈ (sts j').watch
  | j, 0, h, _, hx => by have : j = 0 := by omega
                         subst this; exact hx
  | j, j' + 1, h, hj, hx => by
    rcases Nat.eq_or_lt_of_le h with h | h
    · subst h; exact hx
    · have ih := watch_keep T (j := j) (j' := j') (by omega) (by omega) hx
      obtain ⟨m, hm, st⟩ := T.step j' ops[j'] (Array.getElem?_eq_getElem (by omega))
      generalize sts (j' + 1) = s' at st
      cases st with
      | read => exact List.mem_cons_of_mem _ ih
      | _ => exact ih

/-- The rows beside memory. -/
theorem pend_ok (T : Trace P F K ih ops n0 sts) : ∀ j, j ≤ ops.size → (∀ i r row, (i, r, row) ∈ (sts j).pend → i < j ∧ n0 ≤ r ∧ r < (sts j).ra ∧ relOf row = []) ∧ Apart (sts j).pend ∧ n0 ≤ (sts j).ra ∧ (sts j).ra + countA (ops.toList.drop j) ≤ n0 + countA ops.toList
  | 0, _ => by
    obtain ⟨h1, h2, _⟩ := T.start
    rw [h2]
    exact ⟨(fun _ _ _ h => nomatch h), (fun _ _ _ _ _ _ h => nomatch h), by omega, by rw [h1]; simp⟩
  | j + 1, hj => by
    obtain ⟨k1, k2, k3, k4⟩ := pend_ok T j (by omega)
    obtain ⟨m, hm, st⟩ := T.step j ops[j] (Array.getElem?_eq_getElem (by omega))
    have hd : ops.toList.drop j = ops[j] :: ops.toList.drop (j + 1) := by
      rw [List.drop_eq_getElem_cons (by simpa using (by omega : j < ops.size))]; simp
    rw [hd, countA_cons] at k4
    have same : ∀ s' : Stt, s'.pend = (sts j).pend → s'.ra = (sts j).ra → (∀ i r row, (i, r, row) ∈ s'.pend → i < j + 1 ∧ n0 ≤ r ∧ r < s'.ra ∧ relOf row = []) ∧ Apart s'.pend ∧ n0 ≤ s'.ra ∧ s'.ra + countA (ops.toList.drop (j + 1)) ≤ n0 + countA ops.toList := fun s' e1 e2 => by
      rw [e1, e2]
      refine ⟨fun i r row h => ?_, k2, k3, ?_⟩
      · obtain ⟨q1, q2⟩ := k1 i r row h; exact ⟨by omega, q2⟩
      · split at k4 <;> omega
    generalize sts (j + 1) = s' at st
    cases st with
    | alloc hw hk e hrow hp =>
      rename_i env' v h1 row
      obtain ⟨_, _, row2, q1, q2⟩ := opV_lays hk e
      have q1 : h1.get (sts j).ra = some row2 := q1
      rw [hrow] at q1; cases q1
      rw [if_pos (kind_one hk)] at k4
      refine ⟨fun i r row' h => ?_, fun i r row1 i' r' row2 h1 h2 hor => ?_, by show n0 ≤ (sts j).ra + 1; omega, by show (sts j).ra + 1 + _ ≤ _; omega⟩
      · rcases List.mem_cons.1 h with h | h
        · cases h; exact ⟨by omega, k3, Nat.lt_succ_self _, q2⟩
        · obtain ⟨q1, q2, q3, q4⟩ := k1 i r row' h; exact ⟨by omega, q2, Nat.lt_succ_of_lt q3, q4⟩
      · rcases List.mem_cons.1 h1 with g1 | g1
        · rcases List.mem_cons.1 h2 with g2 | g2
          · cases g1; cases g2; exact ⟨rfl, rfl, rfl⟩
          · cases g1
            obtain ⟨q1, _, q3, _⟩ := k1 _ _ _ g2
            omega
        · rcases List.mem_cons.1 h2 with g2 | g2
          · cases g2
            obtain ⟨q1, _, q3, _⟩ := k1 _ _ _ g1
            omega
          · exact k2 _ _ _ _ _ _ g1 g2 hor
    | _ => exact same _ rfl rfl

theorem pend_keep (T : Trace P F K ih ops n0 sts) {x : Nat × Nat × Row} : ∀ {j j' : Nat}, j ≤ j' → j' ≤ ops.size → (x ∈ (sts j').pend ↔ x ∈ (sts j).pend ∨ (j ≤ x.1 ∧ x ∈ (sts j').pend))
  | j, 0, h, _ => by
    have : j = 0 := by omega
    subst this
    exact ⟨.inl, fun h => h.elim id (·.2)⟩
  | j, j' + 1, h, hj => by
    rcases Nat.eq_or_lt_of_le h with h | h
    · subst h; exact ⟨.inl, fun h => h.elim id (·.2)⟩
    · have ih := pend_keep T (x := x) (j := j) (j' := j') (by omega) (by omega)
      obtain ⟨m, hm, st⟩ := T.step j' ops[j'] (Array.getElem?_eq_getElem (by omega))
      generalize sts (j' + 1) = s' at st
      cases st with
      | alloc hw hk e hrow hp =>
        refine ⟨fun hx => ?_, fun hx => hx.elim (fun h => List.mem_cons_of_mem _ (ih.2 (.inl h))) (·.2)⟩
        rcases List.mem_cons.1 hx with g | g
        · refine .inr ⟨?_, hx⟩
          subst g; show j ≤ j'; omega
        · rcases ih.1 g with g | g
          · exact .inl g
          · exact .inr ⟨g.1, hx⟩
      | _ => exact ih

/-- An entry of the end's list stands in the list as soon as its operation is through. -/
theorem pend_at (T : Trace P F K ih ops n0 sts) {i r : Nat} {row : Row} {j : Nat} (hj : j ≤ ops.size) (hi : i < j) : (i, r, row) ∈ (sts ops.size).pend ↔ (i, r, row) ∈ (sts j).pend := by
  rw [T.pend_keep hj (Nat.le_refl _)]
  exact ⟨fun h => h.elim id fun h => absurd h.1 (by simp; omega), .inl⟩
end Trace
end
end Go.Exe
/- Drawn regions: slots and memory in any order. -/
namespace Go.Exe
open Go

/-- A slot after the operations of S, in the order of the text. -/
noncomputable def vAt (ops : Array Oper) (sts : Nat → Stt) (S : Nat → Bool) (t : Nat) : Nat → Option AV
  | 0 => getT (sts 0).env t
  | n + 1 => if S n = true ∧ (ops[n]?).bind (·.dst) = some t then getT (sts (n + 1)).env t else vAt ops sts S t n

def with1 (S : Nat → Bool) (j : Nat) : Nat → Bool := fun i => decide (i = j) || S i
theorem with1_self (S : Nat → Bool) (j : Nat) : with1 S j j = true := by simp [with1]
theorem with1_ne {S : Nat → Bool} {j i : Nat} (h : i ≠ j) : with1 S j i = S i := by simp [with1, h]

theorem putD_some {env env' : Env} {d : Option Nat} {v : AV} (h : putD d v env = some env') : (∀ t, d = some t → (getT env t).isSome = true) ∧ ∀ u, getT env' u = if d = some u then some v else getT env u := by
  cases d with
  | none => cases h; exact ⟨(fun _ h => nomatch h), fun u => by simp⟩
  | some t =>
    obtain ⟨h1, h2⟩ := setT_some (show setT env t v = some env' from h)
    refine ⟨fun t' e => by cases e; exact h1, fun u => ?_⟩
    rw [h2]
    by_cases hu : u = t
    · subst hu; simp
    · rw [if_neg hu, if_neg (fun e => hu (by cases e; rfl))]
theorem putD_of {env : Env} {d : Option Nat} {v : AV} (h : ∀ t, d = some t → (getT env t).isSome = true) : ∃ env', putD d v env = some env' := by
  cases d with
  | none => exact ⟨env, rfl⟩
  | some t => exact setT_of (h t rfl)

theorem ER.congr {σ : Sig} {ρ : Rho} {env env' : Env} {tmps : Array Value} (h : ER σ ρ env tmps) (e : ∀ t, getT env' t = getT env t) : ER σ ρ env' tmps := fun t x ht => h t x (by rw [← e]; exact ht)

section
variable {P : Program} {F : Facts} {K : Known} {ih : Run} {ops : Array Oper} {sts : Nat → Stt} {n0 : Nat} {o : Oper} {m j : Nat} {S : Nat → Bool}

/-- What an operation names, it finds as in the order of the text. -/
structure Comes (P : Program) (F : Facts) (K : Known) (ih : Run) (ops : Array Oper) (n0 : Nat) (sts : Nat → Stt) (S : Nat → Bool) (j : Nat) (o : Oper) (m : Nat) : Prop where
  T : Trace P F K ih ops n0 sts
  ho : ops[j]? = some o
  hm : (ancs ops.toList [])[j]? = some m
  closed : Closed ops S
  waits : Waits ops S j
  fresh : S j = false

namespace Comes

theorem lt (C : Comes P F K ih ops n0 sts S j o m) : j < ops.size := (Array.getElem?_eq_some_iff.1 C.ho).1
theorem mS (C : Comes P F K ih ops n0 sts S j o m) {i : Nat} (h : m.testBit i = true) : S i = true := anc_spec j m C.hm S C.closed C.waits i h
theorem after (C : Comes P F K ih ops n0 sts S j o m) {k : Nat} {m' : Nat} (hS : S k = true) (hm : (ancs ops.toList [])[k]? = some m') : m'.testBit j = false := by
  cases h : m'.testBit j with
  | false => rfl
  | true => have := anc_spec k m' hm S C.closed (C.closed k hS) j h; rw [C.fresh] at this; cases this

theorem dst_step (C : Comes P F K ih ops n0 sts S j o m) {i : Nat} (hi : i < ops.size) : ∃ v, putD (ops[i]).dst v (sts i).env = some (sts (i + 1)).env := by
  obtain ⟨m', _, st⟩ := C.T.step i ops[i] (Array.getElem?_eq_getElem hi)
  generalize sts (i + 1) = s' at st
  cases st <;> exact ⟨_, ‹_›⟩

theorem slots (C : Comes P F K ih ops n0 sts S j o m) {t : Nat} (ht : (namesOf ops.toList o).testBit t = true) : vAt ops sts S t ops.size = getT (sts j).env t := by
  have up : ∀ i, i ≤ j → vAt ops sts S t i = getT (sts i).env t := fun i => by
    induction i with
    | zero => intro _; rfl
    | succ i ihi =>
      intro hi
      have hlt : i < ops.size := by have := C.lt; omega
      obtain ⟨v, hv⟩ := C.dst_step hlt
      unfold vAt
      rw [Array.getElem?_eq_getElem hlt]
      by_cases hd : (ops[i]).dst = some t
      · have hS : S i = true := by
          rcases C.T.clash (by omega) (Array.getElem?_eq_getElem hlt) C.ho C.hm with h | ⟨h, _⟩
          · exact C.mS h
          · exact (and_zero h (dst_bit.2 hd) ht).elim
        rw [if_pos ⟨hS, hd⟩]
      · rw [if_neg (fun h => hd h.2), ihi (by omega), (putD_some hv).2, if_neg hd]
  have down : ∀ i, j ≤ i → i ≤ ops.size → vAt ops sts S t i = vAt ops sts S t j := fun i hji => by
    induction i with
    | zero => intro _; have : j = 0 := by omega
              rw [this]
    | succ i ihi =>
      intro hi
      rcases Nat.eq_or_lt_of_le hji with h | h
      · rw [h]
      · have hlt : i < ops.size := by omega
        rw [vAt, if_neg ?_, ihi (by omega) (by omega)]
        rintro ⟨hS, hd⟩
        rw [Array.getElem?_eq_getElem hlt] at hd
        have hne : j ≠ i := fun e => by subst e; rw [C.fresh] at hS; cases hS
        obtain ⟨m', hm', _⟩ := C.T.step i ops[i] (Array.getElem?_eq_getElem hlt)
        rcases C.T.clash (by omega) C.ho (Array.getElem?_eq_getElem hlt) hm' with h | ⟨_, h⟩
        · rw [C.after hS hm'] at h; cases h
        · exact and_zero h ht (dst_bit.2 hd)
  rw [down _ (Nat.le_of_lt C.lt) (Nat.le_refl _), up j (Nat.le_refl _)]

theorem vAt_with1 (C : Comes P F K ih ops n0 sts S j o m) (t : Nat) : vAt ops sts (with1 S j) t ops.size = if o.dst = some t then getT (sts (j + 1)).env t else vAt ops sts S t ops.size := by
  have low : ∀ i, i ≤ j → vAt ops sts (with1 S j) t i = vAt ops sts S t i := fun i => by
    induction i with
    | zero => intro _; rfl
    | succ i ihi =>
      intro hi
      unfold vAt
      rw [with1_ne (show i ≠ j by omega), ihi (by omega)]
  have high : ∀ i, j < i → i ≤ ops.size → vAt ops sts (with1 S j) t i = if o.dst = some t then getT (sts (j + 1)).env t else vAt ops sts S t i := fun i hji => by
    induction i with
    | zero => omega
    | succ i ihi =>
      intro hi
      rcases Nat.eq_or_lt_of_le hji with h | h
      · have : i = j := by omega
        subst this
        unfold vAt
        rw [with1_self, C.ho, C.fresh, low i (Nat.le_refl _)]
        simp
      · have hlt : i < ops.size := by omega
        have ihi := ihi (by omega) (by omega)
        unfold vAt
        rw [with1_ne (show i ≠ j by omega), ihi]
        by_cases hc : S i = true ∧ (ops[i]?).bind (·.dst) = some t
        · rw [if_pos hc, if_pos hc, if_neg ?_]
          intro hd
          obtain ⟨hS, hd2⟩ := hc
          rw [Array.getElem?_eq_getElem hlt] at hd2
          obtain ⟨m', hm', _⟩ := C.T.step i ops[i] (Array.getElem?_eq_getElem hlt)
          rcases C.T.clash (by omega) C.ho (Array.getElem?_eq_getElem hlt) hm' with h | ⟨_, h⟩
          · rw [C.after hS hm'] at h; cases h
          · exact and_zero h (names_bit (.inl hd)) (dst_bit.2 hd2)
        · rw [if_neg hc, if_neg hc]
  exact high _ C.lt (Nat.le_refl _)

/-- The slots' next state. -/
theorem env_step (C : Comes P F K ih ops n0 sts S j o m) {envS : Env} (he : ∀ t, getT envS t = vAt ops sts S t ops.size) {v : AV} (hp : putD o.dst v (sts j).env = some (sts (j + 1)).env) : ∃ env', putD o.dst v envS = some env' ∧ ∀ t, getT env' t = vAt ops sts (with1 S j) t ops.size := by
  obtain ⟨h1, h2⟩ := putD_some hp
  obtain ⟨env', h3⟩ := putD_of (env := envS) (d := o.dst) (v := v) fun t ht => by
    rw [he, C.slots (names_bit (.inl ht))]; exact h1 t ht
  refine ⟨env', h3, fun t => ?_⟩
  rw [(putD_some h3).2, C.vAt_with1, h2]
  by_cases hd : o.dst = some t
  · rw [if_pos hd, if_pos hd, if_pos hd]
  · rw [if_neg hd, if_neg hd, he]

theorem opd_same (C : Comes P F K ih ops n0 sts S j o m) {envS : Env} (he : ∀ t, getT envS t = vAt ops sts S t ops.size) : ∀ x ∈ o.op.operands, opd P x (sts j).env = opd P x envS := fun x hx => by
  cases x with
  | tmp t => show getT _ t = getT _ t; rw [he, C.slots (names_bit (.inr (.inl hx)))]
  | const c => rfl
  | global g => rfl
  | func f => rfl

theorem wanted_same (C : Comes P F K ih ops n0 sts S j o m) {envS : Env} (he : ∀ t, getT envS t = vAt ops sts S t ops.size) {b : Bool} (e : wantedO (guardT ops.toList o.guard) (sts j).env = some b) : wantedO (guardT ops.toList o.guard) envS = some b := by
  obtain ⟨g, h1, h2⟩ := bnd_some.1 e
  unfold wantedO
  rw [h1]
  show Option.rec (motive := fun _ => Option Bool) (some true) (fun q => bnd (getT envS q.1) fun v => wanted v q.2) g = some b
  cases hg : o.guard with
  | none => rw [hg] at h1; cases h1; exact h2
  | some q =>
    obtain ⟨i, b0⟩ := q
    rw [hg] at h1
    obtain ⟨o', k1, k2⟩ := bnd_some.1 (show bnd (nth ops.toList i) (fun o => bnd o.dst fun t => some (some (t, b0))) = some g from h1)
    obtain ⟨t, k3, k4⟩ := bnd_some.1 k2
    cases k4
    have h2 : bnd (getT (sts j).env t) (fun v => wanted v b0) = some b := h2
    show bnd (getT envS t) (fun v => wanted v b0) = some b
    rw [nth_eq] at k1
    rw [he, C.slots (names_bit (.inr (.inr ⟨i, b0, o', hg, k1, k3⟩)))]
    exact h2
end Comes

/-! ### Memory -/

/-- Memory after the operations of S: behind the effects ahead of k, with the rows beside it. -/
structure Mem (σ : Sig) (N : Nat) (ops : Array Oper) (sts : Nat → Stt) (ρ0 : Rho) (h0 : H) (w0 : World) (S : Nat → Bool) (k : Nat) (ρ : Rho) (hS : H) (w : World) : Prop where
  le : k ≤ ops.size
  eff : ∀ e, e < ops.size → effAt sts e → (S e = true ↔ e < k)
  hr : HR σ N ρ hS w
  nx : hS.nx = (sts k).hc.nx
  lt : ∀ i r row, (i, r, row) ∈ (sts ops.size).pend → r < hS.nx
  row : ∀ i r row, (i, r, row) ∈ (sts ops.size).pend → S i = true → (sts k).ab.testBit i = false → hS.get r = some row
  rest : ∀ q, (∀ i row, (i, q, row) ∈ (sts ops.size).pend → S i = true → (sts k).ab.testBit i = false → False) → hS.get q = (sts k).hc.get q
  gone : ∀ i r row, (i, r, row) ∈ (sts ops.size).pend → (sts k).ab.testBit i = false → (sts k).hc.get r = none
  rel : ∀ i r row, (i, r, row) ∈ (sts ops.size).pend → (sts k).ab.testBit i = false → ∀ q row0, (sts k).hc.get q = some row0 → r ∉ relOf row0
  free : ∀ i r row, (i, r, row) ∈ (sts ops.size).pend → S i = false → ρ r = none
  abs : ∀ i, (sts k).ab.testBit i = true → S i = true
  st : St ρ0 h0 w0 ρ hS w

variable {σ : Sig} {N : Nat} {ρ ρ' ρ0 : Rho} {h0 hS hv h' : H} {w w' w0 : World} {k : Nat}

/-- Which rows are beside what an operation sees? -/
def Beside (ops : Array Oper) (sts : Nat → Stt) (S : Nat → Bool) (m k : Nat) (q : Nat) : Prop := ∃ i row, (i, q, row) ∈ (sts ops.size).pend ∧ S i = true ∧ m.testBit i = false ∧ (sts k).ab.testBit i = false

theorem Mem.vis (M : Mem σ N ops sts ρ0 h0 w0 S k ρ hS w) (T : Trace P F K ih ops n0 sts) {m : Nat} (hm : ∀ i, m.testBit i = true → S i = true) {pend : List (Nat × Nat × Row)} (hp : ∀ i r row, m.testBit i = true → ((i, r, row) ∈ pend ↔ (i, r, row) ∈ (sts ops.size).pend)) (ha : Apart pend) {hk : H} (hhk : hk = (sts k).hc) {ab : Nat} (hab : ab = (sts k).ab) (e : visible m ab pend hk = some hv) :
    hv.nx = hS.nx ∧ (∀ q row, hv.get q = some row → hS.get q = some row) ∧ (∀ q, Beside ops sts S m k q → ∃ row, hS.get q = some row ∧ relOf row = [] ∧ hv.get q = none ∧ q < hS.nx) ∧ (∀ q, ¬ Beside ops sts S m k q → hS.get q = hv.get q) ∧ ∀ q row0 x, Beside ops sts S m k x → hv.get q = some row0 → x ∉ relOf row0 := by
  subst hhk hab
  obtain ⟨k1, k2, k3⟩ := visible_spec ha e
  have pn := T.pend_ok ops.size (Nat.le_refl _)
  have other : ∀ q, ¬ Beside ops sts S m k q → hS.get q = hv.get q := fun q hq => by
    by_cases hin : ∃ i row, (i, q, row) ∈ (sts ops.size).pend ∧ S i = true ∧ (sts k).ab.testBit i = false
    · obtain ⟨i, row, g1, g2, g3⟩ := hin
      have hmi : m.testBit i = true := by
        cases h : m.testBit i with
        | true => rfl
        | false => exact absurd ⟨i, row, g1, g2, h, g3⟩ hq
      rw [M.row i q row g1 g2 g3, k2 i q row ((hp i q row hmi).2 g1) hmi g3]
    · rw [M.rest q fun i row g1 g2 g3 => hin ⟨i, row, g1, g2, g3⟩, k3 q fun i row g1 g2 g3 => hin ⟨i, row, (hp i q row g2).1 g1, hm i g2, g3⟩]
  have besides : ∀ q, Beside ops sts S m k q → ∃ row, hS.get q = some row ∧ relOf row = [] ∧ hv.get q = none ∧ q < hS.nx := fun q ⟨i, row, g1, g2, g3, g4⟩ => by
    refine ⟨row, M.row i q row g1 g2 g4, (pn.1 i q row g1).2.2.2, ?_, M.lt i q row g1⟩
    rw [k3 q fun i' row' q1 q2 q3 => ?_, M.gone i q row g1 g4]
    obtain ⟨e1, _⟩ := pn.2.1 i q row i' q row' g1 ((hp i' q row' q2).1 q1) (.inr rfl)
    subst e1; rw [g3] at q2; cases q2
  refine ⟨by rw [k1, M.nx], fun q row hq => ?_, besides, other, fun q row0 x hx hq hc => ?_⟩
  · by_cases hb : Beside ops sts S m k q
    · obtain ⟨_, _, _, h3, _⟩ := besides q hb
      rw [hq] at h3; cases h3
    · rw [other q hb]; exact hq
  · obtain ⟨i, row, g1, g2, g3, g4⟩ := hx
    by_cases hin : ∃ i' row', (i', q, row') ∈ pend ∧ m.testBit i' = true ∧ (sts k).ab.testBit i' = false
    · obtain ⟨i', row', q1, q2, q3⟩ := hin
      rw [k2 i' q row' q1 q2 q3] at hq
      cases hq
      rw [(pn.1 i' q _ ((hp i' q _ q2).1 q1)).2.2.2] at hc; cases hc
    · rw [k3 q fun i' row' q1 q2 q3 => hin ⟨i', row', q1, q2, q3⟩] at hq
      exact M.rel i x row g1 g4 q row0 hq hc

/-- A step that is neither an effect nor lays a row. -/
theorem Mem.other (M : Mem σ N ops sts ρ0 h0 w0 S k ρ hS w) {j : Nat} (he : ¬ effAt sts j) (ha : ∀ r row, (j, r, row) ∉ (sts ops.size).pend) (hh : HR σ N ρ' hS w') (st : St ρ hS w ρ' hS w') : Mem σ N ops sts ρ0 h0 w0 (with1 S j) k ρ' hS w' := by
  have ne : ∀ {i r row}, (i, r, row) ∈ (sts ops.size).pend → with1 S j i = S i := fun {i r row} h => with1_ne fun e => by subst e; exact ha _ _ h
  exact { le := M.le, eff := fun e h1 h2 => by
            have hne : e ≠ j := fun h => by subst h; exact he h2
            rw [with1_ne hne]; exact M.eff e h1 h2, hr := hh, nx := M.nx, lt := M.lt,
          row := fun i r row h1 h2 => M.row i r row h1 (by rw [← ne h1]; exact h2), rest := fun q hq => M.rest q fun i row h1 h2 => hq i row h1 (by rw [ne h1]; exact h2), gone := M.gone, rel := M.rel,
          free := fun i r row h1 h2 => st.fresh r (M.lt i r row h1) (M.free i r row h1 (by rw [← ne h1]; exact h2)), abs := fun i h => by simp [with1, M.abs i h], st := M.st.trans st }
end
end Go.Exe
