/- What operations look at. -/
import Derived.Test.YtimnljbphmndoaaGreatDoorExF6
namespace Go.Exe
open Go

section
variable {P : Program} {F : Facts} {K : Known} {ih : Run} {env env' : Env} {h h' h1 : H} {v : AV}

theorem opds_congr : ∀ {l : List Operand}, (∀ x ∈ l, opd P x env = opd P x env') → opds P l env = opds P l env'
  | [], _ => rfl
  | x :: l, H => by
    show bnd (opd P x env) (fun v => bnd (opds P l env) fun r => some (v :: r)) = bnd (opd P x env') (fun v => bnd (opds P l env') fun r => some (v :: r))
    rw [H x (List.mem_cons_self ..), opds_congr fun y hy => H y (List.mem_cons_of_mem _ hy)]
theorem parts_congr : ∀ {l : List (Nat × Operand)}, (∀ x ∈ l, opd P x.2 env = opd P x.2 env') → parts P l env = parts P l env'
  | [], _ => rfl
  | (i, x) :: l, H => by
    show bnd (opd P x env) (fun v => bnd (parts P l env) fun r => some ((i, v) :: r)) = bnd (opd P x env') (fun v => bnd (parts P l env') fun r => some ((i, v) :: r))
    rw [H (i, x) (List.mem_cons_self ..), parts_congr fun y hy => H y (List.mem_cons_of_mem _ hy)]
theorem bmap_congr {x : Option Operand} (H : ∀ y, x = some y → opd P y env = opd P y env') : (x.map fun o => opd P o env) = (x.map fun o => opd P o env') := by
  cases x with
  | none => rfl
  | some y => exact congrArg some (H y rfl)

theorem callO_congr {c : Call} (H : ∀ x ∈ c.operands, opd P x env = opd P x env') : callO P K ih c env h = callO P K ih c env' h := by
  unfold callO
  unfold Call.operands at H
  cases hc : c.callee with
  | builtin b =>
    rw [hc] at H
    show bnd (opds P c.args.toList env) _ = bnd (opds P c.args.toList env') _
    rw [opds_congr fun x hx => H x (by simp at hx ⊢; exact hx)]
  | value f =>
    rw [hc] at H
    show bnd (opd P f env) (fun fv => bnd (opds P c.args.toList env) _) = bnd (opd P f env') (fun fv => bnd (opds P c.args.toList env') _)
    rw [opds_congr fun x hx => H x (by simp at hx ⊢; exact .inr hx), H f (by simp)]
  | invoke r n => rfl

theorem callF_callO {c : Call} (hc : c.callee ≠ .builtin .len) : callF P K F ih c env h = callO P K ih c env h := by
  unfold callF symLen
  split
  · contradiction
  · rfl
/-- Slots that are not named do not matter. -/
theorem opV_congr {op : Op} (H : ∀ x ∈ op.operands, opd P x env = opd P x env') : opV P F K ih op env h = opV P F K ih op env' h := by
  cases op <;> first | rfl | skip
  case move x => exact congrArg (vO · h) (H x (by simp [Op.operands]))
  case assign x => exact congrArg (vO · h) (H x (by simp [Op.operands]))
  case pick c x y =>
    show onBool (opd P c env) (vO (opd P x env) h) (vO (opd P y env) h) = onBool (opd P c env') (vO (opd P x env') h) (vO (opd P y env') h)
    rw [H c (by simp [Op.operands]), H x (by simp [Op.operands]), H y (by simp [Op.operands])]
  case box t x => exact congrArg (bnd · _) (H x (by simp [Op.operands]))
  case build t ps => exact congrArg (bnd · _) (parts_congr fun x hx => H x.2 (by simp [Op.operands]; exact ⟨_, by simpa using hx⟩))
  case buildSlice t n ps => exact congrArg (bnd · _) (parts_congr fun x hx => H x.2 (by simp [Op.operands]; exact ⟨_, by simpa using hx⟩))
  case load t x => exact congrArg (bnd · _) (H x (by simp [Op.operands]))
  case nilCheck x => exact congrArg (bnd · _) (H x (by simp [Op.operands]))
  case unOp u t x => exact congrArg (bnd · _) (H x (by simp [Op.operands]))
  case convert s d x => exact congrArg (bnd · _) (H x (by simp [Op.operands]))
  case makeInterface t x => exact congrArg (bnd · _) (H x (by simp [Op.operands]))
  case fieldAddr t x f => exact congrArg (bnd · _) (H x (by simp [Op.operands]))
  case field t x f => exact congrArg (bnd · _) (H x (by simp [Op.operands]))
  case extract x i => exact congrArg (bnd · _) (H x (by simp [Op.operands]))
  case call c =>
    show callF P K F ih c env h = callF P K F ih c env' h
    unfold callF
    rw [show symLen P c env = symLen P c env' from ?_, callO_congr H]
    unfold symLen
    split
    · rename_i hc
      congr 1
      funext t
      congr 1
      have : ∀ x ∈ c.args.toList, opd P x env = opd P x env' := fun x hx => H x (by
        show x ∈ c.operands
        unfold Call.operands
        rw [hc]
        simpa using hx)
      generalize c.args.toList = l at this ⊢
      cases l with
      | nil => rfl
      | cons x l =>
        cases l with
        | nil => show bnd (opd P x env) symO = bnd (opd P x env') symO; rw [this x (List.mem_cons_self ..)]
        | cons => rfl
    · rfl
  case store t x y =>
    show bnd (opd P x env) (fun a => bnd (opd P y env) _) = bnd (opd P x env') (fun a => bnd (opd P y env') _)
    rw [H x (by simp [Op.operands]), H y (by simp [Op.operands])]
  case binOp b t x y ty =>
    show bnd (opd P x env) (fun a => bnd (opd P y env) fun c => vO (binO P F b t (isC x || isC y) a c) h) = bnd (opd P x env') (fun a => bnd (opd P y env') fun c => vO (binO P F b t (isC x || isC y) a c) h)
    rw [H x (by simp [Op.operands]), H y (by simp [Op.operands])]
  case makeSlice t x y =>
    show bnd (opd P x env) (fun a => bnd (opd P y env) _) = bnd (opd P x env') (fun a => bnd (opd P y env') _)
    rw [H x (by simp [Op.operands]), H y (by simp [Op.operands])]
  case indexAddr t x y =>
    show bnd (opd P x env) (fun a => bnd (opd P y env) fun j => vO (indexAddrO (elemO P t) a j) h) = bnd (opd P x env') (fun a => bnd (opd P y env') fun j => vO (indexAddrO (elemO P t) a j) h)
    rw [H x (by simp [Op.operands]), H y (by simp [Op.operands])]
  case index t x y =>
    show bnd (opd P x env) (fun a => bnd (opd P y env) fun j => vO (indexF P F t (elemO P t) a j) h) = bnd (opd P x env') (fun a => bnd (opd P y env') fun j => vO (indexF P F t (elemO P t) a j) h)
    rw [H x (by simp [Op.operands]), H y (by simp [Op.operands])]
  case makeMap t r => cases r <;> rfl
  case makeChan t x => exact congrArg (bnd · _) (H x (by simp [Op.operands]))
  case lookup t x y ok =>
    show bnd (opd P x env) (fun a => bnd (opd P y env) _) = bnd (opd P x env') (fun a => bnd (opd P y env') _)
    rw [H x (by simp [Op.operands]), H y (by simp [Op.operands])]
  case mapEntry t x y =>
    show bnd (opd P x env) (fun a => bnd (opd P y env) _) = bnd (opd P x env') (fun a => bnd (opd P y env') _)
    rw [H x (by simp [Op.operands]), H y (by simp [Op.operands])]
  case mapUpdate t x y z =>
    show bnd (opd P x env) (fun a => bnd (opd P y env) fun b => bnd (opd P z env) _) = bnd (opd P x env') (fun a => bnd (opd P y env') fun b => bnd (opd P z env') _)
    rw [H x (by simp [Op.operands]), H y (by simp [Op.operands]), H z (by simp [Op.operands])]
  case insert t x y z =>
    show bnd (opd P x env) (fun a => bnd (opd P y env) fun b => bnd (opd P z env) _) = bnd (opd P x env') (fun a => bnd (opd P y env') fun b => bnd (opd P z env') _)
    rw [H x (by simp [Op.operands]), H y (by simp [Op.operands]), H z (by simp [Op.operands])]
  case entryStore t x y z =>
    show bnd (opd P x env) (fun a => bnd (opd P y env) fun b => bnd (opd P z env) _) = bnd (opd P x env') (fun a => bnd (opd P y env') fun b => bnd (opd P z env') _)
    rw [H x (by simp [Op.operands]), H y (by simp [Op.operands]), H z (by simp [Op.operands])]
  case range t x => exact congrArg (bnd · _) (H x (by simp [Op.operands]))
  case entry x => exact congrArg (bnd · _) (H x (by simp [Op.operands]))
  case next x s =>
    cases s with
    | true => rfl
    | false => exact congrArg (bnd · _) (H x (by simp [Op.operands]))
  case makeFunc f x y =>
    show bnd (opds P x.toList env) (fun l => bnd (opds P y.toList env) _) = bnd (opds P x.toList env') (fun l => bnd (opds P y.toList env') _)
    rw [opds_congr fun z hz => H z (by simp [Op.operands] at hz ⊢; exact .inl hz), opds_congr (l := y.toList) fun z hz => H z (by simp [Op.operands] at hz ⊢; exact .inr hz)]
  case slice t x lo hi mx =>
    show bnd (opd P x env) (fun a => vO (sliceF P F t a (lo.map fun o => opd P o env) (hi.map fun o => opd P o env) (mx.map fun o => opd P o env)) h) = bnd (opd P x env') (fun a => vO (sliceF P F t a (lo.map fun o => opd P o env') (hi.map fun o => opd P o env') (mx.map fun o => opd P o env')) h)
    rw [H x (by simp [Op.operands]), bmap_congr (x := lo) fun y hy => H y (by simp [Op.operands, hy]), bmap_congr (x := hi) fun y hy => H y (by simp [Op.operands, hy]), bmap_congr (x := mx) fun y hy => H y (by simp [Op.operands, hy])]

theorem vO_any {x : Option AV} (e : vO x h = some (v, h1)) : h1 = h ∧ ∀ h2, vO x h2 = some (v, h2) := by
  obtain ⟨rfl, rfl⟩ := vO_some e
  exact ⟨rfl, fun _ => rfl⟩
theorem bnd_any {α : Type} {x : Option α} {k : α → H → Out} (e : bnd x (fun a => k a h) = some (v, h1)) (H : ∀ a, k a h = some (v, h1) → h1 = h ∧ ∀ h2, k a h2 = some (v, h2)) : h1 = h ∧ ∀ h2, bnd x (fun a => k a h2) = some (v, h2) := by
  obtain ⟨a, rfl, e⟩ := bnd_some.1 e
  exact H a e
theorem ite_any {b : Bool} {k : H → Out} (e : ite' b (k h) = some (v, h1)) (H : k h = some (v, h1) → h1 = h ∧ ∀ h2, k h2 = some (v, h2)) : h1 = h ∧ ∀ h2, ite' b (k h2) = some (v, h2) := by
  obtain ⟨rfl, e⟩ := ite_some.1 e
  exact H e
theorem some_any {x : AV} (e : (some (x, h) : Out) = some (v, h1)) : h1 = h ∧ ∀ h2, (some (x, h2) : Out) = some (v, h2) := by cases e; exact ⟨rfl, fun _ => rfl⟩
theorem capO_any {t : TypeId} {a : AV} (e : capO P t a h = some (v, h1)) : h1 = h ∧ ∀ h2, capO P t a h2 = some (v, h2) := by
  obtain ⟨q, h3, e⟩ := bnd_some.1 e
  split at e
  · cases e; exact ⟨rfl, fun h2 => by unfold capO; rw [h3]; rfl⟩
  · cases e; exact ⟨rfl, fun h2 => by unfold capO; rw [h3]; rfl⟩
  · cases e

theorem undOf_eq {t : TypeId} : undOf P t = P.underlying t := rfl

/-- Operations that look at values alone. -/
theorem pure_any {op : Op} (hk : kindC P op = 0) (e : opV P F K ih op env h = some (v, h1)) : h1 = h ∧ ∀ h2, opV P F K ih op env h2 = some (v, h2) := by
  cases op <;> first | (cases hk; done) | (cases (show (none : Out) = some (v, h1) from e); done) | skip
  case move x => exact vO_any e
  case assign x => exact vO_any e
  case pick c x y =>
    obtain ⟨b, h2, e⟩ := onBool_some (show onBool (opd P c env) (vO (opd P x env) h) (vO (opd P y env) h) = some (v, h1) from e)
    have key : h1 = h ∧ ∀ h2, (bif b then vO (opd P x env) h2 else vO (opd P y env) h2) = some (v, h2) := by cases b <;> exact vO_any e
    refine ⟨key.1, fun h3 => ?_⟩
    show onBool (opd P c env) (vO (opd P x env) h3) (vO (opd P y env) h3) = _
    rw [h2]
    have := key.2 h3
    cases b <;> exact this
  case build t ps => exact bnd_any (k := fun l h => vO (buildO P t l) h) e fun _ => vO_any
  case nilCheck x => exact bnd_any (k := fun a h => vO (nilCheckO a) h) e fun _ => vO_any
  case unOp u t x => exact bnd_any (k := fun a h => vO (unO u a) h) e fun _ => vO_any
  case makeInterface t x => exact bnd_any (k := fun a h => ite' (concT P t) (some (.ifc t a, h))) e fun _ e => ite_any (k := fun h => some (.ifc t _, h)) e some_any
  case fieldAddr t x f => exact bnd_any (k := fun a h => vO (fieldAddrO (fieldO P t f) a) h) e fun _ => vO_any
  case field t x f => exact bnd_any (k := fun a h => vO (fieldVO (fieldO P t f) a) h) e fun _ => vO_any
  case extract x i => exact bnd_any (k := fun a h => vO (tupO a i) h) e fun _ => vO_any
  case binOp b t x y ty => exact bnd_any (k := fun a h => bnd (opd P y env) fun c => vO (binO P F b t (isC x || isC y) a c) h) e fun _ e => bnd_any (k := fun c h => vO (binO P F b t (isC x || isC y) _ c) h) e fun _ => vO_any
  case indexAddr t x y => exact bnd_any (k := fun a h => bnd (opd P y env) fun c => vO (indexAddrO (elemO P t) a c) h) e fun _ e => bnd_any (k := fun c h => vO (indexAddrO (elemO P t) _ c) h) e fun _ => vO_any
  case index t x y => exact bnd_any (k := fun a h => bnd (opd P y env) fun c => vO (indexF P F t (elemO P t) a c) h) e fun _ e => bnd_any (k := fun c h => vO (indexF P F t (elemO P t) _ c) h) e fun _ => vO_any
  case makeFunc f x y => exact bnd_any (k := fun l h => bnd (opds P y.toList env) fun m => some (.fn f l m, h)) e fun _ e => bnd_any (k := fun m h => some (.fn f _ m, h)) e fun _ => some_any
  case slice t x lo hi mx => exact bnd_any (k := fun a h => vO (sliceF P F t a (lo.map fun o => opd P o env) (hi.map fun o => opd P o env) (mx.map fun o => opd P o env)) h) e fun _ => vO_any
  case convert s d x =>
    refine bnd_any (k := fun a h => convF P F s d a h) e fun a e => ?_
    have cv : convF P F s d a h = some (v, h1) → (convertO P s d a h = some (v, h1) → h1 = h ∧ ∀ h2, convertO P s d a h2 = some (v, h2)) → h1 = h ∧ ∀ h2, convF P F s d a h2 = some (v, h2) := fun e k => by
      cases a <;> first | exact vO_any e | exact k e
    refine cv e fun e => ?_
    unfold kindC at hk
    unfold convertO at e ⊢
    cases hs : undOf P s with
    | none => rw [hs] at e; cases (show (none : Out) = some (v, h1) from e)
    | some ds =>
      cases hd : undOf P d with
      | none => rw [hs, hd] at e; cases (show (none : Out) = some (v, h1) from e)
      | some dd =>
        rw [hs, hd] at e
        simp only [hd] at hk
        cases dd <;> first | (cases hk; done) | skip
        case int k =>
          cases a <;> first | (cases (show (none : Out) = some (v, h1) from e); done) | skip
          case int _ n _ => exact vO_any (x := mkI k n) e
  case call c =>
    have hl : c.callee ≠ .builtin .len := fun hc => by
      obtain ⟨cal, args, ats⟩ := c
      cases hc; cases hk
    unfold kindC kindO at hk
    have e : callO P K ih c env h = some (v, h1) := (callF_callO hl).symm.trans e
    suffices hg : h1 = h ∧ ∀ h2, callO P K ih c env h2 = some (v, h2) from ⟨hg.1, fun h2 => (callF_callO hl).trans (hg.2 h2)⟩
    unfold callO at e ⊢
    obtain ⟨cal, args, ats⟩ := c
    cases cal with
    | value f => cases hk
    | invoke r n => cases hk
    | builtin b =>
      cases b <;> first | (cases hk; done) | skip
      case max =>
        refine bnd_any (k := fun l h => builtinO P .max ats.toList l h) e fun l e => ?_
        cases l with
        | nil => cases (show (none : Out) = some (v, h1) from e)
        | cons a l => exact vO_any (x := minmax false l a) e
      case min =>
        refine bnd_any (k := fun l h => builtinO P .min ats.toList l h) e fun l e => ?_
        cases l with
        | nil => cases (show (none : Out) = some (v, h1) from e)
        | cons a l => exact vO_any (x := minmax true l a) e
      case cap =>
        refine bnd_any (k := fun l h => builtinO P .cap ats.toList l h) e fun l e => ?_
        generalize ats.toList = tl at e ⊢
        cases tl with
        | nil => cases (show (none : Out) = some (v, h1) from e)
        | cons t ts =>
          cases ts with
          | cons => cases (show (none : Out) = some (v, h1) from e)
          | nil =>
            cases l with
            | nil => cases (show (none : Out) = some (v, h1) from e)
            | cons a l =>
              cases l with
              | cons => cases (show (none : Out) = some (v, h1) from e)
              | nil => exact capO_any (P := P) (t := t) (a := a) e
end
end Go.Exe
