/- Every operation. -/
import Derived.Test.YtimnljbphmndoaaGreatDoorExF1
namespace Go.Exe
open Go

section
variable {P : Program} {σ : Sig} {N : Nat} {ρ : Rho} {h h' : H} {w w' : World} {o : Oper} {a : Act} {v : AV}

theorem one_some {α R : Type} {l : List α} {f : α → Option R} {x : R} (h : one l f = some x) : ∃ a, l = [a] ∧ f a = some x := by
  match l, h with
  | [a], h => exact ⟨a, rfl, h⟩
  | [], h => exact nomatch h
  | _ :: _ :: _, h => exact nomatch h
theorem two_some {α R : Type} {l : List α} {f : α → α → Option R} {x : R} (h : two l f = some x) : ∃ a b, l = [a, b] ∧ f a b = some x := by
  match l, h with
  | [], h => exact nomatch h
  | a :: l, h =>
    obtain ⟨b, rfl, h2⟩ := one_some (show one l (f a) = some x from h)
    exact ⟨a, b, rfl, h2⟩
theorem vO_some {x : Option AV} {v : AV} {h h' : H} (e : vO x h = some (v, h')) : x = some v ∧ h' = h := by
  obtain ⟨v', h1, h2⟩ := bnd_some.1 e
  cases h2; exact ⟨h1, rfl⟩
theorem arr1 {α : Type} {l : Array α} {a : α} (h : l.toList = [a]) : l = #[a] := by apply Array.ext'; simpa using h
theorem arr2 {α : Type} {l : Array α} {a b : α} (h : l.toList = [a, b]) : l = #[a, b] := by apply Array.ext'; simpa using h

theorem run_builtin {c : Call} {b : Builtin} (ho : o.op = .call c) (hb : c.callee = .builtin b) (w : World) : (execOp a.eval o).run P w = (builtin b c.argTypes o.type (c.args.map fun | .const _ => true | _ => false) (c.args.map a.eval)).run P w := by
  simp [execOp, ho, resolve, hb, invoke]
  rfl

theorem args1 {env : Env} (hg : Glo P ρ) (he : ER σ ρ env a.tmps) {args : Array Operand} {x : AV} (e : opds P args.toList env = some [x]) : ∃ y, args.map a.eval = #[y] ∧ VR σ ρ x y := by
  obtain ⟨y, r, h1, h2, h3⟩ := opds_ok hg he e
  have h3 : r = [] := h3
  subst h3
  exact ⟨y, arr1 (by simpa using h1), h2⟩
theorem args2 {env : Env} (hg : Glo P ρ) (he : ER σ ρ env a.tmps) {args : Array Operand} {x z : AV} (e : opds P args.toList env = some [x, z]) : ∃ y u, args.map a.eval = #[y, u] ∧ VR σ ρ x y ∧ VR σ ρ z u := by
  obtain ⟨y, r, h1, h2, u, r', h3, h4, h5⟩ := opds_ok hg he e
  have h5 : r' = [] := h5
  subst h5 h3
  exact ⟨y, u, arr2 (by simpa using h1), h2, h4⟩

theorem builtin_ok (hσ : ∀ i, (σ i).oneCell' = true) (hg : Glo P ρ) (hh : HR σ N ρ h w) {env : Env} (he : ER σ ρ env a.tmps) {c : Call} {b : Builtin} (ho : o.op = .call c) (hb : c.callee = .builtin b) {l : List AV} (hl : opds P c.args.toList env = some l) (e : builtinO P b c.argTypes.toList l h = some (v, h')) : Okv P σ N o a ρ h w v h' := by
  have val : ∀ (s : Sem Value), (builtin b c.argTypes o.type (c.args.map fun | .const _ => true | _ => false) (c.args.map a.eval)) = (do pure (.value (← s))) → Gives P σ N ρ h w s v h' → Okv P σ N o a ρ h w v h' := fun s hs hgv => by
    refine okv_gives ?_ hgv
    rw [run_builtin ho hb, hs, Sem.run_bind]
    rfl
  cases b <;> simp only [builtinO] at e <;> first | (cases e; done) | skip
  case append =>
    obtain ⟨t, tx, h1, e⟩ := two_some e
    obtain ⟨x, y, rfl, e⟩ := two_some e
    obtain ⟨vx, vy, h2, h3, h4⟩ := args2 hg he hl
    exact val _ rfl (by rw [arr2 h1, h2]; exact appendO_ok (o := o) hσ hh e h3 h4)
  case cap =>
    obtain ⟨t, h1, e⟩ := one_some e
    obtain ⟨x, rfl, e⟩ := one_some e
    obtain ⟨vx, h2, h3⟩ := args1 hg he hl
    exact val _ rfl (by rw [arr1 h1, h2]; exact capO_ok (o := o) hh e h3)
  case copy =>
    obtain ⟨t, tx, h1, e⟩ := two_some e
    obtain ⟨x, y, rfl, e⟩ := two_some e
    obtain ⟨vx, vy, h2, h3, h4⟩ := args2 hg he hl
    exact val _ rfl (by rw [arr2 h1, h2]; exact copyO_ok (o := o) hσ hh e h3 h4)
  case len =>
    obtain ⟨t, h1, e⟩ := one_some e
    obtain ⟨x, rfl, e⟩ := one_some e
    obtain ⟨vx, h2, h3⟩ := args1 hg he hl
    exact val _ rfl (by rw [arr1 h1, h2]; exact lenO_ok (o := o) hh e h3)
  case delete =>
    obtain ⟨t, tx, h1, e⟩ := two_some e
    obtain ⟨x, y, rfl, e⟩ := two_some e
    obtain ⟨vx, vy, h2, h3, h4⟩ := args2 hg he hl
    exact val _ rfl (by rw [arr2 h1, h2]; exact deleteO_ok (o := o) hh e h3 h4)
  case clear =>
    obtain ⟨t, h1, e⟩ := one_some e
    obtain ⟨x, rfl, e⟩ := one_some e
    obtain ⟨vx, h2, h3⟩ := args1 hg he hl
    exact val _ rfl (by rw [arr1 h1, h2]; exact clearO_ok (o := o) hσ hh e h3)
  case max =>
    cases l with
    | nil => exact nomatch e
    | cons x l =>
      obtain ⟨e1, rfl⟩ := vO_some (show vO (minmax false l x) h = some (v, h') from e)
      obtain ⟨y, r, h1, h2, h3⟩ := opds_ok hg he hl
      obtain ⟨u, k1, k2⟩ := minmax_max (P := P) w e1 h3 h2
      refine val _ rfl ⟨ρ, u, w, ?_, hh, St.refl _ _ _, k1⟩
      have : (c.args.map a.eval).toList = y :: r := by rw [← h1]; simp
      simp only [Builtin.max_, this]
      exact k2
  case min =>
    cases l with
    | nil => exact nomatch e
    | cons x l =>
      obtain ⟨e1, rfl⟩ := vO_some (show vO (minmax true l x) h = some (v, h') from e)
      obtain ⟨y, r, h1, h2, h3⟩ := opds_ok hg he hl
      obtain ⟨u, k1, k2⟩ := minmax_min (P := P) w e1 h3 h2
      refine val _ rfl ⟨ρ, u, w, ?_, hh, St.refl _ _ _, k1⟩
      have : (c.args.map a.eval).toList = y :: r := by rw [← h1]; simp
      simp only [Builtin.min_, this]
      exact k2
  case unsafeSliceData =>
    obtain ⟨x, rfl, e⟩ := one_some e
    obtain ⟨e1, rfl⟩ := vO_some e
    obtain ⟨vx, h2, h3⟩ := args1 hg he hl
    refine val _ rfl ?_
    rw [h2]
    unfold sliceDataO at e1
    split at e1
    · cases e1; cases h3
      exact ⟨ρ, .pointer none, w, rfl, hh, St.refl _ _ _, rfl⟩
    · obtain ⟨k1, e1⟩ := ite_some.1 e1
      cases e1
      have k1 := Nat.le_of_ble_eq_true k1
      obtain ⟨p, cap, off, q1, rfl, q2, q3, _⟩ := h3
      have hc : ¬ cap = 0 := by omega
      have ho := q2.resolve_right hc
      refine ⟨ρ, .pointer (some ⟨p.b, off, none⟩), w, ?_, hh, St.refl _ _ _, p, q1, by rw [ho]⟩
      show Sem.run P (if cap ≠ 0 then (pure (Value.pointer (some ⟨p.b, off, none⟩)) : Sem Value) else _) w = _
      rw [if_pos hc]; rfl
    · cases e1
  case unsafeString =>
    obtain ⟨t, tx, h1, e⟩ := two_some e
    obtain ⟨x, y, rfl, e⟩ := two_some e
    obtain ⟨vx, vy, h2, h3, h4⟩ := args2 hg he hl
    exact val _ rfl (by rw [arr2 h1, h2]; exact unsafeStringO_ok (o := o) hh e h3 h4)

theorem onBool_some {R : Type} {x : Option AV} {p q : Option R} {r : R} (h : onBool x p q = some r) : ∃ b, x = some (.bool b) ∧ (bif b then p else q) = some r := by
  obtain ⟨y, h1, h2⟩ := bnd_some.1 h
  split at h2
  · rename_i b
    exact ⟨b, h1, by cases b <;> exact h2⟩
  · cases h2

theorem callO_ok {K : Known} (hK : KOk P σ N K) {ih : Run} (hr : RunOk P σ N ih) (hσ : ∀ i, (σ i).oneCell' = true) (hg : Glo P ρ) (hh : HR σ N ρ h w) {env : Env} (he : ER σ ρ env a.tmps) {c : Call} (ho : o.op = .call c) (e : callO P K ih c env h = some (v, h')) : Okv P σ N o a ρ h w v h' := by
  unfold callO at e
  cases hf : c.callee with
  | builtin b =>
    rw [hf] at e
    obtain ⟨l, h1, e⟩ := bnd_some.1 e
    exact builtin_ok hσ hg hh he ho hf h1 e
  | value f =>
    rw [hf] at e
    obtain ⟨fv, h1, e1⟩ := bnd_some.1 e
    obtain ⟨l, h2, e2⟩ := bnd_some.1 e1
    unfold callV at e2
    split at e2
    · rename_i g first caps
      obtain ⟨l1, h3, e3⟩ := bnd_some.1 e2
      obtain ⟨l2, h4, e4⟩ := bnd_some.1 e3
      rw [app_eq] at h3 h4
      cases h3; cases h4
      obtain ⟨fs, cs, k1, k2, k3⟩ := opd_ok hg he h1
      have k4 := opds_ok hg he h2
      refine okv_of_cal (s := callFunc g ((fs ++ c.args.map a.eval) ++ cs)) (fun w => ?_) (enter_ok hK hr e4 hh ?_)
      · simp [execOp, ho, resolve, hf, k1, Deferred.ofValue, invoke]
      · have := k2.append (k4.append k3)
        simpa using this
    · cases e2
  | invoke r n => rw [hf] at e; cases (show (none : Out) = some (v, h') from e)

theorem symLen_some {c : Call} {env : Env} {s : Nat} (e : symLen P c env = some s) : ∃ t x, c.callee = .builtin .len ∧ c.argTypes.toList = [t] ∧ c.args.toList = [x] ∧ strT P t = true ∧ opd P x env = some (.sym s) := by
  unfold symLen at e
  split at e
  · rename_i hc
    obtain ⟨t, h1, e1⟩ := one_some e
    obtain ⟨h2, e2⟩ := ite_some.1 e1
    obtain ⟨x, h3, e3⟩ := one_some e2
    obtain ⟨v, h4, e4⟩ := bnd_some.1 e3
    unfold symO at e4
    split at e4
    · cases e4; exact ⟨t, x, hc, h1, h3, h2, h4⟩
    · cases e4
  · cases e
theorem callF_ok {F : Facts} (hF : FactsOk P σ F) {K : Known} (hK : KOk P σ N K) {ih : Run} (hr : RunOk P σ N ih) (hσ : ∀ i, (σ i).oneCell' = true) (hg : Glo P ρ) (hh : HR σ N ρ h w) {env : Env} (he : ER σ ρ env a.tmps) {c : Call} (ho : o.op = .call c) (e : callF P K F ih c env h = some (v, h')) : Okv P σ N o a ρ h w v h' := by
  unfold callF at e
  cases hs : symLen P c env with
  | none => rw [hs] at e; exact callO_ok hK hr hσ hg hh he ho e
  | some s =>
    rw [hs] at e
    obtain ⟨e1, rfl⟩ := vO_some (show vO (F.len s) h = some (v, h') from e)
    obtain ⟨t, x, h1, h2, h3, h4, h5⟩ := symLen_some hs
    obtain ⟨b, hb, hv⟩ := hF.len _ _ e1
    have hx : a.eval x = σ s := opd_ok hg he h5
    rw [hb] at hx
    refine okv_pure (u := .int .i64 (b.size : Int)) ?_ hh (hv ρ)
    rw [run_builtin ho h1, arr1 h2, arr1 h3]
    simp [builtin, Builtin.len_, run_underlying (strT_under h4), hx, goInt, Result.andThen]

theorem opV_ok {F : Facts} (hF : FactsOk P σ F) {K : Known} (hK : KOk P σ N K) {ih : Run} (hr : RunOk P σ N ih) (hσ : ∀ i, (σ i).oneCell' = true) (hN : N = P.globals.size) (hh : HR σ N ρ h w) {env : Env} (he : ER σ ρ env a.tmps) (e : opV P F K ih o.op env h = some (v, h')) : Okv P σ N o a ρ h w v h' := by
  have hg : Glo P ρ := fun g hgl => hh.glob g (hN ▸ hgl)
  cases ho : o.op <;> rw [ho] at e <;> first | (cases (show (none : Out) = some (v, h') from e); done) | skip
  case move x =>
    obtain ⟨e1, rfl⟩ := vO_some (show vO (opd P x env) h = some (v, h') from e)
    exact okv_pure (by simp [execOp, ho]) hh (opd_ok hg he e1)
  case assign x =>
    obtain ⟨e1, rfl⟩ := vO_some (show vO (opd P x env) h = some (v, h') from e)
    exact okv_pure (by simp [execOp, ho]) hh (opd_ok hg he e1)
  case pick c x y =>
    obtain ⟨b, h1, e1⟩ := onBool_some (show onBool (opd P c env) (vO (opd P x env) h) (vO (opd P y env) h) = some (v, h') from e)
    have hc : a.eval c = .bool b := opd_ok hg he h1
    cases b with
    | true =>
      obtain ⟨e2, rfl⟩ := vO_some (show vO (opd P x env) h = some (v, h') from e1)
      exact okv_pure (by simp [execOp, ho, hc, asBool]) hh (opd_ok hg he e2)
    | false =>
      obtain ⟨e2, rfl⟩ := vO_some (show vO (opd P y env) h = some (v, h') from e1)
      exact okv_pure (by simp [execOp, ho, hc, asBool]) hh (opd_ok hg he e2)
  case alloc t => exact op_alloc hh hσ ho e
  case box t x =>
    obtain ⟨y, h1, e1⟩ := bnd_some.1 (show bnd (opd P x env) (fun v => onCellsOf v fun l => force (len l) fun n => newV t n l h) = some (v, h') from e)
    exact op_box hh hσ ho (opd_ok hg he h1) e1
  case build t ps =>
    obtain ⟨l, h1, e1⟩ := bnd_some.1 (show bnd (parts P ps.toList env) (fun l => vO (buildO P t l) h) = some (v, h') from e)
    obtain ⟨e2, rfl⟩ := vO_some e1
    obtain ⟨u, k1, k2⟩ := buildO_ok (P := P) (σ := σ) (ρ := ρ) hσ e2 (qs := ps.map fun (p : Nat × Operand) => (p.1, a.eval p.2)) (by simpa using parts_ok hg he h1)
    exact okv_pure (u := u) (by simp only [execOp, ho, Sem.run_bind]; rw [k2 w]; rfl) hh k1
  case buildSlice t n ps =>
    obtain ⟨l, h1, e1⟩ := bnd_some.1 (show bnd (parts P ps.toList env) (fun l => buildSliceO P t n l h) = some (v, h') from e)
    exact op_buildSlice hh hσ ho (parts_ok hg he h1) e1
  case load t x =>
    obtain ⟨y, h1, e1⟩ := bnd_some.1 (show bnd (opd P x env) (fun a => loadO (szOf P t) (aggOf P t) a h) = some (v, h') from e)
    exact (op_load hh ho (opd_ok hg he h1) e1).1
  case store t x y =>
    obtain ⟨z, h1, e1⟩ := bnd_some.1 (show bnd (opd P x env) (fun a => bnd (opd P y env) fun v => storeO (szOf P t) a v h) = some (v, h') from e)
    obtain ⟨u, h2, e2⟩ := bnd_some.1 e1
    exact op_store hh hσ ho (opd_ok hg he h1) (opd_ok hg he h2) e2
  case nilCheck x =>
    obtain ⟨y, h1, e1⟩ := bnd_some.1 (show bnd (opd P x env) (fun a => vO (nilCheckO a) h) = some (v, h') from e)
    obtain ⟨e2, rfl⟩ := vO_some e1
    obtain ⟨rfl, k1⟩ := nilCheckO_ok (P := P) e2 (opd_ok hg he h1)
    exact okv_pure (k1 o a.eval x ho rfl w) hh (opd_ok hg he h1)
  case binOp b t x y ty =>
    obtain ⟨z, h1, e1⟩ := bnd_some.1 (show bnd (opd P x env) (fun a => bnd (opd P y env) fun c => vO (binO P F b t (isC x || isC y) a c) h) = some (v, h') from e)
    obtain ⟨u, h2, e2⟩ := bnd_some.1 e1
    obtain ⟨e3, rfl⟩ := vO_some e2
    obtain ⟨r, k1, k2⟩ := binO_ok hF e3 (opd_ok hg he h1) (opd_ok hg he h2)
    exact okv_pure (u := r) (by simp only [execOp, ho]; rw [Sem.run_bind, k2 w]; rfl) hh k1
  case unOp b t x =>
    obtain ⟨z, h1, e1⟩ := bnd_some.1 (show bnd (opd P x env) (fun a => vO (unO b a) h) = some (v, h') from e)
    obtain ⟨e3, rfl⟩ := vO_some e1
    obtain ⟨r, k1, k2⟩ := unO_ok (P := P) e3 (opd_ok hg he h1)
    exact okv_pure (u := r) (by simp only [execOp, ho]; rw [Sem.run_bind, k2 w]; rfl) hh k1
  case convert s d x =>
    obtain ⟨z, h1, e1⟩ := bnd_some.1 (show bnd (opd P x env) (fun a => convF P F s d a h) = some (v, h') from e)
    have hz := opd_ok hg he h1
    refine okv_gives (s := convert s d (a.eval x)) (by simp only [execOp, ho]; rw [Sem.run_bind]; rfl) ?_
    unfold convF at e1
    split at e1
    · obtain ⟨e2, rfl⟩ := vO_some e1
      obtain ⟨u, k1, k2⟩ := hF.conv _ _ _ _ e2 ρ
      refine ⟨ρ, u, w, ?_, hh, St.refl _ _ _, k1⟩
      rw [show a.eval x = σ _ from hz]; exact k2 w
    · exact convertO_ok hh e1 hz
  case makeMap t r =>
    cases r with
    | some => cases (show (none : Out) = some (v, h') from e)
    | none => exact op_makeMap hh ho e
  case makeChan t x =>
    obtain ⟨y, h1, e1⟩ := bnd_some.1 (show bnd (opd P x env) (fun a => makeChanO P t a h) = some (v, h') from e)
    exact op_makeChan hh ho (opd_ok hg he h1) e1
  case lookup t m k ok =>
    obtain ⟨y, h1, e1⟩ := bnd_some.1 (show bnd (opd P m env) (fun a => bnd (opd P k env) fun b => lookupO P t a b ok h) = some (v, h') from e)
    obtain ⟨z, h2, e2⟩ := bnd_some.1 e1
    exact okv_gives (s := Instr.lookup t (a.eval m) (a.eval k) ok) (by simp only [execOp, ho]; rw [Sem.run_bind]; rfl) (lookupO_ok hh e2 (opd_ok hg he h1) (opd_ok hg he h2))
  case mapUpdate t m k x =>
    obtain ⟨y, h1, e1⟩ := bnd_some.1 (show bnd (opd P m env) (fun a => bnd (opd P k env) fun b => bnd (opd P x env) fun c => mapUpdateO P t a b c h) = some (v, h') from e)
    obtain ⟨z, h2, e2⟩ := bnd_some.1 e1
    obtain ⟨u, h3, e3⟩ := bnd_some.1 e2
    obtain ⟨rfl, w', k1, k2, k3⟩ := mapUpdateO_ok hh e3 (opd_ok hg he h1) (opd_ok hg he h2) (opd_ok hg he h3)
    exact okv_skip (by simp only [execOp, ho]; rw [Sem.run_bind, k1]; rfl) k2 k3
  case insert t m k x =>
    obtain ⟨y, h1, e1⟩ := bnd_some.1 (show bnd (opd P m env) (fun a => bnd (opd P k env) fun b => bnd (opd P x env) fun c => mapUpdateO P t a b c h) = some (v, h') from e)
    obtain ⟨z, h2, e2⟩ := bnd_some.1 e1
    obtain ⟨u, h3, e3⟩ := bnd_some.1 e2
    obtain ⟨rfl, w', k1, k2, k3⟩ := mapUpdateO_ok hh e3 (opd_ok hg he h1) (opd_ok hg he h2) (opd_ok hg he h3)
    exact okv_skip (by simp only [execOp, ho]; rw [Sem.run_bind, k1]; rfl) k2 k3
  case mapEntry t m k =>
    obtain ⟨y, h1, e1⟩ := bnd_some.1 (show bnd (opd P m env) (fun a => bnd (opd P k env) fun b => mapEntryO P t a b h) = some (v, h') from e)
    obtain ⟨z, h2, e2⟩ := bnd_some.1 e1
    exact okv_gives (s := Instr.mapEntry t (a.eval m) (a.eval k)) (by simp only [execOp, ho]; rw [Sem.run_bind]; rfl) (mapEntryO_ok hh e2 (opd_ok hg he h1) (opd_ok hg he h2))
  case entryStore t m k x =>
    obtain ⟨y, h1, e1⟩ := bnd_some.1 (show bnd (opd P m env) (fun a => bnd (opd P k env) fun b => bnd (opd P x env) fun c => entryStoreO a b c h) = some (v, h') from e)
    obtain ⟨z, h2, e2⟩ := bnd_some.1 e1
    obtain ⟨u, h3, e3⟩ := bnd_some.1 e2
    obtain ⟨rfl, w', k1, k2, k3⟩ := entryStoreO_ok (P := P) (t := t) hh e3 (opd_ok hg he h1) (opd_ok hg he h2) (opd_ok hg he h3)
    exact okv_skip (by simp only [execOp, ho]; rw [Sem.run_bind, k1]; rfl) k2 k3
  case range t x =>
    obtain ⟨y, h1, e1⟩ := bnd_some.1 (show bnd (opd P x env) (fun a => rangeO P t a h) = some (v, h') from e)
    exact okv_gives (s := Instr.range t (a.eval x)) (by simp only [execOp, ho]; rw [Sem.run_bind]; rfl) (rangeO_ok hh e1 (opd_ok hg he h1))
  case next x s =>
    cases s with
    | true => cases (show (none : Out) = some (v, h') from e)
    | false =>
      obtain ⟨y, h1, e1⟩ := bnd_some.1 (show bnd (opd P x env) (fun a => nextO a h) = some (v, h') from e)
      exact okv_gives (s := Instr.next (a.eval x) false o.type) (by simp only [execOp, ho]; rw [Sem.run_bind]; rfl) (nextO_ok hh e1 (opd_ok hg he h1))
  case entry x =>
    obtain ⟨y, h1, e1⟩ := bnd_some.1 (show bnd (opd P x env) (fun a => entryO a h) = some (v, h') from e)
    exact okv_gives (s := Instr.entry (a.eval x)) (by simp only [execOp, ho]; rw [Sem.run_bind]; rfl) (entryO_ok hh e1 (opd_ok hg he h1))
  case makeInterface t x =>
    obtain ⟨z, h1, e1⟩ := bnd_some.1 (show bnd (opd P x env) (fun a => ite' (concT P t) (some (AV.ifc t a, h))) = some (v, h') from e)
    obtain ⟨h2, e2⟩ := ite_some.1 e1
    cases e2
    have hx := opd_ok hg he h1
    refine okv_pure (u := .iface t (a.eval x)) ?_ hh ⟨_, rfl, hx⟩
    unfold concT at h2
    cases hu : P.underlying t with
    | none => rw [hu] at h2; exact nomatch h2
    | some d =>
      rw [hu] at h2
      simp only [execOp, ho, Instr.makeInterface, Sem.run_bind, run_underlying hu, Result.andThen_ok]
      cases d <;> first | rfl | exact nomatch h2
  case makeFunc f x y =>
    obtain ⟨l, h1, e1⟩ := bnd_some.1 (show bnd (opds P x.toList env) (fun l => bnd (opds P y.toList env) fun m => some (AV.fn f l m, h)) = some (v, h') from e)
    obtain ⟨m, h2, e2⟩ := bnd_some.1 e1
    cases e2
    exact okv_pure (u := .func f (x.map a.eval) (y.map a.eval)) (by simp [execOp, ho, Instr.makeFunc]) hh ⟨_, _, rfl, by simpa using opds_ok hg he h1, by simpa using opds_ok hg he h2⟩
  case makeSlice t x y =>
    obtain ⟨z, h1, e1⟩ := bnd_some.1 (show bnd (opd P x env) (fun a => bnd (opd P y env) fun b => makeSliceO P t a b h) = some (v, h') from e)
    obtain ⟨u, h2, e2⟩ := bnd_some.1 e1
    exact op_makeSlice hh hσ ho (opd_ok hg he h1) (opd_ok hg he h2) e2
  case slice t x lo hi mx =>
    obtain ⟨z, h1, e1⟩ := bnd_some.1 (show bnd (opd P x env) (fun a => vO (sliceF P F t a (lo.map fun o => opd P o env) (hi.map fun o => opd P o env) (mx.map fun o => opd P o env)) h) = some (v, h') from e)
    obtain ⟨e3, rfl⟩ := vO_some e1
    obtain ⟨r, k1, k2⟩ := sliceF_ok hF e3 (opd_ok hg he h1) (low := lo.map a.eval) (high := hi.map a.eval) (max := mx.map a.eval) (fun d n e => bound_ok hg he e) (fun d n e => bound_ok hg he e) (fun d n e => bound_ok hg he e) (fun e => by cases hi <;> simp_all) (fun e => by cases hi <;> simp_all) (fun e => by cases mx <;> simp_all)
    exact okv_pure (u := r) (by simp only [execOp, ho]; rw [Sem.run_bind, k2 w]; rfl) hh k1
  case fieldAddr t x f =>
    obtain ⟨z, h1, e1⟩ := bnd_some.1 (show bnd (opd P x env) (fun a => vO (fieldAddrO (fieldO P t f) a) h) = some (v, h') from e)
    obtain ⟨e3, rfl⟩ := vO_some e1
    obtain ⟨r, k1, k2⟩ := fieldAddrO_ok (P := P) e3 (opd_ok hg he h1)
    exact okv_pure (u := r) (by simp only [execOp, ho]; rw [Sem.run_bind, k2 w]; rfl) hh k1
  case field t x f =>
    obtain ⟨z, h1, e1⟩ := bnd_some.1 (show bnd (opd P x env) (fun a => vO (fieldVO (fieldO P t f) a) h) = some (v, h') from e)
    obtain ⟨e3, rfl⟩ := vO_some e1
    obtain ⟨r, k1, k2⟩ := fieldVO_ok (P := P) e3 (opd_ok hg he h1)
    exact okv_pure (u := r) (by simp only [execOp, ho]; rw [Sem.run_bind, k2 w]; rfl) hh k1
  case indexAddr t x i =>
    obtain ⟨z, h1, e1⟩ := bnd_some.1 (show bnd (opd P x env) (fun a => bnd (opd P i env) fun j => vO (indexAddrO (elemO P t) a j) h) = some (v, h') from e)
    obtain ⟨u, h2, e2⟩ := bnd_some.1 e1
    obtain ⟨e3, rfl⟩ := vO_some e2
    obtain ⟨r, k1, k2⟩ := indexAddrO_ok (P := P) e3 (opd_ok hg he h1) (opd_ok hg he h2)
    exact okv_pure (u := r) (by simp only [execOp, ho]; rw [Sem.run_bind, k2 w]; rfl) hh k1
  case index t x i =>
    obtain ⟨z, h1, e1⟩ := bnd_some.1 (show bnd (opd P x env) (fun a => bnd (opd P i env) fun j => vO (indexF P F t (elemO P t) a j) h) = some (v, h') from e)
    obtain ⟨u, h2, e2⟩ := bnd_some.1 e1
    obtain ⟨e3, rfl⟩ := vO_some e2
    obtain ⟨r, k1, k2⟩ := indexF_ok hF e3 (opd_ok hg he h1) (opd_ok hg he h2)
    exact okv_pure (u := r) (by simp only [execOp, ho]; rw [Sem.run_bind, k2 w]; rfl) hh k1
  case extract x i =>
    obtain ⟨z, h1, e1⟩ := bnd_some.1 (show bnd (opd P x env) (fun a => vO (tupO a i) h) = some (v, h') from e)
    obtain ⟨e3, rfl⟩ := vO_some e1
    obtain ⟨r, k1, k2⟩ := tupO_ok (P := P) e3 (opd_ok hg he h1)
    exact okv_pure (u := r) (by simp only [execOp, ho]; rw [Sem.run_bind, k2 w]; rfl) hh k1
  case call c => exact callF_ok hF hK hr hσ hg hh he ho e
end
end Go.Exe
