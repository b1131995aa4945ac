/- Regions in the order of the text, ends, control. -/
import Derived.Test.YtimnljbphmndoaaGreatDoorExF2
namespace Go.Exe
open Go

section
variable {P : Program} {σ : Sig} {N : Nat} {ρ : Rho} {h h' : H} {w w' : World} {o : Oper} {a : Act} {v : AV}

theorem wanted_ok {ops : Array Oper} {env : Env} (he : ER σ ρ env a.tmps) {b : Bool} (e : wantedO (guardT ops.toList o.guard) env = some b) : Region.wanted o (yielded ops a.tmps) = b := by
  obtain ⟨g, h1, h2⟩ := bnd_some.1 e
  unfold Region.wanted
  cases hg : o.guard with
  | none => rw [hg] at h1; cases h1; cases h2; rfl
  | some q =>
    obtain ⟨j, b0⟩ := q
    rw [hg] at h1
    obtain ⟨o', k1, k2⟩ := bnd_some.1 (show bnd (nth ops.toList j) (fun o => bnd o.dst fun t => some (some (t, b0))) = some g from h1)
    obtain ⟨t, k3, k4⟩ := bnd_some.1 k2
    cases k4
    obtain ⟨x, k5, k6⟩ := bnd_some.1 (show bnd (getT env t) (fun v => wanted v b0) = some b from h2)
    rw [nth_eq] at k1
    have k1 : ops[j]? = some o' := by simpa using k1
    obtain ⟨ht, hx⟩ := he t x k5
    have hty : a.tmps[t]? = some (a.tmps.getD t undef) := by simp [Array.getD_eq_getD_getElem?, ht]
    unfold wanted at k6
    split at k6
    · rename_i c
      have hc : a.tmps.getD t undef = .bool c := hx
      have : yielded ops a.tmps j = some c := by unfold yielded; rw [k1]; show (match (o'.dst).bind (a.tmps[·]?) with | some (.bool c) => some c | _ => none) = _; rw [k3]; show (match a.tmps[t]? with | some (.bool c) => some c | _ => none) = _; rw [hty, hc]
      show (yielded ops a.tmps j == some b0) = b
      rw [this]
      cases k6
      cases b0 <;> cases c <;> rfl
    · have hc : a.tmps.getD t undef = undef := hx
      have : yielded ops a.tmps j = none := by unfold yielded; rw [k1]; show (match (o'.dst).bind (a.tmps[·]?) with | some (.bool c) => some c | _ => none) = _; rw [k3]; show (match a.tmps[t]? with | some (.bool c) => some c | _ => none) = _; rw [hty, hc]; rfl
      show (yielded ops a.tmps j == some b0) = b
      rw [this]
      cases k6
      rfl
    · cases k6

/-- Where a region leads. -/
def Reg (σ : Sig) (N : Nat) (ρ : Rho) (h : H) (w : World) (a : Act) (k : Env → H → Out) (r : AV × H) : Exit → Act → World → Prop := fun e a' w' => e = .normal ∧ ∃ ρ' env' h1, k env' h1 = some r ∧ HR σ N ρ' h1 w' ∧ St ρ h w ρ' h1 w' ∧ ER σ ρ' env' a'.tmps ∧ a'.defers = a.defers

theorem region_ok {F : Facts} (hF : FactsOk P σ F) {K : Known} (hK : KOk P σ N K) {ih : Run} (hr : RunOk P σ N ih) (hσ : ∀ i, (σ i).oneCell' = true) (hN : N = P.globals.size) {ops : Array Oper} {k : Env → H → Out} {r : AV × H} {ρ0 : Rho} {h0 : H} {w0 : World} {a0 : Act} :
    ∀ (l : List Oper) (env : Env) (h : H) (ρ : Rho) (a : Act) (w : World), region P F K ih ops.toList l env h k = some r → HR σ N ρ h w → St ρ0 h0 w0 ρ h w → ER σ ρ env a.tmps → a.defers = a0.defers → wpList P ops (Reg σ N ρ0 h0 w0 a0 k r) l a w
  | [], env, h, ρ, a, w, e, hh, st, he, hd => ⟨rfl, ρ, env, h, e, hh, st, he, hd⟩
  | o :: l, env, h, ρ, a, w, e, hh, st, he, hd => by
    obtain ⟨env1, h1, e1, e2⟩ := bnd2_some.1 (show bnd2 (oper P F K ih ops.toList o env h) (fun env h => region P F K ih ops.toList l env h k) = some r from e)
    obtain ⟨b, e3, e4⟩ := bnd_some.1 e1
    have hw := wanted_ok he e3
    unfold wpList
    cases b with
    | false =>
      rw [hw, if_neg (by simp)]
      obtain ⟨env', e5, e6⟩ := bnd_some.1 (show bnd (putD o.dst .und env) (fun env => some (env, h)) = some (env1, h1) from e4)
      cases e6
      exact region_ok hF hK hr hσ hN l env1 h ρ _ w e2 hh st (he.put (x := .und) rfl e5) (by rw [put_defers]; exact hd)
    | true =>
      rw [hw, if_pos rfl]
      obtain ⟨v, h2, e5, e6⟩ := bnd2_some.1 (show bnd2 (opV P F K ih o.op env h) (fun v h => bnd (putD o.dst v env) fun env => some (env, h)) = some (env1, h1) from e4)
      obtain ⟨env', e7, e8⟩ := bnd_some.1 e6
      cases e8
      left
      exact opV_ok hF hK hr hσ hN hh he e5 _ _ fun ρ' u w' k1 k2 k3 => region_ok hF hK hr hσ hN l env1 h1 ρ' _ w' e2 k1 (st.trans k2) ((he.mono k2.rho).put k3 e7) (by rw [put_defers]; exact hd)

/-! ### Ends -/

def rv (tmps : Array Value) : ResultVar → Sem Value
  | .tmp t => pure (tmps.getD t undef)
  | .cell a t => do loadVar t (← asAddr (tmps.getD a undef))

theorem results_eq (fn : Func) (tmps : Array Value) : results fn tmps = (do let vs ← fn.results.mapM (rv tmps); pure (if h : vs.size = 1 then vs[0] else .tuple vs)) := rfl

theorem resO_ok (hh : HR σ N ρ h w) {env : Env} {tmps : Array Value} (he : ER σ ρ env tmps) {r : ResultVar} (e : resO P env h r = some v) : ∃ u, VR σ ρ v u ∧ (rv tmps r).run P w = .ok u w := by
  cases r with
  | tmp t => exact ⟨_, (he t v e).2, by simp [rv]⟩
  | cell t ty =>
    obtain ⟨x, h1, e1⟩ := bnd_some.1 (show bnd (getT env t) (fun a => bnd2 (loadO (szOf P ty) (aggOf P ty) a h) fun v _ => some v) = some v from e)
    obtain ⟨v', h2, e2, e3⟩ := bnd2_some.1 e1
    cases e3
    obtain ⟨_, u, k1, b, i, k2, k3⟩ := loadO_ok (P := P) hh e2 (he t x h1).2
    exact ⟨u, k1, by simp [rv, k2, asAddr, k3]⟩

theorem resL_ok (hh : HR σ N ρ h w) {env : Env} {tmps : Array Value} (he : ER σ ρ env tmps) : ∀ {l : List ResultVar} {vs : List AV}, resL P env h l = some vs → ∃ us, LR σ ρ vs us ∧ (l.mapM (rv tmps)).run P w = .ok us w
  | [], vs, e => by cases e; exact ⟨[], rfl, by simp⟩
  | r :: l, vs, e => by
    obtain ⟨v, h1, e1⟩ := bnd_some.1 (show bnd (resO P env h r) (fun v => bnd (resL P env h l) fun l => some (v :: l)) = some vs from e)
    obtain ⟨vs', h2, e2⟩ := bnd_some.1 e1
    cases e2
    obtain ⟨u, k1, k2⟩ := resO_ok (P := P) hh he h1
    obtain ⟨us, k3, k4⟩ := resL_ok hh he h2
    refine ⟨u :: us, ⟨u, us, rfl, k1, k3⟩, ?_⟩
    rw [List.mapM_cons, Sem.run_bind, k2, Result.andThen_ok, Sem.run_bind, k4]
    simp

theorem fin_ok (hh : HR σ N ρ h w) {env : Env} {tmps : Array Value} (he : ER σ ρ env tmps) {fn : Func} (e : fin P fn env h = some (v, h')) : h' = h ∧ ∃ u, VR σ ρ v u ∧ (results fn tmps).run P w = .ok u w := by
  obtain ⟨l, h1, e1⟩ := bnd_some.1 e
  obtain ⟨us, k1, k2⟩ := resL_ok (P := P) hh he h1
  have run : (results fn tmps).run P w = .ok (if h : us.toArray.size = 1 then us.toArray[0] else .tuple us.toArray) w := by
    rw [results_eq, Sem.run_bind, Array.mapM_eq_mapM_toList, Sem.run_map, k2]
    simp
  have tupcase : us.length ≠ 1 → e1 = e1 → (some (AV.tup l, h) : Out) = some (v, h') → h' = h ∧ ∃ u, VR σ ρ v u ∧ (results fn tmps).run P w = .ok u w := fun hne _ h2 => by
    cases h2
    refine ⟨rfl, .tuple us.toArray, ⟨_, rfl, by simpa using k1⟩, ?_⟩
    rw [run, dif_neg (by simpa using hne)]
  match l, k1, e1, tupcase with
  | [], k1, e1, tupcase =>
    have : us = [] := k1
    exact tupcase (by simp [this]) rfl e1
  | [x], ⟨u, r, q1, q2, q3⟩, e1, _ =>
    have q3 : r = [] := q3
    subst q1 q3
    cases (show some (x, h) = some (v, h') from e1)
    exact ⟨rfl, u, q2, by rw [run]; rfl⟩
  | x :: y :: l, k1, e1, tupcase =>
    have := k1.length
    exact tupcase (by rw [this]; simp) rfl e1
end
end Go.Exe
