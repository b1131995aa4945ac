/- Slots, calls. -/
import Derived.Test.YtimnljbphmndoaaGreatDoorExM
import Derived.Orders
import Derived.Tactics
namespace Go.Exe
open Go

theorem getT_eq (env : Env) (t : Nat) : getT env t = (env[t / 8]?).bind fun l => l[t % 8]? := by
  show bnd (nth env (Nat.div t 8)) (fun l => nth l (Nat.mod t 8)) = _
  rw [nth_eq]
  show bnd env[t / 8]? _ = _
  cases env[t / 8]? with
  | none => rfl
  | some l => exact nth_eq l _

theorem setT_some {env env' : Env} {t : Nat} {v : AV} (h : setT env t v = some env') : (getT env t).isSome = true ∧ ∀ u, getT env' u = if u = t then some v else getT env u := by
  obtain ⟨l, h1, h⟩ := bnd_some.1 h
  obtain ⟨l', h2, h⟩ := bnd_some.1 h
  rw [nth_eq] at h1
  obtain ⟨k1, rfl⟩ := setN_some h2
  obtain ⟨k2, rfl⟩ := setN_some h
  change env[t / 8]? = some l at h1
  change t % 8 < l.length at k1
  change t / 8 < env.length at k2
  refine ⟨by rw [getT_eq, h1]; simp [k1], fun u => ?_⟩
  rw [getT_eq, getT_eq]
  show ((env.set (t / 8) (l.set (t % 8) v))[u / 8]?.bind fun l => l[u % 8]?) = _
  by_cases hu : u = t
  · subst hu
    rw [if_pos rfl, List.getElem?_set_self (by simpa using k2)]
    show (l.set (u % 8) v)[u % 8]? = some v
    rw [List.getElem?_set_self (by simpa using k1)]
  · rw [if_neg hu]
    by_cases hd : u / 8 = t / 8
    · rw [hd, List.getElem?_set_self (by simpa using k2), h1]
      show (l.set (t % 8) v)[u % 8]? = l[u % 8]?
      rw [List.getElem?_set_ne (by omega)]
    · rw [List.getElem?_set_ne (Ne.symm hd)]

theorem chunk_get : ∀ {f : Nat} {l : List AV} {env : Env}, chunk f l = some env → ∀ t, getT env t = l[t]?
  | 0, l, env, h, t => nomatch h
  | f + 1, [], env, h, t => by cases h; rw [getT_eq]; simp
  | f + 1, x :: l, env, h, t => by
    have h : (Option.rec (some [x :: l]) (fun r => bnd (takeN (x :: l) 8) fun a => bnd (chunk f r) fun e => some (a :: e)) (dropN (x :: l) 8) : Option Env) = some env := h
    cases hd : dropN (x :: l) 8 with
    | none =>
      rw [hd] at h
      cases h
      have hlen : (x :: l).length < 8 := by
        rcases Nat.lt_or_ge (x :: l).length 8 with h | h
        · exact h
        · exfalso
          have : ∀ (m : List AV) (i : Nat), i ≤ m.length → dropN m i ≠ none := by
            intro m
            induction m with
            | nil => intro i hi; cases i with
              | zero => exact fun h => nomatch h
              | succ i => simp at hi
            | cons y m ih => intro i hi; cases i with
              | zero => exact fun h => nomatch h
              | succ i => exact ih i (by simpa using hi)
          exact this _ 8 h hd
      rw [getT_eq]
      rcases Nat.lt_or_ge t 8 with ht | ht
      · rw [show t / 8 = 0 by omega, show t % 8 = t by omega]; rfl
      · rw [List.getElem?_eq_none (by simp; omega), List.getElem?_eq_none (by omega)]; rfl
    | some r =>
      rw [hd] at h
      obtain ⟨a, h1, h2⟩ := bnd_some.1 (show bnd (takeN (x :: l) 8) (fun a => bnd (chunk f r) fun e => some (a :: e)) = some env from h)
      obtain ⟨e, h3, h4⟩ := bnd_some.1 h2
      cases h4
      obtain ⟨g1, rfl⟩ := dropN_some hd
      obtain ⟨g2, rfl⟩ := takeN_some h1
      have ih := chunk_get h3
      rcases Nat.lt_or_ge t 8 with ht | ht
      · rw [getT_eq, show t / 8 = 0 by omega, show t % 8 = t by omega]
        show ((x :: l).take 8)[t]? = _
        rw [List.getElem?_take, if_pos ht]
      · have e1 : getT ((x :: l).take 8 :: e) t = getT e (t - 8) := by
          rw [getT_eq, getT_eq, show t / 8 = (t - 8) / 8 + 1 by omega, List.getElem?_cons_succ, show t % 8 = (t - 8) % 8 by omega]
        rw [e1, ih, List.getElem?_drop, show 8 + (t - 8) = t by omega]

section
variable {P : Program} {σ : Sig} {N : Nat} {ρ : Rho} {h h' : H} {w w' : World} {o : Oper} {a : Act} {v : AV}

theorem mkEnv_ok {args : List AV} {n : Nat} {env : Env} (h : mkEnv args n = some env) {vs : Array Value} (hv : LR σ ρ args vs.toList) : ER σ ρ env (vs ++ Array.replicate (n - vs.size) undef) := by
  obtain ⟨l, h1, h2⟩ := bnd_some.1 h
  rw [app_eq] at h1
  cases h1
  have hg := chunk_get h2
  have hlen := hv.length
  simp only [Array.length_toList] at hlen
  intro t x ht
  rw [hg] at ht
  have hb : blanks (Nat.sub n (len args)) = List.replicate (n - args.length) .und := by
    show rep _ _ = _
    rw [rep_eq, len_eq]; rfl
  rw [hb] at ht
  rcases Nat.lt_or_ge t args.length with hlt | hlt
  · rw [List.getElem?_append_left hlt] at ht
    obtain ⟨u, k1, k2⟩ := hv.get t x ht
    refine ⟨by simp; omega, ?_⟩
    have k1 : vs[t]? = some u := by simpa using k1
    rw [Array.getD_eq_getD_getElem?, Array.getElem?_append_left (by omega), k1]
    exact k2
  · rw [List.getElem?_append_right hlt] at ht
    have hlt2 : t - args.length < n - args.length := by have := (List.getElem?_eq_some_iff.1 ht).1; simpa using this
    rw [List.getElem?_replicate, if_pos hlt2] at ht
    cases ht
    refine ⟨by simp; omega, ?_⟩
    rw [Array.getD_eq_getD_getElem?, Array.getElem?_append_right (by omega), Array.getElem?_replicate, if_pos (by omega)]
    rfl

theorem getD_set_self {tmps : Array Value} {t : Nat} {u : Value} (h : t < tmps.size) : (tmps.setIfInBounds t u).getD t undef = u := by simp [Array.getD_eq_getD_getElem?, h]
theorem getD_set_other {tmps : Array Value} {t q : Nat} {u : Value} (h : q ≠ t) : (tmps.setIfInBounds t u).getD q undef = tmps.getD q undef := by simp [Array.getD_eq_getD_getElem?, Ne.symm h]

theorem ER.put {env env' : Env} (he : ER σ ρ env a.tmps) {d : Option Nat} {x : AV} {u : Value} (hx : VR σ ρ x u) (e : putD d x env = some env') : ER σ ρ env' (a.put d u).tmps := by
  cases d with
  | none => cases e; exact he
  | some t =>
    obtain ⟨k1, k2⟩ := setT_some (show setT env t x = some env' from e)
    obtain ⟨y, hy⟩ := Option.isSome_iff_exists.1 k1
    have ht := (he t y hy).1
    intro q z hq
    rw [k2] at hq
    show q < (a.tmps.setIfInBounds t u).size ∧ VR σ ρ z ((a.tmps.setIfInBounds t u).getD q undef)
    by_cases hqt : q = t
    · subst hqt
      rw [if_pos rfl] at hq
      cases hq
      exact ⟨by simpa using ht, by rw [getD_set_self ht]; exact hx⟩
    · rw [if_neg hqt] at hq
      exact ⟨by simpa using (he q z hq).1, by rw [getD_set_other hqt]; exact (he q z hq).2⟩
theorem put_defers (a : Act) (d : Option Nat) (u : Value) : (a.put d u).defers = a.defers := by cases d <;> rfl

/-- A call's outcome, at an operation. -/
def Cal (P : Program) (σ : Sig) (N : Nat) (ρ : Rho) (h : H) (w : World) (s : Sem Next) (v : AV) (h' : H) : Prop :=
  ∀ (o : Oper) (a : Act) (next : Act → World → Prop) (Q : Exit → Act → World → Prop), (∀ ρ' u w', HR σ N ρ' h' w' → St ρ h w ρ' h' w' → VR σ ρ' v u → next (a.put o.dst u) w') → o.upon P a next Q (s.run P w)

def KOk (P : Program) (σ : Sig) (N : Nat) (K : Known) : Prop := ∀ f g, K f = some g → ∀ args h v h', g args h = some (v, h') → ∀ ρ w (vs : Array Value), HR σ N ρ h w → LR σ ρ args vs.toList → Cal P σ N ρ h w (callFunc f vs) v h'

def RunOk (P : Program) (σ : Sig) (N : Nat) (ih : Run) : Prop := ∀ fn T env h v h', ih fn T env h = some (v, h') → ∀ ρ (a : Act) w (b : Frame) (cs : List Frame), HR σ N ρ h w → ER σ ρ env a.tmps → a.defers = [] →
  ∃ a' w' ρ' T' u, Steps P (lone (b.at a T) cs w) (lone { b.at a' T' with mode := .returning } cs w') ∧ a'.defers = [] ∧ (results fn a'.tmps).run P w' = .ok u w' ∧ HR σ N ρ' h' w' ∧ St ρ h w ρ' h' w' ∧ VR σ ρ' v u

theorem calls_of_run {ih : Run} (hr : RunOk P σ N ih) {f : Nat} {fn : Func} {c : Code} (hf : P.funcs[f]? = some fn) (hb : fn.body = some c) {args : List AV} {env : Env} (he : mkEnv args fn.ntmps = some env) (e : ih fn [.code c] env h = some (v, h')) (hh : HR σ N ρ h w) {vs : Array Value} (hv : LR σ ρ args vs.toList) :
    Calls P f vs w fun e w' => ∃ ρ' u, e = .returned u ∧ HR σ N ρ' h' w' ∧ St ρ h w ρ' h' w' ∧ VR σ ρ' v u := by
  intro cs
  let b : Frame := { (default : Frame) with fn := f, kind := .normal }
  have henter : Frame.enter P f vs .normal = b.at { tmps := vs ++ Array.replicate (fn.ntmps - vs.size) undef, defers := [] } [.code c] := by
    simp [Frame.enter, Frame.at, hf, hb, b]
  obtain ⟨a', w', ρ', T', u, hs, hd, hres, hh', hst, hvr⟩ := hr fn _ env h v h' e ρ { tmps := vs ++ Array.replicate (fn.ntmps - vs.size) undef, defers := [] } w b cs hh (mkEnv_ok he hv) rfl
  rw [← henter] at hs
  exact ⟨.returned u, w', _, ⟨ρ', u, rfl, hh', hst, hvr⟩, hs, rfl, rfl, hd, rfl, fn, hf, hres⟩

theorem enter_ok {K : Known} (hK : KOk P σ N K) {ih : Run} (hr : RunOk P σ N ih) {f : Nat} {args : List AV} (e : enter P K ih f args h = some (v, h')) (hh : HR σ N ρ h w) {vs : Array Value} (hv : LR σ ρ args vs.toList) : Cal P σ N ρ h w (callFunc f vs) v h' := by
  unfold enter at e
  cases hk : K f with
  | some g => rw [hk] at e; exact hK f g hk args h v h' e ρ w vs hh hv
  | none =>
    rw [hk] at e
    cases hf : funcs P f with
    | none => rw [hf] at e; exact nomatch e
    | some fn =>
      rw [hf] at e
      dsimp only at e
      cases hb : fn.body with
      | none => rw [hb] at e; exact nomatch e
      | some c =>
        rw [hb] at e
        dsimp only at e
        cases hn : fn.name == "runtime.NumGoroutine" with
        | true => rw [hn] at e; exact nomatch e
        | false =>
          rw [hn] at e
          obtain ⟨env, h1, h2⟩ := bnd_some.1 (show bnd (mkEnv args fn.ntmps) (fun env => ih fn [.code c] env h) = some (v, h') from e)
          have hf : P.funcs[f]? = some fn := by
            have : nth P.funcs.toList f = some fn := hf
            rw [nth_eq] at this
            simpa using this
          have hcall : (callFunc f vs).run P w = .ok (.enter f vs) w := by
            have hn' : fn.name ≠ "runtime.NumGoroutine" := by simpa using hn
            simp [callFunc, hf, hb, hn']
          intro o a next Q k
          rw [hcall]
          show Calls P f vs w _
          refine (calls_of_run hr hf hb h1 h2 hh hv).mono ?_
          rintro e w' ⟨ρ', u, rfl, k1, k2, k3⟩
          exact k ρ' u w' k1 k2 k3

theorem okv_of_cal {s : Sem Next} (hs : ∀ w, (execOp a.eval o).run P w = s.run P w) (hc : Cal P σ N ρ h w s v h') : Okv P σ N o a ρ h w v h' := fun next Q k => by
  rw [hs]; exact hc o a next Q k

theorem okv_gives {s : Sem Value} (hs : (execOp a.eval o).run P w = (s.run P w).andThen fun x w' => .ok (.value x) w') (hg : Gives P σ N ρ h w s v h') : Okv P σ N o a ρ h w v h' := by
  obtain ⟨ρ', u, w', h1, h2, h3, h4⟩ := hg
  exact okv_val (by rw [hs, h1]; rfl) h2 h3 h4
end
end Go.Exe
