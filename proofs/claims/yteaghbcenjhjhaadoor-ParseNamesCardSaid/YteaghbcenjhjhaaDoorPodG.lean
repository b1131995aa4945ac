/- Regions, tests, ends: the rules by which a stretch of code is walked. -/
import Derived.Test.YteaghbcenjhjhaaDoorPodF
namespace Go.Pod
open Go

/-! ### A region, in its own order -/

/-- Whether an operation is carried out: in any case ('some none'), or where a test says so. -/
def guardOf (ops : Array Oper) (env : Env) : Option (Nat × Bool) → Option (Option Bool)
  | none => some none
  | some (j, want) => ((ops[j]?).bind (·.dst)).bind fun t => match get env t with
    | some (.bool b) => some (some (match want with | true => b | false => !b))
    | some (.gd g (.bool b)) => some (some (g && match want with | true => b | false => !b))
    | _ => none

def setDst (nt : Nat) (dst : Option Nat) (d : Option D) (env : Env) : Option Env :=
  match dst, d with
  | none, _ => some env
  | some t, some d => if t < nt then some (put env t d) else none
  | some t, none => some (drop1 t env)

/-- A literal that nobody writes, where 'g' says so. -/
def stepLitG (P : Program) (g : Bool) (env : Env) (hs : List Hint) (T : TypeId) (n : Nat) (parts : Array (Nat × Operand)) : Option (List Prop × D × List Hint) :=
  (rdP g env parts.toList).bind fun q => match P.underlying T with
    | some (.slice e) => (elemOk P e).bind fun i =>
      if indices 0 q.2 && q.2.length == n && q.2.all (fun p => p.2.solid && p.2.size == i.1) && n * i.1 ≤ litMax then
        match hs with
        | .lit f :: hs => some (q.1 ++ [TabOk (q.2.map (·.2)) i.1 (.arr n i.1 f)], .lit n i.1 f, hs)
        | _ => none
      else none
    | _ => none

/-- An operation that is carried out only where 'g' says so. -/
def stepG (P : Program) (g : Bool) (env : Env) (h : Heap) (hs : List Hint) (op : Op) : Option (List Prop × D × List Hint) :=
  match op with
  | .call { callee := .value f, args, .. } => match hs with
    | hint :: hs => (callv P g env h hint f args).map fun q => (q.1, q.2, hs)
    | [] => none
  | .buildSlice T n parts => stepLitG P g env hs T n parts
  | op => (vval P g env h op).map fun q => (q.1, q.2, hs)

def underG (g : Bool) : List Prop → List Prop
  | [] => []
  | l => [g = true → All l]

theorem underG_ok {g : Bool} {l : List Prop} (h : All (underG g l)) (hg : g = true) : All l := by
  cases l with
  | nil => trivial
  | cons a r => exact h.1 hg

def rexec (P : Program) (nt : Nat) (ops : Array Oper) : List Oper → Env → Heap → List Hint → Option (List Prop × Env × Heap)
  | [], env, h, _ => some ([], env, h)
  | o :: r, env, h, hs => match guardOf ops env o.guard with
    | none => none
    | some none => (step1 P env h hs o.op).bind fun q => (setDst nt o.dst q.2.1 env).bind fun env' =>
        (rexec P nt ops r env' q.2.2.1 q.2.2.2).map fun z => (q.1 ++ z.1, z.2)
    | some (some g) => (stepG P g env h hs o.op).bind fun q => (setDst nt o.dst (some (.gd g q.2.1)) env).bind fun env' =>
        (rexec P nt ops r env' h q.2.2).map fun z => (underG g q.1 ++ z.1, z.2)

section
variable {P : Program} {X : Nat → Prop}

theorem guardOf_none {ops : Array Oper} {env : Env} {o : Oper} (h : guardOf ops env o.guard = some none) (y : Nat → Option Bool) : Region.wanted o y = true := by
  unfold guardOf at h
  unfold Region.wanted
  split at h
  · rename_i e; rw [e]
  · rename_i j want e
    simp only [Option.bind_eq_some_iff] at h
    obtain ⟨t, _, h⟩ := h
    split at h <;> cases h

theorem getD_some {tmps : Array Value} {t : Nat} {v : Value} (h : t < tmps.size) (e : tmps.getD t undef = v) : tmps[t]? = some v := by
  simp [Array.getD_eq_getD_getElem?, h] at e ⊢; exact e

theorem guardOf_some {ops : Array Oper} {env : Env} {o : Oper} {g : Bool} {x : Cx} {a : Act} (he : ERel x env a.tmps) (h : guardOf ops env o.guard = some (some g)) : Region.wanted o (yielded ops a.tmps) = g := by
  unfold guardOf at h
  unfold Region.wanted
  split at h
  · cases h
  · rename_i j want e
    rw [e]
    simp only [Option.bind_eq_some_iff] at h
    obtain ⟨t, ⟨oj, h1, h2⟩, h3⟩ := h
    have hy : yielded ops a.tmps j = match a.tmps[t]? with | some (.bool b) => some b | _ => none := by
      simp only [yielded, h1, Option.bind_some, h2]
      rfl
    simp only [hy]
    split at h3
    · rename_i b hb
      obtain ⟨k1, k2⟩ := he t _ (get_mem hb)
      have := getD_some k1 k2.1
      rw [this]
      cases want <;> cases b <;> cases h3 <;> rfl
    · rename_i g' b hb
      obtain ⟨k1, k2, k3⟩ := he t _ (get_mem hb)
      cases g' with
      | true =>
        have := getD_some k1 (k2 rfl).1
        rw [this]
        cases want <;> cases b <;> cases h3 <;> rfl
      | false =>
        have := getD_some k1 (k3 rfl)
        rw [this]
        cases h3
        cases want <;> rfl
    · cases h3

theorem setDst_ok {nt : Nat} {x : Cx} {o : Oper} {d : Option D} {env env' : Env} {a : Act} {v : Value} (h : setDst nt o.dst d env = some env') (he : ERel x env a.tmps) (hn : nt ≤ a.tmps.size) (hv : ∀ e, d = some e → (VR x e).v v) :
    ERel x env' (a.put o.dst v).tmps ∧ (a.put o.dst v).defers = a.defers ∧ (a.put o.dst v).tmps.size = a.tmps.size := by
  unfold setDst at h
  split at h
  · rename_i e1; cases h; rw [e1]; exact ⟨he, rfl, rfl⟩
  · rename_i t d' e1
    split at h
    · rename_i ht
      cases h; rw [e1]
      exact ⟨he.put (Nat.lt_of_lt_of_le ht hn) (hv _ rfl), rfl, by simp [Act.put]⟩
    · cases h
  · rename_i t e1; cases h; rw [e1]
    exact ⟨he.lose t v, rfl, by simp [Act.put]⟩

theorem stepLitG_ok {ρ : Hnd} {w : World} {h : Heap} {env : Env} {a : Act} (hh : HRel X ρ h w) (he : ERel (cx X ρ w) env a.tmps) {g : Bool} (hg : g = true) {hs : List Hint} {T : TypeId} {n : Nat} {parts : Array (Nat × Operand)} {q' : List Prop × D × List Hint} (e : stepLitG P g env hs T n parts = some q') (ha : All q'.1) {o : Oper} (ho : o.op = .buildSlice T n parts) :
    Outc P (Post1 X ρ w h (some q'.2.1)) ((execOp a.eval o).run P w) := by
  unfold stepLitG at e
  simp only [Option.bind_eq_some_iff] at e
  obtain ⟨q, h1', h2⟩ := e
  split at h2
  · rename_i el hu
    simp only [Option.bind_eq_some_iff] at h2
    obtain ⟨iz, h3, h4⟩ := h2
    obtain ⟨i, z, i1, i2, _, i4, rfl⟩ := elemOk_spec h3
    split at h4
    · rename_i hc
      simp only [Bool.and_eq_true, beq_iff_eq, decide_eq_true_eq] at hc
      obtain ⟨⟨⟨c1, c2⟩, c3⟩, c4⟩ := hc
      have c3' : (q.2.map (·.2)).all (fun d => d.solid && d.size == i.size) = true := by rw [List.all_map]; exact c3
      split at h4
      · rename_i f hs2
        cases h4
        obtain ⟨a1, a2⟩ := All_append.1 ha
        have hp : Pairs (cx X ρ w) q.2 (parts.map fun (i, x) => (i, a.eval x)).toList := by
          rw [Array.toList_map]
          exact rdP_ok he hg parts.toList h1' a1
        obtain ⟨cells, _, l2, l3⟩ := run_slice_lit (P := P) (T := T) (el := el) (n := n) hu (i := i) i1 (z := z) i2 (parts := q.2) (vals := parts.map fun (i, x) => (i, a.eval x)) hp c1 c2 c3' c4
        have hnm : n ≤ maxLen := by
          have : n * 1 ≤ n * i.size := Nat.mul_le_mul_left n i4
          have hle : n ≤ litMax := by omega
          exact litMax_len hle
        have hlen : (q.2.map (·.2)).length = n := by simpa using c2
        exact lit_out (P := P) hh hnm (a2.1.2 _ _ 0 (by rw [hlen]; exact l2)) (by simp only [execOp, ho, Sem.run_bind, l3, Result.andThen_ok, Sem.run_pure]; rfl)
      · cases h4
    · cases h4
  · cases h2

theorem stepG_ok {ρ : Hnd} {w : World} {h : Heap} {env : Env} {a : Act} (hh : HRel X ρ h w) (he : ERel (cx X ρ w) env a.tmps) {g : Bool} (hg : g = true) {hs : List Hint} {op : Op} {q' : List Prop × D × List Hint} (e : stepG P g env h hs op = some q') (ha : All q'.1) {o : Oper} (ho : o.op = op) :
    Outc P (Post1 X ρ w h (some q'.2.1)) ((execOp a.eval o).run P w) := by
  unfold stepG at e
  split at e
  · rename_i f args ats
    split at e
    · rename_i hint hs'
      simp only [Option.map_eq_some_iff] at e
      obtain ⟨q, h1, rfl⟩ := e
      exact callv_ok (P := P) hh he hg h1 ha ho
    · cases e
  · exact stepLitG_ok hh he hg e ha ho
  · simp only [Option.map_eq_some_iff] at e
    obtain ⟨q, h1, h2⟩ := e
    cases h2
    obtain ⟨v, k1, k2⟩ := vval_ok (P := P) hh he hg h1 ha
    exact outc_value (k2 o ho w fun _ _ => rfl) ⟨ρ, Step.refl _ _ _, hh, fun e' he' => by cases he'; exact k1⟩

theorem rexec_ok {nt : Nat} {ops : Array Oper} {Q : Exit → Act → World → Prop} : ∀ (l : List Oper) {env : Env} {h : Heap} {hs : List Hint} {z : List Prop × Env × Heap} (_ : rexec P nt ops l env h hs = some z) (_ : All z.1)
    {ρ : Hnd} {a : Act} {w : World} (_ : HRel X ρ h w) (_ : ERel (cx X ρ w) env a.tmps) (_ : nt ≤ a.tmps.size)
    (_ : ∀ ρ' a' w', Step Full ρ w ρ' w' → HRel X ρ' z.2.2 w' → ERel (cx X ρ' w') z.2.1 a'.tmps → a'.defers = a.defers → a'.tmps.size = a.tmps.size → Q .normal a' w'), wpList P ops Q l a w
  | [], env, h, hs, z, e, _, ρ, a, w, hh, he, _, K => by
    cases e
    exact K ρ a w (Step.refl _ _ _) hh he rfl rfl
  | o :: l, env, h, hs, z, e, ha, ρ, a, w, hh, he, hn, K => by
    have go : ∀ {d : Option D} {h1 : Heap} {env1 : Env} {z1 : List Prop × Env × Heap} {hs1 : List Hint}, setDst nt o.dst d env = some env1 → rexec P nt ops l env1 h1 hs1 = some z1 → All z1.1 → z1.2 = z.2 →
        ∀ v w1, Post1 X ρ w h1 d v w1 → wpList P ops Q l (a.put o.dst v) w1 := by
      intro d h1 env1 z1 hs1 e1 e2 a2 ez v w1 ⟨ρ1, st, hh1, hv⟩
      obtain ⟨k1, k2, k3⟩ := setDst_ok (nt := nt) (v := v) e1 (he.le st.leF) hn hv
      refine rexec_ok l e2 a2 hh1 k1 (by omega) fun ρ' a' w' st' hh' he' hd hs' => ?_
      rw [ez] at hh' he'
      exact K ρ' a' w' (st.trans st') hh' he' (hd.trans k2) (hs'.trans k3)
    simp only [rexec] at e
    unfold wpList
    split at e
    · cases e
    · rename_i hg
      simp only [Option.bind_eq_some_iff, Option.map_eq_some_iff] at e
      obtain ⟨q, h1, env1, h2, z1, h3, rfl⟩ := e
      obtain ⟨a1, a2⟩ := All_append.1 ha
      rw [if_pos (guardOf_none hg _)]
      exact .inl (upon_of (go h2 h3 a2 rfl) (step1_ok (P := P) hh he h1 a1 rfl))
    · rename_i g hg
      simp only [Option.bind_eq_some_iff, Option.map_eq_some_iff] at e
      obtain ⟨q, h1, env1, h2, z1, h3, rfl⟩ := e
      obtain ⟨a1, a2⟩ := All_append.1 ha
      rw [guardOf_some he hg]
      cases g with
      | true =>
        rw [if_pos rfl]
        refine .inl (upon_of (go h2 h3 a2 rfl) ?_)
        have := stepG_ok (P := P) hh he rfl h1 (underG_ok a1 rfl) (o := o) rfl
        refine Outc_mono ?_ this
        rintro v w1 ⟨ρ1, k1, k2, k3⟩
        exact ⟨ρ1, k1, k2, fun e he => by cases he; exact ⟨fun _ => k3 _ rfl, nofun⟩⟩
      | false =>
        rw [if_neg (by simp)]
        exact go h2 h3 a2 rfl undef w ⟨ρ, Step.refl _ _ _, hh, fun e he => by cases he; exact ⟨nofun, fun _ => rfl⟩⟩
end

end Go.Pod
