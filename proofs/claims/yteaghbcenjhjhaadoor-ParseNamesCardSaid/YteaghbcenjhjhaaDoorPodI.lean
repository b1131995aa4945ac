/- The rules of the walk: a region, a test, an end. -/
import Derived.Test.YteaghbcenjhjhaaDoorPodR
namespace Go.Pod
open Go

/-! ### A region -/

/-- Does a call of the region change rows? -/
def anyRows : List Hint → Bool
  | [] => false
  | .rows _ _ _ _ _ :: _ => true
  | .lendR _ _ :: _ => true
  | _ :: l => anyRows l

def anyLit : List Hint → Bool
  | [] => false
  | .lit _ :: _ => true
  | _ :: l => anyLit l
def ownEmpty : List Hint → Bool
  | [] => true
  | .own d :: l => d.size == 0 && ownEmpty l
  | _ :: l => ownEmpty l
def rowless : D → Bool
  | .lit _ _ _ | .lptr _ | .nils | .z0 | .nilp => true
  | .gd _ d | .nn d => rowless d
  | _ => false
def looks (env : Env) (m : Nat) : Operand → Bool
  | .tmp s => m.testBit s || ((get env s).map rowless).getD false
  | _ => false
/-- The slots of operations that look at what no row holds. -/
def freeSlots (env : Env) : List Oper → Nat → Nat
  | [], m => m
  | o :: l, m => freeSlots env l (match o.dst with
    | none => m
    | some t => match o.op with
      | .move x | .assign x | .indexAddr _ x _ | .load _ x | .slice _ x _ _ _ | .fieldAddr _ x _ | .nilCheck x => if looks env m x then m ||| 2 ^ t else m
      | _ => m)
def boxy (h : Heap) : D → Bool
  | .ptr r _ => match h[r]? with
    | some (some (.box _)) => true
    | _ => false
  | _ => false
def looksB (env : Env) (h : Heap) (m : Nat) : Operand → Bool
  | .tmp s => m.testBit s || ((get env s).map (boxy h)).getD false
  | _ => false
/-- The slots of operations that look at boxes. -/
def boxSlots (env : Env) (h : Heap) : List Oper → Nat → Nat
  | [], m => m
  | o :: l, m => boxSlots env h l (match o.dst with
    | none => m
    | some t => match o.op with
      | .move x | .assign x | .load _ x | .fieldAddr _ x _ | .nilCheck x => if looksB env h m x then m ||| 2 ^ t else m
      | _ => m)
/-- What is quiet in a region. -/
def kindOf (ops : Array Oper) (env : Env) (h : Heap) (hs : List Hint) : Bool × Bool × Nat × Nat :=
  match aok (anyRows hs, anyLit hs && ownEmpty hs, 0, 0) ops (ancs ops.toList []) with
  | true => (anyRows hs, anyLit hs && ownEmpty hs, 0, 0)
  | false => match aok (anyRows hs, anyLit hs && ownEmpty hs, freeSlots env ops.toList 0, 0) ops (ancs ops.toList []) with
    | true => (anyRows hs, anyLit hs && ownEmpty hs, freeSlots env ops.toList 0, 0)
    | false => (anyRows hs, anyLit hs && ownEmpty hs, freeSlots env ops.toList 0, boxSlots env h ops.toList 0)

/-- The operations of a region, as they come. -/
def regexec (P : Program) (nt : Nat) (ops : Array Oper) (dr : Bool) (env : Env) (h : Heap) (hs : List Hint) : Option (List Prop × Env × Heap) :=
  match dr with
  | false => rexec P nt ops ops.toList env h hs
  | true =>
    if P.follows .mixedOrders && aok (kindOf ops env h hs) ops (ancs ops.toList []) then
      (aexec (kindOf ops env h hs) P nt ops h ops.toList (ancs ops.toList []) [] env hs).map fun z => (z.1, selAll z.2.2, curH (fun _ => true) 0 z.2.1 h)
    else none

section
variable {P : Program} {X : Nat → Prop}

theorem regexec_ok {nt : Nat} {ops : Array Oper} {dr : Bool} {env : Env} {h : Heap} {hs : List Hint} {z : List Prop × Env × Heap} (e : regexec P nt ops dr env h hs = some z) (ha : All z.1) {ρ : Hnd} {a : Act} {w : World} (hh : HRel X ρ h w) (he : ERel (cx X ρ w) env a.tmps) (hn : nt ≤ a.tmps.size) (id : Nat) :
    (Code.region id ops dr).wp P (fun e a' w' => e = .normal ∧ ∃ ρ', Step Full ρ w ρ' w' ∧ HRel X ρ' z.2.2 w' ∧ ERel (cx X ρ' w') z.2.1 a'.tmps ∧ a'.defers = a.defers ∧ a'.tmps.size = a.tmps.size) a w := by
  unfold regexec at e
  split at e
  · exact wp_region_list (rexec_ok _ e ha hh he hn fun ρ' a' w' h1 h2 h3 h4 h5 => ⟨rfl, ρ', h1, h2, h3, h4, h5⟩)
  · split at e
    · rename_i hB
      simp only [Bool.and_eq_true] at hB
      simp only [Option.map_eq_some_iff] at e
      obtain ⟨y, h1, rfl⟩ := e
      exact any_region hB.1 hB.2 h1 ha hh he hn id fun ρ' a' w' g1 g2 g3 g4 g5 => ⟨rfl, ρ', g1, g2, g3, g4, g5⟩
    · cases e

/-- What a list of things to do opens with. -/
def bexec (P : Program) (nt : Nat) (T : List Item) (env : Env) (h : Heap) (hs : List Hint) : Option (List Prop × Env × Heap) :=
  match norm 200 T with
  | .code (.region _ ops dr) :: _ => regexec P nt ops dr env h hs
  | _ => none

def nxt (T : List Item) : List Item :=
  match norm 200 T with
  | _ :: k => norm 200 k
  | [] => []

/-- Rule: a region. -/
theorem runs_region {fn : Func} {n : Nat} {T : List Item} {env : Env} {h : Heap} {d : D} {h' : Heap} (hs : List Hint) {z : List Prop × Env × Heap} (e : bexec P fn.ntmps T env h hs = some z) (ha : All z.1)
    (hr : Runs P fn n (nxt T) z.2.1 z.2.2 d h') : Runs P fn n T env h d h' := by
  unfold bexec at e
  split at e
  · rename_i id ops dr k hT
    refine runs_norm 200 hT ?_
    have hN : nxt T = norm 200 k := by unfold nxt; rw [hT]
    rw [hN] at hr
    replace hr := runs_norm 200 rfl hr
    intro X ρ a w b cs hh hE hd hnt
    obtain ⟨ex, a1, w1, ⟨rfl, ρ1, k1, k2, k3, k4, k5⟩, k6⟩ := regexec_ok e ha hh hE hnt id b k cs
    obtain ⟨a', w', ρ', T', v, q1, q2, q3, q4, q5, q6⟩ := hr X ρ1 a1 w1 b cs k2 k3 (k4.trans hd) (by omega)
    exact ⟨a', w', ρ', T', v, Steps.trans k6 q1, q2, q3, q4, (k1.mono fun _ _ => trivial).trans q5, q6⟩
  · cases e

/-! ### A test -/

def cndT (T : List Item) : List Item := match norm 200 T with
  | .code (.cond _ x _) :: k => norm 200 (.code x :: k)
  | _ => []
def cndF (T : List Item) : List Item := match norm 200 T with
  | .code (.cond _ _ y) :: k => norm 200 (.code y :: k)
  | _ => []
def tst (T : List Item) (env : Env) : Option D := match norm 200 T with
  | .code (.cond c _ _) :: _ => opd env c
  | _ => none

theorem runs_if {fn : Func} {n : Nat} {T : List Item} {env : Env} {h : Heap} {d : D} {h' : Heap} {b : Bool} (e : tst T env = some (.bool b))
    (h1 : b = true → Runs P fn n (cndT T) env h d h') (h2 : b = false → Runs P fn n (cndF T) env h d h') : Runs P fn n T env h d h' := by
  unfold tst at e
  split at e
  · rename_i c x y k hT
    refine runs_norm 200 hT (runs_cond (c := c) (T1 := cndT T) (T2 := cndF T) ?_ e h1 h2)
    simp only [condOf, cndT, cndF, hT]
  · cases e

end

/-! ### An end -/

/-- What a result reads as. -/
def resD (P : Program) (env : Env) (h : Heap) : ResultVar → Option D
  | .tmp t => get env t
  | .cell t T => match get env t with
    | some (.ptr r []) => (rowOf h r).bind fun d => if fit P T d then some d else none
    | _ => none

def resL (P : Program) (env : Env) (h : Heap) : List ResultVar → Option (List D)
  | [] => some []
  | r :: l => (resD P env h r).bind fun d => (resL P env h l).map fun ds => d :: ds

def resAll (P : Program) (fn : Func) (env : Env) (h : Heap) : Option D :=
  (resL P env h fn.results.toList).map fun ds => match ds with
    | [d] => d
    | ds => .tup (chain ds)

def rexit (P : Program) (fn : Func) (T : List Item) (env : Env) (h : Heap) : Option D :=
  match norm 200 T with
  | .code .ret :: _ => resAll P fn env h
  | [] => resAll P fn env h
  | _ => none

def rv (tmps : Array Value) : ResultVar → Sem Value
  | .tmp t => pure (tmps.getD t undef)
  | .cell a t => do loadVar t (← asAddr (tmps.getD a undef))

theorem results_eq (fn : Func) (tmps : Array Value) : results fn tmps = (do let vs ← fn.results.mapM (rv tmps); pure (if h : vs.size = 1 then vs[0] else .tuple vs)) := rfl

section
variable {P : Program} {X : Nat → Prop} {ρ : Hnd} {h : Heap} {w : World} {env : Env}

theorem resD_ok {tmps : Array Value} (hh : HRel X ρ h w) (he : ERel (cx X ρ w) env tmps) {r : ResultVar} {d : D} (e : resD P env h r = some d) :
    ∃ v, (VR (cx X ρ w) d).v v ∧ (rv tmps r).run P w = .ok v w := by
  cases r with
  | tmp t => exact ⟨_, (he t d (get_mem e)).2, by simp [rv]⟩
  | cell t T =>
    simp only [resD] at e
    split at e
    · rename_i r hg
      simp only [Option.bind_eq_some_iff] at e
      obtain ⟨dr, hr, h2⟩ := e
      split at h2
      · rename_i hf
        cases h2
        obtain ⟨u, b, k1, k2, ev⟩ := live_ptr hh hr (he t _ (get_mem hg)).2
        obtain ⟨k3, k4⟩ := row_mem hh hr k1 k2
        obtain ⟨v, r1, r2⟩ := run_loadVar' (P := P) hf k3
        exact ⟨v, r2, by simp [rv, ev, pathOff, asAddr, r1 w rfl]⟩
      · cases h2
    · cases e

theorem resL_ok {tmps : Array Value} (hh : HRel X ρ h w) (he : ERel (cx X ρ w) env tmps) : ∀ (l : List ResultVar) {ds : List D} (_ : resL P env h l = some ds),
    ∃ vs : List Value, (l.mapM (rv tmps)).run P w = .ok vs w ∧ vs.length = ds.length ∧ ∀ (i : Nat) (d : D) (v : Value), ds[i]? = some d → vs[i]? = some v → (VR (cx X ρ w) d).v v
  | [], ds, e => by cases e; exact ⟨[], by simp, rfl, fun i d v e => by simp at e⟩
  | r :: l, ds, e => by
    simp only [resL, Option.bind_eq_some_iff, Option.map_eq_some_iff] at e
    obtain ⟨d, h1, ds', h2, rfl⟩ := e
    obtain ⟨v, k1, k2⟩ := resD_ok (P := P) hh he h1
    obtain ⟨vs, q1, q2, q3⟩ := resL_ok hh he l h2
    refine ⟨v :: vs, ?_, by simp [q2], fun i d' v' e1 e2 => ?_⟩
    · rw [List.mapM_cons, Sem.run_bind, k2, Result.andThen_ok, Sem.run_bind, q1]
      simp
    · cases i with
      | zero => simp at e1 e2; subst e1; subst e2; exact k1
      | succ i => exact q3 i d' v' (by simpa using e1) (by simpa using e2)

theorem resAll_ok {fn : Func} {tmps : Array Value} (hh : HRel X ρ h w) (he : ERel (cx X ρ w) env tmps) {d : D} (e : resAll P fn env h = some d) :
    ∃ v, (VR (cx X ρ w) d).v v ∧ (results fn tmps).run P w = .ok v w := by
  unfold resAll at e
  simp only [Option.map_eq_some_iff] at e
  obtain ⟨ds, h1, h2⟩ := e
  obtain ⟨vs, k1, k2, k3⟩ := resL_ok (P := P) hh he fn.results.toList h1
  have run : (results fn tmps).run P w = .ok (if h : vs.toArray.size = 1 then vs.toArray[0] else .tuple vs.toArray) w := by
    rw [results_eq, Sem.run_bind, Array.mapM_eq_mapM_toList, Sem.run_map, k1]
    simp
  refine ⟨_, ?_, run⟩
  split at h2
  · rename_i d'
    subst h2
    cases vs with
    | nil => simp at k2
    | cons v r =>
      cases r with
      | nil => exact k3 0 _ v rfl rfl
      | cons _ _ => simp at k2
  · rename_i hne
    subst h2
    have hn1 : ¬ vs.toArray.size = 1 := fun h => by
      have : ds.length = 1 := by simp at h; omega
      match ds, this with
      | [d], _ => exact hne d rfl
    rw [dif_neg hn1]
    exact ⟨vs.toArray, rfl, chain_c ds 0 (by simp [k2]) fun j d hj => by
      have hl : j < vs.length := by have := (List.getElem?_eq_some_iff.1 hj).1; omega
      have := k3 j d _ hj (List.getElem?_eq_getElem hl)
      simpa [Array.getD_eq_getD_getElem?, hl] using this⟩

/-- Rule: an end. 'h2': what is left of the rows. -/
theorem runs_ret {fn : Func} {n : Nat} {T : List Item} {env : Env} {h h2 : Heap} {d : D} (e : rexit P fn T env h = some d) (hs : HSub h h2) (hn : n ≤ h2.length) (hi : HIn (Bel h2.length) h2) (hd : d.In (Bel h2.length)) : Runs P fn n T env h d h2 := by
  unfold rexit at e
  split at e
  · rename_i k hT
    refine runs_norm 200 hT ?_
    intro X ρ a w b cs hh hE hdf hnt
    obtain ⟨v, k1, k2⟩ := resAll_ok (P := P) hh hE e
    exact ⟨a, w, gcρ ρ h2, _, v, .one step_ret, hdf, k2, hh.gc hs hi, Step.gc fun r hr => Nat.lt_of_lt_of_le hr hn, (VR_leS gc_leS d hd).v v k1⟩
  · rename_i hT
    refine runs_norm 200 hT ?_
    intro X ρ a w b cs hh hE hdf hnt
    obtain ⟨v, k1, k2⟩ := resAll_ok (P := P) hh hE e
    exact ⟨a, w, gcρ ρ h2, _, v, .one step_end, hdf, k2, hh.gc hs hi, Step.gc fun r hr => Nat.lt_of_lt_of_le hr hn, (VR_leS gc_leS d hd).v v k1⟩
  · cases e

end
end Go.Pod
