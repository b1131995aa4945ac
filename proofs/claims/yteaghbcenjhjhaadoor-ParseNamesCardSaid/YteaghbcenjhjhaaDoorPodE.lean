/- Values that are made: zero values, literals, closures; lengths; the least and the greatest. -/
import Derived.Test.YteaghbcenjhjhaaDoorPodD
import Derived.Laws.Small
import Derived.Laws.Cover1
namespace Go.Pod
open Go

/-! ### Does a value read as a tree, wherever? -/

structure CK where
  v : Value → Bool
  m : Array Value → Nat → Bool

def ckLeaf (p : Value → Bool) : CK := { v := p, m := fun cs o => match cs[o]? with | some u => p u | none => false }
def ckAgg (n : Nat) (m : Array Value → Nat → Bool) : CK := { v := fun v => match v with | .agg cs => cs.size == n && m cs 0 | _ => false, m := m }

def ck : D → CK
  | .bool b => ckLeaf fun v => match v with | .bool b' => b == b' | _ => false
  | .int k n => ckLeaf fun v => match v with | .int k' n' => k == k' && n == n' | _ => false
  | .str s => ckLeaf fun v => match v with | .string s' => s.data == s'.data | _ => false
  | .ints k n g => ckAgg n fun cs o => (List.range n).all fun i => match cs[o + i]? with | some (.int k' a) => k == k' && g i == a | _ => false
  | .nil => ckAgg 0 fun _ _ => true
  | .cons a b => ckAgg (a.size + b.size) fun cs o => (ck a).m cs o && (ck b).m cs (o + a.size)
  | .arr n sz g => ckAgg (n * sz) fun cs o => (List.range n).all fun i => (g i).size == sz && (ck (g i)).m cs (o + i * sz)
  | .nilp => ckLeaf fun v => match v with | .pointer none => true | _ => false
  | .nils => ckLeaf fun v => match v with | .slice none 0 0 => true | _ => false
  | .nilf => ckLeaf fun v => match v with | .nilFunc => true | _ => false
  | _ => ckLeaf fun _ => false

structure CKok (x : Cx) (c : CK) (r : RD) : Prop where
  v : ∀ v, c.v v = true → r.v v
  m : ∀ cs o, c.m cs o = true → r.m (fun i => cs[i]?) o

theorem ckLeaf_ok {x : Cx} {p : Value → Bool} {q : Value → Prop} (h : ∀ v, p v = true → q v ∧ v.oneCell' = true) : CKok x (ckLeaf p) (leaf q) where
  v := h
  m := fun cs o e => by
    simp only [ckLeaf] at e
    split at e
    · rename_i u hu; exact ⟨u, hu, h u e⟩
    · cases e

theorem ckAgg_ok {x : Cx} {n : Nat} {m : Array Value → Nat → Bool} {m' : Look → Nat → Prop} {c : Array Value → Nat → Prop} (h : ∀ cs o, m cs o = true → m' (fun i => cs[i]?) o) : CKok x (ckAgg n m) (aggr n m' c) where
  v := fun v e => by
    simp only [ckAgg] at e
    split at e
    · rename_i cs
      simp only [Bool.and_eq_true, beq_iff_eq] at e
      exact ⟨cs, rfl, e.1, h _ _ e.2⟩
    · cases e
  m := h

theorem ck_ok (x : Cx) : ∀ d : D, CKok x (ck d) (VR x d)
  | .bool b => ckLeaf_ok fun v e => by cases v <;> simp only [Bool.false_eq_true, beq_iff_eq] at e; subst e; exact ⟨rfl, rfl⟩
  | .int k n => ckLeaf_ok fun v e => by cases v <;> simp only [Bool.false_eq_true, Bool.and_eq_true, beq_iff_eq] at e; obtain ⟨rfl, rfl⟩ := e; exact ⟨rfl, rfl⟩
  | .str s => ckLeaf_ok fun v e => by
      cases v <;> simp only [Bool.false_eq_true, beq_iff_eq] at e
      rename_i s'
      obtain ⟨a⟩ := s; obtain ⟨b⟩ := s'
      obtain rfl : a = b := e
      exact ⟨rfl, rfl⟩
  | .ints k n g => ckAgg_ok fun cs o e => fun i hi => by
      have := List.all_eq_true.1 e i (List.mem_range.2 hi)
      split at this
      · rename_i k' a hu
        simp only [Bool.and_eq_true, beq_iff_eq] at this
        obtain ⟨rfl, rfl⟩ := this
        exact hu
      · cases this
  | .nil => ckAgg_ok fun _ _ _ => trivial
  | .cons a b => ckAgg_ok fun cs o e => by
      simp only [Bool.and_eq_true] at e
      exact ⟨(ck_ok x a).m _ _ e.1, (ck_ok x b).m _ _ e.2⟩
  | .arr n sz g => ckAgg_ok fun cs o e => fun i hi => by
      have := List.all_eq_true.1 e i (List.mem_range.2 hi)
      simp only [Bool.and_eq_true, beq_iff_eq] at this
      exact ⟨this.1, (ck_ok x (g i)).m _ _ this.2⟩
  | .nilp => ckLeaf_ok fun v e => by
      split at e
      · exact ⟨rfl, rfl⟩
      · cases e
  | .nils => ckLeaf_ok fun v e => by
      split at e
      · exact ⟨rfl, rfl⟩
      · cases e
  | .nilf => ckLeaf_ok fun v e => by cases v <;> simp only [Bool.false_eq_true] at e; exact ⟨rfl, rfl⟩
  | .z0 => ckLeaf_ok fun _ e => by cases e
  | .is _ => ckLeaf_ok fun _ e => by cases e
  | .err _ => ckLeaf_ok fun _ e => by cases e
  | .ifc _ _ => ckLeaf_ok fun _ e => by cases e
  | .nn _ => ckLeaf_ok fun _ e => by cases e
  | .view _ _ _ _ => ckLeaf_ok fun _ e => by cases e
  | .ptr _ _ => ckLeaf_ok fun _ e => by cases e
  | .lptr _ => ckLeaf_ok fun _ e => by cases e
  | .own _ => ckLeaf_ok fun _ e => by cases e
  | .lit _ _ _ => ckLeaf_ok fun _ e => by cases e
  | .fn _ _ => ckLeaf_ok fun _ e => by cases e
  | .tup _ => ⟨fun _ e => by simp [ck, ckLeaf] at e, fun cs o e => by simp only [ck, ckLeaf] at e; split at e <;> cases e⟩
  | .gd _ _ => ⟨fun _ e => by simp [ck, ckLeaf] at e, fun cs o e => by simp only [ck, ckLeaf] at e; split at e <;> cases e⟩
  | .junk => ⟨fun _ e => by simp [ck, ckLeaf] at e, fun cs o e => by simp only [ck, ckLeaf] at e; split at e <;> cases e⟩

/-! ### Zero values -/

def zD (P : Program) : Nat → TypeId → Option D
  | 0, _ => none
  | n + 1, t =>
    match P.underlying t with
    | some .bool => some (.bool false)
    | some (.int k) => some (.int k 0)
    | some .string => some (.str ⟨#[]⟩)
    | some (.pointer _) => some .nilp
    | some (.slice _) => some .nils
    | some (.func _ _ _) => some .nilf
    | some (.array len e) =>
      match P.underlying e, P.info? e with
      | some (.int k), _ => some (.ints k len fun _ => 0)
      | _, some i => (zD P n e).map fun d => .arr len i.size fun _ => d
      | _, _ => none
    | some (.struct fs) => zF n (fs.toList.map (·.type))
    | _ => none
where
  zF : Nat → List TypeId → Option D
    | 0, _ => none
    | _ + 1, [] => some .nil
    | n + 1, t :: r => (zD P n t).bind fun a => (zF n r).map fun b => .cons a b

/-- A type's zero value as a tree, held against the table's own. -/
def zeroD (P : Program) (t : TypeId) : Option D :=
  (zD P 60 t).bind fun d => match (P.info? t).bind (·.zero) with
    | some z => if (ck d).v z && d.solid then some d else none
    | none => none

theorem zeroD_ok {P : Program} {t : TypeId} {d : D} (h : zeroD P t = some d) (x : Cx) : ∃ i z, P.info? t = some i ∧ i.zero = some z ∧ (VR x d).v z ∧ d.solid = true := by
  unfold zeroD at h
  simp only [Option.bind_eq_some_iff] at h
  obtain ⟨d', _, h2⟩ := h
  split at h2
  · rename_i z hz
    split at h2
    · rename_i hc
      cases h2
      simp only [Bool.and_eq_true] at hc
      simp only [Option.bind_eq_some_iff] at hz
      obtain ⟨i, h3, h4⟩ := hz
      exact ⟨i, z, h3, h4, (ck_ok x d).v z hc.1, hc.2⟩
    · cases h2
  · cases h2

theorem run_zero {P : Program} {t : TypeId} {i : TypeInfo} {z : Value} (h : P.info? t = some i) (hz : i.zero = some z) (w : World) : (zeroValue t).run P w = .ok z w := by simp [zeroValue, typeInfo, h, hz]

/-! ### Literals of structs and arrays -/

/-- Parts put into a tree, one by one. -/
def fillD (place : Nat → Option (Stp × Nat)) : D → List (Nat × D) → Option (List Prop × D)
  | d, [] => some ([], d)
  | d, (i, y) :: r => (place i).bind fun s => if y.solid && y.size == s.2 then (upd [s.1] d y).bind fun q => (fillD place q.2 r).map fun z => (q.1 ++ z.1, z.2) else none

theorem foldl_zipIdx_set (cs : Array Value) (off : Nat) : ∀ (l : List Value) (k : Nat) (c : Array Value), off + k + l.length ≤ c.size →
    ((l.zipIdx k).foldl (fun cs (p : Value × Nat) => cs.setIfInBounds (off + p.2) p.1) c).size = c.size ∧
    (∀ j, j < l.length → ((l.zipIdx k).foldl (fun cs (p : Value × Nat) => cs.setIfInBounds (off + p.2) p.1) c)[off + k + j]? = l[j]?) ∧
    ∀ j, (j < off + k ∨ off + k + l.length ≤ j) → ((l.zipIdx k).foldl (fun cs (p : Value × Nat) => cs.setIfInBounds (off + p.2) p.1) c)[j]? = c[j]?
  | [], k, c, _ => ⟨rfl, fun j hj => by simp at hj, fun _ _ => rfl⟩
  | v :: l, k, c, h => by
    simp only [List.length_cons] at h
    simp only [List.zipIdx_cons, List.foldl_cons]
    obtain ⟨h1, h2, h3⟩ := foldl_zipIdx_set cs off l (k + 1) (c.setIfInBounds (off + k) v) (by simp; omega)
    refine ⟨by simpa using h1, fun j hj => ?_, fun j hj => ?_⟩
    · cases j with
      | zero =>
        rw [h3 _ (by omega)]
        simp [show off + k < c.size by omega]
      | succ j =>
        have := h2 j (by simpa using hj)
        rw [show off + k + (j + 1) = off + (k + 1) + j by omega, this]; rfl
    · simp only [List.length_cons] at hj
      rw [h3 j (by omega), Array.getElem?_setIfInBounds_ne (by omega)]

def Pairs (x : Cx) : List (Nat × D) → List (Nat × Value) → Prop
  | [], [] => True
  | p :: r, q :: s => (p.1 = q.1 ∧ (VR x p.2).v q.2) ∧ Pairs x r s
  | _, _ => False

theorem fill_ok {x : Cx} {pl : Nat → Option (Nat × Nat)} {place : Nat → Option (Stp × Nat)} (hp : ∀ i s n, place i = some (s, n) → pl i = some (s.off, n)) : ∀ (parts : List (Nat × D)) (vals : List (Nat × Value)) {d d' : D} {ob : List Prop} {cells : Array Value},
    fillD place d parts = some (ob, d') → All ob → Pairs x parts vals → cells.size = d.size → (VR x d).m (fun i => cells[i]?) 0 →
    ∃ cells', Instr.fill pl cells vals = some cells' ∧ cells'.size = d'.size ∧ (VR x d').m (fun i => cells'[i]?) 0
  | [], [], d, d', ob, cells, h, _, _, hz, hm => by
    simp only [fillD, Option.some.injEq, Prod.mk.injEq] at h
    obtain ⟨_, rfl⟩ := h
    exact ⟨cells, rfl, hz, hm⟩
  | [], _ :: _, _, _, _, _, _, _, hf, _, _ => hf.elim
  | _ :: _, [], _, _, _, _, _, _, hf, _, _ => hf.elim
  | (i, y) :: r, (j, v) :: q, d, d', ob, cells, h, ha, ⟨⟨hij, hv⟩, hr⟩, hz, hm => by
      obtain rfl : i = j := hij
      simp only [fillD, Option.bind_eq_some_iff] at h
      obtain ⟨⟨s, n⟩, h2, h3⟩ := h
      split at h3
      · rename_i hc
        simp only [Bool.and_eq_true, beq_iff_eq] at hc
        simp only [Option.bind_eq_some_iff, Option.map_eq_some_iff, Prod.mk.injEq] at h3
        obtain ⟨u, h4, z, h5, rfl, rfl⟩ := h3
        obtain ⟨a1, a2⟩ := All_append.1 ha
        obtain ⟨u1, u2, u3⟩ := upd_m (x := x) [s] h4 a1
        simp only [pathOff, Nat.add_zero] at u2 u3
        have hvz : v.cells.size = y.size := VR_size hc.1 hv
        have hle : s.off + 0 + v.cells.toList.length ≤ cells.size := by simp; omega
        obtain ⟨f1, f2, f3⟩ := foldl_zipIdx_set cells s.off v.cells.toList 0 cells hle
        have hfold : v.cells.zipIdx.foldl (fun cs (p : Value × Nat) => cs.setIfInBounds (s.off + p.2) p.1) cells = (v.cells.toList.zipIdx 0).foldl (fun cs (p : Value × Nat) => cs.setIfInBounds (s.off + p.2) p.1) cells := by
          rw [← Array.foldl_toList, Array.toList_zipIdx]
        have hmm : (VR x u.2).m (fun i => ((v.cells.toList.zipIdx 0).foldl (fun cs (p : Value × Nat) => cs.setIfInBounds (s.off + p.2) p.1) cells)[i]?) 0 := by
          refine u3 hm (fun k hk ho => ?_) (VR_lay hc.1 hv fun k hk => ?_)
          · rw [Nat.zero_add]; exact f3 k (by simp; omega)
          · have := f2 k (by simpa using hk)
            simp only [Nat.add_zero] at this
            rw [Nat.zero_add, this]; simp
        obtain ⟨cells', g1, g2, g3⟩ := fill_ok hp r q h5 a2 hr (by rw [f1, hz, u1]) hmm
        refine ⟨cells', ?_, g2, g3⟩
        simp only [Instr.fill, hp i s n h2]
        have hc2 : y.size = n := hc.2
        have hle' : s.off + v.cells.size ≤ cells.size := by simpa using hle
        have hcond : (decide (v.cells.size ≠ n) || decide (s.off + v.cells.size > cells.size)) = false := by
          rw [decide_eq_false (show ¬ v.cells.size ≠ n by omega), decide_eq_false (show ¬ s.off + v.cells.size > cells.size by omega)]; rfl
        rw [hcond, if_neg (by simp), hfold]
        exact g1
      · cases h3

/-- Several operands. -/
def rdL (g : Bool) (env : Env) : List Operand → Option (List Prop × List D)
  | [] => some ([], [])
  | x :: r => (rd g env x).bind fun q => (rdL g env r).map fun z => (q.1 ++ z.1, q.2 :: z.2)

def rdP (g : Bool) (env : Env) : List (Nat × Operand) → Option (List Prop × List (Nat × D))
  | [] => some ([], [])
  | x :: r => (rd g env x.2).bind fun q => (rdP g env r).map fun z => (q.1 ++ z.1, (x.1, q.2) :: z.2)

theorem rdL_ok {x : Cx} {env : Env} {a : Act} {g : Bool} (he : ERel x env a.tmps) (hg : g = true) : ∀ (l : List Operand) {ob : List Prop} {ds : List D}, rdL g env l = some (ob, ds) → All ob →
    ds.length = l.length ∧ ∀ (i : Nat) (d : D), ds[i]? = some d → ∃ o, l[i]? = some o ∧ (VR x d).v (a.eval o)
  | [], ob, ds, h, _ => by
    simp only [rdL, Option.some.injEq, Prod.mk.injEq] at h
    obtain ⟨_, rfl⟩ := h
    exact ⟨rfl, fun i d e => by simp at e⟩
  | o :: l, ob, ds, h, ha => by
    simp only [rdL, Option.bind_eq_some_iff, Option.map_eq_some_iff, Prod.mk.injEq] at h
    obtain ⟨q, h1, z, h2, rfl, rfl⟩ := h
    obtain ⟨a1, a2⟩ := All_append.1 ha
    obtain ⟨k1, k2⟩ := rdL_ok he hg l h2 a2
    refine ⟨by simp [k1], fun i d e => ?_⟩
    cases i with
    | zero => simp only [List.getElem?_cons_zero, Option.some.injEq] at e; subst e; exact ⟨o, rfl, rd_ok he hg h1 a1⟩
    | succ i => simp only [List.getElem?_cons_succ] at e ⊢; exact k2 i d e

theorem rdP_ok {x : Cx} {env : Env} {a : Act} {g : Bool} (he : ERel x env a.tmps) (hg : g = true) : ∀ (l : List (Nat × Operand)) {ob : List Prop} {ds : List (Nat × D)}, rdP g env l = some (ob, ds) → All ob → Pairs x ds (l.map fun p => (p.1, a.eval p.2))
  | [], ob, ds, h, _ => by
    simp only [rdP, Option.some.injEq, Prod.mk.injEq] at h
    obtain ⟨_, rfl⟩ := h
    trivial
  | o :: l, ob, ds, h, ha => by
    simp only [rdP, Option.bind_eq_some_iff, Option.map_eq_some_iff, Prod.mk.injEq] at h
    obtain ⟨q, h1, z, h2, rfl, rfl⟩ := h
    obtain ⟨a1, a2⟩ := All_append.1 ha
    exact ⟨⟨rfl, rd_ok he hg h1 a1⟩, rdP_ok he hg l h2 a2⟩

def chain : List D → D
  | [] => .nil
  | d :: r => .cons d (chain r)

theorem chain_c {x : Cx} {vs : Array Value} : ∀ (ds : List D) (i : Nat), vs.size = i + ds.length → (∀ j d, ds[j]? = some d → (VR x d).v (vs.getD (i + j) undef)) → (VR x (chain ds)).c vs i
  | [], i, h, _ => by simpa [chain, VR, aggr] using h
  | d :: r, i, h, hv => by
    simp only [List.length_cons] at h
    refine ⟨⟨vs.getD i undef, ?_, by have := hv 0 d rfl; simpa using this⟩, chain_c r (i + 1) (by omega) fun j e hj => ?_⟩
    · simp [Array.getD_eq_getD_getElem?, show i < vs.size by omega]
    · have := hv (j + 1) e (by simpa using hj)
      rwa [show i + (j + 1) = i + 1 + j by omega] at this

/-- Where a literal's parts go. -/
def placeOf (P : Program) (T : TypeId) (i : Nat) : Option (Stp × Nat) :=
  match P.underlying T with
  | some (.struct fs) => match fs[i]? with
    | some f => (P.info? f.type).map fun q => (.fld i f.offset, q.size)
    | none => none
  | some (.array _ e) => (P.info? e).map fun q => (.idx i q.size, q.size)
  | _ => none

def sizesOk (P : Program) (T : TypeId) : Bool :=
  match P.underlying T with
  | some (.struct fs) => (fs.toList.mapM fun f => (P.info? f.type).map fun i => (f.offset, i.size)).isSome
  | some (.array _ e) => (P.info? e).isSome
  | _ => false

def buildv (P : Program) (T : TypeId) (parts : List (Nat × D)) : Option (List Prop × D) :=
  (zeroD P T).bind fun z => if z.isAg && sizesOk P T then (fillD (placeOf P T) z parts).bind fun q => if q.2.isAg then some q else none else none

theorem mapM_get {α β : Type} (f : α → Option β) : ∀ (l : List α) {r : List β}, l.mapM f = some r → ∀ (i : Nat) (a : α), l[i]? = some a → r[i]? = f a
  | [], r, h, i, a, e => by simp at e
  | b :: l, r, h, i, a, e => by
    simp only [List.mapM_cons, Option.bind_eq_bind, Option.bind_eq_some_iff, Option.pure_def, Option.some.injEq] at h
    obtain ⟨c, h1, s, h2, rfl⟩ := h
    cases i with
    | zero => simp only [List.getElem?_cons_zero, Option.some.injEq] at e ⊢; subst e; exact h1.symm
    | succ i => simp only [List.getElem?_cons_succ] at e ⊢; exact mapM_get f l h2 i a e

theorem buildv_ok {P : Program} {x : Cx} {T : TypeId} {parts : List (Nat × D)} {ob : List Prop} {d : D} (h : buildv P T parts = some (ob, d)) (ha : All ob) {vals : Array (Nat × Value)} (hp : Pairs x parts vals.toList) :
    ∃ v, (VR x d).v v ∧ ∀ w, (Instr.build T vals).run P w = .ok v w := by
  unfold buildv at h
  simp only [Option.bind_eq_some_iff] at h
  obtain ⟨z, hz, h⟩ := h
  split at h
  · rename_i hc
    simp only [Bool.and_eq_true] at hc
    simp only [Option.bind_eq_some_iff] at h
    obtain ⟨q, h2, h3⟩ := h
    split at h3
    · rename_i hag
      cases h3
      obtain ⟨it, zv, i1, i2, i3, _⟩ := zeroD_ok hz x
      obtain ⟨cs, rfl, hs, hm⟩ := agg_m hc.1 i3
      have fin : ∀ pl : Nat → Option (Nat × Nat), (∀ i s n, placeOf P T i = some (s, n) → pl i = some (s.off, n)) → (∀ cells', Instr.fill pl cs vals.toList = some cells' → P.built T vals.toList = some cells') → ∃ v, (VR x d).v v ∧ ∀ w, (Instr.build T vals).run P w = .ok v w := fun pl hpl hb => by
        obtain ⟨cells', g1, g2, g3⟩ := fill_ok (x := x) hpl parts vals.toList h2 ha hp hs hm
        exact ⟨.agg cells', VR_pick hag g3 g2 (fun i _ => by rw [Nat.zero_add]), fun w => run_build w T vals cells' (hb cells' g1)⟩
      have hsz := hc.2
      unfold sizesOk at hsz
      split at hsz
      · rename_i fs hu
        obtain ⟨places, hpl⟩ := Option.isSome_iff_exists.1 hsz
        refine fin (places.toArray[·]?) (fun i s n e => ?_) fun cells' e => by simp only [Program.built, i1, hu, i2, hpl]; exact e
        simp only [placeOf, hu] at e
        split at e
        · rename_i f hf
          simp only [Option.map_eq_some_iff, Prod.mk.injEq] at e
          obtain ⟨qi, e1, rfl, rfl⟩ := e
          have := mapM_get _ fs.toList hpl i f (by simpa using hf)
          simp only [e1, Option.map_some] at this
          simpa [Stp.off] using this
        · cases e
      · rename_i n e hu
        obtain ⟨ie, hie⟩ := Option.isSome_iff_exists.1 hsz
        refine fin (fun i => some (i * ie.size, ie.size)) (fun i s n e => ?_) fun cells' e => by simp only [Program.built, i1, hu, i2, hie]; exact e
        simp only [placeOf, hu, hie, Option.map_some, Option.some.injEq, Prod.mk.injEq] at e
        obtain ⟨rfl, rfl⟩ := e
        rfl
      · cases hsz
    · cases h3
  · cases h

/-! ### All operations that only read or make a value -/

def mxv : List D → Option D
  | [.int k a, .int _ b] => some (.int k (if b > a then b else a))
  | [.int k a, .int _ b, .int _ c] => some (.int k (if c > (if b > a then b else a) then c else (if b > a then b else a)))
  | _ => none

def mnv : List D → Option D
  | [.int k a, .int _ b] => some (.int k (if b < a then b else a))
  | [.int k a, .int _ b, .int _ c] => some (.int k (if c < (if b < a then b else a) then c else (if b < a then b else a)))
  | _ => none

def vval (P : Program) (g : Bool) (env : Env) (h : Heap) : Op → Option (List Prop × D)
  | .build T parts => (rdP g env parts.toList).bind fun q => (buildv P T q.2).map fun z => (q.1 ++ z.1, z.2)
  | .makeFunc (.func f) first caps => if first.size = 0 then (rdL g env caps.toList).map fun q => (q.1, .fn f (chain q.2)) else none
  | .call { callee := .builtin .len, args, argTypes } =>
    match args.toList, argTypes.toList with
    | [x], [T] => (rd g env x).bind fun q => (lenv P h T q.2).map fun z => (q.1 ++ z.1, z.2)
    | _, _ => none
  | .call { callee := .builtin .max, args, .. } => (rdL g env args.toList).bind fun q => (mxv q.2).map fun d => (q.1, d)
  | .call { callee := .builtin .min, args, .. } => (rdL g env args.toList).bind fun q => (mnv q.2).map fun d => (q.1, d)
  | op => oval P g env h op

section
variable {P : Program} {X : Nat → Prop} {ρ : Hnd} {h : Heap} {w : World} {env : Env} {a : Act} {g : Bool}

theorem lenv_ok (hh : HRel X ρ h w) {T ty : TypeId} {dx : D} {ob : List Prop} {d : D} (e : lenv P h T dx = some (ob, d)) {vx : Value} (hx : (VR (cx X ρ w) dx).v vx) :
    ∃ v, (VR (cx X ρ w) d).v v ∧ ∀ w', (Builtin.len_ #[T] ty #[vx]).run P w' = .ok v w' := by
  cases dx <;> simp only [lenv, reduceCtorEq] at e
  case str s =>
    split at e
    · rename_i hu
      cases e; obtain ⟨rfl, _⟩ := hx
      exact ⟨_, ⟨rfl, rfl⟩, fun w' => by simp [Builtin.len_, run_underlying hu, goInt]⟩
    · cases e
  case nils =>
    split at e
    · rename_i el hu
      cases e; obtain ⟨rfl, _⟩ := hx
      exact ⟨_, ⟨rfl, rfl⟩, fun w' => by simp [Builtin.len_, run_underlying hu, goInt]⟩
    · cases e
  case lit n sz gg =>
    split at e
    · rename_i el hu
      cases e; obtain ⟨hx, _⟩ := hx
      rcases hx with ⟨⟨a0, c0, rfl⟩, rfl⟩ | ⟨b, o, cap, rfl, _⟩
      · exact ⟨_, ⟨rfl, rfl⟩, fun w' => by simp [Builtin.len_, run_underlying hu, goInt]⟩
      · exact ⟨_, ⟨rfl, rfl⟩, fun w' => by simp [Builtin.len_, run_underlying hu, goInt]⟩
    · cases e
  case own r =>
    split at e
    · rename_i el el' n sz dr hu hr
      cases e
      obtain ⟨u, k1, k2, k3⟩ := hh.live r _ hr
      obtain ⟨⟨o, h1, h2⟩, _⟩ := hx
      have hvu := h2 u (Option.some.inj (h1.symm.trans k1))
      rcases k3 with ⟨rfl, rfl, _⟩ | ⟨b, cap, cur, rfl, _⟩
      · rcases hvu with rfl | ⟨_, a0, rfl⟩
        · exact ⟨_, ⟨rfl, rfl⟩, fun w' => by simp [Builtin.len_, run_underlying hu, goInt]⟩
        · exact ⟨_, ⟨rfl, rfl⟩, fun w' => by simp [Builtin.len_, run_underlying hu, goInt]⟩
      · obtain rfl : vx = _ := hvu.resolve_right (by simp)
        exact ⟨_, ⟨rfl, rfl⟩, fun w' => by simp [Builtin.len_, run_underlying hu, goInt]⟩
    · cases e
  case view r lo m sz' =>
    split at e
    · rename_i el el' n sz dr hu hr
      cases e
      obtain ⟨u, k1, k2, k3⟩ := hh.live r _ hr
      obtain ⟨⟨o, h1, h2⟩, _⟩ := hx
      rcases h2 u (Option.some.inj (h1.symm.trans k1)) with ⟨_, _, rfl, a0, rfl⟩ | ⟨b, n', cap, rfl, _, rfl⟩
      · exact ⟨_, ⟨rfl, rfl⟩, fun w' => by simp [Builtin.len_, run_underlying hu, goInt]⟩
      · exact ⟨_, ⟨rfl, rfl⟩, fun w' => by simp [Builtin.len_, run_underlying hu, goInt]⟩
    · cases e

theorem vals_of {x : Cx} {ds : List D} {l : List Operand} (hl : ds.length = l.length) (hv : ∀ (i : Nat) (d : D), ds[i]? = some d → ∃ o, l[i]? = some o ∧ (VR x d).v (a.eval o)) (i : Nat) (d : D) (e : ds[i]? = some d) : (VR x d).v ((l.map a.eval).toArray.getD i undef) := by
  obtain ⟨o, h1, h2⟩ := hv i d e
  have : i < l.length := hl ▸ getElem?_lt e
  have h3 : l[i] = o := by rw [List.getElem?_eq_getElem this] at h1; exact Option.some.inj h1
  simpa [Array.getD_eq_getD_getElem?, this, h3] using h2

/-- THE LAW, for all operations that only read or make a value. -/
theorem vval_ok (hh : HRel X ρ h w) (he : ERel (cx X ρ w) env a.tmps) (hg : g = true) {op : Op} {ob : List Prop} {d : D} (e : vval P g env h op = some (ob, d)) (ha : All ob) :
    ∃ v, (VR (cx X ρ w) d).v v ∧ ∀ (o : Oper), o.op = op → ∀ w', Same w w' → (execOp a.eval o).run P w' = .ok (.value v) w' := by
  unfold vval at e
  split at e
  · rename_i T parts
    simp only [Option.bind_eq_some_iff, Option.map_eq_some_iff, Prod.mk.injEq] at e
    obtain ⟨q, h1, z, h2, rfl, rfl⟩ := e
    obtain ⟨a1, a2⟩ := All_append.1 ha
    obtain ⟨v, r1, r2⟩ := buildv_ok (P := P) (x := cx X ρ w) (vals := parts.map fun (i, x) => (i, a.eval x)) h2 a2 (by simpa using rdP_ok he hg parts.toList h1 a1)
    exact ⟨v, r1, fun o ho w' _ => by simp only [execOp, ho, Sem.run_bind, r2, Result.andThen_ok, Sem.run_pure]⟩
  · rename_i f first caps
    split at e
    · rename_i hf
      simp only [Option.map_eq_some_iff, Prod.mk.injEq] at e
      obtain ⟨q, h1, rfl, rfl⟩ := e
      obtain ⟨k1, k2⟩ := rdL_ok he hg caps.toList h1 ha
      have hf0 : first = #[] := by simpa using hf
      subst hf0
      refine ⟨.func (.func f) #[] (caps.map a.eval), ⟨⟨_, rfl, chain_c q.2 0 (by simp [k1]) fun j d' hj => ?_⟩, rfl⟩, fun o ho w' _ => by simp [execOp, ho, Instr.makeFunc]⟩
      have := vals_of k1 k2 j d' hj
      rw [Nat.zero_add]
      simpa using this
    · cases e
  · rename_i args argTypes
    split at e
    · rename_i x T hx hT
      simp only [Option.bind_eq_some_iff, Option.map_eq_some_iff, Prod.mk.injEq] at e
      obtain ⟨q, h1, z, h2, rfl, rfl⟩ := e
      obtain ⟨a1, _⟩ := All_append.1 ha
      have hv := rd_ok he hg h1 a1
      obtain rfl : args = #[x] := by cases args; simp_all
      obtain rfl : argTypes = #[T] := by cases argTypes; simp_all
      refine ⟨_, (lenv_ok (P := P) (ty := 0) hh h2 hv).choose_spec.1, fun o ho w' _ => ?_⟩
      have := (lenv_ok (P := P) (ty := 0) hh h2 hv).choose_spec.2 w'
      have e1 : ∀ ty, (Builtin.len_ #[T] ty #[a.eval x]) = (Builtin.len_ #[T] 0 #[a.eval x]) := fun _ => rfl
      simp only [execOp, ho, resolve, invoke, builtin, Sem.run_bind, Sem.run_pure, Result.andThen_ok, List.map_toArray, List.map_cons, List.map_nil, e1, this]
    · cases e
  · rename_i args argTypes
    simp only [Option.bind_eq_some_iff, Option.map_eq_some_iff, Prod.mk.injEq] at e
    obtain ⟨q, h1, d', h2, rfl, rfl⟩ := e
    obtain ⟨k1, k2⟩ := rdL_ok he hg args.toList h1 ha
    have hvs := vals_of k1 k2
    have hsz : (args.map a.eval).toList = args.toList.map a.eval := by simp
    unfold mxv at h2
    split at h2
    · rename_i k x k' y hq
      cases h2
      rw [hq] at hvs k1
      have v0 := (hvs 0 _ rfl).1
      have v1 := (hvs 1 _ rfl).1
      have hm : args.map a.eval = #[.int k x, .int k' y] := by
        apply Array.ext'; rw [hsz]
        match hl : args.toList, k1 with
        | [o1, o2], _ => rw [hl] at v0 v1; simp at v0 v1; simp [v0, v1]
      exact ⟨_, ⟨rfl, rfl⟩, fun o ho w' _ => by simp only [execOp, ho, resolve, invoke, builtin, Sem.run_bind, Sem.run_pure, Result.andThen_ok, hm, run_max_int2]⟩
    · rename_i k x k' y k'' z hq
      cases h2
      rw [hq] at hvs k1
      have v0 := (hvs 0 _ rfl).1
      have v1 := (hvs 1 _ rfl).1
      have v2 := (hvs 2 _ rfl).1
      have hm : args.map a.eval = #[.int k x, .int k' y, .int k'' z] := by
        apply Array.ext'; rw [hsz]
        match hl : args.toList, k1 with
        | [o1, o2, o3], _ => rw [hl] at v0 v1 v2; simp at v0 v1 v2; simp [v0, v1, v2]
      exact ⟨_, ⟨rfl, rfl⟩, fun o ho w' _ => by simp only [execOp, ho, resolve, invoke, builtin, Sem.run_bind, Sem.run_pure, Result.andThen_ok, hm, run_max_int3]⟩
    · cases h2
  · rename_i args argTypes
    simp only [Option.bind_eq_some_iff, Option.map_eq_some_iff, Prod.mk.injEq] at e
    obtain ⟨q, h1, d', h2, rfl, rfl⟩ := e
    obtain ⟨k1, k2⟩ := rdL_ok he hg args.toList h1 ha
    have hvs := vals_of k1 k2
    have hsz : (args.map a.eval).toList = args.toList.map a.eval := by simp
    unfold mnv at h2
    split at h2
    · rename_i k x k' y hq
      cases h2
      rw [hq] at hvs k1
      have v0 := (hvs 0 _ rfl).1
      have v1 := (hvs 1 _ rfl).1
      have hm : args.map a.eval = #[.int k x, .int k' y] := by
        apply Array.ext'; rw [hsz]
        match hl : args.toList, k1 with
        | [o1, o2], _ => rw [hl] at v0 v1; simp at v0 v1; simp [v0, v1]
      exact ⟨_, ⟨rfl, rfl⟩, fun o ho w' _ => by simp only [execOp, ho, resolve, invoke, builtin, Sem.run_bind, Sem.run_pure, Result.andThen_ok, hm, run_min_int2]⟩
    · rename_i k x k' y k'' z hq
      cases h2
      rw [hq] at hvs k1
      have v0 := (hvs 0 _ rfl).1
      have v1 := (hvs 1 _ rfl).1
      have v2 := (hvs 2 _ rfl).1
      have hm : args.map a.eval = #[.int k x, .int k' y, .int k'' z] := by
        apply Array.ext'; rw [hsz]
        match hl : args.toList, k1 with
        | [o1, o2, o3], _ => rw [hl] at v0 v1 v2; simp at v0 v1 v2; simp [v0, v1, v2]
      exact ⟨_, ⟨rfl, rfl⟩, fun o ho w' _ => by simp only [execOp, ho, resolve, invoke, builtin, Sem.run_bind, Sem.run_pure, Result.andThen_ok, hm, run_min_int3]⟩
    · cases h2
  · exact oval_ok hh he hg e ha
end

section
variable {P : Program}
theorem run_stringToBytes (w : World) (e : TypeId) (b : ByteArray) : ∃ fz : Nat × Nat, grownCap w b.size 0 e ≤ fz.1 ∧
    (Conv.stringToBytes e b).run P w = .ok (.slice (some ⟨w.heap.size, 0, none⟩) b.size (grownCap w b.size 0 e)) (w.drew.alloc (.cells (b.data.map (fun x => Value.int .u8 x.toNat) ++ Array.replicate (grownCap w b.size 0 e - b.size) (.int .u8 0)) e fz)) := by
  have hsz : b.data.size = b.size := rfl
  have hge := grownCap_ge w b.size 0 e
  unfold Conv.stringToBytes
  simp only [Sem.run_bind, run_choose_drew, Question.forced, Bool.false_eq_true, if_false, Result.andThen_ok]
  rw [show (Question.appendCap b.size 0 e).cut (w.tape w.drawn (.appendCap b.size 0 e)) = grownCap w b.size 0 e from rfl]
  have key : ∀ (w : World) (cs : Array Value), (w.alloc (.cells cs e)).freeze ⟨w.heap.size, cs.size, none⟩ 1 = w.alloc (.cells cs e (cs.size, cs.size + 1)) := fun w cs => by
    simp only [World.freeze, World.alloc, Nat.one_ne_zero, if_false]
    congr 1
    apply Array.ext
    · simp
    · intro i h1 h2
      rw [Array.getElem_modify]
      by_cases hi : i = w.heap.size
      · subst hi; simp
      · have : i < w.heap.size := by simp at h2; omega
        simp [Array.getElem_push_lt this, Ne.symm hi]
  refine ⟨(grownCap w b.size 0 e, grownCap w b.size 0 e + 1), Nat.le_refl _, ?_⟩
  have hcs : (b.data.map (fun x => Value.int .u8 x.toNat) ++ Array.replicate (grownCap w b.size 0 e - b.size) (Value.int .u8 0)).size = grownCap w b.size 0 e := by simp; omega
  have := key w.drew (b.data.map (fun x => Value.int .u8 x.toNat) ++ Array.replicate (grownCap w b.size 0 e - b.size) (Value.int .u8 0))
  rw [hcs] at this
  generalize hcc : (b.data.map (fun x => Value.int .u8 x.toNat) ++ Array.replicate (grownCap w b.size 0 e - b.size) (Value.int .u8 0)) = cs at *
  have hsh : (w.drew.alloc (.cells cs e)).shape? w.heap.size = some (e, grownCap w b.size 0 e) := by
    have := (MapKept.heap_alloc w.drew (.cells cs e)).1
    simp only [World.shape?]
    rw [show w.heap.size = w.drew.heap.size from rfl, this]
    simp [hcs]
  simp [newRow, markStringish, hsh]
  exact this

/-- Bytes as bytes: one cell behind the block is marked. -/
theorem run_convS {w : World} {b n cap : Nat} {cs : Array Value} {el e t : TypeId} (hc : Cel w b cs el) (ht : P.underlying t = some (.slice e)) (he : P.underlying e = some (.int .u8)) :
    (convert t t (.slice (some ⟨b, 0, none⟩) n cap)).run P w = .ok (.slice (some ⟨b, 0, none⟩) n cap) (w.freeze ⟨b, cs.size, none⟩ 1) := by
  obtain ⟨fz, h1, _⟩ := hc
  have hsh : w.shape? b = some (el, cs.size) := by simp [World.shape?, h1]
  simp [convert, run_underlying ht, run_underlying he, markStringish, hsh]

theorem cel_freeze {w : World} {b : Nat} {cs : Array Value} {el : TypeId} (hc : Cel w b cs el) : Cel (w.freeze ⟨b, cs.size, none⟩ 1) b cs el := by
  obtain ⟨fz, h1, h2⟩ := hc
  obtain ⟨lo, hi⟩ := fz
  have hb := (Array.getElem?_eq_some_iff.1 h1).1
  have h3 : (w.freeze ⟨b, cs.size, none⟩ 1).heap[b]? = some (.cells cs el (if lo == hi then (cs.size, cs.size + 1) else (min lo cs.size, max hi (cs.size + 1)))) := by
    simp only [World.freeze, Nat.one_ne_zero, if_false]
    rw [Array.getElem?_modify, if_pos rfl, h1]
    rfl
  refine ⟨_, h3, ?_⟩
  by_cases e : lo = hi
  · subst e; simp
  · have : cs.size ≤ lo := h2.resolve_left e
    have e' : (lo == hi) = false := by simpa using e
    right
    rw [e']
    show cs.size ≤ min lo cs.size
    omega

theorem freeze_other (w : World) (a : Addr) (n : Nat) {k : Nat} (h : k ≠ a.block) : (w.freeze a n).heap[k]? = w.heap[k]? := by
  unfold World.freeze
  split
  · rfl
  · show (w.heap.modify a.block _)[k]? = _
    rw [Array.getElem?_modify, if_neg (Ne.symm h)]

theorem freeze_world (w : World) (a : Addr) (n : Nat) : (w.freeze a n).os = w.os ∧ (w.freeze a n).tape = w.tape ∧ (w.freeze a n).output = w.output ∧ (w.freeze a n).drawn = w.drawn ∧ (w.freeze a n).heap.size = w.heap.size := by
  unfold World.freeze
  split
  · exact ⟨rfl, rfl, rfl, rfl, rfl⟩
  · exact ⟨rfl, rfl, rfl, rfl, by simp⟩
end

end Go.Pod
