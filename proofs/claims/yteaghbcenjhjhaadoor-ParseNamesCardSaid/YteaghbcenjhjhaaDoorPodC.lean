/- What an operation that only reads leaves in its slot. -/
import Derived.Test.YteaghbcenjhjhaaDoorPodB
import Derived.Laws.BytesString
import Derived.Laws.Cells
namespace Go.Pod
open Go

/-! ### Whole numbers -/
def iand (k : IntKind) (a b : Int) : Int := k.wrap (BitVec.ofInt k.bits a &&& BitVec.ofInt k.bits b).toNat
def ior (k : IntKind) (a b : Int) : Int := k.wrap (BitVec.ofInt k.bits a ||| BitVec.ofInt k.bits b).toNat
def ixor (k : IntKind) (a b : Int) : Int := k.wrap (BitVec.ofInt k.bits a ^^^ BitVec.ofInt k.bits b).toNat
def iandn (k : IntKind) (a b : Int) : Int := k.wrap (BitVec.ofInt k.bits a &&& ~~~BitVec.ofInt k.bits b).toNat
def ishl (k : IntKind) (a b : Int) : Int := k.wrap (a * 2 ^ min b.toNat k.bits)
def ishr (k : IntKind) (a b : Int) : Int := a.fdiv (2 ^ min b.toNat k.bits)

def intv (op : BinOp) (k : IntKind) (a b : Int) : Option (List Prop × D) :=
  match op with
  | .add => some ([], .int k (k.wrap (a + b)))
  | .sub => some ([], .int k (k.wrap (a - b)))
  | .mul => some ([], .int k (k.wrap (a * b)))
  | .quo => some ([b ≠ 0], .int k (k.wrap (a.tdiv b)))
  | .rem => some ([b ≠ 0], .int k (a.tmod b))
  | .and => some ([], .int k (iand k a b))
  | .or => some ([], .int k (ior k a b))
  | .xor => some ([], .int k (ixor k a b))
  | .andNot => some ([], .int k (iandn k a b))
  | .eql => some ([], .bool (a == b))
  | .neq => some ([], .bool (a != b))
  | .lss => some ([], .bool (decide (a < b)))
  | .leq => some ([], .bool (decide (a ≤ b)))
  | .gtr => some ([], .bool (decide (a > b)))
  | .geq => some ([], .bool (decide (a ≥ b)))
  | .shl => some ([0 ≤ b], .int k (ishl k a b))
  | .shr => some ([0 ≤ b], .int k (ishr k a b))

def strv (op : BinOp) (a b : ByteArray) : Option (List Prop × D) :=
  match op with
  | .add => some ([((a.size + b.size : Nat) : Int) ≤ 9223372036854775807], .str (a ++ b))
  | .eql => some ([], .bool (a.toList == b.toList))
  | .neq => some ([], .bool !(a.toList == b.toList))
  | .lss => some ([], .bool (Op.bytesLess a.toList b.toList))
  | _ => none

/-! ### Types -/

/-- Is a type a struct's or an array's; how many cells has it? -/
def shp (P : Program) (T : TypeId) : Option (Bool × Nat) :=
  match P.underlying T, P.info? T with
  | some (.struct _), some i => some (true, i.size)
  | some (.array _ _), some i => some (true, i.size)
  | some _, some i => some (false, i.size)
  | _, _ => none

/-- Does a tree have a type's form? -/
def fit (P : Program) (T : TypeId) (d : D) : Bool :=
  match shp P T with
  | some (true, n) => d.isAg && n == d.size
  | some (false, n) => !d.isAg && n == 1
  | none => false

theorem fit_spec {P : Program} {T : TypeId} {d : D} (h : fit P T d = true) : (∃ i u, P.info? T = some i ∧ P.underlying T = some u ∧ i.size = d.size ∧
    (∀ w, (isAgg T).run P w = .ok d.isAg w)) ∨ d.isAg = false ∧ ∃ i u, P.info? T = some i ∧ P.underlying T = some u ∧ i.size = 1 ∧ (∀ w, (isAgg T).run P w = .ok false w) := by
  unfold fit shp at h
  split at h
  · rename_i n hs
    simp only [Bool.and_eq_true, beq_iff_eq] at h
    refine .inl ?_
    split at hs
    · rename_i fs i h1 h2
      cases hs
      exact ⟨i, _, h2, h1, h.2, fun w => by simp [isAgg, run_underlying h1, h.1]⟩
    · rename_i m e i h1 h2
      cases hs
      exact ⟨i, _, h2, h1, h.2, fun w => by simp [isAgg, run_underlying h1, h.1]⟩
    · cases hs
    · cases hs
  · rename_i n hs
    simp only [Bool.and_eq_true, beq_iff_eq, Bool.not_eq_true'] at h
    refine .inr ⟨h.1, ?_⟩
    split at hs
    · cases hs
    · cases hs
    · rename_i u i h1 h2 h3 h4
      cases hs
      refine ⟨i, u, h4, h3, h.2, fun w => ?_⟩
      cases u <;> first
        | (simp [isAgg, run_underlying h3]; done)
        | exact (h1 _ rfl).elim
        | exact (h2 _ _ rfl).elim
    · cases hs
  · cases h

theorem run_sizeOf' {P : Program} {T : TypeId} {i : TypeInfo} (h : P.info? T = some i) (w : World) : (sizeOf T).run P w = .ok i.size w := by
  simp [sizeOf, typeInfo, h]

theorem getElem?_extract' {cs : Array Value} {o n : Nat} (h : o + n ≤ cs.size) (i : Nat) (hi : i < n) : (cs.extract o (o + n))[i]? = cs[o + i]? := by
  rw [Array.getElem?_extract]
  have : i < min (o + n) cs.size - o := by omega
  simp [this]

/-- A part of a struct's or an array's cells. -/
theorem run_part' {P : Program} {x : Cx} {T : TypeId} {d : D} {cs : Array Value} {o : Nat} (hf : fit P T d = true) (h : (VR x d).m (fun i => cs[i]?) o) (hle : o + d.size ≤ cs.size) :
    ∃ v, (∀ w, (part T cs o).run P w = .ok v w) ∧ (VR x d).v v := by
  have leafc : d.isAg = false → (∀ w, (isAgg T).run P w = .ok false w) → ∃ v, (∀ w, (part T cs o).run P w = .ok v w) ∧ (VR x d).v v := fun ha hr => by
    obtain ⟨_, u, h1, h2⟩ := VR_leafcell ha h
    exact ⟨u, fun w => by simp [part, hr, h1], h2⟩
  rcases fit_spec hf with ⟨i, u, h1, h2, h3, h4⟩ | ⟨ha, i, u, h1, h2, h3, h4⟩
  · cases ha : d.isAg with
    | false => exact leafc ha (fun w => by rw [h4 w, ha])
    | true =>
      refine ⟨.agg (cs.extract o (o + d.size)), fun w => by simp [part, h4, ha, run_sizeOf' h1, h3], VR_pick ha h (by simp; omega) fun j hj => getElem?_extract' hle j hj⟩
  · exact leafc ha h4

/-- What a variable holds. 'w'' is 'w' or some later world in which the block stands as it stood. -/
theorem run_loadVar' {P : Program} {x : Cx} {T : TypeId} {d : D} {w : World} {b o : Nat} (hf : fit P T d = true) (h : (VR x d).m (memL w b) o) :
    ∃ v, (∀ w', w'.heap[b]? = w.heap[b]? → (loadVar T ⟨b, o, none⟩).run P w' = .ok v w') ∧ (VR x d).v v := by
  have leafc : d.isAg = false → (∀ w, (isAgg T).run P w = .ok false w) → ∃ v, (∀ w', w'.heap[b]? = w.heap[b]? → (loadVar T ⟨b, o, none⟩).run P w' = .ok v w') ∧ (VR x d).v v := fun ha hr => by
    obtain ⟨_, u, h1, h2⟩ := VR_leafcell ha h
    refine ⟨u, fun w' hb => ?_, h2⟩
    have : w'.cell? ⟨b, o, none⟩ = some u := by have := memL_of_block hb; exact (congrFun this o).trans h1
    simp [loadVar, hr, this]
  rcases fit_spec hf with ⟨i, u, h1, h2, h3, h4⟩ | ⟨ha, i, u, h1, h2, h3, h4⟩
  · cases ha : d.isAg with
    | false => exact leafc ha (fun w => by rw [h4 w, ha])
    | true =>
      refine ⟨.agg ((List.range d.size).map fun j => (memL w b (o + j)).getD undef).toArray, fun w' hb => ?_, VR_pick ha h (by simp) fun j hj => ?_⟩
      · have hl := run_loadCells (P := P) w' ⟨b, o, none⟩ d.size (fun j => (memL w b (o + j)).getD undef) (fun j hj => by
          obtain ⟨u, h5, _⟩ := VR_one d h j hj
          rw [Addr.add_lit, h5]
          have := memL_of_block hb
          exact (congrFun this (o + j)).trans h5)
        simp [loadVar, h4, ha, run_sizeOf' h1, h3, hl]
      · obtain ⟨u, h5, _⟩ := VR_one d h j hj
        simp [hj, h5]
  · exact leafc ha h4

/-- Do two trees of one type hold the same? (what holds numbers, bools, strings alone) -/
def eqD (P : Program) : Nat → TypeId → D → D → Option Bool
  | 0, _, _, _ => none
  | n + 1, t, x, y =>
    match P.underlying t with
    | some .bool => match x, y with
      | .bool a, .bool b => some (a == b)
      | _, _ => none
    | some (.int _) => match x, y with
      | .int k a, .int k' b => if k = k' then some (a == b) else none
      | _, _ => none
    | some .string => match x, y with
      | .str a, .str b => some (a.toList == b.toList)
      | _, _ => none
    | some (.array len e) => match x, y, P.underlying e, P.info? e with
      | .ints k l g, .ints k' l' g', some (.int _), some i => if k = k' ∧ l = len ∧ l' = len ∧ i.size = 1 ∧ n ≠ 0 then some ((List.range len).all fun i => g i == g' i) else none
      | _, _, _, _ => none
    | some (.struct fs) => if P.stoodInHeld t = true ∨ x.isAg = false ∨ y.isAg = false then none else eqF n fs.toList 0 x y
    | _ => none
where
  eqF : Nat → List Field → Nat → D → D → Option Bool
    | 0, _, _, _, _ => none
    | _ + 1, [], _, .nil, .nil => some true
    | n + 1, f :: fs, o, .cons a c, .cons b e =>
      if f.name ≠ "_" ∧ f.offset = o ∧ a.size = b.size ∧ fit P f.type a = true ∧ fit P f.type b = true then (eqD P n f.type a b).bind fun p => (eqF n fs (o + a.size) c e).map fun q => p && q else none
    | _, _, _, _, _ => none

theorem all_range' (p : Nat → Bool) (n : Nat) : ∀ (m : Nat), (List.range' m n).all p = (List.range n).all fun i => p (m + i) := by
  induction n with
  | zero => intro m; rfl
  | succ n ih =>
    intro m
    rw [List.range'_succ, List.all_cons, ih, List.range_succ_eq_map, List.all_cons, List.all_map]
    congr 2
    funext i
    simp only [Function.comp]
    congr 1
    omega

theorem run_eq_ints {P : Program} {t e : TypeId} {len : Nat} {k : IntKind} {ki : IntKind} {i : TypeInfo} (m : Nat) (hu : P.underlying t = some (.array len e)) (he : P.underlying e = some (.int ki)) (hi : P.info? e = some i) (hs : i.size = 1)
    {xs ys : Array Value} {g g' : Nat → Int} (hx : ∀ j, j < len → xs[j]? = some (.int k (g j))) (hy : ∀ j, j < len → ys[j]? = some (.int k (g' j))) (w : World) :
    (Op.equalIn (m + 2) t (.agg xs) (.agg ys)).run P w = .ok ((List.range len).all fun i => g i == g' i) w := by
  have hagg : ∀ w, (isAgg e).run P w = .ok false w := fun w => by simp [isAgg, run_underlying he]
  have hpart : ∀ (cs : Array Value) (f : Nat → Int), (∀ j, j < len → cs[j]? = some (.int k (f j))) → ∀ j, j < len → ∀ w, (part e cs (j * 1)).run P w = .ok (.int k (f j)) w := fun cs f hc j hj w => by
    simp [part, hagg, hc j hj]
  have key : ∀ (n o : Nat), o + n ≤ len → ∀ w, (forIn (List.range' o n) ((none, ()) : Option Bool × Unit) fun i (_ : Option Bool × Unit) => (do
        let a ← part e xs (i * 1)
        let b ← part e ys (i * 1)
        let r ← Op.equalIn (m + 1) e a b
        if (!r) = true then pure (ForInStep.done (some false, ())) else pure (ForInStep.yield (none, ())) : Sem (ForInStep (Option Bool × Unit)))).run P w =
      .ok (if (List.range' o n).all (fun i => g i == g' i) then (none, ()) else (some false, ())) w := by
    intro n
    induction n with
    | zero => intro o _ w; simp
    | succ n ih =>
      intro o ho w
      rw [List.range'_succ, List.forIn_cons]
      simp only [Sem.run_bind, hpart xs g hx o (by omega), hpart ys g' hy o (by omega), Result.andThen_ok, run_equalIn_int (P := P) w m e k ki _ _ he, List.all_cons]
      by_cases hgo : (g o == g' o) = true
      · simp only [hgo, Bool.not_true, Bool.false_eq_true, if_false, Sem.run_pure, Result.andThen_ok, ih (o + 1) (by omega) w, Bool.true_and]
      · have hgo' : (g o == g' o) = false := by simpa using hgo
        simp only [hgo', Bool.not_false, if_true, Sem.run_pure, Result.andThen_ok, Bool.false_and, Bool.false_eq_true, if_false]
  have := key len 0 (by omega) w
  rw [show m + 2 = (m + 1) + 1 from rfl, Op.equalIn]
  simp only [Sem.run_bind, run_underlying hu, Result.andThen_ok, run_sizeOf' hi, hs, Std.Legacy.Range.forIn_eq_forIn_range', Std.Legacy.Range.size, Nat.sub_zero, Nat.add_one_sub_one, Nat.div_one]
  rw [this]
  have e := all_range' (fun i => g i == g' i) len 0
  simp only [Nat.zero_add] at e
  rw [← e]
  cases (List.range' 0 len).all fun i => g i == g' i <;> rfl

theorem fieldsOf_eq {P : Program} {t : TypeId} {fs : Array Field} (h : P.underlying t = some (.struct fs)) : P.fieldsOf t = fs := by simp [Program.fieldsOf, h]

theorem agg_m {x : Cx} {d : D} (ha : d.isAg = true) {v : Value} (h : (VR x d).v v) : ∃ cs : Array Value, v = .agg cs ∧ cs.size = d.size ∧ (VR x d).m (fun i => cs[i]?) 0 := by
  cases d <;> simp only [D.isAg, Bool.false_eq_true] at ha
  all_goals exact h

mutual
theorem eqD_ok {P : Program} {x : Cx} : ∀ (n : Nat) {t : TypeId} {dx dy : D} {b : Bool}, eqD P n t dx dy = some b → ∀ {vx vy : Value}, (VR x dx).v vx → (VR x dy).v vy → ∀ (m : Nat), n ≤ m → ∀ w, (Op.equalIn m t vx vy).run P w = .ok b w
  | 0, t, dx, dy, b, h, vx, vy, hx, hy, m, hm, w => by simp [eqD] at h
  | n + 1, t, dx, dy, b, h, vx, vy, hx, hy, m, hm, w => by
    obtain ⟨m, rfl⟩ : ∃ k, m = k + 1 := ⟨m - 1, by omega⟩
    simp only [eqD] at h
    split at h
    · rename_i hu
      split at h
      · cases h; obtain ⟨rfl, _⟩ := hx; obtain ⟨rfl, _⟩ := hy; exact run_equalIn_bool' (P := P) w m t _ _ hu
      · cases h
    · rename_i hu
      split at h
      · split at h
        · rename_i hk; subst hk; cases h; obtain ⟨rfl, _⟩ := hx; obtain ⟨rfl, _⟩ := hy; exact run_equalIn_int (P := P) w m t _ _ _ _ hu
        · cases h
      · cases h
    · rename_i hu
      split at h
      · cases h; obtain ⟨rfl, _⟩ := hx; obtain ⟨rfl, _⟩ := hy; exact run_equalIn_string (P := P) w m t _ _ hu
      · cases h
    · rename_i len e hu
      split at h
      · rename_i k l g k' l' g' ki i he hi
        split at h
        · rename_i hc
          obtain ⟨rfl, rfl, rfl, hs, hn⟩ := hc
          cases h
          obtain ⟨cs, rfl, _, h1⟩ := hx
          obtain ⟨cs', rfl, _, h2⟩ := hy
          obtain ⟨m, rfl⟩ : ∃ k, m = k + 1 := ⟨m - 1, by omega⟩
          exact run_eq_ints (P := P) m hu he hi hs (fun j hj => by simpa using h1 j hj) (fun j hj => by simpa using h2 j hj) w
        · cases h
      · cases h
    · rename_i fs hu
      split at h
      · cases h
      · rename_i hc
        simp only [not_or, Bool.not_eq_true, Bool.not_eq_false] at hc
        obtain ⟨hst, ha, hb⟩ := hc
        obtain ⟨cs, rfl, z1, h1⟩ := agg_m ha hx
        obtain ⟨cs', rfl, z2, h2⟩ := agg_m hb hy
        rw [run_equalIn_struct (P := P) w m t cs cs' (by rw [fieldsOf_eq hu]; exact hu) hst, fieldsOf_eq hu]
        exact eqF_ok n h h1 h2 (by omega) (by omega) m (by omega) w
    · cases h
theorem eqF_ok {P : Program} {x : Cx} : ∀ (n : Nat) {fs : List Field} {o : Nat} {dx dy : D} {b : Bool}, eqD.eqF P n fs o dx dy = some b → ∀ {xs ys : Array Value}, (VR x dx).m (fun i => xs[i]?) o → (VR x dy).m (fun i => ys[i]?) o →
    o + dx.size ≤ xs.size → o + dy.size ≤ ys.size → ∀ (m : Nat), n ≤ m → ∀ w, (Op.eqFields m xs ys fs).run P w = .ok b w
  | 0, fs, o, dx, dy, b, h, xs, ys, hx, hy, zx, zy, m, hm, w => by simp [eqD.eqF] at h
  | n + 1, [], o, dx, dy, b, h, xs, ys, hx, hy, zx, zy, m, hm, w => by
    cases dx <;> cases dy <;> simp only [eqD.eqF, reduceCtorEq, Option.some.injEq] at h
    subst h; rfl
  | n + 1, f :: fs, o, dx, dy, b, h, xs, ys, hx, hy, zx, zy, m, hm, w => by
    cases dx <;> cases dy <;> simp only [eqD.eqF, reduceCtorEq] at h
    case cons.cons a c d e =>
      split at h
      · rename_i hc
        obtain ⟨h1, rfl, h2, h3, h4⟩ := hc
        simp only [Option.bind_eq_some_iff, Option.map_eq_some_iff] at h
        obtain ⟨p, k1, q, k2, rfl⟩ := h
        simp only [D.size] at zx zy
        obtain ⟨u, r1, v1⟩ := run_part' (P := P) h3 hx.1 (by omega)
        obtain ⟨u', r2, v2⟩ := run_part' (P := P) h4 hy.1 (by omega)
        have e1 := eqD_ok n k1 v1 v2 m (by omega) w
        have e2 := eqF_ok n k2 hx.2 (h2 ▸ hy.2) (by omega) (by omega) m (by omega) w
        simp only [Op.eqFields, h1, ne_eq, not_false_eq_true, if_true, Sem.run_bind, r1, r2, Result.andThen_ok, e1, Sem.run_ite, Sem.run_pure]
        cases p
        · rfl
        · simp only [Bool.not_true, Bool.false_eq_true, if_false, Bool.true_and]; exact e2
      · cases h
end

/-! ### What an operation that only reads comes to -/

/-- An operand, in an operation that is carried out only where 'g' says yes. -/
def rd (g : Bool) (env : Env) (x : Operand) : Option (List Prop × D) :=
  match opd env x with
  | some (.gd b d) => some ([g = true → b = true], d)
  | some d => some ([], d)
  | none => none

def binv (P : Program) (op : BinOp) (t : TypeId) : D → D → Option (List Prop × D)
  | .int k a, .int k' b =>
    match op with
    | .shl => intv .shl k a b
    | .shr => intv .shr k a b
    | op => if k = k' then intv op k a b else none
  | .str a, .str b => strv op a b
  | .bool a, .bool b =>
    match op, P.underlying t with
    | .eql, some .bool => some ([], .bool (a == b))
    | .neq, some .bool => some ([], .bool !(a == b))
    | _, _ => none
  | .nilp, .nilp =>
    match op, P.underlying t with
    | .eql, some (.pointer _) => some ([], .bool true)
    | .neq, some (.pointer _) => some ([], .bool false)
    | _, _ => none
  | .lptr _, .nilp =>
    match op, P.underlying t with
    | .eql, some (.pointer _) => some ([], .bool false)
    | .neq, some (.pointer _) => some ([], .bool true)
    | _, _ => none
  | x, y =>
    if x.isAg && y.isAg && !P.eqGuardType P.depth t then
      match op with
      | .eql => (eqD P 60 t x y).map fun b => ([], .bool b)
      | .neq => (eqD P 60 t x y).map fun b => ([], .bool !b)
      | _ => none
    else none

def unv (op : UnOp) : D → Option (List Prop × D)
  | .int k n =>
    match op with
    | .neg => some ([], .int k (k.wrap (0 - n)))
    | .xor => some ([], .int k (ixor k (if k.signed then -1 else k.max) n))
    | _ => none
  | .bool b =>
    match op with
    | .not => some ([], .bool !b)
    | _ => none
  | _ => none

def convv (P : Program) (s t : TypeId) : D → Option (List Prop × D)
  | .int _ n =>
    match P.underlying s, P.underlying t with
    | some _, some (.int k) => some ([], .int k (k.wrap n))
    | _, _ => none
  | .str s' =>
    match P.underlying s, P.underlying t with
    | some .string, some .string => some ([], .str s')
    | _, _ => none
  | _ => none

def partN : Nat → D → Option D
  | 0, .cons a _ => some a
  | j + 1, .cons _ b => partN j b
  | _, _ => none

/-- An element's number: what has to hold of it, and it as a natural number. -/
def idxOf : D → Option Int
  | .int _ i => some i
  | _ => none

def rowOf (h : Heap) (r : Nat) : Option D :=
  match h[r]? with
  | some (some (.box d)) => some d
  | some (some (.seq _ _ _ d)) => some d
  | _ => none

/-- The address of a field, of an element. -/
def fieldv (P : Program) (h : Heap) (T : TypeId) (j : Nat) (x : D) : Option (List Prop × D) :=
  match P.underlying T with
  | some (.struct fs) =>
    match fs[j]? with
    | some f =>
      if (P.info? f.type).any (fun i => i.size != 0) then
        match x with
        | .ptr r p => (rowOf h r).map fun _ => ([], .ptr r (p ++ [.fld j f.offset]))
        | .lptr d => (fieldD j d f.offset).map fun e => ([], .lptr e)
        | _ => none
      else none
    | none => none
  | _ => none

def indexv (P : Program) (h : Heap) (T : TypeId) (x : D) (i : Int) : Option (List Prop × D) :=
  match P.underlying T with
  | some (.array n e) =>
    match P.info? e, x with
    | some q, .ptr r p => (rowOf h r).map fun _ => ([0 ≤ i ∧ i < n], .ptr r (p ++ [.idx i.toNat q.size]))
    | some q, .lptr d => (nav [.idx i.toNat q.size] d).map fun z => ([0 ≤ i ∧ i < n] ++ z.1, .lptr z.2)
    | _, _ => none
  | some (.slice e) =>
    match P.info? e, x with
    | some q, .lit n sz g => if q.size = sz then some ([0 ≤ i ∧ i < n], .lptr (g i.toNat)) else none
    | some q, .own r =>
      match h[r]? with
      | some (some (.seq _ n sz _)) => if q.size = sz then some ([0 ≤ i ∧ i < n], .ptr r [.idx i.toNat q.size]) else none
      | _ => none
    | some q, .view r lo m sz' =>
      match h[r]? with
      | some (some (.seq _ _ _ _)) => if q.size = sz' then some ([0 ≤ i ∧ i < m], .ptr r [.idx (lo + i.toNat) q.size]) else none
      | _ => none
    | _, _ => none
  | _ => none

/-- A field of a struct, an element of an array, a byte of a string. -/
def fieldval (P : Program) (T : TypeId) (j : Nat) (x : D) : Option (List Prop × D) :=
  match P.underlying T with
  | some (.struct fs) =>
    match fs[j]? with
    | some f => (fieldD j x f.offset).bind fun d => if x.isAg && fit P f.type d then some ([], d) else none
    | none => none
  | _ => none

def indexval (P : Program) (T : TypeId) (x : D) (i : Int) : Option (List Prop × D) :=
  match P.underlying T, x with
  | some (.array n e), x =>
    match P.info? e with
    | some q => (nav [.idx i.toNat q.size] x).bind fun z => if x.isAg && fit P e z.2 then some ([0 ≤ i ∧ i < n] ++ z.1, z.2) else none
    | none => none
  | some .string, .str s => some ([0 ≤ i ∧ i < s.size], .int .u8 (s[i.toNat]?.getD 0).toNat)
  | _, _ => none

def loadv (P : Program) (h : Heap) (T : TypeId) : D → Option (List Prop × D)
  | .ptr r p => (rowOf h r).bind fun d => (nav p d).bind fun z => if fit P T z.2 then some z else none
  | .lptr d => if fit P T d then some ([], d) else none
  | _ => none

def lenv (P : Program) (h : Heap) (T : TypeId) : D → Option (List Prop × D)
  | .str s => match P.underlying T with
    | some .string => some ([], .int .i64 s.size)
    | _ => none
  | .lit n _ _ => match P.underlying T with
    | some (.slice _) => some ([], .int .i64 n)
    | _ => none
  | .nils => match P.underlying T with
    | some (.slice _) => some ([], .int .i64 0)
    | _ => none
  | .own r => match P.underlying T, h[r]? with
    | some (.slice _), some (some (.seq _ n _ _)) => some ([], .int .i64 n)
    | _, _ => none
  | .view r _ m _ => match P.underlying T, h[r]? with
    | some (.slice _), some (some (.seq _ _ _ _)) => some ([], .int .i64 m)
    | _, _ => none
  | _ => none

def slicev (P : Program) (T : TypeId) (x : D) (lo hi : Option Int) : Option (List Prop × D) :=
  match P.underlying T, x with
  | some .string, .str s => some ([0 ≤ lo.getD 0 ∧ lo.getD 0 ≤ hi.getD s.size ∧ hi.getD s.size ≤ s.size], .str (s.extract (lo.getD 0).toNat (hi.getD s.size).toNat))
  | some (.slice e), .lit n sz g =>
    match P.info? e with
    | some q => if q.size = sz then some ([0 ≤ lo.getD 0 ∧ lo.getD 0 ≤ hi.getD n ∧ hi.getD n ≤ n], .lit ((hi.getD n).toNat - (lo.getD 0).toNat) sz fun i => g ((lo.getD 0).toNat + i)) else none
    | none => none
  | some (.array n e), .lptr (.arr n' sz g) =>
    match P.info? e with
    | some q => if n' = n ∧ q.size = sz ∧ n ≤ 1000000 ∧ lo = none ∧ hi = none then some ([], .lit n sz g) else none
    | none => none
  | some (.array n e), .lptr (.ints k n' g) =>
    match P.info? e with
    | some q => if n' = n ∧ q.size = 1 ∧ n ≤ 1000000 ∧ lo = none ∧ hi = none then some ([], .lit n 1 fun i => .int k (g i)) else none
    | none => none
  | _, _ => none

/-- s[:i:j], where i and j are the same. -/
def slicem (P : Program) (T : TypeId) (x : D) (lo hi : Option Int) (mx : D) : Option (List Prop × D) :=
  match P.underlying T, x, lo, hi, mx with
  | some (.slice e), .lit n sz g, none, some i, .int _ j => match P.info? e with
    | some q => if q.size = sz then some ([0 ≤ i ∧ i ≤ (n : Int), j = i], .lit i.toNat sz g) else none
    | none => none
  | _, _, _, _, _ => none

/-- A part of a slice that is a row. -/
def slicev2 (P : Program) (h : Heap) (T : TypeId) (x : D) (lo hi : Option Int) : Option (List Prop × D) :=
  match P.underlying T, x with
  | some (.slice e), .own r =>
    match P.info? e, h[r]? with
    | some q, some (some (.seq _ n sz _)) => if q.size = sz then some ([0 ≤ lo.getD 0 ∧ lo.getD 0 ≤ hi.getD n ∧ hi.getD n ≤ n], .view r (lo.getD 0).toNat ((hi.getD n).toNat - (lo.getD 0).toNat) sz) else none
    | _, _ => none
  | _, _ => slicev P T x lo hi

/-- Bytes as a string. -/
def bytesOf (n : Nat) (f : Nat → Int) : ByteArray := ⟨((List.range n).map fun i => UInt8.ofNat (f i).toNat).toArray⟩
def inOf : D → Int
  | .int _ a => a
  | _ => 0

def bytesv (P : Program) (h : Heap) (s t : TypeId) (d : D) : Option (List Prop × D) :=
  match P.underlying s, P.underlying t with
  | some (.slice e), some .string => match P.underlying e, d with
    | some (.int .u8), .lit n 1 g => some ([∀ i, i < n → g i = .int .u8 (inOf (g i))], .str (bytesOf n fun i => inOf (g i)))
    | some (.int .u8), .own r => match h[r]? with
      | some (some (.seq _ n 1 (.ints .u8 _ f))) => some ([], .str (bytesOf n f))
      | _ => none
    | some (.int .u8), .nils => some ([], .str (bytesOf 0 fun _ => 0))
    | _, _ => none
  | _, _ => none

def cbv (P : Program) (h : Heap) (s t : TypeId) (d : D) : Option (List Prop × D) := match convv P s t d with
  | some q => some q
  | none => bytesv P h s t d

/-- An error is held against nil: the literal, and no value of a slot. -/
def isNilC : Operand → Bool
  | .const .nilIface => true
  | _ => false
def binv2 (P : Program) (op : BinOp) (t : TypeId) (y : Operand) (a b : D) : Option (List Prop × D) :=
  match isNilC y, a with
  | true, .err c => match op, P.underlying t with
    | .eql, some (.interface _) => some ([], .bool c)
    | .neq, some (.interface _) => some ([], .bool !c)
    | _, _ => none
  | _, a => binv P op t a b

/-- A pointer to a row, and a slice of which it is known whether it is none, are held against nil: the literal. -/
def isNilP : Operand → Bool
  | .const (.pointer none) => true
  | _ => false
def isNilS : Operand → Bool
  | .const (.slice none 0 0) => true
  | _ => false
def binv3 (P : Program) (h : Heap) (op : BinOp) (t : TypeId) (y : Operand) (a b : D) : Option (List Prop × D) :=
  match isNilP y, isNilS y, a with
  | true, _, .ptr r _ => (rowOf h r).bind fun _ => match op, P.underlying t with
    | .eql, some (.pointer _) => some ([], .bool false)
    | .neq, some (.pointer _) => some ([], .bool true)
    | _, _ => none
  | _, true, .nn (.lit _ _ _) => match op, P.underlying t with
    | .eql, some (.slice _) => some ([], .bool false)
    | .neq, some (.slice _) => some ([], .bool true)
    | _, _ => none
  | _, true, .nils => match op, P.underlying t with
    | .eql, some (.slice _) => some ([], .bool true)
    | .neq, some (.slice _) => some ([], .bool false)
    | _, _ => none
  | _, true, .z0 => match op, P.underlying t with
    | .eql, some (.slice _) => some ([], .bool true)
    | .neq, some (.slice _) => some ([], .bool false)
    | _, _ => none
  | _, _, a => binv2 P op t y a b

def rdOpt (g : Bool) (env : Env) : Option Operand → Option (List Prop × Option Int)
  | none => some ([], none)
  | some x => (rd g env x).bind fun q => (idxOf q.2).map fun i => (q.1, some i)

def oval (P : Program) (g : Bool) (env : Env) (h : Heap) : Op → Option (List Prop × D)
  | .move x => rd g env x
  | .assign x => rd g env x
  | .pick c a b => (rd g env c).bind fun q => match q.2 with
    | .bool t => (rd (g && t) env a).bind fun qa => (rd (g && !t) env b).bind fun qb => match qa.2, qb.2 with
      | .bool x, .bool y => some (q.1 ++ qa.1 ++ qb.1, .bool (bif t then x else y))
      | _, _ => none
    | _ => none
  | .binOp op t x y _ => (rd g env x).bind fun a => (rd g env y).bind fun b => (binv3 P h op t y a.2 b.2).map fun q => (a.1 ++ b.1 ++ q.1, q.2)
  | .unOp op _ x => (rd g env x).bind fun a => (unv op a.2).map fun q => (a.1 ++ q.1, q.2)
  | .convert s t x => (rd g env x).bind fun a => (cbv P h s t a.2).map fun q => (a.1 ++ q.1, q.2)
  | .extract x j => (rd g env x).bind fun a => match a.2 with
    | .tup vs => (partN j vs).map fun d => (a.1, d)
    | _ => none
  | .nilCheck x => (rd g env x).bind fun a => match a.2 with
    | .lptr d => some (a.1, .lptr d)
    | .fn f c => some (a.1, .fn f c)
    | .ptr r p => (rowOf h r).map fun _ => (a.1, .ptr r p)
    | _ => none
  | .fieldAddr T x j => (rd g env x).bind fun a => (fieldv P h T j a.2).map fun q => (a.1 ++ q.1, q.2)
  | .indexAddr T x i => (rd g env x).bind fun a => (rd g env i).bind fun b => (idxOf b.2).bind fun i => (indexv P h T a.2 i).map fun q => (a.1 ++ b.1 ++ q.1, q.2)
  | .field T x j => (rd g env x).bind fun a => (fieldval P T j a.2).map fun q => (a.1 ++ q.1, q.2)
  | .index T x i => (rd g env x).bind fun a => (rd g env i).bind fun b => (idxOf b.2).bind fun i => (indexval P T a.2 i).map fun q => (a.1 ++ b.1 ++ q.1, q.2)
  | .load T x => (rd g env x).bind fun a => (loadv P h T a.2).map fun q => (a.1 ++ q.1, q.2)
  | .slice T x lo hi none => (rd g env x).bind fun a => (rdOpt g env lo).bind fun l => (rdOpt g env hi).bind fun u => (slicev2 P h T a.2 l.2 u.2).map fun q => (a.1 ++ l.1 ++ u.1 ++ q.1, q.2)
  | .slice T x lo hi (some mx) => (rd g env x).bind fun a => (rdOpt g env lo).bind fun l => (rdOpt g env hi).bind fun u => (rd g env mx).bind fun m => (slicem P T a.2 l.2 u.2 m.2).map fun q => (a.1 ++ l.1 ++ u.1 ++ (m.1 ++ q.1), q.2)
  | _ => none

/-! ### It comes to that -/

theorem All_append {l m : List Prop} : All (l ++ m) ↔ All l ∧ All m := by
  induction l with
  | nil => simp [All]
  | cons p l ih => simp [All, ih, and_assoc]

/-- What stood in memory stands. -/
def Same (w w' : World) : Prop := ∀ b, b < w.heap.size → w'.heap[b]? = w.heap[b]?

theorem rd_ok {x : Cx} {env : Env} {a : Act} {g : Bool} (he : ERel x env a.tmps) (hg : g = true) {o : Operand} {ob : List Prop} {d : D} (h : rd g env o = some (ob, d)) (ha : All ob) : (VR x d).v (a.eval o) := by
  unfold rd at h
  split at h
  · rename_i b e ho; cases h; exact (opd_v he ho).1 (ha.1 hg)
  · rename_i e ho _; cases h; exact opd_v he ‹_›
  · cases h

theorem intv_ok {P : Program} {x : Cx} {op : BinOp} {k : IntKind} {a b : Int} {ob : List Prop} {d : D} (h : intv op k a b = some (ob, d)) (ha : All ob) (t : TypeId) : ∃ v, (VR x d).v v ∧ ∀ w, (binOp op t (.int k a) (.int k b)).run P w = .ok v w := by
  cases op <;> simp only [intv, Option.some.injEq, Prod.mk.injEq] at h <;> obtain ⟨rfl, rfl⟩ := h <;> refine ⟨_, ⟨rfl, rfl⟩, fun w => ?_⟩
  case quo => have := ha.1; simp [binOp, Op.intDiv, this]
  case rem => have := ha.1; simp [binOp, Op.intDiv, this]
  case shl => have := ha.1; simp [binOp, Op.shift, ishl, show ¬ b < 0 by omega]
  case shr => have := ha.1; simp [binOp, Op.shift, ishr, show ¬ b < 0 by omega]
  all_goals simp [binOp, Op.intArith, Op.intBits, Op.intCmp, iand, ior, ixor, iandn]

theorem shift_ok {P : Program} {x : Cx} {op : BinOp} (hop : op = .shl ∨ op = .shr) {k k' : IntKind} {a b : Int} {ob : List Prop} {d : D} (h : intv op k a b = some (ob, d)) (ha : All ob) (t : TypeId) :
    ∃ v, (VR x d).v v ∧ ∀ w, (binOp op t (.int k a) (.int k' b)).run P w = .ok v w := by
  rcases hop with rfl | rfl <;> simp only [intv, Option.some.injEq, Prod.mk.injEq] at h <;> obtain ⟨rfl, rfl⟩ := h <;> refine ⟨_, ⟨rfl, rfl⟩, fun w => ?_⟩ <;> have := ha.1
  · simp [binOp, Op.shift, ishl, show ¬ b < 0 by omega]
  · simp [binOp, Op.shift, ishr, show ¬ b < 0 by omega]

theorem guard_plain {P : Program} {op : BinOp} {t : TypeId} {x y : Operand} {a b : Value} (h1 : a ≠ .nilIface) (h2 : ∀ cs, a ≠ .agg cs) (w : World) : (eqGuard op t x y a b).run P w = .ok () w := by
  unfold eqGuard
  cases op <;> simp
  all_goals (split <;> first | rfl | (exact absurd rfl h1) | (exact absurd rfl (h2 _)))

theorem run_equalIn_nils {P : Program} (d : Nat) {t e : TypeId} (hu : P.underlying t = some (.pointer e)) (w : World) : (Op.equalIn (d + 1) t (.pointer none) (.pointer none)).run P w = .ok true w := by
  simp [Op.equalIn, run_underlying hu]
theorem run_equalIn_nil {P : Program} (d : Nat) {t e : TypeId} (a : Addr) (hu : P.underlying t = some (.pointer e)) (w : World) : (Op.equalIn (d + 1) t (.pointer (some a)) (.pointer none)).run P w = .ok false w := by
  simp [Op.equalIn, run_underlying hu]
theorem eql_of {P : Program} {t : TypeId} {a b : Value} {r : Bool} (e : binOp .eql t a b = (do pure (.bool (← Op.equal t a b)))) (h : ∀ w, (Op.equalIn (9999 + 1) t a b).run P w = .ok r w) (w : World) : (binOp .eql t a b).run P w = .ok (.bool r) w := by
  rw [e, Sem.run_bind]
  show ((Op.equalIn (9999 + 1) t a b).run P w).andThen _ = _
  rw [h w]; rfl
theorem neq_of {P : Program} {t : TypeId} {a b : Value} {r : Bool} (e : binOp .neq t a b = (do pure (.bool (!(← Op.equal t a b))))) (h : ∀ w, (Op.equalIn (9999 + 1) t a b).run P w = .ok r w) (w : World) : (binOp .neq t a b).run P w = .ok (.bool !r) w := by
  rw [e, Sem.run_bind]
  show ((Op.equalIn (9999 + 1) t a b).run P w).andThen _ = _
  rw [h w]; rfl

theorem binv_ok {P : Program} {x : Cx} {op : BinOp} {t : TypeId} {dx dy : D} {ob : List Prop} {d : D} (h : binv P op t dx dy = some (ob, d)) (ha : All ob) {vx vy : Value} (hx : (VR x dx).v vx) (hy : (VR x dy).v vy) (p q : Operand) :
    ∃ v, (VR x d).v v ∧ ∀ w, (do eqGuard op t p q vx vy; binOp op t vx vy : Sem Value).run P w = .ok v w := by
  unfold binv at h
  split at h
  · rename_i k a k' b
    obtain ⟨rfl, _⟩ := hx
    obtain ⟨rfl, _⟩ := hy
    have fin : (∃ v, (VR x d).v v ∧ ∀ w, (binOp op t (.int k a) (.int k' b)).run P w = .ok v w) → ∃ v, (VR x d).v v ∧ ∀ w, (do eqGuard op t p q (.int k a) (.int k' b); binOp op t (.int k a) (.int k' b) : Sem Value).run P w = .ok v w := fun ⟨v, h1, h2⟩ =>
      ⟨v, h1, fun w => by rw [Sem.run_bind, guard_plain (by simp) (by simp)]; exact h2 w⟩
    split at h
    · exact fin (shift_ok (.inl rfl) h ha t)
    · exact fin (shift_ok (.inr rfl) h ha t)
    · split at h
      · rename_i hk; subst hk; exact fin (intv_ok h ha t)
      · cases h
  · rename_i a b
    obtain ⟨rfl, _⟩ := hx
    obtain ⟨rfl, _⟩ := hy
    cases op <;> simp only [strv, reduceCtorEq, Option.some.injEq, Prod.mk.injEq] at h <;> obtain ⟨rfl, rfl⟩ := h
    case add =>
      have h1 := ha.1
      exact ⟨_, ⟨rfl, rfl⟩, fun w => by
        rw [Sem.run_bind, guard_plain (by simp) (by simp)]
        have : ¬ (((a.size + b.size : Nat) : Int) > IntKind.i64.max) := by simp only [IntKind.max, IntKind.bits, IntKind.signed]; omega
        simp only [Result.andThen_ok, binOp, Op.stringOp, if_neg this, Sem.run_pure]⟩
    all_goals exact ⟨_, ⟨rfl, rfl⟩, fun w => by rw [Sem.run_bind, guard_plain (by simp) (by simp)]; simp [binOp, Op.stringOp]⟩
  · rename_i a b
    obtain ⟨rfl, _⟩ := hx
    obtain ⟨rfl, _⟩ := hy
    split at h
    · rename_i hu
      cases h
      exact ⟨_, ⟨rfl, rfl⟩, fun w => by rw [Sem.run_bind, guard_plain (by simp) (by simp)]; exact eql_of rfl (fun w => run_equalIn_bool' (P := P) w 9999 t _ _ hu) w⟩
    · rename_i hu
      cases h
      exact ⟨_, ⟨rfl, rfl⟩, fun w => by rw [Sem.run_bind, guard_plain (by simp) (by simp)]; exact neq_of rfl (fun w => run_equalIn_bool' (P := P) w 9999 t _ _ hu) w⟩
    · cases h
  · obtain ⟨rfl, _⟩ := hx
    obtain ⟨rfl, _⟩ := hy
    split at h
    · rename_i e hu
      cases h
      exact ⟨_, ⟨rfl, rfl⟩, fun w => by rw [Sem.run_bind, guard_plain (by simp) (by simp)]; exact eql_of rfl (run_equalIn_nils 9999 hu) w⟩
    · rename_i e hu
      cases h
      exact ⟨_, ⟨rfl, rfl⟩, fun w => by rw [Sem.run_bind, guard_plain (by simp) (by simp)]; exact neq_of rfl (run_equalIn_nils 9999 hu) w⟩
    · cases h
  · obtain ⟨⟨b, o, rfl, _⟩, _⟩ := hx
    obtain ⟨rfl, _⟩ := hy
    split at h
    · rename_i e hu
      cases h
      exact ⟨_, ⟨rfl, rfl⟩, fun w => by rw [Sem.run_bind, guard_plain (by simp) (by simp)]; exact eql_of rfl (run_equalIn_nil 9999 _ hu) w⟩
    · rename_i e hu
      cases h
      exact ⟨_, ⟨rfl, rfl⟩, fun w => by rw [Sem.run_bind, guard_plain (by simp) (by simp)]; exact neq_of rfl (run_equalIn_nil 9999 _ hu) w⟩
    · cases h
  · split at h
    · rename_i hc
      simp only [Bool.and_eq_true, Bool.not_eq_true'] at hc
      obtain ⟨⟨h1, h2⟩, h3⟩ := hc
      obtain ⟨cs, rfl, _, _⟩ := agg_m h1 hx
      obtain ⟨cs', rfl, _, _⟩ := agg_m h2 hy
      split at h
      · simp only [Option.map_eq_some_iff, Prod.mk.injEq] at h
        obtain ⟨b, e, rfl, rfl⟩ := h
        exact ⟨_, ⟨rfl, rfl⟩, fun w => by
          rw [Sem.run_bind, run_eqGuard_agg (P := P) w .eql t p q cs cs' h3, Result.andThen_ok, run_eql_struct, eqD_ok 60 e hx hy 10000 (by omega) w]; rfl⟩
      · simp only [Option.map_eq_some_iff, Prod.mk.injEq] at h
        obtain ⟨b, e, rfl, rfl⟩ := h
        exact ⟨_, ⟨rfl, rfl⟩, fun w => by
          rw [Sem.run_bind, run_eqGuard_agg (P := P) w .neq t p q cs cs' h3, Result.andThen_ok, run_neq_struct, eqD_ok 60 e hx hy 10000 (by omega) w]; rfl⟩
      · cases h
    · cases h

theorem run_equalIn_err0 {P : Program} (d : Nat) {t : TypeId} {ms : Array (String × TypeId)} (hu : P.underlying t = some (.interface ms)) (w : World) : (Op.equalIn (d + 1) t .nilIface .nilIface).run P w = .ok true w := by
  simp [Op.equalIn, run_underlying hu]
theorem run_equalIn_err1 {P : Program} (d : Nat) {t ty : TypeId} {u : Value} {ms : Array (String × TypeId)} (hu : P.underlying t = some (.interface ms)) (w : World) : (Op.equalIn (d + 1) t (.iface ty u) .nilIface).run P w = .ok false w := by
  simp [Op.equalIn, run_underlying hu]

theorem guard_nil {P : Program} {op : BinOp} {t : TypeId} {x : Operand} {a : Value} (h2 : ∀ cs, a ≠ .agg cs) (w : World) : (eqGuard op t x (.const .nilIface) a .nilIface).run P w = .ok () w := by
  unfold eqGuard
  cases op <;> simp
  all_goals (split <;> first | rfl | (exact absurd rfl (h2 _)) | simp)

theorem binv2_ok {P : Program} {x : Cx} {op : BinOp} {t : TypeId} {dx dy : D} {ob : List Prop} {d : D} {vx vy : Value} {q : Operand} (h : binv2 P op t q dx dy = some (ob, d)) (ha : All ob) (hx : (VR x dx).v vx) (hy : (VR x dy).v vy) (p : Operand) (hq : q = .const .nilIface → vy = .nilIface) :
    ∃ v, (VR x d).v v ∧ ∀ w, (do eqGuard op t p q vx vy; binOp op t vx vy : Sem Value).run P w = .ok v w := by
  unfold binv2 at h
  split at h
  · rename_i c hn
    have hqc : q = .const .nilIface := by
      unfold isNilC at hn
      split at hn
      · rfl
      · cases hn
    obtain rfl := hq hqc
    subst hqc
    obtain ⟨hx, _⟩ := hx
    have key : ∀ ms, P.underlying t = some (.interface ms) → (∀ cs, vx ≠ .agg cs) ∧ ∀ w, (Op.equalIn (9999 + 1) t vx .nilIface).run P w = .ok c w := fun ms hu => by
      cases c with
      | true => obtain rfl : vx = .nilIface := hx; exact ⟨(fun _ h => nomatch h), run_equalIn_err0 9999 hu⟩
      | false => obtain ⟨ty, u, rfl⟩ : ∃ ty u, vx = .iface ty u := hx; exact ⟨(fun _ h => nomatch h), run_equalIn_err1 9999 hu⟩
    split at h
    · rename_i ms hu
      cases h
      obtain ⟨k1, k2⟩ := key ms hu
      exact ⟨_, ⟨rfl, rfl⟩, fun w => by rw [Sem.run_bind, guard_nil k1]; exact eql_of (by cases c <;> first | (obtain rfl : vx = .nilIface := hx; rfl) | (obtain ⟨ty, u, rfl⟩ : ∃ ty u, vx = .iface ty u := hx; rfl)) k2 w⟩
    · rename_i ms hu
      cases h
      obtain ⟨k1, k2⟩ := key ms hu
      exact ⟨_, ⟨rfl, rfl⟩, fun w => by rw [Sem.run_bind, guard_nil k1]; exact neq_of (by cases c <;> first | (obtain rfl : vx = .nilIface := hx; rfl) | (obtain ⟨ty, u, rfl⟩ : ∃ ty u, vx = .iface ty u := hx; rfl)) k2 w⟩
    · cases h
  · exact binv_ok h ha hx hy p q

theorem unv_ok {P : Program} {x : Cx} {op : UnOp} {dx : D} {ob : List Prop} {d : D} (h : unv op dx = some (ob, d)) {vx : Value} (hx : (VR x dx).v vx) : ∃ v, (VR x d).v v ∧ ∀ w, (Op.unary op vx).run P w = .ok v w := by
  cases dx <;> simp only [unv, reduceCtorEq] at h
  case int k n =>
    obtain ⟨rfl, _⟩ := hx
    cases op <;> simp only [reduceCtorEq, Option.some.injEq, Prod.mk.injEq] at h <;> obtain ⟨rfl, rfl⟩ := h
    · exact ⟨_, ⟨rfl, rfl⟩, fun w => by simp [Op.unary, Op.intArith]⟩
    · exact ⟨_, ⟨rfl, rfl⟩, fun w => by simp [Op.unary, Op.intBits, ixor]⟩
  case bool b =>
    obtain ⟨rfl, _⟩ := hx
    cases op <;> simp only [reduceCtorEq, Option.some.injEq, Prod.mk.injEq] at h
    obtain ⟨rfl, rfl⟩ := h
    exact ⟨_, ⟨rfl, rfl⟩, fun w => by simp [Op.unary]⟩

theorem convv_ok {P : Program} {x : Cx} {s t : TypeId} {dx : D} {ob : List Prop} {d : D} (h : convv P s t dx = some (ob, d)) {vx : Value} (hx : (VR x dx).v vx) : ∃ v, (VR x d).v v ∧ ∀ w, (convert s t vx).run P w = .ok v w := by
  cases dx <;> simp only [convv, reduceCtorEq] at h
  case int k n =>
    obtain ⟨rfl, _⟩ := hx
    split at h
    · rename_i u k' h1 h2
      cases h
      exact ⟨_, ⟨rfl, rfl⟩, fun w => by simp [convert, run_underlying h1, run_underlying h2, Conv.intToInt]⟩
    · cases h
  case str b =>
    obtain ⟨rfl, _⟩ := hx
    split at h
    · rename_i h1 h2
      cases h
      exact ⟨_, ⟨rfl, rfl⟩, fun w => by simp [convert, run_underlying h1, run_underlying h2]⟩
    · cases h

theorem partN_c {x : Cx} : ∀ (j : Nat) {vs d : D}, partN j vs = some d → ∀ {cs : Array Value} {i : Nat}, (VR x vs).c cs i → ∃ u, cs[i + j]? = some u ∧ (VR x d).v u
  | 0, vs, d, h, cs, i, hc => by
    cases vs <;> simp only [partN, reduceCtorEq, Option.some.injEq] at h
    subst h; exact hc.1
  | j + 1, vs, d, h, cs, i, hc => by
    cases vs <;> simp only [partN, reduceCtorEq] at h
    obtain ⟨u, h1, h2⟩ := partN_c j h hc.2
    exact ⟨u, by rwa [show i + (j + 1) = i + 1 + j by omega], h2⟩

section
variable {P : Program} {X : Nat → Prop} {ρ : Hnd} {h : Heap} {w : World}

theorem live_ptr (hh : HRel X ρ h w) {r : Nat} {p : List Stp} {d : D} (hr : rowOf h r = some d) {v : Value} (hv : (VR (cx X ρ w) (.ptr r p)).v v) :
    ∃ u b, ρ r = some (some u) ∧ blkOf u = some b ∧ v = .pointer (some ⟨b, pathOff p, none⟩) := by
  obtain ⟨⟨o, h1, h2⟩, _⟩ := hv
  unfold rowOf at hr
  split at hr
  · rename_i e
    obtain ⟨u, k1, _⟩ := hh.live r _ e
    have : o = some u := Option.some.inj (h1.symm.trans k1)
    obtain ⟨b, h3, h4⟩ := h2 u this
    exact ⟨u, b, k1, h3, h4⟩
  · rename_i e
    obtain ⟨u, k1, _⟩ := hh.live r _ e
    have : o = some u := Option.some.inj (h1.symm.trans k1)
    obtain ⟨b, h3, h4⟩ := h2 u this
    exact ⟨u, b, k1, h3, h4⟩
  · cases hr

/-- What a row holds, in its block. -/
theorem row_mem (hh : HRel X ρ h w) {r : Nat} {d : D} (hr : rowOf h r = some d) {u : Value} {b : Nat} (hu : ρ r = some (some u)) (hb : blkOf u = some b) : (VR (cx X ρ w) d).m (memL w b) 0 ∧ b < w.heap.size := by
  have fin : ∀ (cs : Array Value) (e : TypeId), Cel w b cs e → (VR (cx X ρ w) d).m (fun i => cs[i]?) 0 → (VR (cx X ρ w) d).m (memL w b) 0 ∧ b < w.heap.size := fun cs e h1 h2 => by
    refine ⟨VR_look d (fun i _ => ?_) h2, h1.lt⟩
    exact (congrArg (fun j => memL w b j) (Nat.zero_add i)).trans ((h1.cell i).trans (congrArg (fun j => cs[j]?) (Nat.zero_add i).symm))
  unfold rowOf at hr
  split at hr
  · rename_i e
    cases hr
    obtain ⟨u', k1, b', cs, e, k2, k3, k4, k5⟩ := hh.live r _ e
    have : u = u' := Option.some.inj (Option.some.inj (hu.symm.trans k1))
    subst this; subst k2
    cases hb
    exact fin cs e k3 k5
  · rename_i e
    cases hr
    obtain ⟨u', k1, k2, k3⟩ := hh.live r _ e
    have : u = u' := Option.some.inj (Option.some.inj (hu.symm.trans k1))
    subst this
    rcases k3 with ⟨rfl, _, _⟩ | ⟨b', cap, cur, rfl, k4, _, _, _, k5⟩
    · cases hb
    · cases hb
      exact fin cur _ k4 k5
  · cases hr

theorem fieldv_ok (hh : HRel X ρ h w) {T : TypeId} {j : Nat} {dx : D} {ob : List Prop} {d : D} (e : fieldv P h T j dx = some (ob, d)) {vx : Value} (hx : (VR (cx X ρ w) dx).v vx) :
    ∃ v, (VR (cx X ρ w) d).v v ∧ ∀ w', (Instr.fieldAt T vx j).run P w' = .ok v w' := by
  unfold fieldv at e
  split at e
  · rename_i fs hu
    split at e
    · rename_i f hf
      split at e
      · rename_i hz
        obtain ⟨i, hi, hz⟩ := (Option.any_eq_true _ _).1 hz
        have hz' : i.size ≠ 0 := by simpa using hz
        have run : ∀ b o w', (Instr.fieldAt T (.pointer (some ⟨b, o, none⟩)) j).run P w' = .ok (.pointer (some ⟨b, o + f.offset, none⟩)) w' := fun b o w' => by
          simp [Instr.fieldAt, run_underlying hu, hf, Instr.sureAddr, fieldPlace, run_sizeOf' hi, hz', Addr.add_lit]
        split at e
        · rename_i r p
          simp only [Option.map_eq_some_iff, Prod.mk.injEq] at e
          obtain ⟨dr, hr, rfl, rfl⟩ := e
          obtain ⟨u, b, k1, k2, rfl⟩ := live_ptr hh hr hx
          refine ⟨_, ⟨⟨some u, k1, fun u' eu => ?_⟩, rfl⟩, run b _⟩
          cases eu
          exact ⟨b, k2, by rw [pathOff_snoc]; rfl⟩
        · simp only [Option.map_eq_some_iff, Prod.mk.injEq] at e
          obtain ⟨dr, hr, rfl, rfl⟩ := e
          obtain ⟨⟨b, o, rfl, k1, k2, k3⟩, _⟩ := hx
          exact ⟨_, ⟨⟨b, _, rfl, k1, k2, (field_m j hr k3).1⟩, rfl⟩, run b o⟩
        · cases e
      · cases e
    · cases e
  · cases e

theorem indexv_ok (hh : HRel X ρ h w) {T : TypeId} {dx : D} {k : IntKind} {i : Int} {ob : List Prop} {d : D} (e : indexv P h T dx i = some (ob, d)) (ha : All ob) {vx : Value} (hx : (VR (cx X ρ w) dx).v vx) :
    ∃ v, (VR (cx X ρ w) d).v v ∧ ∀ w', (Instr.indexAt T vx (.int k i)).run P w' = .ok v w' := by
  unfold indexv at e
  split at e
  · rename_i n el hu
    have run : ∀ (q : TypeInfo) b o w', P.info? el = some q → (0 ≤ i ∧ i < n) → (Instr.indexAt T (.pointer (some ⟨b, o, none⟩)) (.int k i)).run P w' = .ok (.pointer (some ⟨b, o + i.toNat * q.size, none⟩)) w' := fun q b o w' hi hb => by
      simp [Instr.indexAt, run_underlying hu, Instr.sureAddr, asIntOf, hb, run_sizeOf' hi, Addr.add_lit]
    split at e
    · rename_i q r p hi
      simp only [Option.map_eq_some_iff, Prod.mk.injEq] at e
      obtain ⟨dr, hr, rfl, rfl⟩ := e
      obtain ⟨u, b, k1, k2, rfl⟩ := live_ptr hh hr hx
      refine ⟨_, ⟨⟨some u, k1, fun u' eu => ?_⟩, rfl⟩, fun w' => run q b _ w' hi ha.1⟩
      cases eu
      exact ⟨b, k2, by rw [pathOff_snoc]; rfl⟩
    · rename_i q dl hi
      simp only [Option.map_eq_some_iff, Prod.mk.injEq] at e
      obtain ⟨z, hz, rfl, rfl⟩ := e
      obtain ⟨⟨b, o, rfl, k1, k2, k3⟩, _⟩ := hx
      have ha' := All_append.1 ha
      refine ⟨_, ⟨⟨b, _, rfl, k1, k2, ?_⟩, rfl⟩, fun w' => run q b o w' hi ha'.1.1⟩
      have := (nav_m [.idx i.toNat q.size] hz ha'.2 k3).1
      simpa [pathOff, Stp.off] using this
    · cases e
  · rename_i el hu
    have run : ∀ (q : TypeInfo) b o n c w', P.info? el = some q → (0 ≤ i ∧ i < (n : Nat)) → (Instr.indexAt T (.slice (some ⟨b, o, none⟩) n c) (.int k i)).run P w' = .ok (.pointer (some ⟨b, o + i.toNat * q.size, none⟩)) w' := fun q b o n c w' hi hb => by
      simp [Instr.indexAt, run_underlying hu, asIntOf, hb, run_sizeOf' hi, Addr.add_lit]
    split at e
    · rename_i q n sz g hi
      split at e
      · rename_i hq
        cases e
        have hb := ha.1
        obtain ⟨hx, _⟩ := hx
        rcases hx with ⟨_, rfl⟩ | ⟨b, o, cap, rfl, k1, k2, k3, k4, k5⟩
        · omega
        · exact ⟨_, ⟨⟨b, _, rfl, k3, k4, by rw [hq]; exact (k5 i.toNat (by omega)).2⟩, rfl⟩, fun w' => run q b o n cap w' hi hb⟩
      · cases e
    · rename_i q r hi
      split at e
      · rename_i el' n sz dr hr
        split at e
        · rename_i hq
          cases e
          have hb := ha.1
          obtain ⟨u, k1, k2, k3⟩ := hh.live r _ hr
          obtain ⟨⟨o, h1, h2⟩, _⟩ := hx
          have hvu := h2 u (Option.some.inj (h1.symm.trans k1))
          rcases k3 with ⟨_, rfl, _⟩ | ⟨b, cap, cur, rfl, k4, _⟩
          · omega
          · obtain rfl : vx = _ := hvu.resolve_right (by simp)
            refine ⟨_, ⟨⟨_, k1, fun u' eu => ?_⟩, rfl⟩, fun w' => run q b 0 n cap w' hi hb⟩
            cases eu
            exact ⟨b, rfl, by simp [pathOff, Stp.off]⟩
        · cases e
      · cases e
    · rename_i q r lo m sz' hi
      split at e
      · rename_i el' n sz dr hr
        split at e
        · rename_i hq
          cases e
          have hb := ha.1
          obtain ⟨u, k1, k2, k3⟩ := hh.live r _ hr
          obtain ⟨⟨o, h1, h2⟩, _⟩ := hx
          rcases h2 u (Option.some.inj (h1.symm.trans k1)) with ⟨_, _, rfl, _⟩ | ⟨b, n', cap, rfl, q1, rfl⟩
          · omega
          · refine ⟨_, ⟨⟨_, k1, fun u' eu => ?_⟩, rfl⟩, fun w' => run q b _ m (cap - lo) w' hi hb⟩
            cases eu
            have hne : cap ≠ lo := by omega
            refine ⟨b, rfl, ?_⟩
            rw [if_neg hne]
            simp only [pathOff, Stp.off, Nat.add_zero, hq, Nat.add_mul]
        · cases e
      · cases e
    · cases e
  · cases e

theorem fieldval_ok {x : Cx} {T : TypeId} {j : Nat} {dx : D} {ob : List Prop} {d : D} (e : fieldval P T j dx = some (ob, d)) {vx : Value} (hx : (VR x dx).v vx) : ∃ v, (VR x d).v v ∧ ∀ w', (Instr.field T vx j).run P w' = .ok v w' := by
  unfold fieldval at e
  split at e
  · rename_i fs hu
    split at e
    · rename_i f hf
      simp only [Option.bind_eq_some_iff] at e
      obtain ⟨d', h1, h2⟩ := e
      split at h2
      · rename_i hc
        cases h2
        simp only [Bool.and_eq_true] at hc
        obtain ⟨cs, rfl, hz, hm⟩ := agg_m hc.1 hx
        have hle := fieldD_le j h1
        have := (field_m j h1 hm).1
        rw [Nat.zero_add] at this
        obtain ⟨v, r1, r2⟩ := run_part' (P := P) hc.2 this (by omega)
        exact ⟨v, r2, fun w' => by simp [Instr.field, run_underlying hu, hf, asAgg, r1]⟩
      · cases h2
    · cases e
  · cases e

theorem indexval_ok {x : Cx} {T : TypeId} {dx : D} {k : IntKind} {i : Int} {ob : List Prop} {d : D} (e : indexval P T dx i = some (ob, d)) (ha : All ob) {vx : Value} (hx : (VR x dx).v vx) : ∃ v, (VR x d).v v ∧ ∀ w', (Instr.index T vx (.int k i)).run P w' = .ok v w' := by
  unfold indexval at e
  split at e
  · rename_i n el hu
    split at e
    · rename_i q hi
      simp only [Option.bind_eq_some_iff] at e
      obtain ⟨z, h1, h2⟩ := e
      split at h2
      · rename_i hc
        cases h2
        simp only [Bool.and_eq_true] at hc
        have ha' := All_append.1 ha
        obtain ⟨cs, rfl, hz, hm⟩ := agg_m hc.1 hx
        obtain ⟨k1, k2⟩ := nav_m [.idx i.toNat q.size] h1 ha'.2 hm
        simp only [pathOff, Stp.off, Nat.add_zero, Nat.zero_add] at k1 k2
        obtain ⟨v, r1, r2⟩ := run_part' (P := P) hc.2 k1 (by omega)
        exact ⟨v, r2, fun w' => by simp [Instr.index, run_underlying hu, asIntOf, ha'.1.1, run_sizeOf' hi, r1]⟩
      · cases h2
    · cases e
  · rename_i s hu
    cases e
    obtain ⟨rfl, _⟩ := hx
    have hb := ha.1
    refine ⟨_, ⟨rfl, rfl⟩, fun w' => ?_⟩
    have hlt : i.toNat < s.size := by omega
    simp [Instr.index, run_underlying hu, asIntOf, hb, hlt]
  · cases e

theorem loadv_ok (hh : HRel X ρ h w) {T : TypeId} {dx : D} {ob : List Prop} {d : D} (e : loadv P h T dx = some (ob, d)) (ha : All ob) {vx : Value} (hx : (VR (cx X ρ w) dx).v vx) :
    ∃ v, (VR (cx X ρ w) d).v v ∧ ∀ w', Same w w' → (Instr.loadAt T vx).run P w' = .ok v w' := by
  unfold loadv at e
  split at e
  · rename_i r p
    simp only [Option.bind_eq_some_iff] at e
    obtain ⟨dr, hr, z, hz, h2⟩ := e
    split at h2
    · rename_i hf
      cases h2
      obtain ⟨u, b, k1, k2, rfl⟩ := live_ptr hh hr hx
      obtain ⟨k3, k4⟩ := row_mem hh hr k1 k2
      have := (nav_m p hz ha k3).1
      rw [Nat.zero_add] at this
      obtain ⟨v, r1, r2⟩ := run_loadVar' (P := P) hf this
      exact ⟨v, r2, fun w' hs => by simp [Instr.loadAt, Instr.sureAddr, r1 w' (hs b k4)]⟩
    · cases h2
  · rename_i dl
    split at e
    · rename_i hf
      cases e
      obtain ⟨⟨b, o, rfl, k1, k2, k3⟩, _⟩ := hx
      obtain ⟨v, r1, r2⟩ := run_loadVar' (P := P) hf k3
      exact ⟨v, r2, fun w' hs => by simp [Instr.loadAt, Instr.sureAddr, r1 w' (hs b k2)]⟩
    · cases e
  · cases e
end

theorem foldl_push : ∀ (l : List Int) (s : ByteArray), l.foldl (fun r n => r.push (UInt8.ofNat n.toNat)) s = ⟨s.data ++ (l.map fun a => UInt8.ofNat a.toNat).toArray⟩
  | [], s => by simp
  | a :: l, s => by
    rw [List.foldl_cons, foldl_push l]
    simp [ByteArray.push]

theorem run_bytes {P : Program} {w : World} {b o n cap : Nat} {f : Nat → Int} (h : ∀ i, i < n → memL w b (o + i) = some (.int .u8 (f i))) : (Conv.bytesToString (.slice (some ⟨b, o, none⟩) n cap)).run P w = .ok (.string (bytesOf n f)) w := by
  have hl := run_loadCells (P := P) w ⟨b, o, none⟩ n (fun i => .int .u8 (f i)) (fun j hj => by rw [Addr.add_lit]; exact h j hj)
  have := run_bytesToString (P := P) w ⟨b, o, none⟩ n cap ((List.range n).map f) (by rw [hl]; simp)
  rw [this, foldl_push]
  congr 2
  simp [bytesOf]

theorem run_bytes_nil {P : Program} {w : World} (a : Option Addr) {c : Nat} : (Conv.bytesToString (.slice a 0 c)).run P w = .ok (.string (bytesOf 0 fun _ => 0)) w := by
  have e : bytesOf 0 (fun _ => 0) = ByteArray.empty := rfl
  rw [e]
  cases a with
  | none => simp [Conv.bytesToString]
  | some a => simp [Conv.bytesToString, loadCells, loadCellsFrom]

theorem bytesv_ok {P : Program} {X : Nat → Prop} {ρ : Hnd} {h : Heap} {w : World} (hh : HRel X ρ h w) {s t : TypeId} {dx : D} {ob : List Prop} {d : D} (e : bytesv P h s t dx = some (ob, d)) (ha : All ob) {vx : Value} (hx : (VR (cx X ρ w) dx).v vx) :
    ∃ v, (VR (cx X ρ w) d).v v ∧ ∀ w', Same w w' → (convert s t vx).run P w' = .ok v w' := by
  unfold bytesv at e
  split at e
  · rename_i el hu hv
    have conv : ∀ a l c w', P.underlying el = some (.int .u8) → (convert s t (.slice a l c)).run P w' = (Conv.bytesToString (.slice a l c)).run P w' := fun a l c w' he => run_convert_bytes_string (P := P) w' s t el a l c hu he hv
    split at e
    · rename_i n g he
      cases e
      obtain ⟨hx, _⟩ := hx
      rcases hx with ⟨⟨a0, c0, rfl⟩, rfl⟩ | ⟨b, o, cap, rfl, k1, k2, k3, k4, k5⟩
      · exact ⟨_, ⟨rfl, rfl⟩, fun w' _ => by rw [conv _ _ _ _ he, run_bytes_nil]; rfl⟩
      · refine ⟨_, ⟨rfl, rfl⟩, fun w' hs => ?_⟩
        rw [conv _ _ _ _ he]
        refine run_bytes fun i hi => ?_
        have := (k5 i hi).2
        rw [ha.1 i hi, Nat.mul_one] at this
        obtain ⟨u, q1, rfl, _⟩ := this
        rw [memL_of_block (hs b k4)]
        exact q1
    · rename_i r he
      split at e
      · rename_i el' n n' f hr
        · cases e
          obtain ⟨u, k1, k2, k3⟩ := hh.live r _ hr
          have hnn : n' = n := by simpa [D.size] using k2
          subst hnn
          obtain ⟨⟨o, h1, h2⟩, _⟩ := hx
          have hvu := h2 u (Option.some.inj (h1.symm.trans k1))
          rcases k3 with ⟨rfl, rfl, _⟩ | ⟨b, cap, cur, rfl, k4, k5, k6, k7, k8⟩
          · obtain ⟨a0, rfl⟩ : ∃ a, vx = .slice a 0 0 := hvu.elim (fun e => ⟨none, e⟩) fun e => e.2
            exact ⟨_, ⟨rfl, rfl⟩, fun w' _ => by rw [conv _ _ _ _ he, run_bytes_nil]; rfl⟩
          · obtain rfl : vx = _ := hvu.resolve_right (by simp)
            refine ⟨_, ⟨rfl, rfl⟩, fun w' hs => ?_⟩
            rw [conv _ _ _ _ he]
            refine run_bytes fun i hi => ?_
            rw [memL_of_block (hs b k4.lt), Nat.zero_add]
            have := k8 i hi
            rw [Nat.zero_add] at this
            exact (k4.cell i).trans this
      · cases e
    · rename_i he
      cases e
      obtain ⟨rfl, _⟩ := hx
      exact ⟨_, ⟨rfl, rfl⟩, fun w' _ => by rw [conv _ _ _ _ he, run_bytes_nil]⟩
    · cases e
  · cases e

theorem rdOpt_ok {x : Cx} {env : Env} {a : Act} {g : Bool} (he : ERel x env a.tmps) (hg : g = true) {o : Option Operand} {ob : List Prop} {q : Option Int} (h : rdOpt g env o = some (ob, q)) (ha : All ob) :
    (q = none ∧ o.map a.eval = none) ∨ ∃ i k, q = some i ∧ o.map a.eval = some (.int k i) := by
  unfold rdOpt at h
  split at h
  · cases h; exact .inl ⟨rfl, rfl⟩
  · rename_i y
    simp only [Option.bind_eq_some_iff, Option.map_eq_some_iff, Prod.mk.injEq] at h
    obtain ⟨q', h1, i, h2, rfl, rfl⟩ := h
    obtain ⟨ob', d⟩ := q'
    have hv := rd_ok he hg h1 ha
    cases d <;> simp only [idxOf, reduceCtorEq, Option.some.injEq] at h2
    subst h2
    exact .inr ⟨_, _, rfl, congrArg some hv.1⟩

theorem run_sliceBound {P : Program} {k : IntKind} {i : Int} {y : Nat} {code : BoundsCode} (h : 0 ≤ i ∧ i ≤ y) (w : World) : (Instr.sliceBound (.int k i) y code).run P w = .ok i.toNat w := by
  simp [Instr.sliceBound, asIntOf, h]

theorem slicev_ok {P : Program} {x : Cx} {T : TypeId} {dx : D} {lo hi : Option Int} {ob : List Prop} {d : D} (e : slicev P T dx lo hi = some (ob, d)) (ha : All ob) {vx : Value} (hx : (VR x dx).v vx) {vl vh : Option Value}
    (hl : (lo = none ∧ vl = none) ∨ ∃ i k, lo = some i ∧ vl = some (.int k i)) (hh : (hi = none ∧ vh = none) ∨ ∃ i k, hi = some i ∧ vh = some (.int k i)) : ∃ v, (VR x d).v v ∧ ∀ w', (Instr.sliceAt T vx vl vh none).run P w' = .ok v w' := by
  have bounds : ∀ (b : Bool) (len cap : Nat), len ≤ cap → 0 ≤ lo.getD 0 ∧ lo.getD 0 ≤ hi.getD len ∧ hi.getD len ≤ len → ∀ w, (Instr.sliceBounds b len cap vl vh none).run P w = .ok ((lo.getD 0).toNat, (hi.getD len).toNat, cap) w := fun b len cap htc hb w => by
    rcases hh with ⟨rfl, rfl⟩ | ⟨i, k, rfl, rfl⟩ <;> rcases hl with ⟨rfl, rfl⟩ | ⟨j, k', rfl, rfl⟩ <;> simp only [Option.getD_none, Option.getD_some] at hb ⊢
    · simp [Instr.sliceBounds]
    · have h1 : ∀ code, (Instr.sliceBound (.int k' j) len code).run P w = .ok j.toNat w := fun code => run_sliceBound (by omega) w
      simp [Instr.sliceBounds, h1]
    · have h1 : ∀ code, (Instr.sliceBound (.int k i) cap code).run P w = .ok i.toNat w := fun code => run_sliceBound (by omega) w
      simp [Instr.sliceBounds, h1]
    · have h1 : ∀ code, (Instr.sliceBound (.int k i) cap code).run P w = .ok i.toNat w := fun code => run_sliceBound (by omega) w
      have h2 : ∀ code, (Instr.sliceBound (.int k' j) i.toNat code).run P w = .ok j.toNat w := fun code => run_sliceBound (by omega) w
      simp [Instr.sliceBounds, h1, h2]
  have whole : ∀ (n : Nat) (el : TypeId) (q : TypeInfo) (sz : Nat) (dl : D) (g : Nat → D), P.underlying T = some (.array n el) → P.info? el = some q → n ≤ 1000000 → (VR x (.lptr dl)).v vx → (∀ (L : Look) (o : Nat), (VR x dl).m L o → ∀ i, i < n → (g i).size = sz ∧ (VR x (g i)).m L (o + i * sz)) →
      lo = none → hi = none → ∃ v, (VR x (.lit n sz g)).v v ∧ ∀ w', (Instr.sliceAt T vx vl vh none).run P w' = .ok v w' := fun n el q sz dl g hu hi' hm hv hg e1 e2 => by
    subst e1; subst e2
    obtain ⟨_, rfl⟩ | ⟨i, k, e, _⟩ := hl
    · obtain ⟨_, rfl⟩ | ⟨i, k, e, _⟩ := hh
      · obtain ⟨⟨b, o, rfl, k1, k2, k3⟩, _⟩ := hv
        refine ⟨.slice (some ⟨b, o, none⟩) n n, ⟨.inr ⟨b, o, n, rfl, Nat.le_refl _, by simp only [maxLen]; omega, k1, k2, hg _ _ k3⟩, rfl⟩, fun w' => ?_⟩
        simp only [Instr.sliceAt, Sem.run_bind, run_underlying hu, Result.andThen_ok, Instr.sureAddr, Sem.run_pure, Instr.sliceBounds, run_sizeOf' hi']
        simp [Addr.add]
      · cases e
    · cases e
  unfold slicev at e
  split at e
  · rename_i s hu
    cases e
    obtain ⟨rfl, _⟩ := hx
    have hb := ha.1
    exact ⟨_, ⟨rfl, rfl⟩, fun w' => by simp [Instr.sliceAt, Instr.slice, run_underlying hu, bounds false s.size s.size (Nat.le_refl _) hb]⟩
  · rename_i el n sz g hu
    split at e
    · rename_i q hi'
      split at e
      · rename_i hq
        cases e
        have hb := ha.1
        obtain ⟨hx, _⟩ := hx
        rcases hx with ⟨⟨a0, c0, rfl⟩, rfl⟩ | ⟨b, o, cap, rfl, k1, k2, k3, k4, k5⟩
        · refine ⟨.slice (if c0 = 0 then a0 else a0.map (·.add 0)) 0 c0, ⟨.inl ⟨⟨_, c0, rfl⟩, by omega⟩, rfl⟩, fun w' => ?_⟩
          have e1 : (lo.getD 0).toNat = 0 := by omega
          have e2 : (hi.getD (0 : Nat)).toNat = 0 := by omega
          have := bounds true 0 c0 (Nat.zero_le _) hb w'
          rw [e1, e2] at this
          simp [Instr.sliceAt, Instr.slice, run_underlying hu, this, run_sizeOf' hi']
        · refine ⟨.slice (if cap = (lo.getD 0).toNat then some ⟨b, o, none⟩ else some ⟨b, o + (lo.getD 0).toNat * q.size, none⟩) ((hi.getD n).toNat - (lo.getD 0).toNat) (cap - (lo.getD 0).toNat), ⟨.inr ?_, rfl⟩, fun w' => ?_⟩
          · by_cases hc : cap = (lo.getD 0).toNat
            · rw [if_pos hc]
              exact ⟨b, o, _, rfl, by omega, by omega, k3, k4, fun i hi => by omega⟩
            · rw [if_neg hc]
              refine ⟨b, _, _, rfl, by omega, by omega, k3, k4, fun i hi => ?_⟩
              have := k5 ((lo.getD 0).toNat + i) (by omega)
              refine ⟨this.1, ?_⟩
              rw [hq]
              rw [Nat.add_mul, ← Nat.add_assoc] at this
              exact this.2
          · have := bounds true n cap k1 hb w'
            simp only [Instr.sliceAt, Instr.slice, Sem.run_bind, run_underlying hu, Result.andThen_ok, this, run_sizeOf' hi', Sem.run_pure, Option.map_some, Addr.add_lit]
      · cases e
    · cases e
  · rename_i n el n' sz g hu
    split at e
    · rename_i q hi'
      split at e
      · rename_i hc
        obtain ⟨rfl, hq, hm, rfl, rfl⟩ := hc
        cases e
        exact whole n' el q _ _ g hu hi' hm hx (fun L o hm i hi => hm i hi) rfl rfl
      · cases e
    · cases e
  · rename_i n el k n' g hu
    split at e
    · rename_i q hi'
      split at e
      · rename_i hc
        obtain ⟨rfl, hq, hm, rfl, rfl⟩ := hc
        cases e
        refine whole n' el q _ _ _ hu hi' hm hx (fun L o hm i hi => ?_) rfl rfl
        have k1 : (VR x (.int k (g i))).m L (o + i) := ⟨_, hm i hi, rfl, rfl⟩
        rw [Nat.mul_one]
        exact ⟨rfl, k1⟩
      · cases e
    · cases e
  · cases e

theorem slicem_ok {P : Program} {x : Cx} {T : TypeId} {dx dm : D} {lo hi : Option Int} {ob : List Prop} {d : D} (e : slicem P T dx lo hi dm = some (ob, d)) (ha : All ob) {vx vm : Value} (hx : (VR x dx).v vx) (hm : (VR x dm).v vm) {vl vh : Option Value}
    (hl : (lo = none ∧ vl = none) ∨ ∃ i k, lo = some i ∧ vl = some (.int k i)) (hh : (hi = none ∧ vh = none) ∨ ∃ i k, hi = some i ∧ vh = some (.int k i)) : ∃ v, (VR x d).v v ∧ ∀ w', (Instr.sliceAt T vx vl vh (some vm)).run P w' = .ok v w' := by
  unfold slicem at e
  split at e
  · rename_i el n sz g i k j hu
    rcases hl with ⟨_, rfl⟩ | ⟨_, _, e0, _⟩
    · rcases hh with ⟨e0, _⟩ | ⟨i', k', e0, rfl⟩
      · cases e0
      · cases e0
        split at e
        · rename_i q hi'
          split at e
          · rename_i hq
            cases e
            obtain ⟨hb, hj, _⟩ := ha
            obtain ⟨rfl, _⟩ := hm
            subst hj
            obtain ⟨hx, _⟩ := hx
            rcases hx with ⟨⟨a0, c0, rfl⟩, rfl⟩ | ⟨b, o, cap, rfl, k1, k2, k3, k4, k5⟩
            · have e1 : j = 0 := by omega
              subst e1
              refine ⟨.slice a0 0 0, ⟨.inl ⟨⟨_, 0, rfl⟩, rfl⟩, rfl⟩, fun w' => ?_⟩
              have h1 : ∀ (k : IntKind) (y : Nat) code, (Instr.sliceBound (.int k 0) y code).run P w' = .ok 0 w' := fun k y code => run_sliceBound (by omega) w'
              simp [Instr.sliceAt, Instr.slice, run_underlying hu, Instr.sliceBounds, h1, run_sizeOf' hi']
            · refine ⟨.slice (some ⟨b, o, none⟩) j.toNat j.toNat, ⟨.inr ⟨b, o, j.toNat, rfl, Nat.le_refl _, by omega, k3, k4, fun i hi => k5 i (by omega)⟩, rfl⟩, fun w' => ?_⟩
              have h1 : ∀ (k : IntKind) code, (Instr.sliceBound (.int k j) cap code).run P w' = .ok j.toNat w' := fun k code => run_sliceBound (by omega) w'
              have h2 : ∀ (k : IntKind) code, (Instr.sliceBound (.int k j) j.toNat code).run P w' = .ok j.toNat w' := fun k code => run_sliceBound (by omega) w'
              simp [Instr.sliceAt, Instr.slice, run_underlying hu, Instr.sliceBounds, h1, h2, run_sizeOf' hi', Addr.add]
          · cases e
        · cases e
    · cases e0
  · cases e

theorem slicev2_ok {P : Program} {X : Nat → Prop} {ρ : Hnd} {h : Heap} {w : World} (hh0 : HRel X ρ h w) {T : TypeId} {dx : D} {lo hi : Option Int} {ob : List Prop} {d : D} (e : slicev2 P h T dx lo hi = some (ob, d)) (ha : All ob) {vx : Value} (hx : (VR (cx X ρ w) dx).v vx) {vl vh : Option Value}
    (hl : (lo = none ∧ vl = none) ∨ ∃ i k, lo = some i ∧ vl = some (.int k i)) (hh : (hi = none ∧ vh = none) ∨ ∃ i k, hi = some i ∧ vh = some (.int k i)) : ∃ v, (VR (cx X ρ w) d).v v ∧ ∀ w', (Instr.sliceAt T vx vl vh none).run P w' = .ok v w' := by
  have bounds : ∀ (b : Bool) (len cap : Nat), len ≤ cap → 0 ≤ lo.getD 0 ∧ lo.getD 0 ≤ hi.getD len ∧ hi.getD len ≤ len → ∀ w, (Instr.sliceBounds b len cap vl vh none).run P w = .ok ((lo.getD 0).toNat, (hi.getD len).toNat, cap) w := fun b len cap htc hb w => by
    rcases hh with ⟨rfl, rfl⟩ | ⟨i, k, rfl, rfl⟩ <;> rcases hl with ⟨rfl, rfl⟩ | ⟨j, k', rfl, rfl⟩ <;> simp only [Option.getD_none, Option.getD_some] at hb ⊢
    · simp [Instr.sliceBounds]
    · have h1 : ∀ code, (Instr.sliceBound (.int k' j) len code).run P w = .ok j.toNat w := fun code => run_sliceBound (by omega) w
      simp [Instr.sliceBounds, h1]
    · have h1 : ∀ code, (Instr.sliceBound (.int k i) cap code).run P w = .ok i.toNat w := fun code => run_sliceBound (by omega) w
      simp [Instr.sliceBounds, h1]
    · have h1 : ∀ code, (Instr.sliceBound (.int k i) cap code).run P w = .ok i.toNat w := fun code => run_sliceBound (by omega) w
      have h2 : ∀ code, (Instr.sliceBound (.int k' j) i.toNat code).run P w = .ok j.toNat w := fun code => run_sliceBound (by omega) w
      simp [Instr.sliceBounds, h1, h2]
  unfold slicev2 at e
  split at e
  · rename_i el r hu
    split at e
    · rename_i q el' n sz dr hi' hr
      split at e
      · rename_i hq
        cases e
        have hb := ha.1
        obtain ⟨u, k1, k2, k3⟩ := hh0.live r _ hr
        obtain ⟨⟨o, h1, h2⟩, _⟩ := hx
        have hvu := h2 u (Option.some.inj (h1.symm.trans k1))
        rcases k3 with ⟨rfl, rfl, _⟩ | ⟨b, cap, cur, rfl, k4, k5, _⟩
        · obtain ⟨a0, rfl⟩ : ∃ a, vx = .slice a 0 0 := hvu.elim (fun e => ⟨none, e⟩) fun e => e.2
          have e1 : (lo.getD 0).toNat = 0 := by omega
          have e2 : (hi.getD (0 : Nat)).toNat = 0 := by omega
          refine ⟨.slice a0 0 0, ⟨⟨_, k1, fun u' eu => by cases eu; exact .inl ⟨rfl, e1, by omega, _, rfl⟩⟩, rfl⟩, fun w' => ?_⟩
          have := bounds true 0 0 (Nat.le_refl _) hb w'
          rw [e1, e2] at this
          simp [Instr.sliceAt, Instr.slice, run_underlying hu, this, run_sizeOf' hi']
        · obtain rfl : vx = _ := hvu.resolve_right (by simp)
          refine ⟨.slice (some ⟨b, if cap = (lo.getD 0).toNat then 0 else (lo.getD 0).toNat * sz, none⟩) ((hi.getD n).toNat - (lo.getD 0).toNat) (cap - (lo.getD 0).toNat), ⟨⟨_, k1, fun u' eu => by cases eu; exact .inr ⟨b, n, cap, rfl, by omega, rfl⟩⟩, rfl⟩, fun w' => ?_⟩
          have := bounds true n cap k5 hb w'
          simp only [Instr.sliceAt, Instr.slice, Sem.run_bind, run_underlying hu, Result.andThen_ok, this, run_sizeOf' hi', Sem.run_pure, Option.map_some, Addr.add_lit, hq]
          by_cases hc : cap = (lo.getD 0).toNat
          · simp [hc]
          · simp [hc]
      · cases e
    · cases e
  · exact slicev_ok e ha hx hl hh

theorem run_equalIn_sliceNil {P : Program} (d : Nat) {t e : TypeId} (c : Nat) (hu : P.underlying t = some (.slice e)) (w : World) : (Op.equalIn (d + 1) t (.slice none 0 c) (.slice none 0 0)).run P w = .ok true w := by
  simp [Op.equalIn, run_underlying hu]
theorem run_equalIn_sliceSome {P : Program} (d : Nat) {t e : TypeId} (a : Addr) (n c : Nat) (hu : P.underlying t = some (.slice e)) (w : World) : (Op.equalIn (d + 1) t (.slice (some a) n c) (.slice none 0 0)).run P w = .ok false w := by
  simp [Op.equalIn, run_underlying hu]

section
variable {P : Program} {X : Nat → Prop} {ρ : Hnd} {h : Heap} {w : World} {env : Env} {a : Act} {g : Bool}

theorem binv3_ok (hh : HRel X ρ h w) {op : BinOp} {t : TypeId} {dx dy : D} {ob : List Prop} {d : D} {vx vy : Value} {q : Operand} (h3 : binv3 P h op t q dx dy = some (ob, d)) (ha : All ob) (hx : (VR (cx X ρ w) dx).v vx) (hy : (VR (cx X ρ w) dy).v vy) (p : Operand) (hq : ∀ c, q = .const c → vy = c) :
    ∃ v, (VR (cx X ρ w) d).v v ∧ ∀ w, (do eqGuard op t p q vx vy; binOp op t vx vy : Sem Value).run P w = .ok v w := by
  unfold binv3 at h3
  have isP : isNilP q = true → vy = .pointer none := fun hn => by
    unfold isNilP at hn
    split at hn
    · exact hq _ rfl
    · cases hn
  have isS : isNilS q = true → vy = .slice none 0 0 := fun hn => by
    unfold isNilS at hn
    split at hn
    · exact hq _ rfl
    · cases hn
  split at h3
  · rename_i r pa hn
    obtain rfl := isP hn
    simp only [Option.bind_eq_some_iff] at h3
    obtain ⟨dr, hr, h3⟩ := h3
    obtain ⟨u, b, _, _, rfl⟩ := live_ptr hh hr hx
    split at h3
    · rename_i e hu
      cases h3
      exact ⟨_, ⟨rfl, rfl⟩, fun w => by rw [Sem.run_bind, guard_plain (by simp) (by simp)]; exact eql_of rfl (run_equalIn_nil 9999 _ hu) w⟩
    · rename_i e hu
      cases h3
      exact ⟨_, ⟨rfl, rfl⟩, fun w => by rw [Sem.run_bind, guard_plain (by simp) (by simp)]; exact neq_of rfl (run_equalIn_nil 9999 _ hu) w⟩
    · cases h3
  · obtain rfl := isS (by assumption)
    obtain ⟨a0, n0, c0, rfl⟩ : ∃ a n c, vx = .slice (some a) n c := by
      obtain ⟨⟨⟨hl, _⟩, hne⟩, _⟩ := hx
      rcases hl with ⟨⟨a, c, rfl⟩, _⟩ | ⟨b, o, cap, rfl, _⟩
      · cases a with
        | some a => exact ⟨a, 0, c, rfl⟩
        | none => exact (hne 0 c rfl).elim
      · exact ⟨_, _, _, rfl⟩
    split at h3
    · rename_i e hu
      cases h3
      exact ⟨_, ⟨rfl, rfl⟩, fun w => by rw [Sem.run_bind, guard_plain (by simp) (by simp)]; exact eql_of rfl (run_equalIn_sliceSome 9999 _ _ _ hu) w⟩
    · rename_i e hu
      cases h3
      exact ⟨_, ⟨rfl, rfl⟩, fun w => by rw [Sem.run_bind, guard_plain (by simp) (by simp)]; exact neq_of rfl (run_equalIn_sliceSome 9999 _ _ _ hu) w⟩
    · cases h3
  · obtain rfl := isS (by assumption)
    obtain ⟨rfl, _⟩ := hx
    split at h3
    · rename_i e hu
      cases h3
      exact ⟨_, ⟨rfl, rfl⟩, fun w => by rw [Sem.run_bind, guard_plain (by simp) (by simp)]; exact eql_of rfl (run_equalIn_sliceNil 9999 0 hu) w⟩
    · rename_i e hu
      cases h3
      exact ⟨_, ⟨rfl, rfl⟩, fun w => by rw [Sem.run_bind, guard_plain (by simp) (by simp)]; exact neq_of rfl (run_equalIn_sliceNil 9999 0 hu) w⟩
    · cases h3
  · obtain rfl := isS (by assumption)
    obtain ⟨⟨c, rfl⟩, _⟩ := hx
    split at h3
    · rename_i e hu
      cases h3
      exact ⟨_, ⟨rfl, rfl⟩, fun w => by rw [Sem.run_bind, guard_plain (by simp) (by simp)]; exact eql_of rfl (run_equalIn_sliceNil 9999 c hu) w⟩
    · rename_i e hu
      cases h3
      exact ⟨_, ⟨rfl, rfl⟩, fun w => by rw [Sem.run_bind, guard_plain (by simp) (by simp)]; exact neq_of rfl (run_equalIn_sliceNil 9999 c hu) w⟩
    · cases h3
  · exact binv2_ok h3 ha hx hy p fun e => hq _ e

/-- THE LAW: an operation that only reads leaves what 'oval' says, in this world and in whichever later one in which what stood stands. -/
theorem oval_ok (hh : HRel X ρ h w) (he : ERel (cx X ρ w) env a.tmps) (hg : g = true) {op : Op} {ob : List Prop} {d : D} (e : oval P g env h op = some (ob, d)) (ha : All ob) :
    ∃ v, (VR (cx X ρ w) d).v v ∧ ∀ (o : Oper), o.op = op → ∀ w', Same w w' → (execOp a.eval o).run P w' = .ok (.value v) w' := by
  cases op <;> simp only [oval, reduceCtorEq, Option.bind_eq_some_iff, Option.map_eq_some_iff, Prod.mk.injEq] at e
  case move x => exact ⟨_, rd_ok he hg e ha, fun o ho w' _ => by simp [execOp, ho]⟩
  case assign x => exact ⟨_, rd_ok he hg e ha, fun o ho w' _ => by simp [execOp, ho]⟩
  case pick c x y =>
    obtain ⟨q, h1, h2⟩ := e
    split at h2
    · rename_i t hq
      simp only [Option.bind_eq_some_iff] at h2
      obtain ⟨qa, h3, qb, h4, h5⟩ := h2
      split at h5
      · rename_i bx by' hx hy
        cases h5
        obtain ⟨⟨a1, a2⟩, a3⟩ := (All_append.1 ha).imp All_append.1 id
        have vc := rd_ok he hg h1 a1
        rw [hq] at vc
        obtain ⟨vc, _⟩ := vc
        cases t with
        | true =>
          have va := rd_ok he (by rw [hg]; rfl) h3 a2
          rw [hx] at va
          exact ⟨_, va, fun o ho w' _ => by simp [execOp, ho, vc, asBool]⟩
        | false =>
          have va := rd_ok he (by rw [hg]; rfl) h4 a3
          rw [hy] at va
          exact ⟨_, va, fun o ho w' _ => by simp [execOp, ho, vc, asBool]⟩
      · cases h5
    · cases h2
  case load T x =>
    obtain ⟨qx, h1, q, h2, rfl, rfl⟩ := e
    obtain ⟨a1, a2⟩ := All_append.1 ha
    obtain ⟨v, r1, r2⟩ := loadv_ok (P := P) hh h2 a2 (rd_ok he hg h1 a1)
    exact ⟨v, r1, fun o ho w' hs => by simp [execOp, ho, r2 w' hs]⟩
  case nilCheck x =>
    obtain ⟨q, h1, h2⟩ := e
    have hv := fun a1 => rd_ok he hg h1 a1
    split at h2
    · rename_i dl hq
      cases h2
      have hv := hv ha; rw [hq] at hv
      obtain ⟨⟨b, o, ev, _⟩, _⟩ := id hv
      rw [ev] at hv
      exact ⟨_, hv, fun o ho w' _ => by simp [execOp, ho, ev]⟩
    · rename_i f c hq
      cases h2
      have hv := hv ha; rw [hq] at hv
      obtain ⟨⟨cs, ev, _⟩, _⟩ := id hv
      rw [ev] at hv
      exact ⟨_, hv, fun o ho w' _ => by simp [execOp, ho, ev]⟩
    · rename_i r p hq
      simp only [Option.map_eq_some_iff, Prod.mk.injEq] at h2
      obtain ⟨dr, hr, rfl, rfl⟩ := h2
      have hv := hv ha; rw [hq] at hv
      obtain ⟨u, b, _, _, ev⟩ := live_ptr hh hr hv
      rw [ev] at hv
      exact ⟨_, hv, fun o ho w' _ => by simp [execOp, ho, ev]⟩
    · cases h2
  case binOp op t x y yt =>
    obtain ⟨qx, h1, qy, h2, q, h3, rfl, rfl⟩ := e
    obtain ⟨a12, a3⟩ := All_append.1 ha
    obtain ⟨a1, a2⟩ := All_append.1 a12
    obtain ⟨v, r1, r2⟩ := binv3_ok (P := P) hh h3 a3 (rd_ok he hg h1 a1) (rd_ok he hg h2 a2) x fun c e => by subst e; rfl
    refine ⟨v, r1, fun o ho w' _ => ?_⟩
    have := r2 w'
    simp only [Sem.run_bind] at this
    simp only [execOp, ho, Sem.run_bind, this, Result.andThen_ok, Sem.run_pure]
  case unOp op t x =>
    obtain ⟨qx, h1, q, h2, rfl, rfl⟩ := e
    obtain ⟨a1, _⟩ := All_append.1 ha
    obtain ⟨v, r1, r2⟩ := unv_ok (P := P) h2 (rd_ok he hg h1 a1)
    exact ⟨v, r1, fun o ho w' _ => by simp [execOp, ho, r2]⟩
  case convert s t x =>
    obtain ⟨qx, h1, q, h2, rfl, rfl⟩ := e
    obtain ⟨a1, _⟩ := All_append.1 ha
    unfold cbv at h2
    split at h2
    · rename_i q' hq'
      cases h2
      obtain ⟨v, r1, r2⟩ := convv_ok (P := P) hq' (rd_ok he hg h1 a1)
      exact ⟨v, r1, fun o ho w' _ => by simp [execOp, ho, r2]⟩
    · obtain ⟨v, r1, r2⟩ := bytesv_ok (P := P) hh h2 (All_append.1 ha).2 (rd_ok he hg h1 a1)
      exact ⟨v, r1, fun o ho w' hs => by simp [execOp, ho, r2 w' hs]⟩
  case slice T x lo hi mx =>
    cases mx with
    | some mx =>
      simp only [Option.bind_eq_some_iff, Option.map_eq_some_iff, Prod.mk.injEq] at e
      obtain ⟨qx, h1, ql, h2, qh, h3, qm, h5, q, h4, rfl, rfl⟩ := e
      obtain ⟨a123, a45⟩ := All_append.1 ha
      obtain ⟨a5, a4⟩ := All_append.1 a45
      obtain ⟨a12, a3⟩ := All_append.1 a123
      obtain ⟨a1, a2⟩ := All_append.1 a12
      obtain ⟨v, r1, r2⟩ := slicem_ok (P := P) h4 a4 (rd_ok he hg h1 a1) (rd_ok he hg h5 a5) (rdOpt_ok he hg h2 a2) (rdOpt_ok he hg h3 a3)
      exact ⟨v, r1, fun o ho w' _ => by simp [execOp, ho, r2]⟩
    | none =>
      simp only [Option.bind_eq_some_iff, Option.map_eq_some_iff, Prod.mk.injEq] at e
      obtain ⟨qx, h1, ql, h2, qh, h3, q, h4, rfl, rfl⟩ := e
      obtain ⟨a123, a4⟩ := All_append.1 ha
      obtain ⟨a12, a3⟩ := All_append.1 a123
      obtain ⟨a1, a2⟩ := All_append.1 a12
      obtain ⟨v, r1, r2⟩ := slicev2_ok (P := P) hh h4 a4 (rd_ok he hg h1 a1) (rdOpt_ok he hg h2 a2) (rdOpt_ok he hg h3 a3)
      exact ⟨v, r1, fun o ho w' _ => by simp [execOp, ho, r2]⟩
  case fieldAddr T x j =>
    obtain ⟨qx, h1, q, h2, rfl, rfl⟩ := e
    obtain ⟨a1, _⟩ := All_append.1 ha
    obtain ⟨v, r1, r2⟩ := fieldv_ok (P := P) hh h2 (rd_ok he hg h1 a1)
    exact ⟨v, r1, fun o ho w' _ => by simp [execOp, ho, r2]⟩
  case field T x j =>
    obtain ⟨qx, h1, q, h2, rfl, rfl⟩ := e
    obtain ⟨a1, _⟩ := All_append.1 ha
    obtain ⟨v, r1, r2⟩ := fieldval_ok (P := P) h2 (rd_ok he hg h1 a1)
    exact ⟨v, r1, fun o ho w' _ => by simp [execOp, ho, r2]⟩
  case indexAddr T x i =>
    obtain ⟨qx, h1, qi, h2, n, h3, q, h4, rfl, rfl⟩ := e
    obtain ⟨a12, a3⟩ := All_append.1 ha
    obtain ⟨a1, a2⟩ := All_append.1 a12
    have vi := rd_ok he hg h2 a2
    obtain ⟨obi, di⟩ := qi
    cases di <;> simp only [idxOf, reduceCtorEq, Option.some.injEq] at h3
    rename_i k n
    subst h3
    obtain ⟨v, r1, r2⟩ := indexv_ok (P := P) (k := k) hh h4 a3 (rd_ok he hg h1 a1)
    exact ⟨v, r1, fun o ho w' _ => by simp [execOp, ho, vi.1, r2]⟩
  case index T x i =>
    obtain ⟨qx, h1, qi, h2, n, h3, q, h4, rfl, rfl⟩ := e
    obtain ⟨a12, a3⟩ := All_append.1 ha
    obtain ⟨a1, a2⟩ := All_append.1 a12
    have vi := rd_ok he hg h2 a2
    obtain ⟨obi, di⟩ := qi
    cases di <;> simp only [idxOf, reduceCtorEq, Option.some.injEq] at h3
    rename_i k n
    subst h3
    obtain ⟨v, r1, r2⟩ := indexval_ok (P := P) (k := k) h4 a3 (rd_ok he hg h1 a1)
    exact ⟨v, r1, fun o ho w' _ => by simp [execOp, ho, vi.1, r2]⟩
  case extract x j =>
    obtain ⟨q, h1, h2⟩ := e
    split at h2
    · rename_i vs hq
      simp only [Option.map_eq_some_iff, Prod.mk.injEq] at h2
      obtain ⟨d', h3, rfl, rfl⟩ := h2
      have hv := rd_ok he hg h1 ha
      rw [hq] at hv
      obtain ⟨cs, ev, hc⟩ := hv
      obtain ⟨u, k1, k2⟩ := partN_c j h3 hc
      rw [Nat.zero_add] at k1
      exact ⟨u, k2, fun o ho w' _ => by simp [execOp, ho, ev, Instr.extract, k1]⟩
    · cases h2
end

end Go.Pod
