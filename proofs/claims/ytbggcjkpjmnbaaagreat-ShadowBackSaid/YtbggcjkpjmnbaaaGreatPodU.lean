/- Arguments of any plain type, as trees, with what their slices and strings may take. -/
import Derived.Test.YtbggcjkpjmnbaaaGreatPodT
import Derived.SizedLaws
namespace Go.Pod
open Go

inductive TyS where
  | bool
  | int (k : IntKind)
  | str
  | ints (k : IntKind) (n : Nat)
  | arr (n : Nat) (e : TyS)
  | unit
  | pair (a b : TyS)
  | slice (e : TyS) (b : Nat)

def TyS.size : TyS → Nat
  | .ints _ n => n
  | .arr n e => n * e.size
  | .unit => 0
  | .pair a b => a.size + b.size
  | _ => 1

/-- A tree of a type, its numbers in range. -/
def TypS : TyS → D → Prop
  | .bool, d => ∃ b, d = .bool b
  | .int k, d => ∃ n, (Lit.int k n).wf = true ∧ d = .int k n
  | .str, d => ∃ s : ByteArray, s.size ≤ reachBytes ∧ d = .str s
  | .ints k n, d => ∃ g, (∀ i, i < n → (Lit.int k (g i)).wf = true) ∧ d = .ints k n g
  | .arr n e, d => ∃ g, (∀ i, i < n → TypS e (g i)) ∧ d = .arr n e.size g
  | .unit, d => d = .nil
  | .pair a b, d => ∃ x y, TypS a x ∧ TypS b y ∧ d = .cons x y
  | .slice e b, d => ∃ n g, n ≤ maxLen ∧ n * b ≤ reachBytes ∧ (∀ i, i < n → TypS e (g i)) ∧ d = .lit n e.size g

theorem TypS.size : ∀ {t : TyS} {d : D}, TypS t d → d.size = t.size
  | .bool, _, ⟨_, e⟩ => by subst e; rfl
  | .int _, _, ⟨_, _, e⟩ => by subst e; rfl
  | .str, _, ⟨_, _, e⟩ => by subst e; rfl
  | .ints _ _, _, ⟨_, _, e⟩ => by subst e; rfl
  | .arr _ _, _, ⟨_, _, e⟩ => by subst e; rfl
  | .unit, _, e => by subst e; rfl
  | .pair _ _, _, ⟨_, _, h1, h2, e⟩ => by subst e; simp only [D.size, TyS.size, h1.size, h2.size]
  | .slice _ _, _, ⟨_, _, _, _, _, e⟩ => by subst e; rfl

def tyOfS (P : Program) : Nat → TypeId → Option TyS
  | 0, _ => none
  | f + 1, t => match P.underlying t with
    | some .bool => some .bool
    | some (.int k) => some (.int k)
    | some .string => some .str
    | some (.slice e) => (tyOfS P f e).bind fun a => if P.cellsOf e = a.size ∧ 0 < a.size then some (.slice a (P.bytesOf e)) else none
    | some (.array n e) => (tyOfS P f e).bind fun a => if P.cellsOf e = a.size ∧ P.cellsOf t = n * a.size ∧ 0 < a.size then some (match a with
      | .int k => .ints k n
      | a => .arr n a) else none
    | some (.struct fs) => (tyF f fs.toList 0).bind fun a => if P.cellsOf t = a.size then some a else none
    | _ => none
where
  tyF : Nat → List Field → Nat → Option TyS
    | 0, _, _ => none
    | _ + 1, [], _ => some .unit
    | f + 1, x :: r, o => (tyOfS P f x.type).bind fun a => if P.cellsOf x.type = a.size ∧ x.offset = o then (tyF f r (o + a.size)).map fun b => .pair a b else none

section
variable {H : Type} {enc : TypeId × Value → H} {P : Program} {w : World} {base : Nat} {sp : Nat → Bool} {held : Bool}

/-- Cells that are read at a type read as a tree of it. -/
def ReadsS (w : World) (T : TyS) (cs : List Value) : Prop := cs.length = T.size ∧ ∃ d, TypS T d ∧ ∀ (L : Look) (o : Nat), (∀ i, i < cs.length → L (o + i) = cs[i]?) → (VR (cx0 w) d).m L o

theorem weightsAll_mem {e : TypeId} {n : Nat} : ∀ {l : List (DataW H)} {d : DataW H}, d ∈ l → n ∈ d.weights P e → n ∈ DataW.weightsAll P e l
  | [], _, h, _ => by cases h
  | x :: l, d, h, hn => by
    simp only [DataW.weightsAll, List.mem_append]
    rcases List.mem_cons.1 h with rfl | h
    · exact .inl hn
    · exact .inr (weightsAll_mem h hn)

mutual
theorem open_tyS : ∀ (f : Nat) {t : TypeId} {T : TyS}, tyOfS P f t = some T → ∀ {fuel : Nat} {cs : List Value} {y : DataW H × List MemPlace}, DataW.trod enc P w base sp held fuel t cs = some y → (∀ n ∈ y.1.weights P t, n ≤ reachBytes) → ReadsS w T cs
  | 0, _, _, h, _, _, _, _, _ => by simp [tyOfS] at h
  | f + 1, t, T, h, fuel, cs, y, hd, hw => by
    simp only [tyOfS] at h
    split at h
    · rename_i hu
      cases h
      obtain ⟨b, rfl, _⟩ := DataW.trod_bool hu hd
      exact ⟨rfl, _, ⟨b, rfl⟩, fun L o hL => cell_leaf (p := fun v => v = .bool b) rfl rfl hL⟩
    · rename_i k hu
      cases h
      obtain ⟨n, rfl, _, hw⟩ := DataW.trod_int hu hd
      exact ⟨rfl, _, ⟨n, hw, rfl⟩, fun L o hL => cell_leaf (p := fun v => v = .int k n) rfl rfl hL⟩
    · rename_i hu
      cases h
      obtain ⟨s, rfl, rfl, _⟩ := DataW.trod_string hu hd
      have hb := hw s.data.toList.length (by simp only [DataW.weights, List.mem_singleton])
      have hs : s.size ≤ reachBytes := by rw [show s.size = s.data.toList.length by rw [Array.length_toList]; rfl]; exact hb
      exact ⟨rfl, _, ⟨s, hs, rfl⟩, fun L o hL => cell_leaf (p := fun v => v = .string s) rfl rfl hL⟩
    · rename_i e hu
      simp only [Option.bind_eq_some_iff] at h
      obtain ⟨a, h1, h2⟩ := h
      split at h2
      · rename_i hc
        cases h2
        obtain ⟨hce, hpos⟩ := hc
        rcases DataW.trod_slice hu hd with ⟨rfl, _⟩ | ⟨ad, len, cap, elems, rest, n, rfl, rfl, rfl, _, hlc, hcm, hel, helems, _⟩
        · exact ⟨rfl, .lit 0 a.size (fun _ => .junk), ⟨0, _, Nat.zero_le _, by rw [Nat.zero_mul]; exact Nat.zero_le _, fun i hi => absurd hi (Nat.not_lt_zero i), rfl⟩, fun L o hL => cell_leaf (.inl ⟨⟨none, 0, rfl⟩, rfl⟩) rfl hL⟩
        · have hwn : (elems.length + rest.length) * P.bytesOf e ≤ reachBytes := hw ((elems.length + rest.length) * P.bytesOf e) (by simp only [DataW.weights, hu, List.length_map, List.mem_cons, true_or])
          have hsz : len * P.bytesOf e ≤ reachBytes := Nat.le_trans (Nat.mul_le_mul_right _ (by omega)) hwn
          have hwe : ∀ i (hi : i < elems.length), ∀ m ∈ elems[i].1.weights P e, m ≤ reachBytes := fun i hi m hm => hw m (by
            have := weightsAll_mem (l := elems.map (·.1)) (List.mem_map.2 ⟨_, List.getElem_mem hi, rfl⟩) hm
            simp only [DataW.weights, hu, List.mem_cons, List.mem_append, this, true_or, or_true])
          have key : ∀ i, i < len → ∃ d, TypS a d ∧ ∃ cs', w.cells? base (ad.add (i * P.cellsOf e)) (P.cellsOf e) = some cs' ∧ cs'.length = a.size ∧ ∀ (L : Look) (o : Nat), (∀ i, i < cs'.length → L (o + i) = cs'[i]?) → (VR (cx0 w) d).m L o := fun i hi => by
            have := helems i hi
            have hi' : i < elems.length := by omega
            rw [List.getElem?_eq_getElem hi', Option.bind_eq_some_iff] at this
            obtain ⟨cs', k1, k2⟩ := this
            obtain ⟨r1, d, r2, r3⟩ := open_tyS f h1 k2 (hwe i hi')
            exact ⟨d, r2, cs', k1, r1, r3⟩
          obtain ⟨g, hg⟩ := choice_lt key
          have hlm : len ≤ maxLen := Nat.le_trans hlc hcm
          refine ⟨rfl, .lit len a.size g, ⟨len, g, hlm, hsz, fun i hi => (hg i hi).1, rfl⟩, fun L o hL => cell_leaf ?_ rfl hL⟩
          by_cases h0 : len = 0
          · exact .inl ⟨⟨some ad, cap, by rw [h0]⟩, h0⟩
          · have cellsAt : ∀ i, i < len → ∀ j, j < a.size → ∃ cs' : List Value, w.cell? ((ad.add (i * a.size)).add j) = cs'[j]? ∧ j < cs'.length ∧ cs'.length = a.size ∧ w.cells? base (ad.add (i * P.cellsOf e)) (P.cellsOf e) = some cs' := fun i hi j hj => by
              obtain ⟨_, cs', k1, k2, _⟩ := hg i hi
              have k1' := k1
              unfold World.cells? at k1'
              split at k1'
              · have := mapM_get _ _ k1' j j (by rw [hce]; simp [hj])
                exact ⟨cs', by rw [this, hce], by omega, k2, k1⟩
              · cases k1'
            obtain ⟨cs0, c1, c2, _⟩ := cellsAt 0 (by omega) 0 hpos
            have hspot : ad.spot = none := by
              have : ad.add (0 * a.size) = ad := by simp [Addr.add]
              rw [this] at c1
              have h2 : ad.add 0 = ad := by simp [Addr.add]
              rw [h2] at c1
              unfold World.cell? at c1
              rw [List.getElem?_eq_getElem c2] at c1
              split at c1
              · cases hsp : ad.spot with
                | none => rfl
                | some s => rw [hsp] at c1; simp at c1
              · cases c1
            obtain ⟨b, of, spot⟩ := ad
            have hsp : spot = none := hspot
            subst hsp
            refine .inr ⟨b, of, cap, rfl, hlc, hcm, fun hb => ?_, ?_, fun i hi => ?_⟩
            · rcases hb with hb | ⟨_, _, hb, _⟩
              · exact hb
              · cases hb
            · have : w.cell? ⟨b, of, none⟩ = cs0[0]? := by
                have e1 : (Addr.add (Addr.add ⟨b, of, none⟩ (0 * a.size)) 0) = ⟨b, of, none⟩ := by simp [Addr.add]
                rw [e1] at c1; exact c1
              unfold World.cell? at this
              rw [List.getElem?_eq_getElem c2] at this
              split at this
              · rename_i hh; exact (Array.getElem?_eq_some_iff.1 hh).1
              · cases this
            · obtain ⟨ht, cs', k1, k2, k3⟩ := hg i hi
              refine ⟨ht.size, k3 _ _ fun j hj => ?_⟩
              obtain ⟨cs2, e1, _, _, e4⟩ := cellsAt i hi j (by omega)
              rw [k1] at e4
              cases e4
              rw [Addr.add_lit, Addr.add_lit] at e1
              exact e1
      · cases h2
    · rename_i n e hu
      simp only [Option.bind_eq_some_iff] at h
      obtain ⟨a, h1, h2⟩ := h
      split at h2
      · rename_i hc
        obtain ⟨hce, hct, hpos⟩ := hc
        cases fuel with
        | zero => simp [DataW.trod] at hd
        | succ fuel =>
        have hd' := hd
        unfold DataW.trod at hd'
        simp only [hu] at hd'
        split at hd'
        · rename_i hlen
          simp only [Option.map_eq_some_iff] at hd'
          obtain ⟨xs, hx, rfl⟩ := hd'
          have hwa : ∀ i (hi : i < xs.length), ∀ m ∈ xs[i].1.weights P e, m ≤ reachBytes := fun i hi m hm => hw m (by
            have := weightsAll_mem (l := xs.map (·.1)) (List.mem_map.2 ⟨_, List.getElem_mem hi, rfl⟩) hm
            simp only [DataW.weights, hu]
            exact this)
          have key : ∀ i, i < n → ∃ d, TypS a d ∧ ((cs.drop (i * a.size)).take a.size).length = a.size ∧ ∀ (L : Look) (o : Nat), (∀ j, j < a.size → L (o + j) = cs[i * a.size + j]?) → (VR (cx0 w) d).m L o := fun i hi => by
            have hl : xs.length = n := by have := mapM_len hx; simpa using this
            have := mapM_get _ _ hx i i (by simp [hi])
            rw [List.getElem?_eq_getElem (by omega), hce] at this
            obtain ⟨r1, d, r2, r3⟩ := open_tyS f h1 this.symm (hwa i (by omega))
            exact ⟨d, r2, r1, fun L o hL => r3 L o fun j hj => by rw [r1] at hj; rw [hL j hj, (sub_get hj r1).1]⟩
          have hlen' : cs.length = n * a.size := by omega
          have gen : T = .arr n a → ReadsS w T cs := fun eT => by
            subst eT
            obtain ⟨g, hg⟩ := choice_lt key
            exact ⟨hlen', .arr n a.size g, ⟨g, fun i hi => (hg i hi).1, rfl⟩, fun L o hL i hi => ⟨(hg i hi).1.size, (hg i hi).2.2 L _ fun j hj => by
              have hle : (i + 1) * a.size ≤ n * a.size := Nat.mul_le_mul_right _ hi
              rw [Nat.add_mul, Nat.one_mul] at hle
              rw [Nat.add_assoc]; exact hL _ (by omega)⟩⟩
          cases a
          case int k =>
            cases h2
            have key2 : ∀ i, i < n → ∃ m : Int, (Lit.int k m).wf = true ∧ cs[i]? = some (.int k m) := fun i hi => by
              obtain ⟨d, ⟨m, hw, rfl⟩, hl, hr⟩ := key i hi
              obtain ⟨u, e1, rfl, _⟩ := hr (fun j => cs[i * 1 + j]?) 0 (fun j _ => by simp [TyS.size])
              exact ⟨m, hw, by simpa using e1⟩
            obtain ⟨g, hg⟩ := choice_int key2
            exact ⟨by simpa [TyS.size] using hlen', .ints k n g, ⟨g, fun i hi => (hg i hi).1, rfl⟩, fun L o hL i hi => (hL i (by simp only [TyS.size, Nat.mul_one] at hlen'; omega)).trans (hg i hi).2⟩
          all_goals (cases h2; exact gen rfl)
        · cases hd'
      · cases h2
    · rename_i fs hu
      simp only [Option.bind_eq_some_iff] at h
      obtain ⟨a, h1, h2⟩ := h
      split at h2
      · rename_i hct
        cases h2
        obtain ⟨xs, n, rfl, rfl, hlen, hxl, hfs⟩ := DataW.trod_struct hu hd
        have hall : ∀ (i : Nat) (x : Field), fs.toList[i]? = some x → ∃ y, DataW.trod enc P w base sp held n x.type ((cs.drop x.offset).take (P.cellsOf x.type)) = some y ∧ ∀ m ∈ y.1.weights P x.type, m ≤ reachBytes := fun i x e => by
          have e' : fs[i]? = some x := by simpa using e
          have := hfs i x e'
          have hi : i < xs.length := by rw [hxl]; exact (Array.getElem?_eq_some_iff.1 e').1
          exact ⟨xs[i], by rw [this, List.getElem?_eq_getElem hi], fun m hm => hw m (by
            have := DataW.weights_mem_each (P := P) (ts := fs.toList.map (·.type)) (ds := xs.map (·.1)) (j := i) (t := x.type) (d := xs[i].1) (by simp [e']) (by simp [hi]) m hm
            simp only [DataW.weights, hu]
            exact this)⟩
        obtain ⟨d, k1, k2⟩ := open_tySF f h1 hall
        exact ⟨by omega, d, k1, fun L o hL => k2 L o fun i hi => by have := hL i (by omega); simpa using this⟩
      · cases h2
    · cases h
theorem open_tySF : ∀ (f : Nat) {fs : List Field} {off : Nat} {T : TyS}, tyOfS.tyF P f fs off = some T → ∀ {n : Nat} {cs : List Value}, (∀ (i : Nat) (x : Field), fs[i]? = some x → ∃ y, DataW.trod enc P w base sp held n x.type ((cs.drop x.offset).take (P.cellsOf x.type)) = some y ∧ ∀ m ∈ y.1.weights P x.type, m ≤ reachBytes) →
    ∃ d, TypS T d ∧ ∀ (L : Look) (o : Nat), (∀ i, i < T.size → L (o + i) = cs[off + i]?) → (VR (cx0 w) d).m L o
  | 0, _, _, _, h, _, _, _ => by simp [tyOfS.tyF] at h
  | f + 1, [], off, T, h, n, cs, _ => by
    simp only [tyOfS.tyF, Option.some.injEq] at h
    subst h
    exact ⟨.nil, rfl, fun L o _ => trivial⟩
  | f + 1, x :: r, off, T, h, n, cs, hall => by
    simp only [tyOfS.tyF, Option.bind_eq_some_iff] at h
    obtain ⟨a, h1, h2⟩ := h
    split at h2
    · rename_i hc
      obtain ⟨hce, rfl⟩ := hc
      simp only [Option.map_eq_some_iff] at h2
      obtain ⟨b, h3, rfl⟩ := h2
      obtain ⟨y, hy, hyw⟩ := hall 0 x rfl
      rw [hce] at hy
      obtain ⟨r1, d1, r2, r3⟩ := open_tyS f h1 hy hyw
      obtain ⟨d2, q1, q2⟩ := open_tySF f h3 (fun i z e => hall (i + 1) z (by simpa using e))
      refine ⟨.cons d1 d2, ⟨d1, d2, r2, q1, rfl⟩, fun L o hL => ⟨r3 L o fun j hj => ?_, ?_⟩⟩
      · rw [r1] at hj
        rw [hL j (by simp only [TyS.size]; omega), (sub_get hj r1).1]
      · rw [r2.size]
        refine q2 L _ fun j hj => ?_
        have := hL (a.size + j) (by simp only [TyS.size]; omega)
        rw [← Nat.add_assoc] at this
        rw [this, Nat.add_assoc]
    · cases h2
end

/-- Is a type a struct's or an array's? -/
def TyS.ag : TyS → Bool
  | .ints _ _ | .arr _ _ | .unit | .pair _ _ => true
  | _ => false

theorem typ_agS : ∀ {T : TyS} {d : D}, TypS T d → d.isAg = T.ag
  | .bool, _, ⟨_, e⟩ => by subst e; rfl
  | .int _, _, ⟨_, _, e⟩ => by subst e; rfl
  | .str, _, ⟨_, _, e⟩ => by subst e; rfl
  | .ints _ _, _, ⟨_, _, e⟩ => by subst e; rfl
  | .arr _ _, _, ⟨_, _, e⟩ => by subst e; rfl
  | .unit, _, e => by subst e; rfl
  | .pair _ _, _, ⟨_, _, _, _, e⟩ => by subst e; rfl
  | .slice _ _, _, ⟨_, _, _, _, _, e⟩ => by subst e; rfl

/-- An argument of any plain type. -/
theorem open_argS {f : Nat} {t : TypeId} {T : TyS} (h : tyOfS P f t = some T) {r : Reach} {b0 : Nat} {v : Value} {d : DataW H} {ps : List MemPlace} (hval : Value.okWide P w r b0 t v) (hd : DataW.Trod enc P w base sp held t v d ps) (hw : ∀ n ∈ d.weights P t, n ≤ reachBytes) : ∃ e : D, TypS T e ∧ (VR (cx0 w) e).v v := by
  obtain ⟨fuel, hf⟩ := hd
  obtain ⟨r1, e, r2, r3⟩ := open_tyS f h hf hw
  refine ⟨e, r2, ?_⟩
  have hm := r3 (fun i => v.cells[i]?) 0 (fun i _ => by simp)
  have leafy : e.isAg = false → (∀ cs, v ≠ .agg cs) → (VR (cx0 w) e).v v := fun ha hna => by
    obtain ⟨_, u, e1, e2⟩ := VR_leafcell ha hm
    have : v.cells = #[v] := by cases v <;> first | rfl | exact absurd rfl (hna _)
    rw [this] at e1
    simp at e1
    rwa [← e1] at e2
  cases f with
  | zero => simp [tyOfS] at h
  | succ f =>
    have hag := typ_agS r2
    have hsz : v.cells.size = e.size := by rw [r2.size, ← r1]; simp
    have agg : (∃ cs : Array Value, v = .agg cs) → e.isAg = true → (VR (cx0 w) e).v v := fun ⟨cs, hv⟩ ha => by
      subst hv
      exact VR_pick ha hm (by simpa [Value.cells] using hsz) fun i hi => by simp [Value.cells]
    simp only [tyOfS] at h
    unfold Value.okWide at hval
    split at h
    · rename_i hu; cases h; rw [hu] at hval
      refine leafy hag fun cs e => ?_
      subst e; simp [Cell.okWide, hu, Cell.ok] at hval
    · rename_i k hu; cases h; rw [hu] at hval
      refine leafy hag fun cs e => ?_
      subst e; simp [Cell.okWide, hu, Cell.ok] at hval
    · rename_i hu; cases h; rw [hu] at hval
      refine leafy hag fun cs e => ?_
      subst e; simp [Cell.okWide, hu, Cell.ok] at hval
    · rename_i el hu; rw [hu] at hval
      simp only [Option.bind_eq_some_iff] at h
      obtain ⟨a, _, h2⟩ := h
      split at h2
      · cases h2
        refine leafy hag fun cs e => ?_
        subst e; simp [Cell.okWide, hu, Cell.ok] at hval
      · cases h2
    · rename_i n el hu; rw [hu] at hval
      obtain ⟨cs, hv, _⟩ := hval
      simp only [Option.bind_eq_some_iff] at h
      obtain ⟨a, _, h2⟩ := h
      split at h2
      · cases h2
        refine agg ⟨cs, hv⟩ ?_
        rw [hag]; cases a <;> rfl
      · cases h2
    · rename_i fs hu; rw [hu] at hval
      obtain ⟨cs, hv, _⟩ := hval
      simp only [Option.bind_eq_some_iff] at h
      obtain ⟨a, h1, h2⟩ := h
      split at h2
      · cases h2
        refine agg ⟨cs, hv⟩ ?_
        rw [hag]
        cases f with
        | zero => simp [tyOfS.tyF] at h1
        | succ f =>
          cases hfs : fs.toList with
          | nil => rw [hfs] at h1; simp only [tyOfS.tyF, Option.some.injEq] at h1; subst h1; rfl
          | cons x r =>
            rw [hfs] at h1
            simp only [tyOfS.tyF, Option.bind_eq_some_iff] at h1
            obtain ⟨b, _, h3⟩ := h1
            split at h3
            · simp only [Option.map_eq_some_iff] at h3
              obtain ⟨c, _, rfl⟩ := h3
              rfl
            · cases h3
      · cases h2
    · cases h
end

/-! ### Arguments as the printed functions take them -/

/-- How a tree of a type is had as plain data. -/
def OpnS (T : TyS) (α : Type) (wf : α → Prop) (toD : α → D) : Prop := ∀ d, TypS T d → ∃ x : α, wf x ∧ Sub d (toD x)

theorem opns_bool : OpnS .bool Bool (fun _ => True) D.bool := fun _ ⟨b, e⟩ => ⟨b, trivial, e ▸ Sub.refl _⟩
theorem opns_int (k : IntKind) : OpnS (.int k) Int (fun n => (Lit.int k n).wf = true) (D.int k) := fun _ ⟨n, w, e⟩ => ⟨n, w, e ▸ Sub.refl _⟩
theorem opns_str : OpnS .str ByteArray (fun s => s.size ≤ reachBytes) D.str := fun _ ⟨s, w, e⟩ => ⟨s, w, e ▸ Sub.refl _⟩
theorem opns_ints (k : IntKind) (n : Nat) : OpnS (.ints k n) (Nat → Int) (fun g => ∀ i, i < n → (Lit.int k (g i)).wf = true) (D.ints k n) := fun _ ⟨g, w, e⟩ => ⟨g, w, e ▸ Sub.refl _⟩

theorem opns_arr {T : TyS} {α : Type} {wf : α → Prop} {toD : α → D} (z : α) (h : OpnS T α wf toD) (n : Nat) : OpnS (.arr n T) (Nat → α) (fun g => ∀ i, i < n → wf (g i)) (fun g => .arr n T.size fun i => toD (g i)) := by
  rintro d ⟨g, w, rfl⟩
  obtain ⟨f, hf⟩ := choice_any z fun i hi => h (g i) (w i hi)
  exact ⟨f, fun i hi => (hf i hi).1, sub_arr fun i hi => (hf i hi).2⟩

theorem opns_slice {T : TyS} {α : Type} {wf : α → Prop} {toD : α → D} (z : α) (h : OpnS T α wf toD) (b : Nat) : OpnS (.slice T b) (Nat × (Nat → α)) (fun p => p.1 ≤ maxLen ∧ p.1 * b ≤ reachBytes ∧ ∀ i, i < p.1 → wf (p.2 i)) (fun p => .lit p.1 T.size fun i => toD (p.2 i)) := by
  rintro d ⟨n, g, hn, hb, w, rfl⟩
  obtain ⟨f, hf⟩ := choice_any z fun i hi => h (g i) (w i hi)
  exact ⟨(n, f), ⟨hn, hb, fun i hi => (hf i hi).1⟩, sub_lit fun i hi => (hf i hi).2⟩

end Go.Pod
