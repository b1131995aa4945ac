/- A reading of machine values as typed trees, which holds while memory grows: the ground of the proofs over this translation. -/
import Derived.WalkKit
import Derived.KernelRfl
import Derived.Deep.Quiet
import Derived.StillTail
namespace Go.Pod
open Go

/-- A step of a path into a tree: a field of a struct (its number, where its cells begin), an element (its index, how many cells each has). -/
inductive Stp where
  | fld (j off : Nat)
  | idx (i sz : Nat)

def Stp.off : Stp → Nat
  | .fld _ o => o
  | .idx i sz => i * sz

def pathOff : List Stp → Nat
  | [] => 0
  | s :: p => s.off + pathOff p

theorem pathOff_snoc (p : List Stp) (s : Stp) : pathOff (p ++ [s]) = pathOff p + s.off := by
  induction p with
  | nil => simp [pathOff]
  | cons a p ih => simp [pathOff, ih, Nat.add_assoc]

/-- Data as trees. 'nil', 'cons': a struct's fields, a tuple's parts. 'ints': an array of whole numbers. 'arr': an array of whatever. 'ptr': into a row of the call's own; 'own': a slice that is a whole row of the call's own. 'lptr', 'lit': a pointer to, a slice of, what nobody writes any more. 'gd': known only where a test says yes. 'z0': a slice that is nil; 'is': what memory has no say in; 'err': an error, of which it is known whether there is one; 'ifc': a value in an interface; 'nn': a slice that is not nil; 'view': a part of a slice that is a row. -/
inductive D where
  | bool (b : Bool)
  | int (k : IntKind) (n : Int)
  | str (s : ByteArray)
  | ints (k : IntKind) (n : Nat) (g : Nat → Int)
  | nil
  | cons (a b : D)
  | arr (n sz : Nat) (g : Nat → D)
  | ptr (r : Nat) (p : List Stp)
  | lptr (d : D)
  | nilp
  | nils
  | own (r : Nat)
  | lit (n sz : Nat) (g : Nat → D)
  | fn (f : FuncId) (caps : D)
  | nilf
  | z0
  | is (p : Value → Prop)
  | err (b : Bool)
  | ifc (t : TypeId) (d : D)
  | nn (d : D)
  | view (r lo m sz : Nat)
  | tup (vs : D)
  | gd (b : Bool) (d : D)
  | junk

def D.size : D → Nat
  | .ints _ n _ => n
  | .nil => 0
  | .cons a b => a.size + b.size
  | .arr n sz _ => n * sz
  | _ => 1

/-- May it lie in memory, with all its cells? (asked of the head alone) -/
def D.solid : D → Bool
  | .junk | .gd _ _ | .tup _ => false
  | _ => true

/-- Is it a struct or an array (a value of several cells)? -/
def D.isAg : D → Bool
  | .ints _ _ _ | .nil | .cons _ _ | .arr _ _ _ => true
  | _ => false

/-- What a reading leans on: the rows' handles ('none': no such row yet; 'some none': a row of which nobody asks any more), the blocks that may be written, the world. -/
structure Cx where
  ρ : Nat → Option (Option Value)
  av : Nat → Prop
  w : World

abbrev Look := Nat → Option Value

/-- The block of a handle. -/
def blkOf : Value → Option Nat
  | .pointer (some a) => some a.block
  | .slice (some a) _ _ => some a.block
  | _ => none

def memL (w : World) (b : Nat) : Look := fun i => w.cell? ⟨b, i, none⟩

/-- A reading: of a value; of memory from a place on; of a list of values from a place on. -/
structure RD where
  v : Value → Prop
  m : Look → Nat → Prop
  c : Array Value → Nat → Prop

def leaf (p : Value → Prop) : RD := { v := fun v => p v ∧ v.oneCell' = true, m := fun L o => ∃ u, L o = some u ∧ p u ∧ u.oneCell' = true, c := fun _ _ => False }
def aggr (n : Nat) (m : Look → Nat → Prop) (c : Array Value → Nat → Prop) : RD := { v := fun v => ∃ cs : Array Value, v = .agg cs ∧ cs.size = n ∧ m (fun i => cs[i]?) 0, m := m, c := c }
def only (p : Value → Prop) : RD := { v := p, m := fun _ _ => False, c := fun _ _ => False }

def VR (x : Cx) : D → RD
  | .bool b => leaf fun v => v = .bool b
  | .int k n => leaf fun v => v = .int k n
  | .str s => leaf fun v => v = .string s
  | .ints k n g => aggr n (fun L o => ∀ i, i < n → L (o + i) = some (.int k (g i))) (fun _ _ => False)
  | .nil => aggr 0 (fun _ _ => True) (fun cs i => cs.size = i)
  | .cons a b => aggr (a.size + b.size) (fun L o => (VR x a).m L o ∧ (VR x b).m L (o + a.size)) (fun cs i => (∃ u, cs[i]? = some u ∧ (VR x a).v u) ∧ (VR x b).c cs (i + 1))
  | .arr n sz g => aggr (n * sz) (fun L o => ∀ i, i < n → (g i).size = sz ∧ (VR x (g i)).m L (o + i * sz)) (fun _ _ => False)
  | .ptr r p => leaf fun v => ∃ o, x.ρ r = some o ∧ ∀ u, o = some u → ∃ b, blkOf u = some b ∧ v = .pointer (some ⟨b, pathOff p, none⟩)
  | .lptr d => leaf fun v => ∃ b o, v = .pointer (some ⟨b, o, none⟩) ∧ ¬ x.av b ∧ b < x.w.heap.size ∧ (VR x d).m (memL x.w b) o
  | .nilp => leaf fun v => v = .pointer none
  | .nils => leaf fun v => v = .slice none 0 0
  | .own r => leaf fun v => ∃ o, x.ρ r = some o ∧ ∀ u, o = some u → v = u ∨ (u = .slice none 0 0 ∧ ∃ a, v = .slice a 0 0)
  | .lit n sz g => leaf fun v => ((∃ a c, v = .slice a 0 c) ∧ n = 0) ∨
      ∃ b o cap, v = .slice (some ⟨b, o, none⟩) n cap ∧ n ≤ cap ∧ cap ≤ maxLen ∧ ¬ x.av b ∧ b < x.w.heap.size ∧ ∀ i, i < n → (g i).size = sz ∧ (VR x (g i)).m (memL x.w b) (o + i * sz)
  | .fn f caps => leaf fun v => ∃ cs : Array Value, v = .func (.func f) #[] cs ∧ (VR x caps).c cs 0
  | .nilf => leaf fun v => v = .nilFunc
  | .z0 => leaf fun v => ∃ c, v = .slice none 0 c
  | .is p => leaf p
  | .err b => leaf fun v => if b then v = .nilIface else ∃ t u, v = .iface t u
  | .ifc t d => leaf fun v => ∃ u, v = .iface t u ∧ (VR x d).v u
  | .nn d => leaf fun v => (VR x d).v v ∧ ∀ n c, v ≠ .slice none n c
  | .view r lo m sz => leaf fun v => ∃ o, x.ρ r = some o ∧ ∀ u, o = some u → (u = .slice none 0 0 ∧ lo = 0 ∧ m = 0 ∧ ∃ a, v = .slice a 0 0) ∨ (∃ b n cap, u = .slice (some ⟨b, 0, none⟩) n cap ∧ lo + m ≤ cap ∧ v = .slice (some ⟨b, if cap = lo then 0 else lo * sz, none⟩) m (cap - lo))
  | .tup vs => only fun v => ∃ cs : Array Value, v = .tuple cs ∧ (VR x vs).c cs 0
  | .gd b d => only fun v => (b = true → (VR x d).v v) ∧ (b = false → v = undef)
  | .junk => only fun _ => True

/-- Which rows data speak of. -/
def D.In (S : Nat → Prop) : D → Prop
  | .cons a b => a.In S ∧ b.In S
  | .arr n _ g => ∀ i, i < n → (g i).In S
  | .ptr r _ => S r
  | .own r => S r
  | .lptr d => d.In S
  | .lit n _ g => ∀ i, i < n → (g i).In S
  | .fn _ d => d.In S
  | .ifc _ d => d.In S
  | .nn d => d.In S
  | .view r _ _ _ => S r
  | .tup d => d.In S
  | .gd _ d => d.In S
  | _ => True

/-- 'y' is as good a place to read in as 'x' was, of what speaks of the rows S alone: handles are kept or forgotten; what may be written is what might be or is new; all else in memory stands. -/
structure Cx.leS (S : Nat → Prop) (x y : Cx) : Prop where
  ρ : ∀ r, S r → x.ρ r = none ∨ y.ρ r = some none ∨ y.ρ r = x.ρ r
  av : ∀ b, y.av b → x.av b ∨ x.w.heap.size ≤ b
  size : x.w.heap.size ≤ y.w.heap.size
  block : ∀ b, b < x.w.heap.size → ¬ x.av b → y.w.heap[b]? = x.w.heap[b]?

def Cx.le (x y : Cx) : Prop := Cx.leS (fun _ => True) x y

theorem Cx.leS.at {S : Nat → Prop} {x y : Cx} (h : x.leS S y) {r : Nat} (hr : S r) {o : Option Value} (e : x.ρ r = some o) : y.ρ r = some none ∨ y.ρ r = some o := by
  rcases h.ρ r hr with h' | h' | h'
  · rw [h'] at e; cases e
  · exact .inl h'
  · exact .inr (h'.trans e)

theorem memL_of_block {w w' : World} {b : Nat} (h : w'.heap[b]? = w.heap[b]?) : memL w' b = memL w b := by
  funext i; simp [memL, World.cell?, h]

structure RD.le (p q : RD) : Prop where
  v : ∀ v, p.v v → q.v v
  m : ∀ L o, p.m L o → q.m L o
  c : ∀ cs i, p.c cs i → q.c cs i

theorem leaf_le {p q : Value → Prop} (h : ∀ v, p v → q v) : (leaf p).le (leaf q) :=
  ⟨fun _ hp => ⟨h _ hp.1, hp.2⟩, fun _ _ ⟨u, h1, h2, h3⟩ => ⟨u, h1, h _ h2, h3⟩, fun _ _ h => h.elim⟩
theorem only_le {p q : Value → Prop} (h : ∀ v, p v → q v) : (only p).le (only q) :=
  ⟨fun _ hp => h _ hp, fun _ _ h => h.elim, fun _ _ h => h.elim⟩
theorem aggr_le {n : Nat} {m m' : Look → Nat → Prop} {c c' : Array Value → Nat → Prop} (h : ∀ L o, m L o → m' L o) (hc : ∀ cs i, c cs i → c' cs i) : (aggr n m c).le (aggr n m' c') :=
  ⟨fun _ ⟨cs, h1, h2, h3⟩ => ⟨cs, h1, h2, h _ _ h3⟩, h, hc⟩

theorem VR_leS {S : Nat → Prop} {x y : Cx} (h : x.leS S y) : ∀ (d : D), d.In S → (VR x d).le (VR y d)
  | .bool _, _ => leaf_le fun _ h => h
  | .int _ _, _ => leaf_le fun _ h => h
  | .str _, _ => leaf_le fun _ h => h
  | .ints _ _ _, _ => aggr_le (fun _ _ h => h) fun _ _ h => h
  | .nil, _ => aggr_le (fun _ _ h => h) fun _ _ h => h
  | .cons a b, hS => aggr_le (fun L o hm => ⟨(VR_leS h a hS.1).m L o hm.1, (VR_leS h b hS.2).m L _ hm.2⟩)
      (fun cs i hc => ⟨let ⟨u, h1, h2⟩ := hc.1; ⟨u, h1, (VR_leS h a hS.1).v u h2⟩, (VR_leS h b hS.2).c cs _ hc.2⟩)
  | .arr _ _ g, hS => aggr_le (fun L o hm i hi => ⟨(hm i hi).1, (VR_leS h (g i) (hS i hi)).m L _ (hm i hi).2⟩) (fun _ _ h => h)
  | .ptr r _, hS => leaf_le fun v ⟨o, ho, hv⟩ => by
      rcases h.at hS ho with h' | h'
      · exact ⟨none, h', fun u e => by cases e⟩
      · exact ⟨o, h', hv⟩
  | .lptr d, hS => leaf_le fun v ⟨b, o, h1, h2, h3, h4⟩ => ⟨b, o, h1, fun hb => (h.av b hb).elim h2 (by omega), Nat.lt_of_lt_of_le h3 h.size, by
      rw [memL_of_block (h.block b h3 h2)]; exact (VR_leS h d hS).m _ _ h4⟩
  | .nilp, _ => leaf_le fun _ h => h
  | .nils, _ => leaf_le fun _ h => h
  | .own r, hS => leaf_le fun v ⟨o, ho, hv⟩ => by
      rcases h.at hS ho with h' | h'
      · exact ⟨none, h', fun u e => by cases e⟩
      · exact ⟨o, h', hv⟩
  | .lit _ _ g, hS => leaf_le fun v hv => hv.imp id fun ⟨b, o, cap, h1, h2, h2', h3, h4, h5⟩ => ⟨b, o, cap, h1, h2, h2', fun hb => (h.av b hb).elim h3 (by omega), Nat.lt_of_lt_of_le h4 h.size, fun i hi => ⟨(h5 i hi).1, by
      rw [memL_of_block (h.block b h4 h3)]; exact (VR_leS h (g i) (hS i hi)).m _ _ (h5 i hi).2⟩⟩
  | .fn _ caps, hS => leaf_le fun v ⟨cs, h1, h2⟩ => ⟨cs, h1, (VR_leS h caps hS).c _ _ h2⟩
  | .nilf, _ => leaf_le fun _ h => h
  | .z0, _ => leaf_le fun _ h => h
  | .is _, _ => leaf_le fun _ h => h
  | .err _, _ => leaf_le fun _ h => h
  | .ifc _ d, hS => leaf_le fun v ⟨u, h1, h2⟩ => ⟨u, h1, (VR_leS h d hS).v _ h2⟩
  | .nn d, hS => leaf_le fun v ⟨h1, h2⟩ => ⟨(VR_leS h d hS).v _ h1, h2⟩
  | .view r _ _ _, hS => leaf_le fun v ⟨o, ho, hv⟩ => by
      rcases h.at hS ho with h' | h'
      · exact ⟨none, h', fun u e => by cases e⟩
      · exact ⟨o, h', hv⟩
  | .tup vs, hS => only_le fun v ⟨cs, h1, h2⟩ => ⟨cs, h1, (VR_leS h vs hS).c _ _ h2⟩
  | .gd _ d, hS => only_le fun v hv => ⟨fun hb => (VR_leS h d hS).v _ (hv.1 hb), hv.2⟩
  | .junk, _ => only_le fun _ h => h

theorem D.In_mono {S T : Nat → Prop} (h : ∀ r, S r → T r) : ∀ d : D, d.In S → d.In T
  | .bool _, _ => trivial
  | .int _ _, _ => trivial
  | .str _, _ => trivial
  | .ints _ _ _, _ => trivial
  | .nil, _ => trivial
  | .cons a b, hs => ⟨D.In_mono h a hs.1, D.In_mono h b hs.2⟩
  | .arr _ _ g, hs => fun i hi => D.In_mono h (g i) (hs i hi)
  | .ptr _ _, hs => h _ hs
  | .lptr d, hs => D.In_mono h d hs
  | .nilp, _ => trivial
  | .nils, _ => trivial
  | .own _, hs => h _ hs
  | .lit _ _ g, hs => fun i hi => D.In_mono h (g i) (hs i hi)
  | .fn _ d, hs => D.In_mono h d hs
  | .nilf, _ => trivial
  | .z0, _ => trivial
  | .is _, _ => trivial
  | .err _, _ => trivial
  | .ifc _ d, hs => D.In_mono h d hs
  | .nn d, hs => D.In_mono h d hs
  | .view _ _ _ _, hs => h _ hs
  | .tup d, hs => D.In_mono h d hs
  | .gd _ d, hs => D.In_mono h d hs
  | .junk, _ => trivial

theorem D.In_true : ∀ d : D, d.In (fun _ => True)
  | .bool _ => trivial
  | .int _ _ => trivial
  | .str _ => trivial
  | .ints _ _ _ => trivial
  | .nil => trivial
  | .cons a b => ⟨D.In_true a, D.In_true b⟩
  | .arr _ _ g => fun i _ => D.In_true (g i)
  | .ptr _ _ => trivial
  | .lptr d => D.In_true d
  | .nilp => trivial
  | .nils => trivial
  | .own _ => trivial
  | .lit _ _ g => fun i _ => D.In_true (g i)
  | .fn _ d => D.In_true d
  | .nilf => trivial
  | .z0 => trivial
  | .is _ => trivial
  | .err _ => trivial
  | .ifc _ d => D.In_true d
  | .nn d => D.In_true d
  | .view _ _ _ _ => trivial
  | .tup d => D.In_true d
  | .gd _ d => D.In_true d
  | .junk => trivial

theorem VR_le {x y : Cx} (h : x.le y) (d : D) : (VR x d).le (VR y d) := VR_leS h d (D.In_true d)

theorem Cx.le.refl (x : Cx) : x.le x := ⟨fun _ _ => .inr (.inr rfl), fun _ h => .inl h, Nat.le_refl _, fun _ _ _ => rfl⟩
theorem Cx.le.trans {x y z : Cx} (h : x.le y) (k : y.le z) : x.le z where
  ρ := fun r _ => by
    rcases h.ρ r trivial with e | e | e <;> rcases k.ρ r trivial with e' | e' | e'
    · exact .inl e
    · exact .inl e
    · exact .inl e
    · rw [e'] at e; cases e
    · exact .inr (.inl e')
    · exact .inr (.inl (e'.trans e))
    · exact .inl (e.symm.trans e')
    · exact .inr (.inl e')
    · exact .inr (.inr (e'.trans e))
  av := fun b hb => (k.av b hb).elim (h.av b) fun e => .inr (Nat.le_trans h.size e)
  size := Nat.le_trans h.size k.size
  block := fun b hb hn => (k.block b (Nat.lt_of_lt_of_le hb h.size) fun hy => (h.av b hy).elim hn (by omega)).trans (h.block b hb hn)

/-! ### The cells of a value -/

/-- A value of several cells has as many as its tree, and each is one cell. -/
theorem VR_size {x : Cx} {d : D} (hs : d.solid = true) {v : Value} (h : (VR x d).v v) : v.cells.size = d.size := by
  cases d <;> simp only [D.solid, Bool.false_eq_true] at hs <;> simp only [VR, leaf, aggr] at h <;> simp only [D.size]
  case ints => obtain ⟨cs, rfl, h1, _⟩ := h; exact h1
  case nil => obtain ⟨cs, rfl, h1, _⟩ := h; exact h1
  case cons => obtain ⟨cs, rfl, h1, _⟩ := h; exact h1
  case arr => obtain ⟨cs, rfl, h1, _⟩ := h; exact h1
  all_goals
    have h2 := h.2
    cases v <;> simp [Value.oneCell'] at h2 <;> rfl

/-- Memory that reads as a tree: each of its cells is there and is one cell. -/
theorem VR_one {x : Cx} : ∀ (d : D) {L : Look} {o : Nat}, (VR x d).m L o → ∀ i, i < d.size → ∃ u, L (o + i) = some u ∧ u.oneCell' = true
  | .ints k n g, L, o, h, i, hi => ⟨_, h i hi, rfl⟩
  | .nil, L, o, h, i, hi => absurd hi (Nat.not_lt_zero i)
  | .cons a b, L, o, h, i, hi => by
    simp only [D.size] at hi
    by_cases hlt : i < a.size
    · exact VR_one a h.1 i hlt
    · have := VR_one b h.2 (i - a.size) (by omega)
      rwa [show o + a.size + (i - a.size) = o + i by omega] at this
  | .arr n sz g, L, o, h, i, hi => by
    simp only [D.size] at hi
    have hz : 0 < sz := Nat.pos_of_ne_zero fun e => by subst e; simp at hi
    have hd : i / sz < n := (Nat.div_lt_iff_lt_mul hz).2 hi
    obtain ⟨h1, h2⟩ := h (i / sz) hd
    have := VR_one (g (i / sz)) h2 (i % sz) (by rw [h1]; exact Nat.mod_lt _ hz)
    have e := Nat.div_add_mod i sz
    rwa [show o + i / sz * sz + i % sz = o + i by rw [Nat.mul_comm] at e; omega] at this
  | .bool _, L, o, ⟨u, h1, _, h3⟩, i, hi => by simp only [D.size, Nat.lt_one_iff] at hi; subst hi; exact ⟨u, h1, h3⟩
  | .int _ _, L, o, ⟨u, h1, _, h3⟩, i, hi => by simp only [D.size, Nat.lt_one_iff] at hi; subst hi; exact ⟨u, h1, h3⟩
  | .str _, L, o, ⟨u, h1, _, h3⟩, i, hi => by simp only [D.size, Nat.lt_one_iff] at hi; subst hi; exact ⟨u, h1, h3⟩
  | .ptr _ _, L, o, ⟨u, h1, _, h3⟩, i, hi => by simp only [D.size, Nat.lt_one_iff] at hi; subst hi; exact ⟨u, h1, h3⟩
  | .lptr _, L, o, ⟨u, h1, _, h3⟩, i, hi => by simp only [D.size, Nat.lt_one_iff] at hi; subst hi; exact ⟨u, h1, h3⟩
  | .nilp, L, o, ⟨u, h1, _, h3⟩, i, hi => by simp only [D.size, Nat.lt_one_iff] at hi; subst hi; exact ⟨u, h1, h3⟩
  | .nils, L, o, ⟨u, h1, _, h3⟩, i, hi => by simp only [D.size, Nat.lt_one_iff] at hi; subst hi; exact ⟨u, h1, h3⟩
  | .own _, L, o, ⟨u, h1, _, h3⟩, i, hi => by simp only [D.size, Nat.lt_one_iff] at hi; subst hi; exact ⟨u, h1, h3⟩
  | .lit _ _ _, L, o, ⟨u, h1, _, h3⟩, i, hi => by simp only [D.size, Nat.lt_one_iff] at hi; subst hi; exact ⟨u, h1, h3⟩
  | .fn _ _, L, o, ⟨u, h1, _, h3⟩, i, hi => by simp only [D.size, Nat.lt_one_iff] at hi; subst hi; exact ⟨u, h1, h3⟩
  | .nilf, L, o, ⟨u, h1, _, h3⟩, i, hi => by simp only [D.size, Nat.lt_one_iff] at hi; subst hi; exact ⟨u, h1, h3⟩
  | .z0, L, o, ⟨u, h1, _, h3⟩, i, hi => by simp only [D.size, Nat.lt_one_iff] at hi; subst hi; exact ⟨u, h1, h3⟩
  | .is _, L, o, ⟨u, h1, _, h3⟩, i, hi => by simp only [D.size, Nat.lt_one_iff] at hi; subst hi; exact ⟨u, h1, h3⟩
  | .err _, L, o, ⟨u, h1, _, h3⟩, i, hi => by simp only [D.size, Nat.lt_one_iff] at hi; subst hi; exact ⟨u, h1, h3⟩
  | .ifc _ _, L, o, ⟨u, h1, _, h3⟩, i, hi => by simp only [D.size, Nat.lt_one_iff] at hi; subst hi; exact ⟨u, h1, h3⟩
  | .nn _, L, o, ⟨u, h1, _, h3⟩, i, hi => by simp only [D.size, Nat.lt_one_iff] at hi; subst hi; exact ⟨u, h1, h3⟩
  | .view _ _ _ _, L, o, ⟨u, h1, _, h3⟩, i, hi => by simp only [D.size, Nat.lt_one_iff] at hi; subst hi; exact ⟨u, h1, h3⟩
  | .tup _, L, o, h, _, _ => h.elim
  | .gd _ _, L, o, h, _, _ => h.elim
  | .junk, L, o, h, _, _ => h.elim

/-- A reading of memory looks at no cell beyond. -/
theorem VR_look {x : Cx} : ∀ (d : D) {L L' : Look} {o o' : Nat}, (∀ i, i < d.size → L' (o' + i) = L (o + i)) → (VR x d).m L o → (VR x d).m L' o'
  | .ints k n g, L, L', o, o', e, h => fun i hi => (e i hi).trans (h i hi)
  | .nil, _, _, _, _, _, _ => trivial
  | .cons a b, L, L', o, o', e, h => by
    refine ⟨VR_look a (fun i hi => e i (by simp only [D.size]; omega)) h.1, VR_look b (fun i hi => ?_) h.2⟩
    have := e (a.size + i) (by simp only [D.size]; omega)
    rwa [← Nat.add_assoc, ← Nat.add_assoc] at this
  | .arr n sz g, L, L', o, o', e, h => fun i hi => by
    refine ⟨(h i hi).1, VR_look (g i) (fun j hj => ?_) (h i hi).2⟩
    have h1 := (h i hi).1
    have hlt : i * sz + j < n * sz := by
      have : (i + 1) * sz ≤ n * sz := Nat.mul_le_mul_right sz hi
      rw [Nat.add_mul, Nat.one_mul] at this
      omega
    have := e (i * sz + j) hlt
    rwa [← Nat.add_assoc, ← Nat.add_assoc] at this
  | .bool _, _, _, _, _, e, ⟨u, h1, h2⟩ => ⟨u, (e 0 Nat.zero_lt_one).trans h1, h2⟩
  | .int _ _, _, _, _, _, e, ⟨u, h1, h2⟩ => ⟨u, (e 0 Nat.zero_lt_one).trans h1, h2⟩
  | .str _, _, _, _, _, e, ⟨u, h1, h2⟩ => ⟨u, (e 0 Nat.zero_lt_one).trans h1, h2⟩
  | .ptr _ _, _, _, _, _, e, ⟨u, h1, h2⟩ => ⟨u, (e 0 Nat.zero_lt_one).trans h1, h2⟩
  | .lptr _, _, _, _, _, e, ⟨u, h1, h2⟩ => ⟨u, (e 0 Nat.zero_lt_one).trans h1, h2⟩
  | .nilp, _, _, _, _, e, ⟨u, h1, h2⟩ => ⟨u, (e 0 Nat.zero_lt_one).trans h1, h2⟩
  | .nils, _, _, _, _, e, ⟨u, h1, h2⟩ => ⟨u, (e 0 Nat.zero_lt_one).trans h1, h2⟩
  | .own _, _, _, _, _, e, ⟨u, h1, h2⟩ => ⟨u, (e 0 Nat.zero_lt_one).trans h1, h2⟩
  | .lit _ _ _, _, _, _, _, e, ⟨u, h1, h2⟩ => ⟨u, (e 0 Nat.zero_lt_one).trans h1, h2⟩
  | .fn _ _, _, _, _, _, e, ⟨u, h1, h2⟩ => ⟨u, (e 0 Nat.zero_lt_one).trans h1, h2⟩
  | .nilf, _, _, _, _, e, ⟨u, h1, h2⟩ => ⟨u, (e 0 Nat.zero_lt_one).trans h1, h2⟩
  | .z0, _, _, _, _, e, ⟨u, h1, h2⟩ => ⟨u, (e 0 Nat.zero_lt_one).trans h1, h2⟩
  | .is _, _, _, _, _, e, ⟨u, h1, h2⟩ => ⟨u, (e 0 Nat.zero_lt_one).trans h1, h2⟩
  | .err _, _, _, _, _, e, ⟨u, h1, h2⟩ => ⟨u, (e 0 Nat.zero_lt_one).trans h1, h2⟩
  | .ifc _ _, _, _, _, _, e, ⟨u, h1, h2⟩ => ⟨u, (e 0 Nat.zero_lt_one).trans h1, h2⟩
  | .nn _, _, _, _, _, e, ⟨u, h1, h2⟩ => ⟨u, (e 0 Nat.zero_lt_one).trans h1, h2⟩
  | .view _ _ _ _, _, _, _, _, e, ⟨u, h1, h2⟩ => ⟨u, (e 0 Nat.zero_lt_one).trans h1, h2⟩
  | .tup _, _, _, _, _, _, h => h.elim
  | .gd _ _, _, _, _, _, _, h => h.elim
  | .junk, _, _, _, _, _, h => h.elim

/-- A value that reads as a tree, its cells laid from a place on: they read as it. -/
theorem VR_lay {x : Cx} {d : D} (hs : d.solid = true) {v : Value} (h : (VR x d).v v) {L : Look} {o : Nat} (hL : ∀ i, i < v.cells.size → L (o + i) = v.cells[i]?) : (VR x d).m L o := by
  have hz := VR_size hs h
  have lf : ∀ p, VR x d = leaf p → (VR x d).m L o := fun p e => by
    rw [e] at h ⊢
    have h2 := h.2
    have hc : v.cells = #[v] := by cases v <;> simp [Value.oneCell'] at h2 <;> rfl
    exact ⟨v, by have := hL 0 (by simp [hc]); simpa [hc] using this, h.1, h2⟩
  cases d <;> simp only [D.solid, Bool.false_eq_true] at hs
  case ints => obtain ⟨cs, rfl, h1, h2⟩ := h; exact fun i hi => by have := h2 i hi; simp only [Nat.zero_add] at this; rw [hL i (by simpa [Value.cells, h1] using hi)]; exact this
  case nil => trivial
  case cons => obtain ⟨cs, rfl, h1, h2⟩ := h; exact VR_look (D.cons _ _) (L := fun i => cs[i]?) (o := 0) (fun i hi => by rw [hL i (by simpa [Value.cells, h1, D.size] using hi), Nat.zero_add]; rfl) h2
  case arr => obtain ⟨cs, rfl, h1, h2⟩ := h; exact VR_look (D.arr _ _ _) (L := fun i => cs[i]?) (o := 0) (fun i hi => by rw [hL i (by simpa [Value.cells, h1, D.size] using hi), Nat.zero_add]; rfl) h2
  all_goals exact lf _ rfl

/-- Memory that reads as a struct or an array: its cells as one value. -/
theorem VR_pick {x : Cx} {d : D} (ha : d.isAg = true) {L : Look} {o : Nat} (h : (VR x d).m L o) {cs : Array Value} (hn : cs.size = d.size) (hc : ∀ i, i < d.size → cs[i]? = L (o + i)) : (VR x d).v (.agg cs) := by
  cases d <;> simp only [D.isAg, Bool.false_eq_true] at ha
  all_goals exact ⟨cs, rfl, hn, VR_look _ (o := o) (L := L) (fun i hi => (congrArg (fun j => cs[j]?) (Nat.zero_add i)).trans (hc i hi)) h⟩

theorem VR_leafcell {x : Cx} {d : D} (ha : d.isAg = false) {L : Look} {o : Nat} (h : (VR x d).m L o) : d.size = 1 ∧ ∃ u, L o = some u ∧ (VR x d).v u := by
  cases d <;> simp only [D.isAg, Bool.true_eq_false] at ha
  case tup => exact h.elim
  case gd => exact h.elim
  case junk => exact h.elim
  all_goals obtain ⟨u, h1, h2⟩ := h; exact ⟨rfl, u, h1, h2⟩

/-! ### Paths -/

/-- Field 'j' of a struct, which begins at cell 'o'. -/
def fieldD : Nat → D → Nat → Option D
  | 0, .cons a _, o => if o = 0 then some a else none
  | j + 1, .cons a b, o => if a.size ≤ o then fieldD j b (o - a.size) else none
  | _, _, _ => none

/-- What lies at the end of a path; and what has to hold of its indices. -/
def nav : List Stp → D → Option (List Prop × D)
  | [], d => some ([], d)
  | .fld j o :: p, d => (fieldD j d o).bind (nav p)
  | .idx i sz :: p, .ints k n g => if sz = 1 then (nav p (.int k (g i))).map fun q => ((i < n) :: q.1, q.2) else none
  | .idx i sz :: p, .arr n sz' g => if sz = sz' then (nav p (g i)).map fun q => ((i < n) :: q.1, q.2) else none
  | _, _ => none

def All : List Prop → Prop
  | [] => True
  | p :: l => p ∧ All l

theorem field_m {x : Cx} : ∀ (j : Nat) {d d' : D} {o : Nat}, fieldD j d o = some d' → ∀ {L : Look} {b : Nat}, (VR x d).m L b → (VR x d').m L (b + o) ∧ o + d'.size ≤ d.size
  | 0, .cons a c, d', o, h, L, b, hm => by
    simp only [fieldD] at h
    split at h
    · rename_i ho; subst ho; cases h; exact ⟨hm.1, by simp only [D.size]; omega⟩
    · cases h
  | j + 1, .cons a c, d', o, h, L, b, hm => by
    simp only [fieldD] at h
    split at h
    · rename_i ho
      have ⟨h1, h2⟩ := field_m j h hm.2
      refine ⟨by rwa [show b + a.size + (o - a.size) = b + o by omega] at h1, by simp only [D.size]; omega⟩
    · cases h
  | 0, .bool _, _, _, h, _, _, _ | 0, .int _ _, _, _, h, _, _, _ | 0, .str _, _, _, h, _, _, _ | 0, .ints _ _ _, _, _, h, _, _, _ | 0, .nil, _, _, h, _, _, _ | 0, .arr _ _ _, _, _, h, _, _, _
  | 0, .ptr _ _, _, _, h, _, _, _ | 0, .lptr _, _, _, h, _, _, _ | 0, .nilp, _, _, h, _, _, _ | 0, .nils, _, _, h, _, _, _ | 0, .own _, _, _, h, _, _, _ | 0, .lit _ _ _, _, _, h, _, _, _ | 0, .fn _ _, _, _, h, _, _, _
  | 0, .nilf, _, _, h, _, _, _ | 0, .z0, _, _, h, _, _, _ | 0, .is _, _, _, h, _, _, _ | 0, .err _, _, _, h, _, _, _ | 0, .ifc _ _, _, _, h, _, _, _ | 0, .nn _, _, _, h, _, _, _ | 0, .view _ _ _ _, _, _, h, _, _, _ | 0, .tup _, _, _, h, _, _, _ | 0, .gd _ _, _, _, h, _, _, _ | 0, .junk, _, _, h, _, _, _ => by simp [fieldD] at h
  | _ + 1, .bool _, _, _, h, _, _, _ | _ + 1, .int _ _, _, _, h, _, _, _ | _ + 1, .str _, _, _, h, _, _, _ | _ + 1, .ints _ _ _, _, _, h, _, _, _ | _ + 1, .nil, _, _, h, _, _, _ | _ + 1, .arr _ _ _, _, _, h, _, _, _
  | _ + 1, .ptr _ _, _, _, h, _, _, _ | _ + 1, .lptr _, _, _, h, _, _, _ | _ + 1, .nilp, _, _, h, _, _, _ | _ + 1, .nils, _, _, h, _, _, _ | _ + 1, .own _, _, _, h, _, _, _ | _ + 1, .lit _ _ _, _, _, h, _, _, _ | _ + 1, .fn _ _, _, _, h, _, _, _
  | _ + 1, .nilf, _, _, h, _, _, _ | _ + 1, .z0, _, _, h, _, _, _ | _ + 1, .is _, _, _, h, _, _, _ | _ + 1, .err _, _, _, h, _, _, _ | _ + 1, .ifc _ _, _, _, h, _, _, _ | _ + 1, .nn _, _, _, h, _, _, _ | _ + 1, .view _ _ _ _, _, _, h, _, _, _ | _ + 1, .tup _, _, _, h, _, _, _ | _ + 1, .gd _ _, _, _, h, _, _, _ | _ + 1, .junk, _, _, h, _, _, _ => by simp [fieldD] at h

theorem nav_m {x : Cx} : ∀ (p : List Stp) {d d' : D} {ob : List Prop}, nav p d = some (ob, d') → All ob → ∀ {L : Look} {b : Nat}, (VR x d).m L b → (VR x d').m L (b + pathOff p) ∧ pathOff p + d'.size ≤ d.size
  | [], d, d', ob, h, _, L, b, hm => by
    simp only [nav, Option.some.injEq, Prod.mk.injEq] at h
    obtain ⟨_, rfl⟩ := h
    exact ⟨hm, by simp [pathOff]⟩
  | .fld j o :: p, d, d', ob, h, ha, L, b, hm => by
    simp only [nav, Option.bind_eq_some_iff] at h
    obtain ⟨e, h1, h2⟩ := h
    have ⟨k1, k2⟩ := field_m j h1 hm
    have ⟨k3, k4⟩ := nav_m p h2 ha k1
    exact ⟨by simpa [pathOff, Stp.off, Nat.add_assoc] using k3, by simp only [pathOff, Stp.off]; omega⟩
  | .idx i sz :: p, d, d', ob, h, ha, L, b, hm => by
    cases d <;> simp only [nav, reduceCtorEq] at h
    case ints k n g =>
      split at h
      · rename_i hz; subst hz
        simp only [Option.map_eq_some_iff] at h
        obtain ⟨q, h1, h2⟩ := h
        simp only [Prod.mk.injEq] at h2
        obtain ⟨rfl, rfl⟩ := h2
        have k1 : (VR x (.int k (g i))).m L (b + i) := ⟨_, hm i ha.1, rfl, rfl⟩
        have ⟨k3, k4⟩ := nav_m p h1 ha.2 k1
        have := ha.1
        exact ⟨by simpa [pathOff, Stp.off, Nat.add_assoc] using k3, by simp only [pathOff, Stp.off, D.size] at *; omega⟩
      · cases h
    case arr n sz' g =>
      split at h
      · rename_i hz; subst hz
        simp only [Option.map_eq_some_iff] at h
        obtain ⟨q, h1, h2⟩ := h
        simp only [Prod.mk.injEq] at h2
        obtain ⟨rfl, rfl⟩ := h2
        have k1 := hm i ha.1
        have ⟨k3, k4⟩ := nav_m p h1 ha.2 k1.2
        have hle : (i + 1) * sz ≤ n * sz := Nat.mul_le_mul_right sz ha.1
        rw [Nat.add_mul, Nat.one_mul] at hle
        refine ⟨by simpa [pathOff, Stp.off, Nat.add_assoc] using k3, ?_⟩
        have := k1.1
        simp only [pathOff, Stp.off, D.size]; omega
      · cases h

/-- Another value at the end of a path. -/
def setField : Nat → D → D → Option D
  | 0, .cons a b, y => if y.size = a.size then some (.cons y b) else none
  | j + 1, .cons a b, y => (setField j b y).map (.cons a)
  | _, _, _ => none

def upd : List Stp → D → D → Option (List Prop × D)
  | [], d, y => if y.size = d.size then some ([], y) else none
  | .fld j o :: p, d, y => (fieldD j d o).bind fun e => (upd p e y).bind fun q => (setField j d q.2).map fun r => (q.1, r)
  | [.idx i sz], .ints k n g, .int k' a => if sz = 1 ∧ k' = k then some ([i < n], .ints k n fun j => if j = i then a else g j) else none
  | [.idx i sz], .arr n sz' g, y => if sz = sz' ∧ y.size = sz then some ([i < n], .arr n sz fun j => if j = i then y else g j) else none
  | .idx i sz :: p, .arr n sz' g, y => if sz = sz' then (upd p (g i) y).bind fun q => if q.2.size = sz then some ((i < n) :: q.1, .arr n sz fun j => if j = i then q.2 else g j) else none else none
  | _, _, _ => none

theorem fieldD_le : ∀ (j : Nat) {d e : D} {o : Nat}, fieldD j d o = some e → o + e.size ≤ d.size
  | 0, d, e, o, h => by
    cases d <;> simp only [fieldD, reduceCtorEq] at h
    split at h
    · rename_i ho; subst ho; cases h; simp only [D.size]; omega
    · cases h
  | j + 1, d, e, o, h => by
    cases d <;> simp only [fieldD, reduceCtorEq] at h
    split at h
    · have := fieldD_le j h; simp only [D.size]; omega
    · cases h

theorem setField_m {x : Cx} : ∀ (j : Nat) {d e e' d' : D} {o : Nat}, fieldD j d o = some e → setField j d e' = some d' →
    d'.size = d.size ∧ e'.size = e.size ∧ ∀ {L L' : Look} {b : Nat}, (VR x d).m L b → (∀ i, i < d.size → (i < o ∨ o + e.size ≤ i) → L' (b + i) = L (b + i)) → (VR x e').m L' (b + o) → (VR x d').m L' b
  | 0, d, e, e', d', o, h, k => by
    cases d <;> simp only [fieldD, reduceCtorEq] at h
    case cons a c =>
      split at h
      · rename_i ho; subst ho; cases h
        simp only [setField] at k
        split at k
        · rename_i hz; cases k
          refine ⟨by simp only [D.size]; omega, hz, fun hm hL he => ⟨he, ?_⟩⟩
          rw [hz]
          exact VR_look c (fun i hi => by
            have := hL (e.size + i) (by simp only [D.size]; omega) (.inr (by omega))
            rwa [← Nat.add_assoc] at this) hm.2
        · cases k
      · cases h
  | j + 1, d, e, e', d', o, h, k => by
    cases d <;> simp only [fieldD, reduceCtorEq] at h
    case cons a c =>
      split at h
      · rename_i ho
        simp only [setField, Option.map_eq_some_iff] at k
        obtain ⟨c', k1, rfl⟩ := k
        have ⟨h1, h2, h3⟩ := setField_m (x := x) j h k1
        refine ⟨by simp only [D.size]; omega, h2, fun {L L' b} hm hL he => ⟨VR_look a (fun i hi => hL i (by simp only [D.size]; omega) (.inl (by omega))) hm.1, ?_⟩⟩
        refine h3 hm.2 (fun i hi ho' => ?_) (by rwa [show b + a.size + (o - a.size) = b + o by omega])
        have := hL (a.size + i) (by simp only [D.size]; omega) (by omega)
        rwa [← Nat.add_assoc] at this
      · cases h

theorem upd_m {x : Cx} : ∀ (p : List Stp) {d y d' : D} {ob : List Prop}, upd p d y = some (ob, d') → All ob →
    d'.size = d.size ∧ pathOff p + y.size ≤ d.size ∧ ∀ {L L' : Look} {b : Nat}, (VR x d).m L b → (∀ i, i < d.size → (i < pathOff p ∨ pathOff p + y.size ≤ i) → L' (b + i) = L (b + i)) → (VR x y).m L' (b + pathOff p) → (VR x d').m L' b
  | [], d, y, d', ob, h, _ => by
    simp only [upd] at h
    split at h
    · rename_i hz; cases h
      exact ⟨hz, by simp [pathOff]; omega, fun _ _ hy => hy⟩
    · cases h
  | .fld j o :: p, d, y, d', ob, h, ha => by
    simp only [upd, Option.bind_eq_some_iff, Option.map_eq_some_iff] at h
    obtain ⟨e, h1, q, h2, r, h3, h4⟩ := h
    simp only [Prod.mk.injEq] at h4
    obtain ⟨rfl, rfl⟩ := h4
    have ⟨u1, u2, u3⟩ := upd_m (x := x) p h2 ha
    have ⟨s1, s2, s3⟩ := setField_m (x := x) j h1 h3
    have hle := fieldD_le j h1
    refine ⟨s1, by simp only [pathOff, Stp.off]; omega, fun {L L' b} hm hL hy => ?_⟩
    simp only [pathOff, Stp.off] at hL hy
    refine s3 hm (fun i hi ho => hL i hi (by omega)) (u3 (field_m j h1 hm).1 (fun i hi ho => ?_) (by rwa [Nat.add_assoc]))
    rw [Nat.add_assoc]
    exact hL (o + i) (by omega) (by omega)
  | .idx i sz :: p, d, y, d', ob, h, ha => by
    cases d
    case ints k n g =>
      cases p with
      | cons _ _ => simp [upd] at h
      | nil =>
        cases y <;> simp only [upd, reduceCtorEq] at h
        case int k' a =>
          split at h
          · rename_i hz; obtain ⟨rfl, rfl⟩ := hz; cases h
            have hi := ha.1
            refine ⟨rfl, by simp only [pathOff, Stp.off, D.size]; omega, fun {L L' b} hm hL hy j hj => ?_⟩
            simp only [pathOff, Stp.off, D.size, Nat.mul_one, Nat.add_zero] at hL hy
            by_cases e : j = i
            · subst e; obtain ⟨u, h1, rfl, _⟩ := hy; simpa using h1
            · show L' (b + j) = some (.int k' (if j = i then a else g j))
              rw [if_neg e, hL j hj (by omega)]; exact hm j hj
          · cases h
    case arr n sz' g =>
     cases p with
     | nil =>
      simp only [upd] at h
      split at h
      · rename_i hz
        obtain ⟨rfl, hq⟩ := hz
        cases h
        have hi := ha.1
        have hle : (i + 1) * sz ≤ n * sz := Nat.mul_le_mul_right sz hi
        rw [Nat.add_mul, Nat.one_mul] at hle
        refine ⟨rfl, by simp only [pathOff, Stp.off, D.size]; omega, fun {L L' b} hm hL hy j hj => ?_⟩
        simp only [pathOff, Stp.off, D.size, Nat.add_zero] at hL hy
        by_cases e : j = i
        · subst e
          simp only [if_true]
          exact ⟨hq, hy⟩
        · simp only [if_neg e]
          refine ⟨(hm j hj).1, VR_look (g j) (fun k hk => ?_) (hm j hj).2⟩
          have hs := (hm j hj).1
          have hjle : (j + 1) * sz ≤ n * sz := Nat.mul_le_mul_right sz hj
          rw [Nat.add_mul, Nat.one_mul] at hjle
          rw [Nat.add_assoc]
          refine hL (j * sz + k) (by omega) ?_
          rcases Nat.lt_or_gt_of_ne e with hlt | hgt
          · have : (j + 1) * sz ≤ i * sz := Nat.mul_le_mul_right sz hlt
            rw [Nat.add_mul, Nat.one_mul] at this
            omega
          · have : (i + 1) * sz ≤ j * sz := Nat.mul_le_mul_right sz hgt
            rw [Nat.add_mul, Nat.one_mul] at this
            omega
      · cases h
     | cons p0 p =>
      simp only [upd] at h
      split at h
      · rename_i hz; subst hz
        simp only [Option.bind_eq_some_iff] at h
        obtain ⟨q, h1, h2⟩ := h
        split at h2
        · rename_i hq; cases h2
          have hi := ha.1
          have ⟨u1, u2, u3⟩ := upd_m (x := x) (p0 :: p) h1 ha.2
          have hle : (i + 1) * sz ≤ n * sz := Nat.mul_le_mul_right sz hi
          rw [Nat.add_mul, Nat.one_mul] at hle
          have hgi : (g i).size = sz := by omega
          have hpo : pathOff (Stp.idx i sz :: p0 :: p) = i * sz + pathOff (p0 :: p) := rfl
          refine ⟨rfl, by rw [hpo]; simp only [D.size]; omega, fun {L L' b} hm hL hy j hj => ?_⟩
          simp only [hpo, D.size] at hL hy
          by_cases e : j = i
          · subst e
            simp only [if_true]
            refine ⟨hq, u3 (hm j hj).2 (fun k hk ho => ?_) (by rwa [Nat.add_assoc])⟩
            rw [Nat.add_assoc]
            exact hL (j * sz + k) (by omega) (by omega)
          · simp only [if_neg e]
            refine ⟨(hm j hj).1, VR_look (g j) (fun k hk => ?_) (hm j hj).2⟩
            have hs := (hm j hj).1
            have hjle : (j + 1) * sz ≤ n * sz := Nat.mul_le_mul_right sz hj
            rw [Nat.add_mul, Nat.one_mul] at hjle
            rw [Nat.add_assoc]
            refine hL (j * sz + k) (by omega) ?_
            rcases Nat.lt_or_gt_of_ne e with hlt | hgt
            · have : (j + 1) * sz ≤ i * sz := Nat.mul_le_mul_right sz hlt
              rw [Nat.add_mul, Nat.one_mul] at this
              omega
            · have : (i + 1) * sz ≤ j * sz := Nat.mul_le_mul_right sz hgt
              rw [Nat.add_mul, Nat.one_mul] at this
              omega
        · cases h2
      · cases h
    all_goals simp [upd] at h

end Go.Pod
