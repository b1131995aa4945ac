/- Regions that draw their order: a head of quiet operations, then what comes one behind the other. -/
import Derived.Test.YtfhimlhpjbjfgaaPodG
namespace Go.Pod
open Go

/-! ### A region of which the head may come in any order -/

section
variable {P : Program} {ops : Array Oper} {md : Region.Mode} {C : World → Prop}

def wpAnyC (P : Program) (md : Region.Mode) (ops : Array Oper) (C : World → Prop) (n : Nat) (L : Array Bool → Act → Prop) : Nat → Array Bool → Act → Prop
  | 0, listed, a => L listed a
  | f + 1, listed, a =>
    Region.ready md ops listed ≠ [] ∧ ∀ i ∈ Region.ready md ops listed, i < n ∧ qOp P ops C i (wpAnyC P md ops C n L f (listed.setIfInBounds i true)) a

theorem wpAny_of_headC {n g : Nat} {L : Array Bool → Act → Prop} {Q' : Exit → Act → World → Prop} (hL : ∀ listed a w, C w → L listed a → wpAny P md ops Q' g listed a w) :
    ∀ (f : Nat) (listed : Array Bool) (a : Act) (w : World), C w → wpAnyC P md ops C n L f listed a → wpAny P md ops Q' (f + g) listed a w
  | 0, listed, a, w, hw, h => by rw [Nat.zero_add]; exact hL _ _ _ hw h
  | f + 1, listed, a, w, hw, h => by
    rw [show f + 1 + g = (f + g) + 1 by omega]
    exact ⟨fun h0 => absurd h0 h.1, fun i hi => wpOp_of_qOp hw (fun a' w' hw' h' => wpAny_of_headC hL f _ a' w' hw' h') (h.2 i hi).2⟩

theorem wpAnyC_first {n i : Nat} {oi : Oper} {v : Value} {L : Array Bool → Act → Prop} (hi : ops[i]? = some oi) (hsel : ∀ (j : Nat) (o : Oper) cs b, ops[j]? = some o → o.op ≠ .select cs b)
    (hs : Region.sinkB md ops n = true) (hc : Region.chainB md ops n = true) (hn : n < ops.size) (hin : i < n)
    (hdone : ∀ listed a, L listed a → ∀ j ∈ Region.ready md ops listed, n ≤ j) :
    ∀ (f : Nat) (listed : Array Bool) (a : Act), HeadInv md ops n listed →
      (∀ j oj, ops[j]? = some oj → j ≠ i → listed.getD j true = false → (∀ e ∈ oj.after, Region.binds md e = true → e.on ≠ i) → oi.apart ops oj = true) →
      i ∈ Region.ready md ops listed → YieldsIn P ops C oi v a →
      wpAnyC P md ops C n L f (listed.setIfInBounds i true) (a.put oi.dst v) → wpAnyC P md ops C n L (f + 1) listed a := by
  intro f
  induction f with
  | zero =>
    intro listed a inv _ hr hy H
    have hun := (mem_ready.1 hr).1
    refine ⟨fun h => (by rw [h] at hr; cases hr), fun j hj => ?_⟩
    have hjn : j < n := by
      rcases Nat.lt_or_ge j n with h | h
      · exact h
      · exact absurd hj (tail_waits hs hc hn inv _ i rfl hin hun j h)
    refine ⟨hjn, ?_⟩
    by_cases hji : j = i
    · subst hji; exact hy.qOp hi H
    · have := hdone _ _ H j (ready_mono hj hji)
      omega
  | succ f ih =>
    intro listed a inv hfree hr hy H
    have hun := (mem_ready.1 hr).1
    refine ⟨fun h => (by rw [h] at hr; cases hr), fun j hj => ?_⟩
    have hjn : j < n := by
      rcases Nat.lt_or_ge j n with h | h
      · exact h
      · exact absurd hj (tail_waits hs hc hn inv _ i rfl hin hun j h)
    refine ⟨hjn, ?_⟩
    by_cases hji : j = i
    · subst hji; exact hy.qOp hi H
    · have h1 := (H.2 j (ready_mono hj hji)).2
      obtain ⟨hjun, oj, hoj, hall⟩ := mem_ready.1 hj
      have hnot : ∀ e ∈ oj.after, Region.binds md e = true → e.on ≠ i := fun e he hb heq => by
        have h1 := hall e he hb
        rw [heq, getD_both hun] at h1
        cases h1
      have h2 := qOp_put hoj (hfree j oj hoj hji hjun hnot) (fun cs b => hsel i oi cs b hi) (fun cs b => hsel j oj cs b hoj) hy h1
      have hfree' : ∀ k ok, ops[k]? = some ok → k ≠ i → (listed.setIfInBounds j true).getD k true = false →
          (∀ e ∈ ok.after, Region.binds md e = true → e.on ≠ i) → oi.apart ops ok = true := fun k ok hk hki hun hno => by
        refine hfree k ok hk hki ?_ hno
        by_cases hjk : j = k
        · subst hjk; exact hjun
        · rw [getD_set_ne true hjk] at hun; exact hun
      refine qOp_mono (fun a' h3 => ih (listed.setIfInBounds j true) a' (inv.set hj hjn) hfree' (ready_mono hr (Ne.symm hji)) h3.1 ?_) h2
      rw [Array.setIfInBounds_comm _ _ hji]
      exact h3.2

theorem wpAnyC_lex {n g : Nat} {Lq : Act → Prop} (hsel : Region.noSelect ops = true) (hs : Region.sinkB md ops n = true) (hc : Region.chainB md ops n = true) (hn : n < ops.size) :
    ∀ (l : List Oper) (k : Nat) (listed : Array Bool) (a : Act), (∀ j, j < l.length → l[j]? = ops[k + j]?) → k + l.length = n → HeadInv md ops n listed →
    Region.lexHead md ops g l.length k listed = true → wpQuiet P ops C Lq l a →
    wpAnyC P md ops C n (fun listed' a' => Region.seqB md ops g n listed' = true ∧ Lq a') l.length listed a
  | [], k, listed, a, _, hk, _, hB, h => by
    have : k = n := by simpa using hk
    subst this
    exact ⟨by simpa [Region.lexHead] using hB, h⟩
  | o :: l, k, listed, a, hl, hk, inv, hB, h => by
    have h0 : ops[k]? = some o := by simpa using (hl 0 (by simp)).symm
    simp only [List.length_cons, Region.lexHead, Bool.and_eq_true] at hB
    obtain ⟨⟨hr, hf⟩, hB'⟩ := hB
    have hkn : k < n := by simp only [List.length_cons] at hk; omega
    have hr' : k ∈ Region.ready md ops listed := by simpa using hr
    have hst : qOp P ops C k (wpQuiet P ops C Lq l) a := by unfold qOp; simp only [h0]; exact h
    obtain ⟨v, hy, hK⟩ := yieldsIn_of_qOp h0 hst
    exact wpAnyC_first h0 (Region.noSelect_spec hsel) hs hc hn hkn (fun listed' a' hL => seqB_ready hL.1) l.length listed a inv (Region.free_spec h0 hf) hr' hy
      (wpAnyC_lex hsel hs hc hn l (k + 1) _ _ (fun j hj => by have := hl (j + 1) (by simp; omega); simpa [Nat.add_assoc, Nat.add_comm 1 j] using this) (by simp only [List.length_cons] at hk; omega) (inv.set hr' hkn) hB' hK)

theorem wp_region_head {id : Nat} {Q : Exit → Act → World → Prop} {a : Act} {w : World} (n : Nat) (hm : P.follows .mixedOrders = true) (hB : Region.lexTailB .any ops n = true) (hC : C { w with drawn := w.drawn + 1 })
    (h : wpQuiet P ops C (fun a' => ∀ w', C w' → wpList P ops Q (ops.toList.drop n) a' w') (ops.toList.take n) a) : (Code.region id ops true).wp P Q a w := by
  simp only [Region.lexTailB, Bool.and_eq_true, decide_eq_true_eq] at hB
  obtain ⟨⟨⟨⟨hsel, hn⟩, hs⟩, hc⟩, hlex⟩ := hB
  have htl : (ops.toList.take n).length = n := by simp; omega
  have hdl : (ops.toList.drop n).length = ops.size - n := by simp
  have inv0 : HeadInv .any ops n (Array.replicate ops.size false) :=
    ⟨by simp, fun j oj _ hl => (by rw [getD_replicate_false] at hl; cases hl), fun t _ ht => getD_in (by simpa using ht) (getD_replicate_false _ _)⟩
  have H := wpAnyC_lex (md := .any) (g := ops.size - n) hsel hs hc hn (ops.toList.take n) 0 _ a (fun j hj => by
    have hj' : j < n := by rw [htl] at hj; exact hj
    simp [hj']) (by simpa using htl) inv0 (by rw [htl]; exact hlex) h
  refine wp_region_any hm ?_
  have := wpAny_of_headC (Q' := Q) (g := ops.size - n) (fun listed a' w' hw' hL => by
    have := wpAny_of_seq (md := .any) (Q' := Q) (ops.toList.drop n) n listed a' w' (fun j => by simp [List.getElem?_drop]) (by rw [hdl]; exact hL.1) (hL.2 w' hw')
    rwa [hdl] at this) _ _ _ _ hC H
  rw [htl, show n + (ops.size - n) = ops.size by omega] at this
  exact this
end

/-! ### Data of which there is but one value -/

def cellsOf : D → Option (List Value)
  | .bool b => some [.bool b]
  | .int k n => some [.int k n]
  | .str s => some [.string s]
  | .nilp => some [.pointer none]
  | .nils => some [.slice none 0 0]
  | .nilf => some [.nilFunc]
  | .ints k n g => some ((List.range n).map fun i => .int k (g i))
  | .nil => some []
  | .cons a b => (cellsOf a).bind fun x => (cellsOf b).map fun y => x ++ y
  | _ => none

theorem cellsOf_spec {x : Cx} : ∀ (d : D) {l : List Value}, cellsOf d = some l → l.length = d.size ∧ ∀ (L : Look) (o : Nat), (VR x d).m L o ↔ ∀ i, i < l.length → L (o + i) = l[i]?
  | .bool b, l, e => by cases e; exact ⟨rfl, fun L o => ⟨fun ⟨u, h1, h2, _⟩ i hi => by simp at hi; subst hi; subst h2; simpa using h1, fun h => ⟨_, by simpa using h 0 (by simp), rfl, rfl⟩⟩⟩
  | .int k n, l, e => by cases e; exact ⟨rfl, fun L o => ⟨fun ⟨u, h1, h2, _⟩ i hi => by simp at hi; subst hi; subst h2; simpa using h1, fun h => ⟨_, by simpa using h 0 (by simp), rfl, rfl⟩⟩⟩
  | .str s, l, e => by cases e; exact ⟨rfl, fun L o => ⟨fun ⟨u, h1, h2, _⟩ i hi => by simp at hi; subst hi; subst h2; simpa using h1, fun h => ⟨_, by simpa using h 0 (by simp), rfl, rfl⟩⟩⟩
  | .nilp, l, e => by cases e; exact ⟨rfl, fun L o => ⟨fun ⟨u, h1, h2, _⟩ i hi => by simp at hi; subst hi; subst h2; simpa using h1, fun h => ⟨_, by simpa using h 0 (by simp), rfl, rfl⟩⟩⟩
  | .nils, l, e => by cases e; exact ⟨rfl, fun L o => ⟨fun ⟨u, h1, h2, _⟩ i hi => by simp at hi; subst hi; subst h2; simpa using h1, fun h => ⟨_, by simpa using h 0 (by simp), rfl, rfl⟩⟩⟩
  | .nilf, l, e => by cases e; exact ⟨rfl, fun L o => ⟨fun ⟨u, h1, h2, _⟩ i hi => by simp at hi; subst hi; subst h2; simpa using h1, fun h => ⟨_, by simpa using h 0 (by simp), rfl, rfl⟩⟩⟩
  | .ints k n g, l, e => by
    cases e
    refine ⟨by simp [D.size], fun L o => ⟨fun h i hi => ?_, fun h i hi => ?_⟩⟩
    · have hi' : i < n := by simpa using hi
      rw [h i hi']; simp [hi']
    · have := h i (by simpa using hi)
      rw [this]; simp [hi]
  | .nil, l, e => by cases e; exact ⟨rfl, fun L o => ⟨fun _ i hi => by simp at hi, fun _ => trivial⟩⟩
  | .cons a b, l, e => by
    simp only [cellsOf, Option.bind_eq_some_iff, Option.map_eq_some_iff] at e
    obtain ⟨la, h1, lb, h2, rfl⟩ := e
    obtain ⟨a1, a2⟩ := cellsOf_spec (x := x) a h1
    obtain ⟨b1, b2⟩ := cellsOf_spec (x := x) b h2
    refine ⟨by simp [D.size, a1, b1], fun L o => ⟨fun ⟨h, k⟩ i hi => ?_, fun h => ⟨(a2 L o).2 fun i hi => ?_, (b2 L _).2 fun i hi => ?_⟩⟩⟩
    · by_cases hlt : i < la.length
      · rw [List.getElem?_append_left hlt]; exact (a2 L o).1 h i hlt
      · rw [List.getElem?_append_right (by omega)]
        have := (b2 L _).1 k (i - la.length) (by simp at hi; omega)
        rwa [← a1, show o + la.length + (i - la.length) = o + i by omega] at this
    · have := h i (by simp; omega)
      rwa [List.getElem?_append_left hi] at this
    · have := h (la.length + i) (by simp; omega)
      rw [List.getElem?_append_right (by omega)] at this
      rw [← a1, show o + la.length + i = o + (la.length + i) by omega, this]
      congr 1; omega
  | .arr _ _ _, _, e | .ptr _ _, _, e | .lptr _, _, e | .own _, _, e | .lit _ _ _, _, e | .fn _ _, _, e | .tup _, _, e | .gd _ _, _, e | .junk, _, e => by cases e

/-- The one value. -/
def detV (d : D) : Option Value :=
  match d with
  | .ints _ _ _ | .nil | .cons _ _ => (cellsOf d).map fun l => .agg l.toArray
  | .bool b => some (.bool b)
  | .int k n => some (.int k n)
  | .str s => some (.string s)
  | .nilp => some (.pointer none)
  | .nils => some (.slice none 0 0)
  | .nilf => some .nilFunc
  | _ => none

def detC : D → Option (List Value)
  | .nil => some []
  | .cons a b => (detV a).bind fun x => (detC b).map fun y => x :: y
  | _ => none

def det (d : D) : Option Value :=
  match d with
  | .tup vs => (detC vs).map fun l => .tuple l.toArray
  | d => detV d

theorem agg_det {x : Cx} {d : D} {l : List Value} (h : cellsOf d = some l) (hv : ∀ v, (VR x d).v v ↔ ∃ cs : Array Value, v = .agg cs ∧ cs.size = d.size ∧ (VR x d).m (fun i => cs[i]?) 0) (v : Value) : (VR x d).v v ↔ v = .agg l.toArray := by
  obtain ⟨h1, h2⟩ := cellsOf_spec (x := x) d h
  rw [hv]
  constructor
  · rintro ⟨cs, rfl, hs, hm⟩
    have := (h2 _ 0).1 hm
    congr 1
    apply Array.ext (by simp; omega)
    intro i hi1 hi2
    have hi3 : i < l.length := by simpa using hi2
    have := this i hi3
    simp only [Nat.zero_add] at this
    rw [Array.getElem?_eq_getElem hi1, List.getElem?_eq_getElem hi3] at this
    simpa using Option.some.inj this
  · rintro rfl
    exact ⟨_, rfl, by simpa using h1, (h2 _ 0).2 fun i hi => by simp⟩

theorem detV_spec {x : Cx} {d : D} {v : Value} (h : detV d = some v) (u : Value) : (VR x d).v u ↔ u = v := by
  cases d <;> simp only [detV, Option.some.injEq, Option.map_eq_some_iff, reduceCtorEq] at h
  case ints k n g =>
    obtain ⟨l, h1, rfl⟩ := h
    exact agg_det h1 (fun _ => Iff.rfl) u
  case nil =>
    obtain ⟨l, h1, rfl⟩ := h
    exact agg_det h1 (fun _ => Iff.rfl) u
  case cons a b =>
    obtain ⟨l, h1, rfl⟩ := h
    exact agg_det h1 (fun _ => Iff.rfl) u
  all_goals subst h; exact ⟨fun h => h.1, fun h => ⟨h, by subst h; rfl⟩⟩

theorem detC_spec {x : Cx} : ∀ (d : D) {l : List Value}, detC d = some l → ∀ (cs : Array Value) (i : Nat), (VR x d).c cs i ↔ cs.size = i + l.length ∧ ∀ j, j < l.length → cs[i + j]? = l[j]?
  | .nil, l, e, cs, i => by cases e; exact ⟨fun h => ⟨h, fun j hj => by simp at hj⟩, fun h => h.1⟩
  | .cons a b, l, e, cs, i => by
    simp only [detC, Option.bind_eq_some_iff, Option.map_eq_some_iff] at e
    obtain ⟨v, h1, r, h2, rfl⟩ := e
    have ih := detC_spec (x := x) b h2 cs (i + 1)
    constructor
    · rintro ⟨⟨u, k1, k2⟩, k3⟩
      obtain ⟨k4, k5⟩ := ih.1 k3
      refine ⟨by simp; omega, fun j hj => ?_⟩
      cases j with
      | zero => rw [(detV_spec h1 u).1 k2] at k1; simpa using k1
      | succ j =>
        have := k5 j (by simpa using hj)
        rw [show i + (j + 1) = i + 1 + j by omega, this]; rfl
    · rintro ⟨k1, k2⟩
      refine ⟨⟨v, by simpa using k2 0 (by simp), (detV_spec h1 v).2 rfl⟩, ih.2 ⟨by simp at k1; omega, fun j hj => ?_⟩⟩
      have := k2 (j + 1) (by simpa using hj)
      rw [show i + 1 + j = i + (j + 1) by omega, this]; rfl
  | .bool _, _, e, _, _ | .int _ _, _, e, _, _ | .str _, _, e, _, _ | .ints _ _ _, _, e, _, _ | .arr _ _ _, _, e, _, _ | .ptr _ _, _, e, _, _ | .lptr _, _, e, _, _ | .nilp, _, e, _, _ | .nils, _, e, _, _ | .own _, _, e, _, _ | .lit _ _ _, _, e, _, _
  | .fn _ _, _, e, _, _ | .nilf, _, e, _, _ | .tup _, _, e, _, _ | .gd _ _, _, e, _, _ | .junk, _, e, _, _ => by cases e

theorem det_spec {x : Cx} {d : D} {v : Value} (h : det d = some v) (u : Value) : (VR x d).v u ↔ u = v := by
  unfold det at h
  split at h
  · rename_i vs
    simp only [Option.map_eq_some_iff] at h
    obtain ⟨l, h1, rfl⟩ := h
    constructor
    · rintro ⟨cs, rfl, hc⟩
      obtain ⟨k1, k2⟩ := (detC_spec vs h1 cs 0).1 hc
      congr 1
      apply Array.ext (by simp; omega)
      intro i hi1 hi2
      have hi3 : i < l.length := by simpa using hi2
      have := k2 i hi3
      simp only [Nat.zero_add] at this
      rw [Array.getElem?_eq_getElem hi1, List.getElem?_eq_getElem hi3] at this
      simpa using Option.some.inj this
    · rintro rfl
      exact ⟨_, rfl, (detC_spec vs h1 _ 0).2 ⟨by simp, fun j hj => by simp⟩⟩
  · exact detV_spec h u

end Go.Pod
