/- Data of which there is but one value. -/
import Derived.Test.YteaghbcenjhjhaaDoorPodA
import Derived.Test.YteaghbcenjhjhaaDoorPodB
namespace Go.Pod
open Go

/-! ### Data of which there is but one value -/

def cellsOf : D → Option (List Value)
  | .bool b => some [.bool b]
  | .int k n => some [.int k n]
  | .str s => some [.string s]
  | .nilp => some [.pointer none]
  | .nils => some [.slice none 0 0]
  | .nilf => some [.nilFunc]
  | .ints k n g => some ((List.range n).map fun i => .int k (g i))
  | .nil => some []
  | .cons a b => (cellsOf a).bind fun x => (cellsOf b).map fun y => x ++ y
  | _ => none

theorem cellsOf_spec {x : Cx} : ∀ (d : D) {l : List Value}, cellsOf d = some l → l.length = d.size ∧ ∀ (L : Look) (o : Nat), (VR x d).m L o ↔ ∀ i, i < l.length → L (o + i) = l[i]?
  | .bool b, l, e => by cases e; exact ⟨rfl, fun L o => ⟨fun ⟨u, h1, h2, _⟩ i hi => by simp at hi; subst hi; subst h2; simpa using h1, fun h => ⟨_, by simpa using h 0 (by simp), rfl, rfl⟩⟩⟩
  | .int k n, l, e => by cases e; exact ⟨rfl, fun L o => ⟨fun ⟨u, h1, h2, _⟩ i hi => by simp at hi; subst hi; subst h2; simpa using h1, fun h => ⟨_, by simpa using h 0 (by simp), rfl, rfl⟩⟩⟩
  | .str s, l, e => by cases e; exact ⟨rfl, fun L o => ⟨fun ⟨u, h1, h2, _⟩ i hi => by simp at hi; subst hi; subst h2; simpa using h1, fun h => ⟨_, by simpa using h 0 (by simp), rfl, rfl⟩⟩⟩
  | .nilp, l, e => by cases e; exact ⟨rfl, fun L o => ⟨fun ⟨u, h1, h2, _⟩ i hi => by simp at hi; subst hi; subst h2; simpa using h1, fun h => ⟨_, by simpa using h 0 (by simp), rfl, rfl⟩⟩⟩
  | .nils, l, e => by cases e; exact ⟨rfl, fun L o => ⟨fun ⟨u, h1, h2, _⟩ i hi => by simp at hi; subst hi; subst h2; simpa using h1, fun h => ⟨_, by simpa using h 0 (by simp), rfl, rfl⟩⟩⟩
  | .nilf, l, e => by cases e; exact ⟨rfl, fun L o => ⟨fun ⟨u, h1, h2, _⟩ i hi => by simp at hi; subst hi; subst h2; simpa using h1, fun h => ⟨_, by simpa using h 0 (by simp), rfl, rfl⟩⟩⟩
  | .ints k n g, l, e => by
    cases e
    refine ⟨by simp [D.size], fun L o => ⟨fun h i hi => ?_, fun h i hi => ?_⟩⟩
    · have hi' : i < n := by simpa using hi
      rw [h i hi']; simp [hi']
    · have := h i (by simpa using hi)
      rw [this]; simp [hi]
  | .nil, l, e => by cases e; exact ⟨rfl, fun L o => ⟨fun _ i hi => by simp at hi, fun _ => trivial⟩⟩
  | .cons a b, l, e => by
    simp only [cellsOf, Option.bind_eq_some_iff, Option.map_eq_some_iff] at e
    obtain ⟨la, h1, lb, h2, rfl⟩ := e
    obtain ⟨a1, a2⟩ := cellsOf_spec (x := x) a h1
    obtain ⟨b1, b2⟩ := cellsOf_spec (x := x) b h2
    refine ⟨by simp [D.size, a1, b1], fun L o => ⟨fun ⟨h, k⟩ i hi => ?_, fun h => ⟨(a2 L o).2 fun i hi => ?_, (b2 L _).2 fun i hi => ?_⟩⟩⟩
    · by_cases hlt : i < la.length
      · rw [List.getElem?_append_left hlt]; exact (a2 L o).1 h i hlt
      · rw [List.getElem?_append_right (by omega)]
        have := (b2 L _).1 k (i - la.length) (by simp at hi; omega)
        rwa [← a1, show o + la.length + (i - la.length) = o + i by omega] at this
    · have := h i (by simp; omega)
      rwa [List.getElem?_append_left hi] at this
    · have := h (la.length + i) (by simp; omega)
      rw [List.getElem?_append_right (by omega)] at this
      rw [← a1, show o + la.length + i = o + (la.length + i) by omega, this]
      congr 1; omega
  | .arr _ _ _, _, e | .ptr _ _, _, e | .lptr _, _, e | .own _, _, e | .lit _ _ _, _, e | .fn _ _, _, e | .tup _, _, e | .gd _ _, _, e | .junk, _, e => by cases e

/-- The one value. -/
def detV (d : D) : Option Value :=
  match d with
  | .ints _ _ _ | .nil | .cons _ _ => (cellsOf d).map fun l => .agg l.toArray
  | .bool b => some (.bool b)
  | .int k n => some (.int k n)
  | .str s => some (.string s)
  | .nilp => some (.pointer none)
  | .nils => some (.slice none 0 0)
  | .nilf => some .nilFunc
  | _ => none

def detC : D → Option (List Value)
  | .nil => some []
  | .cons a b => (detV a).bind fun x => (detC b).map fun y => x :: y
  | _ => none

def det (d : D) : Option Value :=
  match d with
  | .tup vs => (detC vs).map fun l => .tuple l.toArray
  | d => detV d

theorem agg_det {x : Cx} {d : D} {l : List Value} (h : cellsOf d = some l) (hv : ∀ v, (VR x d).v v ↔ ∃ cs : Array Value, v = .agg cs ∧ cs.size = d.size ∧ (VR x d).m (fun i => cs[i]?) 0) (v : Value) : (VR x d).v v ↔ v = .agg l.toArray := by
  obtain ⟨h1, h2⟩ := cellsOf_spec (x := x) d h
  rw [hv]
  constructor
  · rintro ⟨cs, rfl, hs, hm⟩
    have := (h2 _ 0).1 hm
    congr 1
    apply Array.ext (by simp; omega)
    intro i hi1 hi2
    have hi3 : i < l.length := by simpa using hi2
    have := this i hi3
    simp only [Nat.zero_add] at this
    rw [Array.getElem?_eq_getElem hi1, List.getElem?_eq_getElem hi3] at this
    simpa using Option.some.inj this
  · rintro rfl
    exact ⟨_, rfl, by simpa using h1, (h2 _ 0).2 fun i hi => by simp⟩

theorem detV_spec {x : Cx} {d : D} {v : Value} (h : detV d = some v) (u : Value) : (VR x d).v u ↔ u = v := by
  cases d <;> simp only [detV, Option.some.injEq, Option.map_eq_some_iff, reduceCtorEq] at h
  case ints k n g =>
    obtain ⟨l, h1, rfl⟩ := h
    exact agg_det h1 (fun _ => Iff.rfl) u
  case nil =>
    obtain ⟨l, h1, rfl⟩ := h
    exact agg_det h1 (fun _ => Iff.rfl) u
  case cons a b =>
    obtain ⟨l, h1, rfl⟩ := h
    exact agg_det h1 (fun _ => Iff.rfl) u
  all_goals subst h; exact ⟨fun h => h.1, fun h => ⟨h, by subst h; rfl⟩⟩

theorem detC_spec {x : Cx} : ∀ (d : D) {l : List Value}, detC d = some l → ∀ (cs : Array Value) (i : Nat), (VR x d).c cs i ↔ cs.size = i + l.length ∧ ∀ j, j < l.length → cs[i + j]? = l[j]?
  | .nil, l, e, cs, i => by cases e; exact ⟨fun h => ⟨h, fun j hj => by simp at hj⟩, fun h => h.1⟩
  | .cons a b, l, e, cs, i => by
    simp only [detC, Option.bind_eq_some_iff, Option.map_eq_some_iff] at e
    obtain ⟨v, h1, r, h2, rfl⟩ := e
    have ih := detC_spec (x := x) b h2 cs (i + 1)
    constructor
    · rintro ⟨⟨u, k1, k2⟩, k3⟩
      obtain ⟨k4, k5⟩ := ih.1 k3
      refine ⟨by simp; omega, fun j hj => ?_⟩
      cases j with
      | zero => rw [(detV_spec h1 u).1 k2] at k1; simpa using k1
      | succ j =>
        have := k5 j (by simpa using hj)
        rw [show i + (j + 1) = i + 1 + j by omega, this]; rfl
    · rintro ⟨k1, k2⟩
      refine ⟨⟨v, by simpa using k2 0 (by simp), (detV_spec h1 v).2 rfl⟩, ih.2 ⟨by simp at k1; omega, fun j hj => ?_⟩⟩
      have := k2 (j + 1) (by simpa using hj)
      rw [show i + 1 + j = i + (j + 1) by omega, this]; rfl
  | .bool _, _, e, _, _ | .int _ _, _, e, _, _ | .str _, _, e, _, _ | .ints _ _ _, _, e, _, _ | .arr _ _ _, _, e, _, _ | .ptr _ _, _, e, _, _ | .lptr _, _, e, _, _ | .nilp, _, e, _, _ | .nils, _, e, _, _ | .own _, _, e, _, _ | .lit _ _ _, _, e, _, _
  | .fn _ _, _, e, _, _ | .nilf, _, e, _, _ | .z0, _, e, _, _ | .is _, _, e, _, _ | .err _, _, e, _, _ | .ifc _ _, _, e, _, _ | .nn _, _, e, _, _ | .view _ _ _ _, _, e, _, _ | .tup _, _, e, _, _ | .gd _ _, _, e, _, _ | .junk, _, e, _, _ => by cases e

theorem det_spec {x : Cx} {d : D} {v : Value} (h : det d = some v) (u : Value) : (VR x d).v u ↔ u = v := by
  unfold det at h
  split at h
  · rename_i vs
    simp only [Option.map_eq_some_iff] at h
    obtain ⟨l, h1, rfl⟩ := h
    constructor
    · rintro ⟨cs, rfl, hc⟩
      obtain ⟨k1, k2⟩ := (detC_spec vs h1 cs 0).1 hc
      congr 1
      apply Array.ext (by simp; omega)
      intro i hi1 hi2
      have hi3 : i < l.length := by simpa using hi2
      have := k2 i hi3
      simp only [Nat.zero_add] at this
      rw [Array.getElem?_eq_getElem hi1, List.getElem?_eq_getElem hi3] at this
      simpa using Option.some.inj this
    · rintro rfl
      exact ⟨_, rfl, (detC_spec vs h1 _ 0).2 ⟨by simp, fun j hj => by simp⟩⟩
  · exact detV_spec h u

end Go.Pod
