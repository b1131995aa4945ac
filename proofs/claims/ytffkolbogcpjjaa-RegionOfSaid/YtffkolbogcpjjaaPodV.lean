/- slices.SortFunc over a row: the kit's contract as a contract over rows. -/
import Derived.Test.YtffkolbogcpjjaaPodK
import Derived.Shelf.SlSortCmp.WholeK
import Derived.Shelf.SlSortCmp.NoneTotal
namespace Go.Pod
open Go Go.Shelf Go.RowKit Go.Lib Go.Sort Go.Proofs

/-- What an element's data are in memory. -/
structure ElOk {α : Type} (toD : α → D) (enc : α → List Value) (k : Nat) : Prop where
  size : ∀ x, (toD x).size = k
  len : ∀ x, (enc x).length = k
  one : ∀ x, ∀ v ∈ enc x, v.oneCell' = true
  mem : ∀ x (y : Cx) (L : Look) (o : Nat), (VR y (toD x)).m L o ↔ ∀ j, j < k → L (o + j) = (enc x)[j]?
  val : ∀ x (y : Cx), (VR y (toD x)).v (.agg (enc x).toArray)

theorem world_grow {W w' : World} (h1 : w'.os = W.os) (h2 : w'.tape = W.tape) (h3 : w'.output = W.output) (h4 : W.drawn ≤ w'.drawn) (h5 : ∀ b, b < W.heap.size → w'.heap[b]? = W.heap[b]?) (h6 : W.heap.size ≤ w'.heap.size) : ∃ q os', w' = grow (W.drewN q) os' := by
  refine ⟨w'.drawn - W.drawn, w'.heap.extract W.heap.size w'.heap.size, ?_⟩
  cases w' with
  | mk hp' tp' dr' os' out' =>
    cases W with
    | mk hp tp dr os out =>
      simp only at h1 h2 h3 h4 h5 h6
      subst h1; subst h2; subst h3
      simp only [grow, World.drewN, World.mk.injEq, true_and, and_true]
      refine ⟨?_, by omega⟩
      apply Array.ext_getElem?
      intro i
      by_cases hi : i < hp.size
      · rw [Array.getElem?_append_left hi, h5 i hi]
      · rw [Array.getElem?_append_right (by omega)]
        by_cases hi' : i < hp'.size
        · have e : hp.size + (i - hp.size) = i := by omega
          simp [e, show i - hp.size < hp'.size - hp.size by omega]
        · rw [Array.getElem?_eq_none (by omega), Array.getElem?_eq_none (by simp; omega)]

/-- A row sorted: Go's own pdqsort, as a plain function. -/
def srt {α : Type} [Inhabited α] (cf : α → α → Int) (n : Nat) (f : Nat → α) : Array α := pdq (ltOf cf) (Array.ofFn fun i : Fin n => f i) 0 n (Lib.bitLen n) true true

section
variable {α : Type} [Inhabited α]

theorem arr_get (n : Nat) (f : Nat → α) {i : Nat} (hi : i < n) : (Array.ofFn fun i : Fin n => f i)[i]! = f i := by
  rw [getElem!_pos _ i (by simpa using hi)]; simp

theorem srt_sorts (cf : α → α → Int) (hO : SWO (ltOf cf)) (n : Nat) (f : Nat → α) : PermIn 0 n (Array.ofFn fun i : Fin n => f i) (srt cf n f) ∧ SortedIn (ltOf cf) 0 n (srt cf n f) :=
  pdq_sorts (ltOf cf) hO _ 0 n _ true true (Nat.zero_le _) (by simp) (.inl rfl)
theorem srt_size (cf : α → α → Int) (hO : SWO (ltOf cf)) (n : Nat) (f : Nat → α) : (srt cf n f).size = n := by
  have := (srt_sorts cf hO n f).1.1
  simpa using this

theorem fc_sort {P : Program} {ρs : Ren} (L : SlLaysF0.n6 P ρs) {toD : α → D} {enc : α → List Value} {k : Nat} (hk0 : 0 < k) (E : ElOk toD enc k) (aE : ∀ w, (isAgg (ρs.t 24)).run P w = .ok true w) (zE : ∀ w, (Go.sizeOf (ρs.t 24)).run P w = .ok k w) {cf : α → α → Int} (hO : SWO (ltOf cf)) {g : FuncId} (hg : callable P g = true)
    (hG : Glob = []) (hD : Drawing) (hcmp : ∀ x y, FC P g [toD x, toD y] [] (.int .i64 (cf x y)) []) (el : TypeId) (n : Nat) (f : Nat → α) (hn : n < 4611686018427387904) :
    FC P (ρs.f 6) [.own 0, .fn g .nil] [some (.seq el n k (.arr n k fun i => toD (f i)))] (.tup .nil) [some (.seq el n k (.arr n k fun i => toD (srt cf n f)[i]!))] := by
  intro X ρ vs w hh hv
  have v0 := hv.2 0 _ rfl
  have v1 := hv.2 1 _ rfl
  have hs : vs.size = 2 := hv.1
  have evs : vs = #[vs.getD 0 undef, vs.getD 1 undef] := by
    apply Array.ext
    · simpa using hs
    · intro i h1 h2
      have : i = 0 ∨ i = 1 := by simp at h2; omega
      rcases this with rfl | rfl <;> simp [Array.getD_eq_getD_getElem?, hs]
  obtain ⟨⟨cs, ev1, hcs⟩, _⟩ := v1
  have hcs0 : cs = #[] := Array.eq_empty_of_size_eq_zero hcs
  subst hcs0
  obtain ⟨u, k1, k2, k3⟩ := hh.live 0 _ rfl
  obtain ⟨⟨o, g1, g2⟩, hone⟩ := v0
  have hvu := g2 u (Option.some.inj (g1.symm.trans k1))
  rw [evs, ev1]
  rcases k3 with ⟨rfl, h0, _⟩ | ⟨b, cap, cur, rfl, c1, c2, c3, c4, c5⟩
  · -- nothing there
    obtain ⟨a0, ea⟩ : ∃ a, vs.getD 0 undef = .slice a 0 0 := hvu.elim (fun e => ⟨none, e⟩) fun e => e.2
    rw [ea]
    refine (AnyF.slices_SortFunc_none L a0 0 _ w).mono ?_
    rintro e w' ⟨rfl, rfl⟩
    subst h0
    obtain ⟨st, hh2⟩ := hh.set (w' := w') (row := .seq el 0 k (.arr 0 k fun i => toD (srt cf 0 f)[i]!)) Nat.zero_lt_one k1 rfl rfl rfl (Nat.le_refl _) rfl (fun _ _ => rfl) fun y _ _ => ⟨rfl, .inl ⟨rfl, rfl, fun i hi => absurd hi (Nat.not_lt_zero i)⟩⟩
    exact ⟨_, ρ, rfl, hh2, st.mono fun _ _ => trivial, ⟨#[], rfl, rfl⟩⟩
  · have ea : vs.getD 0 undef = .slice (some ⟨b, 0, none⟩) n cap := hvu.resolve_right (by simp)
    rw [ea]
    have c1' : Cel w b cur el := c1
    have hds : (Array.ofFn fun i : Fin n => f i).size = n := by simp
    have hnk : n * k ≤ cap * k := Nat.mul_le_mul_right k c2
    have hH : HoldsK enc k w b 0 (Array.ofFn fun i : Fin n => f i) := by
      intro j hj
      have hj' : j < n * k := by simpa using hj
      have hi : j / k < n := (Nat.div_lt_iff_lt_mul hk0).2 hj'
      have hm : j % k < k := Nat.mod_lt _ hk0
      refine ⟨?_, c1'.fz (by omega)⟩
      rw [c1'.cell, Nat.zero_add]
      have h5 := ((E.mem _ _ _ _).1 (c5 (j / k) hi).2) (j % k) hm
      have e1 : 0 + j / k * k + j % k = j := by rw [Nat.zero_add, Nat.mul_comm]; exact Nat.div_add_mod j k
      rw [e1] at h5
      rw [h5]
      show _ = some ((flatK enc k (Array.ofFn fun i : Fin n => f i))[j]!)
      rw [get_flatK _ _ _ _ (by rw [hds]; exact hj'), arr_get n f hi]
      have hl : j % k < (enc (f (j / k))).length := by rw [E.len]; exact hm
      rw [List.getElem?_eq_getElem hl, getElem!_pos (enc (f (j / k))) (j % k) hl]
    have hC : CmpLays P g #[] enc k cf b 0 (Array.ofFn fun i : Fin n => f i).size w := by
      intro m os dk _ x y
      have hX0 : HRel (fun _ => False) (fun _ => none) [] (sortWorldK enc k w b 0 m dk os) := {
        live := fun r row e => by simp at e
        dead := fun r e => by simp at e
        past := fun _ _ => rfl
        inj := fun r r' u u' b e => by cases e
        apart := fun b ⟨_, _, e, _⟩ => by cases e
        old := fun b h => h.elim
        gl := fun q hq => by rw [hG] at hq; cases hq }
      refine (hcmp x y (fun _ => False) (fun _ => none) _ _ hX0 ⟨by simp, fun i d e => ?_⟩).mono ?_
      · match i, e with
        | 0, e => cases e; exact E.val x _
        | 1, e => cases e; exact E.val y _
      · rintro e w' ⟨v, ρ', rfl, q1, q2, q3⟩
        obtain ⟨rfl, _⟩ := q3
        exact ⟨rfl, world_grow q2.os q2.tape q2.output (q2.drawn hD) (fun b' hb' => q2.block b' hb' fun ⟨_, _, e, _⟩ => by cases e) q2.size⟩
    have main := AnyQ.slices_SortFunc_eq L k aE zE enc E.len E.one cf hO g #[] b 0 cap (Array.ofFn fun i : Fin n => f i) w (run_callFunc hg) hC hH c1'.lt (by rw [hds]; exact hn)
    rw [hds, show pdq (ltOf cf) (Array.ofFn fun i : Fin n => f i) 0 n (Lib.bitLen n) true true = srt cf n f from rfl] at main
    refine main.mono ?_
    rintro e w' ⟨rfl, m, os, rfl⟩
    have hrs := srt_size cf hO n f
    have hcs2 : ∀ j, j < cur.size → (putCells id 0 (flatK enc k (srt cf n f)) cur)[j]? = some (if j < n * k then (flatK enc k (srt cf n f))[j]! else cur[j]!) := fun j hj => by
      simp [putCells, hj, hrs]
    obtain ⟨fz, f1, f2⟩ := c1'
    have hheap : ∀ q, (putRowK enc k (Sort.ahead w m) b 0 (srt cf n f)).heap[q]? = if q = b then some (.cells (putCells id 0 (flatK enc k (srt cf n f)) cur) el fz) else w.heap[q]? := fun q => by
      show (w.heap.modify b _)[q]? = _
      rw [Array.getElem?_modify]
      by_cases hq : b = q
      · subst hq; rw [if_pos rfl, if_pos rfl, f1]; rfl
      · rw [if_neg hq, if_neg (Ne.symm hq)]
    have hel : ∀ i, i < n → ∀ j, j < k → (putCells id 0 (flatK enc k (srt cf n f)) cur)[0 + i * k + j]? = (enc (srt cf n f)[i]!)[j]? := fun i hi j hj => by
      have q1 : (i + 1) * k = i * k + k := Nat.succ_mul ..
      have q2 : (i + 1) * k ≤ n * k := Nat.mul_le_mul_right k hi
      rw [Nat.zero_add, hcs2 _ (by omega), if_pos (by omega), get_flatK _ _ _ _ (by rw [hrs]; omega)]
      have e1 : (i * k + j) / k = i := by
        rw [Nat.mul_comm, Nat.mul_add_div hk0, Nat.div_eq_of_lt hj, Nat.add_zero]
      have e2 : (i * k + j) % k = j := by rw [Nat.mul_comm, Nat.mul_add_mod]; exact Nat.mod_eq_of_lt hj
      rw [e1, e2]
      have hl : j < (enc (srt cf n f)[i]!).length := by rw [E.len]; exact hj
      rw [List.getElem?_eq_getElem hl, getElem!_pos (enc (srt cf n f)[i]!) j hl]
    obtain ⟨st, hh2⟩ := hh.set (w' := putRowK enc k (Sort.ahead w m) b 0 (srt cf n f)) (row := .seq el n k (.arr n k fun i => toD (srt cf n f)[i]!)) Nat.zero_lt_one k1 rfl rfl rfl (Nat.le_add_right _ _) (by show (w.heap.modify b _).size = _; simp) (fun q hq => by rw [hheap, if_neg (fun e => hq (by rw [e]; rfl))]) fun y hle hw =>
      ⟨rfl, .inr ⟨b, cap, putCells id 0 (flatK enc k (srt cf n f)) cur, rfl, ⟨fz, by rw [hw, hheap, if_pos rfl], by simpa [putCells] using f2⟩, c2, c3, by simpa [putCells] using c4, fun i hi => ⟨E.size _, (E.mem _ _ _ _).2 fun j hj => hel i hi j hj⟩⟩⟩
    have st2 : Step Full ρ (putRowK enc k (Sort.ahead w m) b 0 (srt cf n f)) ρ (grow (putRowK enc k (Sort.ahead w m) b 0 (srt cf n f)) os) := {
      os := rfl, tape := rfl, output := rfl, drawn := fun _ => Nat.le_refl _, size := by simp [grow]
      block := fun q hq _ => by show (_ ++ os)[q]? = _; rw [Array.getElem?_append_left hq]
      rho := fun _ _ => .inr (.inr rfl)
      owns := fun _ ho => .inl ho }
    exact ⟨_, ρ, rfl, hh2.beside st2 (fun q hq => by show (_ ++ os)[q]? = _; rw [Array.getElem?_append_left hq]), (st.trans st2).mono fun _ _ => trivial, ⟨#[], rfl, rfl⟩⟩
end

end Go.Pod
