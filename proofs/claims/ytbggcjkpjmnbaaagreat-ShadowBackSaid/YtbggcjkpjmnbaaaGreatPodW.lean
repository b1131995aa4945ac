/- slices.Sort over a row of integers: the kit's contract as a contract over rows. -/
import Derived.Test.YtbggcjkpjmnbaaaGreatPodK
import Derived.Shelf.Sort.Plain
import Derived.Shelf.Slices.In.SortNone
namespace Go.Pod
open Go Go.Shelf Go.RowKit Go.Lib Go.Sort Go.Proofs

def srtI (n : Nat) (f : Nat → Int) : List Int := ((List.range n).map f).mergeSort fun x y => decide (x ≤ y)

theorem srtI_len (n : Nat) (f : Nat → Int) : (srtI n f).length = n := by unfold srtI; simp

theorem fc_sort_i64 {P : Program} {ρs : Ren} (L : Lays.n189 P ρs) (el : TypeId) (n : Nat) (f : Nat → Int) (hn : n < 4611686018427387904) :
    FC P (ρs.f 189) [.own 0] [some (.seq el n 1 (.ints .i64 n f))] (.tup .nil) [some (.seq el n 1 (.ints .i64 n fun i => (srtI n f).getD i 0))] := by
  intro X ρ vs w hh hv
  have v0 := hv.2 0 _ rfl
  have hs : vs.size = 1 := hv.1
  have evs : vs = #[vs.getD 0 undef] := by
    apply Array.ext
    · simpa using hs
    · intro i h1 h2
      have : i = 0 := by simp at h2; omega
      subst this
      simp [Array.getD_eq_getD_getElem?, hs]
  obtain ⟨u, k1, k2, k3⟩ := hh.live 0 _ rfl
  obtain ⟨⟨o, g1, g2⟩, hone⟩ := v0
  have hvu := g2 u (Option.some.inj (g1.symm.trans k1))
  rw [evs]
  rcases k3 with ⟨rfl, h0, _⟩ | ⟨b, cap, cur, rfl, c1, c2, c3, c4, c5⟩
  · obtain ⟨a0, ea⟩ : ∃ a, vs.getD 0 undef = .slice a 0 0 := hvu.elim (fun e => ⟨none, e⟩) fun e => e.2
    rw [ea]
    refine (Any.slices_Sort_int_none L a0 0 w).mono ?_
    rintro e w' ⟨rfl, rfl⟩
    subst h0
    obtain ⟨st, hh2⟩ := hh.set (w' := w') (row := .seq el 0 1 (.ints .i64 0 fun i => (srtI 0 f).getD i 0)) Nat.zero_lt_one k1 rfl rfl rfl (Nat.le_refl _) rfl (fun _ _ => rfl) fun y _ _ => ⟨rfl, .inl ⟨rfl, rfl, fun i hi => absurd hi (Nat.not_lt_zero i)⟩⟩
    exact ⟨_, ρ, rfl, hh2, st.mono fun _ _ => trivial, ⟨#[], rfl, rfl⟩⟩
  · have ea : vs.getD 0 undef = .slice (some ⟨b, 0, none⟩) n cap := hvu.resolve_right (by simp)
    rw [ea]
    have c1' : Cel w b cur el := c1
    have hl : ((List.range n).map f).length = n := by simp
    have hH : Holds (Value.int .i64) w b 0 ((List.range n).map f).toArray := by
      intro j hj
      have hj' : j < n := by simpa using hj
      refine ⟨?_, c1'.fz (by omega)⟩
      rw [c1'.cell, Nat.zero_add]
      have h5 := c5 j hj'
      rw [Nat.zero_add] at h5
      have h6 : cur[j]? = some (.int .i64 (f j)) := h5
      rw [h6]
      simp [hj']
    have main := Any.slices_Sort_int L b 0 cap ((List.range n).map f) w hH c1'.lt (by rw [hl]; exact hn)
    rw [hl] at main
    refine main.mono ?_
    rintro e w' ⟨rfl, m, os, rfl⟩
    have hcs2 : ∀ j, j < n → (putCells (Value.int .i64) 0 (srtI n f).toArray cur)[j]? = some (.int .i64 ((srtI n f).getD j 0)) := fun j hj => by
      have h1 : j < cur.size := by omega
      have h2 : j < (srtI n f).length := by rw [srtI_len]; exact hj
      simp [putCells, h1, h2]
    obtain ⟨fz, f1, f2⟩ := c1'
    have hheap : ∀ q, (putRow (Value.int .i64) (Sort.ahead w m) b 0 (srtI n f).toArray).heap[q]? = if q = b then some (.cells (putCells (Value.int .i64) 0 (srtI n f).toArray cur) el fz) else w.heap[q]? := fun q => by
      show (w.heap.modify b _)[q]? = _
      rw [Array.getElem?_modify]
      by_cases hq : b = q
      · subst hq; rw [if_pos rfl, if_pos rfl, f1]; rfl
      · rw [if_neg hq, if_neg (Ne.symm hq)]
    obtain ⟨st, hh2⟩ := hh.set (w' := putRow (Value.int .i64) (Sort.ahead w m) b 0 (srtI n f).toArray) (row := .seq el n 1 (.ints .i64 n fun i => (srtI n f).getD i 0)) Nat.zero_lt_one k1 rfl rfl rfl (Nat.le_add_right _ _) (by show (w.heap.modify b _).size = _; simp) (fun q hq => by rw [hheap, if_neg (fun e => hq (by rw [e]; rfl))]) fun y hle hw =>
      ⟨by simp [D.size], .inr ⟨b, cap, putCells (Value.int .i64) 0 (srtI n f).toArray cur, rfl, ⟨fz, by rw [hw, hheap, if_pos rfl], by simpa [putCells] using f2⟩, c2, c3, by simpa [putCells] using c4, fun i hi => by rw [Nat.zero_add]; exact hcs2 i hi⟩⟩
    have st2 : Step Full ρ (putRow (Value.int .i64) (Sort.ahead w m) b 0 (srtI n f).toArray) ρ (grow (putRow (Value.int .i64) (Sort.ahead w m) b 0 (srtI n f).toArray) os) := {
      os := rfl, tape := rfl, output := rfl, drawn := fun _ => Nat.le_refl _, size := by simp [grow]
      block := fun q hq _ => by show (_ ++ os)[q]? = _; rw [Array.getElem?_append_left hq]
      rho := fun _ _ => .inr (.inr rfl)
      owns := fun _ ho => .inl ho }
    exact ⟨_, ρ, rfl, hh2.beside st2 (fun q hq => Array.getElem?_append_left hq), (st.trans st2).mono fun _ _ => trivial, ⟨#[], rfl, rfl⟩⟩

end Go.Pod
