/- How long a slice that is handed in may be. -/
import Derived.Test.YtlgkjdjgockkfaaPodT
import Derived.SizedLaws
namespace Go.Pod
open Go

section
variable {H : Type} {enc : TypeId × Value → H} {P : Program}

theorem arg_len {w : World} {base : Nat} {sp : Nat → Bool} {held : Bool} {t el : TypeId} {v : Value} {d : DataW H} {ps : List MemPlace} (hu : P.underlying t = some (.slice el)) (hd : DataW.Trod enc P w base sp held t v d ps) {x : Cx} {n sz : Nat} {g : Nat → D} (hv : (VR x (.lit n sz g)).v v) :
    n = 0 ∨ ∃ elems spare, d = .slice elems spare ∧ elems.length = n := by
  obtain ⟨hv, _⟩ := hv
  rcases hv with ⟨_, h0⟩ | ⟨b, o, cap, rfl, _⟩
  · exact .inl h0
  · obtain ⟨fuel, hf⟩ := hd
    rcases DataW.trod_slice hu hf with ⟨e, _⟩ | ⟨ad, len, cap', elems, rest, k, _, e, ex, _, _, _, hel, _⟩
    · simp [Value.cells] at e
    · have e2 : len = n := by
        simp [Value.cells] at e
        exact e.2.1.symm
      cases ex
      exact .inr ⟨_, _, rfl, by rw [List.length_map, hel, e2]⟩

theorem sized_arg {ts : List TypeId} {ds : List (DataW H)} (hz : (DataW.weightsEach P ts ds).all (· ≤ reachBytes) = true) {j : Nat} {t el : TypeId} {d : DataW H} {n k : Nat} (ht : ts[j]? = some t) (hd : ds[j]? = some d) (hu : P.underlying t = some (.slice el)) (hk : P.bytesOf el = k)
    (h : n = 0 ∨ ∃ elems spare, d = .slice elems spare ∧ elems.length = n) : n * k ≤ reachBytes := by
  rcases h with rfl | ⟨elems, spare, rfl, rfl⟩
  · rw [Nat.zero_mul]; exact Nat.zero_le _
  · have := sized_slice hz ht hd hu
    rw [hk] at this
    exact Nat.le_trans (Nat.mul_le_mul_right k (Nat.le_add_right _ _)) this
end
end Go.Pod
