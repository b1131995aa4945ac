/- From a contract to the given row: what a call with no rows leaves of the world. -/
import Derived.Test.YtfhimlhpjbjfgaaPodK
import Derived.ProofKit
namespace Go.Pod
open Go

theorem grown_of_step {S : Nat → Prop} {ρ' : Hnd} {w w' : World} (h : Step S (fun _ => none) w ρ' w') : RowKit.Grown w w' := by
  have hno : ∀ b, ¬ own (fun _ => none : Hnd) b := fun b ⟨_, _, e, _⟩ => by cases e
  refine ⟨⟨h.os, h.output, fun i hi => ?_⟩, h.fz, h.size⟩
  rw [h.block i hi (hno i), Array.getElem?_eq_getElem hi]
  cases w.heap[i] <;> first | rfl | exact ⟨rfl, rfl, rfl, fun _ _ => rfl⟩ | exact .inr ⟨rfl, rfl⟩

/-- A contract over no rows, at values that read as told, in any world. -/
theorem calls_of_fc {P : Program} {f : FuncId} {args : List D} {d : D} {v : Value} (h : FC P f args [] d []) (hd : det d = some v) (w : World) (X : Nat → Prop) (hX : ∀ b, X b → b < w.heap.size) {vs : Array Value} (hv : VRs (cx X (fun _ => none) w) args vs) :
    Calls P f vs w fun e w' => e = .returned v ∧ RowKit.Grown w w' := by
  refine (h X (fun _ => none) vs w { live := fun r row e => (by simp at e), dead := fun r e => (by simp at e), past := fun _ _ => rfl, inj := fun r r' u u' b e => (by cases e), apart := fun b ⟨_, _, e, _⟩ => (by cases e), old := hX } hv).mono ?_
  rintro e w' ⟨u, ρ', rfl, _, st, hu⟩
  exact ⟨by rw [(det_spec hd u).1 hu], grown_of_step st⟩

end Go.Pod
