/- Arguments that stay open: their cells are '.sym's. -/
import Derived.Test.YtimnljbphmndoaaGreatDoorExN
import Derived.WalkKit
import Derived.ProofKit
import Derived.OpenShut
namespace Go.Exe
open Go

theorem cell_one {P : Program} {w : World} {r : Reach} {base : Nat} {t : TypeId} {v : Value} (h : Cell.okWide P w r base t v) : v.oneCell' = true := by
  unfold Cell.okWide at h
  split at h <;> first | rfl | skip
  unfold Cell.ok at h
  split at h <;> first | rfl | exact h.elim

theorem okWide_agg {P : Program} {w : World} {r : Reach} {base : Nat} {t : TypeId} {v : Value} (ha : aggOf P t = some true) (h : Value.okWide P w r base t v) : ∃ cs, v = .agg cs ∧ cs.size = P.cellsOf t ∧ ∀ x ∈ cs.toList, x.oneCell' = true := by
  have rows : (∃ cs, v = .agg cs ∧ cs.size = P.cellsOf t ∧ Row.okWide P w r base t cs) → ∃ cs, v = .agg cs ∧ cs.size = P.cellsOf t ∧ ∀ x ∈ cs.toList, x.oneCell' = true := fun ⟨cs, h1, h2, ts, _, _, h3⟩ => ⟨cs, h1, h2, fun x hx => by
    obtain ⟨i, hi⟩ := List.getElem?_of_mem hx
    obtain ⟨u, _, h4⟩ := h3 i x (by simpa using hi)
    exact cell_one h4⟩
  obtain ⟨d, h1, h2⟩ := bnd_some.1 ha
  have h1 : P.underlying t = some d := h1
  unfold Value.okWide at h
  rw [h1] at h
  cases d <;> first | exact rows h | (cases h2; done)
theorem okWide_cell {P : Program} {w : World} {r : Reach} {base : Nat} {t : TypeId} {v : Value} (ha : aggOf P t = some false) (h : Value.okWide P w r base t v) : v.oneCell' = true := by
  obtain ⟨d, h1, h2⟩ := bnd_some.1 ha
  have h1 : P.underlying t = some d := h1
  unfold Value.okWide at h
  rw [h1] at h
  cases d <;> first | exact cell_one h | (cases h2; done)

/-- What stands at each open place. -/
def sigL (l : List Value) : Sig := fun i => l.getD i (.bool false)
theorem sigL_one {l : List Value} (h : ∀ x ∈ l, x.oneCell' = true) : ∀ i, (sigL l i).oneCell' = true := fun i => by
  unfold sigL
  rw [List.getD_eq_getElem?_getD]
  cases hi : l[i]? with
  | none => rfl
  | some x => exact h x (List.mem_of_getElem? hi)

noncomputable def symL (n : Nat) : Nat → List AV := Nat.rec (fun _ => []) (fun _ ih a => .sym a :: ih (Nat.succ a)) n
theorem symL_ok {σ : Sig} {ρ : Rho} : ∀ {n : Nat} {cs : List Value} {a : Nat}, cs.length = n → (∀ j x, cs[j]? = some x → σ (a + j) = x) → LR σ ρ (symL n a) cs
  | 0, cs, a, h, _ => List.eq_nil_of_length_eq_zero h
  | n + 1, [], a, h, _ => by simp at h
  | n + 1, x :: cs, a, h, k => ⟨x, cs, rfl, (k 0 x rfl).symm, symL_ok (n := n) (a := a + 1) (by simpa using h) fun j y hj => by
      have := k (j + 1) y (by simpa using hj)
      rw [← this]; congr 1; omega⟩
theorem symL_cell : ∀ (n a : Nat), (symL n a).all cellB = true
  | 0, _ => rfl
  | n + 1, a => symL_cell n (a + 1)
theorem sigL_at {l pre cs post : List Value} (h : l = pre ++ cs ++ post) {j : Nat} {x : Value} (hj : cs[j]? = some x) {a : Nat} (ha : pre.length = a) : sigL l (a + j) = x := by
  subst h ha
  unfold sigL
  have hlt : j < cs.length := (List.getElem?_eq_some_iff.1 hj).1
  rw [List.getD_eq_getElem?_getD, List.append_assoc, List.getElem?_append_right (by omega), show pre.length + j - pre.length = j by omega, List.getElem?_append_left hlt, hj]
  rfl
theorem agg_sym {ρ : Rho} {l pre post : List Value} {cs : Array Value} (h : l = pre ++ cs.toList ++ post) {n a : Nat} (hn : cs.size = n) (ha : pre.length = a) : VR (sigL l) ρ (.agg (symL n a)) (.agg cs) :=
  ⟨cs, rfl, symL_ok (by simpa using hn) fun _ _ hj => sigL_at h hj ha, symL_cell n a⟩
theorem one_sym {ρ : Rho} {l pre post : List Value} {v : Value} (h : l = pre ++ [v] ++ post) {a : Nat} (ha : pre.length = a) : VR (sigL l) ρ (.sym a) v := by
  have := sigL_at h (j := 0) (x := v) rfl ha
  exact this.symm
end Go.Exe
