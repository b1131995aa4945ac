/- 'bytealg.MakeNoZero': bytes of which nothing is known. -/
import Derived.Test.YtofdeeojhiccmaaGreatDoorExS
import Derived.Lib.MakeNoZero
namespace Go.Exe
open Go

theorem digits_one : ∀ (n t : Nat) (acc : Array Value), (∀ x ∈ acc.toList, x.oneCell' = true) → ∀ x ∈ (Extern.BytealgMakeNoZero.digits n t acc).toList, x.oneCell' = true
  | 0, _, _, h => h
  | n + 1, t, acc, h => by
    rw [Extern.BytealgMakeNoZero.digits]
    refine digits_one n _ _ fun x hx => ?_
    rw [Array.toList_push, List.mem_append, List.mem_singleton] at hx
    rcases hx with hx | rfl
    · exact h x hx
    · rfl

section
variable {P : Program} {σ : Sig} {N : Nat}
theorem run_mnz (w : World) (ps : Array TypeId) (t e : TypeId) (ht : P.underlying t = some (.slice e)) (n : Nat) (hn : n ≤ 281474976710656) :
    ∃ cs : Array Value, (Extern.BytealgMakeNoZero.makeNoZero ps #[t] #[.int .i64 n]).run P w = .ok (.slice (some ⟨w.heap.size, 0, none⟩) n cs.size) (w.drew.drew.alloc (.cells cs e)) ∧ n ≤ cs.size ∧ (n ≤ maxLen → cs.size ≤ maxLen) ∧ ∀ x ∈ cs.toList, x.oneCell' = true := by
  have hdef : Extern.BytealgMakeNoZero.makeNoZero ps #[t] #[.int .i64 n] =
      (do
        let .slice elem ← underlying t | stuck "bytealg.MakeNoZero: slice type expected"
        if (n : Int) < 0 || (n : Int) > 2 ^ 48 then runtimePanic (.error "makeslice: len out of range")
        let cap ← choose (.appendCap (n : Int).toNat 0 elem)
        askRoom cap
        let bytes ← choose (.extern "internal/bytealg.MakeNoZero.bytes" 0)
        let a ← newRow elem (Extern.BytealgMakeNoZero.digits cap bytes #[])
        pure (.slice (some a) (n : Int).toNat cap)) := rfl
  refine ⟨Extern.BytealgMakeNoZero.digits (grownCap w n 0 e) ((Question.extern "internal/bytealg.MakeNoZero.bytes" 0).cut (w.tape (w.drawn + 1) (.extern "internal/bytealg.MakeNoZero.bytes" 0))) #[], ?_, ?_, ?_, ?_⟩
  · rw [hdef]
    have h1 : ¬ (n : Int) < 0 := by omega
    have h2 : ¬ (281474976710656 : Int) < (n : Int) := by omega
    simp [run_underlying ht, h1, h2, Question.forced, newRow, Lib.size_digits, grownCap]
  · rw [Lib.size_digits]
    simpa using grownCap_ge w n 0 e
  · intro hm
    rw [Lib.size_digits]
    simpa using grownCap_le_maxLen w n 0 e hm
  · exact digits_one _ _ _ fun x hx => by simp at hx

theorem kok1_mnz {f0 : Nat} {fn : Func} {ps : Array TypeId} {t e : TypeId} (hf : P.funcs[f0]? = some fn) (hname : (fn.name == "runtime.NumGoroutine") = false) (hb : fn.body.isNone = true) (hn : Extern.findNext fn = none) (he : Extern.find fn = some (Extern.BytealgMakeNoZero.makeNoZero ps #[t])) (ht : P.underlying t = some (.slice e)) : KOk1 P σ N f0 (makeNoZeroO e) := by
  intro args h v h' e1 ρ w vs hh hv
  obtain ⟨a, rfl, e2⟩ := one_some e1
  obtain ⟨n, h1, e3⟩ := bnd_some.1 e2
  obtain ⟨h2, e4⟩ := ite_some.1 e3
  obtain ⟨h3, e5⟩ := ite_some.1 e4
  clear e1 e2 e3 e4
  obtain ⟨k, rfl⟩ := natOf_some h1
  have hk : k = .i64 := by cases k <;> first | rfl | (cases h2; done)
  subst hk
  have h3 := Nat.le_of_ble_eq_true h3
  obtain ⟨u, r, q1, q2, q3⟩ := hv
  have q3 : r = [] := q3
  have q2 : u = .int .i64 (n : Int) := q2
  subst q3 q2
  have hvs : vs = #[.int .i64 (n : Int)] := by apply Array.ext'; rw [q1]
  subst hvs
  obtain ⟨cs, g1, g2, g3, g4⟩ := run_mnz (P := P) w ps t e ht n (by omega)
  intro o ac next Q kk
  rw [run_callFunc_extern hf hname hb hn he, g1, Result.andThen_ok]
  obtain ⟨⟨l1, l2, _⟩, rfl, tr, l3, l4⟩ := newS_lays e5
  have hr : ρ h.nx = none := hh.new _ (Nat.le_refl _)
  have hmax := g3 (by simp only [maxLen]; omega)
  have hh2 : HR σ N ρ h w.drew.drew := (hh.heap (w' := w.drew) rfl).heap (w' := w.drew.drew) rfl
  have els : Els σ ρ cs 0 1 n tr := fun i l hi => by
    have hi2 := lay0_get l3 i l hi
    rw [rep_eq] at hi2
    have hin : i < n := by
      have := (List.getElem?_eq_some_iff.1 hi2).1
      simpa using this
    have hl : l = [.cel] := by
      rw [List.getElem?_replicate, if_pos hin] at hi2
      exact (Option.some.inj hi2).symm
    subst hl
    refine ⟨hin, rfl, rfl, fun j b hb => ?_⟩
    cases j with
    | zero =>
      cases hb
      have hlt : i < cs.size := by omega
      exact ⟨cs[i], by simp [hlt], g4 _ (by simp)⟩
    | succ j => simp at hb
  obtain ⟨t1, t2⟩ := new_cells hh2 (St.refl _ _ _) (r := h.nx) (Nat.le_refl _) hr els (e := e) (h' := h') (fun q => by
    by_cases hq : q = h.nx
    · rw [if_pos hq, hq, l4]
    · rw [if_neg hq]; exact l2 q hq) (by omega) (by omega) (fz := (0, 0)) (.inl rfl)
  refine kk _ _ _ t1 t2.drew.drew ⟨⟨w.heap.size, 0, cs.size⟩, cs.size, 0, upd_same _ _ _, rfl, .inl rfl, g2, g2, hmax, (fun h => nomatch h), fun s hs => ?_⟩
  have : s = 1 := by omega
  subst this
  show 0 + cs.size * 1 ≤ cs.size
  omega
end
end Go.Exe
