/- Slices of slices. -/
import Derived.Test.YtimnljbphmndoaaGreatDoorExD5
namespace Go.Exe
open Go

section
variable {P : Program} {σ : Sig} {ρ : Rho}

/-- A bound as the code has it. -/
def Bd (x : Option Value) (d n : Nat) : Prop := (x = none ∧ n = d) ∨ ∃ k, x = some (.int k n)

theorem bound_ok {env : Env} {a : Act} (hg : Glo P ρ) (he : ER σ ρ env a.tmps) {x : Option Operand} {d n : Nat} (h : bound (x.map fun o => opd P o env) d = some n) : Bd (x.map a.eval) d n := by
  cases x with
  | none => cases h; exact .inl ⟨rfl, rfl⟩
  | some o =>
    obtain ⟨v, h1, h2⟩ := bnd_some.1 (show bnd (opd P o env) natOf = some n from h)
    obtain ⟨k, rfl⟩ := natOf_some h2
    exact .inr ⟨k, congrArg some (opd_ok hg he h1)⟩

theorem run_sliceBound {k : IntKind} {n y : Nat} {c : BoundsCode} (h : n ≤ y) (w : World) : (Instr.sliceBound (.int k n) y c).run P w = .ok n w := by
  have h1 : (0 : Int) ≤ (n : Int) ∧ (n : Int) ≤ (y : Int) := by omega
  simp [Instr.sliceBound, asIntOf, h]

theorem run_bounds {b : Bool} {len cap l h m : Nat} {low high max : Option Value} (h1 : Bd low 0 l) (h2 : Bd high len h) (h3 : Bd max cap m) (hm : max ≠ none → high ≠ none) (k1 : l ≤ h) (k2 : h ≤ m) (k3 : m ≤ cap) (w : World) :
    (Instr.sliceBounds b len cap low high max).run P w = .ok (l, h, m) w := by
  unfold Instr.sliceBounds
  rcases h3 with ⟨rfl, rfl⟩ | ⟨k, rfl⟩
  · rcases h2 with ⟨rfl, rfl⟩ | ⟨k, rfl⟩
    · rcases h1 with ⟨rfl, rfl⟩ | ⟨k, rfl⟩ <;> simp [run_sliceBound, k1]
    · rcases h1 with ⟨rfl, rfl⟩ | ⟨k, rfl⟩ <;> simp [run_sliceBound, k1, k2]
  · rcases h2 with ⟨rfl, rfl⟩ | ⟨k, rfl⟩
    · exact absurd rfl (hm (by simp))
    · rcases h1 with ⟨rfl, rfl⟩ | ⟨k, rfl⟩ <;> simp [run_sliceBound, k1, k2, k3]

theorem sliceE_some {t e : TypeId} (h : sliceE P t = some e) : P.underlying t = some (.slice e) := by
  obtain ⟨d, h1, h⟩ := bnd_some.1 h
  split at h
  · cases h; exact h1
  · cases h
theorem arrayE_some {t : TypeId} {q : Nat × TypeId} (h : arrayE P t = some q) : P.underlying t = some (.array q.1 q.2) := by
  obtain ⟨d, h1, h⟩ := bnd_some.1 h
  split at h
  · cases h; exact h1
  · cases h
theorem strT_some {t : TypeId} (h : strT P t = true) : P.underlying t = some .string := by
  unfold strT at h
  split at h
  · assumption
  · cases h

/-- What the place and the room of a slice's slice are. -/
theorem sliceV_ok {s l h : Nat} {mx : Option Nat} {r o n c g : Nat} {v : AV} (e : sliceV s l h mx (.slc r o n c g) = some v) {x : Value} (hx : VR σ ρ (.slc r o n c g) x) :
    l ≤ h ∧ ∃ a n0 cap, x = .slice (some a) n0 cap ∧ n0 = n ∧ ∀ m, (mx = none → m = cap) → (∀ m', mx = some m' → m = m') → h ≤ m ∧ m ≤ cap ∧ VR σ ρ v (.slice (some (if m = l then a else a.add (l * s))) (h - l) (m - l)) := by
  obtain ⟨p, cap, off, h1, rfl, h2, h3, h4, h5, h6, h7⟩ := hx
  unfold sliceV at e
  obtain ⟨hlh, e⟩ := ite_some.1 e
  rw [force_eq, force_eq] at e
  have hlh : l ≤ h := Nat.le_of_ble_eq_true hlh
  have place : ∀ m, h ≤ m → m ≤ cap → ((if m = l then (⟨p.b, off, none⟩ : Addr) else (⟨p.b, off, none⟩ : Addr).add (l * s)) = ⟨p.b, if m = l then off else off + l * s, none⟩) ∧ ((if m = l then off else off + l * s) = p.base + (o + l * s) ∨ m - l = 0) := fun m hm1 hm2 => by
    by_cases hml : m = l
    · simp [hml]
    · refine ⟨by rw [if_neg hml, if_neg hml, add_lit], ?_⟩
      rw [if_neg hml]
      rcases h2 with h2 | h2
      · left; omega
      · right; omega
  refine ⟨hlh, _, n, cap, rfl, rfl, fun m hm hm' => ?_⟩
  cases mx with
  | some m' =>
    obtain rfl := hm' m' rfl
    obtain ⟨k1, e⟩ := ite_some.1 (show ite' (Nat.ble h m) (ite' (Nat.ble m c) (force (Nat.sub m l) fun c' => some (.slc r (Nat.add o (Nat.mul l s)) (Nat.sub h l) c' 0))) = some v from e)
    obtain ⟨k2, e⟩ := ite_some.1 e
    rw [force_eq] at e
    cases e
    have k1 : h ≤ m := Nat.le_of_ble_eq_true k1
    have k2 : m ≤ c := Nat.le_of_ble_eq_true k2
    obtain ⟨q1, q2⟩ := place m k1 (by omega)
    refine ⟨k1, by omega, p, m - l, _, h1, by rw [q1]; rfl, q2, by show h - l ≤ m - l; omega, Nat.le_refl _, by omega, fun _ => rfl, fun s' hs => nomatch hs⟩
  | none =>
    obtain rfl := hm rfl
    obtain ⟨k1, e⟩ := ite_some.1 (show ite' (Nat.ble h c) (force (Nat.sub c l) fun c' => Nat.rec (some (.slc r (Nat.add o (Nat.mul l s)) (Nat.sub h l) c' 0)) (fun s' _ => ite' (Nat.beq s' s) (some (.slc r (Nat.add o (Nat.mul l s)) (Nat.sub h l) c' g))) g) = some v from e)
    rw [force_eq] at e
    have k1 : h ≤ c := Nat.le_of_ble_eq_true k1
    obtain ⟨q1, q2⟩ := place m (by omega) (Nat.le_refl _)
    cases g with
    | zero =>
      cases e
      have hc := h6 rfl
      exact ⟨by omega, Nat.le_refl _, p, m - l, _, h1, by rw [q1]; rfl, q2, by show h - l ≤ m - l; omega, by show c - l ≤ m - l; omega, by omega, fun _ => by show m - l = c - l; omega, fun s' hs => nomatch hs⟩
    | succ g =>
      obtain ⟨hs, e⟩ := ite_some.1 (show ite' (Nat.beq g s) (some (AV.slc r (Nat.add o (Nat.mul l s)) (Nat.sub h l) (Nat.sub c l) (g + 1))) = some v from e)
      cases e
      obtain rfl : g = s := Nat.eq_of_beq_eq_true hs
      have h7' := h7 g rfl
      refine ⟨by omega, Nat.le_refl _, p, m - l, _, h1, by rw [q1]; rfl, q2, by show h - l ≤ m - l; omega, by show c - l ≤ m - l; omega, by omega, (fun e0 => nomatch e0), fun s' hs => ?_⟩
      cases hs
      by_cases hml : m = l
      · rw [if_pos hml, show m - l = 0 by omega]; omega
      · rw [if_neg hml, Nat.sub_mul]
        have : l * g ≤ m * g := Nat.mul_le_mul_right g (by omega)
        omega

theorem sliceO_ok {t : TypeId} {a v : AV} {lo hi mx : Option (Option AV)} (e : sliceO P t a lo hi mx = some v) {x : Value} (hx : VR σ ρ a x) {low high max : Option Value}
    (hl : ∀ d n, bound lo d = some n → Bd low d n) (hh : ∀ d n, bound hi d = some n → Bd high d n) (hm : ∀ d n, bound mx d = some n → Bd max d n) (h0 : hi = none → high = none) (h0' : hi ≠ none → high ≠ none) (hm0 : mx = none → max = none) :
    ∃ u, VR σ ρ v u ∧ ∀ w, (Instr.sliceAt t x low high max).run P w = .ok u w := by
  unfold sliceO at e
  split at e
  · cases mx with
    | some mx => exact nomatch e
    | none =>
      obtain rfl := hm0 rfl
      obtain ⟨h1, e⟩ := ite_some.1 e
      obtain ⟨l, h2, e⟩ := bnd_some.1 e
      obtain ⟨h, h3, e⟩ := bnd_some.1 e
      obtain ⟨h4, e⟩ := ite_some.1 e
      obtain ⟨h5, e⟩ := ite_some.1 e
      rw [force_eq, force_eq] at e
      cases e
      obtain ⟨s, rfl, rfl, rfl⟩ := hx
      have hu := strT_some h1
      have h4 : l ≤ h := Nat.le_of_ble_eq_true h4
      have h5 : h ≤ s.data.toList.length := Nat.le_of_ble_eq_true h5
      have hsz : s.size = s.data.toList.length := (Array.length_toList (xs := s.data)).symm
      have rb := run_bounds (P := P) (b := false) (len := s.size) (cap := s.size) (m := s.size) (hl _ _ h2) (hsz ▸ hh _ _ h3) (.inl ⟨rfl, rfl⟩) (fun h => absurd rfl h) h4 (by omega) (Nat.le_refl _)
      have el : (s.extract l h).data.toList = (s.data.toList.drop l).take (h - l) := by simp
      refine ⟨.string (s.extract l h), ⟨_, rfl, ?_, ?_⟩, fun w => ?_⟩
      · rw [el]; simp; show min (h - l) _ = h - l; omega
      · rw [el, subS_eq]
      · simp [Instr.sliceAt, Instr.slice, run_underlying hu, rb]
  · cases mx with
    | some mx =>
      cases hi with
      | none => exact nomatch e
      | some hi =>
        obtain ⟨el, h1, e⟩ := bnd_some.1 (show bnd (sliceE P t) (fun e => bnd (szOf P e) fun _ => bnd (bound lo 0) fun l => bnd (bound (some hi) 0) fun h => bnd (bound (some mx) 0) fun m => ite' (Nat.beq l 0) (ite' (Nat.beq h 0) (ite' (Nat.beq m 0) (some .nils)))) = some v from e)
        obtain ⟨sz, h2, e⟩ := bnd_some.1 e
        obtain ⟨l, h3, e⟩ := bnd_some.1 e
        obtain ⟨h, h4, e⟩ := bnd_some.1 e
        obtain ⟨m, h7, e⟩ := bnd_some.1 e
        obtain ⟨h5, e⟩ := ite_some.1 e
        obtain ⟨h6, e⟩ := ite_some.1 e
        obtain ⟨h8, e⟩ := ite_some.1 e
        cases e
        cases hx
        obtain rfl : l = 0 := Nat.eq_of_beq_eq_true h5
        obtain rfl : h = 0 := Nat.eq_of_beq_eq_true h6
        obtain rfl : m = 0 := Nat.eq_of_beq_eq_true h8
        have hu := sliceE_some h1
        have rb := run_bounds (P := P) (b := true) (len := 0) (cap := 0) (m := 0) (hl _ _ h3) (hh _ _ h4) (by
          rcases hm 0 0 (by exact h7) with q | q
          · exact .inl q
          · exact .inr q) (fun _ => h0' (by simp)) (Nat.le_refl _) (Nat.le_refl _) (Nat.le_refl _)
        exact ⟨_, rfl, fun w => by simp [Instr.sliceAt, Instr.slice, run_underlying hu, rb, run_sz h2]⟩
    | none =>
      obtain rfl := hm0 rfl
      obtain ⟨el, h1, e⟩ := bnd_some.1 e
      obtain ⟨sz, h2, e⟩ := bnd_some.1 e
      obtain ⟨l, h3, e⟩ := bnd_some.1 e
      obtain ⟨h, h4, e⟩ := bnd_some.1 e
      obtain ⟨h5, e⟩ := ite_some.1 e
      obtain ⟨h6, e⟩ := ite_some.1 e
      cases e
      cases hx
      obtain rfl : l = 0 := Nat.eq_of_beq_eq_true h5
      obtain rfl : h = 0 := Nat.eq_of_beq_eq_true h6
      have hu := sliceE_some h1
      have rb := run_bounds (P := P) (b := true) (len := 0) (cap := 0) (m := 0) (hl _ _ h3) (hh _ _ h4) (.inl ⟨rfl, rfl⟩) (fun h => absurd rfl h) (Nat.le_refl _) (Nat.le_refl _) (Nat.le_refl _)
      exact ⟨_, rfl, fun w => by simp [Instr.sliceAt, Instr.slice, run_underlying hu, rb, run_sz h2]⟩
  · rename_i r o n c g
    obtain ⟨el, h1, e⟩ := bnd_some.1 e
    obtain ⟨sz, h2, e⟩ := bnd_some.1 e
    obtain ⟨l, h3, e⟩ := bnd_some.1 e
    obtain ⟨h, h4, e⟩ := bnd_some.1 e
    have hu := sliceE_some h1
    cases mx with
    | none =>
      obtain rfl := hm0 rfl
      obtain ⟨k1, ad, n0, cap, rfl, rfl, k2⟩ := sliceV_ok (show sliceV sz l h none (.slc r o n c g) = some v from e) hx
      obtain ⟨k3, k4, k5⟩ := k2 cap (fun _ => rfl) (fun _ h => nomatch h)
      have rb := run_bounds (P := P) (b := true) (len := n0) (cap := cap) (m := cap) (hl _ _ h3) (hh _ _ h4) (.inl ⟨rfl, rfl⟩) (fun h => absurd rfl h) k1 k3 k4
      refine ⟨_, k5, fun w => ?_⟩
      simp [Instr.sliceAt, Instr.slice, run_underlying hu, rb, run_sz h2]
      split <;> rfl
    | some mx =>
      cases hi with
      | none => exact nomatch e
      | some hi =>
        obtain ⟨m, h5, e⟩ := bnd_some.1 (show bnd (bound (some mx) 0) (fun m => sliceV sz l h (some m) (.slc r o n c g)) = some v from e)
        obtain ⟨k1, ad, n0, cap, rfl, rfl, k2⟩ := sliceV_ok e hx
        obtain ⟨k3, k4, k5⟩ := k2 m (fun h => nomatch h) (fun m' h => by cases h; rfl)
        have rb := run_bounds (P := P) (b := true) (len := n0) (cap := cap) (m := m) (hl _ _ h3) (hh _ _ h4) (by
          rcases hm cap m (by exact h5) with q | q
          · exact .inl q
          · exact .inr q) (fun _ => h0' (by simp)) k1 k3 k4
        refine ⟨_, k5, fun w => ?_⟩
        simp [Instr.sliceAt, Instr.slice, run_underlying hu, rb, run_sz h2]
        split <;> rfl
  · rename_i r o
    obtain ⟨q, h1, e⟩ := bnd_some.1 e
    obtain ⟨sz, h2, e⟩ := bnd_some.1 e
    obtain ⟨l, h3, e⟩ := bnd_some.1 e
    obtain ⟨h, h4, e⟩ := bnd_some.1 e
    obtain ⟨h5, e⟩ := ite_some.1 e
    have hu := arrayE_some h1
    have h5 : q.1 ≤ 0xffffffff := Nat.le_of_ble_eq_true h5
    cases mx with
    | some mx => exact nomatch e
    | none =>
      obtain rfl := hm0 rfl
      obtain ⟨p, g1, rfl⟩ := hx
      obtain ⟨k1, ad, n0, cap, ex, rfl, k2⟩ := sliceV_ok (σ := σ) (ρ := ρ) (show sliceV sz l h none (.slc r o q.1 q.1 0) = some v from e) (x := .slice (some ⟨p.b, p.base + o, none⟩) q.1 q.1) ⟨p, q.1, _, g1, rfl, .inl rfl, Nat.le_refl _, Nat.le_refl _, by simp only [maxLen]; omega, fun _ => rfl, fun s hs => nomatch hs⟩
      cases ex
      obtain ⟨k3, k4, k5⟩ := k2 q.1 (fun _ => rfl) (fun _ h => nomatch h)
      have rb := run_bounds (P := P) (b := false) (len := q.1) (cap := q.1) (m := q.1) (hl _ _ h3) (hh _ _ h4) (.inl ⟨rfl, rfl⟩) (fun h => absurd rfl h) k1 k3 k4
      exact ⟨_, k5, fun w => by simp [Instr.sliceAt, run_underlying hu, Instr.sureAddr, rb, run_sz h2]⟩
  · cases e
end
end Go.Exe
