/- Operations on values alone: the rest. -/
import Derived.Test.YtimnljbphmndoaaGreatDoorExD4
namespace Go.Exe
open Go

section
variable {P : Program} {σ : Sig} {ρ : Rho}

theorem unO_ok {op : UnOp} {a v : AV} (h : unO op a = some v) {x : Value} (hx : VR σ ρ a x) : ∃ u, VR σ ρ v u ∧ ∀ w, (Op.unary op x).run P w = .ok u w := by
  unfold unO at h
  split at h
  · cases hx; rw [mkI_eq] at h; cases h; exact ⟨_, rfl, fun w => by simp only [Op.unary, Op.intArith, Sem.run_pure]; rfl⟩
  · cases hx; rw [bo_eq] at h; cases h; exact ⟨_, rfl, fun w => by simp [Op.unary]⟩
  · cases h

theorem nilCheckO_ok {a v : AV} (h : nilCheckO a = some v) {x : Value} (hx : VR σ ρ a x) : v = a ∧ ∀ (o : Oper) (ρ' : Operand → Value) (y : Operand), o.op = .nilCheck y → ρ' y = x → ∀ w, (execOp ρ' o).run P w = .ok (.value x) w := by
  unfold nilCheckO at h
  split at h
  · cases h; obtain ⟨p, _, rfl⟩ := hx; exact ⟨rfl, fun o ρ' y e1 e2 w => by simp [execOp, e1, e2]⟩
  · rename_i f l m
    cases h; obtain ⟨fs, cs, rfl, h1, h2⟩ := hx
    exact ⟨rfl, fun o ρ' y e1 e2 w => by simp [execOp, e1, e2]⟩
  · cases h; obtain ⟨u, rfl, _⟩ := hx; exact ⟨rfl, fun o ρ' y e1 e2 w => by simp [execOp, e1, e2]⟩
  · cases h

theorem onPtr_some {R : Type} {a : AV} {k : Nat → Nat → Option R} {x : R} (h : onPtr a k = some x) : ∃ r o, a = .ptr r o ∧ k r o = some x := by
  unfold onPtr at h
  split at h
  · exact ⟨_, _, rfl, h⟩
  · cases h

theorem add_lit (b o n : Nat) : (⟨b, o, none⟩ : Addr).add n = ⟨b, o + n, none⟩ := by unfold Addr.add; split <;> simp_all

theorem tupO_ok {a v : AV} {i : Nat} (h : tupO a i = some v) {x : Value} (hx : VR σ ρ a x) : ∃ u, VR σ ρ v u ∧ ∀ w, (Instr.extract x i).run P w = .ok u w := by
  unfold tupO at h
  split at h
  · obtain ⟨cs, rfl, h1⟩ := hx
    rw [nth_eq] at h
    obtain ⟨u, h2, h3⟩ := h1.get _ _ h
    have h2 : cs[i]? = some u := by simpa using h2
    exact ⟨u, h3, fun w => by simp [Instr.extract, h2]⟩
  · cases h

theorem fieldO_some {t : TypeId} {f : Nat} {q : Nat × Nat × Bool} (h : fieldO P t f = some q) : ∃ fs fl, P.underlying t = some (.struct fs) ∧ fs[f]? = some fl ∧ szOf P fl.type = some q.2.1 ∧ aggOf P fl.type = some q.2.2 ∧ q.1 = fl.offset := by
  obtain ⟨d, h1, h⟩ := bnd_some.1 h
  split at h
  · rename_i fs
    obtain ⟨fl, h2, h⟩ := bnd_some.1 h
    obtain ⟨n, h3, h⟩ := bnd_some.1 h
    obtain ⟨g, h4, h⟩ := bnd_some.1 h
    cases h
    rw [nth_eq] at h2
    exact ⟨fs, fl, h1, by simpa using h2, h3, h4, rfl⟩
  · cases h

theorem fieldAddrO_ok {t : TypeId} {f : Nat} {a v : AV} (h : fieldAddrO (fieldO P t f) a = some v) {x : Value} (hx : VR σ ρ a x) : ∃ u, VR σ ρ v u ∧ ∀ w, (Instr.fieldAt t x f).run P w = .ok u w := by
  obtain ⟨q, h1, h⟩ := bnd_some.1 h
  obtain ⟨hz, h⟩ := ite_some.1 h
  obtain ⟨r, o, ha, h'⟩ := onPtr_some h
  subst ha
  rw [force_eq] at h'
  cases h'
  obtain ⟨fs, fl, k1, k2, k3, k4, k5⟩ := fieldO_some h1
  obtain ⟨p, h2, rfl⟩ := hx
  have hz : 1 ≤ q.2.1 := Nat.le_of_ble_eq_true hz
  refine ⟨.pointer (some ⟨p.b, p.base + (o + q.1), none⟩), ⟨p, h2, rfl⟩, fun w => ?_⟩
  have hne : ¬ q.2.1 = 0 := by omega
  simp [Instr.fieldAt, run_underlying k1, k2, Instr.sureAddr, fieldPlace, run_sz k3, hne, add_lit, k5, Nat.add_assoc]

theorem fieldVO_ok {t : TypeId} {f : Nat} {a v : AV} (h : fieldVO (fieldO P t f) a = some v) {x : Value} (hx : VR σ ρ a x) : ∃ u, VR σ ρ v u ∧ ∀ w, (Instr.field t x f).run P w = .ok u w := by
  obtain ⟨q, h1, h⟩ := bnd_some.1 h
  split at h
  · obtain ⟨l', h2, h⟩ := bnd_some.1 h
    obtain ⟨fs, fl, k1, k2, k3, k4, k5⟩ := fieldO_some h1
    obtain ⟨cs, rfl, g1, g2⟩ := hx
    rw [k5] at h2
    obtain ⟨u, k6, k7⟩ := part_ok (P := P) g1 g2 k3 k4 h2 h
    exact ⟨u, k6, fun w => by simp [Instr.field, run_underlying k1, k2, asAgg, k7]⟩
  · cases h

theorem elemO_some {t : TypeId} {q : Option Nat × Nat × Bool} (h : elemO P t = some q) : ∃ e, szOf P e = some q.2.1 ∧ aggOf P e = some q.2.2 ∧ ((∃ n, q.1 = some n ∧ P.underlying t = some (.array n e)) ∨ (q.1 = none ∧ P.underlying t = some (.slice e))) := by
  obtain ⟨d, h1, h⟩ := bnd_some.1 h
  split at h
  · obtain ⟨n, h3, h⟩ := bnd_some.1 h
    obtain ⟨g, h4, h⟩ := bnd_some.1 h
    cases h
    exact ⟨_, h3, h4, .inl ⟨_, rfl, h1⟩⟩
  · obtain ⟨n, h3, h⟩ := bnd_some.1 h
    obtain ⟨g, h4, h⟩ := bnd_some.1 h
    cases h
    exact ⟨_, h3, h4, .inr ⟨rfl, h1⟩⟩
  · cases h

theorem natOf_some {a : AV} {n : Nat} (h : natOf a = some n) : ∃ k, a = .int k n := by
  unfold natOf at h
  split at h
  · cases h; exact ⟨_, rfl⟩
  · cases h

theorem indexAddrO_ok {t : TypeId} {a j v : AV} (h : indexAddrO (elemO P t) a j = some v) {x y : Value} (hx : VR σ ρ a x) (hy : VR σ ρ j y) : ∃ u, VR σ ρ v u ∧ ∀ w, (Instr.indexAt t x y).run P w = .ok u w := by
  obtain ⟨q, h1, hA⟩ := bnd_some.1 h
  obtain ⟨i, h2, hB⟩ := bnd_some.1 hA
  obtain ⟨k, hk⟩ := natOf_some h2
  subst hk
  clear h hA
  cases hy
  obtain ⟨e, h3, h4, h5⟩ := elemO_some h1
  split at hB
  · obtain ⟨n, h6, h'⟩ := bnd_some.1 hB
    obtain ⟨h7, h''⟩ := ite_some.1 h'
    rw [force_eq] at h''
    cases h''
    rcases h5 with ⟨n', h8, h9⟩ | ⟨h8, h9⟩
    · rw [h6] at h8; cases h8
      obtain ⟨p, g1, rfl⟩ := hx
      have h7 : i < n := Nat.le_of_ble_eq_true h7
      have hlt : (0 : Int) ≤ (i : Int) ∧ (i : Int) < (n : Int) := by omega
      refine ⟨_, ⟨p, g1, rfl⟩, fun w => ?_⟩
      simp [Instr.indexAt, asIntOf, run_underlying h9, Instr.sureAddr, hlt, run_sz h3, add_lit, Nat.add_assoc]
      omega
    · rw [h6] at h8; cases h8
  · rename_i r o n c g
    have h := hB
    rcases h5 with ⟨n', h8, h9⟩ | ⟨h8, h9⟩
    · rw [h8] at h; cases h
    · rw [h8] at h
      obtain ⟨h7, h⟩ := ite_some.1 (show ite' (Nat.ble (Nat.succ i) n) (force (Nat.add o (Nat.mul i q.2.1)) fun o => some (AV.ptr r o)) = some v from h)
      rw [force_eq] at h
      cases h
      obtain ⟨p, cap, off, g1, rfl, g2, g3, g4, _⟩ := hx
      have h7 : i < n := Nat.le_of_ble_eq_true h7
      have hlt : (0 : Int) ≤ (i : Int) ∧ (i : Int) < (n : Int) := by omega
      obtain rfl : off = p.base + o := g2.resolve_right (by omega)
      refine ⟨_, ⟨p, g1, rfl⟩, fun w => ?_⟩
      simp [Instr.indexAt, asIntOf, run_underlying h9, hlt, run_sz h3, add_lit, Nat.add_assoc]
      omega
  · cases hB

theorem indexO_ok {t : TypeId} {a j v : AV} (h : indexO P t (elemO P t) a j = some v) {x y : Value} (hx : VR σ ρ a x) (hy : VR σ ρ j y) : ∃ u, VR σ ρ v u ∧ ∀ w, (Instr.index t x y).run P w = .ok u w := by
  obtain ⟨i, h2, hB⟩ := bnd_some.1 h
  obtain ⟨k, hk⟩ := natOf_some h2
  subst hk
  clear h
  cases hy
  split at hB
  · obtain ⟨h6, h⟩ := ite_some.1 hB
    obtain ⟨h7, h⟩ := ite_some.1 h
    rw [force_eq] at h
    cases h
    obtain ⟨s, rfl, rfl, rfl⟩ := hx
    have h7 : i < s.data.toList.length := Nat.le_of_ble_eq_true h7
    have hu : P.underlying t = some .string := by
      unfold strT at h6
      split at h6
      · assumption
      · cases h6
    refine ⟨.int .u8 (s.data.toList[i].toNat : Nat), ?_, fun w => ?_⟩
    · rw [byteAt_eq _ _ h7]; rfl
    · have hsz : i < s.size := by rw [show s.size = s.data.toList.length from (Array.length_toList (xs := s.data)).symm]; exact h7
      have e1 : s[i]? = some s[i] := getElem?_pos s i hsz
      have e2 : s[i] = s.data.toList[i] := rfl
      simp [Instr.index, asIntOf, run_underlying hu, e1, e2]
  · obtain ⟨q, h1, h⟩ := bnd_some.1 hB
    obtain ⟨n, h6, h⟩ := bnd_some.1 h
    obtain ⟨h7, h⟩ := ite_some.1 h
    obtain ⟨l', h8, h⟩ := bnd_some.1 h
    obtain ⟨e, h3, h4, h5⟩ := elemO_some h1
    rcases h5 with ⟨n', h9, h10⟩ | ⟨h9, _⟩
    · rw [h6] at h9; cases h9
      obtain ⟨cs, rfl, g1, g2⟩ := hx
      have h7 : i < n := Nat.le_of_ble_eq_true h7
      have hlt : (0 : Int) ≤ (i : Int) ∧ (i : Int) < (n : Int) := by omega
      obtain ⟨u, k6, k7⟩ := part_ok (P := P) g1 g2 h3 h4 h8 h
      have k7 : ∀ w, (Go.part e cs (i * q.2.1)).run P w = .ok u w := k7
      exact ⟨u, k6, fun w => by simp [Instr.index, asIntOf, run_underlying h10, h7, run_sz h3, k7]⟩
    · rw [h6] at h9; cases h9
  · cases hB
end
end Go.Exe
