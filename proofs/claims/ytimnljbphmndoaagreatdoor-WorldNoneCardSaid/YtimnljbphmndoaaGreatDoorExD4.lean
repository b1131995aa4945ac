/- Operands; two operands' operations. -/
import Derived.Test.YtimnljbphmndoaaGreatDoorExD3
import Derived.LaidEqlPtr
namespace Go.Exe
open Go

section
variable {P : Program} {σ : Sig} {ρ : Rho}

theorem ofVals_ok {f : Value → Option AV} (hf : ∀ v a, f v = some a → VR σ ρ a v) : ∀ {l : List Value} {r : List AV}, ofVals f l = some r → LR σ ρ r l
  | [], r, h => by cases h; rfl
  | v :: l, r, h => by
    unfold ofVals at h
    split at h
    · rename_i a r' h1 h2
      cases h
      exact ⟨v, l, rfl, hf v a h1, ofVals_ok hf h2⟩
    · cases h

theorem ofVal_ok : ∀ (n : Nat) {v : Value} {a : AV}, ofVal n v = some a → VR σ ρ a v
  | 0, _, _, h => nomatch h
  | n + 1, v, a, h => by
    unfold ofVal at h
    split at h
    · cases h; rfl
    · cases h; rfl
    · rw [force_eq, force_eq] at h; cases h; exact ⟨_, rfl, rfl, rfl⟩
    · cases h; rfl
    · cases h; rfl
    · cases h; rfl
    · cases h; rfl
    · cases h; rfl
    · cases h; rfl
    · obtain ⟨l, h1, h⟩ := bnd_some.1 h
      obtain ⟨h2, h⟩ := ite_some.1 h
      cases h
      exact ⟨_, rfl, ofVals_ok (fun v a e => ofVal_ok n e) h1, h2⟩
    · cases h

theorem zeroOf_ok {t : TypeId} {z : AV} (h : zeroOf P t = some z) : ∃ v, VR σ ρ z v ∧ ∀ w, (zeroValue t).run P w = .ok v w := by
  obtain ⟨i, h1, h⟩ := bnd_some.1 h
  obtain ⟨v, h2, h⟩ := bnd_some.1 h
  have h1 : P.info? t = some i := h1
  exact ⟨v, ofVal_ok 3 h, fun w => by simp [zeroValue, typeInfo, h1, h2]⟩

/-- The frame's slots hold what the machine's say. -/
def ER (σ : Sig) (ρ : Rho) (env : Env) (tmps : Array Value) : Prop := ∀ t a, getT env t = some a → t < tmps.size ∧ VR σ ρ a (tmps.getD t undef)
theorem ER.mono {ρ' : Rho} (h : Sub ρ ρ') {env : Env} {tmps : Array Value} (k : ER σ ρ env tmps) : ER σ ρ' env tmps := fun t a e => ⟨(k t a e).1, VR.mono h a (k t a e).2⟩

def Glo (P : Program) (ρ : Rho) : Prop := ∀ g, g < P.globals.size → ∃ z, ρ g = some ⟨g, 0, z⟩

theorem opd_ok {env : Env} {a : Act} (hg : Glo P ρ) (he : ER σ ρ env a.tmps) {x : Operand} {v : AV} (h : opd P x env = some v) : VR σ ρ v (a.eval x) := by
  cases x with
  | tmp t => exact (he t v h).2
  | const c => exact ofVal_ok 3 h
  | global g =>
    obtain ⟨h1, h⟩ := ite_some.1 (show ite' (Nat.ble (Nat.succ g) P.globals.size) (some (AV.ptr g 0)) = some v from h)
    cases h
    obtain ⟨z, hz⟩ := hg g (Nat.le_of_ble_eq_true h1)
    exact ⟨_, hz, rfl⟩
  | func f => cases h; exact ⟨#[], #[], rfl, rfl, rfl⟩

theorem opds_ok {env : Env} {a : Act} (hg : Glo P ρ) (he : ER σ ρ env a.tmps) : ∀ {l : List Operand} {r : List AV}, opds P l env = some r → LR σ ρ r (l.map a.eval)
  | [], r, h => by cases h; rfl
  | o :: l, r, h => by
    obtain ⟨v, h1, h⟩ := bnd_some.1 (show bnd (opd P o env) (fun v => bnd (opds P l env) fun r => some (v :: r)) = some r from h)
    obtain ⟨r', h2, h⟩ := bnd_some.1 h
    cases h
    exact ⟨_, _, rfl, opd_ok hg he h1, opds_ok hg he h2⟩

/-! ### Two operands -/

theorem guard_plain {op : BinOp} {t : TypeId} {x y : Operand} {a b : Value} (h1 : a ≠ .nilIface) (h2 : ∀ cs, a ≠ .agg cs) (w : World) : (eqGuard op t x y a b).run P w = .ok () w := by
  unfold eqGuard
  cases op <;> simp
  all_goals (split <;> first | rfl | (exact absurd rfl h1) | (exact absurd rfl (h2 _)))
theorem guard_plain2 {op : BinOp} {t : TypeId} {x y : Operand} {a b : Value} (h1 : b ≠ .nilIface) (h2 : ∀ cs, b ≠ .agg cs) (w : World) : (eqGuard op t x y a b).run P w = .ok () w := by
  unfold eqGuard
  cases op <;> simp
  all_goals (split <;> first | rfl | (exact absurd rfl h1) | (exact absurd rfl (h2 _)))
theorem isC_some {x : Operand} (h : isC x = true) : ∃ v, x = .const v := by cases x <;> first | exact ⟨_, rfl⟩ | exact nomatch h
theorem guard_nil {op : BinOp} {t : TypeId} {x y : Operand} (h : (isC x || isC y) = true) (w : World) : (eqGuard op t x y .nilIface .nilIface).run P w = .ok () w := by
  rcases Bool.or_eq_true_iff.1 h with h | h <;> obtain ⟨v, rfl⟩ := isC_some h <;> unfold eqGuard <;> cases op <;> simp

/-! The test for equality, by kind. -/
theorem eq_pp {d : Nat} {t e : TypeId} (hu : P.underlying t = some (.pointer e)) (w : World) : (Op.equalIn (d + 1) t (.pointer none) (.pointer none)).run P w = .ok true w := by simp [Op.equalIn, run_underlying hu]
theorem eq_pa {d : Nat} {t e : TypeId} {a : Addr} (hu : P.underlying t = some (.pointer e)) (w : World) : (Op.equalIn (d + 1) t (.pointer none) (.pointer (some a))).run P w = .ok false w := by simp [Op.equalIn, run_underlying hu]
theorem eq_ap {d : Nat} {t e : TypeId} {a : Addr} (hu : P.underlying t = some (.pointer e)) (w : World) : (Op.equalIn (d + 1) t (.pointer (some a)) (.pointer none)).run P w = .ok false w := by simp [Op.equalIn, run_underlying hu]
theorem eq_ss {d : Nat} {t e : TypeId} {n c m k : Nat} (hu : P.underlying t = some (.slice e)) (w : World) : (Op.equalIn (d + 1) t (.slice none n c) (.slice none m k)).run P w = .ok true w := by simp [Op.equalIn, run_underlying hu]
theorem eq_sa {d : Nat} {t e : TypeId} {a : Addr} {n c m k : Nat} (hu : P.underlying t = some (.slice e)) (w : World) : (Op.equalIn (d + 1) t (.slice none n c) (.slice (some a) m k)).run P w = .ok false w := by simp [Op.equalIn, run_underlying hu]
theorem eq_as {d : Nat} {t e : TypeId} {a : Addr} {n c m k : Nat} (hu : P.underlying t = some (.slice e)) (w : World) : (Op.equalIn (d + 1) t (.slice (some a) n c) (.slice none m k)).run P w = .ok false w := by simp [Op.equalIn, run_underlying hu]
theorem eq_mm {d : Nat} {t k e : TypeId} (hu : P.underlying t = some (.map k e)) (w : World) : (Op.equalIn (d + 1) t (.map none) (.map none)).run P w = .ok true w := by simp [Op.equalIn, run_underlying hu]
theorem eq_ma {d : Nat} {t k e : TypeId} {r : Nat} (hu : P.underlying t = some (.map k e)) (w : World) : (Op.equalIn (d + 1) t (.map none) (.map (some r))).run P w = .ok false w := by simp [Op.equalIn, run_underlying hu]
theorem eq_am {d : Nat} {t k e : TypeId} {r : Nat} (hu : P.underlying t = some (.map k e)) (w : World) : (Op.equalIn (d + 1) t (.map (some r)) (.map none)).run P w = .ok false w := by simp [Op.equalIn, run_underlying hu]
theorem eq_ff {d : Nat} {t : TypeId} {a b : Array TypeId} {c : Bool} (hu : P.underlying t = some (.func a b c)) (w : World) : (Op.equalIn (d + 1) t .nilFunc .nilFunc).run P w = .ok true w := by simp [Op.equalIn, run_underlying hu]
theorem eq_fa {d : Nat} {t : TypeId} {a b : Array TypeId} {c : Bool} {f : Fn} {x y : Array Value} (hu : P.underlying t = some (.func a b c)) (w : World) : (Op.equalIn (d + 1) t .nilFunc (.func f x y)).run P w = .ok false w := by simp [Op.equalIn, run_underlying hu]
theorem eq_af {d : Nat} {t : TypeId} {a b : Array TypeId} {c : Bool} {f : Fn} {x y : Array Value} (hu : P.underlying t = some (.func a b c)) (w : World) : (Op.equalIn (d + 1) t (.func f x y) .nilFunc).run P w = .ok false w := by simp [Op.equalIn, run_underlying hu]
theorem eq_ii {d : Nat} {t : TypeId} {ms : Array (String × TypeId)} (hu : P.underlying t = some (.interface ms)) (w : World) : (Op.equalIn (d + 1) t .nilIface .nilIface).run P w = .ok true w := by simp [Op.equalIn, run_underlying hu]
theorem eq_ia {d : Nat} {t u : TypeId} {v : Value} {ms : Array (String × TypeId)} (hu : P.underlying t = some (.interface ms)) (w : World) : (Op.equalIn (d + 1) t .nilIface (.iface u v)).run P w = .ok false w := by simp [Op.equalIn, run_underlying hu]
theorem eq_ai {d : Nat} {t u : TypeId} {v : Value} {ms : Array (String × TypeId)} (hu : P.underlying t = some (.interface ms)) (w : World) : (Op.equalIn (d + 1) t (.iface u v) .nilIface).run P w = .ok false w := by simp [Op.equalIn, run_underlying hu]
theorem eq_tt {d : Nat} {t u : TypeId} {v v' : Value} {ms : Array (String × TypeId)} (hu : P.underlying t = some (.interface ms)) {i : TypeInfo} (hi : P.info? u = some i) (hc : i.comparable = true) {r : Bool} (h : ∀ w, (Op.equalIn d u v v').run P w = .ok r w) (w : World) : (Op.equalIn (d + 1) t (.iface u v) (.iface u v')).run P w = .ok r w := by simp [Op.equalIn, run_underlying hu, typeInfo, hi, hc, h]
theorem eq_tu {d : Nat} {t u u' : TypeId} {v v' : Value} {ms : Array (String × TypeId)} (hu : P.underlying t = some (.interface ms)) (hne : u ≠ u') (w : World) : (Op.equalIn (d + 1) t (.iface u v) (.iface u' v')).run P w = .ok false w := by simp [Op.equalIn, run_underlying hu, hne]

theorem eq_same {t e : TypeId} {j : TypeInfo} (hu : P.underlying t = some (.pointer e)) (hj : P.info? e = some j) {a : Addr} (w : World) : (Op.equalIn (9999 + 1) t (.pointer (some a)) (.pointer (some a))).run P w = .ok true w := by
  have h : ∀ d : Nat, (Op.equalIn (d + 1) t (.pointer (some a)) (.pointer (some a))).run P w = .ok true w := fun d => by
    simp [Op.equalIn, run_underlying hu, sizeOf, typeInfo, hj, run_sameAddr_same]
  exact h 9999

/-- What the test for equality comes to. -/
structure EqT (P : Program) (t : TypeId) (p q : Operand) (x y : Value) (r : Bool) : Prop where
  run : ∀ w, (Op.equalIn (9999 + 1) t x y).run P w = .ok r w
  eql : binOp .eql t x y = (do pure (.bool (← Op.equal t x y)))
  neq : binOp .neq t x y = (do pure (.bool (!(← Op.equal t x y))))
  guard : ∀ op w, (eqGuard op t p q x y).run P w = .ok () w

theorem eqV_ok {t : TypeId} {p q : Operand} {a b : AV} {r : Bool} (h : eqV P t (isC p || isC q) a b = some r) {x y : Value} (hx : VR σ ρ a x) (hy : VR σ ρ b y) : EqT P t p q x y r := by
  unfold eqV at h
  cases hd : undOf P t with
  | none => rw [hd] at h; exact nomatch h
  | some d =>
    rw [hd] at h
    have hu := und_some hd
    simp only at h
    split at h
    · split at h
      · cases hx; cases hy; rw [eqA_bool h]
        exact ⟨fun w => run_equalIn_bool' (P := P) w 9999 t _ _ hu, rfl, rfl, fun op w => guard_plain (by simp) (by simp) w⟩
      · cases h
    · split at h
      · cases h; cases hx; cases hy
        exact ⟨fun w => eq_pp hu w, rfl, rfl, fun op w => guard_plain (by simp) (by simp) w⟩
      · cases h; cases hx; obtain ⟨_, _, rfl⟩ := hy
        exact ⟨fun w => eq_pa hu w, rfl, rfl, fun op w => guard_plain (by simp) (by simp) w⟩
      · cases h; cases hy; obtain ⟨_, _, rfl⟩ := hx
        exact ⟨fun w => eq_ap hu w, rfl, rfl, fun op w => guard_plain (by simp) (by simp) w⟩
      · obtain ⟨h1, h⟩ := ite_some.1 h
        obtain ⟨h2, h⟩ := ite_some.1 h
        obtain ⟨n, h3, h⟩ := bnd_some.1 h
        cases h
        have h1 := Nat.eq_of_beq_eq_true h1
        have h2 := Nat.eq_of_beq_eq_true h2
        subst h1 h2
        obtain ⟨j, h4, _⟩ := bnd_some.1 h3
        obtain ⟨p1, k1, rfl⟩ := hx
        obtain ⟨p2, k2, rfl⟩ := hy
        rw [k1] at k2; cases k2
        exact ⟨fun w => eq_same hu h4 w, rfl, rfl, fun op w => guard_plain (by simp) (by simp) w⟩
      · cases h
    · split at h
      · cases h; cases hx; cases hy
        exact ⟨fun w => eq_ss hu w, rfl, rfl, fun op w => guard_plain (by simp) (by simp) w⟩
      · cases h; cases hx; obtain ⟨_, _, _, _, rfl, _⟩ := hy
        exact ⟨fun w => eq_sa hu w, rfl, rfl, fun op w => guard_plain (by simp) (by simp) w⟩
      · cases h; cases hy; obtain ⟨_, _, _, _, rfl, _⟩ := hx
        exact ⟨fun w => eq_as hu w, rfl, rfl, fun op w => guard_plain (by simp) (by simp) w⟩
      · cases h
    · split at h
      · cases h; cases hx; cases hy
        exact ⟨fun w => eq_mm hu w, rfl, rfl, fun op w => guard_plain (by simp) (by simp) w⟩
      · cases h; cases hx; obtain ⟨_, _, rfl⟩ := hy
        exact ⟨fun w => eq_ma hu w, rfl, rfl, fun op w => guard_plain (by simp) (by simp) w⟩
      · cases h; cases hy; obtain ⟨_, _, rfl⟩ := hx
        exact ⟨fun w => eq_am hu w, rfl, rfl, fun op w => guard_plain (by simp) (by simp) w⟩
      · cases h
    · split at h
      · cases h; cases hx; cases hy
        exact ⟨fun w => eq_ff hu w, rfl, rfl, fun op w => guard_plain (by simp) (by simp) w⟩
      · cases h; cases hx; obtain ⟨_, _, rfl, _⟩ := hy
        exact ⟨fun w => eq_fa hu w, rfl, rfl, fun op w => guard_plain (by simp) (by simp) w⟩
      · cases h; cases hy; obtain ⟨_, _, rfl, _⟩ := hx
        exact ⟨fun w => eq_af hu w, rfl, rfl, fun op w => guard_plain (by simp) (by simp) w⟩
      · cases h
    · split at h
      · obtain ⟨hc, h⟩ := ite_some.1 h
        cases h; cases hx; cases hy
        exact ⟨fun w => eq_ii hu w, rfl, rfl, fun op w => guard_nil hc w⟩
      · cases h; cases hx; obtain ⟨_, rfl, _⟩ := hy
        exact ⟨fun w => eq_ia hu w, rfl, rfl, fun op w => guard_plain2 (by simp) (by simp) w⟩
      · cases h; cases hy; obtain ⟨_, rfl, _⟩ := hx
        exact ⟨fun w => eq_ai hu w, rfl, rfl, fun op w => guard_plain (by simp) (by simp) w⟩
      · rename_i t1 a1 t2 a2
        obtain ⟨u, rfl, h1⟩ := hx
        obtain ⟨v, rfl, h2⟩ := hy
        refine ⟨fun w => ?_, rfl, rfl, fun op w => guard_plain (by simp) (by simp) w⟩
        rw [beq_eq] at h
        by_cases ht : t1 = t2
        · subst ht
          rw [decide_eq_true rfl] at h
          obtain ⟨k1, h⟩ := ite_some.1 h
          have e := eqP_ok (P := P) 20 h h1 h2 9999 (by omega)
          unfold cmpT at k1
          cases hi : P.info? t1 with
          | none => rw [hi] at k1; exact nomatch k1
          | some i =>
            rw [hi] at k1
            have k1 : i.comparable = true := k1
            exact eq_tt hu hi k1 e w
        · rw [decide_eq_false ht] at h
          cases h
          exact eq_tu hu ht w
      · cases h
    · dsimp only at h
      split at h
      · obtain ⟨k1, h⟩ := ite_some.1 h
        have e := eqP_ok (P := P) 20 h hx hy (9999 + 1) (by omega)
        obtain ⟨cs, rfl, _, _⟩ := hx
        obtain ⟨cs', rfl, _, _⟩ := hy
        exact ⟨e, rfl, rfl, fun op w => run_eqGuard_agg (P := P) w op t p q cs cs' (by simpa using k1)⟩
      · cases h

/-- What is known of what is not looked into. -/
structure FactsOk (P : Program) (σ : Sig) (F : Facts) : Prop where
  bin : ∀ op a b v, F.bin op a b = some v → ∀ (ρ : Rho) (t : TypeId) (p q : Operand) (x y : Value), VR σ ρ a x → VR σ ρ b y → ∃ u, VR σ ρ v u ∧ ∀ w, (do eqGuard op t p q x y; binOp op t x y : Sem Value).run P w = .ok u w
  conv : ∀ s t i v, F.conv s t i = some v → ∀ ρ : Rho, ∃ u, VR σ ρ v u ∧ ∀ w, (convert s t (σ i)).run P w = .ok u w
  len : ∀ s v, F.len s = some v → ∃ b : ByteArray, σ s = .string b ∧ ∀ ρ : Rho, VR σ ρ v (.int .i64 (b.size : Int)) := by exact fun _ _ h => nomatch h
  idx : ∀ s i v, F.idx s i = some v → ∃ b : ByteArray, σ s = .string b ∧ ∃ h : i < b.data.toList.length, ∀ ρ : Rho, VR σ ρ v (.int .u8 (b.data.toList[i].toNat : Int)) := by exact fun _ _ _ h => nomatch h
  sub : ∀ s l h v, F.sub s l h = some v → ∃ b : ByteArray, σ s = .string b ∧ l ≤ h.getD b.size ∧ h.getD b.size ≤ b.size ∧ ∀ ρ : Rho, VR σ ρ v (.string (b.extract l (h.getD b.size))) := by exact fun _ _ _ _ h => nomatch h

theorem binO_ok {F : Facts} (hF : FactsOk P σ F) {op : BinOp} {t : TypeId} {p q : Operand} {a b v : AV} (h : binO P F op t (isC p || isC q) a b = some v) {x y : Value} (hx : VR σ ρ a x) (hy : VR σ ρ b y) :
    ∃ u, VR σ ρ v u ∧ ∀ w, (do eqGuard op t p q x y; binOp op t x y : Sem Value).run P w = .ok u w := by
  unfold binO at h
  split at h
  · cases hx; cases hy
    obtain ⟨u, h1, h2⟩ := iOp_ok (P := P) (σ := σ) (ρ := ρ) h t
    exact ⟨u, h1, fun w => by rw [Sem.run_bind, guard_plain (by simp) (by simp)]; exact h2 w⟩
  · obtain ⟨u, h1, h2⟩ := sOp_ok (P := P) (σ := σ) (ρ := ρ) h hx hy t
    obtain ⟨s, rfl, _⟩ := hx
    exact ⟨u, h1, fun w => by rw [Sem.run_bind, guard_plain (by simp) (by simp)]; exact h2 w⟩
  · exact hF.bin _ _ _ _ h ρ t p q x y hx hy
  · exact hF.bin _ _ _ _ h ρ t p q x y hx hy
  · split at h
    · obtain ⟨r, h1, h⟩ := bnd_some.1 h
      rw [bo_eq] at h; cases h
      have e := eqV_ok h1 hx hy
      refine ⟨_, rfl, fun w => ?_⟩
      rw [Sem.run_bind, e.guard, Result.andThen_ok, e.eql, Sem.run_bind]
      show ((Op.equalIn (9999 + 1) t x y).run P w).andThen _ = _
      rw [e.run w]; rfl
    · obtain ⟨r, h1, h⟩ := bnd_some.1 h
      rw [bo_eq] at h; cases h
      have e := eqV_ok h1 hx hy
      refine ⟨_, rfl, fun w => ?_⟩
      rw [Sem.run_bind, e.guard, Result.andThen_ok, e.neq, Sem.run_bind]
      show ((Op.equalIn (9999 + 1) t x y).run P w).andThen _ = _
      rw [e.run w]; rfl
    · cases h
end
end Go.Exe
