/- Strings as numbers. -/
import Derived.Test.YtimnljbphmndoaaGreatDoorExD1
namespace Go.Exe
open Go

theorem bytesN_nil : bytesN [] = 0 := rfl
theorem bytesN_cons (b : UInt8) (l : List UInt8) : bytesN (b :: l) = b.toNat + 256 * bytesN l := rfl
theorem bytesN_lt : ∀ l : List UInt8, bytesN l < 256 ^ l.length
  | [] => by simp [bytesN_nil]
  | b :: l => by
    have := bytesN_lt l
    have hb : b.toNat < 256 := b.toNat_lt
    rw [bytesN_cons, List.length_cons, Nat.pow_succ]
    omega
theorem bytesN_append : ∀ a b : List UInt8, bytesN (a ++ b) = bytesN a + 256 ^ a.length * bytesN b
  | [], b => by simp [bytesN_nil]
  | x :: a, b => by
    rw [List.cons_append, bytesN_cons, bytesN_cons, bytesN_append a b, List.length_cons, Nat.pow_succ, Nat.mul_add, Nat.mul_right_comm, ← Nat.mul_assoc]
    rw [Nat.mul_comm 256 (256 ^ a.length), Nat.add_assoc]
    congr 2
    rw [Nat.mul_right_comm]
theorem bytesN_inj : ∀ {a b : List UInt8}, a.length = b.length → bytesN a = bytesN b → a = b
  | [], [], _, _ => rfl
  | [], _ :: _, h, _ => by simp at h
  | _ :: _, [], h, _ => by simp at h
  | x :: a, y :: b, h, e => by
    rw [bytesN_cons, bytesN_cons] at e
    have hx : x.toNat < 256 := x.toNat_lt
    have hy : y.toNat < 256 := y.toNat_lt
    have h1 : x.toNat = y.toNat := by omega
    have h2 : bytesN a = bytesN b := by omega
    rw [bytesN_inj (by simpa using h) h2, UInt8.toNat_inj.1 h1]
theorem bytesN_drop : ∀ (l : List UInt8) (i : Nat), bytesN l / 256 ^ i = bytesN (l.drop i)
  | l, 0 => by simp
  | [], i + 1 => by simp [bytesN_nil]
  | b :: l, i + 1 => by
    have hb : b.toNat < 256 := b.toNat_lt
    rw [bytesN_cons, List.drop_succ_cons, ← bytesN_drop l i, Nat.pow_succ, Nat.mul_comm (256 ^ i) 256, ← Nat.div_div_eq_div_mul]
    congr 1
    omega
theorem bytesN_take : ∀ (l : List UInt8) (i : Nat), bytesN l % 256 ^ i = bytesN (l.take i)
  | l, 0 => by simp [Nat.mod_one, bytesN_nil]
  | [], i + 1 => by simp [bytesN_nil]
  | b :: l, i + 1 => by
    have hb : b.toNat < 256 := b.toNat_lt
    rw [bytesN_cons, List.take_succ_cons, bytesN_cons, ← bytesN_take l i, Nat.pow_succ, Nat.mul_comm (256 ^ i) 256]
    rw [Nat.mod_mul, show (b.toNat + 256 * bytesN l) % 256 = b.toNat by omega, show (b.toNat + 256 * bytesN l) / 256 = bytesN l by omega]
theorem pow8 (i : Nat) : 2 ^ (8 * i) = 256 ^ i := by rw [Nat.pow_mul]

theorem byteAt_eq (l : List UInt8) (i : Nat) (hi : i < l.length) : byteAt (bytesN l) i = l[i].toNat := by
  have e : byteAt (bytesN l) i = (bytesN l / 256 ^ i) % 256 := by
    show ((bytesN l) >>> (8 * i)) &&& 255 = _
    rw [Nat.shiftRight_eq_div_pow, pow8]
    exact Nat.and_two_pow_sub_one_eq_mod _ 8
  rw [e, bytesN_drop, List.drop_eq_getElem_cons hi, bytesN_cons]
  have hb : l[i].toNat < 256 := l[i].toNat_lt
  omega
theorem subS_eq (l : List UInt8) (lo hi : Nat) : subS (bytesN l) lo hi = bytesN ((l.drop lo).take (hi - lo)) := by
  show ((bytesN l) >>> (8 * lo)) % (2 ^ (8 * (hi - lo))) = _
  rw [Nat.shiftRight_eq_div_pow, pow8, pow8, bytesN_drop, bytesN_take]
theorem strEq_eq (a b : List UInt8) : strEq a.length (bytesN a) b.length (bytesN b) = (a == b) := by
  show Bool.rec (motive := fun _ => Bool) false (Nat.beq (bytesN a) (bytesN b)) (Nat.beq a.length b.length) = _
  rw [beq_eq, beq_eq]
  by_cases h : a.length = b.length
  · rw [decide_eq_true h]
    show decide _ = _
    by_cases h2 : bytesN a = bytesN b
    · rw [decide_eq_true h2, bytesN_inj h h2]; simp
    · rw [decide_eq_false h2]
      exact (beq_eq_false_iff_ne.2 fun e => h2 (by rw [e])).symm
  · rw [decide_eq_false h]
    exact (beq_eq_false_iff_ne.2 fun e => h (by rw [e])).symm
theorem strLt_eq : ∀ (f : Nat) (a b : List UInt8), b.length < f → strLt f a.length (bytesN a) b.length (bytesN b) = Op.bytesLess a b
  | 0, _, _, h => absurd h (Nat.not_lt_zero _)
  | f + 1, a, [], _ => by cases a <;> rfl
  | f + 1, [], _ :: _, _ => rfl
  | f + 1, x :: a, y :: b, h => by
    have hx : x.toNat < 256 := x.toNat_lt
    have hy : y.toNat < 256 := y.toNat_lt
    have e1 : Nat.mod (bytesN (x :: a)) 256 = x.toNat := by show bytesN (x :: a) % 256 = _; rw [bytesN_cons]; omega
    have e2 : Nat.mod (bytesN (y :: b)) 256 = y.toNat := by show bytesN (y :: b) % 256 = _; rw [bytesN_cons]; omega
    have e3 : Nat.div (bytesN (x :: a)) 256 = bytesN a := by show bytesN (x :: a) / 256 = _; rw [bytesN_cons]; omega
    have e4 : Nat.div (bytesN (y :: b)) 256 = bytesN b := by show bytesN (y :: b) / 256 = _; rw [bytesN_cons]; omega
    show Bool.rec (motive := fun _ => Bool) (Nat.ble (Nat.succ (Nat.mod (bytesN (x :: a)) 256)) (Nat.mod (bytesN (y :: b)) 256)) (strLt f a.length (Nat.div (bytesN (x :: a)) 256) b.length (Nat.div (bytesN (y :: b)) 256)) (Nat.beq (Nat.mod (bytesN (x :: a)) 256) (Nat.mod (bytesN (y :: b)) 256)) = _
    rw [e1, e2, e3, e4, strLt_eq f a b (by simpa using h), beq_eq, ble_eq, show Op.bytesLess (x :: a) (y :: b) = (decide (x < y) || (x == y && Op.bytesLess a b)) from rfl]
    have hlt : decide (x < y) = decide (x.toNat < y.toNat) := decide_eq_decide.2 UInt8.lt_iff_toNat_lt
    have heq : (x == y) = decide (x.toNat = y.toNat) := by
      rw [Bool.eq_iff_iff, beq_iff_eq, decide_eq_true_iff]; exact UInt8.toNat_inj.symm
    rw [hlt, heq]
    by_cases h1 : x.toNat = y.toNat
    · rw [decide_eq_true h1, decide_eq_false (show ¬ x.toNat < y.toNat by omega)]
      show Op.bytesLess a b = (false || (true && Op.bytesLess a b))
      simp
    · rw [decide_eq_false h1]
      show decide (x.toNat + 1 ≤ y.toNat) = _
      simp [Nat.lt_iff_add_one_le]

theorem bytesLess_gt : ∀ a b : List UInt8, Op.bytesLess b a = !(Op.bytesLess a b || (a == b))
  | [], [] => rfl
  | [], _ :: _ => rfl
  | _ :: _, [] => rfl
  | x :: a, y :: b => by
    unfold Op.bytesLess
    rw [bytesLess_gt a b]
    have e : (x :: a == y :: b) = (x == y && a == b) := rfl
    rw [e]
    have h1 : decide (y < x) = decide (y.toNat < x.toNat) := decide_eq_decide.2 UInt8.lt_iff_toNat_lt
    have h2 : decide (x < y) = decide (x.toNat < y.toNat) := decide_eq_decide.2 UInt8.lt_iff_toNat_lt
    have h3 : (x == y) = decide (x.toNat = y.toNat) := by rw [Bool.eq_iff_iff, beq_iff_eq, decide_eq_true_iff]; exact UInt8.toNat_inj.symm
    have h4 : (y == x) = decide (x.toNat = y.toNat) := by rw [Bool.eq_iff_iff, beq_iff_eq, decide_eq_true_iff]; exact ⟨fun h => by rw [h], fun h => (UInt8.toNat_inj.1 h).symm⟩
    rw [h1, h2, h3, h4]
    rcases Nat.lt_trichotomy x.toNat y.toNat with h | h | h
    · rw [decide_eq_false (show ¬ y.toNat < x.toNat by omega), decide_eq_true h, decide_eq_false (show ¬ x.toNat = y.toNat by omega)]; rfl
    · rw [decide_eq_false (show ¬ y.toNat < x.toNat by omega), decide_eq_false (show ¬ x.toNat < y.toNat by omega), decide_eq_true h]; simp
    · rw [decide_eq_true (show y.toNat < x.toNat from h), decide_eq_false (show ¬ x.toNat < y.toNat by omega), decide_eq_false (show ¬ x.toNat = y.toNat by omega)]; rfl

section
variable {P : Program} {σ : Sig} {ρ : Rho}

theorem sOp_ok {op : BinOp} {n x m y : Nat} {v : AV} (h : sOp op n x m y = some v) {a b : Value} (ha : VR σ ρ (.str n x) a) (hb : VR σ ρ (.str m y) b) (t : TypeId) : ∃ u, VR σ ρ v u ∧ ∀ w, (binOp op t a b).run P w = .ok u w := by
  obtain ⟨s, rfl, rfl, rfl⟩ := ha
  obtain ⟨r, rfl, rfl, rfl⟩ := hb
  have hs : s.toList = s.data.toList := ByteArray.toList_eq s
  have hr : r.toList = r.data.toList := ByteArray.toList_eq r
  have lt : ∀ a b : List UInt8, b.length < 1000000 → strLt 1000000 a.length (bytesN a) b.length (bytesN b) = Op.bytesLess a b := fun a b h => strLt_eq _ a b h
  cases op <;> simp only [sOp] at h
  case add =>
    rw [force_eq] at h
    obtain ⟨h1, h⟩ := ite_some.1 h
    rw [force_eq] at h
    cases h
    have hl : s.data.toList.length + r.data.toList.length ≤ 0xffffffff := Nat.le_of_ble_eq_true h1
    have e1 : s.size = s.data.toList.length := (Array.length_toList (xs := s.data)).symm
    have e2 : r.size = r.data.toList.length := (Array.length_toList (xs := r.data)).symm
    refine ⟨.string (s ++ r), ⟨_, rfl, ?_, ?_⟩, fun w => ?_⟩
    · simp
    · have : (s ++ r).data.toList = s.data.toList ++ r.data.toList := by simp
      rw [this, bytesN_append]
      show _ = bytesN s.data.toList + (bytesN r.data.toList) <<< (8 * s.data.toList.length)
      rw [Nat.shiftLeft_eq, pow8, Nat.mul_comm]
    · have h3 : ¬ (((s.size + r.size : Nat) : Int) > IntKind.i64.max) := by simp only [IntKind.max, IntKind.bits, IntKind.signed]; rw [e1, e2]; simp; omega
      simp only [binOp, Op.stringOp, if_neg h3, Sem.run_pure]
  case eql => rw [bo_eq, strEq_eq] at h; cases h; exact ⟨_, rfl, fun w => by simp only [binOp, Op.stringOp, Sem.run_pure, hs, hr]⟩
  case neq => rw [bo_eq, strEq_eq] at h; cases h; exact ⟨_, rfl, fun w => by simp only [binOp, Op.stringOp, Sem.run_pure, hs, hr]⟩
  case lss => rw [bo_eq, strLt_eq _ _ _ (Nat.lt_succ_self _)] at h; cases h; exact ⟨_, rfl, fun w => by simp only [binOp, Op.stringOp, Sem.run_pure, hs, hr]⟩
  case gtr => rw [bo_eq, strLt_eq _ _ _ (Nat.lt_succ_self _), bytesLess_gt] at h; cases h; exact ⟨_, rfl, fun w => by simp only [binOp, Op.stringOp, Sem.run_pure, hs, hr]⟩
  all_goals exact nomatch h
end
end Go.Exe
