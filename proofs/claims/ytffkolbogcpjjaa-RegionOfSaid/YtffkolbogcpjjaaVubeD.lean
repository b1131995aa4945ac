/- Cubes as plain functions, fourth part: the reference's bit texts. -/
import Derived.Test.YtffkolbogcpjjaaVubeC
namespace Go.Proofs.Ytffkolbogcpjjaa
open Go Go.Pod Go.Proofs

/-- A loop that goes on for so many rounds, and then leaves. -/
theorem iter_run {S E R : Type} {f : S → Option (Lo S E R)} (st : Nat → S) {e : E} : ∀ (n j k : Nat), n < k →
    (∀ i, j ≤ i → i < j + n → f (st i) = some (.next (st (i + 1)))) → f (st (j + n)) = some (.exit e) → iter f k (st j) = some (.inl e)
  | 0, j, k, hk, _, he => by
    cases k with
    | zero => omega
    | succ k => exact iter_exit he
  | n + 1, j, k, hk, hs, he => by
    cases k with
    | zero => omega
    | succ k => rw [iter_next (hs j (Nat.le_refl _) (by omega)), iter_run st n (j + 1) k (by omega) (fun i h1 h2 => hs i (by omega) (by omega)) (by rw [show j + 1 + n = j + (n + 1) by omega]; exact he)]

theorem iter_run0 {S E R : Type} {f : S → Option (Lo S E R)} (st : Nat → S) {e : E} (n k : Nat) (hk : n < k)
    (hs : ∀ i, i < n → f (st i) = some (.next (st (i + 1)))) (he : f (st n) = some (.exit e)) : iter f k (st 0) = some (.inl e) :=
  iter_run st n 0 k hk (fun i _ h => hs i (by omega)) (by rwa [Nat.zero_add])

/-- The first so many of a row, and nothing after them. -/
def pre {α : Type} (z : α) (f : Nat → α) (n : Nat) : Nat × (Nat → α) := (n, fun i => if i < n then f i else z)
theorem pre_zero {α : Type} (z : α) (f : Nat → α) : pre z f 0 = (0, fun _ => z) := by unfold pre; simp
theorem pre_push {α : Type} {z : α} {f : Nat → α} {n : Nat} {a : α} (h : f n = a) : ((pre z f n).1 + 1, fun i => if i < (pre z f n).1 then (pre z f n).2 i else (fun i => ([a] : List α).getD i z) (i - (pre z f n).1)) = pre z f (n + 1) := by
  unfold pre
  congr 1
  funext i
  dsimp only
  by_cases h1 : i < n
  · rw [if_pos h1, if_pos h1, if_pos (by omega)]
  · rw [if_neg h1]
    by_cases h2 : i = n
    · subst h2; rw [if_pos (by omega), Nat.sub_self, h]; rfl
    · rw [if_neg (by omega), show i - n = (i - n - 1) + 1 by omega]; rfl

theorem room_ok {n b : Nat} (h : n ≤ 100000) (hb : b ≤ 192) : RoomOk n b := by
  refine ⟨by omega, ?_⟩
  have : n * b ≤ 100000 * 192 := Nat.mul_le_mul h hb
  omega

theorem chk_room {α β : Type} {z : β} {f : Nat → β} {n b : Nat} (h : n + 1 ≤ 100000) (hb : b ≤ 192) (o : Option α) : chk (RoomOk ((pre z f n).1 + 1) b) o = o := chk_t (room_ok h hb) o

theorem ishr_nat {a r : Nat} (hr : r ≤ 64) : ishr .u64 (a : Int) (r : Int) = ((a / 2 ^ r : Nat) : Int) := by
  simp only [ishr, IntKind.bits, Int.toNat_natCast, Nat.min_eq_left hr]
  rw [show (2 : Int) ^ r = ((2 ^ r : Nat) : Int) by simp, Int.fdiv_eq_ediv_of_nonneg _ (Int.natCast_nonneg _)]
  rfl

theorem bit_eq {a : Int} (ha : U a) {r : Nat} (hr : r ≤ 64) : (iand .u64 (ishr .u64 a (r : Int)) 1 == 1) = tb a r := by
  obtain ⟨n, rfl⟩ := Int.eq_ofNat_of_zero_le ha.1
  have hn : n < 2 ^ 64 := by have := ha.2; omega
  rw [ishr_nat hr]
  have hd : n / 2 ^ r ≤ n := Nat.div_le_self _ _
  have u1 : U ((n / 2 ^ r : Nat) : Int) := ⟨Int.natCast_nonneg _, Int.ofNat_lt.2 (show n / 2 ^ r < 18446744073709551616 by omega)⟩
  have tn : ∀ k, tb ((n / 2 ^ r : Nat) : Int) k = tb (n : Int) (r + k) := fun k => by
    unfold tb; rw [Int.toNat_natCast, Int.toNat_natCast, Nat.testBit_div_two_pow, Nat.add_comm]
  have uo : U 1 := ⟨by decide, by decide⟩
  have t1 : ∀ k, tb 1 k = decide (k = 0) := fun k => by
    unfold tb
    cases k with
    | zero => rfl
    | succ k => simp [Nat.testBit_succ]
  rw [Bool.eq_iff_iff, beq_iff_eq]
  constructor
  · intro h
    have := tb_and u1 uo 0
    rw [h, tn] at this
    simpa [t1] using this.symm
  · intro h
    refine eq_bits (u_and _ _) uo fun k => ?_
    rw [tb_and u1 uo, t1]
    cases k with
    | zero => rw [tn, Nat.add_zero, h]; rfl
    | succ k => simp

theorem ref_bits {fu : Nat} (hf : 49 ≤ fu) {x : Int} (hx : U x) {s : Nat} (hs : s ≤ 48) : F_ref01_Bits fu x (s : Int) = some (pre false (fun i => tb x (s - 1 - i)) s) := by
  unfold F_ref01_Bits
  rw [wrap_i64 (by omega) (by omega), show ((s : Int) - 1, ((0 : Nat), (fun _ => false : Nat → Bool))) = (fun j : Nat => ((s : Int) - 1 - j, pre false (fun i => tb x (s - 1 - i)) j)) 0 by simp [pre_zero]]
  rw [iter_run0 (fun j : Nat => ((s : Int) - 1 - j, pre false (fun i => tb x (s - 1 - i)) j)) s fu (by omega) (e := pre false (fun i => tb x (s - 1 - i)) s)]
  · rfl
  · intro j hj
    unfold F_ref01_Bits_L1
    dsimp only
    have e1 : decide ((s : Int) - 1 - (j : Int) ≥ 0) = true := decide_eq_true (by omega)
    have e2 : IntKind.wrap .u64 ((s : Int) - 1 - (j : Int)) = ((s - 1 - j : Nat) : Int) := by rw [wrap_u64 (by omega) (by omega)]; omega
    have e3 : IntKind.wrap .i64 ((s : Int) - 1 - (j : Int) - 1) = (s : Int) - 1 - ((j + 1 : Nat) : Int) := by rw [wrap_i64 (by omega) (by omega)]; omega
    rw [e1, ifs, e2, chk_t (by omega), chk_room (n := j) (b := 1) (by omega) (by omega), bit_eq hx (by omega), e3, pre_push rfl]
  · unfold F_ref01_Bits_L1
    dsimp only
    rw [decide_eq_false (by omega)]; rfl

/-! ### Places in a text -/

def off (i : Nat) : Nat := [0, 16, 64, 112, 128, 140, 144, 176, 208, 216, 224, 236, 248].getD i 0
def places : List (Nat × Nat) := (List.range 12).flatMap fun i => (List.range (sz i)).map fun n => (i, n)
/-- The field and the bit's place in it, of a place in the text. -/
def plc (p : Nat) : Nat × Nat := places.getD p (0, 0)

theorem off_succ {i : Nat} (hi : i < 12) : off (i + 1) = off i + sz i := by
  have : ∀ i : Fin 12, off (i.1 + 1) = off i.1 + sz i.1 := by decide
  exact this ⟨i, hi⟩
theorem off_le {i : Nat} (hi : i < 13) : off i ≤ 248 := by
  have : ∀ i : Fin 13, off i.1 ≤ 248 := by decide
  exact this ⟨i, hi⟩
theorem plc_off {i n : Nat} (hi : i < 12) (hn : n < sz i) : plc (off i + n) = (i, n) := by
  have : ∀ i : Fin 12, ∀ n : Fin 48, n.1 < sz i.1 → plc (off i.1 + n.1) = (i.1, n.1) := by decide +kernel
  exact this ⟨i, hi⟩ ⟨n, Nat.lt_of_lt_of_le hn (sz_le i)⟩ hn
theorem plc_in {p : Nat} (hp : p < 248) : (plc p).1 < 12 ∧ (plc p).2 < sz (plc p).1 ∧ off (plc p).1 + (plc p).2 = p := by
  have : ∀ p : Fin 248, (plc p.1).1 < 12 ∧ (plc p.1).2 < sz (plc p.1).1 ∧ off (plc p.1).1 + (plc p.1).2 = p.1 := by decide +kernel
  exact this ⟨p, hp⟩

/-- The field's bit that a place speaks of. -/
def bitAt (x : Nat → Int) (p : Nat) : Bool := tb (x (plc p).1) (sz (plc p).1 - 1 - (plc p).2)
/-- A cube's sign at a place. -/
def sgn (c : S_api_Cube) (p : Nat) : Int := if bitAt c.f1 p then (if bitAt c.f0 p then 49 else 48) else 120
theorem bitAt_off {x : Nat → Int} {i n : Nat} (hi : i < 12) (hn : n < sz i) : bitAt x (off i + n) = tb (x i) (sz i - 1 - n) := by
  unfold bitAt; rw [plc_off hi hn]

theorem text_L2 {fu : Nat} (hf : 49 ≤ fu) (c : S_api_Cube) (t5 : Bool) (t6 : Int) {i : Nat} (hi : i < 12) :
    iter (fun s => F_ref01_Text_L2 fu c t5 t6 (pre false (fun n => tb (c.f0 i) (sz i - 1 - n)) (sz i)) (pre false (fun n => tb (c.f1 i) (sz i - 1 - n)) (sz i)) s.1 s.2) fu ((0 : Int), pre 0 (sgn c) (off i)) = some (.inl (pre 0 (sgn c) (off (i + 1)))) := by
  have hz := sz_le i
  have ho := off_le (show i + 1 < 13 by omega)
  rw [off_succ hi] at ho ⊢
  rw [show ((0 : Int), pre 0 (sgn c) (off i)) = (fun n : Nat => ((n : Int), pre 0 (sgn c) (off i + n))) 0 from rfl]
  refine iter_run0 (fun n : Nat => ((n : Int), pre 0 (sgn c) (off i + n))) (sz i) fu (by omega) (fun n hn => ?_) ?_
  · unfold F_ref01_Text_L2
    dsimp only
    have e1 : decide ((n : Int) < (((pre false (fun n => tb (c.f0 i) (sz i - 1 - n)) (sz i)).1 : Nat) : Int)) = true := decide_eq_true (by show (n : Int) < (sz i : Int); omega)
    have v1 : (pre false (fun n => tb (c.f1 i) (sz i - 1 - n)) (sz i)).2 n = tb (c.f1 i) (sz i - 1 - n) := by show (if n < sz i then _ else _) = _; rw [if_pos hn]
    have v0 : (pre false (fun n => tb (c.f0 i) (sz i - 1 - n)) (sz i)).2 n = tb (c.f0 i) (sz i - 1 - n) := by show (if n < sz i then _ else _) = _; rw [if_pos hn]
    have hw : IntKind.wrap .i64 ((n : Int) + 1) = ((n + 1 : Nat) : Int) := wrap_succ (by omega)
    have hs : sgn c (off i + n) = if tb (c.f1 i) (sz i - 1 - n) then (if tb (c.f0 i) (sz i - 1 - n) then 49 else 48) else 120 := by unfold sgn; rw [bitAt_off hi hn, bitAt_off hi hn]
    rw [e1, ifs, chk_t (by show (0 : Int) ≤ (n : Int) ∧ (n : Int) < (sz i : Int); omega), Int.toNat_natCast, v1, v0, hw]
    cases h1 : tb (c.f1 i) (sz i - 1 - n) with
    | false =>
      rw [h1] at hs
      rw [Bool.not_false, ifs, chk_room (n := off i + n) (b := 1) (by omega) (by omega), pre_push (show sgn c (off i + n) = 120 from hs), Nat.add_assoc]
    | true =>
      rw [h1] at hs
      rw [Bool.not_true, ifs, chk_t (by show (0 : Int) ≤ (n : Int) ∧ (n : Int) < (sz i : Int); omega)]
      cases h0 : tb (c.f0 i) (sz i - 1 - n) with
      | true =>
        rw [h0] at hs
        rw [ifs, chk_room (n := off i + n) (b := 1) (by omega) (by omega), pre_push (show sgn c (off i + n) = 49 from hs), Nat.add_assoc]
      | false =>
        rw [h0] at hs
        rw [ifs, chk_room (n := off i + n) (b := 1) (by omega) (by omega), pre_push (show sgn c (off i + n) = 48 from hs), Nat.add_assoc]
  · unfold F_ref01_Text_L2
    dsimp only
    rw [decide_eq_false (by show ¬ (sz i : Int) < (sz i : Int); omega)]; rfl

theorem text_J1 {fu : Nat} (hf : 49 ≤ fu) {c : S_api_Cube} (hc : UC c) (t5 : Bool) {i : Nat} (hi : i < 12) :
    F_ref01_Text_J1 fu c t5 (i : Int) (pre 0 (sgn c) (off i)) = some (.next (t5, ((i + 1 : Nat) : Int), pre 0 (sgn c) (off (i + 1)))) := by
  unfold F_ref01_Text_J1
  rw [chk_at hi, Int.toNat_natCast, chk_nat hi, (size_eq hi).2, Option.bind_some, ref_bits hf (hc.v i hi) (sz_le i), Option.bind_some, chk_at hi, chk_nat hi, Option.bind_some, ref_bits hf (hc.c i hi) (sz_le i), Option.bind_some, text_L2 hf c t5 _ hi, wrap_succ (by omega)]
  rfl

/-- Sound so far. -/
def sndTo (c : S_api_Cube) (n : Nat) : Bool := sndH c.f1 && (List.range n).all fun i => iandn .u64 (c.f0 i) (c.f1 i) == 0
theorem sndTo_succ (c : S_api_Cube) (n : Nat) : sndTo c (n + 1) = (sndTo c n && (iandn .u64 (c.f0 n) (c.f1 n) == 0)) := by
  unfold sndTo; simp [List.range_succ, Bool.and_assoc]

/-- A cube's text. -/
def txt (c : S_api_Cube) : ByteArray := bytesOf 248 (pre 0 (sgn c) 248).2

theorem ref_text {fu : Nat} (hf : 49 ≤ fu) {c : S_api_Cube} (hc : UC c) : F_ref01_Text fu c = some (txt c, snd c) := by
  unfold F_ref01_Text
  rw [ref_head (by omega), Option.bind_some, show (sndH c.f1, (0 : Int), ((0 : Nat), (fun _ => 0 : Nat → Int))) = (fun i : Nat => (sndTo c i, (i : Int), pre 0 (sgn c) (off i))) 0 by
    rw [← pre_zero 0 (sgn c)]; simp [sndTo]; rfl]
  rw [iter_run0 (fun i : Nat => (sndTo c i, (i : Int), pre 0 (sgn c) (off i))) 12 fu (by omega) (e := (sndTo c 12, pre 0 (sgn c) 248))]
  · rfl
  · intro i hi
    unfold F_ref01_Text_L1
    dsimp only
    rw [decide_eq_true (show (i : Int) < 12 by omega), ifs, chk_at hi, Int.toNat_natCast, chk_nat hi, chk_at hi, chk_nat hi, text_J1 hf hc _ hi, text_J1 hf hc _ hi, sndTo_succ]
    unfold bne
    cases iandn .u64 (c.f0 i) (c.f1 i) == 0 with
    | true => rw [Bool.not_true, ifs, Bool.and_true]
    | false => rw [Bool.not_false, ifs, Bool.and_false]
  · unfold F_ref01_Text_L1
    dsimp only
    rw [decide_eq_false (by decide)]; rfl

theorem ref_cube {fu : Nat} (hf : 49 ≤ fu) {c : S_api_Cube} (hc : UC c) : F_ref01_Cube fu c = some (snd c) := by
  unfold F_ref01_Cube; rw [ref_text hf hc]; rfl

end Go.Proofs.Ytffkolbogcpjjaa
