/- Cubes as plain functions, fifth part: the cubes of a difference, bit by bit. -/
import Derived.Test.YtlgkjdjgockkfaaUubeE
namespace Go.Proofs.Ytlgkjdjgockkfaa
open Go Go.Pod Go.Proofs

/-! ### Single bits -/

theorem u_pow {k : Nat} (h : k < 64) : U ((2 ^ k : Nat) : Int) := ⟨Int.natCast_nonneg _, Int.ofNat_lt.2 (show 2 ^ k < 2 ^ 64 from Nat.pow_lt_pow_right (by decide) h)⟩
theorem tb_pow (k j : Nat) : tb ((2 ^ k : Nat) : Int) j = decide (k = j) := by
  unfold tb; rw [Int.toNat_natCast, Nat.testBit_two_pow]
theorem ishl_one {k : Nat} (h : k < 64) : ishl .u64 1 (k : Int) = ((2 ^ k : Nat) : Int) := by
  rw [show (1 : Int) = ((1 : Nat) : Int) from rfl, ishl_nat (by omega), Nat.one_mul]
  rw [Nat.one_mul]; exact show 2 ^ k < 2 ^ 64 from Nat.pow_lt_pow_right (by decide) h
theorem ones_eq : (if IntKind.signed .u64 then -1 else IntKind.max .u64) = 18446744073709551615 := rfl
theorem u_ones : U 18446744073709551615 := ⟨by decide, by decide⟩
theorem tb_ones (k : Nat) : tb 18446744073709551615 k = decide (k < 64) := by
  unfold tb
  rw [show (18446744073709551615 : Int).toNat = 2 ^ 64 - 1 from rfl, Nat.testBit_two_pow_sub_one]

theorem test_live {x y : Int} (hx : U x) (hy : U y) {k : Nat} (hk : k < 64) : (iand .u64 (iandn .u64 x y) (ishl .u64 1 (k : Int)) == 0) = !(tb x k && !tb y k) := by
  rw [ishl_one hk, Bool.eq_iff_iff, zero_bits (u_and _ _)]
  constructor
  · intro h
    have := h k
    rw [tb_and (u_andn _ _) (u_pow hk), tb_andn hx hy, tb_pow, decide_eq_true rfl, Bool.and_true] at this
    rw [this]; rfl
  · intro h j
    rw [tb_and (u_andn _ _) (u_pow hk), tb_andn hx hy, tb_pow]
    by_cases e : k = j
    · subst e
      rw [decide_eq_true rfl, Bool.and_true]
      revert h
      cases tb x k <;> cases tb y k <;> simp
    · rw [decide_eq_false e, Bool.and_false]

/-! ### Places -/

def fld (p : Nat) : Nat := (plc p).1
def bt (p : Nat) : Nat := sz (fld p) - 1 - (plc p).2
/-- The place of a bit. -/
def psn (i k : Nat) : Nat := off i + (sz i - 1 - k)
/-- Is this bit that place's? -/
def isAt (p i k : Nat) : Bool := decide (fld p = i) && decide (bt p = k)
/-- Is this bit at an earlier place? -/
def isLt (p i k : Nat) : Bool := decide (k < sz i) && decide (psn i k < p)

theorem fld_lt {p : Nat} (hp : p < 248) : fld p < 12 := (plc_in hp).1
theorem bt_lt {p : Nat} (hp : p < 248) : bt p < sz (fld p) := by have := (plc_in hp).2.1; unfold bt fld at *; omega
theorem psn_bt {p : Nat} (hp : p < 248) : psn (fld p) (bt p) = p := by
  have h := plc_in hp
  unfold psn bt fld
  omega
theorem fld_off {i n : Nat} (hi : i < 12) (hn : n < sz i) : fld (off i + n) = i := by unfold fld; rw [plc_off hi hn]
theorem bt_off {i n : Nat} (hi : i < 12) (hn : n < sz i) : bt (off i + n) = sz i - 1 - n := by unfold bt; rw [fld_off hi hn, plc_off hi hn]
theorem psn_lt {i k : Nat} (hi : i < 12) (hk : k < sz i) : psn i k < 248 ∧ fld (psn i k) = i ∧ bt (psn i k) = k := by
  have ho := off_le (show i + 1 < 13 by omega)
  rw [off_succ hi] at ho
  unfold psn
  refine ⟨by omega, fld_off hi (by omega), ?_⟩
  rw [bt_off hi (by omega)]; omega

theorem isAt_iff {p i k : Nat} (hp : p < 248) (hi : i < 12) : isAt p i k = true ↔ k < sz i ∧ psn i k = p := by
  unfold isAt
  rw [Bool.and_eq_true, decide_eq_true_iff, decide_eq_true_iff]
  constructor
  · rintro ⟨rfl, rfl⟩; exact ⟨bt_lt hp, psn_bt hp⟩
  · rintro ⟨h1, rfl⟩; exact (psn_lt hi h1).2

theorem isLt_zero (i k : Nat) : isLt 0 i k = false := by unfold isLt; simp
theorem isLt_succ {p i k : Nat} (hp : p < 248) (hi : i < 12) : isLt (p + 1) i k = (isLt p i k || isAt p i k) := by
  rw [Bool.eq_iff_iff, Bool.or_eq_true, isAt_iff hp hi]
  unfold isLt
  rw [Bool.and_eq_true, Bool.and_eq_true, decide_eq_true_iff, decide_eq_true_iff, decide_eq_true_iff]
  omega
theorem isLt_at {p : Nat} (hp : p < 248) : isLt p (fld p) (bt p) = false := by
  unfold isLt; rw [psn_bt hp, decide_eq_false (Nat.lt_irrefl p), Bool.and_false]
theorem isAt_self (p : Nat) : isAt p (fld p) (bt p) = true := by unfold isAt; simp

/-! ### The difference -/

def live (a b : S_api_Cube) (p : Nat) : Bool := tb (b.f1 (fld p)) (bt p) && !tb (a.f1 (fld p)) (bt p)

def setb (m : S_api_Cube) (i : Nat) (v w : Int) : S_api_Cube := ⟨fun j => if j = i then ior .u64 (m.f0 i) v else m.f0 j, fun j => if j = i then ior .u64 (m.f1 i) w else m.f1 j⟩

/-- The first cube, with the second's bits at all places before this one. -/
def lsn (a b : S_api_Cube) : Nat → S_api_Cube
  | 0 => a
  | p + 1 => if live a b p then setb (lsn a b p) (fld p) (iand .u64 (b.f0 (fld p)) ((2 ^ bt p : Nat) : Int)) ((2 ^ bt p : Nat) : Int) else lsn a b p
/-- The part of the difference that is made at a place. -/
def prt (a b : S_api_Cube) (p : Nat) : S_api_Cube := setb (lsn a b p) (fld p) (iand .u64 (ixor .u64 18446744073709551615 (b.f0 (fld p))) ((2 ^ bt p : Nat) : Int)) ((2 ^ bt p : Nat) : Int)
def push (m : Nat × (Nat → S_api_Cube)) (c : S_api_Cube) : Nat × (Nat → S_api_Cube) := (m.1 + 1, fun i => if i < m.1 then m.2 i else (fun i => ([c] : List S_api_Cube).getD i (S_api_Cube.mk (fun _ => 0) (fun _ => 0))) (i - m.1))
/-- The parts that are made at all places before this one. -/
def lst (a b : S_api_Cube) : Nat → Nat × (Nat → S_api_Cube)
  | 0 => (0, fun _ => zc)
  | p + 1 => if live a b p then push (lst a b p) (prt a b p) else lst a b p

theorem lsn_succ (a b : S_api_Cube) (p : Nat) : lsn a b (p + 1) = if live a b p then setb (lsn a b p) (fld p) (iand .u64 (b.f0 (fld p)) ((2 ^ bt p : Nat) : Int)) ((2 ^ bt p : Nat) : Int) else lsn a b p := rfl
theorem lst_succ (a b : S_api_Cube) (p : Nat) : lst a b (p + 1) = if live a b p then push (lst a b p) (prt a b p) else lst a b p := rfl

theorem push_lt {m : Nat × (Nat → S_api_Cube)} {c : S_api_Cube} {j : Nat} (h : j < m.1) : (push m c).2 j = m.2 j := by
  show (if j < m.1 then _ else _) = _; rw [if_pos h]
theorem push_at {m : Nat × (Nat → S_api_Cube)} {c : S_api_Cube} : (push m c).2 m.1 = c := by
  show (if m.1 < m.1 then _ else _) = _; rw [if_neg (Nat.lt_irrefl _), Nat.sub_self]; rfl

theorem lst_le (a b : S_api_Cube) : ∀ p, (lst a b p).1 ≤ p
  | 0 => Nat.le_refl _
  | p + 1 => by
    have := lst_le a b p
    unfold lst
    split
    · show (lst a b p).1 + 1 ≤ p + 1; omega
    · omega

theorem uc_setb {m : S_api_Cube} (hm : UC m) (i : Nat) (v w : Int) : UC (setb m i v w) := by
  refine ⟨fun k hk => ?_, fun k hk => ?_⟩ <;> unfold setb <;> dsimp only <;> split
  · exact u_or _ _
  · exact hm.v k hk
  · exact u_or _ _
  · exact hm.c k hk

theorem uc_lsn {a : S_api_Cube} (ha : UC a) (b : S_api_Cube) : ∀ p, UC (lsn a b p)
  | 0 => ha
  | p + 1 => by
    unfold lsn
    split
    · exact uc_setb (uc_lsn ha b p) _ _ _
    · exact uc_lsn ha b p
theorem uc_prt {a : S_api_Cube} (ha : UC a) (b : S_api_Cube) (p : Nat) : UC (prt a b p) := uc_setb (uc_lsn ha b p) _ _ _

theorem setb_v {m : S_api_Cube} (hm : UC m) {p : Nat} (hp : p < 248) {v w : Int} (hv : U v) {x : Bool} (hx : ∀ k, tb v k = (x && decide (bt p = k))) {i : Nat} (hi : i < 12) (k : Nat) : tb ((setb m (fld p) v w).f0 i) k = (tb (m.f0 i) k || (x && isAt p i k)) := by
  unfold setb isAt
  dsimp only
  by_cases e : i = fld p
  · subst e
    rw [if_pos rfl, tb_or (hm.v _ (fld_lt hp)) hv, hx]; simp
  · rw [if_neg e, decide_eq_false (fun h => e h.symm)]; simp
theorem setb_c {m : S_api_Cube} (hm : UC m) {p : Nat} (hp : p < 248) (v : Int) {i : Nat} (hi : i < 12) (k : Nat) : tb ((setb m (fld p) v ((2 ^ bt p : Nat) : Int)).f1 i) k = (tb (m.f1 i) k || isAt p i k) := by
  have hb : bt p < 64 := Nat.lt_of_lt_of_le (bt_lt hp) (Nat.le_trans (sz_le _) (by decide))
  unfold setb isAt
  dsimp only
  by_cases e : i = fld p
  · subst e
    rw [if_pos rfl, tb_or (hm.c _ (fld_lt hp)) (u_pow hb), tb_pow]; simp
  · rw [if_neg e, decide_eq_false (fun h => e h.symm)]; simp

theorem bt64 {p : Nat} (hp : p < 248) : bt p < 64 := Nat.lt_of_lt_of_le (bt_lt hp) (Nat.le_trans (sz_le _) (by decide))

theorem tb_pick {x : Int} (hx : U x) {k : Nat} (hk : k < 64) (j : Nat) : tb (iand .u64 x ((2 ^ k : Nat) : Int)) j = (tb x k && decide (k = j)) := by
  rw [tb_and hx (u_pow hk), tb_pow]
  by_cases e : k = j
  · subst e; rfl
  · rw [decide_eq_false e, Bool.and_false, Bool.and_false]
theorem tb_pick_not {x : Int} (hx : U x) {k : Nat} (hk : k < 64) (j : Nat) : tb (iand .u64 (ixor .u64 18446744073709551615 x) ((2 ^ k : Nat) : Int)) j = ((!tb x k) && decide (k = j)) := by
  rw [tb_pick (u_xor _ _) hk, tb_xor u_ones hx, tb_ones, decide_eq_true hk, Bool.true_xor]

/-- The bits that are taken from the second cube before a place. -/
def fromB (a b : S_api_Cube) (p i k : Nat) : Bool := isLt p i k && (tb (b.f1 i) k && !tb (a.f1 i) k)

theorem live_at {a b : S_api_Cube} {p i k : Nat} (h : isAt p i k = true) : live a b p = (tb (b.f1 i) k && !tb (a.f1 i) k) := by
  unfold isAt at h
  rw [Bool.and_eq_true, decide_eq_true_iff, decide_eq_true_iff] at h
  obtain ⟨rfl, rfl⟩ := h
  rfl

theorem fromB_succ {a b : S_api_Cube} {p i k : Nat} (hp : p < 248) (hi : i < 12) : fromB a b (p + 1) i k = (fromB a b p i k || (live a b p && isAt p i k)) := by
  unfold fromB
  rw [isLt_succ hp hi]
  cases h : isAt p i k with
  | false => simp
  | true => rw [live_at h]; cases isLt p i k <;> simp

theorem lsn_bits {a b : S_api_Cube} (ha : UC a) (hb : UC b) : ∀ {p : Nat}, p ≤ 248 → ∀ {i : Nat}, i < 12 → ∀ k,
    tb ((lsn a b p).f0 i) k = (tb (a.f0 i) k || (fromB a b p i k && tb (b.f0 i) k)) ∧ tb ((lsn a b p).f1 i) k = (tb (a.f1 i) k || fromB a b p i k)
  | 0, _, i, hi, k => by simp [lsn, fromB, isLt_zero]
  | p + 1, hp, i, hi, k => by
    have hp' : p < 248 := hp
    obtain ⟨h0, h1⟩ := lsn_bits ha hb (Nat.le_of_lt hp') hi k
    rw [fromB_succ hp' hi]
    unfold lsn
    cases hl : live a b p with
    | false => simp [h0, h1]
    | true =>
      rw [if_pos rfl, setb_v (uc_lsn ha b p) hp' (u_and _ _) (tb_pick (hb.v _ (fld_lt hp')) (bt64 hp')) hi, setb_c (uc_lsn ha b p) hp' _ hi, h0, h1]
      cases h : isAt p i k with
      | false => simp
      | true =>
        have e : fld p = i ∧ bt p = k := by
          unfold isAt at h
          rw [Bool.and_eq_true, decide_eq_true_iff, decide_eq_true_iff] at h
          exact h
        rw [e.1, e.2]
        cases tb (a.f0 i) k <;> cases tb (b.f0 i) k <;> simp

theorem prt_bits {a b : S_api_Cube} (ha : UC a) (hb : UC b) {p : Nat} (hp : p < 248) {i : Nat} (hi : i < 12) (k : Nat) :
    tb ((prt a b p).f0 i) k = (tb (a.f0 i) k || (fromB a b p i k && tb (b.f0 i) k) || (isAt p i k && !tb (b.f0 i) k)) ∧ tb ((prt a b p).f1 i) k = (tb (a.f1 i) k || fromB a b p i k || isAt p i k) := by
  obtain ⟨h0, h1⟩ := lsn_bits ha hb (Nat.le_of_lt hp) hi k
  unfold prt
  rw [setb_v (uc_lsn ha b p) hp (u_and _ _) (tb_pick_not (hb.v _ (fld_lt hp)) (bt64 hp)) hi, setb_c (uc_lsn ha b p) hp _ hi, h0, h1]
  refine ⟨?_, rfl⟩
  cases h : isAt p i k with
  | false => simp
  | true =>
    have e : fld p = i ∧ bt p = k := by
      unfold isAt at h
      rw [Bool.and_eq_true, decide_eq_true_iff, decide_eq_true_iff] at h
      exact h
    rw [e.1, e.2]; simp

theorem less_L2 {fu : Nat} (hf : 49 ≤ fu) {a b : S_api_Cube} (ha : UC a) (hb : UC b) {i : Nat} (hi : i < 12) (t : Int) :
    iter (fun s => F_cube_Less_L2 fu b (i : Int) t s.1 s.2.1 s.2.2) fu ((sz i : Int) - 1, lsn a b (off i), lst a b (off i)) = some (.inl (lsn a b (off (i + 1)), lst a b (off (i + 1)))) := by
  have hz := sz_le i
  have ho := off_le (show i + 1 < 13 by omega)
  rw [off_succ hi] at ho ⊢
  rw [show ((sz i : Int) - 1, lsn a b (off i), lst a b (off i)) = (fun n : Nat => ((sz i : Int) - 1 - (n : Int), lsn a b (off i + n), lst a b (off i + n))) 0 by simp]
  refine iter_run0 (fun n : Nat => ((sz i : Int) - 1 - (n : Int), lsn a b (off i + n), lst a b (off i + n))) (sz i) fu (by omega) (fun n hn => ?_) ?_
  · unfold F_cube_Less_L2
    dsimp only
    have hk : sz i - 1 - n < 64 := by omega
    have e2 : (sz i : Int) - 1 - (n : Int) = ((sz i - 1 - n : Nat) : Int) := by omega
    have e3 : IntKind.wrap .i64 ((sz i : Int) - 1 - (n : Int) - 1) = (sz i : Int) - 1 - ((n + 1 : Nat) : Int) := by rw [wrap_i64 (by omega) (by omega)]; omega
    have ef := fld_off hi hn
    have eb := bt_off hi hn
    have hp : off i + n < 248 := by omega
    have hl : (lst a b (off i + n)).1 + 1 ≤ 100000 := by have := lst_le a b (off i + n); omega
    have ht : (iand .u64 (iandn .u64 (b.f1 i) ((lsn a b (off i + n)).f1 i)) (ishl .u64 1 (((sz i - 1 - n : Nat) : Int))) == 0) = !live a b (off i + n) := by
      rw [test_live (hb.c i hi) ((uc_lsn ha b _).c i hi) hk, (lsn_bits ha hb (Nat.le_of_lt hp) hi _).2]
      have : fromB a b (off i + n) i (sz i - 1 - n) = false := by
        have := isLt_at hp
        rw [ef, eb] at this
        unfold fromB; rw [this]; rfl
      rw [this, Bool.or_false]
      unfold live; rw [ef, eb]
    rw [e3, e2, decide_eq_true (show ((sz i - 1 - n : Nat) : Int) ≥ 0 by omega), ifs, chk_t (by omega), chk_at hi, Int.toNat_natCast, chk_nat hi, chk_at hi, chk_nat hi, ht, ← Nat.add_assoc, lsn_succ, lst_succ]
    cases hl' : live a b (off i + n) with
    | false => rfl
    | true =>
      simp only [Bool.not_true, ifs, chk_at hi, chk_nat hi, chk_t (room_ok hl (show 192 ≤ 192 by omega)), if_true, ones_eq, ishl_one hk]
      unfold push prt setb
      rw [ef, eb]
  · unfold F_cube_Less_L2
    dsimp only
    rw [decide_eq_false (by omega)]; rfl

theorem cube_less {fu : Nat} (hf : 49 ≤ fu) {a b : S_api_Cube} (ha : UC a) (hb : UC b) : F_cube_Less fu a b = some (if mok a b then lst a b 248 else if snd a && snd b then (1, fun i => ([a] : List S_api_Cube).getD i zc) else (0, fun _ => zc)) := by
  have h13 : 13 ≤ fu := by omega
  unfold F_cube_Less
  rw [cube_both h13 ha hb, Option.bind_some]
  cases hs : snd a && snd b with
  | false =>
    have : mok a b = false := by unfold mok; rw [hs]; rfl
    rw [this]; rfl
  | true =>
    rw [Bool.not_true, ifs, cube_meet h13 ha hb, Option.bind_some]
    cases hm : mok a b with
    | false => rfl
    | true =>
      rw [show (if true = true then (un a b 12, true) else (zc, false)) = (un a b 12, true) from rfl, Bool.not_true, ifs]
      rw [show ((0 : Int), a, ((0 : Nat), (fun _ => (S_api_Cube.mk (fun _ => 0) (fun _ => 0)) : Nat → S_api_Cube))) = (fun i : Nat => ((i : Int), lsn a b (off i), lst a b (off i))) 0 from rfl]
      rw [iter_run0 (fun i : Nat => ((i : Int), lsn a b (off i), lst a b (off i))) 12 fu (by omega) (e := lst a b 248)]
      · rfl
      · intro i hi
        have hz := sz_le i
        unfold F_cube_Less_L1
        dsimp only
        rw [decide_eq_true (show (i : Int) < 12 by omega), ifs, (size_eq hi).1, Option.bind_some, wrap_i64 (by omega) (by omega), less_L2 hf ha hb hi, wrap_succ (by omega)]
        rfl
      · unfold F_cube_Less_L1
        dsimp only
        rw [decide_eq_false (by decide)]; rfl

end Go.Proofs.Ytlgkjdjgockkfaa
