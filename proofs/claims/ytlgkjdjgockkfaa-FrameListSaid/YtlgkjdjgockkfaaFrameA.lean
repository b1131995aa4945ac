/- Frames as plain functions: what the reader holds, and what comes out. -/
import Derived.Test.YtlgkjdjgockkfaaFnC
import Derived.Test.YtlgkjdjgockkfaaPodN
import Derived.Laws.BitsLemmas
namespace Go.Proofs.Ytlgkjdjgockkfaa
open Go Go.Pod Go.Proofs

abbrev Bs := Nat × (Nat → Int)

theorem chk_t {α : Type} {p : Prop} [Decidable p] (h : p) (o : Option α) : chk p o = o := by
  unfold chk; rw [if_pos h]
theorem wrap_succ {i : Nat} (h : i < 1000000) : IntKind.wrap .i64 ((i : Int) + 1) = ((i + 1 : Nat) : Int) := by
  rw [wrap_i64 (by omega) (by omega)]; simp

/-- The same bytes. -/
def Eqv (a b : Bs) : Prop := a.1 = b.1 ∧ ∀ i, i < a.1 → a.2 i = b.2 i
theorem Eqv.refl (a : Bs) : Eqv a a := ⟨rfl, fun _ _ => rfl⟩
theorem Eqv.symm {a b : Bs} (h : Eqv a b) : Eqv b a := ⟨h.1.symm, fun i hi => (h.2 i (by rw [h.1]; exact hi)).symm⟩
theorem Eqv.trans {a b c : Bs} (h : Eqv a b) (k : Eqv b c) : Eqv a c := ⟨h.1.trans k.1, fun i hi => (h.2 i hi).trans (k.2 i (by rw [← h.1]; exact hi))⟩

/-- One behind the other. -/
def cat (a b : Bs) : Bs := (a.1 + b.1, fun i => if i < a.1 then a.2 i else b.2 (i - a.1))
def nob : Bs := (0, fun _ => 0)

theorem cat_congr {a b c d : Bs} (h : Eqv a c) (k : Eqv b d) : Eqv (cat a b) (cat c d) := by
  refine ⟨by show a.1 + b.1 = c.1 + d.1; rw [h.1, k.1], fun i hi => ?_⟩
  have hi' : i < a.1 + b.1 := hi
  show (if i < a.1 then a.2 i else b.2 (i - a.1)) = (if i < c.1 then c.2 i else d.2 (i - c.1))
  rw [← h.1]
  by_cases hc : i < a.1
  · rw [if_pos hc, if_pos hc]; exact h.2 i hc
  · rw [if_neg hc, if_neg hc]; exact k.2 _ (by omega)
theorem cat_assoc (a b c : Bs) : Eqv (cat (cat a b) c) (cat a (cat b c)) := by
  refine ⟨Nat.add_assoc _ _ _, fun i hi => ?_⟩
  have hi' : i < a.1 + b.1 + c.1 := hi
  show (if i < a.1 + b.1 then (if i < a.1 then a.2 i else b.2 (i - a.1)) else c.2 (i - (a.1 + b.1))) = (if i < a.1 then a.2 i else (if i - a.1 < b.1 then b.2 (i - a.1) else c.2 (i - a.1 - b.1)))
  by_cases h1 : i < a.1
  · rw [if_pos (by omega), if_pos h1, if_pos h1]
  · by_cases h2 : i < a.1 + b.1
    · rw [if_pos h2, if_neg h1, if_neg h1, if_pos (by omega)]
    · rw [if_neg h2, if_neg h1, if_neg (by omega), Nat.sub_sub]
theorem cat_nob (a : Bs) : Eqv (cat a nob) a := by
  refine ⟨Nat.add_zero _, fun i hi => ?_⟩
  have hi' : i < a.1 + 0 := hi
  show (if i < a.1 then a.2 i else _) = _
  rw [if_pos (by omega)]
theorem nob_cat (a : Bs) : Eqv (cat nob a) a := by
  refine ⟨Nat.zero_add _, fun i _ => ?_⟩
  show (if i < 0 then (0 : Int) else a.2 (i - 0)) = _
  rw [if_neg (by omega), Nat.sub_zero]

/-! ### The head of a frame -/

theorem shl8 {a b : Int} (h0 : 0 ≤ a) (h1 : a < 2 ^ 40) (k0 : 0 ≤ b) (k1 : b < 256) : ior .i64 (ishl .i64 a 8) (IntKind.wrap .i64 b) = a * 256 + b := by
  have e1 : ishl .i64 a 8 = a * 256 := by
    show IntKind.wrap .i64 (a * 2 ^ 8) = _
    rw [wrap_i64 (by omega) (by omega)]
    omega
  rw [e1, wrap_i64 (by omega) (by omega)]
  exact bits_join .i64 63 (by decide) (fun n hn0 hn1 => wrap_i64 (by omega) (by omega)) 8 (a * 256) b (by omega) (by omega) (by omega) k0 (by omega) (by omega)

theorem len_step {fu : Nat} {m : S_frame_Reader} (hm : 4 ≤ m.f0.1) {a : Int} {j : Nat} (hj : j < 4) (h0 : 0 ≤ a) (h1 : a < 2 ^ 40) (k : 0 ≤ m.f0.2 j ∧ m.f0.2 j < 256) :
    F_frame_Reader_length_L1 fu (((((4 : Int)).toNat - ((0 : Int)).toNat) : Nat) : Int) m a (j : Int) = some (.next (a * 256 + m.f0.2 j, ((j + 1 : Nat) : Int))) := by
  unfold F_frame_Reader_length_L1
  have e : ((0 : Int).toNat + (j : Int).toNat) = j := by simp
  rw [decide_eq_true (show (j : Int) < ((((4 : Int)).toNat - ((0 : Int)).toNat : Nat) : Int) by show (j : Int) < 4; omega), ifs, chk_t (show 0 ≤ (j : Int) ∧ (j : Int) < (((((4 : Int)).toNat - ((0 : Int)).toNat) : Nat) : Int) from ⟨by omega, by show (j : Int) < 4; omega⟩), e, chk_t (by omega), chk_t (by decide), shl8 h0 h1 k.1 k.2, wrap_succ (by omega)]

theorem length_ok {fu : Nat} (hf : 5 ≤ fu) {m : S_frame_Reader} (hm : 4 ≤ m.f0.1) (k0 : 0 ≤ m.f0.2 0 ∧ m.f0.2 0 < 256) (k1 : 0 ≤ m.f0.2 1 ∧ m.f0.2 1 < 256) (k2 : 0 ≤ m.f0.2 2 ∧ m.f0.2 2 < 256) (k3 : 0 ≤ m.f0.2 3 ∧ m.f0.2 3 < 256) :
    F_frame_Reader_length fu m = some ((((m.f0.2 0) * 256 + m.f0.2 1) * 256 + m.f0.2 2) * 256 + m.f0.2 3, true) := by
  obtain ⟨K, rfl⟩ : ∃ K, fu = K + 1 + 1 + 1 + 1 + 1 := ⟨fu - 5, by omega⟩
  have s0 := len_step (fu := K + 1 + 1 + 1 + 1 + 1) hm (a := 0) (j := 0) (by omega) (by omega) (by omega) k0
  have s1 := len_step (fu := K + 1 + 1 + 1 + 1 + 1) hm (a := 0 * 256 + m.f0.2 0) (j := 1) (by omega) (by omega) (by omega) k1
  have s2 := len_step (fu := K + 1 + 1 + 1 + 1 + 1) hm (a := (0 * 256 + m.f0.2 0) * 256 + m.f0.2 1) (j := 2) (by omega) (by omega) (by omega) k2
  have s3 := len_step (fu := K + 1 + 1 + 1 + 1 + 1) hm (a := ((0 * 256 + m.f0.2 0) * 256 + m.f0.2 1) * 256 + m.f0.2 2) (j := 3) (by omega) (by omega) (by omega) k3
  have s4 : ∀ a : Int, F_frame_Reader_length_L1 (K + 1 + 1 + 1 + 1 + 1) (((((4 : Int)).toNat - ((0 : Int)).toNat) : Nat) : Int) m a ((3 + 1 : Nat) : Int) = some (.exit a) := fun a => rfl
  unfold F_frame_Reader_length
  rw [decide_eq_false (show ¬ ((m.f0.1 : Nat) : Int) < 4 by omega), ifs, chk_t (by omega)]
  have it : iter (fun s : Int × Int => F_frame_Reader_length_L1 (K + 1 + 1 + 1 + 1 + 1) (((((4 : Int)).toNat - ((0 : Int)).toNat) : Nat) : Int) m s.1 s.2) (K + 1 + 1 + 1 + 1 + 1) ((0 : Int), (0 : Int)) = some (.inl ((((0 * 256 + m.f0.2 0) * 256 + m.f0.2 1) * 256 + m.f0.2 2) * 256 + m.f0.2 3)) := by
    rw [iter_next (s' := (0 * 256 + m.f0.2 0, ((0 + 1 : Nat) : Int))) s0, iter_next (s' := ((0 * 256 + m.f0.2 0) * 256 + m.f0.2 1, ((1 + 1 : Nat) : Int))) s1, iter_next (s' := (((0 * 256 + m.f0.2 0) * 256 + m.f0.2 1) * 256 + m.f0.2 2, ((2 + 1 : Nat) : Int))) s2, iter_next (s' := ((((0 * 256 + m.f0.2 0) * 256 + m.f0.2 1) * 256 + m.f0.2 2) * 256 + m.f0.2 3, ((3 + 1 : Nat) : Int))) s3]
    exact iter_exit (s4 _)
  rw [it]
  show some (_, true) = some (_, true)
  congr 2
  omega

/-- A frame. -/
def fr (x : Bs) : Bs := (4 + x.1, fun i => if i < 4 then (fun i => ([(IntKind.wrap .u8 (ishr .i64 ((x.1 : Nat) : Int) (24 : Int))), (IntKind.wrap .u8 (ishr .i64 ((x.1 : Nat) : Int) (16 : Int))), (IntKind.wrap .u8 (ishr .i64 ((x.1 : Nat) : Int) (8 : Int))), (IntKind.wrap .u8 ((x.1 : Nat) : Int))] : List Int).getD i (0 : Int)) i else x.2 (i - 4))

theorem shr_nat (n : Nat) (s : Nat) (hs : s ≤ 64) : ishr .i64 (n : Int) (s : Int) = ((n / 2 ^ s : Nat) : Int) := by
  show Int.fdiv (n : Int) (2 ^ min ((s : Nat) : Int).toNat 64) = _
  rw [Int.toNat_natCast, Nat.min_eq_left hs, Int.fdiv_eq_ediv_of_nonneg _ (by exact_mod_cast Nat.zero_le _)]
  simp

theorem fr_0 (x : Bs) : (fr x).2 0 = ((x.1 / 16777216 % 256 : Nat) : Int) := by
  show IntKind.wrap .u8 (ishr .i64 ((x.1 : Nat) : Int) ((24 : Nat) : Int)) = _
  rw [shr_nat _ 24 (by decide), IntKind.wrap_u8]; omega
theorem fr_1 (x : Bs) : (fr x).2 1 = ((x.1 / 65536 % 256 : Nat) : Int) := by
  show IntKind.wrap .u8 (ishr .i64 ((x.1 : Nat) : Int) ((16 : Nat) : Int)) = _
  rw [shr_nat _ 16 (by decide), IntKind.wrap_u8]; omega
theorem fr_2 (x : Bs) : (fr x).2 2 = ((x.1 / 256 % 256 : Nat) : Int) := by
  show IntKind.wrap .u8 (ishr .i64 ((x.1 : Nat) : Int) ((8 : Nat) : Int)) = _
  rw [shr_nat _ 8 (by decide), IntKind.wrap_u8]; omega
theorem fr_3 (x : Bs) : (fr x).2 3 = ((x.1 % 256 : Nat) : Int) := by
  show IntKind.wrap .u8 ((x.1 : Nat) : Int) = _
  rw [IntKind.wrap_u8]; omega
theorem fr_in (x : Bs) (i : Nat) : (fr x).2 (4 + i) = x.2 i := by
  show (if 4 + i < 4 then _ else x.2 (4 + i - 4)) = _
  rw [if_neg (by omega), Nat.add_sub_cancel_left]

theorem wrap_ok {x : Bs} (h : x.1 ≤ 65536) : F_frame_Wrap x = some (fr x, 0) := by
  unfold F_frame_Wrap
  rw [decide_eq_false (show ¬ ((x.1 : Nat) : Int) > 65536 by omega), ifs, chk_t (by decide), chk_t (by decide), chk_t (by decide), chk_t (show RoomOk (4 + x.1) 1 from ⟨by omega, by omega⟩)]
  rfl

/-- What comes out of a reader with a frame at its head. -/
theorem next_ok {fu : Nat} (hf : 5 ≤ fu) {w : Bs} {x rest : Bs} (hx : x.1 ≤ 65536) (hr : rest.1 ≤ 1000000) (h : Eqv w (cat (fr x) rest)) :
    ∃ o r, F_frame_Reader_Next fu (S_frame_Reader.mk w false) = some (o, 0, S_frame_Reader.mk r false) ∧ Eqv o x ∧ Eqv r rest := by
  have hw : w.1 = 4 + x.1 + rest.1 := h.1
  have at_ : ∀ i, i < 4 + x.1 → w.2 i = (fr x).2 i := fun i hi => by
    rw [h.2 i (by omega)]
    show (if i < 4 + x.1 then (fr x).2 i else _) = _
    rw [if_pos hi]
  have b0 := at_ 0 (by omega)
  have b1 := at_ 1 (by omega)
  have b2 := at_ 2 (by omega)
  have b3 := at_ 3 (by omega)
  rw [fr_0] at b0; rw [fr_1] at b1; rw [fr_2] at b2; rw [fr_3] at b3
  have hl := length_ok (fu := fu) hf (m := S_frame_Reader.mk w false) (show 4 ≤ w.1 by omega) (show 0 ≤ w.2 0 ∧ w.2 0 < 256 by omega) (show 0 ≤ w.2 1 ∧ w.2 1 < 256 by omega) (show 0 ≤ w.2 2 ∧ w.2 2 < 256 by omega) (show 0 ≤ w.2 3 ∧ w.2 3 < 256 by omega)
  have hn : (((w.2 0) * 256 + w.2 1) * 256 + w.2 2) * 256 + w.2 3 = (x.1 : Int) := by omega
  have hl' : F_frame_Reader_length fu (S_frame_Reader.mk w false) = some ((x.1 : Int), true) := by rw [hl]; exact congrArg some (Prod.ext hn rfl)
  have hwr : IntKind.wrap .i64 ((4 : Int) + (x.1 : Int)) = ((4 + x.1 : Nat) : Int) := by rw [wrap_i64 (by omega) (by omega)]; simp
  have cl : ∀ y : Bs, y.1 ≤ 2000000 → F_bytes_Clone y = some y := fun y hy => chk_t (show RoomOk (0 + y.1) 1 from ⟨by omega, by omega⟩) _
  refine ⟨(4 + x.1 - 4, fun i => w.2 (4 + i)), (w.1 - (4 + x.1), fun i => w.2 (4 + x.1 + i)), ?_, ⟨by show 4 + x.1 - 4 = x.1; omega, fun i hi => ?_⟩, ⟨by show w.1 - (4 + x.1) = _; omega, fun i hi => ?_⟩⟩
  · unfold F_frame_Reader_Next
    rw [hl', Option.bind_some]
    dsimp only
    rw [decide_eq_false (show ¬ (x.1 : Int) > 65536 by omega), hwr]
    show ifs false _ _ = _
    rw [ifs, decide_eq_false (show ¬ (w.1 : Int) < ((4 + x.1 : Nat) : Int) by omega)]
    show ifs false _ _ = _
    rw [ifs, chk_t (by omega), Int.toNat_natCast, Int.toNat_natCast, show (4 : Int).toNat = 4 from rfl, cl (4 + x.1 - 4, fun i => w.2 (4 + i)) (by show 4 + x.1 - 4 ≤ _; omega), Option.bind_some, chk_t (by omega), chk_t (by omega), cl (w.1 - (4 + x.1), fun i => w.2 (4 + x.1 + i)) (by show w.1 - (4 + x.1) ≤ _; omega), Option.bind_some, chk_t (by omega)]
  · have hi' : i < x.1 := by
      have : i < 4 + x.1 - 4 := hi
      omega
    show w.2 (4 + i) = x.2 i
    rw [at_ _ (by omega), fr_in]
  · have hi' : i < rest.1 := by
      have : i < w.1 - (4 + x.1) := hi
      omega
    show w.2 (4 + x.1 + i) = rest.2 i
    rw [h.2 _ (by omega)]
    show (if 4 + x.1 + i < 4 + x.1 then _ else rest.2 (4 + x.1 + i - (4 + x.1))) = _
    rw [if_neg (by omega), Nat.add_sub_cancel_left]

theorem next_none {fu : Nat} {w : Bs} (h : w.1 = 0) : F_frame_Reader_Next fu (S_frame_Reader.mk w false) = some (nob, 8, S_frame_Reader.mk w false) := by
  have hl : F_frame_Reader_length fu (S_frame_Reader.mk w false) = some (0, false) := by
    unfold F_frame_Reader_length
    rw [show (S_frame_Reader.mk w false).f0.1 = 0 from h]; rfl
  unfold F_frame_Reader_Next
  rw [hl, Option.bind_some]
  rfl

theorem same_ok {fu : Nat} {a b : Bs} (h : Eqv a b) (hf : a.1 < fu) (hs : a.1 < 1000000) : F_ref01_Same fu a b = some true := by
  have key : ∀ k K i, k < K → i + k = a.1 → iter (fun s => F_ref01_Same_L1 fu a b s) K ((i : Nat) : Int) = some (.inl ()) := by
    intro k
    induction k with
    | zero =>
      intro K i hk hi
      obtain ⟨K, rfl⟩ : ∃ K', K = K' + 1 := ⟨K - 1, by omega⟩
      refine iter_exit ?_
      unfold F_ref01_Same_L1
      rw [decide_eq_false (show ¬ (i : Int) < (a.1 : Int) by omega)]; rfl
    | succ k ih =>
      intro K i hk hi
      obtain ⟨K, rfl⟩ : ∃ K', K = K' + 1 := ⟨K - 1, by omega⟩
      rw [iter_next (s' := ((i + 1 : Nat) : Int))]
      · exact ih K (i + 1) (by omega) (by omega)
      · unfold F_ref01_Same_L1
        have hb := h.1
        rw [decide_eq_true (show (i : Int) < (a.1 : Int) by omega), ifs, chk_t (by omega), chk_t (by omega), Int.toNat_natCast, h.2 i (by omega), wrap_succ (by omega)]
        simp [ifs]
  unfold F_ref01_Same
  rw [h.1]
  simp only [bne_self_eq_false, ifs]
  rw [show (0 : Int) = ((0 : Nat) : Int) from rfl, key a.1 fu 0 hf (by omega)]
  rfl

theorem feed_ok {r : S_frame_Reader} {w : Bs} (h : r.f0.1 + w.1 ≤ 1000000) : F_frame_Reader_Feed r w = some (S_frame_Reader.mk (cat r.f0 w) r.f1) := chk_t (show RoomOk (r.f0.1 + w.1) 1 from ⟨by omega, by omega⟩) _

theorem answers_ok {fu : Nat} (hf : 5 ≤ fu) : F_law10_answers fu = some true := by
  have h0 : F_law10_answers 5 = some true := by kernel_rfl
  have hl : ∀ m : S_frame_Reader, m.f0.1 = 6 → (∀ i, i < 4 → m.f0.2 i = ([(0 : Int), 0, 0, 1] : List Int).getD i 0) → F_frame_Reader_length fu m = F_frame_Reader_length 5 m := fun m h1 h2 => by
    have e0 : m.f0.2 0 = 0 := h2 0 (by omega)
    have e1 : m.f0.2 1 = 0 := h2 1 (by omega)
    have e2 : m.f0.2 2 = 0 := h2 2 (by omega)
    have e3 : m.f0.2 3 = 1 := h2 3 (by omega)
    rw [length_ok hf (by omega) (by omega) (by omega) (by omega) (by omega), length_ok (fu := 5) (by omega) (by omega) (by omega) (by omega) (by omega) (by omega)]
  rw [← h0]
  unfold F_law10_answers F_frame_New
  simp only [Option.bind_some]
  congr 1
  rw [feed_ok (by show 0 + 6 ≤ 1000000; omega)]
  simp only [Option.bind_some]
  congr 1
  unfold F_frame_Reader_Next
  rw [hl _ rfl (fun i hi => by
    rcases (by omega : i = 0 ∨ i = 1 ∨ i = 2 ∨ i = 3) with rfl | rfl | rfl | rfl <;> rfl)]

theorem pl_FrameNone (t0 : Bs) (_ : t0.1 ≤ maxLen ∧ ∀ i, i < t0.1 → (Lit.int .u8 (t0.2 i)).wf = true) : ∃ fu, F_law10_FrameNone fu t0 = some true := by
  refine ⟨5, ?_⟩
  unfold F_law10_FrameNone
  rw [answers_ok (Nat.le_refl 5)]
  rfl

end Go.Proofs.Ytlgkjdjgockkfaa
