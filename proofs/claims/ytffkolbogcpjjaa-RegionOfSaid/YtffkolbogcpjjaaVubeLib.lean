/- Cubes as plain functions: what sizes, masks, soundness and intersection come to, bit by bit. -/
import Derived.Test.YtffkolbogcpjjaaFnA
import Derived.Test.YtffkolbogcpjjaaPodN
namespace Go.Proofs.Ytffkolbogcpjjaa
open Go Go.Pod Go.Proofs

/-! ### Bits of numbers -/

def U (a : Int) : Prop := 0 ≤ a ∧ a < 18446744073709551616
def tb (a : Int) (k : Nat) : Bool := a.toNat.testBit k

theorem u_wf {a : Int} (h : (Lit.int .u64 a).wf = true) : U a := wf_u64 h
theorem u_zero : U 0 := ⟨Int.le_refl _, by decide⟩

theorem bv_bit {a : Int} (h : U a) (k : Nat) : (BitVec.ofInt 64 a).getLsbD k = tb a k := by
  obtain ⟨n, rfl⟩ := Int.eq_ofNat_of_zero_le h.1
  have hn : n < 2 ^ 64 := by have := h.2; omega
  rw [BitVec.ofInt_natCast, BitVec.getLsbD_ofNat]
  simp only [tb, Int.toNat_natCast]
  by_cases hk : k < 64
  · simp [hk]
  · have : n.testBit k = false := Nat.testBit_lt_two_pow (Nat.lt_of_lt_of_le hn (Nat.pow_le_pow_right (by omega) (by omega)))
    simp [this]

theorem wrap_bv (x : BitVec 64) : IntKind.wrap .u64 (x.toNat : Int) = (x.toNat : Int) := wrap_u64 (Int.natCast_nonneg _) (by have := x.isLt; omega)
theorem u_bv (x : BitVec 64) : U (x.toNat : Int) := ⟨Int.natCast_nonneg _, by have := x.isLt; omega⟩
theorem tb_bv (x : BitVec 64) (k : Nat) : tb (x.toNat : Int) k = x.getLsbD k := by simp [tb, BitVec.testBit_toNat]

theorem u_and (a b : Int) : U (iand .u64 a b) := by unfold iand; rw [show IntKind.bits .u64 = 64 from rfl, wrap_bv]; exact u_bv _
theorem u_or (a b : Int) : U (ior .u64 a b) := by unfold ior; rw [show IntKind.bits .u64 = 64 from rfl, wrap_bv]; exact u_bv _
theorem u_xor (a b : Int) : U (ixor .u64 a b) := by unfold ixor; rw [show IntKind.bits .u64 = 64 from rfl, wrap_bv]; exact u_bv _
theorem u_andn (a b : Int) : U (iandn .u64 a b) := by unfold iandn; rw [show IntKind.bits .u64 = 64 from rfl, wrap_bv]; exact u_bv _

theorem tb_and {a b : Int} (ha : U a) (hb : U b) (k : Nat) : tb (iand .u64 a b) k = (tb a k && tb b k) := by
  unfold iand; rw [show IntKind.bits .u64 = 64 from rfl, wrap_bv, tb_bv, BitVec.getLsbD_and, bv_bit ha, bv_bit hb]
theorem tb_or {a b : Int} (ha : U a) (hb : U b) (k : Nat) : tb (ior .u64 a b) k = (tb a k || tb b k) := by
  unfold ior; rw [show IntKind.bits .u64 = 64 from rfl, wrap_bv, tb_bv, BitVec.getLsbD_or, bv_bit ha, bv_bit hb]
theorem tb_xor {a b : Int} (ha : U a) (hb : U b) (k : Nat) : tb (ixor .u64 a b) k = (tb a k ^^ tb b k) := by
  unfold ixor; rw [show IntKind.bits .u64 = 64 from rfl, wrap_bv, tb_bv, BitVec.getLsbD_xor, bv_bit ha, bv_bit hb]
theorem tb_high {a : Int} (ha : U a) {k : Nat} (hk : 64 ≤ k) : tb a k = false := by
  obtain ⟨n, rfl⟩ := Int.eq_ofNat_of_zero_le ha.1
  have hn : n < 2 ^ 64 := by have := ha.2; omega
  simp only [tb, Int.toNat_natCast]
  exact Nat.testBit_lt_two_pow (Nat.lt_of_lt_of_le hn (Nat.pow_le_pow_right (by omega) hk))
theorem tb_andn {a b : Int} (ha : U a) (hb : U b) (k : Nat) : tb (iandn .u64 a b) k = (tb a k && !tb b k) := by
  unfold iandn; rw [show IntKind.bits .u64 = 64 from rfl, wrap_bv, tb_bv, BitVec.getLsbD_and, BitVec.getLsbD_not, bv_bit ha, bv_bit hb]
  by_cases hk : k < 64
  · simp [hk]
  · simp [hk, tb_high ha (by omega : 64 ≤ k)]

theorem eq_bits {a b : Int} (ha : U a) (hb : U b) (h : ∀ k, tb a k = tb b k) : a = b := by
  obtain ⟨m, rfl⟩ := Int.eq_ofNat_of_zero_le ha.1
  obtain ⟨n, rfl⟩ := Int.eq_ofNat_of_zero_le hb.1
  congr 1
  exact Nat.eq_of_testBit_eq fun k => by simpa [tb] using h k

theorem tb_zero (k : Nat) : tb 0 k = false := by simp [tb]
theorem zero_bits {a : Int} (ha : U a) : (a == 0) = true ↔ ∀ k, tb a k = false := by
  rw [beq_iff_eq]
  constructor
  · rintro rfl k; exact tb_zero k
  · intro h; exact eq_bits ha u_zero fun k => by rw [h k, tb_zero]

/-! ### Fields -/

def sz (i : Nat) : Nat := [16, 48, 48, 16, 12, 4, 32, 32, 8, 8, 12, 12].getD i 0

theorem sz_le (i : Nat) : sz i ≤ 48 := by
  by_cases h : i < 12
  · have : ∀ i : Fin 12, sz i.1 ≤ 48 := by decide
    exact this ⟨i, h⟩
  · have : sz i = 0 := by simp [sz, List.getD, show [16, 48, 48, 16, 12, 4, 32, 32, 8, 8, 12, 12][i]? = none from List.getElem?_eq_none (by simp; omega)]
    omega

theorem size_eq {i : Nat} (h : i < 12) : F_head_Size (i : Int) = some (sz i : Int) ∧ F_ref01_Size (i : Int) = some (sz i : Int) := by
  have : ∀ i : Fin 12, F_head_Size (i.1 : Int) = some (sz i.1 : Int) ∧ F_ref01_Size (i.1 : Int) = some (sz i.1 : Int) := by decide +kernel
  exact this ⟨i, h⟩

theorem chk_at {α : Type} {i n : Nat} (h : i < n) (o : Option α) : chk (0 ≤ (i : Int) ∧ (i : Int) < ((n : Nat) : Int)) o = o := by
  unfold chk; rw [if_pos (by omega)]
theorem chk_nat {α : Type} {i n : Nat} (h : i < n) (o : Option α) : chk (i < n) o = o := by
  unfold chk; rw [if_pos h]

theorem fits_eq {i : Nat} (h : i < 12) {v : Int} (hv : U v) : F_head_fits (i : Int) v = some (decide (v < 2 ^ sz i)) := by
  have hz := sz_le i
  unfold F_head_fits
  simp only [(size_eq h).1, Option.bind_some, chk, Int.natCast_nonneg, if_true]
  congr 1
  have := ishr_zero (v := v) (s := (sz i : Int)) hv.1 (Int.natCast_nonneg _) (by omega)
  rw [Int.toNat_natCast] at this
  by_cases hlt : v < 2 ^ sz i
  · rw [decide_eq_true hlt, beq_iff_eq]; exact this.2 hlt
  · rw [decide_eq_false hlt, beq_eq_false_iff_ne]; exact fun e => hlt (this.1 e)

theorem wrap_succ {i : Nat} (h : i < 1000000) : IntKind.wrap .i64 ((i : Int) + 1) = ((i + 1 : Nat) : Int) := by
  rw [wrap_i64 (by omega) (by omega)]; simp

theorem stopAt_all {p : Nat → Bool} : ∀ (n j : Nat), stopAt p n j = none ↔ ∀ i, i < n → p (j + i) = true
  | 0, j => by simp [stopAt]
  | n + 1, j => by
    unfold stopAt
    by_cases h : p j = true
    · rw [if_pos h, stopAt_all n (j + 1)]
      constructor
      · intro k i hi
        cases i with
        | zero => exact h
        | succ i => rw [show j + (i + 1) = j + 1 + i by omega]; exact k i (by omega)
      · intro k i hi
        rw [show j + 1 + i = j + (i + 1) by omega]; exact k (i + 1) (by omega)
    · rw [if_neg h]
      constructor
      · intro e; cases e
      · intro k; exact absurd (k 0 (by omega)) (by simpa using h)

/-- A loop that goes on while a test holds, and leaves with one answer where it does not. -/
theorem iter_all {S E R : Type} {f : S → Option (Lo S E R)} (st : Nat → S) (p : Nat → Bool) (r : R) {e : E} (n k : Nat) (hk : n < k)
    (hs : ∀ i, i < n → f (st i) = if p i then some (.next (st (i + 1))) else some (.ret r)) (he : f (st n) = some (.exit e)) :
    iter f k (st 0) = some (if (List.range n).all p then .inl e else .inr r) := by
  rw [iter_scan st p (fun _ => r) n 0 k hk (fun i _ h => hs i (by omega)) (by rwa [Nat.zero_add])]
  cases h : stopAt p n 0 with
  | none =>
    have h2 := (stopAt_all n 0).1 h
    rw [if_pos]
    exact List.all_eq_true.2 fun i hi => by simpa using h2 i (by simpa using hi)
  | some m =>
    have hne : ¬ (List.range n).all p = true := fun ha => by
      have : stopAt p n 0 = none := (stopAt_all n 0).2 fun i hi => by
        have := List.all_eq_true.1 ha i (List.mem_range.2 hi)
        simpa using this
      rw [this] at h; cases h
    rw [if_neg hne]

/-- All of the twelve. -/
def all12 (p : Nat → Bool) : Bool := (List.range 12).all p
theorem all12_iff {p : Nat → Bool} : all12 p = true ↔ ∀ i, i < 12 → p i = true := by
  unfold all12
  rw [List.all_eq_true]
  exact ⟨fun h i hi => h i (List.mem_range.2 hi), fun h i hi => h i (List.mem_range.1 hi)⟩

def sndH (h : Nat → Int) : Bool := all12 fun i => decide (h i < 2 ^ sz i)
def UH (h : Nat → Int) : Prop := ∀ i, i < 12 → U (h i)

theorem head_sound {fu : Nat} (hf : 13 ≤ fu) {h : Nat → Int} (hu : UH h) : F_head_Sound fu h = some (sndH h) := by
  unfold F_head_Sound
  rw [show (0 : Int) = ((0 : Nat) : Int) from rfl, iter_all (fun i => ((i : Nat) : Int)) (fun i => decide (h i < 2 ^ sz i)) false (e := ()) 12 fu (by omega)]
  · unfold sndH all12
    cases (List.range 12).all fun i => decide (h i < 2 ^ sz i) <;> rfl
  · intro i hi
    unfold F_head_Sound_L1
    simp only [show decide ((i : Int) < 12) = true from decide_eq_true (by omega), ifs, chk_at hi, chk_nat hi, Int.toNat_natCast, fits_eq hi (hu i hi), Option.bind_some, wrap_succ (by omega : i < 1000000)]
    cases decide (h i < 2 ^ sz i) <;> rfl
  · unfold F_head_Sound_L1
    simp [ifs]

/-! ### Cubes -/

structure UC (c : S_api_Cube) : Prop where
  v : UH c.f0
  c : UH c.f1

theorem uc_wf {c : S_api_Cube} (h : S_api_Cube.wf c) : UC c := ⟨fun i hi => u_wf (h.1 i hi), fun i hi => u_wf (h.2.1 i hi)⟩

def snd (c : S_api_Cube) : Bool := sndH c.f1 && all12 fun i => iandn .u64 (c.f0 i) (c.f1 i) == 0

theorem cube_sound {fu : Nat} (hf : 13 ≤ fu) {c : S_api_Cube} (hu : UC c) : F_cube_Sound fu c = some (snd c) := by
  unfold F_cube_Sound
  rw [head_sound hf hu.c, Option.bind_some, show (0 : Int) = ((0 : Nat) : Int) from rfl, iter_all (fun i => ((i : Nat) : Int)) (fun i => iandn .u64 (c.f0 i) (c.f1 i) == 0) false (e := ()) 12 fu (by omega)]
  · unfold snd all12
    cases sndH c.f1 <;> cases (List.range 12).all fun i => iandn .u64 (c.f0 i) (c.f1 i) == 0 <;> rfl
  · intro i hi
    unfold F_cube_Sound_L1
    simp only [show decide ((i : Int) < 12) = true from decide_eq_true (by omega), ifs, chk_at hi, chk_nat hi, Int.toNat_natCast, wrap_succ (by omega : i < 1000000), bne]
    cases iandn .u64 (c.f0 i) (c.f1 i) == 0 <;> rfl
  · unfold F_cube_Sound_L1
    simp [ifs]

theorem cube_both {fu : Nat} (hf : 13 ≤ fu) {a b : S_api_Cube} (ha : UC a) (hb : UC b) : F_cube_both fu a b = some (snd a && snd b) := by
  unfold F_cube_both
  rw [cube_sound hf ha, Option.bind_some, cube_sound hf hb]
  cases snd a <;> cases snd b <;> rfl

/-- Do two cubes agree at a field? -/
def nc (a b : S_api_Cube) (i : Nat) : Bool := iand .u64 (iand .u64 (ixor .u64 (a.f0 i) (b.f0 i)) (a.f1 i)) (b.f1 i) == 0
/-- What is given by either, in the first so many fields. -/
def un (a b : S_api_Cube) (n : Nat) : S_api_Cube := ⟨fun j => if j < n then ior .u64 (a.f0 j) (b.f0 j) else a.f0 j, fun j => if j < n then ior .u64 (a.f1 j) (b.f1 j) else a.f1 j⟩
def zc : S_api_Cube := ⟨fun _ => 0, fun _ => 0⟩
def mok (a b : S_api_Cube) : Bool := snd a && snd b && all12 (nc a b)

theorem un_zero (a b : S_api_Cube) : un a b 0 = a := by simp [un]
theorem un_succ (a b : S_api_Cube) (i : Nat) : un a b (i + 1) = ⟨fun j => if j = i then ior .u64 ((un a b i).f0 i) (b.f0 i) else (un a b i).f0 j, fun j => if j = i then ior .u64 ((un a b i).f1 i) (b.f1 i) else (un a b i).f1 j⟩ := by
  unfold un
  congr 1 <;> funext j <;> by_cases h : j = i
  · subst h; simp
  · simp only [h, if_false]
    by_cases h2 : j < i
    · rw [if_pos h2, if_pos (by omega)]
    · rw [if_neg h2, if_neg (by omega)]
  · subst h; simp
  · simp only [h, if_false]
    by_cases h2 : j < i
    · rw [if_pos h2, if_pos (by omega)]
    · rw [if_neg h2, if_neg (by omega)]

theorem cube_meet {fu : Nat} (hf : 13 ≤ fu) {a b : S_api_Cube} (ha : UC a) (hb : UC b) : F_cube_Meet fu a b = some (if mok a b then (un a b 12, true) else (zc, false)) := by
  unfold F_cube_Meet
  rw [cube_both hf ha hb, Option.bind_some, show ((0 : Int), a) = (fun i : Nat => ((i : Int), un a b i)) 0 by simp [un_zero]]
  rw [iter_all (fun i => (((i : Nat) : Int), un a b i)) (nc a b) (zc, false) (e := un a b 12) 12 fu (by omega)]
  · unfold mok all12
    cases snd a <;> cases snd b <;> cases (List.range 12).all (nc a b) <;> rfl
  · intro i hi
    have e0 : (un a b i).f0 i = a.f0 i := by simp [un]
    have e1 : (un a b i).f1 i = a.f1 i := by simp [un]
    unfold F_cube_Meet_L1
    simp only [show decide ((i : Int) < 12) = true from decide_eq_true (by omega), ifs, chk_at hi, chk_nat hi, Int.toNat_natCast, wrap_succ (by omega : i < 1000000), bne, un_succ, e0, e1]
    rw [show (iand .u64 (iand .u64 (ixor .u64 (a.f0 i) (b.f0 i)) (a.f1 i)) (b.f1 i) == 0) = nc a b i from rfl]
    cases nc a b i <;> rfl
  · unfold F_cube_Meet_L1
    simp [ifs]

/-! ### Cubes, bit by bit -/

theorem snd_iff {c : S_api_Cube} (hu : UC c) : snd c = true ↔ (∀ i, i < 12 → c.f1 i < 2 ^ sz i) ∧ ∀ i, i < 12 → ∀ k, tb (c.f0 i) k = true → tb (c.f1 i) k = true := by
  unfold snd sndH
  rw [Bool.and_eq_true, all12_iff, all12_iff]
  refine and_congr ⟨fun h i hi => by simpa using h i hi, fun h i hi => by simpa using h i hi⟩ ?_
  constructor
  · intro h i hi k hk
    have := (zero_bits (u_andn _ _)).1 (h i hi) k
    rw [tb_andn (hu.v i hi) (hu.c i hi), hk] at this
    simpa using this
  · intro h i hi
    refine (zero_bits (u_andn _ _)).2 fun k => ?_
    rw [tb_andn (hu.v i hi) (hu.c i hi)]
    cases hk : tb (c.f0 i) k
    · rfl
    · rw [h i hi k hk]; rfl

theorem nc_iff {a b : S_api_Cube} (ha : UC a) (hb : UC b) {i : Nat} (hi : i < 12) : nc a b i = true ↔ ∀ k, tb (a.f1 i) k = true → tb (b.f1 i) k = true → tb (a.f0 i) k = tb (b.f0 i) k := by
  unfold nc
  rw [zero_bits (u_and _ _)]
  refine forall_congr' fun k => ?_
  rw [tb_and (u_and _ _) (hb.c i hi), tb_and (u_xor _ _) (ha.c i hi), tb_xor (ha.v i hi) (hb.v i hi)]
  cases tb (a.f0 i) k <;> cases tb (b.f0 i) k <;> cases tb (a.f1 i) k <;> cases tb (b.f1 i) k <;> simp

theorem uc_un {a b : S_api_Cube} (ha : UC a) (n : Nat) : UC (un a b n) := by
  refine ⟨fun i hi => ?_, fun i hi => ?_⟩ <;> unfold un <;> dsimp only <;> split
  · exact u_or _ _
  · exact ha.v i hi
  · exact u_or _ _
  · exact ha.c i hi
theorem uc_zc : UC zc := ⟨fun _ _ => u_zero, fun _ _ => u_zero⟩

theorem un_v {a b : S_api_Cube} (ha : UC a) (hb : UC b) {i : Nat} (hi : i < 12) (k : Nat) : tb ((un a b 12).f0 i) k = (tb (a.f0 i) k || tb (b.f0 i) k) := by
  simp only [un, hi, if_true]; exact tb_or (ha.v i hi) (hb.v i hi) k
theorem un_c {a b : S_api_Cube} (ha : UC a) (hb : UC b) {i : Nat} (hi : i < 12) (k : Nat) : tb ((un a b 12).f1 i) k = (tb (a.f1 i) k || tb (b.f1 i) k) := by
  simp only [un, hi, if_true]; exact tb_or (ha.c i hi) (hb.c i hi) k

theorem lt_pow {a : Int} (ha : U a) (n : Nat) : a < 2 ^ n ↔ ∀ k, n ≤ k → tb a k = false := by
  obtain ⟨m, rfl⟩ := Int.eq_ofNat_of_zero_le ha.1
  have e : ((m : Int) < 2 ^ n) ↔ m < 2 ^ n := by
    rw [show ((2 : Int) ^ n) = ((2 ^ n : Nat) : Int) by simp]; omega
  rw [e]
  simp only [tb, Int.toNat_natCast]
  constructor
  · intro h k hk
    exact Nat.testBit_lt_two_pow (Nat.lt_of_lt_of_le h (Nat.pow_le_pow_right (by omega) hk))
  · intro h
    rcases Nat.lt_or_ge m (2 ^ n) with h' | h'
    · exact h'
    · obtain ⟨k, h1, h2⟩ := Nat.exists_ge_and_testBit_of_ge_two_pow h'
      rw [h k h1] at h2; cases h2

theorem snd_un {a b : S_api_Cube} (ha : UC a) (hb : UC b) (sa : snd a = true) (sb : snd b = true) : snd (un a b 12) = true := by
  rw [snd_iff ha] at sa
  rw [snd_iff hb] at sb
  rw [snd_iff (uc_un ha 12)]
  refine ⟨fun i hi => ?_, fun i hi k => ?_⟩
  · rw [lt_pow ((uc_un ha 12).c i hi)]
    intro k hk
    rw [un_c ha hb hi, (lt_pow (ha.c i hi) _).1 (sa.1 i hi) k hk, (lt_pow (hb.c i hi) _).1 (sb.1 i hi) k hk]; rfl
  · rw [un_v ha hb hi, un_c ha hb hi, Bool.or_eq_true, Bool.or_eq_true]
    exact Or.imp (sa.2 i hi k) (sb.2 i hi k)

/-- Two cubes have something in common. -/
structure MOK (a b : S_api_Cube) : Prop where
  sa : snd a = true
  sb : snd b = true
  n : ∀ i, i < 12 → ∀ k, tb (a.f1 i) k = true → tb (b.f1 i) k = true → tb (a.f0 i) k = tb (b.f0 i) k

theorem mok_iff {a b : S_api_Cube} (ha : UC a) (hb : UC b) : mok a b = true ↔ MOK a b := by
  unfold mok
  rw [Bool.and_eq_true, Bool.and_eq_true, all12_iff]
  exact ⟨fun ⟨⟨h1, h2⟩, h3⟩ => ⟨h1, h2, fun i hi => (nc_iff ha hb hi).1 (h3 i hi)⟩, fun ⟨h1, h2, h3⟩ => ⟨⟨h1, h2⟩, fun i hi => (nc_iff ha hb hi).2 (h3 i hi)⟩⟩

/-- The same in all fields. -/
def eqc (a b : S_api_Cube) : Bool := ((List.range 12).all fun i => a.f0 i == b.f0 i) && (((List.range 12).all fun i => a.f1 i == b.f1 i) && true)

theorem eqc_iff {a b : S_api_Cube} : eqc a b = true ↔ ∀ i, i < 12 → a.f0 i = b.f0 i ∧ a.f1 i = b.f1 i := by
  unfold eqc
  rw [Bool.and_eq_true, Bool.and_true, List.all_eq_true, List.all_eq_true]
  constructor
  · rintro ⟨h1, h2⟩ i hi
    exact ⟨by simpa using h1 i (List.mem_range.2 hi), by simpa using h2 i (List.mem_range.2 hi)⟩
  · intro h
    exact ⟨fun i hi => by simpa using (h i (List.mem_range.1 hi)).1, fun i hi => by simpa using (h i (List.mem_range.1 hi)).2⟩

theorem eqc_bits {a b : S_api_Cube} (ha : UC a) (hb : UC b) : eqc a b = true ↔ ∀ i, i < 12 → ∀ k, tb (a.f0 i) k = tb (b.f0 i) k ∧ tb (a.f1 i) k = tb (b.f1 i) k := by
  rw [eqc_iff]
  constructor
  · intro h i hi k; rw [(h i hi).1, (h i hi).2]; exact ⟨rfl, rfl⟩
  · intro h i hi
    exact ⟨eq_bits (ha.v i hi) (hb.v i hi) fun k => (h i hi k).1, eq_bits (ha.c i hi) (hb.c i hi) fun k => (h i hi k).2⟩

/-- What Meet hands back. -/
def mt (a b : S_api_Cube) : S_api_Cube × Bool := if mok a b then (un a b 12, true) else (zc, false)
theorem mt_un {a b : S_api_Cube} (h : mok a b = true) : (mt a b).1 = un a b 12 := by unfold mt; rw [h]; rfl
theorem mt_zc {a b : S_api_Cube} (h : mok a b = false) : (mt a b).1 = zc := by unfold mt; rw [h]; rfl
theorem cube_within {fu : Nat} (hf : 13 ≤ fu) {a b : S_api_Cube} (ha : UC a) (hb : UC b) : F_cube_Within fu a b = some (mok a b && eqc (un a b 12) a) := by
  unfold F_cube_Within
  rw [cube_meet hf ha hb, Option.bind_some]
  cases mok a b <;> rfl

end Go.Proofs.Ytffkolbogcpjjaa
