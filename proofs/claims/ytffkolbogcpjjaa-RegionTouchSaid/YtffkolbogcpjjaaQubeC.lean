/- Cubes as plain functions, third part: masks, setting, With, Has; CubeNear. -/
import Derived.Test.YtffkolbogcpjjaaQubeB
namespace Go.Proofs.Ytffkolbogcpjjaa
open Go Go.Pod Go.Proofs

theorem chk_t {α : Type} {p : Prop} [Decidable p] (h : p) (o : Option α) : chk p o = o := by
  unfold chk; rw [if_pos h]

theorem ishl_nat {a r : Nat} (hr : r ≤ 64) (h : a * 2 ^ r < 18446744073709551616) : ishl .u64 (a : Int) (r : Int) = ((a * 2 ^ r : Nat) : Int) := by
  simp only [ishl, IntKind.bits, Int.toNat_natCast, Nat.min_eq_left hr]
  rw [show (a : Int) * 2 ^ r = ((a * 2 ^ r : Nat) : Int) by simp]
  exact wrap_u64 (by omega) (by omega)

theorem two_pow_le {r : Nat} (h : r ≤ 48) : 2 ^ r ≤ 281474976710656 := by
  have : 2 ^ r ≤ 2 ^ 48 := Nat.pow_le_pow_right (by decide) h
  omega

/-- The mask of the highest so many bits of a field. -/
def msk (i j : Nat) : Int := (((2 ^ j - 1) * 2 ^ (sz i - j) : Nat) : Int)

theorem msk_lt {i j : Nat} (hj : j ≤ sz i) : (2 ^ j - 1) * 2 ^ (sz i - j) < 2 ^ sz i := by
  have h1 : 2 ^ j * 2 ^ (sz i - j) = 2 ^ sz i := by rw [← Nat.pow_add]; congr 1; omega
  have h2 : 0 < 2 ^ (sz i - j) := Nat.two_pow_pos _
  rw [Nat.sub_mul, h1, Nat.one_mul]
  have : 0 < 2 ^ sz i := Nat.two_pow_pos _
  omega

theorem u_msk {i j : Nat} (hj : j ≤ sz i) : U (msk i j) := by
  have := msk_lt hj
  have := two_pow_le (sz_le i)
  unfold U msk
  omega

theorem tb_msk (i j k : Nat) : tb (msk i j) k = (decide (sz i - j ≤ k) && decide (k - (sz i - j) < j)) := by
  unfold tb msk
  rw [Int.toNat_natCast, Nat.testBit_mul_two_pow, Nat.testBit_two_pow_sub_one]

theorem tb_msk' {i j : Nat} (hj : j ≤ sz i) (k : Nat) : tb (msk i j) k = (decide (sz i - j ≤ k) && decide (k < sz i)) := by
  rw [tb_msk]
  by_cases h : sz i - j ≤ k
  · rw [show decide (k - (sz i - j) < j) = decide (k < sz i) from decide_eq_decide.2 (by omega)]
  · simp [h]

theorem there_eq (t : Int) : F_head_there t = some (decide (0 ≤ t ∧ t < 12)) := by
  unfold F_head_there
  congr 1
  by_cases h : t ≥ 0 <;> simp [h]

theorem there_nat {i : Nat} (h : i < 12) : F_head_there (i : Int) = some true := by
  rw [there_eq, decide_eq_true (by omega)]

theorem nat12 {t : Int} (h : 0 ≤ t ∧ t < 12) : ∃ i : Nat, i < 12 ∧ t = (i : Int) := ⟨t.toNat, by omega, by omega⟩

theorem ref_fits {i : Nat} (v : Int) : F_ref01_Fits v (sz i : Int) = some (decide (v < 2 ^ sz i)) := by
  have hz := sz_le i
  have h2 := two_pow_le hz
  unfold F_ref01_Fits
  rw [wrap_u64 (by omega) (by omega), chk_t (by omega), show (1 : Int) = ((1 : Nat) : Int) from rfl, ishl_nat (by omega) (by omega), Nat.one_mul]
  simp

theorem ref_head {fu : Nat} (hf : 13 ≤ fu) (h : Nat → Int) : F_ref01_Head fu h = some (sndH h) := by
  unfold F_ref01_Head
  rw [show (0 : Int) = ((0 : Nat) : Int) from rfl, iter_all (fun i => ((i : Nat) : Int)) (fun i => decide (h i < 2 ^ sz i)) false (e := ()) 12 fu (by omega)]
  · unfold sndH all12
    cases (List.range 12).all fun i => decide (h i < 2 ^ sz i) <;> rfl
  · intro i hi
    unfold F_ref01_Head_L1
    simp only [show decide ((i : Int) < 12) = true from decide_eq_true (by omega), ifs, chk_at hi, chk_nat hi, Int.toNat_natCast, (size_eq hi).2, ref_fits, Option.bind_some, wrap_succ (by omega : i < 1000000)]
    cases decide (h i < 2 ^ sz i) <;> rfl
  · unfold F_ref01_Head_L1
    simp [ifs]

/-- A cube contains a header. -/
def hb (c : S_api_Cube) (h : Nat → Int) : Bool := (all12 fun i => iand .u64 (h i) (c.f1 i) == c.f0 i) && (snd c && sndH h)

theorem sndH_iff {h : Nat → Int} : sndH h = true ↔ ∀ i, i < 12 → h i < 2 ^ sz i := by
  unfold sndH
  rw [all12_iff]
  exact ⟨fun k i hi => by simpa using k i hi, fun k i hi => by simpa using k i hi⟩

theorem hb_iff {c : S_api_Cube} (hc : UC c) {h : Nat → Int} (hh : UH h) : hb c h = true ↔ (∀ i, i < 12 → ∀ k, (tb (h i) k && tb (c.f1 i) k) = tb (c.f0 i) k) ∧ snd c = true ∧ sndH h = true := by
  unfold hb
  rw [Bool.and_eq_true, Bool.and_eq_true, all12_iff]
  refine and_congr ⟨fun k i hi b => ?_, fun k i hi => ?_⟩ Iff.rfl
  · have := beq_iff_eq.1 (k i hi)
    rw [← this, tb_and (hh i hi) (hc.c i hi)]
  · exact beq_iff_eq.2 (eq_bits (u_and _ _) (hc.v i hi) fun b => by rw [tb_and (hh i hi) (hc.c i hi)]; exact k i hi b)

/-- What With makes. -/
def wth (c : S_api_Cube) (i : Nat) (v : Int) (j : Nat) : S_api_Cube := ⟨fun k => if k = i then iand .u64 v (msk i j) else c.f0 k, fun k => if k = i then msk i j else c.f1 k⟩

theorem uc_wth {c : S_api_Cube} (hc : UC c) {i j : Nat} (v : Int) (hj : j ≤ sz i) : UC (wth c i v j) := by
  refine ⟨fun k hk => ?_, fun k hk => ?_⟩ <;> unfold wth <;> dsimp only <;> split
  · exact u_and _ _
  · exact hc.v k hk
  · exact u_msk hj
  · exact hc.c k hk

theorem snd_zc : snd zc = true := by
  rw [snd_iff uc_zc]
  refine ⟨fun i _ => ?_, fun i _ k h => ?_⟩
  · have : (0 : Int) < 2 ^ sz i := Int.pow_pos (by decide)
    exact this
  · rw [show zc.f0 i = 0 from rfl, tb_zero] at h; cases h

/-- A prefix of one field. -/
def pc (i : Nat) (v : Int) (j : Nat) : S_api_Cube := wth zc i v j
theorem uc_pc {i j : Nat} (v : Int) (hj : j ≤ sz i) : UC (pc i v j) := uc_wth uc_zc v hj

theorem pc_v {i j : Nat} {v : Int} (hv : U v) (hj : j ≤ sz i) (n k : Nat) : tb ((pc i v j).f0 n) k = (decide (n = i) && (tb v k && tb (msk i j) k)) := by
  unfold pc wth
  dsimp only
  by_cases h : n = i
  · rw [if_pos h, tb_and hv (u_msk hj), decide_eq_true h, Bool.true_and]
  · rw [if_neg h, decide_eq_false h]; exact tb_zero k
theorem pc_c {i j : Nat} {v : Int} (n k : Nat) : tb ((pc i v j).f1 n) k = (decide (n = i) && tb (msk i j) k) := by
  unfold pc wth
  dsimp only
  by_cases h : n = i
  · rw [if_pos h, decide_eq_true h, Bool.true_and]
  · rw [if_neg h, decide_eq_false h]; exact tb_zero k

theorem snd_pc {i j : Nat} {v : Int} (hv : U v) (hj : j ≤ sz i) : snd (pc i v j) = true := by
  rw [snd_iff (uc_pc v hj)]
  refine ⟨fun n hn => ?_, fun n hn k h => ?_⟩
  · rw [lt_pow ((uc_pc v hj).c n hn)]
    intro k hk
    rw [pc_c, tb_msk' hj]
    by_cases h : n = i
    · subst h; rw [decide_eq_false (show ¬ k < sz n by omega)]; simp
    · rw [decide_eq_false h]; rfl
  · rw [pc_v hv hj] at h
    rw [pc_c]
    simp only [Bool.and_eq_true] at h ⊢
    exact ⟨h.1, h.2.2⟩

theorem hb_pc {i j : Nat} {h : Nat → Int} (hi : i < 12) (hh : UH h) (hs : sndH h = true) (hj : j ≤ sz i) : hb (pc i (h i) j) h = true := by
  rw [hb_iff (uc_pc _ hj) hh]
  refine ⟨fun n hn k => ?_, snd_pc (hh i hi) hj, hs⟩
  rw [pc_c, pc_v (hh i hi) hj]
  by_cases e : n = i
  · subst e; simp
  · simp [e]

theorem within_pc {i a b : Nat} {v : Int} (hi : i < 12) (hv : U v) (ha : a ≤ sz i) (hb : b ≤ sz i) :
    (mok (pc i v a) (pc i v b) && eqc (un (pc i v a) (pc i v b) 12) (pc i v a)) = decide (b ≤ a) := by
  have ua := uc_pc v ha
  have ub := uc_pc v hb
  have m : mok (pc i v a) (pc i v b) = true := by
    rw [mok_iff ua ub]
    refine ⟨snd_pc hv ha, snd_pc hv hb, fun n hn k h1 h2 => ?_⟩
    rw [pc_c] at h1 h2
    rw [pc_v hv ha, pc_v hv hb]
    simp only [Bool.and_eq_true] at h1 h2
    rw [h1.2, h2.2]
  rw [m, Bool.true_and, Bool.eq_iff_iff, decide_eq_true_iff, eqc_bits (uc_un ua 12) ua]
  constructor
  · intro h
    rcases Nat.lt_or_ge a b with hlt | hge
    · have := (h i hi (sz i - b)).2
      rw [un_c ua ub hi, pc_c, pc_c, tb_msk' ha, tb_msk' hb] at this
      have e2 : decide (sz i - b < sz i) = true := decide_eq_true (by omega)
      simp [e2] at this
      omega
    · exact hge
  · intro h n hn k
    rw [un_v ua ub hn, un_c ua ub hn, pc_v hv ha, pc_v hv hb, pc_c, pc_c, tb_msk' ha, tb_msk' hb]
    by_cases e : n = i
    · subst e
      by_cases e1 : sz n - b ≤ k
      · have e2 : sz n - a ≤ k := by omega
        simp [e1, e2]
      · simp [e1]
    · simp [e]

theorem wf_u8 {n : Int} (h : (Lit.int .u8 n).wf = true) : 0 ≤ n ∧ n < 256 := by
  simp only [Lit.wf, Bool.and_eq_true, decide_eq_true_eq, show IntKind.min .u8 = 0 from rfl, show IntKind.max .u8 = 255 from rfl] at h
  omega

theorem near_mod {t : Int} (ht : 0 ≤ t ∧ t < 256) (n : Nat) : ∃ a : Nat, a ≤ n ∧ Int.tmod (IntKind.wrap .i64 t) ((n + 1 : Nat) : Int) = (a : Int) := by
  refine ⟨t.toNat % (n + 1), Nat.lt_succ_iff.1 (Nat.mod_lt _ (by omega)), ?_⟩
  rw [wrap_i64 (by omega) (by omega), Int.tmod_eq_emod_of_nonneg ht.1]
  obtain ⟨m, rfl⟩ := Int.eq_ofNat_of_zero_le ht.1
  simp

end Go.Proofs.Ytffkolbogcpjjaa
