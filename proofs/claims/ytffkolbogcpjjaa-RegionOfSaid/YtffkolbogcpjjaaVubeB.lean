/- Cubes as plain functions, second part: masks, setting, With, Has, the order. -/
import Derived.Test.YtffkolbogcpjjaaVubeLib
namespace Go.Proofs.Ytffkolbogcpjjaa
open Go Go.Pod Go.Proofs

/-! ### Order -/

/-- The order of two headers: by the first field in which they differ. -/
def lexc (s t : Nat → Int) : Int := match stopAt (fun i => s i == t i) 12 0 with
  | none => 0
  | some m => if s m < t m then -1 else 1

theorem cmp_eq (a b : Int) : F_cmp_Compare_uint64 a b = some (if a < b then -1 else if a > b then 1 else 0) := by
  by_cases h1 : a < b
  · simp [F_cmp_Compare_uint64, F_cmp_isNaN_uint64, ifs, h1]
  · by_cases h2 : a > b
    · simp [F_cmp_Compare_uint64, F_cmp_isNaN_uint64, ifs, h1, h2]
    · simp [F_cmp_Compare_uint64, F_cmp_isNaN_uint64, ifs, h1, h2]

theorem compare_eq (s t : Nat → Int) : F_head_Compare 64 s t = some (lexc s t) := by
  have a := iter_scan (f := fun s' => F_slices_CompareFunc_uint64_cmp_Compare_uint64_L1 64 (12, s) (12, t) (12, s) ((12 : Nat) : Int) s') (fun i => (i : Int)) (fun i => s i == t i) (fun i => if s i < t i then -1 else 1) (e := ()) 12 0 64 (by omega) (fun i _ h2 => by
      have hi : (i : Int) < 12 := by omega
      have hn : ¬ ((i : Int) ≥ 12) := by omega
      have hw : IntKind.wrap .i64 ((i : Int) + 1) = ((i + 1 : Nat) : Int) := wrap_i64 (by omega) (by omega)
      by_cases he : s i = t i
      · simp [F_slices_CompareFunc_uint64_cmp_Compare_uint64_L1, hi, hn, chk, ifs, cmp_eq, he, hw]
      · by_cases hl : s i < t i
        · simp [F_slices_CompareFunc_uint64_cmp_Compare_uint64_L1, hi, hn, chk, ifs, cmp_eq, he, hl]
        · have hg : s i > t i := by omega
          simp [F_slices_CompareFunc_uint64_cmp_Compare_uint64_L1, hi, hn, chk, ifs, cmp_eq, he, hl, hg]) (by simp [F_slices_CompareFunc_uint64_cmp_Compare_uint64_L1, ifs])
  simp only [F_head_Compare, F_slices_CompareFunc_uint64_cmp_Compare_uint64]
  rw [show ((0 : Int)) = (((0 : Nat)) : Int) from rfl, a]
  unfold lexc
  cases stopAt (fun i => s i == t i) 12 0 <;> simp [after, ifs]

theorem lexc_cases (s t : Nat → Int) : (lexc s t = 0 ∧ ∀ i, i < 12 → s i = t i) ∨ (∃ m, m < 12 ∧ (∀ i, i < m → s i = t i) ∧ ((lexc s t = -1 ∧ s m < t m) ∨ (lexc s t = 1 ∧ t m < s m))) := by
  unfold lexc
  cases h : stopAt (fun i => s i == t i) 12 0 with
  | none =>
    refine .inl ⟨rfl, fun i hi => ?_⟩
    have := stopAt_none h i hi
    simpa using this
  | some m =>
    obtain ⟨_, h2, h3, h4⟩ := stopAt_some h
    refine .inr ⟨m, by omega, fun i hi => by simpa using h4 i (by omega) hi, ?_⟩
    have hne : s m ≠ t m := by simpa using h3
    by_cases hl : s m < t m
    · exact .inl ⟨by simp [hl], hl⟩
    · exact .inr ⟨by simp [hl], by omega⟩

theorem lexc_swap (s t : Nat → Int) : lexc t s = -lexc s t := by
  have hsym : (fun i => t i == s i) = (fun i => s i == t i) := funext fun i => by
    by_cases h : s i = t i
    · rw [h]
    · have h' : ¬ t i = s i := fun e => h e.symm
      rw [beq_eq_false_iff_ne.2 h, beq_eq_false_iff_ne.2 h']
  unfold lexc
  rw [hsym]
  cases h : stopAt (fun i => s i == t i) 12 0 with
  | none => rfl
  | some m =>
    obtain ⟨_, _, h3, _⟩ := stopAt_some h
    have hne : s m ≠ t m := by simpa using h3
    by_cases hl : s m < t m
    · have : ¬ t m < s m := by omega
      simp [hl, this]
    · have : t m < s m := by omega
      simp [hl, this]

theorem lexc_zero (s t : Nat → Int) : lexc s t = 0 ↔ ∀ i, i < 12 → s i = t i := by
  constructor
  · intro h
    rcases lexc_cases s t with ⟨_, he⟩ | ⟨m, _, _, ⟨h', _⟩ | ⟨h', _⟩⟩
    · exact he
    · omega
    · omega
  · intro h
    rcases lexc_cases s t with ⟨h', _⟩ | ⟨m, hm, _, ⟨_, h'⟩ | ⟨_, h'⟩⟩
    · exact h'
    · have := h m hm; omega
    · have := h m hm; omega

/-- The order of two cubes. -/
def oc (a b : S_api_Cube) : Int := if lexc a.f1 b.f1 = 0 then lexc a.f0 b.f0 else lexc a.f1 b.f1

theorem or_eq (a b : Int) : F_cmp_Or_int 64 (2, (fun i => ([a, b] : List Int).getD i (0 : Int))) = some (if a = 0 then b else a) := by
  have k := iter_scan (f := fun s' => F_cmp_Or_int_L1 64 0 (2, (fun i => ([a, b] : List Int).getD i (0 : Int))) ((2 : Nat) : Int) s') (fun i => (i : Int)) (fun i => ([a, b] : List Int).getD i 0 == 0) (fun i => ([a, b] : List Int).getD i 0) (e := ()) 2 0 64 (by omega) (fun i _ h2 => by
      have hw : IntKind.wrap .i64 ((i : Int) + 1) = ((i + 1 : Nat) : Int) := wrap_i64 (by omega) (by omega)
      have hi : (i : Int) < 2 := by omega
      by_cases he : ([a, b] : List Int).getD i 0 = 0
      · simp only [F_cmp_Or_int_L1, ifs, chk, Int.natCast_nonneg, true_and, show ((i : Int) < ((2 : Nat) : Int)) from hi, decide_true, if_true, Int.toNat_natCast, he, hw]; rfl
      · simp only [F_cmp_Or_int_L1, ifs, chk, Int.natCast_nonneg, true_and, show ((i : Int) < ((2 : Nat) : Int)) from hi, decide_true, if_true, Int.toNat_natCast, bne, beq_eq_false_iff_ne.2 he]; rfl) (by simp [F_cmp_Or_int_L1, ifs])
  simp only [F_cmp_Or_int]
  rw [show (((0 : Nat)) : Int) = 0 from rfl] at k
  rw [k]
  by_cases ha : a = 0
  · by_cases hb : b = 0
    · simp [stopAt, ha, hb, after]
    · simp [stopAt, ha, hb, after]
  · simp [stopAt, ha, after]

theorem cube_compare (a b : S_api_Cube) : F_cube_Compare 64 a b = some (oc a b) := by
  unfold F_cube_Compare oc
  rw [compare_eq, Option.bind_some, compare_eq, Option.bind_some, or_eq, Option.bind_some]

theorem oc_swap (a b : S_api_Cube) : oc b a = -oc a b := by
  unfold oc
  rw [lexc_swap a.f1, lexc_swap a.f0]
  by_cases h : lexc a.f1 b.f1 = 0
  · rw [h]; rfl
  · rw [if_neg h, if_neg (by omega)]

theorem oc_zero (a b : S_api_Cube) : oc a b = 0 ↔ eqc a b = true := by
  rw [eqc_iff]
  unfold oc
  constructor
  · intro h
    split at h
    · rename_i h1
      exact fun i hi => ⟨(lexc_zero _ _).1 h i hi, (lexc_zero _ _).1 h1 i hi⟩
    · contradiction
  · intro h
    rw [if_pos ((lexc_zero _ _).2 fun i hi => (h i hi).2)]
    exact (lexc_zero _ _).2 fun i hi => (h i hi).1

theorem eqc_refl (a : S_api_Cube) : eqc a a = true := eqc_iff.2 fun _ _ => ⟨rfl, rfl⟩

end Go.Proofs.Ytffkolbogcpjjaa
