/- Scanning as plain functions, second part: signs and tokens. -/
import Derived.Test.YtlgkjdjgockkfaaDoorLexB
namespace Go.Proofs.YtlgkjdjgockkfaaDoor
open Go Go.Pod Go.Proofs

def sgl : List ByteArray := [(⟨#[124, 124]⟩ : ByteArray), (⟨#[38, 38]⟩ : ByteArray), (⟨#[61, 61]⟩ : ByteArray), (⟨#[33, 61]⟩ : ByteArray), (⟨#[60, 61]⟩ : ByteArray), (⟨#[62, 61]⟩ : ByteArray), (⟨#[60]⟩ : ByteArray), (⟨#[62]⟩ : ByteArray), (⟨#[43]⟩ : ByteArray), (⟨#[45]⟩ : ByteArray), (⟨#[42]⟩ : ByteArray), (⟨#[47]⟩ : ByteArray), (⟨#[37]⟩ : ByteArray), (⟨#[33]⟩ : ByteArray), (⟨#[61]⟩ : ByteArray), (⟨#[40]⟩ : ByteArray), (⟨#[41]⟩ : ByteArray), (⟨#[123]⟩ : ByteArray), (⟨#[125]⟩ : ByteArray), (⟨#[91]⟩ : ByteArray), (⟨#[93]⟩ : ByteArray), (⟨#[44]⟩ : ByteArray), (⟨#[59]⟩ : ByteArray)]
def sg (i : Nat) : ByteArray := sgl.getD i ⟨#[]⟩

/-- Does a sign stand here? -/
def mt (s : ByteArray) (p : Nat) (g : ByteArray) : Bool := decide (p + g.size ≤ s.size) && ((s.extract p (p + g.size)).toList == g.toList)
/-- The length of the first sign, from one on, that stands here. -/
def sgf (s : ByteArray) (p : Nat) : Nat → Nat → Nat
  | 0, _ => 0
  | k + 1, i => if mt s p (sg i) = true then (sg i).size else sgf s p k (i + 1)
def sgn (s : ByteArray) (p : Nat) : Nat := sgf s p 23 0

theorem sg_size : ∀ i, i < 23 → (sg i).size = if i < 6 then 2 else 1 := by
  have : ∀ i : Fin 23, (sg i.1).size = if i.1 < 6 then 2 else 1 := by decide
  exact fun i hi => this ⟨i, hi⟩

theorem ref_L4 {fu : Nat} {s : ByteArray} (hs : s.size ≤ 100000) {p : Nat} (hp : p ≤ s.size) (m0 : S_api_Fault) (m1 : Nat × (Nat → S_api_Token)) : ∀ (k i K : Nat), i + k = 23 → k + 1 < K →
    iter (fun t => F_ref15_Scan_L4 fu s m0 (p : Int) (23, fun i => sgl.getD i (⟨#[]⟩ : ByteArray)) m1 t.1 t.2) K ((0 : Int), (i : Int)) = some (.inl ((sgf s p k i : Nat) : Int))
  | 0, i, K, hi, hk => by
    obtain ⟨K, rfl⟩ : ∃ K', K = K' + 1 := ⟨K - 1, by omega⟩
    refine iter_exit ?_
    unfold F_ref15_Scan_L4
    dsimp only
    rw [decide_eq_false (show ¬ (i : Int) < ((23 : Nat) : Int) by omega)]; rfl
  | k + 1, i, K, hi, hk => by
    obtain ⟨K, rfl⟩ : ∃ K', K = K' + 1 := ⟨K - 1, by omega⟩
    have hsz := sg_size i (by omega)
    have hle : (sg i).size ≤ 2 := by rw [hsz]; split <;> omega
    have step : F_ref15_Scan_L4 fu s m0 (p : Int) (23, fun i => sgl.getD i (⟨#[]⟩ : ByteArray)) m1 (0 : Int) (i : Int) = if mt s p (sg i) = true then some (.next (((sg i).size : Int), ((i + 1 : Nat) : Int))) else some (.next ((0 : Int), ((i + 1 : Nat) : Int))) := by
      unfold F_ref15_Scan_L4
      dsimp only
      have ep : (p : Int) + ((sgl.getD i (⟨#[]⟩ : ByteArray)).size : Int) = ((p + (sg i).size : Nat) : Int) := by rw [show sgl.getD i (⟨#[]⟩ : ByteArray) = sg i from rfl]; simp
      have ht : decide ((i : Int) < ((23 : Nat) : Int)) = true := decide_eq_true (by omega)
      simp only [ht, beq_self_eq_true, cond_true, ifs, Int.toNat_natCast, ep, wrap_nat (show p + (sg i).size < 1000000 by omega), wrap_succ (show i < 1000000 by omega)]
      rw [chk_t (by omega), chk_t (fun _ => by omega), chk_t (fun h => by have := of_decide_eq_true h; omega), chk_t (fun _ => by omega), chk_t (by omega), show sgl.getD i (⟨#[]⟩ : ByteArray) = sg i from rfl]
      unfold mt
      rw [show decide (((p + (sg i).size : Nat) : Int) ≤ (s.size : Int)) = decide (p + (sg i).size ≤ s.size) from decide_eq_decide.2 (by omega)]
      cases decide (p + (sg i).size ≤ s.size) <;> cases ((s.extract p (p + (sg i).size)).toList == (sg i).toList) <;> rfl
    unfold sgf
    by_cases hm : mt s p (sg i) = true
    · rw [if_pos hm] at step
      rw [if_pos hm]
      obtain ⟨K, rfl⟩ : ∃ K', K = K' + 1 := ⟨K - 1, by omega⟩
      have h2 : F_ref15_Scan_L4 fu s m0 (p : Int) (23, fun i => sgl.getD i (⟨#[]⟩ : ByteArray)) m1 ((sg i).size : Int) ((i + 1 : Nat) : Int) = some (.exit ((sg i).size : Int)) := by
        unfold F_ref15_Scan_L4
        dsimp only
        have : (((sg i).size : Int) == 0) = false := by
          rw [beq_eq_false_iff_ne]; rw [hsz]; split <;> omega
        rw [this]
        cases decide (((i + 1 : Nat) : Int) < ((23 : Nat) : Int)) <;> rfl
      rw [iter_next step, iter_exit h2]
    · rw [if_neg hm] at step
      rw [if_neg hm, iter_next step]
      exact ref_L4 hs hp m0 m1 k (i + 1) K (by omega) (by omega)

theorem has_prefix {s : ByteArray} {p : Nat} (hp : p ≤ s.size) (g : ByteArray) : F_strings_HasPrefix (s.extract p s.size) g = some (mt s p g) := by
  have hz : (s.extract p s.size).size = s.size - p := by rw [ByteArray.size_extract, Nat.min_self]
  unfold F_strings_HasPrefix F_internal_stringslite_HasPrefix mt
  rw [hz, chk_t (fun h => by have := of_decide_eq_true h; omega), ByteArray.extract_extract]
  rw [show decide (((s.size - p : Nat) : Int) ≥ (g.size : Int)) = decide (p + g.size ≤ s.size) from decide_eq_decide.2 (by omega)]
  by_cases h : p + g.size ≤ s.size
  · rw [decide_eq_true h, Int.toNat_natCast, Nat.min_eq_left h]; rfl
  · rw [decide_eq_false h]; rfl

theorem mt_one {s : ByteArray} {p : Nat} (hp : p < s.size) (c : UInt8) : mt s p ⟨#[c]⟩ = decide (s.data.toList[p]? = some c) := by
  unfold mt
  have hl : p < s.data.toList.length := by rw [← ba_size]; exact hp
  rw [show (⟨#[c]⟩ : ByteArray).size = 1 from rfl, decide_eq_true (show p + 1 ≤ s.size by omega), Bool.true_and, Go.ByteArray.toList_eq, Go.ByteArray.toList_eq]
  have e : (s.extract p (p + 1)).data.toList = [s.data.toList[p]] := by
    have : (s.extract p (p + 1)).data.toList = (s.data.toList.drop p).take (p + 1 - p) := by simp
    rw [this, List.drop_eq_getElem_cons hl, show p + 1 - p = 1 by omega]
    rfl
  rw [e, List.getElem?_eq_getElem hl, Bool.eq_iff_iff, beq_iff_eq, decide_eq_true_iff]
  show [s.data.toList[p]] = [c] ↔ _
  simp

def ones : List UInt8 := [60, 62, 43, 45, 42, 47, 37, 33, 61, 40, 41, 123, 125, 91, 93, 44, 59]

theorem sgf_ones {s : ByteArray} {p : Nat} (hp : p < s.size) : ∀ k i, i + k = 17 → sgf s p k (6 + i) = if (ones.drop i).contains ((s.data.toList[p]?).getD 0) then 1 else 0
  | 0, i, hi => by
    obtain rfl : i = 17 := by omega
    rfl
  | k + 1, i, hi => by
    have hl : p < s.data.toList.length := by rw [← ba_size]; exact hp
    have hg : ∀ i : Fin 17, sg (6 + i.1) = ⟨#[ones.getD i.1 0]⟩ ∧ ones.drop i.1 = ones.getD i.1 0 :: ones.drop (i.1 + 1) := by decide
    obtain ⟨h1, h2⟩ := hg ⟨i, by omega⟩
    have hz : (sg (6 + i)).size = 1 := by rw [h1]; rfl
    unfold sgf
    rw [hz, h1, mt_one hp, h2, List.contains_cons, Nat.add_assoc, sgf_ones hp k (i + 1) (by omega), List.getElem?_eq_getElem hl, Option.getD_some]
    by_cases hc : s.data.toList[p] = ones.getD i 0
    · rw [if_pos (by rw [hc]; simp), hc]; simp
    · rw [if_neg (by simpa using hc), beq_eq_false_iff_ne.2 hc, Bool.false_or]

theorem sgf_two {s : ByteArray} {p : Nat} : ∀ k i, i + k = 6 → sgf s p (k + 17) i = if (List.range k).all (fun j => !mt s p (sg (i + j))) then sgf s p 17 6 else 2
  | 0, i, hi => by
    obtain rfl : i = 6 := by omega
    rfl
  | k + 1, i, hi => by
    have hz : (sg i).size = 2 := by rw [sg_size i (by omega), if_pos (by omega)]
    rw [show k + 1 + 17 = (k + 17) + 1 by omega]
    unfold sgf
    rw [hz, List.range_succ_eq_map, List.all_cons, List.all_map, Nat.add_zero, sgf_two k (i + 1) (by omega)]
    have e : (fun j => !mt s p (sg (i + j))) ∘ Nat.succ = fun j => !mt s p (sg (i + 1 + j)) := by
      funext j; show (!mt s p (sg (i + (j + 1)))) = _; rw [show i + (j + 1) = i + 1 + j by omega]
    rw [e]
    cases mt s p (sg i) <;> rfl

theorem lex_sign {fu : Nat} {s : ByteArray} (hf : 10 ≤ fu) {p : Nat} (hp : p < s.size) : F_lex_sign fu (s.extract p s.size) = some ((sgn s p : Nat) : Int) := by
  have hl : p < s.data.toList.length := by rw [← ba_size]; exact hp
  have hz : (s.extract p s.size).size = s.size - p := by rw [ByteArray.size_extract, Nat.min_self]
  unfold F_lex_sign
  generalize hg : (fun j : Nat => if j = 5 then (⟨#[62, 61]⟩ : ByteArray) else _) = g
  have hgs : ∀ j, j < 6 → g j = sg j := fun j hj => by
    rw [← hg]
    match j, hj with
    | 0, _ => rfl
    | 1, _ => rfl
    | 2, _ => rfl
    | 3, _ => rfl
    | 4, _ => rfl
    | 5, _ => rfl
  rw [show (0 : Int) = ((0 : Nat) : Int) from rfl, iter_all (fun i => ((i : Nat) : Int)) (fun j => !mt s p (sg j)) (2 : Int) (e := ()) 6 fu (by omega)]
  · unfold sgn
    have h2 := sgf_two (s := s) (p := p) 6 0 rfl
    simp only [Nat.zero_add] at h2
    rw [h2]
    cases ((List.range 6).all fun j => !mt s p (sg j)) with
    | false => rfl
    | true =>
      have h1 := sgf_ones hp 17 0 rfl
      rw [Nat.add_zero] at h1
      rw [if_pos rfl, if_pos rfl, h1]
      show chk _ ((F_strings_IndexByte _ _).bind _) = _
      have hb : (((s.extract p s.size)[((0 : Nat) : Int).toNat]?).getD 0) = (s.data.toList[p]?).getD 0 := by
        rw [ba_get]
        have : (s.extract p s.size).data.toList = (s.data.toList.drop p).take (s.size - p) := by simp
        rw [this, Int.toNat_natCast, List.getElem?_take_of_lt (by omega), List.getElem?_drop, Nat.add_zero]
      rw [hz, chk_t (by omega), hb]
      unfold F_strings_IndexByte F_internal_stringslite_IndexByte
      generalize (s.data.toList[p]?).getD 0 = c
      have hc : ((c.toNat : Int)).toNat.toUInt8 = c := by simp
      rw [hc]
      show (Option.bind (some (Lib.indexByte ones c)) _).bind _ = _
      rw [Option.bind_some, Option.bind_some, List.drop_zero]
      cases hm : ones.contains c with
      | true =>
        have hge := Lib.indexByte_ge ones c
        have : Lib.indexByte ones c ≠ -1 := fun h => by
          have hn := Lib.indexByte_none h
          have hin : c ∈ ones := by simpa using hm
          obtain ⟨k, hk, rfl⟩ := List.getElem_of_mem hin
          exact hn k (List.getElem?_eq_getElem hk)
        rw [decide_eq_true (by omega)]; rfl
      | false =>
        have : Lib.indexByte ones c < 0 := by
          rcases Int.lt_or_le (Lib.indexByte ones c) 0 with h | h
          · exact h
          · obtain ⟨o, ho⟩ := Int.eq_ofNat_of_zero_le h
            have := (Lib.indexByte_some ho).1
            have hin := List.mem_of_getElem? this
            have : ones.contains c = true := by simpa using hin
            rw [hm] at this; cases this
        rw [decide_eq_false (by omega)]; rfl
  · intro i hi _
    unfold F_lex_sign_L1
    rw [decide_eq_true (show (i : Int) < 6 by omega), ifs, chk_t (by omega), Int.toNat_natCast, chk_t hi, hgs i hi, has_prefix (Nat.le_of_lt hp), Option.bind_some, wrap_succ (by omega)]
    cases mt s p (sg i) <;> rfl
  · intro _
    unfold F_lex_sign_L1
    rw [decide_eq_false (by decide)]; rfl

end Go.Proofs.YtlgkjdjgockkfaaDoor
