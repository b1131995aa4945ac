/- 'LexLong': a text of blanks of any length, scanned. -/
import Derived.Test.YtlgkjdjgockkfaaDoorLexF
namespace Go.Proofs.YtlgkjdjgockkfaaDoor
open Go Go.Pod Go.Proofs

/-- A row whose first cells are blanks. -/
def fil (m : Nat × (Nat → Int)) : Nat → Nat × (Nat → Int)
  | 0 => m
  | k + 1 => ((fil m k).1, fun j => if j = k then (32 : Int) else (fil m k).2 j)

theorem fil_len (m : Nat × (Nat → Int)) : ∀ k, (fil m k).1 = m.1
  | 0 => rfl
  | k + 1 => fil_len m k
theorem fil_at (m : Nat × (Nat → Int)) : ∀ k j, j < k → (fil m k).2 j = 32
  | k + 1, j, h => by
    show (if j = k then (32 : Int) else (fil m k).2 j) = 32
    by_cases e : j = k
    · rw [if_pos e]
    · rw [if_neg e]; exact fil_at m k j (by omega)

theorem fin_true (n : Nat) : ∀ k i, i + k = n → fin (fun _ => true) n k i = n
  | 0, i, h => by unfold fin; omega
  | k + 1, i, h => by
    unfold fin
    rw [if_pos ⟨by omega, rfl⟩]
    exact fin_true n k (i + 1) (by omega)

theorem long_L1 (fu : Nat) (m : Nat × (Nat → Int)) (hm : m.1 ≤ 100000) (K : Nat) (hK : m.1 < K) :
    iter (fun s => F_law15_LexLong_L1 fu s.1 s.2) K ((0 : Int), m) = some (.inl (fil m m.1)) := by
  have := iter_fin (f := fun s => F_law15_LexLong_L1 fu s.1 s.2) (fun k => ((k : Int), fil m k)) (fun k => fil m k) (fun _ => true) m.1 m.1 K 0 hK (by omega) (fun j _ h2 => ?_) (Nat.zero_le _)
  · rw [fin_true m.1 m.1 0 (by omega)] at this
    exact this
  · dsimp only
    unfold F_law15_LexLong_L1
    rw [fil_len]
    by_cases hj : j < m.1
    · rw [decide_eq_true (show (j : Int) < (m.1 : Int) by omega), ifs, chk_t (by omega), chk_t (by omega), if_pos ⟨hj, rfl⟩, wrap_succ (by omega), Int.toNat_natCast]
      show _ = some (Lo.next (_, ((fil m j).1, _)))
      rw [fil_len]
    · rw [decide_eq_false (show ¬ (j : Int) < (m.1 : Int) by omega), if_neg (fun h => hj h.1)]; rfl

theorem bytesOf_size (n : Nat) (f : Nat → Int) : (bytesOf n f).size = n := by
  show ((List.range n).map _).toArray.size = n
  simp
theorem bytesOf_byt {n : Nat} {f : Nat → Int} {i : Nat} (h : i < n) (hf : f i = 32) : byt (bytesOf n f) i = 32 := by
  unfold byt
  have : (bytesOf n f)[i]? = some 32 := by
    rw [getElem?_pos (bytesOf n f) i (by rw [bytesOf_size]; exact h)]
    show some (((List.range n).map fun i => UInt8.ofNat (f i).toNat).toArray[i]'(by simpa using h)) = some 32
    simp [hf]
  rw [this]; rfl

theorem sc_blank (s : ByteArray) (hs : ∀ i, i < s.size → byt s i = 32) (m : M) : ∀ k p, sc s k p m = .inl m
  | 0, _ => rfl
  | k + 1, p => by
    unfold sc
    split
    · rename_i hp
      rw [hs p hp, if_pos (by rfl)]
      exact sc_blank s hs m k (p + 1)
    · rfl

theorem scan_blank (s : ByteArray) (hs : ∀ i, i < s.size → byt s i = 32) : scan s = (emp, if s.size > 16384 then S_api_Fault.mk (13 : Int) (16384 : Int) else S_api_Fault.mk (0 : Int) (0 : Int)) := by
  unfold scan
  rw [sc_blank s hs]
  by_cases h : s.size > 16384
  · rw [if_pos h, if_pos h]
  · rw [if_neg h, if_neg h]

theorem long (t0 : Int) (h0 : 0 ≤ t0) : F_law15_LexLong 20000 t0 = some true := by
  obtain ⟨N, hN, hN1, hN2⟩ : ∃ N : Nat, IntKind.wrap .i64 ((16380 : Int) + (IntKind.wrap .i64 (Int.tmod t0 (9 : Int)))) = (N : Int) ∧ 16380 ≤ N ∧ N ≤ 16388 := by
    have h1 : Int.tmod t0 9 = t0 % 9 := Int.tmod_eq_emod_of_nonneg h0
    have h2 : 0 ≤ t0 % 9 ∧ t0 % 9 < 9 := by omega
    refine ⟨(16380 + t0 % 9).toNat, ?_, by omega, by omega⟩
    rw [h1, wrap_i64 (n := t0 % 9) (by omega) (by omega), wrap_i64 (by omega) (by omega)]
    omega
  unfold F_law15_LexLong
  rw [hN, chk_t (by decide), chk_t (by omega), Int.toNat_natCast, chk_t (show RoomOk N 1 from ⟨by omega, by omega⟩), long_L1 20000 (N, fun _ => 0) (show N ≤ 100000 by omega) 20000 (show N < 20000 by omega)]
  show (F_lex_Scan 20000 (bytesOf (fil (N, fun _ => 0) N).1 (fil (N, fun _ => 0) N).2)).bind _ = _
  rw [fil_len, lex_scan (by decide), scan_blank _ (fun i hi => by
    rw [bytesOf_size] at hi
    exact bytesOf_byt hi (fil_at _ N i hi)), bytesOf_size, Option.bind_some]
  have hj : ∀ f : S_api_Fault, F_law15_LexLong_J1 20000 emp f f = some true := fun f => by
    unfold F_law15_LexLong_J1
    rw [answers2, Option.bind_some]
    simp [emp]
  by_cases h : N > 16384
  · rw [if_pos h, decide_eq_true (show (N : Int) > 16384 by omega)]
    exact hj _
  · rw [if_neg h, decide_eq_false (show ¬ (N : Int) > 16384 by omega)]
    exact hj _

theorem pl_LexLong (t0 : Int) (w : (Lit.int .u16 t0).wf = true) : ∃ fu, F_law15_LexLong fu t0 = some true := ⟨20000, long t0 (by
  simp only [Lit.wf, Bool.and_eq_true, decide_eq_true_eq, show IntKind.min .u16 = 0 from rfl, show IntKind.max .u16 = 65535 from rfl] at w
  omega)⟩

end Go.Proofs.YtlgkjdjgockkfaaDoor
