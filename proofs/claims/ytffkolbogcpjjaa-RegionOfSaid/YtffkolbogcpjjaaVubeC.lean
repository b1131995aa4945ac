/- Cubes as plain functions, third part: masks, setting, With, Has; CubeNear. -/
import Derived.Test.YtffkolbogcpjjaaVubeB
namespace Go.Proofs.Ytffkolbogcpjjaa
open Go Go.Pod Go.Proofs

theorem chk_t {α : Type} {p : Prop} [Decidable p] (h : p) (o : Option α) : chk p o = o := by
  unfold chk; rw [if_pos h]

theorem ishl_nat {a r : Nat} (hr : r ≤ 64) (h : a * 2 ^ r < 18446744073709551616) : ishl .u64 (a : Int) (r : Int) = ((a * 2 ^ r : Nat) : Int) := by
  simp only [ishl, IntKind.bits, Int.toNat_natCast, Nat.min_eq_left hr]
  rw [show (a : Int) * 2 ^ r = ((a * 2 ^ r : Nat) : Int) by simp]
  exact wrap_u64 (by omega) (by omega)

theorem two_pow_le {r : Nat} (h : r ≤ 48) : 2 ^ r ≤ 281474976710656 := by
  have : 2 ^ r ≤ 2 ^ 48 := Nat.pow_le_pow_right (by decide) h
  omega

theorem nat12 {t : Int} (h : 0 ≤ t ∧ t < 12) : ∃ i : Nat, i < 12 ∧ t = (i : Int) := ⟨t.toNat, by omega, by omega⟩

theorem ref_fits {i : Nat} (v : Int) : F_ref01_Fits v (sz i : Int) = some (decide (v < 2 ^ sz i)) := by
  have hz := sz_le i
  have h2 := two_pow_le hz
  unfold F_ref01_Fits
  rw [wrap_u64 (by omega) (by omega), chk_t (by omega), show (1 : Int) = ((1 : Nat) : Int) from rfl, ishl_nat (by omega) (by omega), Nat.one_mul]
  simp

theorem ref_head {fu : Nat} (hf : 13 ≤ fu) (h : Nat → Int) : F_ref01_Head fu h = some (sndH h) := by
  unfold F_ref01_Head
  rw [show (0 : Int) = ((0 : Nat) : Int) from rfl, iter_all (fun i => ((i : Nat) : Int)) (fun i => decide (h i < 2 ^ sz i)) false (e := ()) 12 fu (by omega)]
  · unfold sndH all12
    cases (List.range 12).all fun i => decide (h i < 2 ^ sz i) <;> rfl
  · intro i hi
    unfold F_ref01_Head_L1
    simp only [show decide ((i : Int) < 12) = true from decide_eq_true (by omega), ifs, chk_at hi, chk_nat hi, Int.toNat_natCast, (size_eq hi).2, ref_fits, Option.bind_some, wrap_succ (by omega : i < 1000000)]
    cases decide (h i < 2 ^ sz i) <;> rfl
  · unfold F_ref01_Head_L1
    simp [ifs]

/-- A cube contains a header. -/
def hb (c : S_api_Cube) (h : Nat → Int) : Bool := (all12 fun i => iand .u64 (h i) (c.f1 i) == c.f0 i) && (snd c && sndH h)

theorem snd_zc : snd zc = true := by
  rw [snd_iff uc_zc]
  refine ⟨fun i _ => ?_, fun i _ k h => ?_⟩
  · have : (0 : Int) < 2 ^ sz i := Int.pow_pos (by decide)
    exact this
  · rw [show zc.f0 i = 0 from rfl, tb_zero] at h; cases h

end Go.Proofs.Ytffkolbogcpjjaa
