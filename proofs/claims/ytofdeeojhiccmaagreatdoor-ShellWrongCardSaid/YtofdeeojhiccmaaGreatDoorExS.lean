/- Open strings: the first place of a byte. -/
import Derived.Test.YtofdeeojhiccmaaGreatDoorExO
namespace Go.Exe
open Go

/-- 'IndexByteString', at an open string too: byte b0 stands first at n in what is open at s0. -/
noncomputable def idxSymO (s0 b0 : Nat) (n : Int) (args : List AV) (h : H) : Out := two args fun a b => match a with
  | .sym s => ite' (Nat.beq s s0) (bnd (byteOf b) fun b => ite' (Nat.beq b b0) (some (.int .i64 n, h)))
  | .str l x => bnd (byteOf b) fun b => forceI (idxByte b l x 0) fun i => some (.int .i64 i, h)
  | _ => none

section
variable {P : Program} {σ : Sig} {N : Nat}
theorem kok1_indexSym {f0 : Nat} {fn : Func} (hf : P.funcs[f0]? = some fn) (hname : (fn.name == "runtime.NumGoroutine") = false) (hb : fn.body.isNone = true) (hn : Extern.findNext fn = none) (he : Extern.find fn = some Extern.BytealgIndexByte.indexByte) {s0 b0 : Nat} {n : Int} {sb : ByteArray} (hs : σ s0 = .string sb) (hi : firstIdx sb (Int.toNat (b0 : Int)).toUInt8 = n) : KOk1 P σ N f0 (idxSymO s0 b0 n) := by
  intro args h v h' e1 ρ w vs hh hv
  obtain ⟨a, c, rfl, e2⟩ := two_some e1
  cases a <;> first | (cases (show (none : Out) = some (v, h') from e2); done) | skip
  case str l x => exact kok1_index (P := P) (σ := σ) (N := N) hf hname hb hn he [.str l x, c] h v h' e1 ρ w vs hh hv
  case sym s =>
    obtain ⟨g1, e3⟩ := ite_some.1 (show ite' (Nat.beq s s0) (bnd (byteOf c) fun b => ite' (Nat.beq b b0) (some (AV.int .i64 n, h))) = some (v, h') from e2)
    obtain ⟨b, g2, e4⟩ := bnd_some.1 e3
    obtain ⟨g3, e5⟩ := ite_some.1 e4
    cases e5
    have g1 := Nat.eq_of_beq_eq_true g1
    have g3 := Nat.eq_of_beq_eq_true g3
    subst g1 g3
    obtain ⟨rfl, _⟩ := byteOf_some g2
    obtain ⟨u, r, q1, q2, u2, r2, q3, q4, q5⟩ := hv
    have q5 : r2 = [] := q5
    have q2 : u = σ s := q2
    have q4 : u2 = .int .u8 (b : Int) := q4
    subst q5 q3 q4 q2
    have hvs : vs = #[.string sb, .int .u8 (b : Int)] := by apply Array.ext'; rw [q1, hs]
    subst hvs
    intro o a next Q k
    rw [run_callFunc_extern hf hname hb hn he, run_indexByte_string, Result.andThen_ok]
    refine k ρ _ w hh (St.refl _ _ _) ?_
    rw [hi]; rfl

/-- A string's first newline, where what comes ahead has none. -/
theorem firstIdx_cut {a b : ByteArray} {c : UInt8} (ha : ∀ i (h : i < a.data.toList.length), a.data.toList[i] ≠ c) {s : ByteArray} (hs : s.data.toList = a.data.toList ++ c :: b.data.toList) : firstIdx s c = a.size := by
  have hsz : ∀ x : ByteArray, x.size = x.data.toList.length := fun x => (Array.length_toList (xs := x.data)).symm
  unfold firstIdx
  have hlen : s.size = a.data.toList.length + (b.data.toList.length + 1) := by rw [hsz, hs]; simp
  have hget : ∀ i, i < s.size → s[i]! = (s.data.toList[i]?).getD default := fun i hi => by
    rw [getElem!_pos s i hi]
    have hi2 : i < s.data.size := hi
    have : s.data.toList[i]? = some s.data[i] := by simp
    rw [this]; rfl
  have hf : (List.range s.size).find? (fun i => s[i]! == c) = some a.data.toList.length := by
    rw [List.find?_range_eq_some]
    refine ⟨?_, by rw [List.mem_range]; omega, fun j hj => ?_⟩
    · rw [hget _ (by omega), hs, List.getElem?_append_right (Nat.le_refl _)]; simp
    · have hj' : j < a.data.toList.length := hj
      rw [hget _ (by omega), hs, List.getElem?_append_left hj', List.getElem?_eq_getElem hj']
      simpa using ha j hj'
  rw [hf, hsz a]
end
end Go.Exe
