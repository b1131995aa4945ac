/- Cubes as plain functions, last part: the reference's Meet, Has, Within and Less, on texts. -/
import Derived.Test.YtlgkjdjgockkfaaUubeG
namespace Go.Proofs.Ytlgkjdjgockkfaa
open Go Go.Pod Go.Proofs

/-! ### Bytes of a text -/

theorem bytes_size (n : Nat) (f : Nat → Int) : (bytesOf n f).size = n := by
  unfold bytesOf; simp [ByteArray.size]

theorem bytes_get {n : Nat} {f : Nat → Int} {p : Nat} (hp : p < n) (h : 0 ≤ f p ∧ f p < 256) : ((((bytesOf n f)[p]?).getD 0).toNat : Int) = f p := by
  have hs : p < (bytesOf n f).size := by rw [bytes_size]; exact hp
  rw [getElem?_pos (bytesOf n f) p hs, Option.getD_some]
  have e : (bytesOf n f)[p] = UInt8.ofNat (f p).toNat := by
    have hl : p < ((List.range n).map fun i => UInt8.ofNat (f i).toNat).toArray.size := by simpa using hp
    show ((List.range n).map fun i => UInt8.ofNat (f i).toNat).toArray[p]'hl = _
    rw [List.getElem_toArray, List.getElem_map, List.getElem_range]
  rw [e]
  simp only [UInt8.toNat_ofNat']
  omega

/-- The sign of two bits. -/
def sg (x y : Bool) : Int := if x then (if y then 49 else 48) else 120
def cx (c : S_api_Cube) (p : Nat) : Bool := tb (c.f1 (fld p)) (bt p)
def vx (c : S_api_Cube) (p : Nat) : Bool := tb (c.f0 (fld p)) (bt p)
def hx (h : Nat → Int) (p : Nat) : Bool := tb (h (fld p)) (bt p)
theorem sg_byte (x y : Bool) : 0 ≤ sg x y ∧ sg x y < 256 := by cases x <;> cases y <;> decide

theorem txt_size (c : S_api_Cube) : (txt c).size = 248 := bytes_size _ _
theorem wtxt_size (h : Nat → Int) : (wtxt h).size = 248 := bytes_size _ _
theorem txt_get {c : S_api_Cube} {p : Nat} (hp : p < 248) : ((((txt c)[p]?).getD 0).toNat : Int) = sg (cx c p) (vx c p) := by
  have e : (pre 0 (sgn c) 248).2 p = sg (cx c p) (vx c p) := by show (if p < 248 then _ else _) = _; rw [if_pos hp]; rfl
  unfold txt
  rw [bytes_get hp (by rw [e]; exact sg_byte _ _), e]
theorem wtxt_get {h : Nat → Int} {p : Nat} (hp : p < 248) : ((((wtxt h)[p]?).getD 0).toNat : Int) = sg true (hx h p) := by
  have e : (pre 0 (hsg h) 248).2 p = sg true (hx h p) := by show (if p < 248 then _ else _) = _; rw [if_pos hp]; rfl
  unfold wtxt
  rw [bytes_get hp (by rw [e]; exact sg_byte _ _), e]

/-! ### From a text -/

/-- All places. -/
theorem all_places {P : Nat → Nat → Prop} (h : ∀ p, p < 248 → P (fld p) (bt p)) {i : Nat} (hi : i < 12) {k : Nat} (hk : k < sz i) : P i k := by
  obtain ⟨h1, h2, h3⟩ := psn_lt hi hk
  have := h _ h1
  rwa [h2, h3] at this

/-! ### Meet -/

/-! ### Has and Within -/

def has_at (c : S_api_Cube) (h : Nat → Int) (p : Nat) : Bool := !(cx c p) || (vx c p == hx h p)

theorem hb_places {c : S_api_Cube} (hc : UC c) {h : Nat → Int} (hh : UH h) : hb c h = ((snd c && (List.range 248).all (has_at c h)) && sndH h) := by
  rw [Bool.eq_iff_iff, hb_iff hc hh, Bool.and_eq_true, Bool.and_eq_true, List.all_eq_true]
  have e : ∀ p, has_at c h p = true ↔ (cx c p = true → vx c p = hx h p) := fun p => by
    unfold has_at
    cases cx c p <;> cases vx c p <;> cases hx h p <;> decide
  constructor
  · rintro ⟨h1, h2, h3⟩
    refine ⟨⟨h2, fun p hp => ?_⟩, h3⟩
    rw [e]
    intro k
    have := h1 _ (fld_lt (List.mem_range.1 hp)) (bt p)
    rw [show tb (c.f1 (fld p)) (bt p) = true from k, Bool.and_true] at this
    exact this.symm
  · rintro ⟨⟨h2, h1⟩, h3⟩
    refine ⟨fun i hi k => ?_, h2, h3⟩
    have k2 := snd_bit hc h2 hi k
    cases hk : tb (c.f1 i) k with
    | false =>
      rw [Bool.and_false]
      cases hv : tb (c.f0 i) k with
      | false => rfl
      | true => have := k2 hv; rw [hk] at this; cases this
    | true =>
      have := all_places (P := fun i k => tb (c.f1 i) k = true → tb (c.f0 i) k = tb (h i) k) (fun p hp => (e p).1 (h1 p (List.mem_range.2 hp))) hi (snd_high hc h2 hi hk)
      rw [Bool.and_true]
      exact (this hk).symm

theorem all_succ (f : Nat → Bool) (n : Nat) : (List.range (n + 1)).all f = ((List.range n).all f && f n) := by
  simp [List.range_succ]

theorem ref_has {fu : Nat} (hf : 300 ≤ fu) {c : S_api_Cube} (hc : UC c) {h : Nat → Int} (hh : UH h) : F_ref01_Has fu c h = some (hb c h) := by
  have h49 : 49 ≤ fu := by omega
  unfold F_ref01_Has
  rw [ref_text h49 hc, Option.bind_some, ref_whole h49 hh, Option.bind_some, hb_places hc hh]
  rw [show ((txt c, snd c).2, (0 : Int)) = (fun n : Nat => ((snd c && (List.range n).all (has_at c h)), (n : Int))) 0 by simp]
  rw [iter_run0 (fun n : Nat => ((snd c && (List.range n).all (has_at c h)), (n : Int))) 248 fu (by omega) (e := (snd c && (List.range 248).all (has_at c h)))]
  · show (callIf _ _ _).bind _ = _
    rw [ref_head (by omega)]
    cases (snd c && (List.range 248).all (has_at c h)) <;> rfl
  · intro n hn
    unfold F_ref01_Has_L1
    dsimp only
    have hin : (0 : Int) ≤ (n : Int) ∧ (n : Int) < (((248 : Nat)) : Int) := by omega
    simp only [txt_size, wtxt_size, decide_eq_true hin.2, ifs, Int.toNat_natCast, txt_get hn, wtxt_get hn, wrap_succ (show n < 1000000 by omega)]
    rw [chk_t (fun _ => hin), chk_t (fun _ => hin), chk_t (fun _ => hin), all_succ]
    unfold has_at
    cases snd c <;> cases (List.range n).all (fun p => !(cx c p) || (vx c p == hx h p)) <;> cases cx c n <;> cases vx c n <;> cases hx h n <;> rfl
  · unfold F_ref01_Has_L1
    dsimp only
    rw [txt_size, decide_eq_false (by decide)]; rfl

def win_at (a b : S_api_Cube) (p : Nat) : Bool := !(cx b p) || (cx a p && (vx a p == vx b p))

theorem within_places {a b : S_api_Cube} (ha : UC a) (hb : UC b) : (mok a b && eqc (un a b 12) a) = ((snd a && (List.range 248).all (win_at a b)) && snd b) := by
  rw [Bool.eq_iff_iff, Bool.and_eq_true, mok_iff ha hb, eqc_bits (uc_un ha 12) ha, Bool.and_eq_true, Bool.and_eq_true, List.all_eq_true]
  have e : ∀ p, win_at a b p = true ↔ (cx b p = true → cx a p = true ∧ vx a p = vx b p) := fun p => by
    unfold win_at
    cases cx a p <;> cases vx a p <;> cases cx b p <;> cases vx b p <;> decide
  constructor
  · rintro ⟨M, h⟩
    refine ⟨⟨M.sa, fun p hp => (e p).2 fun hc => ?_⟩, M.sb⟩
    have hi := fld_lt (List.mem_range.1 hp)
    have k := (h _ hi (bt p)).2
    rw [un_c ha hb hi, show tb (b.f1 (fld p)) (bt p) = true from hc, Bool.or_true] at k
    exact ⟨k.symm, M.n _ hi _ k.symm hc⟩
  · rintro ⟨⟨sa, h⟩, sb⟩
    have h' : ∀ i, i < 12 → ∀ k, tb (b.f1 i) k = true → tb (a.f1 i) k = true ∧ tb (a.f0 i) k = tb (b.f0 i) k := fun i hi k hk =>
      all_places (P := fun i k => tb (b.f1 i) k = true → tb (a.f1 i) k = true ∧ tb (a.f0 i) k = tb (b.f0 i) k) (fun p hp => (e p).1 (h p (List.mem_range.2 hp))) hi (snd_high hb sb hi hk) hk
    refine ⟨⟨sa, sb, fun i hi k _ h2 => (h' i hi k h2).2⟩, fun i hi k => ?_⟩
    rw [un_v ha hb hi, un_c ha hb hi]
    have k3 := snd_bit hb sb hi k
    have k4 := h' i hi k
    revert k3 k4
    cases tb (a.f0 i) k <;> cases tb (a.f1 i) k <;> cases tb (b.f0 i) k <;> cases tb (b.f1 i) k <;> simp

theorem ref_within {fu : Nat} (hf : 300 ≤ fu) {a b : S_api_Cube} (ha : UC a) (hb : UC b) : F_ref01_Within fu a b = some (mok a b && eqc (un a b 12) a) := by
  have h49 : 49 ≤ fu := by omega
  unfold F_ref01_Within
  rw [ref_text h49 ha, Option.bind_some, ref_text h49 hb, Option.bind_some, within_places ha hb]
  rw [show ((txt a, snd a).2, (0 : Int)) = (fun n : Nat => ((snd a && (List.range n).all (win_at a b)), (n : Int))) 0 by simp]
  rw [iter_run0 (fun n : Nat => ((snd a && (List.range n).all (win_at a b)), (n : Int))) 248 fu (by omega) (e := (snd a && (List.range 248).all (win_at a b)))]
  · show some (bif _ then snd b else false) = _
    cases (snd a && (List.range 248).all (win_at a b)) <;> rfl
  · intro n hn
    unfold F_ref01_Within_L1
    dsimp only
    have hin : (0 : Int) ≤ (n : Int) ∧ (n : Int) < (((248 : Nat)) : Int) := by omega
    simp only [txt_size, decide_eq_true hin.2, ifs, Int.toNat_natCast, txt_get hn, wrap_succ (show n < 1000000 by omega)]
    rw [chk_t (fun _ => hin), chk_t (fun _ => hin), chk_t (fun _ => hin), all_succ]
    unfold win_at
    cases snd a <;> cases (List.range n).all (fun p => !(cx b p) || (cx a p && (vx a p == vx b p))) <;> cases cx a n <;> cases vx a n <;> cases cx b n <;> cases vx b n <;> rfl
  · unfold F_ref01_Within_L1
    dsimp only
    rw [txt_size, decide_eq_false (by decide)]; rfl

end Go.Proofs.Ytlgkjdjgockkfaa
