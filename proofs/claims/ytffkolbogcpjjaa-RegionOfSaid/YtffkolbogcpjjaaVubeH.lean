/- Cubes as plain functions, last part: the reference's Meet, Has, Within and Less, on texts. -/
import Derived.Test.YtffkolbogcpjjaaVubeG
namespace Go.Proofs.Ytffkolbogcpjjaa
open Go Go.Pod Go.Proofs

/-! ### Bytes of a text -/

theorem bytes_size (n : Nat) (f : Nat → Int) : (bytesOf n f).size = n := by
  unfold bytesOf; simp [ByteArray.size]

theorem bytes_get {n : Nat} {f : Nat → Int} {p : Nat} (hp : p < n) (h : 0 ≤ f p ∧ f p < 256) : ((((bytesOf n f)[p]?).getD 0).toNat : Int) = f p := by
  have hs : p < (bytesOf n f).size := by rw [bytes_size]; exact hp
  rw [getElem?_pos (bytesOf n f) p hs, Option.getD_some]
  have e : (bytesOf n f)[p] = UInt8.ofNat (f p).toNat := by
    have hl : p < ((List.range n).map fun i => UInt8.ofNat (f i).toNat).toArray.size := by simpa using hp
    show ((List.range n).map fun i => UInt8.ofNat (f i).toNat).toArray[p]'hl = _
    rw [List.getElem_toArray, List.getElem_map, List.getElem_range]
  rw [e]
  simp only [UInt8.toNat_ofNat']
  omega

/-- The sign of two bits. -/
def sg (x y : Bool) : Int := if x then (if y then 49 else 48) else 120
def cx (c : S_api_Cube) (p : Nat) : Bool := tb (c.f1 (fld p)) (bt p)
def vx (c : S_api_Cube) (p : Nat) : Bool := tb (c.f0 (fld p)) (bt p)
def hx (h : Nat → Int) (p : Nat) : Bool := tb (h (fld p)) (bt p)
theorem sg_byte (x y : Bool) : 0 ≤ sg x y ∧ sg x y < 256 := by cases x <;> cases y <;> decide

theorem txt_size (c : S_api_Cube) : (txt c).size = 248 := bytes_size _ _
theorem txt_get {c : S_api_Cube} {p : Nat} (hp : p < 248) : ((((txt c)[p]?).getD 0).toNat : Int) = sg (cx c p) (vx c p) := by
  have e : (pre 0 (sgn c) 248).2 p = sg (cx c p) (vx c p) := by show (if p < 248 then _ else _) = _; rw [if_pos hp]; rfl
  unfold txt
  rw [bytes_get hp (by rw [e]; exact sg_byte _ _), e]
/-! ### From a text -/

/-- The number of so many bits, the highest first. -/
def num (g : Nat → Bool) : Nat → Nat
  | 0 => 0
  | n + 1 => num g n * 2 + (if g n then 1 else 0)

theorem num_lt (g : Nat → Bool) : ∀ n, num g n < 2 ^ n
  | 0 => show 0 < 1 by decide
  | n + 1 => by
    have := num_lt g n
    unfold num
    rw [Nat.pow_succ]
    split <;> omega

theorem num_bit (g : Nat → Bool) : ∀ n k, (num g n).testBit k = (decide (k < n) && g (n - 1 - k))
  | 0, k => by simp [num]
  | n + 1, k => by
    unfold num
    cases k with
    | zero =>
      rw [Nat.testBit_zero]
      have : decide ((num g n * 2 + if g n = true then 1 else 0) % 2 = 1) = g n := by
        cases g n with
        | true => rw [if_pos rfl]; exact decide_eq_true (by omega)
        | false => rw [if_neg (by decide)]; exact decide_eq_false (by omega)
      rw [this]
      simp
    | succ k =>
      have e : (num g n * 2 + if g n = true then 1 else 0) / 2 = num g n := by split <;> omega
      rw [Nat.testBit_succ, e, num_bit g n k, show n + 1 - 1 - (k + 1) = n - 1 - k by omega]
      congr 1
      exact decide_eq_decide.2 (by omega)

def fv (g : Nat → Int) (i n : Nat) : Nat := num (fun m => g (off i + m) == 49) n
def fc (g : Nat → Int) (i n : Nat) : Nat := num (fun m => g (off i + m) != 120) n
/-- The cube that is read so far. -/
def frs (g : Nat → Int) (i n : Nat) : S_api_Cube := ⟨fun j => if j < i then (fv g j (sz j) : Int) else if j = i then (fv g i n : Int) else 0, fun j => if j < i then (fc g j (sz j) : Int) else if j = i then (fc g i n : Int) else 0⟩

theorem frs_next (g : Nat → Int) (i : Nat) : frs g i (sz i) = frs g (i + 1) 0 := by
  unfold frs
  congr 1
  · funext j
    by_cases h1 : j < i
    · rw [if_pos h1, if_pos (by omega)]
    · rw [if_neg h1]
      by_cases h2 : j = i
      · subst h2; rw [if_pos rfl, if_pos (by omega)]
      · rw [if_neg h2, if_neg (by omega)]
        split <;> rfl
  · funext j
    by_cases h1 : j < i
    · rw [if_pos h1, if_pos (by omega)]
    · rw [if_neg h1]
      by_cases h2 : j = i
      · subst h2; rw [if_pos rfl, if_pos (by omega)]
      · rw [if_neg h2, if_neg (by omega)]
        split <;> rfl

theorem frs_zero (g : Nat → Int) : frs g 0 0 = zc := by
  unfold frs zc
  congr 1 <;> funext j <;> rw [if_neg (Nat.not_lt_zero _)] <;> split <;> rfl

theorem frs_v (g : Nat → Int) (i n : Nat) : (frs g i n).f0 i = (fv g i n : Int) := by
  show (if i < i then _ else _) = _; rw [if_neg (Nat.lt_irrefl _), if_pos rfl]
theorem frs_c (g : Nat → Int) (i n : Nat) : (frs g i n).f1 i = (fc g i n : Int) := by
  show (if i < i then _ else _) = _; rw [if_neg (Nat.lt_irrefl _), if_pos rfl]

/-- Other fields than the one that is read stay. -/
theorem frs_step {g : Nat → Int} {i n : Nat} {A B : Nat → Int} (hA : A i = (fv g i (n + 1) : Int)) (hA' : ∀ j, j ≠ i → A j = (frs g i n).f0 j) (hB : B i = (fc g i (n + 1) : Int)) (hB' : ∀ j, j ≠ i → B j = (frs g i n).f1 j) : (⟨A, B⟩ : S_api_Cube) = frs g i (n + 1) := by
  unfold frs
  congr 1 <;> funext j
  · by_cases e : j = i
    · subst e; rw [hA, if_neg (Nat.lt_irrefl _), if_pos rfl]
    · rw [hA' j e]
      show (if j < i then _ else if j = i then _ else _) = _
      rw [if_neg e, if_neg e]
  · by_cases e : j = i
    · subst e; rw [hB, if_neg (Nat.lt_irrefl _), if_pos rfl]
    · rw [hB' j e]
      show (if j < i then _ else if j = i then _ else _) = _
      rw [if_neg e, if_neg e]

theorem from_L2 {fu : Nat} (hf : 49 ≤ fu) {f g : Nat → Int} (hg : ∀ p, p < 248 → f p = g p ∧ 0 ≤ g p ∧ g p < 256) (m0 : S_api_Cube) {i : Nat} (hi : i < 12) :
    iter (fun s => F_ref01_From_L2 fu (bytesOf 248 f) m0 (i : Int) s.1 s.2.1 s.2.2) fu (((off i : Nat) : Int), (0 : Int), frs g i 0) = some (.inl (((off (i + 1) : Nat) : Int), frs g (i + 1) 0)) := by
  have hz := sz_le i
  have ho := off_le (show i + 1 < 13 by omega)
  rw [← frs_next]
  rw [off_succ hi] at ho ⊢
  rw [show (((off i : Nat) : Int), (0 : Int), frs g i 0) = (fun n : Nat => (((off i + n : Nat) : Int), (n : Int), frs g i n)) 0 from rfl]
  refine iter_run0 (fun n : Nat => (((off i + n : Nat) : Int), (n : Int), frs g i n)) (sz i) fu (by omega) (fun n hn => ?_) ?_
  · unfold F_ref01_From_L2 F_ref01_From_J1
    dsimp only
    have hp : off i + n < 248 := by omega
    have hb : (((((bytesOf 248 f))[off i + n]?).getD 0).toNat : Int) = g (off i + n) := by
      have := hg _ hp
      rw [bytes_get hp (by rw [this.1]; exact this.2), this.1]
    have hin : (0 : Int) ≤ ((off i + n : Nat) : Int) ∧ ((off i + n : Nat) : Int) < ((bytesOf 248 f).size : Int) := by rw [bytes_size]; omega
    have hv := num_lt (fun m => g (off i + m) == 49) n
    have hc := num_lt (fun m => g (off i + m) != 120) n
    have h2 := two_pow_le (show n ≤ 48 by omega)
    have ev : IntKind.wrap .u64 ((frs g i n).f0 i * 2) = ((fv g i n * 2 : Nat) : Int) := by rw [frs_v, wrap_u64 (by unfold fv; omega) (by unfold fv; omega)]; simp
    have ec : IntKind.wrap .u64 ((frs g i n).f1 i * 2) = ((fc g i n * 2 : Nat) : Int) := by rw [frs_c, wrap_u64 (by unfold fc; omega) (by unfold fc; omega)]; simp
    have ev1 : IntKind.wrap .u64 (((fv g i n * 2 : Nat) : Int) + 1) = ((fv g i n * 2 + 1 : Nat) : Int) := by rw [wrap_u64 (by unfold fv; omega) (by unfold fv; omega)]; simp
    have ec1 : IntKind.wrap .u64 (((fc g i n * 2 : Nat) : Int) + 1) = ((fc g i n * 2 + 1 : Nat) : Int) := by rw [wrap_u64 (by unfold fc; omega) (by unfold fc; omega)]; simp
    simp only [(size_eq hi).2, Option.bind_some, decide_eq_true (show (n : Int) < (sz i : Int) by omega), ifs, chk_at hi, Int.toNat_natCast, chk_nat hi, chk_t hin, hb, wrap_succ (show off i + n < 1000000 by omega), wrap_succ (show n < 1000000 by omega), ev, ec, if_true, ev1, ec1]
    have sv : fv g i (n + 1) = fv g i n * 2 + (if g (off i + n) == 49 then 1 else 0) := rfl
    have sc : fc g i (n + 1) = fc g i n * 2 + (if g (off i + n) != 120 then 1 else 0) := rfl
    cases h1 : g (off i + n) != 120 with
    | true =>
      rw [h1] at sc
      cases h2 : g (off i + n) == 49 with
      | true =>
        rw [h2] at sv
        refine congrArg (fun c => some (Lo.next (((off i + n + 1 : Nat) : Int), ((n + 1 : Nat) : Int), c))) (frs_step ?_ ?_ ?_ ?_)
        · rw [if_pos rfl, sv]; rfl
        · intro j e; rw [if_neg e, if_neg e]
        · rw [if_pos rfl, sc]; rfl
        · intro j e; rw [if_neg e, if_neg e]
      | false =>
        rw [h2] at sv
        refine congrArg (fun c => some (Lo.next (((off i + n + 1 : Nat) : Int), ((n + 1 : Nat) : Int), c))) (frs_step ?_ ?_ ?_ ?_)
        · rw [if_pos rfl, sv]; rfl
        · intro j e; rw [if_neg e]
        · rw [if_pos rfl, sc]; rfl
        · intro j e; rw [if_neg e, if_neg e]
    | false =>
      rw [h1] at sc
      cases h2 : g (off i + n) == 49 with
      | true =>
        rw [h2] at sv
        refine congrArg (fun c => some (Lo.next (((off i + n + 1 : Nat) : Int), ((n + 1 : Nat) : Int), c))) (frs_step ?_ ?_ ?_ ?_)
        · rw [if_pos rfl, sv]; rfl
        · intro j e; rw [if_neg e, if_neg e]
        · rw [if_pos rfl, sc]; rfl
        · intro j e; rw [if_neg e]
      | false =>
        rw [h2] at sv
        refine congrArg (fun c => some (Lo.next (((off i + n + 1 : Nat) : Int), ((n + 1 : Nat) : Int), c))) (frs_step ?_ ?_ ?_ ?_)
        · rw [if_pos rfl, sv]; rfl
        · intro j e; rw [if_neg e]
        · rw [if_pos rfl, sc]; rfl
        · intro j e; rw [if_neg e]
  · unfold F_ref01_From_L2
    dsimp only
    rw [(size_eq hi).2, Option.bind_some, decide_eq_false (by omega)]; rfl

theorem ref_from {fu : Nat} (hf : 49 ≤ fu) {f g : Nat → Int} (hg : ∀ p, p < 248 → f p = g p ∧ 0 ≤ g p ∧ g p < 256) : F_ref01_From fu (bytesOf 248 f) = some (frs g 12 0) := by
  unfold F_ref01_From
  rw [show ((0 : Int), (0 : Int), S_api_Cube.mk (fun _ => 0) (fun _ => 0)) = (fun i : Nat => (((off i : Nat) : Int), (i : Int), frs g i 0)) 0 by
    dsimp only; rw [frs_zero]; rfl]
  rw [iter_run0 (fun i : Nat => (((off i : Nat) : Int), (i : Int), frs g i 0)) 12 fu (by omega) (e := frs g 12 0)]
  · rfl
  · intro i hi
    unfold F_ref01_From_L1
    dsimp only
    rw [decide_eq_true (show (i : Int) < 12 by omega), ifs, from_L2 hf hg _ hi, wrap_succ (by omega)]
    rfl
  · unfold F_ref01_From_L1
    dsimp only
    rw [decide_eq_false (by decide)]; rfl

theorem from_bits (g : Nat → Int) {i : Nat} (hi : i < 12) (k : Nat) : tb ((frs g 12 0).f0 i) k = (decide (k < sz i) && (g (psn i k) == 49)) ∧ tb ((frs g 12 0).f1 i) k = (decide (k < sz i) && (g (psn i k) != 120)) := by
  constructor
  · show tb (if i < 12 then _ else _) k = _
    rw [if_pos hi]
    exact num_bit _ _ _
  · show tb (if i < 12 then _ else _) k = _
    rw [if_pos hi]
    exact num_bit _ _ _

theorem u_num (g : Nat → Bool) {n : Nat} (hn : n ≤ 48) : U (num g n : Int) := by
  have := num_lt g n
  have := two_pow_le hn
  exact ⟨by omega, by omega⟩
theorem uc_frs (g : Nat → Int) : UC (frs g 12 0) := by
  refine ⟨fun i hi => ?_, fun i hi => ?_⟩
  · show U (if i < 12 then _ else _)
    rw [if_pos hi]; exact u_num _ (sz_le i)
  · show U (if i < 12 then _ else _)
    rw [if_pos hi]; exact u_num _ (sz_le i)

/-- A cube's signs say which cube it is. -/
theorem frs_eq {c : S_api_Cube} (hc : UC c) (hs : snd c = true) {g : Nat → Int} (hg : ∀ p, p < 248 → g p = sg (cx c p) (vx c p)) : eqc c (frs g 12 0) = true := by
  rw [eqc_bits hc (uc_frs g)]
  intro i hi k
  rw [(from_bits g hi k).1, (from_bits g hi k).2]
  by_cases hk : k < sz i
  · obtain ⟨h1, h2, h3⟩ := psn_lt hi hk
    have e := hg _ h1
    unfold cx vx at e
    rw [h2, h3] at e
    rw [e, decide_eq_true hk, Bool.true_and, Bool.true_and]
    have := snd_bit hc hs hi k
    revert this
    cases tb (c.f0 i) k <;> cases tb (c.f1 i) k <;> simp [sg]
  · rw [decide_eq_false hk, Bool.false_and]
    have h1 : tb (c.f1 i) k = false := by
      cases h : tb (c.f1 i) k with
      | false => rfl
      | true => exact absurd (snd_high hc hs hi h) hk
    have h0 : tb (c.f0 i) k = false := by
      cases h : tb (c.f0 i) k with
      | false => rfl
      | true => have := snd_bit hc hs hi k h; rw [h1] at this; cases this
    exact ⟨h0, h1⟩

/-- All places. -/
theorem all_places {P : Nat → Nat → Prop} (h : ∀ p, p < 248 → P (fld p) (bt p)) {i : Nat} (hi : i < 12) {k : Nat} (hk : k < sz i) : P i k := by
  obtain ⟨h1, h2, h3⟩ := psn_lt hi hk
  have := h _ h1
  rwa [h2, h3] at this

/-! ### Meet -/

def mg (a b : S_api_Cube) (p : Nat) : Int := if cx a p then sg (cx a p) (vx a p) else sg (cx b p) (vx b p)
def agr (a b : S_api_Cube) (p : Nat) : Bool := !(cx a p && cx b p) || (vx a p == vx b p)
/-- The signs that are merged before a place. -/
def mgs (a b : S_api_Cube) (f : Nat → Int) : Nat → Nat → Int
  | 0 => f
  | p + 1 => if cx a p then mgs a b f p else fun j => if j = p then sg (cx b p) (vx b p) else mgs a b f p j

theorem mgs_succ (a b : S_api_Cube) (f : Nat → Int) (p : Nat) : mgs a b f (p + 1) = if cx a p then mgs a b f p else fun j => if j = p then sg (cx b p) (vx b p) else mgs a b f p j := rfl

theorem mgs_eq (a b : S_api_Cube) {f : Nat → Int} (hf : ∀ p, p < 248 → f p = sg (cx a p) (vx a p)) : ∀ n p, p < 248 → mgs a b f n p = if p < n then mg a b p else sg (cx a p) (vx a p)
  | 0, p, hp => by rw [if_neg (Nat.not_lt_zero _)]; exact hf p hp
  | n + 1, p, hp => by
    rw [mgs_succ]
    have ih := mgs_eq a b hf n p hp
    by_cases e : p = n
    · subst e
      rw [if_pos (Nat.lt_succ_self _)]
      unfold mg
      cases hc : cx a p with
      | true =>
        rw [if_neg (Nat.lt_irrefl _)] at ih
        rw [if_pos rfl, ih, hc]; rfl
      | false => rw [if_neg (by decide)]; rw [if_pos rfl]; rfl
    · have : (p < n + 1) = (p < n) := by apply propext; omega
      simp only [this]
      cases cx a n with
      | true => exact ih
      | false => rw [if_neg (by decide)]; rw [if_neg e]; exact ih

theorem mok_agr {a b : S_api_Cube} (ha : UC a) (hb : UC b) (sa : snd a = true) (sb : snd b = true) : mok a b = (List.range 248).all (agr a b) := by
  rw [Bool.eq_iff_iff, mok_iff ha hb, List.all_eq_true]
  have e : ∀ p, agr a b p = true ↔ (cx a p = true → cx b p = true → vx a p = vx b p) := fun p => by
    unfold agr
    cases cx a p <;> cases cx b p <;> cases vx a p <;> cases vx b p <;> decide
  constructor
  · intro h p hp
    have hp' := List.mem_range.1 hp
    exact (e p).2 (h.n _ (fld_lt hp') (bt p))
  · intro h
    refine ⟨sa, sb, fun i hi k h1 h2 => ?_⟩
    have hk := snd_high ha sa hi h1
    have := all_places (P := fun i k => tb (a.f1 i) k = true → tb (b.f1 i) k = true → tb (a.f0 i) k = tb (b.f0 i) k) (fun p hp => (e p).1 (h p (List.mem_range.2 hp))) hi hk
    exact this h1 h2

theorem ref_meet {fu : Nat} (hf : 300 ≤ fu) {a b : S_api_Cube} (ha : UC a) (hb : UC b) : ∃ c, F_ref01_Meet fu a b = some (c, mok a b) ∧ eqc (mt a b).1 c = true := by
  have h49 : 49 ≤ fu := by omega
  unfold F_ref01_Meet
  rw [ref_text h49 ha, Option.bind_some, ref_text h49 hb, Option.bind_some]
  by_cases hs : snd a = true ∧ snd b = true
  · obtain ⟨sa, sb⟩ := hs
    dsimp only
    rw [sa, sb, show (bif (!true) then true else (!true)) = false from rfl, ifs, chk_t (by rw [txt_size]; decide), txt_size]
    generalize hF : (fun i : Nat => ((((txt a)[i]?).getD 0).toNat : Int)) = F
    have hF' : ∀ p, p < 248 → F p = sg (cx a p) (vx a p) := fun p hp => by rw [← hF]; exact txt_get hp
    rw [show ((0 : Int), ((248 : Nat), F)) = (fun n : Nat => ((n : Int), ((248 : Nat), mgs a b F n))) 0 from rfl]
    rw [iter_all (fun n : Nat => ((n : Int), ((248 : Nat), mgs a b F n))) (agr a b) (zc, false) (e := ((248 : Nat), mgs a b F 248)) 248 fu (by omega)]
    · rw [← mok_agr ha hb sa sb]
      cases hm : mok a b with
      | false =>
        refine ⟨zc, rfl, ?_⟩
        rw [mt_zc hm]; exact eqc_refl _
      | true =>
        have M := (mok_iff ha hb).1 hm
        have hg : ∀ p, p < 248 → mgs a b F 248 p = mg a b p ∧ 0 ≤ mg a b p ∧ mg a b p < 256 := fun p hp => by
          rw [mgs_eq a b hF' 248 p hp, if_pos hp]
          refine ⟨rfl, ?_⟩
          unfold mg
          split <;> exact sg_byte _ _
        refine ⟨frs (mg a b) 12 0, ?_, ?_⟩
        · show (F_ref01_From fu (bytesOf 248 (mgs a b F 248))).bind (fun r2 => some (r2, true)) = _
          rw [ref_from h49 hg]; rfl
        · rw [mt_un hm]
          refine frs_eq (uc_un ha 12) (snd_un ha hb sa sb) fun p hp => ?_
          have hi := fld_lt hp
          unfold mg
          rw [show cx (un a b 12) p = (cx a p || cx b p) from un_c ha hb hi _, show vx (un a b 12) p = (vx a p || vx b p) from un_v ha hb hi _]
          have k1 : cx a p = true → cx b p = true → vx a p = vx b p := M.n _ hi _
          have k2 : vx a p = true → cx a p = true := snd_bit ha sa hi _
          have k3 : vx b p = true → cx b p = true := snd_bit hb sb hi _
          revert k1 k2 k3
          cases cx a p <;> cases cx b p <;> cases vx a p <;> cases vx b p <;> simp [sg]
    · intro n hn
      unfold F_ref01_Meet_L1
      dsimp only
      have hin : (0 : Int) ≤ (n : Int) ∧ (n : Int) < (((248 : Nat)) : Int) := by omega
      simp only [txt_size, decide_eq_true hin.2, ifs, chk_t hin, Int.toNat_natCast, txt_get hn, chk_t hn, wrap_succ (show n < 1000000 by omega)]
      have e1 : chk (((sg (cx b n) (vx b n)) != (120 : Int)) = true → ((0 : Int) ≤ (n : Int) ∧ (n : Int) < (((248 : Nat)) : Int))) = fun (o : Option (Lo (Int × (Nat × (Nat → Int))) E_ref01_Meet_L1 (S_api_Cube × Bool))) => o := funext fun o => chk_t (fun _ => hin) o
      rw [mgs_succ]
      simp only [e1]
      unfold agr
      cases cx a n <;> cases cx b n <;> cases vx a n <;> cases vx b n <;> rfl
    · unfold F_ref01_Meet_L1
      dsimp only
      rw [txt_size, decide_eq_false (by decide)]; rfl
  · have hm : mok a b = false := by
      cases h : mok a b with
      | false => rfl
      | true => exact absurd ⟨((mok_iff ha hb).1 h).sa, ((mok_iff ha hb).1 h).sb⟩ hs
    have e : (bif (!snd a) then true else (!snd b)) = true := by
      revert hs
      cases snd a <;> cases snd b <;> simp
    dsimp only
    rw [e, ifs, hm]
    refine ⟨zc, rfl, ?_⟩
    rw [mt_zc hm]; exact eqc_refl _

/-! ### Has and Within -/

theorem all_succ (f : Nat → Bool) (n : Nat) : (List.range (n + 1)).all f = ((List.range n).all f && f n) := by
  simp [List.range_succ]

def win_at (a b : S_api_Cube) (p : Nat) : Bool := !(cx b p) || (cx a p && (vx a p == vx b p))

theorem within_places {a b : S_api_Cube} (ha : UC a) (hb : UC b) : (mok a b && eqc (un a b 12) a) = ((snd a && (List.range 248).all (win_at a b)) && snd b) := by
  rw [Bool.eq_iff_iff, Bool.and_eq_true, mok_iff ha hb, eqc_bits (uc_un ha 12) ha, Bool.and_eq_true, Bool.and_eq_true, List.all_eq_true]
  have e : ∀ p, win_at a b p = true ↔ (cx b p = true → cx a p = true ∧ vx a p = vx b p) := fun p => by
    unfold win_at
    cases cx a p <;> cases vx a p <;> cases cx b p <;> cases vx b p <;> decide
  constructor
  · rintro ⟨M, h⟩
    refine ⟨⟨M.sa, fun p hp => (e p).2 fun hc => ?_⟩, M.sb⟩
    have hi := fld_lt (List.mem_range.1 hp)
    have k := (h _ hi (bt p)).2
    rw [un_c ha hb hi, show tb (b.f1 (fld p)) (bt p) = true from hc, Bool.or_true] at k
    exact ⟨k.symm, M.n _ hi _ k.symm hc⟩
  · rintro ⟨⟨sa, h⟩, sb⟩
    have h' : ∀ i, i < 12 → ∀ k, tb (b.f1 i) k = true → tb (a.f1 i) k = true ∧ tb (a.f0 i) k = tb (b.f0 i) k := fun i hi k hk =>
      all_places (P := fun i k => tb (b.f1 i) k = true → tb (a.f1 i) k = true ∧ tb (a.f0 i) k = tb (b.f0 i) k) (fun p hp => (e p).1 (h p (List.mem_range.2 hp))) hi (snd_high hb sb hi hk) hk
    refine ⟨⟨sa, sb, fun i hi k _ h2 => (h' i hi k h2).2⟩, fun i hi k => ?_⟩
    rw [un_v ha hb hi, un_c ha hb hi]
    have k3 := snd_bit hb sb hi k
    have k4 := h' i hi k
    revert k3 k4
    cases tb (a.f0 i) k <;> cases tb (a.f1 i) k <;> cases tb (b.f0 i) k <;> cases tb (b.f1 i) k <;> simp

theorem ref_within {fu : Nat} (hf : 300 ≤ fu) {a b : S_api_Cube} (ha : UC a) (hb : UC b) : F_ref01_Within fu a b = some (mok a b && eqc (un a b 12) a) := by
  have h49 : 49 ≤ fu := by omega
  unfold F_ref01_Within
  rw [ref_text h49 ha, Option.bind_some, ref_text h49 hb, Option.bind_some, within_places ha hb]
  rw [show ((txt a, snd a).2, (0 : Int)) = (fun n : Nat => ((snd a && (List.range n).all (win_at a b)), (n : Int))) 0 by simp]
  rw [iter_run0 (fun n : Nat => ((snd a && (List.range n).all (win_at a b)), (n : Int))) 248 fu (by omega) (e := (snd a && (List.range 248).all (win_at a b)))]
  · show some (bif _ then snd b else false) = _
    cases (snd a && (List.range 248).all (win_at a b)) <;> rfl
  · intro n hn
    unfold F_ref01_Within_L1
    dsimp only
    have hin : (0 : Int) ≤ (n : Int) ∧ (n : Int) < (((248 : Nat)) : Int) := by omega
    simp only [txt_size, decide_eq_true hin.2, ifs, Int.toNat_natCast, txt_get hn, wrap_succ (show n < 1000000 by omega)]
    rw [chk_t (fun _ => hin), chk_t (fun _ => hin), chk_t (fun _ => hin), all_succ]
    unfold win_at
    cases snd a <;> cases (List.range n).all (fun p => !(cx b p) || (cx a p && (vx a p == vx b p))) <;> cases cx a n <;> cases vx a n <;> cases cx b n <;> cases vx b n <;> rfl
  · unfold F_ref01_Within_L1
    dsimp only
    rw [txt_size, decide_eq_false (by decide)]; rfl

end Go.Proofs.Ytffkolbogcpjjaa
