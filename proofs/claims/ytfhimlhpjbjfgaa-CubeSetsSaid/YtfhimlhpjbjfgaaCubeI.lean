/- Cubes as plain functions: the reference's Less; 'CubeSets'. -/
import Derived.Test.YtfhimlhpjbjfgaaCubeH
namespace Go.Proofs.Ytfhimlhpjbjfgaa
open Go Go.Pod Go.Proofs

/-! ### The reference's Less -/

/-- The signs that are left at a place. -/
def lss (a b : S_api_Cube) (f : Nat → Int) : Nat → Nat → Int
  | 0 => f
  | p + 1 => if live a b p then (fun j => if j = p then sg (cx b p) (vx b p) else (fun j => if j = p then IntKind.wrap .u8 (97 - sg (cx b p) (vx b p)) else lss a b f p j) j) else lss a b f p
theorem lss_succ (a b : S_api_Cube) (f : Nat → Int) (p : Nat) : lss a b f (p + 1) = if live a b p then (fun j => if j = p then sg (cx b p) (vx b p) else (fun j => if j = p then IntKind.wrap .u8 (97 - sg (cx b p) (vx b p)) else lss a b f p j) j) else lss a b f p := rfl

theorem lss_eq (a b : S_api_Cube) {f : Nat → Int} (hf : ∀ p, p < 248 → f p = sg (cx a p) (vx a p)) : ∀ n p, p < 248 → lss a b f n p = if decide (p < n) && live a b p then sg (cx b p) (vx b p) else sg (cx a p) (vx a p)
  | 0, p, hp => by rw [decide_eq_false (Nat.not_lt_zero _)]; exact hf p hp
  | n + 1, p, hp => by
    rw [lss_succ]
    have ih := lss_eq a b hf n p hp
    by_cases e : p = n
    · subst e
      rw [decide_eq_true (Nat.lt_succ_self _), Bool.true_and]
      rw [decide_eq_false (Nat.lt_irrefl _), Bool.false_and] at ih
      cases live a b p with
      | true => rw [if_pos rfl, if_pos rfl, if_pos rfl]
      | false => rw [if_neg (by decide), ih]
    · rw [show decide (p < n + 1) = decide (p < n) from decide_eq_decide.2 (by omega)]
      cases live a b n with
      | true =>
        rw [if_pos rfl]
        dsimp only
        rw [if_neg e, if_neg e, ih]
      | false => rw [if_neg (by decide), ih]

/-- A part's signs. -/
def psg (a b : S_api_Cube) (p q : Nat) : Int := sg (cx (prt a b p) q) (vx (prt a b p) q)

theorem live_eq (a b : S_api_Cube) (p : Nat) : live a b p = (cx b p && !cx a p) := rfl

theorem psg_eq {a b : S_api_Cube} (ha : UC a) (hb : UC b) (M : MOK a b) {p q : Nat} (hp : p < 248) (hq : q < 248) (hl : live a b p = true) :
    psg a b p q = if q = p then sg true (!vx b p) else if decide (q < p) && live a b q then sg (cx b q) (vx b q) else sg (cx a q) (vx a q) := by
  have hi := fld_lt hq
  unfold psg
  by_cases e : q = p
  · subst e
    obtain ⟨h1, h2, _, _⟩ := prt_self ha hb M hp hl
    rw [if_pos rfl, show cx (prt a b q) q = true from h1, show vx (prt a b q) q = !vx b q from h2]
  · rw [if_neg e]
    have hat : isAt p (fld q) (bt q) = false := by
      cases h : isAt p (fld q) (bt q) with
      | false => rfl
      | true => have := ((isAt_iff hp hi).1 h).2; rw [psn_bt hq] at this; exact absurd this e
    have hlt : isLt p (fld q) (bt q) = decide (q < p) := by
      unfold isLt; rw [psn_bt hq, decide_eq_true (bt_lt hq), Bool.true_and]
    rw [show cx (prt a b p) q = _ from (prt_bits ha hb hp hi (bt q)).2, show vx (prt a b p) q = _ from (prt_bits ha hb hp hi (bt q)).1, hat, show fromB a b p (fld q) (bt q) = (decide (q < p) && live a b q) by unfold fromB; rw [hlt]; rfl, live_eq]
    have k2 : vx a q = true → cx a q = true := snd_bit ha M.sa hi _
    show sg (cx a q || _ || false) (vx a q || (_ && vx b q) || (false && !vx b q)) = _
    revert k2
    cases decide (q < p) <;> cases cx a q <;> cases cx b q <;> cases vx a q <;> cases vx b q <;> simp [sg]

/-- The reference's parts. -/
def rls (a b : S_api_Cube) : Nat → Nat × (Nat → S_api_Cube)
  | 0 => (0, fun _ => zc)
  | p + 1 => if live a b p then push (rls a b p) (frs (psg a b p) 12 0) else rls a b p
theorem rls_succ (a b : S_api_Cube) (p : Nat) : rls a b (p + 1) = if live a b p then push (rls a b p) (frs (psg a b p) 12 0) else rls a b p := rfl

theorem rls_len (a b : S_api_Cube) : ∀ p, (rls a b p).1 = (lst a b p).1
  | 0 => rfl
  | p + 1 => by
    rw [rls_succ, lst_succ]
    cases live a b p with
    | true => exact congrArg (· + 1) (rls_len a b p)
    | false => exact rls_len a b p

theorem rls_same {a b : S_api_Cube} (ha : UC a) (hb : UC b) (M : MOK a b) : ∀ p, p ≤ 248 → ∀ j, j < (lst a b p).1 → eqc ((lst a b p).2 j) ((rls a b p).2 j) = true
  | 0, _, j, hj => absurd hj (Nat.not_lt_zero j)
  | p + 1, hp, j, hj => by
    have ih := rls_same ha hb M p (by omega)
    rw [lst_succ] at hj ⊢
    rw [rls_succ]
    cases hl : live a b p with
    | false => rw [hl] at hj; exact ih j hj
    | true =>
      rw [hl] at hj
      have hj' : j < (lst a b p).1 + 1 := hj
      rw [if_pos rfl, if_pos rfl]
      by_cases e : j < (lst a b p).1
      · rw [push_lt e, push_lt (by rw [rls_len]; exact e)]; exact ih j e
      · have e' : j = (lst a b p).1 := by omega
        subst e'
        rw [push_at]
        rw [← rls_len, push_at]
        exact frs_eq (uc_prt ha b p) (prt_snd ha hb M (by omega)) fun q _ => rfl

theorem same_loop {fu : Nat} (hf : 300 ≤ fu) {m l : Nat × (Nat → S_api_Cube)} (hle : m.1 ≤ 248) (hl : l.1 = m.1) (h : ∀ j, j < m.1 → eqc (m.2 j) (l.2 j) = true) : F_ref01_SameCubes fu m l = some true := by
  unfold F_ref01_SameCubes
  rw [hl, show (((m.1 : Nat) : Int) != ((m.1 : Nat) : Int)) = false by simp, ifs]
  rw [show (0 : Int) = ((0 : Nat) : Int) from rfl, iter_run0 (fun n : Nat => ((n : Nat) : Int)) m.1 fu (by omega) (e := ())]
  · rfl
  · intro n hn
    unfold F_ref01_SameCubes_L1
    rw [decide_eq_true (show (n : Int) < (m.1 : Int) by omega), ifs, chk_at hn, Int.toNat_natCast, hl, chk_at hn,
      show (((List.range 12).all fun i => (m.2 n).f0 i == (l.2 n).f0 i) && (((List.range 12).all fun i => (m.2 n).f1 i == (l.2 n).f1 i) && true)) = true from h n hn, Bool.not_true, ifs, wrap_succ (by omega)]
  · unfold F_ref01_SameCubes_L1
    rw [decide_eq_false (by omega)]; rfl

theorem flip_u8 (y : Bool) : IntKind.wrap .u8 (97 - sg true y) = sg true (!y) := by cases y <;> decide

theorem ref_less {fu : Nat} (hf : 300 ≤ fu) {a b : S_api_Cube} (ha : UC a) (hb : UC b) : F_ref01_Less fu a b = some (if mok a b then rls a b 248 else if snd a && snd b then (1, fun i => ([a] : List S_api_Cube).getD i zc) else (0, fun _ => zc)) := by
  have h49 : 49 ≤ fu := by omega
  obtain ⟨c, hm, _⟩ := ref_meet hf ha hb
  unfold F_ref01_Less
  rw [ref_text h49 ha, Option.bind_some, ref_text h49 hb, Option.bind_some, hm]
  by_cases hs : (snd a && snd b) = true
  · obtain ⟨sa, sb⟩ := Bool.and_eq_true _ _ ▸ hs
    rw [hs]
    dsimp only
    rw [sa, sb, show (bif (!true) then true else (!true)) = false from rfl, ifs, Option.bind_some]
    cases hmk : mok a b with
    | false => rfl
    | true =>
      have M := (mok_iff ha hb).1 hmk
      dsimp only
      rw [Bool.not_true, ifs, chk_t (by rw [txt_size]; decide), txt_size]
      generalize hF : (fun i : Nat => ((((txt a)[i]?).getD 0).toNat : Int)) = F
      have hF' : ∀ p, p < 248 → F p = sg (cx a p) (vx a p) := fun p hp => by rw [← hF]; exact txt_get hp
      rw [show ((0 : Int), ((0 : Nat), (fun _ => (S_api_Cube.mk (fun _ => 0) (fun _ => 0)) : Nat → S_api_Cube)), ((248 : Nat), F)) = (fun n : Nat => ((n : Int), rls a b n, ((248 : Nat), lss a b F n))) 0 from rfl]
      rw [iter_run0 (fun n : Nat => ((n : Int), rls a b n, ((248 : Nat), lss a b F n))) 248 fu (by omega) (e := rls a b 248)]
      · rfl
      · intro n hn
        unfold F_ref01_Less_L1
        dsimp only
        have hin : (0 : Int) ≤ (n : Int) ∧ (n : Int) < (((248 : Nat)) : Int) := by omega
        have hlen : (rls a b n).1 + 1 ≤ 100000 := by have := lst_le a b n; rw [rls_len]; omega
        simp only [txt_size, decide_eq_true hin.2, ifs, chk_t hin, Int.toNat_natCast, txt_get hn, chk_t hn, wrap_succ (show n < 1000000 by omega)]
        rw [chk_t (fun _ => hin), rls_succ, lss_succ]
        have et : (bif (sg (cx a n) (vx a n) != 120) then true else (sg (cx b n) (vx b n) == 120)) = !live a b n := by
          rw [live_eq]
          cases cx a n <;> cases cx b n <;> cases vx a n <;> cases vx b n <;> rfl
        rw [et]
        cases hl : live a b n with
        | false => rfl
        | true =>
          have hcb : cx b n = true := by rw [live_eq, Bool.and_eq_true] at hl; exact hl.1
          have hg : ∀ q, q < 248 → (fun j => if j = n then IntKind.wrap .u8 (97 - sg (cx b n) (vx b n)) else lss a b F n j) q = psg a b n q ∧ 0 ≤ psg a b n q ∧ psg a b n q < 256 := fun q hq => by
            refine ⟨?_, sg_byte _ _⟩
            rw [psg_eq ha hb M hn hq hl]
            dsimp only
            by_cases e : q = n
            · rw [if_pos e, if_pos e, hcb, flip_u8]
            · rw [if_neg e, if_neg e, lss_eq a b hF' n q hq]
          rw [Bool.not_true]
          dsimp only
          rw [ref_from h49 hg, Option.bind_some, chk_t (room_ok hlen (show 192 ≤ 192 by omega))]
          rfl
      · unfold F_ref01_Less_L1
        dsimp only
        rw [txt_size, decide_eq_false (by decide)]; rfl
  · have e : (bif (!snd a) then true else (!snd b)) = true := by
      revert hs
      cases snd a <;> cases snd b <;> simp
    have hm' : mok a b = false := by
      unfold mok
      rw [Bool.not_eq_true] at hs
      rw [hs]; rfl
    rw [Bool.not_eq_true] at hs
    dsimp only
    rw [e, ifs, hm', hs]
    rfl

/-- Both lists of parts are the same. -/
theorem less_same {a b : S_api_Cube} (ha : UC a) (hb : UC b) : ∃ m l, F_cube_Less 300 a b = some m ∧ F_ref01_Less 300 a b = some l ∧ F_ref01_SameCubes 300 m l = some true := by
  refine ⟨_, _, cube_less (by omega) ha hb, ref_less (Nat.le_refl _) ha hb, ?_⟩
  cases hm : mok a b with
  | true =>
    rw [if_pos rfl, if_pos rfl]
    exact same_loop (Nat.le_refl _) (lst_le a b 248) (rls_len a b 248) (rls_same ha hb ((mok_iff ha hb).1 hm) 248 (Nat.le_refl _))
  | false =>
    show F_ref01_SameCubes 300 (if (snd a && snd b) = true then _ else _) (if (snd a && snd b) = true then _ else _) = some true
    cases snd a && snd b with
    | true => exact same_loop (Nat.le_refl _) (show 1 ≤ 248 by decide) rfl fun j _ => eqc_refl _
    | false => exact same_loop (Nat.le_refl _) (show 0 ≤ 248 by decide) rfl fun j _ => eqc_refl _

/-! ### How many parts have a header -/

def cn (f : Nat → Bool) : Nat → Nat
  | 0 => 0
  | n + 1 => cn f n + (if f n then 1 else 0)
theorem cn_le (f : Nat → Bool) : ∀ n, cn f n ≤ n
  | 0 => Nat.le_refl _
  | n + 1 => by have := cn_le f n; unfold cn; split <;> omega
theorem cn_same {f g : Nat → Bool} : ∀ n, (∀ j, j < n → f j = g j) → cn f n = cn g n
  | 0, _ => rfl
  | n + 1, h => by unfold cn; rw [cn_same n fun j hj => h j (by omega), h n (by omega)]

theorem count_loop {a b : S_api_Cube} {m : Nat × (Nat → S_api_Cube)} (hm : PartsOk a b m) {h : Nat → Int} (hh : UH h) (x y : Bool) (c d e f : S_api_Cube) :
    iter (fun s => F_law02_CubeSets_L1 300 x y m c d h e f s.1 s.2) 300 ((0 : Int), (0 : Int)) = some (.inl ((cn (fun j => hb (m.2 j) h) m.1 : Nat) : Int)) := by
  have hle := hm.le
  refine iter_run0 (fun n : Nat => (((cn (fun j => hb (m.2 j) h) n : Nat) : Int), (n : Int))) m.1 300 (by omega) (fun n hn => ?_) ?_
  · have := cn_le (fun j => hb (m.2 j) h) n
    unfold F_law02_CubeSets_L1
    dsimp only
    rw [decide_eq_true (show (n : Int) < (m.1 : Int) by omega), ifs, chk_at hn, Int.toNat_natCast, cube_has (by omega) (hm.uc n hn) hh, Option.bind_some, wrap_succ (show n < 1000000 by omega), wrap_succ (show cn (fun j => hb (m.2 j) h) n < 1000000 by omega)]
    show _ = some (Lo.next (((cn (fun j => hb (m.2 j) h) n + (if hb (m.2 n) h then 1 else 0) : Nat) : Int), ((n + 1 : Nat) : Int)))
    cases hb (m.2 n) h <;> rfl
  · unfold F_law02_CubeSets_L1
    dsimp only
    rw [decide_eq_false (by omega)]; rfl

/-- A header differs from the second cube at a place that is left to it, before this one. -/
def dif (a b : S_api_Cube) (h : Nat → Int) : Nat → Bool
  | 0 => false
  | p + 1 => dif a b h p || (live a b p && (hx h p != vx b p))

theorem dif_iff (a b : S_api_Cube) (h : Nat → Int) : ∀ p, dif a b h p = false ↔ ∀ q, q < p → live a b q = true → hx h q = vx b q
  | 0 => by simp [dif]
  | p + 1 => by
    unfold dif
    rw [Bool.or_eq_false_iff, dif_iff a b h p]
    have e : (live a b p && (hx h p != vx b p)) = false ↔ (live a b p = true → hx h p = vx b p) := by
      cases live a b p <;> cases hx h p <;> cases vx b p <;> decide
    rw [e]
    constructor
    · rintro ⟨h1, h2⟩ q hq
      by_cases e : q = p
      · subst e; exact h2
      · exact h1 q (by omega)
    · intro h1
      exact ⟨fun q hq => h1 q (by omega), h1 p (by omega)⟩

section count
variable {a b : S_api_Cube} (ha : UC a) (hcb : UC b) (M : MOK a b) {h : Nat → Int} (hh : UH h)
include ha hcb M hh

theorem hb_prt {p : Nat} (hp : p < 248) (hl : live a b p = true) : hb (prt a b p) h = (hb a h && (!dif a b h p && (hx h p != vx b p))) := by
  have hi := fld_lt hp
  obtain ⟨s1, s2, _, _⟩ := prt_self ha hcb M hp hl
  rw [Bool.eq_iff_iff, hb_iff (uc_prt ha b p) hh, Bool.and_eq_true, hb_iff ha hh, Bool.and_eq_true, Bool.not_eq_true', dif_iff, bne_iff_ne]
  constructor
  · rintro ⟨h1, _, h3⟩
    refine ⟨⟨fun i hi k => ?_, M.sa, h3⟩, fun q hq hlq => ?_, ?_⟩
    · have k2 := snd_bit ha M.sa hi k
      cases hk : tb (a.f1 i) k with
      | false =>
        rw [Bool.and_false]
        cases hv : tb (a.f0 i) k with
        | false => rfl
        | true => have := k2 hv; rw [hk] at this; cases this
      | true =>
        have e := prt_agree ha hcb hp hl hi k hk
        have e1 := h1 i hi k
        rw [e, (prt_bits ha hcb hp hi k).2, hk] at e1
        simpa using e1
    · obtain ⟨e1, e2⟩ := prt_early ha hcb M hp hq hlq
      have := h1 _ (fld_lt (show q < 248 by omega)) (bt q)
      rw [e1, e2, Bool.and_true] at this
      exact this
    · have := h1 _ hi (bt p)
      rw [s1, s2, Bool.and_true] at this
      show tb (h (fld p)) (bt p) ≠ tb (b.f0 (fld p)) (bt p)
      rw [this]
      cases tb (b.f0 (fld p)) (bt p) <;> decide
  · rintro ⟨⟨h1, _, h3⟩, h4, h5⟩
    refine ⟨fun i hi k => ?_, prt_snd ha hcb M hp, h3⟩
    cases hat : isAt p i k with
    | true =>
      have e : fld p = i ∧ bt p = k := by
        unfold isAt at hat
        rw [Bool.and_eq_true, decide_eq_true_iff, decide_eq_true_iff] at hat
        exact hat
      obtain ⟨rfl, rfl⟩ := e
      rw [s1, s2, Bool.and_true]
      have h5' : tb (h (fld p)) (bt p) ≠ tb (b.f0 (fld p)) (bt p) := h5
      revert h5'
      cases tb (h (fld p)) (bt p) <;> cases tb (b.f0 (fld p)) (bt p) <;> simp
    | false =>
      cases hfr : fromB a b p i k with
      | true =>
        have hfr' := hfr
        unfold fromB isLt at hfr'
        simp only [Bool.and_eq_true, decide_eq_true_iff] at hfr'
        obtain ⟨⟨hk, hq⟩, hbit⟩ := hfr'
        obtain ⟨e1, e2, e3⟩ := psn_lt hi hk
        have hlq : live a b (psn i k) = true := by unfold live; rw [e2, e3]; simpa using hbit
        obtain ⟨g1, g2⟩ := prt_early ha hcb M hp hq hlq
        have g3 := h4 _ hq hlq
        unfold hx vx at g3
        rw [e2, e3] at g1 g2 g3
        rw [g1, g2, g3, Bool.and_true]
      | false =>
        have e1 := h1 i hi k
        rw [(prt_bits ha hcb hp hi k).1, (prt_bits ha hcb hp hi k).2, hat, hfr]
        simpa using e1

theorem count_lst : ∀ p, p ≤ 248 → cn (fun j => hb ((lst a b p).2 j) h) (lst a b p).1 = if hb a h && dif a b h p then 1 else 0
  | 0, _ => by simp [lst, cn, dif]
  | p + 1, hp => by
    have ih := count_lst p (by omega)
    have ed : dif a b h (p + 1) = (dif a b h p || (live a b p && (hx h p != vx b p))) := rfl
    rw [lst_succ, ed]
    cases hl : live a b p with
    | false => rw [if_neg (by decide), ih, Bool.false_and, Bool.or_false]
    | true =>
      rw [if_pos rfl]
      show cn (fun j => hb ((push (lst a b p) (prt a b p)).2 j) h) (lst a b p).1 + (if hb ((push (lst a b p) (prt a b p)).2 (lst a b p).1) h then 1 else 0) = _
      rw [cn_same (g := fun j => hb ((lst a b p).2 j) h) _ (fun j hj => by rw [push_lt hj]), ih, push_at, hb_prt ha hcb M hh (by omega) hl]
      cases hb a h <;> cases dif a b h p <;> cases (hx h p != vx b p) <;> rfl

theorem hb_second (h1 : hb a h = true) : hb b h = !dif a b h 248 := by
  obtain ⟨k1, _, k3⟩ := (hb_iff ha hh).1 h1
  rw [Bool.eq_iff_iff, hb_iff hcb hh, Bool.not_eq_true', dif_iff]
  constructor
  · rintro ⟨h2, _, _⟩ q hq hl
    have hc : cx b q = true := by rw [live_eq, Bool.and_eq_true] at hl; exact hl.1
    have := h2 _ (fld_lt hq) (bt q)
    rw [show tb (b.f1 (fld q)) (bt q) = true from hc, Bool.and_true] at this
    exact this
  · intro h2
    refine ⟨fun i hi k => ?_, M.sb, k3⟩
    have g2 := snd_bit hcb M.sb hi k
    cases hk : tb (b.f1 i) k with
    | false =>
      rw [Bool.and_false]
      cases hv : tb (b.f0 i) k with
      | false => rfl
      | true => have := g2 hv; rw [hk] at this; cases this
    | true =>
      rw [Bool.and_true]
      cases ha1 : tb (a.f1 i) k with
      | true =>
        have e1 := k1 i hi k
        rw [ha1, Bool.and_true] at e1
        rw [e1]; exact M.n i hi k ha1 hk
      | false =>
        obtain ⟨e1, e2, e3⟩ := psn_lt hi (snd_high hcb M.sb hi hk)
        have hl : live a b (psn i k) = true := by unfold live; rw [e2, e3, hk, ha1]; rfl
        have := h2 _ e1 hl
        unfold hx vx at this
        rwa [e2, e3] at this

theorem hb_un : hb (un a b 12) h = (hb a h && hb b h) := by
  rw [Bool.eq_iff_iff, Bool.and_eq_true, hb_iff (uc_un ha 12) hh, hb_iff ha hh, hb_iff hcb hh]
  have key : ∀ i, i < 12 → ∀ k, ((tb (h i) k && tb ((un a b 12).f1 i) k) = tb ((un a b 12).f0 i) k) ↔ ((tb (h i) k && tb (a.f1 i) k) = tb (a.f0 i) k) ∧ ((tb (h i) k && tb (b.f1 i) k) = tb (b.f0 i) k) := fun i hi k => by
    rw [un_v ha hcb hi, un_c ha hcb hi]
    have g1 := snd_bit ha M.sa hi k
    have g2 := snd_bit hcb M.sb hi k
    have g3 := M.n i hi k
    revert g1 g2 g3
    cases tb (h i) k <;> cases tb (a.f0 i) k <;> cases tb (a.f1 i) k <;> cases tb (b.f0 i) k <;> cases tb (b.f1 i) k <;> simp
  constructor
  · rintro ⟨h1, _, h3⟩
    exact ⟨⟨fun i hi k => ((key i hi k).1 (h1 i hi k)).1, M.sa, h3⟩, fun i hi k => ((key i hi k).1 (h1 i hi k)).2, M.sb, h3⟩
  · rintro ⟨⟨h1, _, h3⟩, h2, _, _⟩
    exact ⟨fun i hi k => (key i hi k).2 ⟨h1 i hi k, h2 i hi k⟩, snd_un ha hcb M.sa M.sb, h3⟩

end count

theorem hb_mok {a b : S_api_Cube} (ha : UC a) (hcb : UC b) {h : Nat → Int} (hh : UH h) (h1 : hb a h = true) (h2 : hb b h = true) : mok a b = true := by
  obtain ⟨k1, sa, _⟩ := (hb_iff ha hh).1 h1
  obtain ⟨k2, sb, _⟩ := (hb_iff hcb hh).1 h2
  rw [mok_iff ha hcb]
  refine ⟨sa, sb, fun i hi k g1 g2 => ?_⟩
  rw [← k1 i hi k, ← k2 i hi k, g1, g2]

theorem hb_snd {c : S_api_Cube} (hc : UC c) {h : Nat → Int} (hh : UH h) (h1 : hb c h = true) : snd c = true := ((hb_iff hc hh).1 h1).2.1

/-- So many parts have a header. -/
theorem count_less {a b : S_api_Cube} (ha : UC a) (hcb : UC b) {h : Nat → Int} (hh : UH h) : ∃ m, F_cube_Less 300 a b = some m ∧ PartsOk a b m ∧ cn (fun j => hb (m.2 j) h) m.1 = if hb a h && !hb b h && snd b then 1 else 0 := by
  have hl := cube_less (fu := 300) (by omega) ha hcb
  cases hm : mok a b with
  | true =>
    rw [hm, if_pos rfl] at hl
    refine ⟨_, hl, parts_mok ha hcb hm, ?_⟩
    have M := (mok_iff ha hcb).1 hm
    rw [count_lst ha hcb M hh 248 (Nat.le_refl _), M.sb]
    cases h1 : hb a h with
    | false => generalize dif a b h 248 = d; rfl
    | true => rw [hb_second ha hcb M hh h1]; generalize dif a b h 248 = d; cases d <;> rfl
  | false =>
    rw [hm] at hl
    cases hs : snd a && snd b with
    | true =>
      rw [hs] at hl
      obtain ⟨sa, sb⟩ := Bool.and_eq_true _ _ ▸ hs
      refine ⟨_, hl, parts_one ha hm sa, ?_⟩
      show 0 + (if hb a h then 1 else 0) = _
      rw [sb]
      cases h1 : hb a h with
      | false => rfl
      | true =>
        cases h2 : hb b h with
        | false => rfl
        | true => have := hb_mok ha hcb hh h1 h2; rw [hm] at this; cases this
    | false =>
      rw [hs] at hl
      refine ⟨_, hl, parts_none a b, ?_⟩
      show 0 = _
      cases h1 : hb a h with
      | false => rfl
      | true =>
        rw [hb_snd ha hh h1, Bool.true_and] at hs
        rw [hs, Bool.and_false]; rfl

/-! ### The law -/

theorem sets_J1 {t8 t10 : Bool} {t11 l : Nat × (Nat → S_api_Cube)} {t12 : Int} {t14 t15 : Bool} {t16 : Int} {m0 m1 : S_api_Cube} {m2 : Nat → Int} {m3 m4 : S_api_Cube} {w x : Bool} (h8 : F_cube_Has 300 m0 m2 = some t14) (he : eqc m3 m4 = true) (ht : t8 = t10) (h9 : F_cube_Has 300 m3 m2 = some x) (hx : (bif t8 then x else false) = (bif t14 then t15 else false)) (h10 : F_cube_Within 300 m0 m1 = some w) (h11 : F_ref01_Within 300 m0 m1 = some w) (h12 : F_ref01_Less 300 m0 m1 = some l) (h13 : F_ref01_SameCubes 300 t11 l = some true) (h16 : t12 = t16) : F_law02_CubeSets_J1 300 t8 t10 t11 t12 t14 t15 t16 m0 m1 m2 m3 m4 = some true := by
  subst ht h16
  have he' : (((List.range 12).all fun i => m3.f0 i == m4.f0 i) && (((List.range 12).all fun i => m3.f1 i == m4.f1 i) && true)) = true := he
  unfold F_law02_CubeSets_J1
  simp only [answers300, Option.bind_some, callIf, h8, beq_self_eq_true, cond_true, he', Bool.true_and]
  cases t8 with
  | false =>
    have hx' : (false == (bif t14 then t15 else false)) = true := by rw [← hx]; rfl
    simp only [Option.bind_some, cond_false, hx', h10, h11, h12, h13, beq_self_eq_true, cond_true]
  | true =>
    have hx' : (x == (bif t14 then t15 else false)) = true := by rw [← hx]; exact beq_self_eq_true x
    simp only [h9, Option.bind_some, cond_true, hx', h10, h11, h12, h13, beq_self_eq_true]

theorem sets {a b : S_api_Cube} (ha : UC a) (hcb : UC b) {h : Nat → Int} (hh : UH h) : F_law02_CubeSets 300 a b h = some true := by
  have h13 : 13 ≤ 300 := by omega
  have h49 : 49 ≤ 300 := by omega
  obtain ⟨c, e1, e2⟩ := ref_meet (Nat.le_refl 300) ha hcb
  obtain ⟨m, e3, e4, e5⟩ := count_less ha hcb hh
  obtain ⟨m', l, e6, e7, e8⟩ := less_same ha hcb
  obtain rfl : m = m' := Option.some.inj (e3.symm.trans e6)
  have hx : (bif (mt a b).2 then hb (mt a b).1 h else false) = (bif hb a h then hb b h else false) := by
    rw [mt_ok]
    cases hm : mok a b with
    | true =>
      rw [mt_un hm, hb_un ha hcb ((mok_iff ha hcb).1 hm) hh]
      cases hb a h <;> cases hb b h <;> rfl
    | false =>
      cases h1 : hb a h with
      | false => rfl
      | true =>
        cases h2 : hb b h with
        | false => rfl
        | true => have := hb_mok ha hcb hh h1 h2; rw [hm] at this; cases this
  have key : ∀ t16 : Int, ((cn (fun j => hb (m.2 j) h) m.1 : Nat) : Int) = t16 → F_law02_CubeSets_J1 300 (mt a b).2 (mok a b) m ((cn (fun j => hb (m.2 j) h) m.1 : Nat) : Int) (hb a h) (hb b h) t16 a b h (mt a b).1 c = some true := fun t16 hk =>
    sets_J1 (cube_has h13 ha hh) e2 (mt_ok a b) (cube_has h13 (uc_mt ha) hh) hx (cube_within h13 ha hcb) (ref_within (Nat.le_refl _) ha hcb) e7 e8 hk
  unfold F_law02_CubeSets
  rw [meet_mt h13 ha hcb, Option.bind_some, e1, Option.bind_some, e3, Option.bind_some]
  dsimp only
  rw [count_loop e4 hh]
  show ((F_ref01_Has 300 a h).bind fun r4 => _) = _
  rw [ref_has (Nat.le_refl _) ha hh, Option.bind_some, ref_has (Nat.le_refl _) hcb hh, Option.bind_some, ref_cube h49 hcb]
  cases h1 : hb a h <;> cases h2 : hb b h <;> cases h3 : snd b <;> simp only [cond_true, cond_false, Bool.not_true, Bool.not_false, callIf, Option.bind_some, ifs] <;> rw [h1, h2, h3] at e5 <;> rw [h1, h2] at key <;> exact key _ (by rw [e5]; rfl)

theorem pl_CubeSets (a : S_api_Cube) (wa : S_api_Cube.wf a) (b : S_api_Cube) (wb : S_api_Cube.wf b) (h : Nat → Int) (wh : ∀ i, i < 12 → (Lit.int .u64 (h i)).wf = true) : ∃ fu, F_law02_CubeSets fu a b h = some true := ⟨300, sets (uc_wf wa) (uc_wf wb) fun i hi => u_wf (wh i hi)⟩

end Go.Proofs.Ytfhimlhpjbjfgaa
