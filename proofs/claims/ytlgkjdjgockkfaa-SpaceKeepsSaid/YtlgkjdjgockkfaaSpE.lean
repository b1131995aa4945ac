/- The laws of spaces as plain laws: SpaceIs, SpaceAll, SpaceLaws. -/
import Derived.Test.YtlgkjdjgockkfaaSpD
namespace Go.Proofs.Ytlgkjdjgockkfaa
open Go Go.Pod Go.Proofs Go.Sort Go.Shelf

/-! ### answers -/

def one : Cs := (1, fun i => ([S_api_Cube.mk (fun _ => 0) (fun _ => 0)] : List S_api_Cube).getD i (S_api_Cube.mk (fun _ => 0) (fun _ => 0)))
def two : Cs := (2, fun i => ([S_api_Cube.mk (fun _ => 0) (fun _ => 0), S_api_Cube.mk (fun _ => 0) (fun _ => 0)] : List S_api_Cube).getD i (S_api_Cube.mk (fun _ => 0) (fun _ => 0)))

theorem ls_one : ls one = [zc] := rfl
theorem ls_two : ls two = [zc, zc] := rfl
theorem ucs_one : UCs one := ucs_of fun c hc => by rw [ls_one] at hc; rw [List.mem_singleton.1 hc]; exact uc_zc
theorem ucs_two : UCs two := ucs_of fun c hc => by
  rw [ls_two] at hc
  have : c = zc := by simpa using hc
  rw [this]; exact uc_zc

theorem lean_zcs {A E : List S_api_Cube} (hA : ∀ c ∈ A, c = zc) (hz : zc ∈ A) (L : Lnd A E) : E = [zc] := by
  have hE : ∀ c ∈ E, c = zc := fun c hc => hA c (L.sub c hc).1
  match E, L.srt, hE, L.all zc hz snd_zc (fun d hd _ _ => by rw [hA d hd]; exact eqc_refl _) with
  | [], _, _, h => obtain ⟨e, he, _⟩ := h; cases he
  | [e], _, h2, _ => rw [h2 e (by simp)]
  | e :: e' :: E, h1, h2, _ =>
    have h3 := (List.pairwise_cons.1 h1).1 e' (by simp)
    rw [h2 e (by simp), h2 e' (by simp)] at h3
    have := (oc_zero zc zc).2 (eqc_refl _)
    omega

theorem less_one {fu : Nat} (hf : 20000 ≤ fu) : ∃ r : Cs, F_space_Less fu one one = some (r, 0) ∧ r.1 = 0 := by
  unfold F_space_Less
  have hs : F_space_Sound fu one = some true := by
    rw [space_sound (by omega) ucs_one, ls_one, List.all_cons, snd_zc]; rfl
  rw [hs, Option.bind_some, callIf_nn]
  obtain ⟨l, k1, k2, k3⟩ := lean_ok (fu := fu) (by omega) ucs_one (show 1 < fu by omega) (show 1 ≤ 100000 by decide)
  have kl := lean_zcs (fun c hc => by rw [ls_one] at hc; exact List.mem_singleton.1 hc) (by rw [ls_one]; simp) k2
  have hl1 : l.1 = 1 := by have := ls_len l; rw [kl] at this; exact this.symm
  have ul := lean_uc ucs_one k2
  obtain ⟨m, r, q1, q2, q3, q4, q5, q6, _⟩ := less_round hf one ((one.1 : Nat) : Int) 0 ul (by omega) (fun c hc => (k2.sub c hc).2) uc_zc snd_zc
  have hw : wn zc zc = true := wn_le uc_zc uc_zc (eqc_refl _) snd_zc
  have hv : ls (lsv zc zc) = [] := by
    unfold wn at hw
    obtain ⟨w1, w2⟩ := Bool.and_eq_true_iff.1 hw
    have e : lsv zc zc = lst zc zc 248 := if_pos w1
    rw [e]
    unfold ls
    rw [within_no_parts uc_zc uc_zc w2]; rfl
  have hm : m.1 = 0 := by
    have := ls_len m
    rw [q6, kl, List.flatMap_singleton, hv] at this
    exact this.symm
  have hr : r.1 = 0 := by omega
  refine ⟨r, ?_, hr⟩
  simp only [callIf, Option.bind_some, Bool.not_true, cond_false, ifs]
  rw [k1, Option.bind_some]
  obtain ⟨k, rfl⟩ : ∃ k, fu = k + 2 := ⟨fu - 2, by omega⟩
  have s0 : F_space_Less_L1 (k + 2) one ((one.1 : Nat) : Int) l 0 = some (.next (r, 1)) := by
    unfold F_space_Less_L1
    rw [decide_eq_true (show (0 : Int) < ((one.1 : Nat) : Int) by decide), ifs, chk_t (by decide)]
    have e0 : one.2 (0 : Int).toNat = zc := rfl
    rw [e0, q1]
    simp only [after]
    unfold F_space_lean
    rw [q2, Option.bind_some, decide_eq_false (show ¬ ((r.1 : Nat) : Int) > 64 by omega)]
    rfl
  have s1 : F_space_Less_L1 (k + 2) one ((one.1 : Nat) : Int) r 1 = some (.exit r) := by
    unfold F_space_Less_L1
    rw [decide_eq_false (show ¬ (1 : Int) < ((one.1 : Nat) : Int) by decide)]; rfl
  simp only [iter, s0, s1]
  rfl

theorem answers_ok {fu : Nat} (hf : 20000 ≤ fu) : F_law03_answers fu = some true := by
  obtain ⟨r, h1, h2⟩ := less_one hf
  have e1 : F_space_Within fu one one = some (true, 0) := by
    unfold F_space_Within
    rw [h1, Option.bind_some, h2]; rfl
  have uz : UH fun _ => 0 := fun _ _ => u_zero
  have e2 : F_space_Has fu one (fun _ => 0) = some true := by
    rw [space_has (by omega) ucs_one (show 1 < fu by omega) (show 1 ≤ 100000 by decide) uz, ls_one]
    have : hb zc (fun _ => 0) = true := (own_head uc_zc snd_zc).2
    simp [this]
  obtain ⟨l, k1, k2, k3⟩ := lean_ok (fu := fu) (by omega) ucs_two (show 2 < fu by omega) (show 2 ≤ 100000 by decide)
  have kl := lean_zcs (fun c hc => by rw [ls_two] at hc; simpa using hc) (by rw [ls_two]; simp) k2
  have hl1 : l.1 = 1 := by have := ls_len l; rw [kl] at this; exact this.symm
  unfold F_law03_answers
  show (F_space_Within fu one one).bind _ = _
  rw [e1, Option.bind_some]
  show (F_space_Has fu one (fun _ => 0)).bind _ = _
  rw [e2, Option.bind_some]
  show (F_space_Lean fu two).bind _ = _
  rw [k1, Option.bind_some, hl1]
  rfl

/-! ### SameCubes -/

theorem same_cubes {fu : Nat} {a b : Cs} (hn : a.1 < fu) (hm : a.1 ≤ 100000) (hl : a.1 = b.1) (h : ∀ i, i < a.1 → eqc (a.2 i) (b.2 i) = true) : F_ref01_SameCubes fu a b = some true := by
  unfold F_ref01_SameCubes
  rw [hl, bne_self_eq_false, ifs, show (0 : Int) = (fun i : Nat => (i : Int)) 0 from rfl, iter_run0 (fun i : Nat => (i : Int)) (e := ()) a.1 fu hn]
  · rfl
  · intro i hi
    have : F_ref01_SameCubes_L1 fu a b (i : Int) = ifs (decide ((i : Int) < ((a.1 : Nat) : Int))) (chk (0 ≤ (i : Int) ∧ (i : Int) < ((a.1 : Nat) : Int)) <| chk (0 ≤ (i : Int) ∧ (i : Int) < ((b.1 : Nat) : Int)) <| ifs (!eqc (a.2 (i : Int).toNat) (b.2 (i : Int).toNat)) (some (.ret false)) (some (.next (IntKind.wrap .i64 ((i : Int) + (1 : Int)))))) (some (.exit ())) := rfl
    rw [this, decide_eq_true (show (i : Int) < (a.1 : Int) by omega), ifs, chk_t (by omega), chk_t (by omega), Int.toNat_natCast, h i hi, wrap_succ (by omega)]
    rfl
  · unfold F_ref01_SameCubes_L1
    rw [decide_eq_false (by omega)]; rfl

/-! ### SpaceIs -/

theorem ref_space {fu : Nat} (hf : 300 ≤ fu) {a : Cs} (ha : UCs a) (hn : a.1 < fu) (hm : a.1 ≤ 100000) : F_ref01_Space fu a = some (decide (a.1 ≤ 64) && (ls a).all snd) := by
  unfold F_ref01_Space
  rw [show (0 : Int) = (fun i : Nat => (i : Int)) 0 from rfl, iter_all (fun i : Nat => (i : Int)) (fun i => snd (a.2 i)) false (e := ()) a.1 fu hn]
  · rw [ls_all]
    have e : decide (((a.1 : Nat) : Int) ≤ 64) = decide (a.1 ≤ 64) := by
      by_cases h : a.1 ≤ 64
      · rw [decide_eq_true h, decide_eq_true]; omega
      · rw [decide_eq_false h, decide_eq_false]; omega
    rw [e]
    cases (List.range a.1).all fun i => snd (a.2 i) <;> cases decide (a.1 ≤ 64) <;> rfl
  · intro i hi
    unfold F_ref01_Space_L1
    rw [decide_eq_true (show (i : Int) < (a.1 : Int) by omega), ifs, chk_t (by omega), Int.toNat_natCast, ref_cube (by omega) (ha i hi), Option.bind_some, wrap_succ (by omega)]
    cases snd (a.2 i) <;> rfl
  · unfold F_ref01_Space_L1
    rw [decide_eq_false (by omega)]; rfl

theorem cat0 (a : Cs) (z : Nat → S_api_Cube) : ((0 + a.1, fun i => if i < 0 then z i else a.2 (i - 0)) : Cs) = a := by
  obtain ⟨n, f⟩ := a
  simp

theorem is_L1 {fu : Nat} (hf : 300 ≤ fu) {a : Cs} (ha : UCs a) (hn : a.1 < fu) (hm : a.1 ≤ 100000) (t5 : Cs) {h : Nat → Int} (hh : UH h) :
    iter (fun s => F_law03_SpaceIs_L1 fu a t5 h s.1 s.2) fu (false, (0 : Int)) = some (.inl (has a h)) := by
  rw [show (false, (0 : Int)) = (fun i : Nat => (has (i, a.2) h, (i : Int))) 0 from rfl, iter_run0 (fun i : Nat => (has (i, a.2) h, (i : Int))) (e := has a h) a.1 fu hn]
  · intro i hi
    show F_law03_SpaceIs_L1 fu a t5 h (has (i, a.2) h) (i : Int) = _
    have e : has (i + 1, a.2) h = (has (i, a.2) h || hb (a.2 i) h) := by
      unfold has ls
      rw [List.range_succ, List.map_append, List.any_append]; simp
    unfold F_law03_SpaceIs_L1
    rw [decide_eq_true (show (i : Int) < (a.1 : Int) by omega), ifs, chk_t (fun _ => by omega), Int.toNat_natCast, ref_has hf (ha i hi) hh, wrap_succ (by omega), e]
    cases has (i, a.2) h <;> simp [callIf]
  · show F_law03_SpaceIs_L1 fu a t5 h (has (a.1, a.2) h) (a.1 : Int) = _
    unfold F_law03_SpaceIs_L1
    rw [decide_eq_false (by omega)]; rfl

theorem space_is {fu : Nat} (hf : 20000 ≤ fu) {a : Cs} (ha : UCs a) {h : Nat → Int} (hh : UH h) : F_law03_SpaceIs fu a h = some true := by
  unfold F_law03_SpaceIs
  by_cases hl : a.1 > 70
  · rw [decide_eq_true (show (a.1 : Int) > 70 by omega), ifs, answers_ok hf]; rfl
  · rw [decide_eq_false (show ¬ (a.1 : Int) > 70 by omega), ifs, chk_t (room_ok (by omega) (by omega)), cat0]
    obtain ⟨r, k1, k2, k3⟩ := lean_ok (fu := fu) (by omega) ha (by omega) (by omega)
    obtain ⟨r', k4, k5⟩ := ref_lean (fu := fu) (by omega) ha (by omega) (by omega)
    obtain ⟨k6, k7⟩ := k2.same tot k5
    rw [ls_len, ls_len] at k6
    have ur := lean_uc ha k2
    rw [k1, Option.bind_some, is_L1 (by omega) ha (by omega) (by omega) r hh]
    simp only [after]
    rw [answers_ok hf, Option.bind_some]
    simp only [callIf]
    rw [space_sound (by omega) ha, Option.bind_some, ref_space (by omega) ha (by omega) (by omega), Option.bind_some, beq_self_eq_true]
    simp only [cond_true]
    rw [space_has (by omega) ha (by omega) (by omega) hh, Option.bind_some, show ((ls a).any fun c => hb c h) = has a h from rfl, beq_self_eq_true]
    simp only [cond_true]
    rw [k4, Option.bind_some, same_cubes (by omega) (by omega) k6 fun i hi => k7 i _ _ (ls_get r i hi) (ls_get r' i (by omega)), Option.bind_some]
    simp only [cond_true]
    rw [space_has (by omega) ur (by omega) (by omega) hh, Option.bind_some, show ((ls r).any fun c => hb c h) = has r h from rfl, lean_has ha k2 hh, beq_self_eq_true]

/-! ### SpaceAll, SpaceLaws -/

theorem has_cat (a b : Cs) (x : Nat → Int) : has (a.1 + b.1, fun i => if i < a.1 then a.2 i else b.2 (i - a.1)) x = (has a x || has b x) := by
  unfold has
  rw [ls_cat, List.any_append]

theorem ucs_cat {a b : Cs} (ha : UCs a) (hb : UCs b) : UCs (a.1 + b.1, fun i => if i < a.1 then a.2 i else b.2 (i - a.1)) := ucs_of fun c hc => by
  rw [ls_cat] at hc
  rcases List.mem_append.1 hc with h | h
  · exact ucs_mem ha h
  · exact ucs_mem hb h

theorem cat_eq (a b : Cs) (z : Nat → S_api_Cube) : (((0 + a.1) + b.1, fun i => if i < (0 + a.1) then (fun i => if i < 0 then z i else a.2 (i - 0)) i else b.2 (i - (0 + a.1))) : Cs) = (a.1 + b.1, fun i => if i < a.1 then a.2 i else b.2 (i - a.1)) := by
  simp

/-- Two spaces touch if they have a header in common. -/
theorem touch_iff {a b : Cs} (ha : UCs a) (hcb : UCs b) : ((ls a).any fun x => (ls b).any fun y => mok x y) = true ↔ ∃ x, UH x ∧ has a x = true ∧ has b x = true := by
  rw [List.any_eq_true]
  constructor
  · rintro ⟨c, hc, h⟩
    obtain ⟨d, hd, h⟩ := List.any_eq_true.1 h
    have uc := ucs_mem ha hc
    have ud := ucs_mem hcb hd
    have M := (mok_iff uc ud).1 h
    obtain ⟨q1, q2⟩ := own_head (uc_un uc 12 (b := d)) (snd_un uc ud M.sa M.sb)
    rw [hb_un uc ud M q1, Bool.and_eq_true] at q2
    exact ⟨_, q1, List.any_eq_true.2 ⟨c, hc, q2.1⟩, List.any_eq_true.2 ⟨d, hd, q2.2⟩⟩
  · rintro ⟨x, hx, h1, h2⟩
    obtain ⟨c, hc, h1⟩ := List.any_eq_true.1 h1
    obtain ⟨d, hd, h2⟩ := List.any_eq_true.1 h2
    exact ⟨c, hc, List.any_eq_true.2 ⟨d, hd, hb_mok (ucs_mem ha hc) (ucs_mem hcb hd) hx h1 h2⟩⟩

theorem few_eq (a : Cs) : F_law03_few a = some (decide (a.1 ≤ 8)) := by
  unfold F_law03_few
  by_cases h : a.1 ≤ 8
  · rw [decide_eq_true h, decide_eq_true (show (a.1 : Int) ≤ 8 by omega)]
  · rw [decide_eq_false h, decide_eq_false (show ¬ (a.1 : Int) ≤ 8 by omega)]

theorem less_touch {a b r : Cs} (hb : UCs b) (L : LessOk a b r) : ((ls r).any fun x => (ls b).any fun y => mok x y) = false := by
  rw [Bool.eq_false_iff]
  intro h
  obtain ⟨x, hx, h1, h2⟩ := (touch_iff L.uc hb).1 h
  rw [L.has x hx, h2] at h1
  simp at h1

theorem space_all {fu : Nat} (hf : 20000 ≤ fu) {a : Cs} (ha : UCs a) : F_law03_SpaceAll fu a = some true := by
  unfold F_law03_SpaceAll
  rw [few_eq, Option.bind_some, callIf_nn]
  by_cases hl : a.1 ≤ 8
  · rw [decide_eq_true hl]
    simp only [callIf]
    rw [ref_space (by omega) ha (by omega) (by omega), Option.bind_some]
    cases hs : (decide (a.1 ≤ 64) && (ls a).all snd) with
    | false =>
      show (F_law03_answers fu).bind _ = _
      rw [answers_ok hf]; rfl
    | true =>
      simp only [Bool.not_true, cond_false, ifs]
      show (F_space_Less fu one a).bind _ = _
      obtain ⟨r, e, q1, q2, q3, q4⟩ := less_ok hf ucs_one ha
      rw [q1, Option.bind_some]
      by_cases he : e = 0
      · subst he
        have L := q4 rfl
        rw [show ((0 : Int) != 0) = false from rfl]
        simp only [cond_false]
        rw [wrap_i64 (by omega) (by omega)]
        by_cases hg : ((r.1 : Nat) : Int) + ((a.1 : Nat) : Int) > 64
        · rw [decide_eq_true hg]
          show (F_law03_answers fu).bind _ = _
          rw [answers_ok hf]; rfl
        · rw [decide_eq_false hg]
          simp only
          rw [chk_t (room_ok (by omega) (by omega)), chk_t (room_ok (by omega) (by omega)), cat_eq]
          obtain ⟨w, e, k1, k2⟩ := within_ok hf ucs_one (ucs_cat q2 ha)
          show (F_space_Within fu one _).bind _ = _
          rw [k1, Option.bind_some, answers_ok hf, Option.bind_some]
          have hw : (bif (e != (0 : Int)) then true else w) = true := by
            by_cases he : e = 0
            · have : w = true := (k2 he).2 fun x hx h1 => by
                rw [has_cat, L.has x hx, h1]
                cases has a x <;> rfl
              rw [this]; cases (e != 0) <;> rfl
            · rw [bne_iff_ne.2 he]; rfl
          rw [hw]
          simp only [cond_true]
          rw [space_touch (by omega) q2 ha (by omega) (by omega) (by omega) (by omega), Option.bind_some, less_touch ha L]; rfl
      · rw [bne_iff_ne.2 he]
        show (F_law03_answers fu).bind _ = _
        rw [answers_ok hf]; rfl
  · rw [decide_eq_false hl]
    show (F_law03_answers fu).bind _ = _
    rw [answers_ok hf]; rfl

theorem space_laws {fu : Nat} (hf : 20000 ≤ fu) {a b : Cs} (ha : UCs a) (hb : UCs b) : F_law03_SpaceLaws fu a b = some true := by
  unfold F_law03_SpaceLaws
  rw [few_eq, few_eq, Option.bind_some, callIf_nn, callIf_b, Option.bind_some]
  cases hl : (bif (!decide (a.1 ≤ 8)) then true else !(decide (a.1 ≤ 8) && decide (b.1 ≤ 8))) with
  | true =>
    show (F_law03_answers fu).bind _ = _
    rw [answers_ok hf]; rfl
  | false =>
    rw [cond_or] at hl
    simp only [Bool.not_eq_false', Bool.and_eq_true, decide_eq_true_eq] at hl
    obtain ⟨na, _, nb⟩ := hl
    simp only [ifs]
    obtain ⟨m, e, q1, q2, q3, q4⟩ := meet_ok hf ha hb
    obtain ⟨l, e', p1, p2, p3, p4⟩ := less_ok hf ha hb
    rw [q1, Option.bind_some, p1, Option.bind_some]
    by_cases he : e = 0
    · by_cases he' : e' = 0
      · subst he he'
        have M := q4 rfl
        have L := p4 rfl
        rw [show ((0 : Int) != 0) = false from rfl]
        simp only [cond_false]
        rw [wrap_i64 (by omega) (by omega)]
        by_cases hg : ((m.1 : Nat) : Int) + ((l.1 : Nat) : Int) > 64
        · rw [decide_eq_true hg]
          show (F_law03_answers fu).bind _ = _
          rw [answers_ok hf]; rfl
        · rw [decide_eq_false hg]
          simp only
          rw [chk_t (room_ok (by omega) (by omega)), chk_t (room_ok (by omega) (by omega)), cat_eq]
          have uc := ucs_cat q2 p2
          obtain ⟨w, f, k1, k2⟩ := within_ok hf ha uc
          obtain ⟨w', f', k3, k4⟩ := within_ok hf uc ha
          rw [k1, Option.bind_some, k3, Option.bind_some, answers_ok hf, Option.bind_some]
          simp only [callIf]
          rw [space_touch (by omega) p2 hb (by omega) (by omega) (by omega) (by omega), Option.bind_some, less_touch hb L]
          have hw : (bif (f != (0 : Int)) then true else w) = true := by
            by_cases he : f = 0
            · have : w = true := (k2 he).2 fun x hx h1 => by
                rw [has_cat, L.has x hx, M.has x hx, h1]
                cases has b x <;> rfl
              rw [this]; cases (f != 0) <;> rfl
            · rw [bne_iff_ne.2 he]; rfl
          have hw' : (bif (f' != (0 : Int)) then true else w') = true := by
            by_cases he : f' = 0
            · have : w' = true := (k4 he).2 fun x hx h1 => by
                rw [has_cat, L.has x hx, M.has x hx] at h1
                revert h1
                cases has a x <;> simp
              rw [this]; cases (f' != 0) <;> rfl
            · rw [bne_iff_ne.2 he]; rfl
          simp only [Bool.not_false, cond_true, hw, hw']
          rw [space_touch (by omega) ha hb (by omega) (by omega) (by omega) (by omega), Option.bind_some]
          have ht : decide (((m.1 : Nat) : Int) > 0) = ((ls a).any fun x => (ls b).any fun y => mok x y) := by
            rw [Bool.eq_iff_iff, decide_eq_true_eq, touch_iff ha hb]
            have h0 := empty_iff M.uc M.snd
            constructor
            · intro h
              refine Classical.byContradiction fun hn => ?_
              have : m.1 = 0 := h0.2 fun x hx => by
                rw [M.has x hx]
                cases h1 : has a x with
                | false => rfl
                | true =>
                  cases h2 : has b x with
                  | false => rfl
                  | true => exact absurd ⟨x, hx, h1, h2⟩ hn
              omega
            · rintro ⟨x, hx, h1, h2⟩
              rcases Nat.eq_zero_or_pos m.1 with h | h
              · have := h0.1 h x hx
                rw [M.has x hx, h1, h2] at this; cases this
              · omega
          rw [ht, beq_self_eq_true]
      · rw [bne_iff_ne.2 he']
        have : (bif (bif (e != (0 : Int)) then true else true) then true else (decide ((IntKind.wrap .i64 (((m.1 : Nat) : Int) + ((l.1 : Nat) : Int))) > (64 : Int)))) = true := by cases (e != 0) <;> rfl
        rw [this]
        show (F_law03_answers fu).bind _ = _
        rw [answers_ok hf]; rfl
    · rw [bne_iff_ne.2 he]
      show (F_law03_answers fu).bind _ = _
      rw [answers_ok hf]; rfl

/-! ### The laws -/

theorem ucs_wf {a : Cs} (w : a.1 ≤ maxLen ∧ ∀ i, i < a.1 → S_api_Cube.wf (a.2 i)) : UCs a := fun i hi => uc_wf (w.2 i hi)

theorem pl_SpaceIs (x0 : Cs) (w0 : x0.1 ≤ maxLen ∧ ∀ i, i < x0.1 → S_api_Cube.wf (x0.2 i)) (x1 : Nat → Int) (w1 : ∀ i, i < 12 → (Lit.int .u64 (x1 i)).wf = true) : ∃ fu, F_law03_SpaceIs fu x0 x1 = some true :=
  ⟨20000, space_is (Nat.le_refl _) (ucs_wf w0) fun i hi => u_wf (w1 i hi)⟩
theorem pl_SpaceAll (x0 : Cs) (w0 : x0.1 ≤ maxLen ∧ ∀ i, i < x0.1 → S_api_Cube.wf (x0.2 i)) : ∃ fu, F_law03_SpaceAll fu x0 = some true := ⟨20000, space_all (Nat.le_refl _) (ucs_wf w0)⟩
theorem pl_SpaceLaws (x0 : Cs) (w0 : x0.1 ≤ maxLen ∧ ∀ i, i < x0.1 → S_api_Cube.wf (x0.2 i)) (x1 : Cs) (w1 : x1.1 ≤ maxLen ∧ ∀ i, i < x1.1 → S_api_Cube.wf (x1.2 i)) : ∃ fu, F_law03_SpaceLaws fu x0 x1 = some true := ⟨20000, space_laws (Nat.le_refl _) (ucs_wf w0) (ucs_wf w1)⟩
end Go.Proofs.Ytlgkjdjgockkfaa
