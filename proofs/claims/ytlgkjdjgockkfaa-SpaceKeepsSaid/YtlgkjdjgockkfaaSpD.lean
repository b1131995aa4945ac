/- Spaces as plain functions: Sound, Has, Touch, Less, Meet, Within. -/
import Derived.Test.YtlgkjdjgockkfaaSpC
namespace Go.Proofs.Ytlgkjdjgockkfaa
open Go Go.Pod Go.Proofs Go.Sort Go.Shelf

theorem contains_gen {E : Type} {L : Int → Option (Lo Int E Int)} {e : E} {n fu : Nat} (p : Nat → Bool) (hn : n < fu)
    (hL : ∀ i : Nat, i < n → L (i : Int) = if p i then some (.ret (i : Int)) else some (.next ((i + 1 : Nat) : Int))) (hx : L (n : Int) = some (.exit e)) :
    ((after (iter L fu (0 : Int)) fun _ => some (-1 : Int)).bind fun r0 => some (decide (r0 ≥ (0 : Int)))) = some ((List.range n).any p) := by
  have := iter_scan (f := L) (fun i : Nat => (i : Int)) (fun i => !p i) (fun i => (i : Int)) (e := e) n 0 fu hn (fun i _ h2 => by
    rw [hL i (by omega)]
    cases p i <;> rfl) (by rw [Nat.zero_add]; exact hx)
  rw [show (0 : Int) = (fun i : Nat => (i : Int)) 0 from rfl, this]
  cases h : stopAt (fun i => !p i) n 0 with
  | none =>
    have h2 := (stopAt_all n 0).1 h
    simp only [after, Option.bind_some, Option.some.injEq]
    rw [decide_eq_false (by decide)]
    symm
    rw [List.any_eq_false]
    intro i hi
    have := h2 i (by simpa using hi)
    simpa using this
  | some m =>
    obtain ⟨_, h2, h3, _⟩ := stopAt_some h
    simp only [after, Option.bind_some, Option.some.injEq]
    rw [decide_eq_true (by omega)]
    symm
    rw [List.any_eq_true]
    exact ⟨m, by simpa using h2, by simpa using h3⟩

theorem ls_any {α : Type} (a : Nat × (Nat → α)) (p : α → Bool) : (ls a).any p = (List.range a.1).any fun i => p (a.2 i) := by unfold ls; rw [List.any_map]; rfl
theorem ls_all {α : Type} (a : Nat × (Nat → α)) (p : α → Bool) : (ls a).all p = (List.range a.1).all fun i => p (a.2 i) := by unfold ls; rw [List.all_map]; rfl

theorem ucs_mem {a : Cs} (ha : UCs a) {c : S_api_Cube} (h : c ∈ ls a) : UC c := by
  obtain ⟨i, hi, rfl⟩ := ls_mem.1 h
  exact ha i hi
theorem ucs_of {a : Cs} (h : ∀ c ∈ ls a, UC c) : UCs a := fun i hi => h _ (ls_mem.2 ⟨i, hi, rfl⟩)

/-! ### Sound, Has, Touch -/

theorem space_sound {fu : Nat} (hf : 300 ≤ fu) {a : Cs} (ha : UCs a) : F_space_Sound fu a = some (decide (a.1 ≤ 64) && (ls a).all snd) := by
  unfold F_space_Sound
  by_cases h : a.1 ≤ 64
  · have hc : F_slices_ContainsFunc_api_Cube_space_Sound_1 fu a = some ((List.range a.1).any fun i => !snd (a.2 i)) := by
      unfold F_slices_ContainsFunc_api_Cube_space_Sound_1 F_slices_IndexFunc_api_Cube_space_Sound_1
      refine contains_gen (e := ()) _ (by omega) (fun i hi => ?_) ?_
      · unfold F_slices_IndexFunc_api_Cube_space_Sound_1_L1 F_space_Sound_1
        rw [decide_eq_true (show (i : Int) < (a.1 : Int) by omega), ifs, chk_t (by omega), Int.toNat_natCast, cube_sound (by omega) (ha i hi), Option.bind_some, Option.bind_some, wrap_succ (by omega)]
        cases snd (a.2 i) <;> rfl
      · unfold F_slices_IndexFunc_api_Cube_space_Sound_1_L1
        rw [decide_eq_false (by omega)]; rfl
    rw [decide_eq_true (show (a.1 : Int) ≤ 64 by omega), callIf, hc, Option.bind_some, decide_eq_true h, ls_all]
    simp only [cond_true, Bool.true_and, Option.some.injEq]
    rw [Bool.eq_iff_iff, Bool.not_eq_true', List.any_eq_false, List.all_eq_true]
    simp
  · rw [decide_eq_false (show ¬ (a.1 : Int) ≤ 64 by omega), decide_eq_false h]; rfl

theorem space_has {fu : Nat} (hf : 300 ≤ fu) {a : Cs} (ha : UCs a) (hn : a.1 < fu) (hm : a.1 ≤ 100000) {h : Nat → Int} (hh : UH h) : F_space_Has fu a h = some ((ls a).any fun c => hb c h) := by
  unfold F_space_Has
  have hc : F_slices_ContainsFunc_api_Cube_space_Has_1 fu a h = some ((List.range a.1).any fun i => hb (a.2 i) h) := by
    unfold F_slices_ContainsFunc_api_Cube_space_Has_1 F_slices_IndexFunc_api_Cube_space_Has_1
    refine contains_gen (e := ()) _ hn (fun i hi => ?_) ?_
    · unfold F_slices_IndexFunc_api_Cube_space_Has_1_L1 F_space_Has_1
      rw [decide_eq_true (show (i : Int) < (a.1 : Int) by omega), ifs, chk_t (by omega), Int.toNat_natCast, cube_has (by omega) (ha i hi) hh, Option.bind_some, Option.bind_some, wrap_succ (by omega)]
      cases hb (a.2 i) h <;> rfl
    · unfold F_slices_IndexFunc_api_Cube_space_Has_1_L1
      rw [decide_eq_false (by omega)]; rfl
  rw [hc, Option.bind_some, ls_any]

theorem touch1 {fu : Nat} (hf : 300 ≤ fu) {b : Cs} (hb : UCs b) (hn : b.1 < fu) (hm : b.1 ≤ 100000) {x : S_api_Cube} (hx : UC x) : F_slices_ContainsFunc_api_Cube_space_Touch_1 fu b x = some ((ls b).any fun y => mok x y) := by
  unfold F_slices_ContainsFunc_api_Cube_space_Touch_1 F_slices_IndexFunc_api_Cube_space_Touch_1
  rw [ls_any]
  refine contains_gen (e := ()) _ hn (fun i hi => ?_) ?_
  · unfold F_slices_IndexFunc_api_Cube_space_Touch_1_L1 F_space_Touch_1
    rw [decide_eq_true (show (i : Int) < (b.1 : Int) by omega), ifs, chk_t (by omega), Int.toNat_natCast, meet_mt (by omega) hx (hb i hi), Option.bind_some, Option.bind_some, wrap_succ (by omega), mt_ok]
    cases mok x (b.2 i) <;> rfl
  · unfold F_slices_IndexFunc_api_Cube_space_Touch_1_L1
    rw [decide_eq_false (by omega)]; rfl

theorem space_touch {fu : Nat} (hf : 300 ≤ fu) {a b : Cs} (ha : UCs a) (hb : UCs b) (hna : a.1 < fu) (hma : a.1 ≤ 100000) (hnb : b.1 < fu) (hmb : b.1 ≤ 100000) : F_space_Touch fu a b = some ((ls a).any fun x => (ls b).any fun y => mok x y) := by
  unfold F_space_Touch
  rw [show (0 : Int) = (fun i : Nat => (i : Int)) 0 from rfl, iter_all (fun i : Nat => (i : Int)) (fun i => !(ls b).any fun y => mok (a.2 i) y) true (e := ()) a.1 fu hna]
  · rw [ls_any, ← List.not_any_eq_all_not]
    cases (List.range a.1).any fun i => (ls b).any fun y => mok (a.2 i) y <;> rfl
  · intro i hi
    unfold F_space_Touch_L1
    rw [decide_eq_true (show (i : Int) < (a.1 : Int) by omega), ifs, chk_t (by omega), Int.toNat_natCast, touch1 hf hb hnb hmb (ha i hi), Option.bind_some, wrap_succ (by omega)]
    cases (ls b).any fun y => mok (a.2 i) y <;> rfl
  · unfold F_space_Touch_L1
    rw [decide_eq_false (by omega)]; rfl

/-! ### Headers of spaces -/

def has (a : Cs) (h : Nat → Int) : Bool := (ls a).any fun c => hb c h

/-- A sound cube has a header. -/
theorem own_head {c : S_api_Cube} (hc : UC c) (sc : snd c = true) : UH c.f0 ∧ hb c c.f0 = true := by
  have hu : UH c.f0 := fun i hi => hc.v i hi
  refine ⟨hu, (hb_iff hc hu).2 ⟨fun i hi k => ?_, sc, sndH_iff.2 fun i hi => ?_⟩⟩
  · have := snd_bit hc sc hi k
    revert this
    cases tb (c.f0 i) k <;> cases tb (c.f1 i) k <;> simp
  · rw [lt_pow (hc.v i hi)]
    intro k hk
    cases h : tb (c.f0 i) k with
    | false => rfl
    | true => have := snd_high hc sc hi (snd_bit hc sc hi k h); omega

theorem hb_eqc {a b : S_api_Cube} (ha : UC a) (hcb : UC b) (h : eqc a b = true) {x : Nat → Int} (hx : UH x) : hb a x = hb b x := by
  have h' := eqc_iff.1 h
  rw [Bool.eq_iff_iff, hb_iff ha hx, hb_iff hcb hx, snd_eqc ha hcb h]
  constructor
  · rintro ⟨h1, h2⟩
    exact ⟨fun i hi k => by rw [← (h' i hi).1, ← (h' i hi).2]; exact h1 i hi k, h2⟩
  · rintro ⟨h1, h2⟩
    exact ⟨fun i hi k => by rw [(h' i hi).1, (h' i hi).2]; exact h1 i hi k, h2⟩

theorem hb_wn {a b : S_api_Cube} (ha : UC a) (hcb : UC b) (h : wn a b = true) {x : Nat → Int} (hx : UH x) (h1 : hb a x = true) : hb b x = true := by
  unfold wn at h
  obtain ⟨h2, h3⟩ := Bool.and_eq_true_iff.1 h
  have M := (mok_iff ha hcb).1 h2
  have k := hb_un ha hcb M hx
  rw [hb_eqc (uc_un ha 12) ha h3 hx, h1] at k
  simpa using k.symm

theorem lean_has {a r : Cs} (ha : UCs a) (L : Lnd (ls a) (ls r)) {x : Nat → Int} (hx : UH x) : has r x = has a x := by
  unfold has
  rw [Bool.eq_iff_iff, List.any_eq_true, List.any_eq_true]
  constructor
  · rintro ⟨c, hc, h⟩
    exact ⟨c, (L.sub c hc).1, h⟩
  · rintro ⟨c, hc, h⟩
    have uc := ucs_mem ha hc
    obtain ⟨e, he, hw⟩ := L.above tot cov (fun c hc => ucs_mem ha hc) hc (hb_snd uc hx h)
    exact ⟨e, he, hb_wn uc (ucs_mem ha (L.sub e he).1) hw hx h⟩

theorem lean_uc {a r : Cs} (ha : UCs a) (L : Lnd (ls a) (ls r)) : UCs r := ucs_of fun c hc => ucs_mem ha (L.sub c hc).1

/-! ### Less -/

def lsv (a b : S_api_Cube) : Cs := if mok a b then lst a b 248 else if snd a && snd b then (1, fun i => ([a] : List S_api_Cube).getD i zc) else (0, fun _ => zc)

theorem cn_any (f : Nat → Bool) : ∀ n, (List.range n).any f = true ↔ 0 < cn f n
  | 0 => by simp [cn]
  | n + 1 => by
    have e : cn f (n + 1) = cn f n + (if f n then 1 else 0) := rfl
    rw [List.range_succ, List.any_append, Bool.or_eq_true, cn_any f n, e]
    by_cases h : f n = true
    · simp [h]
    · simp [h]

structure Lsv (a b : S_api_Cube) : Prop where
  le : (lsv a b).1 ≤ 248
  uc : UCs (lsv a b)
  snd : ∀ c ∈ ls (lsv a b), snd c = true
  has : ∀ x, UH x → has (lsv a b) x = (hb a x && !hb b x)

theorem lsv_ok {a b : S_api_Cube} (ha : UC a) (hcb : UC b) (sa : snd a = true) (sb : snd b = true) : Lsv a b := by
  cases hm : mok a b with
  | true =>
    have M := (mok_iff ha hcb).1 hm
    have e : lsv a b = lst a b 248 := by unfold lsv; rw [hm]; rfl
    have Pk := parts_mok ha hcb hm
    refine ⟨by rw [e]; exact Pk.le, by rw [e]; exact Pk.uc, fun c hc => ?_, fun x hx => ?_⟩
    · rw [e] at hc
      obtain ⟨i, hi, rfl⟩ := ls_mem.1 hc
      exact Pk.snd i hi
    · rw [e]
      unfold has
      rw [Bool.eq_iff_iff, ls_any, cn_any, count_lst ha hcb M hx 248 (Nat.le_refl _)]
      cases h1 : hb a x with
      | false => simp
      | true =>
        rw [hb_second ha hcb M hx h1]
        cases dif a b x 248 <;> simp
  | false =>
    have e : lsv a b = (1, fun i => ([a] : List S_api_Cube).getD i zc) := by unfold lsv; rw [hm, sa, sb]; rfl
    have el : ls (lsv a b) = [a] := by rw [e]; rfl
    refine ⟨by rw [e]; exact (show 1 ≤ 248 by decide), ucs_of fun c hc => ?_, fun c hc => ?_, fun x hx => ?_⟩
    · rw [el] at hc; rw [List.mem_singleton.1 hc]; exact ha
    · rw [el] at hc; rw [List.mem_singleton.1 hc]; exact sa
    · unfold has
      rw [el, List.any_cons, List.any_nil, Bool.or_false]
      cases h1 : hb a x with
      | false => rfl
      | true =>
        cases h2 : hb b x with
        | false => rfl
        | true => rw [hb_mok ha hcb hx h1 h2] at hm; cases hm

theorem sless_L2 {fu : Nat} (hf : 20000 ≤ fu) (t23 : Cs) (t24 t25 : Int) {l : Cs} (hl : UCs l) (hn : l.1 ≤ 64) (sl : ∀ c ∈ ls l, snd c = true) {y : S_api_Cube} (hy : UC y) (sy : snd y = true) :
    ∃ m, iter (fun s => F_space_Less_L2 fu t23 t24 t25 l ((l.1 : Nat) : Int) y s.1 s.2) fu ((0 : Int), (0, (fun _ => (S_api_Cube.mk (fun _ => 0) (fun _ => 0))))) = some (.inl m) ∧ ls m = (ls l).flatMap (fun x => ls (lsv x y)) ∧ m.1 ≤ 248 * l.1 := by
  obtain ⟨e, h5, m, rfl, h6, h7⟩ := iter_inv (f := fun s : Int × Cs => F_space_Less_L2 fu t23 t24 t25 l ((l.1 : Nat) : Int) y s.1 s.2)
    (fun j s => s.1 = (j : Int) ∧ ls s.2 = (ls (j, l.2)).flatMap (fun x => ls (lsv x y)) ∧ s.2.1 ≤ 248 * j)
    (fun e => ∃ m, e = .inl m ∧ ls m = (ls l).flatMap (fun x => ls (lsv x y)) ∧ m.1 ≤ 248 * l.1) l.1
    (fun j s hj ⟨e1, e2, e3⟩ => .inl (by
      obtain ⟨s1, m⟩ := s
      simp only at e1 e2 e3
      subst e1
      simp only [F_space_Less_L2]
      have uj := hl j hj
      have P := lsv_ok uj hy (sl _ (ls_mem.2 ⟨j, hj, rfl⟩)) sy
      rw [decide_eq_true (show (j : Int) < (l.1 : Int) by omega), ifs, chk_t (by omega), Int.toNat_natCast, cube_less (by omega) uj hy, wrap_succ (i := j) (by omega)]
      show ∃ s', ((some (lsv (l.2 j) y)).bind fun r3 => chk (RoomOk (m.1 + r3.1) 192) <| some (Lo.next (((j + 1 : Nat) : Int), ((m.1 + r3.1), (fun i => if i < m.1 then m.2 i else r3.2 (i - m.1)))))) = some (Lo.next s') ∧ _
      have := P.le
      rw [Option.bind_some, chk_t (room_ok (by omega) (by omega))]
      refine ⟨_, rfl, rfl, ?_, by show m.1 + (lsv (l.2 j) y).1 ≤ 248 * (j + 1); omega⟩
      show ls (m.1 + (lsv (l.2 j) y).1, fun i => if i < m.1 then m.2 i else (lsv (l.2 j) y).2 (i - m.1)) = _
      rw [ls_cat, e2]
      have : ls (j + 1, l.2) = ls (j, l.2) ++ [l.2 j] := by unfold ls; rw [List.range_succ, List.map_append]; rfl
      rw [this, List.flatMap_append, List.flatMap_singleton]))
    (fun s ⟨e1, e2, e3⟩ => by
      obtain ⟨s1, m⟩ := s
      simp only at e1 e2 e3
      subst e1
      refine ⟨m, ?_, m, rfl, e2, e3⟩
      simp only [F_space_Less_L2]
      rw [decide_eq_false (by omega)]; rfl)
    l.1 0 fu ((0 : Int), (0, (fun _ => (S_api_Cube.mk (fun _ => 0) (fun _ => 0))))) (by omega) (by omega) ⟨rfl, rfl, Nat.le_refl _⟩
  exact ⟨m, h5, h6, h7⟩

/-- What is left of a list without one cube. -/
theorem less_rest {fu : Nat} (hf : 20000 ≤ fu) {l : Cs} (hl : UCs l) (hn : l.1 ≤ 64) (sl : ∀ c ∈ ls l, snd c = true) {y : S_api_Cube} (hy : UC y) (sy : snd y = true) {m : Cs} (h2 : ls m = (ls l).flatMap (fun x => ls (lsv x y))) (h3 : m.1 ≤ 248 * l.1) :
    ∃ r, F_space_Lean fu m = some r ∧ UCs r ∧ (∀ c ∈ ls r, snd c = true) ∧ r.1 ≤ m.1 ∧ ∀ x, UH x → has r x = (has l x && !hb y x) := by
  have P : ∀ c ∈ ls l, Lsv c y := fun c hc => lsv_ok (ucs_mem hl hc) hy (sl c hc) sy
  have um : UCs m := ucs_of fun c hc => by
    rw [h2, List.mem_flatMap] at hc
    obtain ⟨x, hx, hc⟩ := hc
    exact ucs_mem (P x hx).uc hc
  obtain ⟨r, h4, L, h5⟩ := lean_ok (fu := fu) (by omega) um (by omega) (by omega)
  refine ⟨r, h4, lean_uc um L, fun c hc => (L.sub c hc).2, h5, fun x hx => ?_⟩
  rw [lean_has um L hx]
  unfold has
  rw [h2, List.any_flatMap]
  rw [Bool.eq_iff_iff, List.any_eq_true, Bool.and_eq_true, List.any_eq_true]
  have key : ∀ c ∈ ls l, ((ls (lsv c y)).any fun z => hb z x) = (hb c x && !hb y x) := fun c hc => (P c hc).has x hx
  constructor
  · rintro ⟨c, hc, h⟩
    rw [key c hc, Bool.and_eq_true] at h
    exact ⟨⟨c, hc, h.1⟩, h.2⟩
  · rintro ⟨⟨c, hc, h⟩, h'⟩
    exact ⟨c, hc, by rw [key c hc, h, h']; rfl⟩

/-- One round of Less. -/
theorem less_round {fu : Nat} (hf : 20000 ≤ fu) (t23 : Cs) (t24 t25 : Int) {l : Cs} (hl : UCs l) (hn : l.1 ≤ 64) (sl : ∀ c ∈ ls l, snd c = true) {y : S_api_Cube} (hy : UC y) (sy : snd y = true) :
    ∃ m r, iter (fun s => F_space_Less_L2 fu t23 t24 t25 l ((l.1 : Nat) : Int) y s.1 s.2) fu ((0 : Int), (0, (fun _ => (S_api_Cube.mk (fun _ => 0) (fun _ => 0))))) = some (.inl m) ∧ F_space_Lean fu m = some r ∧ UCs r ∧ (∀ c ∈ ls r, snd c = true) ∧ r.1 ≤ m.1 ∧
      ls m = (ls l).flatMap (fun x => ls (lsv x y)) ∧ ∀ x, UH x → has r x = (has l x && !hb y x) := by
  obtain ⟨m, h1, h2, h3⟩ := sless_L2 hf t23 t24 t25 hl hn sl hy sy
  obtain ⟨r, k1, k2, k3, k4, k5⟩ := less_rest hf hl hn sl hy sy h2 h3
  exact ⟨m, r, h1, k1, k2, k3, k4, h2, k5⟩

theorem cond_or (p q : Bool) : (bif (!p) then true else (!q)) = !(p && q) := by cases p <;> cases q <;> rfl
theorem callIf_nn (p : Bool) (x : Option Bool) : callIf (!(!p)) x false = callIf p x false := by rw [Bool.not_not]

structure LessOk (a b r : Cs) : Prop where
  uc : UCs r
  snd : ∀ c ∈ ls r, snd c = true
  len : r.1 ≤ 64
  has : ∀ x, UH x → has r x = (has a x && !has b x)

theorem less_ok {fu : Nat} (hf : 20000 ≤ fu) {a b : Cs} (ha : UCs a) (hb : UCs b) : ∃ r e, F_space_Less fu a b = some (r, e) ∧ UCs r ∧ r.1 ≤ 64 ∧ (e = 0 → LessOk a b r) := by
  unfold F_space_Less
  rw [space_sound (by omega) ha, Option.bind_some, callIf_nn, space_sound (by omega) hb, callIf_b, Option.bind_some, cond_or]
  have hz : UCs ((0, fun _ => S_api_Cube.mk (fun _ => 0) (fun _ => 0)) : Cs) := fun i hi => absurd hi (Nat.not_lt_zero i)
  by_cases hs : ((decide (a.1 ≤ 64) && (ls a).all snd) && (decide (b.1 ≤ 64) && (ls b).all snd)) = true
  · simp only [Bool.and_eq_true, decide_eq_true_eq] at hs
    obtain ⟨⟨na, sa⟩, nb, sb⟩ := hs
    rw [sa, sb, decide_eq_true na, decide_eq_true nb]
    simp only [Bool.and_self, Bool.not_true, ifs]
    obtain ⟨r2, k1, k2, k3⟩ := lean_ok (fu := fu) (by omega) ha (by omega) (by omega)
    rw [k1, Option.bind_some]
    obtain ⟨e, h5, h6⟩ := iter_inv (f := fun s : Cs × Int => F_space_Less_L1 fu b ((b.1 : Nat) : Int) s.1 s.2)
      (fun j s => s.2 = (j : Int) ∧ UCs s.1 ∧ (∀ c ∈ ls s.1, snd c = true) ∧ s.1.1 ≤ 64 ∧ ∀ x, UH x → has s.1 x = (has a x && !has (j, b.2) x))
      (fun e => match e with | .inl r => LessOk a b r | .inr r => r.2 ≠ 0 ∧ UCs r.1 ∧ r.1.1 ≤ 64) b.1
      (fun j s hj ⟨e1, e2, e3, e4, e5⟩ => by
        obtain ⟨l, s2⟩ := s
        simp only at e1 e2 e3 e4 e5
        subst e1
        simp only [F_space_Less_L1]
        have uy := hb j hj
        have sy : snd (b.2 j) = true := List.all_eq_true.1 sb _ (ls_mem.2 ⟨j, hj, rfl⟩)
        obtain ⟨m, r, q1, q2, q3, q4, _, _, q5⟩ := less_round hf b ((b.1 : Nat) : Int) ((j : Nat) : Int) e2 e4 e3 uy sy
        rw [decide_eq_true (show (j : Int) < (b.1 : Int) by omega), ifs, chk_t (by omega), Int.toNat_natCast, q1, wrap_succ (i := j) (by omega)]
        simp only [after]
        unfold F_space_lean
        rw [q2, Option.bind_some]
        by_cases hr : r.1 > 64
        · rw [decide_eq_true (show (r.1 : Int) > 64 by omega)]
          exact .inr ⟨_, rfl, by decide, hz, show 0 ≤ 64 by decide⟩
        · rw [decide_eq_false (show ¬ (r.1 : Int) > 64 by omega)]
          refine .inl ⟨_, rfl, rfl, q3, q4, show r.1 ≤ 64 by omega, fun x hx => ?_⟩
          have : has (j + 1, b.2) x = (has (j, b.2) x || Go.Proofs.Ytlgkjdjgockkfaa.hb (b.2 j) x) := by
            unfold has ls
            rw [List.range_succ, List.map_append, List.any_append]; simp
          rw [q5 x hx, e5 x hx, this]
          cases has a x <;> cases has (j, b.2) x <;> cases Go.Proofs.Ytlgkjdjgockkfaa.hb (b.2 j) x <;> rfl)
      (fun s ⟨e1, e2, e3, e4, e5⟩ => by
        obtain ⟨l, s2⟩ := s
        simp only at e1 e2 e3 e4 e5
        subst e1
        refine ⟨l, ?_, ⟨e2, e3, e4, e5⟩⟩
        simp only [F_space_Less_L1]
        rw [decide_eq_false (by omega)]; rfl)
      b.1 0 fu (r2, (0 : Int)) (by omega) (by omega) ⟨rfl, lean_uc ha k2, fun c hc => (k2.sub c hc).2, show r2.1 ≤ 64 by omega, fun x hx => by
        rw [lean_has ha k2 hx, show has (0, b.2) x = false from rfl]; simp⟩
    rw [h5]
    cases e with
    | inl r => exact ⟨r, 0, rfl, h6.uc, h6.len, fun _ => h6⟩
    | inr r => exact ⟨r.1, r.2, rfl, h6.2.1, h6.2.2, fun e => absurd e h6.1⟩
  · rw [Bool.eq_false_iff.2 hs, Bool.and_false]
    exact ⟨_, _, rfl, hz, show 0 ≤ 64 by decide, fun e => absurd e (by decide)⟩

theorem empty_iff {r : Cs} (hr : UCs r) (sr : ∀ c ∈ ls r, snd c = true) : r.1 = 0 ↔ ∀ x, UH x → has r x = false := by
  constructor
  · intro h x _
    unfold has ls
    rw [h]; rfl
  · intro h
    rcases Nat.eq_zero_or_pos r.1 with e | e
    · exact e
    · have hm : r.2 0 ∈ ls r := ls_mem.2 ⟨0, e, rfl⟩
      obtain ⟨q1, q2⟩ := own_head (ucs_mem hr hm) (sr _ hm)
      have := h _ q1
      unfold has at this
      rw [List.any_eq_false] at this
      exact absurd q2 (this _ hm)

theorem within_ok {fu : Nat} (hf : 20000 ≤ fu) {a b : Cs} (ha : UCs a) (hb : UCs b) : ∃ w e, F_space_Within fu a b = some (w, e) ∧ (e = 0 → (w = true ↔ ∀ x, UH x → has a x = true → has b x = true)) := by
  unfold F_space_Within
  obtain ⟨r, e, h1, _, _, h2⟩ := less_ok hf ha hb
  rw [h1, Option.bind_some]
  refine ⟨_, _, rfl, fun he => ?_⟩
  have L := h2 he
  simp only at he
  subst he
  have e1 : (((r.1 : Nat) : Int) == (0 : Int)) = true ↔ r.1 = 0 := by rw [beq_iff_eq]; omega
  show (((r.1 : Nat) : Int) == (0 : Int)) = true ↔ _
  rw [e1, empty_iff L.uc L.snd]
  constructor
  · intro h x hx h3
    have := h x hx
    rw [L.has x hx, h3] at this
    simpa using this
  · intro h x hx
    rw [L.has x hx]
    cases h3 : has a x with
    | false => rfl
    | true => rw [h x hx h3]; rfl

/-! ### Meet -/

def mtv (x y : S_api_Cube) : List S_api_Cube := if mok x y then [un x y 12] else []

theorem meet_L2 {fu : Nat} (hf : 20000 ≤ fu) (t1 t21 : Cs) (t22 t23 : Int) {b : Cs} (hb : UCs b) (hn : b.1 ≤ 64) {x : S_api_Cube} (hx : UC x) {m0 : Cs} (hm : m0.1 ≤ 10000) :
    ∃ m, iter (fun s => F_space_Meet_L2 fu t1 t21 t22 t23 b ((b.1 : Nat) : Int) x s.1 s.2) fu ((0 : Int), m0) = some (.inl m) ∧ ls m = ls m0 ++ (ls b).flatMap (fun y => mtv x y) ∧ m.1 ≤ m0.1 + b.1 := by
  obtain ⟨e, h5, m, rfl, h6, h7⟩ := iter_inv (f := fun s : Int × Cs => F_space_Meet_L2 fu t1 t21 t22 t23 b ((b.1 : Nat) : Int) x s.1 s.2)
    (fun j s => s.1 = (j : Int) ∧ ls s.2 = ls m0 ++ (ls (j, b.2)).flatMap (fun y => mtv x y) ∧ s.2.1 ≤ m0.1 + j)
    (fun e => ∃ m, e = .inl m ∧ ls m = ls m0 ++ (ls b).flatMap (fun y => mtv x y) ∧ m.1 ≤ m0.1 + b.1) b.1
    (fun j s hj ⟨e1, e2, e3⟩ => .inl (by
      obtain ⟨s1, m⟩ := s
      simp only at e1 e2 e3
      subst e1
      simp only [F_space_Meet_L2]
      have this : ls (j + 1, b.2) = ls (j, b.2) ++ [b.2 j] := by unfold ls; rw [List.range_succ, List.map_append]; rfl
      rw [decide_eq_true (show (j : Int) < (b.1 : Int) by omega), ifs, chk_t (by omega), Int.toNat_natCast, meet_mt (by omega) hx (hb j hj), Option.bind_some, mt_ok, wrap_succ (i := j) (by omega)]
      cases hk : mok x (b.2 j) with
      | true =>
        simp only [ifs]
        rw [chk_t (room_ok (by omega) (by omega)), mt_un hk]
        refine ⟨_, rfl, rfl, ?_, show m.1 + 1 ≤ m0.1 + (j + 1) by omega⟩
        rw [this, List.flatMap_append, List.flatMap_singleton, ← List.append_assoc, ← e2]
        have e : mtv x (b.2 j) = [un x (b.2 j) 12] := by unfold mtv; rw [if_pos hk]
        rw [e]
        exact ls_push rfl
      | false =>
        refine ⟨_, rfl, rfl, ?_, show m.1 ≤ m0.1 + (j + 1) by omega⟩
        rw [this, List.flatMap_append, List.flatMap_singleton, ← List.append_assoc, ← e2]
        have e : mtv x (b.2 j) = [] := by unfold mtv; rw [hk]; rfl
        rw [e, List.append_nil]))
    (fun s ⟨e1, e2, e3⟩ => by
      obtain ⟨s1, m⟩ := s
      simp only at e1 e2 e3
      subst e1
      refine ⟨m, ?_, m, rfl, e2, e3⟩
      simp only [F_space_Meet_L2]
      rw [decide_eq_false (by omega)]; rfl)
    b.1 0 fu ((0 : Int), m0) (by omega) (by omega) ⟨rfl, by simp [ls], Nat.le_refl _⟩
  exact ⟨m, h5, h6, h7⟩

structure MeetOk (a b r : Cs) : Prop where
  uc : UCs r
  snd : ∀ c ∈ ls r, snd c = true
  len : r.1 ≤ 64
  has : ∀ x, UH x → has r x = (has a x && has b x)

theorem meet_ok {fu : Nat} (hf : 20000 ≤ fu) {a b : Cs} (ha : UCs a) (hcb : UCs b) : ∃ r e, F_space_Meet fu a b = some (r, e) ∧ UCs r ∧ r.1 ≤ 64 ∧ (e = 0 → MeetOk a b r) := by
  unfold F_space_Meet
  rw [space_sound (by omega) ha, Option.bind_some, callIf_nn, space_sound (by omega) hcb, callIf_b, Option.bind_some, cond_or]
  have hz : UCs ((0, fun _ => S_api_Cube.mk (fun _ => 0) (fun _ => 0)) : Cs) := fun i hi => absurd hi (Nat.not_lt_zero i)
  by_cases hs : ((decide (a.1 ≤ 64) && (ls a).all snd) && (decide (b.1 ≤ 64) && (ls b).all snd)) = true
  · simp only [Bool.and_eq_true, decide_eq_true_eq] at hs
    obtain ⟨⟨na, sa⟩, nb, sb⟩ := hs
    rw [sa, sb, decide_eq_true na, decide_eq_true nb]
    simp only [Bool.and_self, Bool.not_true, ifs]
    obtain ⟨e, h5, m, rfl, h6, h7⟩ := iter_inv (f := fun s : Int × Cs => F_space_Meet_L1 fu b a ((a.1 : Nat) : Int) s.1 s.2)
      (fun j s => s.1 = (j : Int) ∧ ls s.2 = (ls (j, a.2)).flatMap (fun x => (ls b).flatMap (fun y => mtv x y)) ∧ s.2.1 ≤ 64 * j)
      (fun e => ∃ m, e = .inl m ∧ ls m = (ls a).flatMap (fun x => (ls b).flatMap (fun y => mtv x y)) ∧ m.1 ≤ 64 * a.1) a.1
      (fun j s hj ⟨e1, e2, e3⟩ => .inl (by
        obtain ⟨s1, m0⟩ := s
        simp only at e1 e2 e3
        subst e1
        simp only [F_space_Meet_L1]
        obtain ⟨m, q1, q2, q3⟩ := meet_L2 hf b a ((a.1 : Nat) : Int) ((j : Nat) : Int) hcb nb (ha j hj) (m0 := m0) (by omega)
        rw [decide_eq_true (show (j : Int) < (a.1 : Int) by omega), ifs, chk_t (by omega), Int.toNat_natCast, q1, wrap_succ (i := j) (by omega)]
        refine ⟨_, rfl, rfl, ?_, show m.1 ≤ 64 * (j + 1) by omega⟩
        have this : ls (j + 1, a.2) = ls (j, a.2) ++ [a.2 j] := by unfold ls; rw [List.range_succ, List.map_append]; rfl
        rw [this, List.flatMap_append, List.flatMap_singleton, ← e2]
        exact q2))
      (fun s ⟨e1, e2, e3⟩ => by
        obtain ⟨s1, m⟩ := s
        simp only at e1 e2 e3
        subst e1
        refine ⟨m, ?_, m, rfl, e2, e3⟩
        simp only [F_space_Meet_L1]
        rw [decide_eq_false (by omega)]; rfl)
      a.1 0 fu ((0 : Int), (0, (fun _ => (S_api_Cube.mk (fun _ => 0) (fun _ => 0))))) (by omega) (by omega) ⟨rfl, rfl, Nat.le_refl _⟩
    rw [h5]
    simp only [after]
    have um : UCs m := ucs_of fun c hc => by
      rw [h6, List.mem_flatMap] at hc
      obtain ⟨x, hx, hc⟩ := hc
      rw [List.mem_flatMap] at hc
      obtain ⟨y, hy, hc⟩ := hc
      unfold mtv at hc
      split at hc
      · rw [List.mem_singleton.1 hc]; exact uc_un (ucs_mem ha hx) 12
      · cases hc
    obtain ⟨r, k1, L, k2⟩ := lean_ok (fu := fu) (by omega) um (by omega) (by omega)
    unfold F_space_lean
    rw [k1, Option.bind_some]
    by_cases hr : r.1 > 64
    · rw [decide_eq_true (show (r.1 : Int) > 64 by omega)]
      exact ⟨_, _, rfl, hz, show 0 ≤ 64 by decide, fun e => absurd e (by decide)⟩
    · rw [decide_eq_false (show ¬ (r.1 : Int) > 64 by omega)]
      refine ⟨r, 0, rfl, lean_uc um L, by omega, fun _ => ⟨lean_uc um L, fun c hc => (L.sub c hc).2, by omega, fun x hx => ?_⟩⟩
      rw [lean_has um L hx]
      unfold has
      rw [h6, List.any_flatMap, Bool.eq_iff_iff, List.any_eq_true, Bool.and_eq_true, List.any_eq_true, List.any_eq_true]
      constructor
      · rintro ⟨c, hc, h⟩
        rw [List.any_flatMap, List.any_eq_true] at h
        obtain ⟨d, hd, h⟩ := h
        unfold mtv at h
        split at h
        · rename_i hm
          rw [List.any_cons, List.any_nil, Bool.or_false, hb_un (ucs_mem ha hc) (ucs_mem hcb hd) ((mok_iff (ucs_mem ha hc) (ucs_mem hcb hd)).1 hm) hx, Bool.and_eq_true] at h
          exact ⟨⟨c, hc, h.1⟩, d, hd, h.2⟩
        · cases h
      · rintro ⟨⟨c, hc, h⟩, d, hd, h'⟩
        refine ⟨c, hc, ?_⟩
        rw [List.any_flatMap, List.any_eq_true]
        refine ⟨d, hd, ?_⟩
        have hm := hb_mok (ucs_mem ha hc) (ucs_mem hcb hd) hx h h'
        unfold mtv
        rw [if_pos hm, List.any_cons, List.any_nil, Bool.or_false, hb_un (ucs_mem ha hc) (ucs_mem hcb hd) ((mok_iff (ucs_mem ha hc) (ucs_mem hcb hd)).1 hm) hx, h, h']; rfl
  · rw [Bool.eq_false_iff.2 hs, Bool.and_false]
    exact ⟨_, _, rfl, hz, show 0 ≤ 64 by decide, fun e => absurd e (by decide)⟩

end Go.Proofs.Ytlgkjdjgockkfaa
