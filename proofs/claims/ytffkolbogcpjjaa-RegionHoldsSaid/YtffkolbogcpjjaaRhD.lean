/- 'RegionHolds' as a plain law. -/
import Derived.Test.YtffkolbogcpjjaaRhC
namespace Go.Proofs.Ytffkolbogcpjjaa
open Go Go.Pod Go.Proofs Go.Sort Go.Shelf

/-! ### Apply -/

theorem ls_cons {α : Type} {t : Nat × (Nat → α)} {x : α} {L : List α} (h : ls t = x :: L) : 0 < t.1 ∧ t.2 0 = x ∧ ls (t.1 - 1, fun i => t.2 (1 + i)) = L := by
  have hl := ls_len t
  rw [h, List.length_cons] at hl
  have h0 : t.1 = L.length + 1 := by omega
  refine ⟨by omega, ?_, ?_⟩
  · have := ls_get t 0 (by omega)
    rw [h] at this; simpa using this.symm
  · have : ls t = t.2 0 :: ls (t.1 - 1, fun i => t.2 (1 + i)) := by
      unfold ls
      rw [h0, List.range_succ_eq_map, List.map_cons, List.map_map]
      congr 1
      rw [Nat.add_sub_cancel]
      exact List.map_congr_left fun i _ => by simp [Nat.add_comm]
    rw [h] at this
    exact (List.cons.inj this).2.symm

/-- A change that is no 'add': who of the table is changed, is touched. -/
theorem apply_L2 {fu : Nat} (hf : 300 ≤ fu) {l : Ru} (hl : l.1 ≤ 100) {m : S_api_Mod} {t : Nat × (Nat → Int)} (ht : ls t = rl m l.2 l.1 0) (ha : ∀ i, i < l.1 → (l.2 i).f2.1 ≤ 8) (hma : m.f3.1 ≤ 10) :
    ∃ r : Ru, iter (fun s => F_ref04_Apply_L2 fu l m s.1 s.2.1 s.2.2) fu (t, (0 : Int), (0, (fun _ => S_api_Rule.z))) = some (.inl r) ∧ r.1 ≤ l.1 ∧ (∀ c ∈ ls r, c.f2.1 ≤ 10 ∧ (c ∈ ls l ∨ ∃ i, i < l.1 ∧ tch m (l.2 i) = true ∧ c.f0 = (l.2 i).f0)) ∧ ∀ i, i < l.1 → tch m (l.2 i) = false → l.2 i ∈ ls r := by
  obtain ⟨e, h1, r, rfl, h2⟩ := iter_inv (f := fun s : (Nat × (Nat → Int)) × Int × Ru => F_ref04_Apply_L2 fu l m s.1 s.2.1 s.2.2)
    (fun j s => s.2.1 = (j : Int) ∧ j ≤ l.1 ∧ ls s.1 = rl m l.2 (l.1 - j) j ∧ s.2.2.1 ≤ j ∧ (∀ c ∈ ls s.2.2, c.f2.1 ≤ 10 ∧ (c ∈ ls l ∨ ∃ i, i < l.1 ∧ tch m (l.2 i) = true ∧ c.f0 = (l.2 i).f0)) ∧ ∀ i, i < j → tch m (l.2 i) = false → l.2 i ∈ ls s.2.2)
    (fun e => ∃ r : Ru, e = .inl r ∧ r.1 ≤ l.1 ∧ (∀ c ∈ ls r, c.f2.1 ≤ 10 ∧ (c ∈ ls l ∨ ∃ i, i < l.1 ∧ tch m (l.2 i) = true ∧ c.f0 = (l.2 i).f0)) ∧ ∀ i, i < l.1 → tch m (l.2 i) = false → l.2 i ∈ ls r) l.1
    (fun j s hj ⟨e1, e2, e3, e4, e5, e6⟩ => .inl (by
      obtain ⟨t, s2, r⟩ := s
      simp only at e1 e3 e4 e5 e6
      subst e1
      have hrl : rl m l.2 (l.1 - j) j = (if tch m (l.2 j) then [(j : Int)] else []) ++ rl m l.2 (l.1 - (j + 1)) (j + 1) := by
        rw [show l.1 - j = (l.1 - (j + 1)) + 1 by omega]; rfl
      rw [hrl] at e3
      have J1 : ∀ (t' : Nat × (Nat → Int)) (c : S_api_Rule), c.f2.1 ≤ 10 → (c ∈ ls l ∨ ∃ i, i < l.1 ∧ tch m (l.2 i) = true ∧ c.f0 = (l.2 i).f0) → ls t' = rl m l.2 (l.1 - (j + 1)) (j + 1) → (tch m (l.2 j) = false → c = l.2 j) →
          ∃ s', F_ref04_Apply_J1 fu l m t' (j : Int) r c = some (.next s') ∧ s'.2.1 = ((j + 1 : Nat) : Int) ∧ j + 1 ≤ l.1 ∧ ls s'.1 = rl m l.2 (l.1 - (j + 1)) (j + 1) ∧ s'.2.2.1 ≤ j + 1 ∧ (∀ c ∈ ls s'.2.2, c.f2.1 ≤ 10 ∧ (c ∈ ls l ∨ ∃ i, i < l.1 ∧ tch m (l.2 i) = true ∧ c.f0 = (l.2 i).f0)) ∧ ∀ i, i < j + 1 → tch m (l.2 i) = false → l.2 i ∈ ls s'.2.2 := fun t' c ca hc ht' hk => by
        unfold F_ref04_Apply_J1
        rw [chk_t (room_big (by omega) (by omega)), wrap_succ (i := j) (by omega)]
        have hp : ls (r.1 + 1, fun i => if i < r.1 then r.2 i else (fun i => ([c] : List S_api_Rule).getD i S_api_Rule.z) (i - r.1)) = ls r ++ [c] := ls_push rfl
        refine ⟨_, rfl, rfl, by omega, ht', show r.1 + 1 ≤ j + 1 by omega, fun c' hc' => ?_, fun i hi hti => ?_⟩
        · rw [hp] at hc'
          rcases List.mem_append.1 hc' with h | h
          · exact e5 c' h
          · rw [List.mem_singleton.1 h]; exact ⟨ca, hc⟩
        · rw [hp, List.mem_append]
          by_cases e : i = j
          · subst e; exact .inr (by rw [hk hti]; simp)
          · exact .inl (e6 i (by omega) hti)
      simp only [F_ref04_Apply_L2]
      rw [decide_eq_true (show (j : Int) < (l.1 : Int) by omega), ifs, chk_t (by omega), Int.toNat_natCast, wrap_succ (i := j) (by omega)]
      simp only [show ((0 : Int)).toNat = 0 from rfl, show ((1 : Int)).toNat = 1 from rfl, Int.toNat_natCast]
      rw [chk_t (fun h => by have := decide_eq_true_iff.1 h; omega)]
      cases htj : tch m (l.2 j) with
      | true =>
        rw [htj] at e3
        simp only [if_true, List.singleton_append] at e3
        obtain ⟨g1, g2, g3⟩ := ls_cons e3
        rw [decide_eq_true (show ((t.1 : Nat) : Int) > 0 by omega), g2, beq_self_eq_true]
        simp only [cond_true]
        rw [chk_t (by omega)]
        cases (bif m.f0 == (3 : Int) then true else m.f0 == (5 : Int)) with
        | true =>
          refine ⟨_, rfl, rfl, by omega, g3, show r.1 ≤ j + 1 by omega, e5, fun i hi hti => ?_⟩
          by_cases e : i = j
          · subst e; rw [htj] at hti; cases hti
          · exact e6 i (by omega) hti
        | false => exact J1 _ _ hma (.inr ⟨j, hj, htj, rfl⟩) g3 (fun h => by rw [htj] at h; cases h)
      | false =>
        rw [htj] at e3
        simp only [Bool.false_eq_true, if_false, List.nil_append] at e3
        have hno : (bif decide (((t.1 : Nat) : Int) > 0) then t.2 0 == (j : Int) else false) = false := by
          by_cases h0 : t.1 = 0
          · rw [decide_eq_false (by omega)]; rfl
          · rw [decide_eq_true (show ((t.1 : Nat) : Int) > 0 by omega)]
            simp only [cond_true, beq_eq_false_iff_ne]
            have hm : t.2 0 ∈ ls t := ls_mem.2 ⟨0, by omega, rfl⟩
            rw [e3] at hm
            have := rl_ge _ _ _ hm
            omega
        rw [hno]
        exact J1 t (l.2 j) (by have := ha j hj; omega) (.inl (ls_mem.2 ⟨j, hj, rfl⟩)) e3 (fun _ => rfl)))
    (fun s ⟨e1, e2, e3, e4, e5, e6⟩ => by
      obtain ⟨t, s2, r⟩ := s
      simp only at e1 e3 e4 e5 e6
      subst e1
      refine ⟨r, ?_, r, rfl, e4, e5, e6⟩
      simp only [F_ref04_Apply_L2]
      rw [decide_eq_false (by omega)]; rfl)
    l.1 0 fu (t, (0 : Int), (0, (fun _ => S_api_Rule.z))) (by omega) (by omega) ⟨rfl, Nat.zero_le _, ht, Nat.le_refl _, (fun c hc => by cases hc), fun i hi => by omega⟩
  exact ⟨r, h1, h2⟩

theorem apply_L1 {fu : Nat} (hf : 300 ≤ fu) {l : Ru} (hu : URu l) (hl : l.1 ≤ 100) (t2 : Int) (m : S_api_Mod) {c : S_api_Rule} (hc : UC c.f0) :
    ∃ e, iter (fun s => F_ref04_Apply_L1 fu l t2 m c s.1 s.2.1 s.2.2) fu (false, false, (0 : Int)) = some e ∧ ∀ r, e = .inr r → r = ((0, fun _ => S_api_Rule.z), 7) := by
  obtain ⟨e, h1, h2⟩ := iter_inv (f := fun s : Bool × Bool × Int => F_ref04_Apply_L1 fu l t2 m c s.1 s.2.1 s.2.2)
    (fun j s => s.2.2 = (j : Int)) (fun e => ∀ r, e = .inr r → r = ((0, fun _ => S_api_Rule.z), 7)) l.1
    (fun j s hj es => by
      obtain ⟨s1, s2, s3⟩ := s
      simp only at es
      subst es
      simp only [F_ref04_Apply_L1]
      rw [decide_eq_true (show (j : Int) < (l.1 : Int) by omega), ifs, chk_t (by omega), Int.toNat_natCast, kk_eq, Option.bind_some, wrap_succ (i := j) (by omega)]
      cases kk (l.2 j) c with
      | true =>
        simp only [ifs]
        rw [chk_t (by omega)]
        cases (l.2 j).f5 != m.f6 with
        | true => exact .inr ⟨_, rfl, fun r e => (Sum.inr.inj e).symm⟩
        | false => exact .inl ⟨_, rfl, rfl⟩
      | false =>
        simp only [ifs]
        rw [chk_t (fun _ => by omega)]
        unfold F_ref04_Overlap
        obtain ⟨x, q, _⟩ := ref_meet hf (hu j hj) hc
        rw [q, Option.bind_some]
        cases s2 with
        | true => exact .inl ⟨_, rfl, rfl⟩
        | false => exact .inl ⟨_, rfl, rfl⟩)
    (fun s es => by
      obtain ⟨s1, s2, s3⟩ := s
      simp only at es
      subst es
      refine ⟨(s1, s2), ?_, nofun⟩
      simp only [F_ref04_Apply_L1]
      rw [decide_eq_false (by omega)]; rfl)
    l.1 0 fu (false, false, (0 : Int)) (by omega) (by omega) rfl
  exact ⟨e, h1, h2⟩

/-- What a change alters is within its match. -/
structure Alt (fu : Nat) (l : Ru) (m : S_api_Mod) (r : Ru) : Prop where
  len : r.1 ≤ 101
  acts : ∀ c ∈ ls l, c.f2.1 ≤ 10
  acts' : ∀ c ∈ ls r, c.f2.1 ≤ 10
  gone : ∀ c ∈ ls l, c ∉ ls r → wn c.f0 m.f1 = true
  come : ∀ c ∈ ls r, c ∉ ls l → wn c.f0 m.f1 = true
  uc : ∀ c ∈ ls r, c ∉ ls l → UC c.f0

theorem apply_ok {fu : Nat} (hf : 300 ≤ fu) {l : Ru} (hu : URu l) (hl : l.1 ≤ 20) (ha : ∀ i, i < l.1 → (l.2 i).f2.1 < fu ∧ (l.2 i).f2.1 ≤ 9223372036854775807) {m : S_api_Mod} (hm : UC m.f1) (hma : m.f3.1 ≤ 10) (hM : F_ref04_Mod fu m = some true) (sm : snd m.f1 = true) :
    ∃ r e, F_ref04_Apply fu l m 1000 = some (r, e) ∧ (e = 0 → Alt fu l m r) := by
  unfold F_ref04_Apply
  obtain ⟨b, q1, q2⟩ := table_ok hf hu (by omega) ha
  rw [q1, Option.bind_some, Bool.not_not, hM, callIf_b, Option.bind_some]
  cases b with
  | false => exact ⟨_, _, rfl, fun h => absurd h (by decide)⟩
  | true =>
    have T := q2 rfl
    simp only [Bool.not_true, Bool.and_true, cond_false, ifs]
    have la : ∀ c ∈ ls l, c.f2.1 ≤ 10 := fun c hc => by
      obtain ⟨i, hi, rfl⟩ := ls_mem.1 hc
      have := T.acts i hi; omega
    cases hk : m.f0 == (1 : Int) with
    | true =>
      simp only
      obtain ⟨e, p1, p2⟩ := apply_L1 hf hu (by omega) 1000 m (c := S_api_Rule.mk m.f1 m.f2 m.f3 m.f4 m.f5 m.f6 0 0 0) hm
      rw [p1]
      cases e with
      | inr r => rw [p2 r rfl]; exact ⟨_, _, rfl, fun h => absurd h (by decide)⟩
      | inl e =>
        simp only [after]
        cases (bif m.f7 then e.2 else false) with
        | true => exact ⟨_, _, rfl, fun h => absurd h (by decide)⟩
        | false =>
          simp only
          rw [decide_eq_false (show ¬ ((l.1 : Nat) : Int) ≥ 1000 by omega)]
          have hb : (bif !e.1 then false else false) = false := by cases e.1 <;> rfl
          rw [hb]
          simp only
          rw [chk_t (room_big (by omega) (by omega)), chk_t (room_big (by omega) (by omega))]
          generalize hR : S_api_Rule.mk m.f1 m.f2 m.f3 m.f4 m.f5 m.f6 0 0 0 = R
          have hRm : R.f0 = m.f1 := by rw [← hR]
          have hRa : R.f2 = m.f3 := by rw [← hR]
          generalize hL : (((0 + l.1) + 1, (fun i => if i < (0 + l.1) then (fun i => if i < 0 then (fun i => ([] : List S_api_Rule).getD i S_api_Rule.z) i else l.2 (i - 0)) i else (fun i => ([R] : List S_api_Rule).getD i S_api_Rule.z) (i - (0 + l.1)))) : Ru) = L
          have hL1 : L.1 = l.1 + 1 := by rw [← hL]; simp
          have hlt : ∀ i, i < l.1 → L.2 i = l.2 i := fun i hi => by rw [← hL]; simp [hi]
          have hla : L.2 l.1 = R := by rw [← hL]; simp
          have uL : URu L := fun i hi => by
            by_cases h : i < l.1
            · rw [hlt i h]; exact hu i h
            · rw [show i = l.1 by omega, hla, hRm]; exact hm
          obtain ⟨r, s1, s2, s3, s4⟩ := sort_ru hf uL (by omega) fun i hi => by
            by_cases h : i < l.1
            · rw [hlt i h]; exact ha i h
            · rw [show i = l.1 by omega, hla, hRa]; omega
          rw [s1]
          have inL : ∀ c ∈ ls r, c ∈ ls l ∨ c = R := fun c hc => by
            obtain ⟨i, hi, rfl⟩ := ls_mem.1 (s2 c hc)
            by_cases h : i < l.1
            · exact .inl (ls_mem.2 ⟨i, h, (hlt i h).symm⟩)
            · exact .inr (by rw [show i = l.1 by omega, hla])
          refine ⟨r, 0, rfl, fun _ => ⟨by omega, la, fun c hc => ?_, fun c hc hn => ?_, fun c hc hn => ?_, fun c hc hn => ?_⟩⟩
          · rcases inL c hc with h | rfl
            · exact la c h
            · rw [hRa]; exact hma
          · obtain ⟨i, hi, rfl⟩ := ls_mem.1 hc
            obtain ⟨i', g1, g2, g3, g4⟩ := s3 i (by omega) (by rw [hlt i hi]; exact T.rule i hi)
            rw [hlt i hi] at g3
            by_cases h : i' < l.1
            · rw [hlt i' h] at g3 g4
              rcases Nat.lt_or_ge i i' with h' | h'
              · rw [T.two h' h] at g3; cases g3
              · rw [show i' = i by omega] at g4; exact absurd g4 hn
            · rw [show i' = l.1 by omega, hla] at g3
              have := (kk_iff.1 g3).1
              rw [hRm] at this
              exact wn_le (hu i hi) hm this (T.snd i hi)
          · rcases inL c hc with h | rfl
            · exact absurd h hn
            · rw [hRm]; exact wn_le hm hm (eqc_refl _) sm
          · rcases inL c hc with h | rfl
            · exact absurd h hn
            · rw [hRm]; exact hm
    | false =>
      simp only
      obtain ⟨t, p1, p2⟩ := touched_ok hf hu hm hM (by omega)
      obtain ⟨r, s1, s2, s3, s4⟩ := apply_L2 hf (by omega) p2 T.acts hma
      rw [p1, Option.bind_some, s1]
      refine ⟨r, 0, rfl, fun _ => ⟨by omega, la, fun c hc => (s3 c hc).1, fun c hc hn => ?_, fun c hc hn => ?_, fun c hc hn => ?_⟩⟩
      · obtain ⟨i, hi, rfl⟩ := ls_mem.1 hc
        cases ht : tch m (l.2 i) with
        | true => exact tch_wn hm (hu i hi) (T.snd i hi) ht
        | false => exact absurd (s4 i hi ht) hn
      · rcases (s3 c hc).2 with h | ⟨i, hi, ht, he⟩
        · exact absurd h hn
        · rw [he]; exact tch_wn hm (hu i hi) (T.snd i hi) ht
      · rcases (s3 c hc).2 with h | ⟨i, hi, ht, he⟩
        · exact absurd h hn
        · rw [he]; exact hu i hi

/-! ### answers -/

def ch3 : Chs := (3, (fun i => ([(S_api_Change.mk (2 : Int) S_api_Mod.z), (S_api_Change.mk (1 : Int) S_api_Mod.z), (S_api_Change.mk (2 : Int) S_api_Mod.z)] : List S_api_Change).getD i S_api_Change.z))
def RA : S_api_Region := ⟨2, zc⟩
def RB : S_api_Region := ⟨1, zc⟩

theorem rc_BA : rc RB RA = -1 := by unfold rc RB RA; rfl
theorem lnr3 {E : List S_api_Region} (L : Lnr [RA, RB, RA] E) : E = [RB, RA] := by
  have hE : ∀ c ∈ E, c = RA ∨ c = RB := fun c hc => by
    have := (L.sub c hc).1
    simp only [List.mem_cons, List.not_mem_nil, or_false] at this
    rcases this with h | h | h
    · exact .inl h
    · exact .inr h
    · exact .inl h
  have top : ∀ c, c = RA ∨ c = RB → ∀ d ∈ [RA, RB, RA], sndR d = true → wr c d = true → eqr d c = true := fun c hc d hd _ hw => by
    have hd' : d = RA ∨ d = RB := by
      simp only [List.mem_cons, List.not_mem_nil, or_false] at hd
      rcases hd with h | h | h
      · exact .inl h
      · exact .inr h
      · exact .inl h
    rcases hc with rfl | rfl <;> rcases hd' with rfl | rfl
    · exact totR.refl _
    · have := (wr_iff.1 hw).1; cases this
    · have := (wr_iff.1 hw).1; cases this
    · exact totR.refl _
  have hA : RA ∈ E := by
    obtain ⟨e, he, ke⟩ := L.all RA (by simp) snd_zc (top RA (.inl rfl))
    rcases hE e he with rfl | rfl
    · exact he
    · have := (eqr_iff.1 ke).1; cases this
  have hB : RB ∈ E := by
    obtain ⟨e, he, ke⟩ := L.all RB (by simp) snd_zc (top RB (.inr rfl))
    rcases hE e he with rfl | rfl
    · have := (eqr_iff.1 ke).1; cases this
    · exact he
  have hz : ∀ x : S_api_Region, ¬ rc x x < 0 := fun x h => by have := rc_swap x x; omega
  have hAB : ¬ rc RA RB < 0 := fun h => by have := rc_swap RB RA; have := rc_BA; omega
  match E, L.srt, hE, hA, hB with
  | [], _, _, h, _ => cases h
  | [a], _, _, h1, h2 =>
    simp at h1 h2
    rw [← h1] at h2; cases h2
  | [a, b], h, h1, h2, h3 =>
    have hab := (List.pairwise_cons.1 h).1 b (by simp)
    rcases h1 a (by simp) with rfl | rfl <;> rcases h1 b (by simp) with rfl | rfl
    · exact absurd hab (hz _)
    · exact absurd hab hAB
    · rfl
    · exact absurd hab (hz _)
  | a :: b :: c :: E, h, h1, _, _ =>
    obtain ⟨p1, p2⟩ := List.pairwise_cons.1 h
    have hab := p1 b (by simp)
    have hac := p1 c (by simp)
    have hbc := (List.pairwise_cons.1 p2).1 c (by simp)
    exfalso
    rcases h1 a (by simp) with rfl | rfl
    · rcases h1 b (by simp) with rfl | rfl
      · exact hz _ hab
      · rcases h1 c (by simp) with rfl | rfl
        · exact hz _ hac
        · exact hz _ hbc
    · rcases h1 b (by simp) with rfl | rfl
      · rcases h1 c (by simp) with rfl | rfl
        · exact hz _ hbc
        · exact hz _ hac
      · exact hz _ hab

/-! ### Touching -/

def tq (x y : S_api_Region) : Bool := bif mok x.f1 y.f1 then x.f0 == y.f0 else false
def tcR (a b : Rs) : Bool := (List.range a.1).any fun i => (List.range b.1).any fun j => tq (a.2 i) (b.2 j)

theorem stop_any (q : Nat → Bool) (n : Nat) : (decide ((match stopAt (fun j => !q j) n 0 with | none => (-1 : Int) | some m => (m : Int)) ≥ 0)) = (List.range n).any q := by
  cases h : stopAt (fun j => !q j) n 0 with
  | none =>
    have h2 := (stopAt_all n 0).1 h
    rw [decide_eq_false (by decide)]
    symm
    rw [List.any_eq_false]
    intro i hi
    have := h2 i (by simpa using hi)
    simpa using this
  | some m =>
    obtain ⟨_, h2, h3, _⟩ := stopAt_some h
    rw [decide_eq_true (by show (m : Int) ≥ 0; omega)]
    symm
    rw [List.any_eq_true]
    exact ⟨m, by simpa using h2, by simpa using h3⟩

theorem touch_11 {fu : Nat} (hf : 300 ≤ fu) {x : S_api_Region} (hx : UC x.f1) {b : Rs} (hb : URs b) (hn : b.1 ≤ 100) : F_slices_ContainsFunc_api_Region_region_Touch_1_1 fu b x = some ((List.range b.1).any fun j => tq x (b.2 j)) := by
  unfold F_slices_ContainsFunc_api_Region_region_Touch_1_1 F_slices_IndexFunc_api_Region_region_Touch_1_1
  rw [show (0 : Int) = (fun i : Nat => (i : Int)) 0 from rfl, iter_scan (fun i : Nat => (i : Int)) (fun j => !tq x (b.2 j)) (fun i => (i : Int)) (e := ()) b.1 0 fu (by omega)]
  · rw [← stop_any]
    cases stopAt (fun j => !tq x (b.2 j)) b.1 0 <;> rfl
  · intro i _ h2
    unfold F_slices_IndexFunc_api_Region_region_Touch_1_1_L1 F_region_Touch_1_1
    rw [decide_eq_true (show (i : Int) < (b.1 : Int) by omega), ifs, chk_t (by omega), Int.toNat_natCast, cube_meet (by omega) hx (hb i (by omega)), Option.bind_some, Option.bind_some, wrap_succ (by omega)]
    unfold tq
    cases mok x.f1 (b.2 i).f1 <;> cases h : (x.f0 == (b.2 i).f0) <;> simp [ifs]
  · rw [Nat.zero_add]
    unfold F_slices_IndexFunc_api_Region_region_Touch_1_1_L1
    rw [decide_eq_false (by omega)]; rfl

theorem region_touch {fu : Nat} (hf : 300 ≤ fu) {a b : Rs} (ha : URs a) (hb : URs b) (hn : a.1 ≤ 100) (hm : b.1 ≤ 100) : F_region_Touch fu a b = some (tcR a b) := by
  unfold F_region_Touch F_slices_ContainsFunc_api_Region_region_Touch_1 F_slices_IndexFunc_api_Region_region_Touch_1
  rw [show (0 : Int) = (fun i : Nat => (i : Int)) 0 from rfl, iter_scan (fun i : Nat => (i : Int)) (fun i => !((List.range b.1).any fun j => tq (a.2 i) (b.2 j))) (fun i => (i : Int)) (e := ()) a.1 0 fu (by omega)]
  · unfold tcR
    rw [← stop_any]
    cases stopAt (fun i => !((List.range b.1).any fun j => tq (a.2 i) (b.2 j))) a.1 0 <;> rfl
  · intro i _ h2
    unfold F_slices_IndexFunc_api_Region_region_Touch_1_L1 F_region_Touch_1
    rw [decide_eq_true (show (i : Int) < (a.1 : Int) by omega), ifs, chk_t (by omega), Int.toNat_natCast, touch_11 hf (ha i (by omega)) hb hm, Option.bind_some, Option.bind_some, wrap_succ (by omega)]
    cases (List.range b.1).any fun j => tq (a.2 i) (b.2 j) <;> simp [ifs]
  · rw [Nat.zero_add]
    unfold F_slices_IndexFunc_api_Region_region_Touch_1_L1
    rw [decide_eq_false (by omega)]; rfl


theorem answers_ok {fu : Nat} (hf : 300 ≤ fu) : F_law19_answers fu = some true := by
  have uch : ∀ i, i < ch3.1 → UC (ch3.2 i).f1.f1 := fun i hi => by
    have : i = 0 ∨ i = 1 ∨ i = 2 := by have : i < 3 := hi; omega
    rcases this with rfl | rfl | rfl <;> exact uc_zc
  obtain ⟨r, h1, h2, _⟩ := of_ok (fu := fu) (by omega) uch (show 3 < fu by omega) (show 3 ≤ 100000 by decide)
  have h3 := lnr3 (show Lnr [RA, RB, RA] (ls r) from h2)
  have hl : r.1 = 2 := by have := ls_len r; rw [h3] at this; exact this.symm
  have r0 : r.2 0 = RB := by have := ls_get r 0 (by omega); rw [h3] at this; simpa using this.symm
  have ur : URs r := fun i hi => by
    have hm : r.2 i ∈ ls r := ls_mem.2 ⟨i, hi, rfl⟩
    rw [h3] at hm
    simp only [List.mem_cons, List.not_mem_nil, or_false] at hm
    rcases hm with h | h <;> (show UC (r.2 i).f1) <;> rw [h] <;> exact uc_zc
  have ht : tcR r r = true := by
    unfold tcR
    rw [List.any_eq_true]
    refine ⟨0, List.mem_range.2 (by omega), List.any_eq_true.2 ⟨0, List.mem_range.2 (by omega), ?_⟩⟩
    rw [r0]
    have hw : wn zc zc = true := wn_le uc_zc uc_zc (eqc_refl _) snd_zc
    have := (Bool.and_eq_true_iff.1 hw).1
    unfold tq
    rw [show mok RB.f1 RB.f1 = true from this]; simp
  unfold F_law19_answers
  show (F_region_Of fu ch3).bind _ = _
  rw [h1, Option.bind_some, hl, chk_t (fun _ => by omega), show (0 : Int).toNat = 0 from rfl, r0, region_touch hf ur ur (by omega) (by omega), ht]
  rfl

/-! ### The law -/

theorem holds_L3 {fu : Nat} (hf : 300 ≤ fu) (t0 : Ru) {l : Chs} {r : Rs} (hr : URs r) (hrn : r.1 ≤ 100) {i : Nat} (hi : i < l.1) {t : Ru} {k : Nat} (hk : k < t.1) (hu : UC (t.2 k).f0) :
    iter (fun s => F_law19_RegionHolds_L3 fu t0 l r (i : Int) t (k : Int) s.1 s.2) fu (false, (0 : Int)) = some (.inl ((List.range r.1).any fun j => (r.2 j).f0 == (l.2 i).f0 && wn (t.2 k).f0 (r.2 j).f1)) := by
  rw [show (false, (0 : Int)) = (fun j : Nat => ((List.range j).any fun j => (r.2 j).f0 == (l.2 i).f0 && wn (t.2 k).f0 (r.2 j).f1, (j : Int))) 0 from rfl, iter_run0 (fun j : Nat => ((List.range j).any fun j => (r.2 j).f0 == (l.2 i).f0 && wn (t.2 k).f0 (r.2 j).f1, (j : Int))) (e := (List.range r.1).any fun j => (r.2 j).f0 == (l.2 i).f0 && wn (t.2 k).f0 (r.2 j).f1) r.1 fu (by omega)]
  · intro j hj
    simp only
    have e : (List.range (j + 1)).any (fun j => (r.2 j).f0 == (l.2 i).f0 && wn (t.2 k).f0 (r.2 j).f1) = ((List.range j).any (fun j => (r.2 j).f0 == (l.2 i).f0 && wn (t.2 k).f0 (r.2 j).f1) || ((r.2 j).f0 == (l.2 i).f0 && wn (t.2 k).f0 (r.2 j).f1)) := by
      rw [List.range_succ, List.any_append]; simp
    rw [e]
    generalize (List.range j).any (fun j => (r.2 j).f0 == (l.2 i).f0 && wn (t.2 k).f0 (r.2 j).f1) = v
    unfold F_law19_RegionHolds_L3
    rw [decide_eq_true (show (j : Int) < (r.1 : Int) by omega), ifs, chk_t (fun _ => by omega), chk_t (fun _ => by omega), chk_t (fun _ => by omega), chk_t (fun _ => by omega), Int.toNat_natCast, Int.toNat_natCast, Int.toNat_natCast, ref_wn hf hu (hr j hj), callIf_b, Option.bind_some, wrap_succ (i := j) (by omega)]
    cases v <;> cases (r.2 j).f0 == (l.2 i).f0 <;> rfl
  · simp only
    unfold F_law19_RegionHolds_L3
    rw [decide_eq_false (by omega)]; rfl

theorem holds_L2 {fu : Nat} (hf : 300 ≤ fu) (t0 : Ru) {l : Chs} {r : Rs} (hr : URs r) (hrn : r.1 ≤ 100) {i : Nat} (hi : i < l.1) {t : Ru} (hn : t.1 ≤ 200) (hu : ∀ c ∈ ls t, UC c.f0) (h : ∀ c ∈ ls t, ∃ j, j < r.1 ∧ (r.2 j).f0 = (l.2 i).f0 ∧ wn c.f0 (r.2 j).f1 = true) :
    iter (fun s => F_law19_RegionHolds_L2 fu t0 l r (i : Int) t s) fu (0 : Int) = some (.inl ()) := by
  rw [show (0 : Int) = (fun i : Nat => (i : Int)) 0 from rfl, iter_run0 (fun i : Nat => (i : Int)) (e := ()) t.1 fu (by omega)]
  · intro k hk
    have hm : t.2 k ∈ ls t := ls_mem.2 ⟨k, hk, rfl⟩
    unfold F_law19_RegionHolds_L2
    rw [decide_eq_true (show (k : Int) < (t.1 : Int) by omega), ifs, holds_L3 hf t0 hr hrn hi hk (hu _ hm), wrap_succ (i := k) (by omega)]
    have : ((List.range r.1).any fun j => (r.2 j).f0 == (l.2 i).f0 && wn (t.2 k).f0 (r.2 j).f1) = true := by
      obtain ⟨j, h1, h2, h3⟩ := h _ hm
      exact List.any_eq_true.2 ⟨j, List.mem_range.2 h1, by rw [h2, h3]; simp⟩
    rw [this]; rfl
  · unfold F_law19_RegionHolds_L2
    rw [decide_eq_false (by omega)]; rfl

theorem holds {fu : Nat} (hf : 300 ≤ fu) {x : Ru} {l : Chs} (hx : URu x) (hxa : ∀ i, i < x.1 → (x.2 i).f2.1 < fu ∧ (x.2 i).f2.1 ≤ 9223372036854775807) (hl : ∀ i, i < l.1 → UC (l.2 i).f1.f1) : F_law19_RegionHolds fu x l = some true := by
  unfold F_law19_RegionHolds
  cases hg : (bif (decide (((l.1 : Nat) : Int) > (10 : Int))) then true else (decide (((x.1 : Nat) : Int) > (20 : Int)))) with
  | true => simp only [ifs]; rw [answers_ok hf]; rfl
  | false =>
    have hn : l.1 ≤ 10 ∧ x.1 ≤ 20 := by
      by_cases h1 : ((l.1 : Nat) : Int) > 10
      · rw [decide_eq_true h1] at hg; cases hg
      · rw [decide_eq_false h1] at hg
        by_cases h2 : ((x.1 : Nat) : Int) > 20
        · rw [decide_eq_true h2] at hg; cases hg
        · omega
    simp only [ifs]
    obtain ⟨r, k1, L, k3⟩ := of_ok (fu := fu) (by omega) hl (by omega) (by omega)
    have hG : ∀ c ∈ (ls l).map toReg, UR c := fun c hc => by
      obtain ⟨y, hy, rfl⟩ := List.mem_map.1 hc
      obtain ⟨i, hi, rfl⟩ := ls_mem.1 hy
      exact hl i hi
    have hr : URs r := fun i hi => hG _ (L.sub _ (ls_mem.2 ⟨i, hi, rfl⟩)).1
    rw [k1, Option.bind_some]
    obtain ⟨e, h1, h2⟩ := iter_inv (f := fun s : Int => F_law19_RegionHolds_L1 fu x l r s) (fun j s => s = (j : Int)) (fun e => match e with | .inl _ => True | .inr v => v = true) l.1
      (fun j s hj es => by
        subst es
        simp only [F_law19_RegionHolds_L1]
        rw [decide_eq_true (show (j : Int) < (l.1 : Int) by omega), ifs, chk_t (by omega), Int.toNat_natCast, chk_t (fun _ => by omega), wrap_succ (i := j) (by omega)]
        by_cases ha : (l.2 j).f1.f3.1 > 10
        · rw [decide_eq_true (show (((l.2 j).f1.f3.1 : Nat) : Int) > 10 by omega)]
          refine .inr ⟨true, ?_, rfl⟩
          show ((F_law19_answers fu).bind fun r3 => some (Lo.ret r3)) = _
          rw [answers_ok hf]; rfl
        · rw [decide_eq_false (show ¬ (((l.2 j).f1.f3.1 : Nat) : Int) > 10 by omega)]
          obtain ⟨b, q1, q2⟩ := mod_ok hf (hl j hj) (show (l.2 j).f1.f3.1 < fu by omega) (by omega)
          simp only [Bool.not_false, callIf, cond_false]
          rw [q1, Option.bind_some]
          cases b with
          | false =>
            refine .inr ⟨true, ?_, rfl⟩
            show ((F_law19_answers fu).bind fun r3 => some (Lo.ret r3)) = _
            rw [answers_ok hf]; rfl
          | true =>
            have sm := q2 rfl
            simp only [Bool.not_true]
            rw [chk_t (by omega)]
            obtain ⟨nx, e, p1, p2⟩ := apply_ok hf hx hn.2 hxa (hl j hj) (by omega) q1 sm
            rw [p1, Option.bind_some]
            by_cases he : e = 0
            · subst he
              have A := p2 rfl
              rw [show ((0 : Int) != 0) = false from rfl]
              simp only
              obtain ⟨r5, s1, s2, s3⟩ := alone_ok (fu := fu) (a := x) (b := nx) (by have := A.len; omega) (by have := A.len; omega) fun i hi => by
                have := A.acts _ (ls_mem.2 ⟨i, hi, rfl⟩); omega
              obtain ⟨r6, t1, t2, t3⟩ := alone_ok (fu := fu) (a := nx) (b := x) (by have := A.len; omega) (by have := A.len; omega) fun i hi => by
                have := A.acts' _ (ls_mem.2 ⟨i, hi, rfl⟩); omega
              have hlen := A.len
              rw [show F_ref04_Alone_own fu x nx = F_ref04_Alone fu x nx from rfl, s1, Option.bind_some, t1, Option.bind_some, chk_t (room_big (by omega) (by omega))]
              have wi : ∀ c ∈ ls (r5.1 + r6.1, fun i => if i < r5.1 then r5.2 i else r6.2 (i - r5.1)), UC c.f0 ∧ wn c.f0 (l.2 j).f1.f1 = true := fun c hc => by
                rw [ls_cat] at hc
                rcases List.mem_append.1 hc with h | h
                · obtain ⟨g1, g2⟩ := s2 c h
                  refine ⟨?_, A.gone c g1 g2⟩
                  obtain ⟨i, hi, rfl⟩ := ls_mem.1 g1
                  exact hx i hi
                · obtain ⟨g1, g2⟩ := t2 c h
                  exact ⟨A.uc c g1 g2, A.come c g1 g2⟩
              have hin : toReg (l.2 j) ∈ (ls l).map toReg := List.mem_map.2 ⟨_, ls_mem.2 ⟨j, hj, rfl⟩, rfl⟩
              obtain ⟨g, hg1, hg2⟩ := L.above totR covR hG hin sm
              obtain ⟨n, hn1, hn2⟩ := ls_mem.1 hg1
              obtain ⟨w1, w2⟩ := wr_iff.1 hg2
              rw [holds_L2 hf x hr (by omega) hj (show r5.1 + r6.1 ≤ 200 by omega) (fun c hc => (wi c hc).1) fun c hc => ⟨n, hn1, by rw [hn2]; exact w1.symm, by
                rw [hn2]
                exact cov.trans _ _ _ (wi c hc).1 (hl j hj) (by rw [← hn2]; exact hr n hn1) (wi c hc).2 w2⟩]
              exact .inl ⟨_, rfl, rfl⟩
            · rw [bne_iff_ne.2 he]
              exact .inl ⟨_, rfl, rfl⟩)
      (fun s es => by
        subst es
        refine ⟨(), ?_, trivial⟩
        simp only [F_law19_RegionHolds_L1]
        rw [decide_eq_false (by omega)]; rfl)
      l.1 0 fu (0 : Int) (by omega) (by omega) rfl
    rw [h1]
    cases e with
    | inl e =>
      simp only [after]
      rw [answers_ok hf]; rfl
    | inr v => rw [show v = true from h2]; rfl

theorem bound_ex (f : Nat → Nat) : ∀ n, ∃ b, ∀ i, i < n → f i < b
  | 0 => ⟨0, fun i hi => absurd hi (Nat.not_lt_zero i)⟩
  | n + 1 => by
    obtain ⟨b, h⟩ := bound_ex f n
    refine ⟨b + f n + 1, fun i hi => ?_⟩
    by_cases e : i = n
    · subst e; omega
    · have := h i (by omega); omega

theorem maxLen_le : maxLen ≤ 9223372036854775807 := by unfold maxLen; decide

theorem pl_RegionHolds (x0 : Ru) (w0 : x0.1 ≤ maxLen ∧ ∀ i, i < x0.1 → S_api_Rule.wf (x0.2 i)) (x1 : Chs) (w1 : x1.1 ≤ maxLen ∧ ∀ i, i < x1.1 → S_api_Change.wf (x1.2 i)) : ∃ fu, F_law19_RegionHolds fu x0 x1 = some true := by
  obtain ⟨b, hb⟩ := bound_ex (fun i => (x0.2 i).f2.1) x0.1
  refine ⟨300 + b, holds (by omega) (fun i hi => uc_wf (w0.2 i hi).1) (fun i hi => ⟨by have : (x0.2 i).f2.1 < b := hb i hi; omega, Nat.le_trans (w0.2 i hi).2.2.1.1 maxLen_le⟩) fun i hi => uc_wf (w1.2 i hi).2.1.2.1⟩

end Go.Proofs.Ytffkolbogcpjjaa
