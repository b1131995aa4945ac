/- Regions: what a program that does nothing does not answer. -/
import Derived.Test.YtffkolbogcpjjaaRoA
namespace Go.Proofs.Ytffkolbogcpjjaa
open Go Go.Pod Go.Proofs Go.Sort Go.Shelf

/-! ### answers -/

def ch3 : Chs := (3, (fun i => ([(S_api_Change.mk (2 : Int) S_api_Mod.z), (S_api_Change.mk (1 : Int) S_api_Mod.z), (S_api_Change.mk (2 : Int) S_api_Mod.z)] : List S_api_Change).getD i S_api_Change.z))
def RA : S_api_Region := ⟨2, zc⟩
def RB : S_api_Region := ⟨1, zc⟩

theorem rc_BA : rc RB RA = -1 := by unfold rc RB RA; rfl
theorem lnr3 {E : List S_api_Region} (L : Lnr [RA, RB, RA] E) : E = [RB, RA] := by
  have hE : ∀ c ∈ E, c = RA ∨ c = RB := fun c hc => by
    have := (L.sub c hc).1
    simp only [List.mem_cons, List.not_mem_nil, or_false] at this
    rcases this with h | h | h
    · exact .inl h
    · exact .inr h
    · exact .inl h
  have top : ∀ c, c = RA ∨ c = RB → ∀ d ∈ [RA, RB, RA], sndR d = true → wr c d = true → eqr d c = true := fun c hc d hd _ hw => by
    have hd' : d = RA ∨ d = RB := by
      simp only [List.mem_cons, List.not_mem_nil, or_false] at hd
      rcases hd with h | h | h
      · exact .inl h
      · exact .inr h
      · exact .inl h
    rcases hc with rfl | rfl <;> rcases hd' with rfl | rfl
    · exact totR.refl _
    · have := (wr_iff.1 hw).1; cases this
    · have := (wr_iff.1 hw).1; cases this
    · exact totR.refl _
  have hA : RA ∈ E := by
    obtain ⟨e, he, ke⟩ := L.all RA (by simp) snd_zc (top RA (.inl rfl))
    rcases hE e he with rfl | rfl
    · exact he
    · have := (eqr_iff.1 ke).1; cases this
  have hB : RB ∈ E := by
    obtain ⟨e, he, ke⟩ := L.all RB (by simp) snd_zc (top RB (.inr rfl))
    rcases hE e he with rfl | rfl
    · have := (eqr_iff.1 ke).1; cases this
    · exact he
  have hz : ∀ x : S_api_Region, ¬ rc x x < 0 := fun x h => by have := rc_swap x x; omega
  have hAB : ¬ rc RA RB < 0 := fun h => by have := rc_swap RB RA; have := rc_BA; omega
  match E, L.srt, hE, hA, hB with
  | [], _, _, h, _ => cases h
  | [a], _, _, h1, h2 =>
    simp at h1 h2
    rw [← h1] at h2; cases h2
  | [a, b], h, h1, h2, h3 =>
    have hab := (List.pairwise_cons.1 h).1 b (by simp)
    rcases h1 a (by simp) with rfl | rfl <;> rcases h1 b (by simp) with rfl | rfl
    · exact absurd hab (hz _)
    · exact absurd hab hAB
    · rfl
    · exact absurd hab (hz _)
  | a :: b :: c :: E, h, h1, _, _ =>
    obtain ⟨p1, p2⟩ := List.pairwise_cons.1 h
    have hab := p1 b (by simp)
    have hac := p1 c (by simp)
    have hbc := (List.pairwise_cons.1 p2).1 c (by simp)
    exfalso
    rcases h1 a (by simp) with rfl | rfl
    · rcases h1 b (by simp) with rfl | rfl
      · exact hz _ hab
      · rcases h1 c (by simp) with rfl | rfl
        · exact hz _ hac
        · exact hz _ hbc
    · rcases h1 b (by simp) with rfl | rfl
      · rcases h1 c (by simp) with rfl | rfl
        · exact hz _ hbc
        · exact hz _ hac
      · exact hz _ hab

/-! ### Touching -/

def tq (x y : S_api_Region) : Bool := bif mok x.f1 y.f1 then x.f0 == y.f0 else false
def tcR (a b : Rs) : Bool := (List.range a.1).any fun i => (List.range b.1).any fun j => tq (a.2 i) (b.2 j)

theorem stop_any (q : Nat → Bool) (n : Nat) : (decide ((match stopAt (fun j => !q j) n 0 with | none => (-1 : Int) | some m => (m : Int)) ≥ 0)) = (List.range n).any q := by
  cases h : stopAt (fun j => !q j) n 0 with
  | none =>
    have h2 := (stopAt_all n 0).1 h
    rw [decide_eq_false (by decide)]
    symm
    rw [List.any_eq_false]
    intro i hi
    have := h2 i (by simpa using hi)
    simpa using this
  | some m =>
    obtain ⟨_, h2, h3, _⟩ := stopAt_some h
    rw [decide_eq_true (by show (m : Int) ≥ 0; omega)]
    symm
    rw [List.any_eq_true]
    exact ⟨m, by simpa using h2, by simpa using h3⟩

theorem touch_11 {fu : Nat} (hf : 300 ≤ fu) {x : S_api_Region} (hx : UC x.f1) {b : Rs} (hb : URs b) (hn : b.1 ≤ 100) : F_slices_ContainsFunc_api_Region_region_Touch_1_1 fu b x = some ((List.range b.1).any fun j => tq x (b.2 j)) := by
  unfold F_slices_ContainsFunc_api_Region_region_Touch_1_1 F_slices_IndexFunc_api_Region_region_Touch_1_1
  rw [show (0 : Int) = (fun i : Nat => (i : Int)) 0 from rfl, iter_scan (fun i : Nat => (i : Int)) (fun j => !tq x (b.2 j)) (fun i => (i : Int)) (e := ()) b.1 0 fu (by omega)]
  · rw [← stop_any]
    cases stopAt (fun j => !tq x (b.2 j)) b.1 0 <;> rfl
  · intro i _ h2
    unfold F_slices_IndexFunc_api_Region_region_Touch_1_1_L1 F_region_Touch_1_1
    rw [decide_eq_true (show (i : Int) < (b.1 : Int) by omega), ifs, chk_t (by omega), Int.toNat_natCast, cube_meet (by omega) hx (hb i (by omega)), Option.bind_some, Option.bind_some, wrap_succ (by omega)]
    unfold tq
    cases mok x.f1 (b.2 i).f1 <;> cases h : (x.f0 == (b.2 i).f0) <;> simp [ifs]
  · rw [Nat.zero_add]
    unfold F_slices_IndexFunc_api_Region_region_Touch_1_1_L1
    rw [decide_eq_false (by omega)]; rfl

theorem region_touch {fu : Nat} (hf : 300 ≤ fu) {a b : Rs} (ha : URs a) (hb : URs b) (hn : a.1 ≤ 100) (hm : b.1 ≤ 100) : F_region_Touch fu a b = some (tcR a b) := by
  unfold F_region_Touch F_slices_ContainsFunc_api_Region_region_Touch_1 F_slices_IndexFunc_api_Region_region_Touch_1
  rw [show (0 : Int) = (fun i : Nat => (i : Int)) 0 from rfl, iter_scan (fun i : Nat => (i : Int)) (fun i => !((List.range b.1).any fun j => tq (a.2 i) (b.2 j))) (fun i => (i : Int)) (e := ()) a.1 0 fu (by omega)]
  · unfold tcR
    rw [← stop_any]
    cases stopAt (fun i => !((List.range b.1).any fun j => tq (a.2 i) (b.2 j))) a.1 0 <;> rfl
  · intro i _ h2
    unfold F_slices_IndexFunc_api_Region_region_Touch_1_L1 F_region_Touch_1
    rw [decide_eq_true (show (i : Int) < (a.1 : Int) by omega), ifs, chk_t (by omega), Int.toNat_natCast, touch_11 hf (ha i (by omega)) hb hm, Option.bind_some, Option.bind_some, wrap_succ (by omega)]
    cases (List.range b.1).any fun j => tq (a.2 i) (b.2 j) <;> simp [ifs]
  · rw [Nat.zero_add]
    unfold F_slices_IndexFunc_api_Region_region_Touch_1_L1
    rw [decide_eq_false (by omega)]; rfl


theorem answers_ok {fu : Nat} (hf : 300 ≤ fu) : F_law19_answers fu = some true := by
  have uch : ∀ i, i < ch3.1 → UC (ch3.2 i).f1.f1 := fun i hi => by
    have : i = 0 ∨ i = 1 ∨ i = 2 := by have : i < 3 := hi; omega
    rcases this with rfl | rfl | rfl <;> exact uc_zc
  obtain ⟨r, h1, h2, _⟩ := of_ok (fu := fu) (by omega) uch (show 3 < fu by omega) (show 3 ≤ 100000 by decide)
  have h3 := lnr3 (show Lnr [RA, RB, RA] (ls r) from h2)
  have hl : r.1 = 2 := by have := ls_len r; rw [h3] at this; exact this.symm
  have r0 : r.2 0 = RB := by have := ls_get r 0 (by omega); rw [h3] at this; simpa using this.symm
  have ur : URs r := fun i hi => by
    have hm : r.2 i ∈ ls r := ls_mem.2 ⟨i, hi, rfl⟩
    rw [h3] at hm
    simp only [List.mem_cons, List.not_mem_nil, or_false] at hm
    rcases hm with h | h <;> (show UC (r.2 i).f1) <;> rw [h] <;> exact uc_zc
  have ht : tcR r r = true := by
    unfold tcR
    rw [List.any_eq_true]
    refine ⟨0, List.mem_range.2 (by omega), List.any_eq_true.2 ⟨0, List.mem_range.2 (by omega), ?_⟩⟩
    rw [r0]
    have hw : wn zc zc = true := wn_le uc_zc uc_zc (eqc_refl _) snd_zc
    have := (Bool.and_eq_true_iff.1 hw).1
    unfold tq
    rw [show mok RB.f1 RB.f1 = true from this]; simp
  unfold F_law19_answers
  show (F_region_Of fu ch3).bind _ = _
  rw [h1, Option.bind_some, hl, chk_t (fun _ => by omega), show (0 : Int).toNat = 0 from rfl, r0, region_touch hf ur ur (by omega) (by omega), ht]
  rfl

end Go.Proofs.Ytffkolbogcpjjaa
