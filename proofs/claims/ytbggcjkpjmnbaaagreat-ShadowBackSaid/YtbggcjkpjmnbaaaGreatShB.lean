/- ShadowBack's plain law. -/
import Derived.Test.YtbggcjkpjmnbaaaGreatShT
import Derived.Test.YtbggcjkpjmnbaaaGreatPodN
namespace Go.Proofs.YtbggcjkpjmnbaaaGreat
open Go Go.Pod

theorem answers_ok (k : Nat) : F_law22_answers (k + 30) = some true := by kernel_rfl

abbrev Bs := Nat × (Nat → Ru)
def B0 : Bs := (3, fun _ => ((0, fun _ => S_api_Rule.z) : Ru))
def S0 : S_shadow_Shadow := ⟨B0, (0, fun _ => S_shadow_open.z)⟩
def opn (s : S_shadow_Shadow) (id : Int) (l : Chs) : S_shadow_Shadow := ⟨s.f0, ((s.f1.1 + 1), (fun i => if i < s.f1.1 then s.f1.2 i else (fun i => ([(S_shadow_open.mk id l)] : List S_shadow_open).getD i S_shadow_open.z) (i - s.f1.1)))⟩

theorem new3 : F_shadow_New (3 : Int) = some S0 := by kernel_rfl

theorem find0 (k : Nat) (id : Int) : F_shadow_Shadow_find (k + 10) S0 id = some (-1) := by kernel_rfl
theorem find1 (k : Nat) (l : Chs) : F_shadow_Shadow_find (k + 10) (opn S0 1 l) 2 = some (-1) := by kernel_rfl

theorem cloneC_eq {l : Chs} (h : l.1 ≤ 10) : F_slices_Clone_api_Change l = some l := by
  unfold F_slices_Clone_api_Change chk
  rw [if_pos ⟨by omega, by omega⟩]

theorem begin_ok {fu : Nat} {s : S_shadow_Shadow} {id : Int} {l : Chs} (hf : F_shadow_Shadow_find fu s id = some (-1)) (hl : l.1 ≤ 10) (hs : s.f1.1 ≤ 5) (hfu : 10 < fu) :
    ∃ e s', F_shadow_Shadow_Begin fu s id l = some (e, s') ∧ (e = 0 ∧ s' = opn s id l ∨ e = 1 ∧ s' = s) := by
  obtain ⟨r, h1, _⟩ := ((t_scan (fu := fu) (n := l.1) (by omega) (by omega) (L := fun t => F_slices_IndexFunc_api_Change_shadow_Shadow_Begin_1_L1 fu l ((l.1 : Nat) : Int) s t) (G := fun i => F_shadow_Shadow_Begin_1 (l.2 i) s) (fun i _ => Tot.ret trivial) (fun _ => rfl)).bind (f := fun r0 => some (decide (r0 ≥ (0 : Int)))) fun _ _ => Tot.ret (P := Any1) trivial)
  have h2 : F_slices_ContainsFunc_api_Change_shadow_Shadow_Begin_1 fu l s = some r := h1
  unfold F_shadow_Shadow_Begin
  rw [hf, Option.bind_some, h2, Option.bind_some, show decide ((-1 : Int) ≥ 0) = false from rfl]
  cases r with
  | true => exact ⟨1, s, rfl, .inr ⟨rfl, rfl⟩⟩
  | false =>
    simp only [ifs]
    rw [cloneC_eq hl, Option.bind_some]
    unfold chk
    rw [if_pos ⟨by omega, by omega⟩]
    exact ⟨0, _, rfl, .inl ⟨rfl, rfl⟩⟩

/-- Tables with all that is open: an answer there is. -/
theorem t_tableS {B fu : Nat} (hB : BOk B fu) {s : S_shadow_Shadow} (h0 : s.f0.1 = 3) (h1 : s.f1.1 ≤ 5) (hb : Gd 0 B (s.f0.2 0)) (ho : ∀ i, i < s.f1.1 → COk 10 B (s.f1.2 i).f1) : Tot (F_shadow_Shadow_Table fu s 0) Any1 := by
  unfold F_shadow_Shadow_Table
  refine Tot.ifs (fun _ => Tot.ret trivial) fun _ => Tot.chk (by rw [h0]; omega) <| Tot.chk (by rw [h0]; decide) <| ?_
  refine Tot.after (X := Gd 50 B) (Tot.iter (I := fun i s' => ∃ q, s' = (q, (i : Int)) ∧ Gd (10 * i) B q) s.f1.1 (by have := hB.fu; omega) (fun i s' hi hs => ?_) (fun s' hs => ?_) ⟨_, rfl, hb⟩) fun e he => (t_copy hB (by decide) he).bind fun _ _ => Tot.ret trivial
  · obtain ⟨q, rfl, hq⟩ := hs
    show Tot (F_shadow_Shadow_Table_L1 fu 0 ((s.f1.1 : Nat) : Int) s q (i : Int)) _
    unfold F_shadow_Shadow_Table_L1
    exact Tot.ifs (fun _ => Tot.chk (by omega) <| Tot.chk (by omega) <| (t_for hB (by decide) (ho i hi) _).bind fun r0 hr0 => (t_laid hB (n := 10 * i) (k := 10) (by omega) hq hr0).bind fun r1 hr1 => Tot.ret ⟨r1.1, by rw [wr (by omega)], by rw [show 10 * (i + 1) = 10 * i + 10 by omega]; exact hr1⟩) (fun _ => Tot.ret (hq.mono (by omega)))
  · obtain ⟨q, rfl, hq⟩ := hs
    show Tot (F_shadow_Shadow_Table_L1 fu 0 ((s.f1.1 : Nat) : Int) s q ((s.f1.1 : Nat) : Int)) _
    exact Tot.ifs (fun h => absurd (of_decide_eq_true h) (by omega)) (fun _ => Tot.ret (hq.mono (by omega)))

theorem table1 {k : Nat} {s : S_shadow_Shadow} {r0 : Mo} {r1 : Ru × (Nat × (Nat → S_undo_Patch))} (h0 : s.f0.1 = 3) (h1 : s.f1.1 = 1) (hF : F_region_For (k + 3) (s.f1.2 0).f1 0 = some r0) (hL : F_shadow_laid (k + 3) (s.f0.2 0) r0 = some r1) :
    F_shadow_Shadow_Table (k + 3) s 0 = F_rule_Copy (k + 3) r1.1 := by
  have e1 : F_shadow_Shadow_Table_L1 (k + 3) 0 ((s.f1.1 : Nat) : Int) s (s.f0.2 0) 0 = some (.next (r1.1, 1)) := by
    unfold F_shadow_Shadow_Table_L1 chk
    rw [h1]
    have hF' : F_region_For (k + 3) (s.f1.2 (0 : Int).toNat).f1 0 = some r0 := hF
    rw [if_pos (by decide), if_pos (by decide), hF', Option.bind_some, hL]
    rfl
  have e2 : F_shadow_Shadow_Table_L1 (k + 3) 0 ((s.f1.1 : Nat) : Int) s r1.1 1 = some (.exit r1.1) := by
    unfold F_shadow_Shadow_Table_L1
    rw [h1]
    rfl
  unfold F_shadow_Shadow_Table chk
  rw [h0, if_pos (by decide), if_pos (by decide)]
  have e3 : iter (fun s' => F_shadow_Shadow_Table_L1 (k + 3) 0 ((s.f1.1 : Nat) : Int) s s'.1 s'.2) (k + 3) (s.f0.2 (0 : Int).toNat, (0 : Int)) = some (.inl r1.1) := by
    refine (iter_next (s' := (r1.1, (1 : Int))) e1).trans (iter_exit e2)
  show after (iter (fun s' => F_shadow_Shadow_Table_L1 (k + 3) 0 ((s.f1.1 : Nat) : Int) s s'.1 s'.2) (k + 3) (s.f0.2 (0 : Int).toNat, (0 : Int))) _ = _
  rw [e3]
  show (F_rule_Copy (k + 3) r1.1).bind some = _
  cases F_rule_Copy (k + 3) r1.1 <;> rfl

theorem table0 {k : Nat} {s : S_shadow_Shadow} (h0 : s.f0.1 = 3) (h1 : s.f1.1 = 0) : F_shadow_Shadow_Table (k + 3) s 0 = F_rule_Copy (k + 3) (s.f0.2 0) := by
  have e2 : F_shadow_Shadow_Table_L1 (k + 3) 0 ((s.f1.1 : Nat) : Int) s (s.f0.2 0) 0 = some (.exit (s.f0.2 0)) := by
    unfold F_shadow_Shadow_Table_L1
    rw [h1]
    rfl
  unfold F_shadow_Shadow_Table chk
  rw [h0, if_pos (by decide), if_pos (by decide)]
  have e3 : iter (fun s' => F_shadow_Shadow_Table_L1 (k + 3) 0 ((s.f1.1 : Nat) : Int) s s'.1 s'.2) (k + 3) (s.f0.2 (0 : Int).toNat, (0 : Int)) = some (.inl (s.f0.2 0)) := iter_exit e2
  show after (iter (fun s' => F_shadow_Shadow_Table_L1 (k + 3) 0 ((s.f1.1 : Nat) : Int) s s'.1 s'.2) (k + 3) (s.f0.2 (0 : Int).toNat, (0 : Int))) _ = _
  rw [e3]
  show (F_rule_Copy (k + 3) (s.f0.2 0)).bind some = _
  cases F_rule_Copy (k + 3) (s.f0.2 0) <;> rfl

def S3 (k : Nat) (l m : Chs) : S_shadow_Shadow := ((F_shadow_Shadow_Abort (k + 10) (opn (opn S0 1 l) 2 m) 2).getD (0, S0)).2
theorem abort2 (k : Nat) (l m : Chs) : F_shadow_Shadow_Abort (k + 10) (opn (opn S0 1 l) 2 m) 2 = some (0, S3 k l m) := by kernel_rfl
theorem s3_0 (k : Nat) (l m : Chs) : (S3 k l m).f0 = B0 := by kernel_rfl
theorem s3_1 (k : Nat) (l m : Chs) : (S3 k l m).f1.1 = 1 := by kernel_rfl
theorem s3_2 (k : Nat) (l m : Chs) : ((S3 k l m).f1.2 0) = ⟨1, l⟩ := by kernel_rfl
def S4 (k : Nat) (l m : Chs) : S_shadow_Shadow := ((F_shadow_Shadow_end (k + 10) (S3 k l m) 1).getD (S_shadow_open.z, 0, S0)).2.2
theorem end1 (k : Nat) (l m : Chs) : F_shadow_Shadow_end (k + 10) (S3 k l m) 1 = some (⟨1, l⟩, 0, S4 k l m) := by kernel_rfl
theorem s4_0 (k : Nat) (l m : Chs) : (S4 k l m).f0 = B0 := by kernel_rfl
theorem s4_1 (k : Nat) (l m : Chs) : (S4 k l m).f1.1 = 0 := by kernel_rfl
theorem end2 (k : Nat) (l m : Chs) (b : Bs) : F_shadow_Shadow_end (k + 10) ⟨b, (S4 k l m).f1⟩ 1 = some (⟨0, (0, fun _ => S_api_Change.z)⟩, 4, ⟨b, (S4 k l m).f1⟩) := by kernel_rfl

theorem commit1 {B k : Nat} (hB : BOk B (k + 10)) {l : Chs} (hl : COk 10 B l) (m : Chs) {r0 : Mo} {r1 : Ru × (Nat × (Nat → S_undo_Patch))} (hF : F_region_For (k + 10) l 0 = some r0) (hL : F_shadow_laid (k + 10) (B0.2 0) r0 = some r1) :
    ∃ s, F_shadow_Shadow_Commit (k + 10) (S3 k l m) 1 = some (0, s) ∧ s.f0.1 = 3 ∧ s.f1 = (S4 k l m).f1 ∧ s.f0.2 0 = r1.1 := by
  have main : Tot (F_shadow_Shadow_Commit (k + 10) (S3 k l m) 1) (fun q => q.1 = 0 ∧ q.2.f0.1 = 3 ∧ q.2.f1 = (S4 k l m).f1 ∧ q.2.f0.2 0 = r1.1) := by
    unfold F_shadow_Shadow_Commit
    rw [end1, Option.bind_some]
    refine Tot.ifs (fun h => by simp at h) fun _ => ?_
    have h3 : (S4 k l m).f0.1 = 3 := by rw [s4_0]; rfl
    refine Tot.after (X := fun s : S_shadow_Shadow => s.f0.1 = 3 ∧ s.f1 = (S4 k l m).f1 ∧ s.f0.2 0 = r1.1)
      (Tot.iter (I := fun i s' => ∃ s, s' = ((i : Int), s) ∧ s.f0.1 = 3 ∧ s.f1 = (S4 k l m).f1 ∧ (i = 0 → s.f0 = B0) ∧ (∀ u, i ≤ u → Gd 0 B (s.f0.2 u)) ∧ (1 ≤ i → s.f0.2 0 = r1.1)) 3 (by omega) (fun i s' hi hs => ?_) (fun s' hs => ?_) ⟨_, rfl, h3, rfl, fun _ => s4_0 k l m, fun u _ => by rw [s4_0]; exact Gd.nil, fun h => absurd h (by decide)⟩) fun e he => Tot.ret ⟨rfl, he⟩
    · obtain ⟨s, rfl, q1, q2, q3, q4, q5⟩ := hs
      show Tot (F_shadow_Shadow_Commit_L1 (k + 10) (((S4 k l m).f0.1 : Nat) : Int) ⟨1, l⟩ (i : Int) s) _
      unfold F_shadow_Shadow_Commit_L1
      rw [h3]
      refine Tot.ifs (fun _ => Tot.chk (by omega) <| Tot.chk (by omega) <| ?_) (fun h => absurd (of_decide_eq_false h) (by omega))
      by_cases hi0 : i = 0
      · subst hi0
        have hF' : F_region_For (k + 10) (S_shadow_open.mk 1 l).f1 ((0 : Nat) : Int) = some r0 := hF
        have hL' : F_shadow_laid (k + 10) (s.f0.2 ((0 : Nat) : Int).toNat) r0 = some r1 := by rw [q3 rfl]; exact hL
        rw [hF', Option.bind_some, hL', Option.bind_some]
        refine Tot.chk (by omega) <| Tot.chk (by omega) <| Tot.ret ⟨⟨(s.f0.1, fun j => if j = ((0 : Nat) : Int).toNat then r1.1 else s.f0.2 j), s.f1⟩, by rw [wr (by omega)], q1, q2, nofun, fun u hu => ?_, fun _ => ?_⟩
        · show Gd 0 B (if u = ((0 : Nat) : Int).toNat then r1.1 else s.f0.2 u)
          rw [if_neg (by simp; omega)]; exact q4 u (Nat.zero_le _)
        · show (if 0 = ((0 : Nat) : Int).toNat then r1.1 else s.f0.2 0) = r1.1
          exact if_pos rfl
      · refine (t_for hB (by decide) hl _).bind fun r0' h0' => (t_laid hB (n := 0) (k := 10) (by decide) (q4 i (Nat.le_refl _)) h0').bind fun r1' _ => Tot.chk (by omega) <| Tot.chk (by omega) <| Tot.ret ⟨⟨(s.f0.1, fun j => if j = ((i : Nat) : Int).toNat then r1'.1 else s.f0.2 j), s.f1⟩, by rw [wr (by omega)], q1, q2, nofun, fun u hu => ?_, fun _ => ?_⟩
        · show Gd 0 B (if u = ((i : Nat) : Int).toNat then r1'.1 else s.f0.2 u)
          rw [if_neg (by simp; omega)]; exact q4 u (by omega)
        · show (if 0 = ((i : Nat) : Int).toNat then r1'.1 else s.f0.2 0) = r1.1
          rw [if_neg (by simp; omega)]; exact q5 (by omega)
    · obtain ⟨s, rfl, q1, q2, q3, q4, q5⟩ := hs
      show Tot (F_shadow_Shadow_Commit_L1 (k + 10) (((S4 k l m).f0.1 : Nat) : Int) ⟨1, l⟩ ((3 : Nat) : Int) s) _
      unfold F_shadow_Shadow_Commit_L1
      rw [h3]
      exact Tot.ifs (fun h => absurd (of_decide_eq_true h) (by omega)) (fun _ => Tot.ret ⟨q1, q2, q5 (by decide)⟩)
  obtain ⟨⟨e, s⟩, h1, rfl, h2⟩ := main
  exact ⟨s, h1, h2⟩

/-! ### The same -/

theorem all_refl (f : Nat → Int) : ((List.range 12).all fun i => f i == f i) = true := by simp
theorem keyr (a : S_api_Rule) : F_ref04_Key a a = some true := by
  unfold F_ref04_Key
  rw [all_refl, all_refl]; simp

theorem actsr {fu : Nat} {a : Nat × (Nat → S_api_Act)} (hn : a.1 < fu) (hb : a.1 < 4611686018427387904) : Tot (F_ref04_SameActs fu a a) (fun b => b = true) := by
  refine Tot.ifs (fun h => absurd h (by simp)) fun _ => ?_
  refine Tot.after (X := Any1) (Tot.iter (I := fun i s => s = (i : Int)) a.1 hn (fun i s hi hs => ?_) (fun s hs => ?_) rfl) fun _ _ => Tot.ret rfl
  · subst hs
    exact Tot.ifs (fun _ => Tot.chk (by omega) <| Tot.chk (by omega) <| Tot.ifs (fun h => absurd h (by simp)) (fun _ => Tot.ret (wr (by omega)))) (fun _ => Tot.ret trivial)
  · subst hs
    exact Tot.ifs (fun h => absurd (of_decide_eq_true h) (by omega)) (fun _ => Tot.ret trivial)

theorem equalr {B fu : Nat} (hB : BOk B fu) {a : S_api_Rule} (ha : a.f2.1 ≤ B) : F_ref04_Equal fu a a = some true := by
  obtain ⟨_, h1, rfl⟩ := actsr (fu := fu) (hB.lt ha) (hB.lt2 ha)
  unfold F_ref04_Equal
  rw [keyr, Option.bind_some]
  simp only [callIf]
  rw [h1, Option.bind_some]
  simp

theorem samer {B fu n : Nat} (hB : BOk B fu) (hn : n ≤ 900) {r : Ru} (h : Gd n B r) : F_ref04_Same fu r r = some true := by
  have hlen := h.len
  have main : Tot (F_ref04_Same fu r r) (fun b => b = true) := by
    refine Tot.ifs (fun h => absurd h (by simp)) fun _ => ?_
    refine Tot.after (X := Any1) (Tot.iter (I := fun i s => s = (i : Int)) r.1 (by have := hB.fu; omega) (fun i s hi hs => ?_) (fun s hs => ?_) rfl) fun _ _ => Tot.ret rfl
    · subst hs
      show Tot (F_ref04_Same_L1 fu r r (i : Int)) _
      unfold F_ref04_Same_L1
      have e : F_ref04_Equal fu (r.2 (i : Int).toNat) (r.2 (i : Int).toNat) = some true := equalr hB (h.acts i hi)
      rw [e]
      refine Tot.ifs (fun _ => Tot.chk (by omega) <| Tot.chk (by omega) <| ?_) (fun _ => Tot.ret trivial)
      rw [Option.bind_some]
      exact Tot.ifs (fun h => by simp at h) (fun _ => Tot.ret (wr (by omega)))
    · subst hs
      exact Tot.ifs (fun h => absurd (of_decide_eq_true h) (by omega)) (fun _ => Tot.ret trivial)
  obtain ⟨_, h1, rfl⟩ := main
  exact h1

theorem open0 (k : Nat) {s : S_shadow_Shadow} (h1 : s.f1.1 = 0) : ∃ r, F_shadow_Shadow_Open (k + 3) s = some r ∧ r.1 = 0 := by
  unfold F_shadow_Shadow_Open
  have e : F_shadow_Shadow_Open_L1 (k + 3) ((s.f1.1 : Nat) : Int) s 0 (0, fun _ => 0) = some (.exit (0, fun _ => 0)) := by
    unfold F_shadow_Shadow_Open_L1
    rw [h1]
    rfl
  rw [iter_exit e]
  exact ⟨_, rfl, rfl⟩

theorem ints0 (k : Nat) {r : Nat × (Nat → Int)} (h : r.1 = 0) (f : Nat → Int) : F_ref01_Ints (k + 3) r (0, f) = some true := by
  unfold F_ref01_Ints
  have e : F_ref01_Ints_L1 (k + 3) r (0, f) 0 = some (.exit ()) := by
    unfold F_ref01_Ints_L1
    rw [h]
    rfl
  rw [h, iter_exit e]
  rfl

/-! ### The law -/

theorem back {B k : Nat} (hB : BOk B (k + 1000)) {l m : Chs} (hl : ∀ i, i < l.1 → (l.2 i).f1.f3.1 ≤ B) (hm : ∀ i, i < m.1 → (m.2 i).f1.f3.1 ≤ B) (o : Bool) : F_law22_ShadowBack (k + 1000) l m o = some true := by
  have ans : F_law22_answers (k + 1000) = some true := answers_ok (k + 970)
  unfold F_law22_ShadowBack
  by_cases hg : l.1 ≤ 10 ∧ m.1 ≤ 10
  case neg =>
    have e : (bif (decide (((l.1 : Nat) : Int) > (10 : Int))) then true else (decide (((m.1 : Nat) : Int) > (10 : Int)))) = true := by
      by_cases h1 : ((l.1 : Nat) : Int) > 10
      · rw [decide_eq_true h1]; rfl
      · rw [decide_eq_false h1, cond_false]; exact decide_eq_true (by omega)
    rw [e, ifs, ans]; rfl
  have e : (bif (decide (((l.1 : Nat) : Int) > (10 : Int))) then true else (decide (((m.1 : Nat) : Int) > (10 : Int)))) = false := by
    rw [decide_eq_false (by omega), cond_false]; exact decide_eq_false (by omega)
  have cl : COk 10 B l := ⟨hg.1, hl⟩
  have cm : COk 10 B m := ⟨hg.2, hm⟩
  rw [e, ifs, new3, Option.bind_some]
  obtain ⟨e1, s1, h1, c1⟩ := begin_ok (fu := k + 1000) (find0 (k + 990) 1) hg.1 (show S0.f1.1 ≤ 5 by decide) (by omega)
  rw [h1, Option.bind_some]
  have hs1 : s1.f0 = B0 ∧ s1.f1.1 ≤ 1 ∧ (∀ i, i < s1.f1.1 → COk 10 B (s1.f1.2 i).f1) ∧ F_shadow_Shadow_find (k + 1000) s1 2 = some (-1) := by
    rcases c1 with ⟨_, rfl⟩ | ⟨_, rfl⟩
    · refine ⟨rfl, Nat.le_refl 1, fun i hi => ?_, find1 (k + 990) l⟩
      have : i = 0 := by have : i < 0 + 1 := hi; omega
      subst this
      exact cl
    · exact ⟨rfl, Nat.zero_le 1, fun i hi => absurd hi (Nat.not_lt_zero i), find0 (k + 990) 2⟩
  obtain ⟨r3, h3, _⟩ := t_tableS hB (s := s1) (by rw [hs1.1]; rfl) (by have := hs1.2.1; omega) (by rw [hs1.1]; exact Gd.nil) hs1.2.2.1
  rw [h3, Option.bind_some]
  obtain ⟨e2, s2, h4, c2⟩ := begin_ok (fu := k + 1000) hs1.2.2.2 hg.2 (by have := hs1.2.1; omega) (by omega)
  rw [h4, Option.bind_some]
  rcases c1 with ⟨rfl, rfl⟩ | ⟨rfl, rfl⟩
  case inr => rw [show (bif ((1 : Int) != (0 : Int)) then true else (e2 != (0 : Int))) = true from rfl, ifs, ans]; rfl
  rcases c2 with ⟨rfl, rfl⟩ | ⟨rfl, rfl⟩
  case inr => rw [show (bif ((0 : Int) != (0 : Int)) then true else ((1 : Int) != (0 : Int))) = true from rfl, ifs, ans]; rfl
  rw [show (bif ((0 : Int) != (0 : Int)) then true else ((0 : Int) != (0 : Int))) = false from rfl, ifs, abort2 (k + 990) l m, Option.bind_some]
  obtain ⟨r0, hF, hM⟩ := t_for hB (by decide) cl 0
  obtain ⟨r1, hL, hG⟩ := t_laid hB (n := 0) (k := 10) (by decide) (r := B0.2 0) Gd.nil hM
  obtain ⟨r, hC, hGr⟩ := t_copy hB (by decide) hG
  have t1 : F_shadow_Shadow_Table (k + 1000) (opn S0 1 l) 0 = some r := (table1 (k := k + 997) (s := opn S0 1 l) rfl rfl hF hL).trans hC
  have t2 : F_shadow_Shadow_Table (k + 1000) (S3 (k + 990) l m) 0 = some r := (table1 (k := k + 997) (s := S3 (k + 990) l m) (by rw [s3_0]; rfl) (s3_1 _ _ _) (by rw [s3_2]; exact hF) (by rw [s3_0]; exact hL)).trans hC
  have e3 : r3 = r := Option.some.inj (h3.symm.trans t1)
  subst e3
  obtain ⟨s, hK, k1, k2, k3⟩ := commit1 (k := k + 990) hB cl m hF hL
  have k4 : s.f1.1 = 0 := by rw [k2]; exact s4_1 _ _ _
  have t3 : F_shadow_Shadow_Table (k + 1000) s 0 = some r3 := (table0 (k := k + 997) k1 k4).trans (by rw [k3]; exact hC)
  have sm := samer hB (by decide) hGr
  obtain ⟨r13, h13, z13⟩ := open0 (k + 997) k4
  have i0 := ints0 (k + 997) z13 (fun _ => (0 : Int))
  have es : s = ⟨s.f0, (S4 (k + 990) l m).f1⟩ := by rw [← k2]
  have hK2 : F_shadow_Shadow_Commit (k + 1000) s 1 = some (4, s) := by
    unfold F_shadow_Shadow_Commit
    rw [es, end2 (k + 990) l m, Option.bind_some]
    rfl
  show ((F_shadow_Shadow_Table (k + 1000) (S3 (k + 990) l m) 0).bind _) = _
  rw [t2, Option.bind_some, sm, Option.bind_some]
  show ((F_shadow_Shadow_Commit (k + 1000) (S3 (k + 990) l m) 1).bind _) = _
  rw [hK, Option.bind_some, ans, Option.bind_some]
  simp only [cond_true, callIf]
  rw [t3, Option.bind_some, sm, Option.bind_some]
  simp only [cond_true]
  rw [h13, Option.bind_some, i0, Option.bind_some]
  simp only [cond_true, Bool.true_and]
  cases o with
  | true => rfl
  | false =>
    simp only [Bool.not_false, ifs]
    rw [hK2]
    rfl

theorem bound_ex (f : Nat → Nat) (P : Nat → Prop) : ∀ n, (∀ i, i < n → P (f i)) → P 0 → (∀ a b, P a → P b → P (max a b)) → ∃ b, P b ∧ ∀ i, i < n → f i ≤ b
  | 0, _, h0, _ => ⟨0, h0, fun i hi => absurd hi (Nat.not_lt_zero i)⟩
  | n + 1, h, h0, hm => by
    obtain ⟨b, h1, h2⟩ := bound_ex f P n (fun i hi => h i (by omega)) h0 hm
    refine ⟨max b (f n), hm _ _ h1 (h n (by omega)), fun i hi => ?_⟩
    rcases Nat.lt_succ_iff_lt_or_eq.1 hi with h' | rfl
    · exact Nat.le_trans (h2 i h') (Nat.le_max_left _ _)
    · exact Nat.le_max_right _ _

theorem reach_le : reachBytes ≤ 140737488355328 := by unfold reachBytes; decide

theorem acts_ex {l : Chs} (h : ∀ i, i < l.1 → S_api_Change.wf (l.2 i)) : ∃ b, b * 32 ≤ 140737488355328 ∧ ∀ i, i < l.1 → (l.2 i).f1.f3.1 ≤ b :=
  bound_ex (fun i => (l.2 i).f1.f3.1) (fun b => b * 32 ≤ 140737488355328) l.1 (fun i hi => Nat.le_trans (h i hi).2.1.2.2.2.1.2.1 reach_le) (by decide) (fun a b h1 h2 => by omega)

theorem pl_ShadowBack (x0 : Chs) (w0 : x0.1 ≤ maxLen ∧ x0.1 * 272 ≤ reachBytes ∧ ∀ i, i < x0.1 → S_api_Change.wf (x0.2 i)) (x1 : Chs) (w1 : x1.1 ≤ maxLen ∧ x1.1 * 272 ≤ reachBytes ∧ ∀ i, i < x1.1 → S_api_Change.wf (x1.2 i)) (x2 : Bool) (_ : True) : ∃ fu, F_law22_ShadowBack fu x0 x1 x2 = some true := by
  obtain ⟨b0, h0, k0⟩ := acts_ex w0.2.2
  obtain ⟨b1, h1, k1⟩ := acts_ex w1.2.2
  exact ⟨max b0 b1 + 1000, back (B := max b0 b1) ⟨by omega, Nat.le_refl _⟩ (fun i hi => Nat.le_trans (k0 i hi) (Nat.le_max_left _ _)) (fun i hi => Nat.le_trans (k1 i hi) (Nat.le_max_right _ _)) x2⟩

end Go.Proofs.YtbggcjkpjmnbaaaGreat
