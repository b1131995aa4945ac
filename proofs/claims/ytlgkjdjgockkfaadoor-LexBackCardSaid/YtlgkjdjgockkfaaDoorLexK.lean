/- 'LexBack': the plain law. -/
import Derived.Test.YtlgkjdjgockkfaaDoorLexJ
import Derived.Test.YtlgkjdjgockkfaaDoorLexL
namespace Go.Proofs.YtlgkjdjgockkfaaDoor
open Go Go.Pod Go.Proofs

/-- The text, item by item. -/
def txt (x l : Nat → ByteArray) : Nat → ByteArray
  | 0 => ⟨#[]⟩
  | i + 1 => (txt x l i ++ x i) ++ l i
def psI (m : Nat × (Nat → Int)) (c : Int) : Nat × (Nat → Int) := (m.1 + 1, fun i => if i < m.1 then m.2 i else (fun i => ([c] : List Int).getD i (0 : Int)) (i - m.1))
def ats (x l : Nat → ByteArray) : Nat → Nat × (Nat → Int)
  | 0 => (0, fun _ => 0)
  | i + 1 => psI (ats x l i) ((txt x l i ++ x i).size : Int)

theorem ba_assoc (a b c : ByteArray) : (a ++ b) ++ c = a ++ (b ++ c) := by
  apply WideShapes.bytes_inj
  simp

theorem txt_rest (x l : Nat → ByteArray) (n : Nat) : ∀ k i, i + k = n → txt x l i ++ rest x l k i = txt x l n
  | 0, i, h => by
    obtain rfl : i = n := by omega
    apply WideShapes.bytes_inj
    show (txt x l i ++ (⟨#[]⟩ : ByteArray)).data.toList = _
    rw [cat_list]; simp
  | k + 1, i, h => by
    rw [← txt_rest x l n k (i + 1) (by omega)]
    show txt x l i ++ (x i ++ (l i ++ rest x l k (i + 1))) = ((txt x l i ++ x i) ++ l i) ++ rest x l k (i + 1)
    rw [ba_assoc, ba_assoc]

theorem off_txt (x l : Nat → ByteArray) : ∀ j i, (txt x l i).size + off x l i j = (txt x l (i + j)).size + (x (i + j)).size
  | 0, i => rfl
  | j + 1, i => by
    have ih := off_txt x l j (i + 1)
    have : (txt x l (i + 1)).size = (txt x l i).size + (x i).size + (l i).size := by
      show ((txt x l i ++ x i) ++ l i).size = _; rw [cat_size, cat_size]
    show (txt x l i).size + ((x i).size + ((l i).size + off x l (i + 1) j)) = _
    rw [show i + (j + 1) = i + 1 + j by omega, ← ih]; omega

theorem ats_len (x l : Nat → ByteArray) : ∀ n, (ats x l n).1 = n
  | 0 => rfl
  | n + 1 => congrArg (· + 1) (ats_len x l n)
theorem ats_at (x l : Nat → ByteArray) : ∀ n j, j < n → (ats x l n).2 j = (((txt x l j).size + (x j).size : Nat) : Int)
  | 0, j, h => absurd h (Nat.not_lt_zero j)
  | n + 1, j, h => by
    show (if j < (ats x l n).1 then (ats x l n).2 j else ([((txt x l n ++ x n).size : Int)] : List Int).getD (j - (ats x l n).1) 0) = _
    rw [ats_len]
    by_cases e : j < n
    · rw [if_pos e]; exact ats_at x l n j e
    · obtain rfl : j = n := by omega
      rw [if_neg e, Nat.sub_self, cat_size]; rfl

theorem txt_le {x l : Nat → ByteArray} (hx : ∀ j, Blk (x j)) : ∀ n, (∀ j, j < n → okw (l j) = true) → (txt x l n).size ≤ 41 * n
  | 0, _ => Nat.le_refl _
  | n + 1, h => by
    have ih := txt_le hx n fun j hj => h j (by omega)
    have h2 := (hx n).le
    have h3 := (okw_tk (h n (by omega))).2.2.1
    show ((txt x l n ++ x n) ++ l n).size ≤ _
    rw [cat_size, cat_size]; omega

theorem any_succ (f : Nat → Bool) (n : Nat) : (List.range (n + 1)).any f = ((List.range n).any f || f n) := by simp [List.range_succ]

theorem back_L2 {fu : Nat} (hf : 30 ≤ fu) (t0 : Nat × (Nat → ByteArray)) (t1 : Nat × (Nat → Int)) (t5 : ByteArray) (m0 : Nat × (Nat → Int)) {i : Nat} (hi : i < t0.1) (b : Bool) :
    iter (fun s => F_law15_LexBack_L2 fu t0 t1 (23, fun i => sgl.getD i (⟨#[]⟩ : ByteArray)) t5 (i : Int) m0 s.1 s.2) fu (b, (0 : Int)) = some (.inl (b || (List.range 23).any fun k => (sg k).toList == (t0.2 i).toList)) := by
  rw [show (b, (0 : Int)) = (fun k : Nat => ((b || (List.range k).any fun k => (sg k).toList == (t0.2 i).toList), (k : Int))) 0 by simp]
  rw [iter_all (fun k : Nat => ((b || (List.range k).any fun k => (sg k).toList == (t0.2 i).toList), (k : Int))) (fun _ => true) (.ret true) (e := (b || (List.range 23).any fun k => (sg k).toList == (t0.2 i).toList)) 23 fu (by omega)]
  · rw [if_pos (List.all_eq_true.2 fun _ _ => rfl)]
  · intro k hk _
    unfold F_law15_LexBack_L2
    dsimp only
    rw [decide_eq_true (show (k : Int) < ((23 : Nat) : Int) by omega), ifs, chk_t (fun _ => by omega), chk_t (fun _ => by omega), Int.toNat_natCast, Int.toNat_natCast, wrap_succ (by omega), any_succ, if_pos rfl, show sgl.getD k (⟨#[]⟩ : ByteArray) = sg k from rfl]
    cases b <;> cases (List.range k).any (fun k => (sg k).toList == (t0.2 i).toList) <;> rfl
  · intro _
    unfold F_law15_LexBack_L2
    dsimp only
    rw [decide_eq_false (show ¬ (((23 : Nat) : Int)) < ((23 : Nat) : Int) by omega)]; rfl

/-- The blank before an item. -/
def blk (t1 : Nat × (Nat → Int)) (i : Nat) : ByteArray := if i < t1.1 then blks.getD (Int.tmod (t1.2 i) 5).toNat ⟨#[]⟩ else ⟨#[32]⟩

theorem answers_any {fu : Nat} (hf : 20000 ≤ fu) : F_law15_answers fu = some true := by
  rw [← answers2]
  unfold F_law15_answers
  rw [lex_scan (fu := fu) (by omega), lex_scan (fu := 20000) (by omega), lex_word (fu := fu) (s := ⟨#[97, 95, 49]⟩) (show 3 < fu by omega) (show 3 ≤ 100000 by decide), lex_word (fu := 20000) (s := ⟨#[97, 95, 49]⟩) (show 3 < 20000 by decide) (show 3 ≤ 100000 by decide)]

theorem back_step {fu : Nat} (hf : 20000 ≤ fu) {t0 : Nat × (Nat → ByteArray)} {t1 : Nat × (Nat → Int)} (h0 : t0.1 ≤ 100) (h1 : ∀ i, i < t1.1 → 0 ≤ t1.2 i ∧ t1.2 i < 256) (hx : ∀ j, Blk (blk t1 j)) (hz : ∀ i, i < t0.1 → (t0.2 i).size < fu ∧ (t0.2 i).size ≤ 9223372036854775807) {i : Nat} (hi : i < t0.1) (hp : ∀ j, j < i → okw (t0.2 j) = true) :
    F_law15_LexBack_L1 fu t0 t1 (23, fun i => sgl.getD i (⟨#[]⟩ : ByteArray)) (txt (blk t1) t0.2 i) (i : Int) (ats (blk t1) t0.2 i) = if okw (t0.2 i) = true then some (.next (txt (blk t1) t0.2 (i + 1), ((i + 1 : Nat) : Int), ats (blk t1) t0.2 (i + 1))) else some (.ret true) := by
  have hts := txt_le hx i hp
  have hxs := (hx i).le
  have hj : okw (t0.2 i) = true → F_law15_LexBack_J1 fu t0 t1 (23, fun i => sgl.getD i (⟨#[]⟩ : ByteArray)) (txt (blk t1) t0.2 i) (i : Int) (blk t1 i) (ats (blk t1) t0.2 i) = some (.next (txt (blk t1) t0.2 (i + 1), ((i + 1 : Nat) : Int), ats (blk t1) t0.2 (i + 1))) := fun ho => by
    have hw := (okw_tk ho).2.2.1
    have hl := ats_len (blk t1) t0.2 i
    unfold F_law15_LexBack_J1
    rw [chk_t (by omega), chk_t (show RoomOk ((ats (blk t1) t0.2 i).1 + 1) 8 from ⟨by omega, by omega⟩), chk_t (by omega), Int.toNat_natCast, chk_t (by rw [cat_size]; omega), wrap_succ (by omega)]
    rfl
  unfold F_law15_LexBack_L1
  rw [decide_eq_true (show (i : Int) < (t0.1 : Int) by omega), ifs, chk_t (by omega), Int.toNat_natCast, ref_word' (hz i hi).1 (hz i hi).2, Option.bind_some, chk_t (fun _ => by omega), ref_digits' (hz i hi).1 (hz i hi).2]
  have e2 : ((callIf (!wd (t0.2 i)) (some (dg (t0.2 i))) false).map fun r2 => (bif wd (t0.2 i) then true else r2)) = some (wd (t0.2 i) || dg (t0.2 i)) := by cases wd (t0.2 i) <;> rfl
  obtain ⟨r2, hr2, hr2'⟩ := Option.map_eq_some_iff.1 e2
  rw [hr2, Option.bind_some, hr2', back_L2 (by omega) t0 t1 _ _ hi]
  show ifs (!okw (t0.2 i)) _ _ = _
  rw [answers_any hf]
  cases ho : okw (t0.2 i) with
  | false => rfl
  | true =>
    rw [if_pos rfl, Bool.not_true, ifs]
    by_cases hb : i < t1.1
    · obtain ⟨b1, b2⟩ := h1 i hb
      have hm : Int.tmod (t1.2 i) 5 = t1.2 i % 5 := Int.tmod_eq_emod_of_nonneg b1
      rw [decide_eq_true (show (i : Int) < (t1.1 : Int) by omega), ifs, chk_t (by omega), chk_t (by decide), chk_t (by rw [hm]; omega)]
      have : blks.getD (Int.tmod (t1.2 i) 5).toNat ⟨#[]⟩ = blk t1 i := by unfold blk; rw [if_pos hb]
      have hj' := hj ho
      rw [← this] at hj'
      exact hj'
    · rw [decide_eq_false (show ¬ (i : Int) < (t1.1 : Int) by omega), ifs]
      have : (⟨#[32]⟩ : ByteArray) = blk t1 i := by unfold blk; rw [if_neg hb]
      rw [this]
      exact hj ho

theorem back_L3 {fu : Nat} (hf : 20000 ≤ fu) {t0 : Nat × (Nat → ByteArray)} {m : M} {m0 : Nat × (Nat → Int)} (h0 : t0.1 ≤ 100) (hm : m.1 = t0.1) (hm0 : m0.1 = t0.1) (h : ∀ j, j < t0.1 → m.2 j = ⟨t0.2 j, m0.2 j⟩) : iter (fun s => F_law15_LexBack_L3 fu t0 m m0 s) fu (0 : Int) = some (.inl ()) := by
  rw [show (0 : Int) = ((0 : Nat) : Int) from rfl, iter_all (fun i => ((i : Nat) : Int)) (fun _ => true) false (e := ()) t0.1 fu (by omega)]
  · rw [if_pos (List.all_eq_true.2 fun _ _ => rfl)]
  · intro i hi _
    unfold F_law15_LexBack_L3
    rw [decide_eq_true (show (i : Int) < ((t0.1 : Nat) : Int) by omega), ifs, chk_t (by omega), chk_t (by omega), chk_t (fun _ => by omega), chk_t (fun _ => by omega), Int.toNat_natCast, chk_t (fun _ => by omega), wrap_succ (by omega), h i hi, if_pos rfl]
    simp only [beq_self_eq_true, bne_self_eq_false, Bool.not_true, cond_false]
    rfl
  · intro _
    unfold F_law15_LexBack_L3
    rw [decide_eq_false (by omega)]; rfl

theorem back {t0 : Nat × (Nat → ByteArray)} {t1 : Nat × (Nat → Int)} (h1 : ∀ i, i < t1.1 → 0 ≤ t1.2 i ∧ t1.2 i < 256) (hz : ∀ i, i < t0.1 → (t0.2 i).size ≤ 9223372036854775807) : ∃ fu, F_law15_LexBack fu t0 t1 = some true := by
  by_cases h0 : t0.1 ≤ 100
  · have hx : ∀ j, Blk (blk t1 j) := fun j => by
      unfold blk
      by_cases hb : j < t1.1
      · rw [if_pos hb]
        have hm : Int.tmod (t1.2 j) 5 = t1.2 j % 5 := Int.tmod_eq_emod_of_nonneg (h1 j hb).1
        exact blk_ok _ (by rw [hm]; omega)
      · rw [if_neg hb]; exact blk_ok 0 (by decide)
    obtain ⟨B, hB⟩ : ∃ B, ∀ i, i < t0.1 → (t0.2 i).size ≤ B := by
      generalize t0.1 = n
      induction n with
      | zero => exact ⟨0, fun i hi => absurd hi (Nat.not_lt_zero i)⟩
      | succ n ih =>
        obtain ⟨B, h⟩ := ih
        refine ⟨B + (t0.2 n).size, fun i hi => ?_⟩
        by_cases e : i = n
        · subst e; omega
        · have := h i (by omega); omega
    refine ⟨20000 + B + 1, ?_⟩
    generalize hfu : 20000 + B + 1 = fu
    have hf : 20000 ≤ fu := by omega
    have hz' : ∀ i, i < t0.1 → (t0.2 i).size < fu ∧ (t0.2 i).size ≤ 9223372036854775807 := fun i hi => ⟨by have := hB i hi; omega, hz i hi⟩
    unfold F_law15_LexBack
    rw [decide_eq_false (show ¬ ((t0.1 : Nat) : Int) > 100 by omega), ifs]
    have hit := iter_all (f := fun s : ByteArray × Int × (Nat × (Nat → Int)) => F_law15_LexBack_L1 fu t0 t1 (23, fun i => sgl.getD i (⟨#[]⟩ : ByteArray)) s.1 s.2.1 s.2.2) (fun i : Nat => (txt (blk t1) t0.2 i, (i : Int), ats (blk t1) t0.2 i)) (fun i => okw (t0.2 i)) true (e := (txt (blk t1) t0.2 t0.1, ats (blk t1) t0.2 t0.1)) t0.1 fu (by omega) (fun i hi hp => back_step hf h0 h1 hx hz' hi hp) (fun _ => by
      unfold F_law15_LexBack_L1
      dsimp only
      rw [decide_eq_false (by omega)]; rfl)
    show after (iter (fun s : ByteArray × Int × (Nat × (Nat → Int)) => F_law15_LexBack_L1 fu t0 t1 (23, fun i => sgl.getD i (⟨#[]⟩ : ByteArray)) s.1 s.2.1 s.2.2) fu (txt (blk t1) t0.2 0, ((0 : Nat) : Int), ats (blk t1) t0.2 0)) _ = _
    rw [hit]
    cases hall : (List.range t0.1).all fun i => okw (t0.2 i) with
    | false => rfl
    | true =>
      have hok : ∀ j, j < t0.1 → okw (t0.2 j) = true := fun j hj => List.all_eq_true.1 hall j (List.mem_range.2 hj)
      obtain ⟨m, e1, e2, e3⟩ := rest_sc hx t0.1 0 fun j hj => by rw [Nat.zero_add]; exact hok j hj
      have hT := txt_rest (blk t1) t0.2 t0.1 t0.1 0 (Nat.zero_add _)
      have hT' : rest (blk t1) t0.2 t0.1 0 = txt (blk t1) t0.2 t0.1 := by
        rw [← hT]
        apply WideShapes.bytes_inj
        show _ = ((⟨#[]⟩ : ByteArray) ++ _).data.toList
        rw [cat_list]; simp
      rw [hT'] at e1
      have hle := txt_le hx t0.1 hok
      rw [if_pos rfl]
      show (F_lex_Scan fu (txt (blk t1) t0.2 t0.1)).bind _ = _
      rw [lex_scan (by omega), Option.bind_some, answers_any hf, Option.bind_some, scan_small (by omega), e1]
      show ifs (bif false then true else (((m.1 : Nat) : Int) != ((t0.1 : Nat) : Int))) (some false) (after (iter (fun s => F_law15_LexBack_L3 fu t0 m (ats (blk t1) t0.2 t0.1) s) fu (0 : Int)) fun _ => some true) = some true
      rw [e2, bne_self_eq_false, back_L3 hf h0 e2 (ats_len _ _ _) fun j hj => ?_]
      · rfl
      · rw [e3 j hj, ats_at _ _ _ j hj, Nat.zero_add]
        have := off_txt (blk t1) t0.2 j 0
        rw [Nat.zero_add, show (txt (blk t1) t0.2 0).size = 0 from rfl, Nat.zero_add] at this
        rw [this]
  · refine ⟨20000, ?_⟩
    unfold F_law15_LexBack
    rw [decide_eq_true (show ((t0.1 : Nat) : Int) > 100 by omega), ifs, answers2]; rfl

end Go.Proofs.YtlgkjdjgockkfaaDoor
