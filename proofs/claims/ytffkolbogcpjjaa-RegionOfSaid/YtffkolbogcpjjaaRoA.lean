/- Regions: what the reference's Region leaves. -/
import Derived.Test.YtffkolbogcpjjaaRhA
namespace Go.Proofs.Ytffkolbogcpjjaa
open Go Go.Pod Go.Proofs Go.Sort Go.Shelf

theorem callIf_b (g w : Bool) : callIf g (some w) false = some (g && w) := by cases g <;> rfl

/-! ### The reference's order, with any fuel -/

theorem order_fu {fu : Nat} (hf : 13 ≤ fu) (s t : Nat → Int) : F_ref01_Order fu s t = some (lexc s t) := by
  have a := iter_scan (f := fun s' => F_ref01_Order_L1 fu s t s') (fun i => (i : Int)) (fun i => s i == t i) (fun i => if s i < t i then -1 else 1) (e := ()) 12 0 fu (by omega) (fun i _ h2 => by
      have hi : (i : Int) < 12 := by omega
      have hn : i < 12 := by omega
      have hw : IntKind.wrap .i64 ((i : Int) + 1) = ((i + 1 : Nat) : Int) := wrap_i64 (by omega) (by omega)
      by_cases he : s i = t i
      · simp [F_ref01_Order_L1, hi, hn, chk, ifs, he, hw]
      · by_cases hl : s i < t i
        · simp [F_ref01_Order_L1, hi, hn, chk, ifs, he, hl]
        · have hg : s i > t i := by omega
          simp [F_ref01_Order_L1, hi, hn, chk, ifs, he, hl, hg]) (by simp [F_ref01_Order_L1, ifs])
  simp only [F_ref01_Order]
  rw [show ((0 : Int)) = (((0 : Nat)) : Int) from rfl, a]
  unfold lexc
  cases stopAt (fun i => s i == t i) 12 0 <;> simp [after]

theorem ref_compare_fu {fu : Nat} (hf : 13 ≤ fu) (a b : S_api_Cube) : F_ref01_Compare fu a b = some (oc a b) := by
  unfold F_ref01_Compare oc
  rw [order_fu hf, Option.bind_some]
  by_cases h : lexc a.f1 b.f1 = 0
  · rw [h, if_pos rfl, show ((0 : Int) != 0) = false from rfl, ifs, order_fu hf]; rfl
  · rw [if_neg h, show (lexc a.f1 b.f1 != 0) = true from bne_iff_ne.2 h, ifs]


theorem ref_wn {fu : Nat} (hf : 300 ≤ fu) {a b : S_api_Cube} (ha : UC a) (hb : UC b) : F_ref01_Within fu a b = some (wn a b) := ref_within hf ha hb

/-! ### Which are kept -/

def gR (l : Chs) (i : Nat) : S_api_Region := toReg (l.2 i)
def hits (a : Nat → S_api_Region) (i k : Nat) : Bool := decide (k ≠ i) && wr (a i) (a k) && (!eqr (a k) (a i) || decide (k < i))
def kpt (l : Chs) (i : Nat) : Bool := sndR (gR l i) && (List.range l.1).all fun k => !hits (gR l) i k

theorem range_all_succ (f : Nat → Bool) (n : Nat) : (List.range (n + 1)).all f = ((List.range n).all f && f n) := by
  rw [List.range_succ, List.all_append]; simp

theorem all_false {f : Nat → Bool} {m n : Nat} (h : (List.range m).all f = false) (hm : m ≤ n) : (List.range n).all f = false := by
  rw [List.all_eq_false] at h ⊢
  obtain ⟨x, h1, h2⟩ := h
  exact ⟨x, List.mem_range.2 (Nat.lt_of_lt_of_le (List.mem_range.1 h1) hm), h2⟩

theorem rl_L2 {fu : Nat} (hf : 300 ≤ fu) {l : Chs} (hl : ∀ i, i < l.1 → UC (l.2 i).f1.f1) (hn : l.1 < fu) (hm : l.1 ≤ 100000) {i : Nat} (hi : i < l.1) (m : Rs) :
    iter (fun s => F_ref19_Region_L2 fu l (i : Int) m (l.2 i).f1.f1 s.1 s.2) fu (snd (l.2 i).f1.f1, (0 : Int)) = some (.inl (kpt l i)) := by
  obtain ⟨e, h1, h2⟩ := iter_gen (f := fun s : Bool × Int => F_ref19_Region_L2 fu l (i : Int) m (l.2 i).f1.f1 s.1 s.2)
    (fun j s => s = (sndR (gR l i) && (List.range j).all fun k => !hits (gR l) i k, (j : Int)))
    (fun e => e = .inl (kpt l i)) l.1
    (fun j s hj es => by
      subst es
      simp only [F_ref19_Region_L2]
      rw [decide_eq_true (show (j : Int) < (l.1 : Int) by omega)]
      simp only [cond_true]
      cases hk : (sndR (gR l i) && (List.range j).all fun k => !hits (gR l) i k) with
      | false =>
        refine ⟨.exit false, rfl, ?_⟩
        show Sum.inl false = _
        unfold kpt
        rcases Bool.and_eq_false_iff.1 hk with h | h
        · rw [h]; rfl
        · rw [all_false h (Nat.le_of_lt hj), Bool.and_false]
      | true =>
        simp only [ifs]
        have e1 : ((j : Int) != (i : Int)) = decide (j ≠ i) := by
          by_cases h : j = i
          · subst h; simp
          · rw [decide_eq_true h, bne_iff_ne]; omega
        have e2 : decide ((j : Int) < (i : Int)) = decide (j < i) := by
          by_cases h : j < i
          · rw [decide_eq_true h, decide_eq_true]; omega
          · rw [decide_eq_false h, decide_eq_false]; omega
        rw [chk_t (by omega), chk_t (fun _ => by omega), chk_t (fun _ => by omega), Int.toNat_natCast, Int.toNat_natCast, ref_wn hf (hl i hi) (hl j hj), e1, e2, callIf_b, Option.bind_some, wrap_succ (i := j) (by omega)]
        refine ⟨.next (!hits (gR l) i j, ((j + 1 : Nat) : Int)), ?_, ?_⟩
        · have es : eqc (l.2 i).f1.f1 (l.2 j).f1.f1 = eqc (l.2 j).f1.f1 (l.2 i).f1.f1 := by
            rw [Bool.eq_iff_iff]; exact ⟨eqc_symm, eqc_symm⟩
          have eu : ((l.2 j).f0 == (l.2 i).f0) = ((l.2 i).f0 == (l.2 j).f0) := by rw [Bool.eq_iff_iff, beq_iff_eq, beq_iff_eq]; exact eq_comm
          show ifs (bif (bif (bif decide (j ≠ i) then ((l.2 j).f0 == (l.2 i).f0) else false) then ((bif decide (j ≠ i) then ((l.2 j).f0 == (l.2 i).f0) else false) && wn (l.2 i).f1.f1 (l.2 j).f1.f1) else false) then (bif !eqc (l.2 i).f1.f1 (l.2 j).f1.f1 then true else decide (j < i)) else false) (some (Lo.next (false, ((j + 1 : Nat) : Int)))) (some (Lo.next (true, ((j + 1 : Nat) : Int)))) = _
          rw [es, eu]
          unfold hits
          show _ = some (Lo.next (!(decide (j ≠ i) && (((l.2 i).f0 == (l.2 j).f0) && wn (l.2 i).f1.f1 (l.2 j).f1.f1) && (!(((l.2 j).f0 == (l.2 i).f0) && (eqc (l.2 j).f1.f1 (l.2 i).f1.f1 && true)) || decide (j < i))), ((j + 1 : Nat) : Int)))
          rw [eu]
          cases decide (j ≠ i) <;> cases ((l.2 i).f0 == (l.2 j).f0) <;> cases wn (l.2 i).f1.f1 (l.2 j).f1.f1 <;> cases eqc (l.2 j).f1.f1 (l.2 i).f1.f1 <;> cases decide (j < i) <;> rfl
        · show _ = _
          rw [range_all_succ, ← Bool.and_assoc, hk, Bool.true_and])
    (fun s es => by
      subst es
      refine ⟨.exit (kpt l i), ?_, rfl⟩
      simp only [F_ref19_Region_L2]
      rw [decide_eq_false (by omega)]; rfl)
    l.1 0 fu (snd (l.2 i).f1.f1, (0 : Int)) (by omega) hn (by simp [sndR, gR, toReg])
  rw [h1, h2]

theorem kpt_two {l : Chs} (hl : ∀ i, i < l.1 → UC (l.2 i).f1.f1) {i k : Nat} (hi : i < l.1) (hk : k < i) (h1 : kpt l i = true) : eqr (gR l k) (gR l i) = false := by
  cases h : eqr (gR l k) (gR l i) with
  | false => rfl
  | true =>
    unfold kpt at h1
    have s1 := (Bool.and_eq_true_iff.1 h1).1
    have := List.all_eq_true.1 (Bool.and_eq_true_iff.1 h1).2 k (List.mem_range.2 (by omega))
    have w := covR.le (gR l i) (gR l k) (hl i hi) (hl k (by omega)) (totR.symm h) s1
    unfold hits at this
    rw [w, decide_eq_true (show k ≠ i by omega), decide_eq_true hk] at this
    simp at this

/-! ### Where each is put -/

def ins (f : Nat → S_api_Region) (c : S_api_Region) (k i : Nat) : S_api_Region := if i < k then f i else if i = k then c else f (i - 1)

theorem ls_ins (f : Nat → S_api_Region) (c : S_api_Region) {k n : Nat} (h : k ≤ n) : ls (n + 1, ins f c k) = ls (k, f) ++ c :: ls (n - k, fun i => f (k + i)) := by
  obtain ⟨m, rfl⟩ : ∃ m, n = k + m := ⟨n - k, by omega⟩
  unfold ls
  rw [show k + m + 1 = k + (1 + m) by omega, List.range_add, List.range_add, List.map_append, List.map_append, List.map_append, List.map_map, List.map_map, List.map_map, Nat.add_sub_cancel_left]
  congr 1
  · exact List.map_congr_left fun i hi => by
      have := List.mem_range.1 hi
      show ins f c k i = f i
      unfold ins; rw [if_pos this]
  · simp only [List.range_one, List.map_cons, List.map_nil, List.singleton_append, Function.comp, Nat.add_zero]
    congr 1
    · unfold ins; simp
    · refine List.map_congr_left fun i _ => ?_
      show ins f c k (k + (1 + i)) = f (k + i)
      unfold ins
      rw [if_neg (by omega), if_neg (by omega)]
      congr 1; omega

def zR : S_api_Region := S_api_Region.z

theorem rc_cond (x y : S_api_Region) : (bif decide (x.f0 < y.f0) then true else (bif x.f0 == y.f0 then decide (oc x.f1 y.f1 < 0) else false)) = decide (rc x y < 0) := by
  unfold rc
  rcases Int.lt_trichotomy x.f0 y.f0 with h | h | h
  · rw [if_pos h, if_neg (by decide), decide_eq_true h]; rfl
  · rw [if_neg (show ¬ x.f0 < y.f0 by omega), if_neg (show ¬ x.f0 > y.f0 by omega), if_pos rfl, decide_eq_false (show ¬ x.f0 < y.f0 by omega), h, beq_self_eq_true]; rfl
  · rw [if_neg (show ¬ x.f0 < y.f0 by omega), if_pos (show x.f0 > y.f0 by omega), if_neg (by decide), decide_eq_false (show ¬ x.f0 < y.f0 by omega), beq_eq_false_iff_ne.2 (show x.f0 ≠ y.f0 by omega)]; rfl

theorem rl_L3 {fu : Nat} (hf : 13 ≤ fu) (l : Chs) (t4 : Int) (f : Nat → S_api_Region) (c : S_api_Region) {n : Nat} (hn : n + 1 < fu) (hm : n + 1 ≤ 100000) :
    ∃ (g : Nat → S_api_Region) (k : Nat), iter (fun s => F_ref19_Region_L3 fu l t4 s.1 s.2) fu ((n : Int), (n + 1, ins f c n)) = some (.inl (n + 1, g)) ∧ (∀ i, i < n + 1 → g i = ins f c k i) ∧ k ≤ n ∧ (k = 0 ∨ 0 ≤ rc c (f (k - 1))) ∧ ∀ i, k ≤ i → i < n → rc c (f i) < 0 := by
  obtain ⟨e, h1, h2⟩ := iter_gen (f := fun s : Int × Rs => F_ref19_Region_L3 fu l t4 s.1 s.2)
    (fun j s => ∃ (g : Nat → S_api_Region) (k : Nat), s = ((k : Int), (n + 1, g)) ∧ k + j = n ∧ (∀ i, i < n + 1 → g i = ins f c k i) ∧ ∀ i, k ≤ i → i < n → rc c (f i) < 0)
    (fun e => ∃ (g : Nat → S_api_Region) (k : Nat), e = .inl (n + 1, g) ∧ (∀ i, i < n + 1 → g i = ins f c k i) ∧ k ≤ n ∧ (k = 0 ∨ 0 ≤ rc c (f (k - 1))) ∧ ∀ i, k ≤ i → i < n → rc c (f i) < 0) n
    (fun j s hj ⟨g, k, es, hk, hg, ho⟩ => by
      subst es
      simp only [F_ref19_Region_L3]
      have hw := wrap_pred (j := k) (by omega) (by omega)
      rw [hw, decide_eq_true (show (k : Int) > 0 by omega)]
      simp only [Int.toNat_natCast]
      rw [chk_t (fun _ => by omega), chk_t (fun _ => by omega), chk_t (fun _ => by omega), chk_t (fun _ => by omega), chk_t (fun _ => by omega), chk_t (fun _ => by omega), chk_t (fun _ => by omega), chk_t (fun _ => by omega), chk_t (fun _ => by omega), chk_t (fun _ => by omega), chk_t (fun _ => by omega), chk_t (fun _ => by omega), ref_compare_fu (by omega)]
      have q1 : g k = c := by rw [hg k (by omega)]; unfold ins; simp
      have q2 : g (k - 1) = f (k - 1) := by rw [hg (k - 1) (by omega)]; unfold ins; rw [if_pos (by omega)]
      simp only [q1, q2]
      have hcall : ∃ v, callIf (true && !decide (c.f0 < (f (k - 1)).f0) && (c.f0 == (f (k - 1)).f0)) (some (oc c.f1 (f (k - 1)).f1)) 0 = some v ∧ (bif decide (c.f0 < (f (k - 1)).f0) then true else (bif c.f0 == (f (k - 1)).f0 then decide (v < 0) else false)) = decide (rc c (f (k - 1)) < 0) := by
        rw [← rc_cond]
        cases hb : decide (c.f0 < (f (k - 1)).f0) with
        | true => exact ⟨0, rfl, rfl⟩
        | false =>
          cases hb2 : (c.f0 == (f (k - 1)).f0) with
          | true => exact ⟨_, rfl, rfl⟩
          | false => exact ⟨0, rfl, rfl⟩
      obtain ⟨v, hv1, hv2⟩ := hcall
      rw [hv1, Option.bind_some]
      simp only [cond_true]
      rw [hv2]
      by_cases hc : rc c (f (k - 1)) < 0
      · rw [decide_eq_true hc]
        simp only [ifs]
        rw [chk_t (by omega), chk_t (by omega), chk_t (by omega), chk_t (by omega), chk_t (by omega), chk_t (by omega), chk_t (by omega), chk_t (by omega)]
        refine ⟨_, rfl, _, k - 1, rfl, by omega, fun i hi => ?_, fun i h3 h4 => ?_⟩
        · show (if i = k - 1 then c else (if i = k then f (k - 1) else g i)) = _
          unfold ins
          by_cases e1 : i = k - 1
          · rw [if_pos e1, if_neg (by omega), if_pos e1]
          · rw [if_neg e1]
            by_cases e2 : i = k
            · rw [if_pos e2, if_neg (by omega), if_neg (by omega), e2]
            · rw [if_neg e2, hg i hi]
              unfold ins
              by_cases e3 : i < k
              · rw [if_pos e3, if_pos (by omega)]
              · rw [if_neg e3, if_neg e2, if_neg (by omega), if_neg e1]
        · by_cases e1 : i = k - 1
          · rw [e1]; exact hc
          · exact ho i (by omega) h4
      · rw [decide_eq_false hc]
        simp only [ifs]
        exact ⟨_, rfl, g, k, rfl, hg, by omega, .inr (by omega), ho⟩)
    (fun s ⟨g, k, es, hk, hg, ho⟩ => by
      subst es
      have : k = 0 := by omega
      subst this
      simp only [F_ref19_Region_L3]
      rw [decide_eq_false (show ¬ ((0 : Nat) : Int) > 0 by omega)]
      exact ⟨.exit (n + 1, g), rfl, g, 0, rfl, hg, by omega, .inl rfl, ho⟩)
    n 0 fu ((n : Int), (n + 1, ins f c n)) (by omega) (by omega) ⟨_, n, rfl, rfl, fun _ _ => rfl, fun i h3 h4 => by omega⟩
  obtain ⟨g, k, rfl, h3⟩ := h2
  exact ⟨g, k, h1, h3⟩

theorem ins_sorted {L : List S_api_Region} {f : Nat → S_api_Region} {c : S_api_Region} {n k : Nat} (hL : ls (n, f) = L) (hs : L.Pairwise fun x y => rc x y < 0) (hk : k ≤ n) (h1 : k = 0 ∨ 0 ≤ rc c (f (k - 1))) (h2 : ∀ i, k ≤ i → i < n → rc c (f i) < 0) (hne : ∀ x ∈ L, eqr x c = false) :
    (ls (n + 1, ins f c k)).Pairwise (fun x y => rc x y < 0) ∧ (ls (n + 1, ins f c k)).Perm (L ++ [c]) := by
  have hsplit : L = ls (k, f) ++ ls (n - k, fun i => f (k + i)) := by
    rw [← hL]
    obtain ⟨m, rfl⟩ : ∃ m, n = k + m := ⟨n - k, by omega⟩
    unfold ls
    rw [List.range_add, List.map_append, List.map_map, Nat.add_sub_cancel_left]
    rfl
  rw [ls_ins f c hk]
  have hp := hs
  rw [hsplit, List.pairwise_append] at hp
  obtain ⟨p1, p2, p3⟩ := hp
  have after : ∀ y ∈ ls (n - k, fun i => f (k + i)), rc c y < 0 := fun y hy => by
    obtain ⟨i, hi, rfl⟩ := ls_mem.1 hy
    exact h2 (k + i) (by omega) (by simp only at hi; omega)
  have before : ∀ x ∈ ls (k, f), rc x c < 0 := fun x hx => by
    obtain ⟨i, hi, rfl⟩ := ls_mem.1 hx
    simp only at hi ⊢
    rcases h1 with h1 | h1
    · omega
    · have hmem : f (k - 1) ∈ L := by rw [hsplit]; exact List.mem_append_left _ (ls_mem.2 ⟨k - 1, by simp only; omega, rfl⟩)
      have hlt : rc (f (k - 1)) c < 0 := by
        have := rc_swap c (f (k - 1))
        have hz : rc (f (k - 1)) c ≠ 0 := fun e => by
          have := (rc_zero _ _).1 e
          rw [hne _ hmem] at this; cases this
        omega
      by_cases e : i = k - 1
      · rw [e]; exact hlt
      · have hlt2 : rc (f i) (f (k - 1)) < 0 := by
          have : (ls (k, f)).Pairwise fun x y => rc x y < 0 := p1
          unfold ls at this
          rw [List.pairwise_map, List.pairwise_iff_getElem] at this
          have := this i (k - 1) (by simpa using hi) (by simp only [List.length_range]; omega) (by omega)
          simpa using this
        exact (rc_le (Int.le_of_lt hlt2) (Int.le_of_lt hlt)).2 (.inl hlt2)
  refine ⟨?_, ?_⟩
  · rw [List.pairwise_append]
    refine ⟨p1, List.pairwise_cons.2 ⟨after, p2⟩, fun x hx y hy => ?_⟩
    rcases List.mem_cons.1 hy with rfl | hy
    · exact before x hx
    · exact p3 x hx y hy
  · rw [hsplit, List.append_assoc]
    exact List.Perm.append_left _ (List.perm_append_singleton c _).symm

theorem mem_reg {l : Chs} {x : S_api_Region} : x ∈ (ls l).map toReg ↔ ∃ i, i < l.1 ∧ gR l i = x := by
  rw [List.mem_map]
  constructor
  · rintro ⟨c, hc, rfl⟩
    obtain ⟨i, hi, rfl⟩ := ls_mem.1 hc
    exact ⟨i, hi, rfl⟩
  · rintro ⟨i, hi, rfl⟩
    exact ⟨_, ls_mem.2 ⟨i, hi, rfl⟩, rfl⟩

theorem ref_region {fu : Nat} (hf : 300 ≤ fu) {a : Chs} (ha : ∀ i, i < a.1 → UC (a.2 i).f1.f1) (hn : a.1 + 1 < fu) (hm : a.1 ≤ 10000) : ∃ r, F_ref19_Region fu a = some r ∧ Lnr ((ls a).map toReg) (ls r) := by
  unfold F_ref19_Region
  obtain ⟨e, h5, h6⟩ := iter_inv (f := fun s : Int × Rs => F_ref19_Region_L1 fu a s.1 s.2)
    (fun j s => s.1 = (j : Int) ∧ s.2.1 ≤ j ∧ (ls s.2).Pairwise (fun x y => rc x y < 0) ∧ (ls s.2).Perm (chs (kpt a) (gR a) j))
    (fun e => ∃ r, e = .inl r ∧ (ls r).Pairwise (fun x y => rc x y < 0) ∧ (ls r).Perm (chs (kpt a) (gR a) a.1)) a.1
    (fun j s hj ⟨e1, e2, e3, e4⟩ => .inl (by
      obtain ⟨s1, n, f⟩ := s
      simp only at e1 e2 e3 e4
      subst e1
      simp only [F_ref19_Region_L1]
      rw [decide_eq_true (show (j : Int) < (a.1 : Int) by omega), ifs, chk_t (by omega), Int.toNat_natCast, ref_cube (by omega) (ha j hj), Option.bind_some, rl_L2 hf ha (by omega) (by omega) hj, wrap_succ (i := j) (by omega)]
      simp only [after]
      cases hk : kpt a j with
      | false =>
        refine ⟨((j + 1 : Nat), (n, f)), rfl, rfl, show n ≤ j + 1 by omega, e3, ?_⟩
        rw [chs_succ, hk]; simpa using e4
      | true =>
        simp only [Bool.not_true, ifs]
        rw [chk_t (by omega), chk_t (room_big (by omega) (by omega)), show IntKind.wrap .i64 ((((n + 1 : Nat)) : Int) - 1) = (n : Int) by rw [wrap_pred (by omega) (by omega), Nat.add_sub_cancel]]
        obtain ⟨g, k, q1, q2, q3, q4, q5⟩ := rl_L3 (fu := fu) (by omega) a (j : Int) (fun i => if i < n then f i else zR) (gR a j) (n := n) (by omega) (by omega)
        have hst : (fun i => if i < n then f i else (fun i => ([S_api_Region.mk (a.2 j).f0 (a.2 j).f1.f1] : List S_api_Region).getD i S_api_Region.z) (i - n)) = ins (fun i => if i < n then f i else zR) (gR a j) n := by
          funext i
          unfold ins
          by_cases h1 : i < n
          · rw [if_pos h1, if_pos h1]; exact (if_pos h1).symm
          · rw [if_neg h1, if_neg h1]
            by_cases h2 : i = n
            · subst h2; rw [Nat.sub_self, if_pos rfl]; rfl
            · rw [if_neg h2]
              show ([gR a j] : List S_api_Region).getD (i - n) zR = if i - 1 < n then f (i - 1) else zR
              rw [if_neg (by omega)]
              obtain ⟨d, hd⟩ : ∃ d, i - n = d + 1 := ⟨i - n - 1, by omega⟩
              rw [hd]; rfl
        rw [hst, q1]
        have hne : ∀ x ∈ ls (n, f), eqr x (gR a j) = false := fun x hx => by
          obtain ⟨i, hi, _, rfl⟩ := chs_mem.1 (e4.mem_iff.1 hx)
          exact kpt_two ha hj hi hk
        have hL : ls (n, fun i => if i < n then f i else zR) = ls (n, f) := ls_eq fun i hi => by rw [if_pos hi]
        obtain ⟨p1, p2⟩ := ins_sorted hL e3 q3 q4 q5 hne
        rw [← ls_eq q2] at p1 p2
        refine ⟨_, rfl, rfl, show n + 1 ≤ j + 1 by omega, p1, ?_⟩
        rw [chs_succ, hk]
        exact p2.trans (List.Perm.append_right _ e4)))
    (fun s ⟨e1, _, e3, e4⟩ => by
      obtain ⟨s1, m⟩ := s
      simp only at e1 e3 e4
      subst e1
      refine ⟨m, ?_, m, rfl, e3, e4⟩
      simp only [F_ref19_Region_L1]
      rw [decide_eq_false (by omega)]; rfl)
    a.1 0 fu ((0 : Int), (0, (fun _ => S_api_Region.z))) (by omega) (by omega) ⟨rfl, Nat.le_refl _, List.Pairwise.nil, List.Perm.refl _⟩
  obtain ⟨r, rfl, h7, h8⟩ := h6
  rw [h5]
  refine ⟨r, rfl, ?_⟩
  have mem : ∀ c, c ∈ ls r ↔ ∃ i, i < a.1 ∧ kpt a i = true ∧ gR a i = c := fun c => by rw [h8.mem_iff, chs_mem]
  have hits_of : ∀ {i k : Nat}, i < a.1 → kpt a i = true → k < a.1 → k ≠ i → wr (gR a i) (gR a k) = true → eqr (gR a k) (gR a i) = true ∧ i < k := fun {i k} hi h hk hne hw => by
    have := List.all_eq_true.1 (Bool.and_eq_true_iff.1 h).2 k (List.mem_range.2 hk)
    unfold hits at this
    rw [hw, decide_eq_true hne] at this
    simp only [Bool.true_and, Bool.and_true, Bool.not_or, Bool.not_not, Bool.and_eq_true, Bool.not_eq_true', decide_eq_false_iff_not] at this
    exact ⟨this.1, by omega⟩
  exact {
    sub := fun c hc => by
      obtain ⟨i, hi, h, rfl⟩ := (mem c).1 hc
      exact ⟨mem_reg.2 ⟨i, hi, rfl⟩, (Bool.and_eq_true_iff.1 h).1⟩
    srt := h7
    top := fun c hc d hd od hw => by
      obtain ⟨i, hi, h, rfl⟩ := (mem c).1 hc
      obtain ⟨k, hk, rfl⟩ := mem_reg.1 hd
      by_cases e : k = i
      · rw [e]; exact totR.refl _
      · exact (hits_of hi h hk e hw).1
    all := fun c hc oc' ht => by
      obtain ⟨i0, hi0, rfl⟩ := mem_reg.1 hc
      obtain ⟨i, ⟨hi, he⟩, hmin⟩ : ∃ i, (i < a.1 ∧ eqr (gR a i) (gR a i0) = true) ∧ ∀ k, k < i → ¬ (k < a.1 ∧ eqr (gR a k) (gR a i0) = true) := by
        have : ∀ n, (∃ i, i < n ∧ (i < a.1 ∧ eqr (gR a i) (gR a i0) = true)) → ∃ i, (i < a.1 ∧ eqr (gR a i) (gR a i0) = true) ∧ ∀ k, k < i → ¬ (k < a.1 ∧ eqr (gR a k) (gR a i0) = true) := by
          intro n
          induction n with
          | zero => rintro ⟨i, hi, _⟩; omega
          | succ n ih =>
            rintro ⟨i, hi, hp⟩
            by_cases hx : ∃ i, i < n ∧ (i < a.1 ∧ eqr (gR a i) (gR a i0) = true)
            · exact ih hx
            · exact ⟨i, hp, fun k hk hq => hx ⟨k, by omega, hq⟩⟩
        exact this a.1 ⟨i0, hi0, hi0, totR.refl _⟩
      refine ⟨gR a i, (mem _).2 ⟨i, hi, ?_, rfl⟩, he⟩
      have si : sndR (gR a i) = true := by rw [show sndR (gR a i) = sndR (gR a i0) from snd_eqc (ha i hi) (ha i0 hi0) (eqr_iff.1 he).2]; exact oc'
      unfold kpt
      rw [si, Bool.true_and, List.all_eq_true]
      intro k hk
      have hk' := List.mem_range.1 hk
      unfold hits
      cases hw : wr (gR a i) (gR a k) with
      | false => simp
      | true =>
        have sk : sndR (gR a k) = true := covR.okr (gR a i) (gR a k) (ha i hi) (ha k hk') hw
        have h1 := ht (gR a k) (mem_reg.2 ⟨k, hk', rfl⟩) sk (covR.trans (gR a i0) (gR a i) (gR a k) (ha i0 hi0) (ha i hi) (ha k hk') (covR.le (gR a i0) (gR a i) (ha i0 hi0) (ha i hi) (totR.symm he) oc') hw)
        have h2 : eqr (gR a k) (gR a i) = true := totR.trans h1 (totR.symm he)
        have h3 : ¬ k < i := fun hlt => hmin k hlt ⟨hk', h1⟩
        rw [h2, decide_eq_false h3]; simp }


end Go.Proofs.Ytffkolbogcpjjaa
