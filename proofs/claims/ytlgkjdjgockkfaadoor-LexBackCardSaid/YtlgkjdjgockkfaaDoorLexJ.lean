/- The text of 'LexBack', from the right: what its scan comes to. -/
import Derived.Test.YtlgkjdjgockkfaaDoorLexI
namespace Go.Proofs.YtlgkjdjgockkfaaDoor
open Go Go.Pod Go.Proofs

section
variable {A b : ByteArray} (hC : ∀ p, p < A.size → byt A p = 35 → to (pC A) A p < A.size)
include hC

/-- Over a text of blanks and closed remarks. -/
theorem sc_blank : ∀ j p k m, p ≤ A.size → A.size ≤ p + j → skb A j p = A.size → (A ++ b).size ≤ p + k → sc (A ++ b) k p m = sc (A ++ b) (A ++ b).size A.size m
  | 0, p, k, m, hp, hj, _, hk => by
    obtain rfl : p = A.size := by omega
    exact sc_fuel (A ++ b) k (A ++ b).size A.size m hk (by omega)
  | j + 1, p, k, m, hp, hj, hs, hk => by
    have hz := cat_size A b
    by_cases hlt : p < A.size
    · obtain ⟨k, rfl⟩ : ∃ k0, k = k0 + 1 := ⟨k - 1, by omega⟩
      rw [sc_succ, if_pos (show p < (A ++ b).size by omega), cat_left A b hlt]
      unfold skb at hs
      rw [if_pos hlt] at hs
      by_cases hbl : isB (byt A p) = true
      · rw [if_pos hbl] at hs ⊢
        exact sc_blank j (p + 1) k m hlt (by omega) hs (by omega)
      · rw [if_neg hbl] at hs ⊢
        by_cases hc : byt A p = 35
        · have h4 := to_hash hlt hc
          have h5 := hC p hlt hc
          have e : to (pC (A ++ b)) (A ++ b) p = to (pC A) A p := by
            have hst := fin_stop (pC A) A.size A.size p (by omega) hp h5
            refine fin_agree _ _ _ _ (to (pC A) A p) _ _ p (by omega) (by omega) (Nat.le_of_lt h4) (by omega) h5 ?_ hst fun j _ hj => ?_
            · exact (congrArg (fun c : Int => c != 10) (cat_left A b h5)).trans hst
            · exact congrArg (fun c : Int => c != 10) (cat_left A b (by omega))
          rw [if_pos hc] at hs ⊢
          rw [e]
          exact sc_blank j _ k m (by omega) (by omega) hs (by omega)
        · rw [if_neg hc] at hs
          omega
    · obtain rfl : p = A.size := by omega
      exact sc_fuel (A ++ b) k (A ++ b).size A.size m hk (by omega)
end

/-- A blank, as the law lays it. -/
structure Blk (x : ByteArray) : Prop where
  pos : 1 ≤ x.size
  le : x.size ≤ 9
  first : isB (byt x 0) = true
  closed : ∀ p, p < x.size → byt x p = 35 → to (pC x) x p < x.size
  all : skb x x.size 0 = x.size

def blks : List ByteArray := [(⟨#[32]⟩ : ByteArray), (⟨#[9]⟩ : ByteArray), (⟨#[10, 13]⟩ : ByteArray), (⟨#[32, 35, 32, 61, 32, 53, 32, 60, 10]⟩ : ByteArray), (⟨#[32, 32]⟩ : ByteArray)]
theorem blk_ok : ∀ i, i < 5 → Blk (blks.getD i ⟨#[]⟩) := by
  have h : ∀ i : Fin 5, 1 ≤ (blks.getD i.1 ⟨#[]⟩).size ∧ (blks.getD i.1 ⟨#[]⟩).size ≤ 9 ∧ isB (byt (blks.getD i.1 ⟨#[]⟩) 0) = true ∧ (∀ p : Fin 9, p.1 < (blks.getD i.1 ⟨#[]⟩).size → byt (blks.getD i.1 ⟨#[]⟩) p.1 = 35 → to (pC (blks.getD i.1 ⟨#[]⟩)) (blks.getD i.1 ⟨#[]⟩) p.1 < (blks.getD i.1 ⟨#[]⟩).size) ∧ skb (blks.getD i.1 ⟨#[]⟩) (blks.getD i.1 ⟨#[]⟩).size 0 = (blks.getD i.1 ⟨#[]⟩).size := by decide +kernel
  intro i hi
  obtain ⟨h1, h2, h3, h4, h5⟩ := h ⟨i, hi⟩
  have h2' : (blks.getD i ⟨#[]⟩).size ≤ 9 := h2
  exact ⟨h1, h2, h3, fun p hp hc => h4 ⟨p, by omega⟩ hp hc, h5⟩

/-- The text from an item on, so many items. -/
def rest (x l : Nat → ByteArray) : Nat → Nat → ByteArray
  | 0, _ => ⟨#[]⟩
  | k + 1, i => x i ++ (l i ++ rest x l k (i + 1))
/-- Where an item's word stands in it. -/
def off (x l : Nat → ByteArray) : Nat → Nat → Nat
  | i, 0 => (x i).size
  | i, j + 1 => (x i).size + ((l i).size + off x l (i + 1) j)

theorem rest_first {x l : Nat → ByteArray} {k i : Nat} (hx : ∀ j, Blk (x j)) : (rest x l k i).size = 0 ∨ isB (byt (rest x l k i) 0) = true := by
  cases k with
  | zero => exact .inl rfl
  | succ k =>
    right
    unfold rest
    rw [cat_left _ _ (hx i).pos]
    exact (hx i).first

theorem rest_sc {x l : Nat → ByteArray} (hx : ∀ j, Blk (x j)) : ∀ k i, (∀ j, j < k → okw (l (i + j)) = true) →
    ∃ m, sc (rest x l k i) (rest x l k i).size 0 emp = .inl m ∧ m.1 = k ∧ ∀ j, j < k → m.2 j = ⟨l (i + j), (off x l i j : Int)⟩
  | 0, i, _ => ⟨emp, rfl, rfl, fun j hj => absurd hj (Nat.not_lt_zero j)⟩
  | k + 1, i, hw => by
    obtain ⟨m, e1, e2, e3⟩ := rest_sc hx k (i + 1) fun j hj => by rw [Nat.add_right_comm, Nat.add_assoc]; exact hw (j + 1) (by omega)
    have hx' := hx i
    obtain ⟨t1, t2, t3, t4, t5⟩ := okw_tk (by have := hw 0 (by omega); rwa [Nat.add_zero] at this : okw (l i) = true)
    generalize hR : rest x l k (i + 1) = R at *
    have hRf : R.size = 0 ∨ isB (byt R 0) = true := by rw [← hR]; exact rest_first hx
    have hz1 := cat_size (l i) R
    have hz2 := cat_size (x i) (l i ++ R)
    -- the word and what follows
    have s1 : sc (l i ++ R) (l i ++ R).size 0 emp = sc (l i ++ R) ((l i ++ R).size - 1) (l i).size (pshT emp ⟨l i, ((0 : Nat) : Int)⟩) := by
      obtain ⟨K, hK⟩ : ∃ K, (l i ++ R).size = K + 1 := ⟨(l i ++ R).size - 1, by omega⟩
      rw [hK, sc_succ, if_pos (by omega), cat_left (l i) R (by omega), if_neg (by rw [t4]; decide), if_neg t5, tk_left2 hRf (by omega), t1, if_neg (by omega), Nat.zero_add, ext_left (l i) R (Nat.zero_le _) (Nat.le_refl _)]
      rw [show (l i).extract 0 (l i).size = l i by simp]
      rfl
    have r1 := sc_right (A := l i) (b := R) (pshT emp ⟨l i, ((0 : Nat) : Int)⟩) R.size ((l i ++ R).size - 1) 0 (pshT emp ⟨l i, ((0 : Nat) : Int)⟩) emp (by omega) (by omega) (Nat.zero_le _) ⟨rfl, fun _ _ => rfl, fun j hj => absurd hj (Nat.not_lt_zero j)⟩
    rw [e1, Nat.add_zero, ← s1] at r1
    obtain ⟨m1, f1, g1⟩ := r1
    -- the blank before it
    have s2 := sc_blank (A := x i) (b := l i ++ R) hx'.closed (x i).size 0 (x i ++ (l i ++ R)).size emp (Nat.zero_le _) (by omega) hx'.all (by omega)
    have r2 := sc_right (A := x i) (b := l i ++ R) emp (l i ++ R).size (x i ++ (l i ++ R)).size 0 emp emp (by omega) (by omega) (Nat.zero_le _) ⟨rfl, fun _ _ => rfl, fun j hj => absurd hj (Nat.not_lt_zero j)⟩
    rw [f1, Nat.add_zero, ← s2] at r2
    obtain ⟨m2, f2, g2⟩ := r2
    have hl1 : m1.1 = 1 + m.1 := g1.len
    have hl2 : m2.1 = 0 + m1.1 := g2.len
    refine ⟨m2, ?_, by omega, fun j hj => ?_⟩
    · show sc (x i ++ (l i ++ rest x l k (i + 1))) _ 0 emp = _
      rw [hR]
      show sc (x i ++ (l i ++ R)) (x i ++ (l i ++ rest x l k (i + 1))).size 0 emp = _
      rw [hR]; exact f2
    · have q2 := (g2.new j (by omega)).1
      have q2' : m2.2 j = ⟨(m1.2 j).f0, (m1.2 j).f1 + ((x i).size : Int)⟩ := by
        have : (emp.1 + j) = j := Nat.zero_add j
        rwa [this] at q2
      rw [q2']
      cases j with
      | zero =>
        have := g1.old 0 (show 0 < 1 by decide)
        rw [this, show (pshT emp ⟨l i, ((0 : Nat) : Int)⟩).2 0 = ⟨l i, ((0 : Nat) : Int)⟩ from rfl]
        show (⟨l i, ((0 : Nat) : Int) + ((x i).size : Int)⟩ : S_api_Token) = ⟨l (i + 0), ((x i).size : Int)⟩
        rw [Nat.add_zero]; congr 1; omega
      | succ j =>
        have q1 := (g1.new j (by omega)).1
        have hm : (pshT emp ⟨l i, ((0 : Nat) : Int)⟩).1 + j = j + 1 := by show 0 + 1 + j = j + 1; omega
        rw [hm, e3 j (by omega)] at q1
        rw [q1]
        show (⟨l (i + 1 + j), (off x l (i + 1) j : Int) + ((l i).size : Int) + ((x i).size : Int)⟩ : S_api_Token) = ⟨l (i + (j + 1)), (((x i).size + ((l i).size + off x l (i + 1) j) : Nat) : Int)⟩
        rw [show i + 1 + j = i + (j + 1) by omega]
        congr 1; omega

end Go.Proofs.YtlgkjdjgockkfaaDoor
