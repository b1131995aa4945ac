/- Lists that are sorted and rid of what others cover: plain theory. -/
import Derived.Test.YtffkolbogcpjjaaPodV
namespace Go.Pod
open Go

/-! ### Loops with a state -/

theorem iter_inv {S E R : Type} {f : S → Option (Lo S E R)} (I : Nat → S → Prop) (K : E ⊕ R → Prop) (n : Nat)
    (step : ∀ j s, j < n → I j s → (∃ s', f s = some (.next s') ∧ I (j + 1) s') ∨ ∃ r, f s = some (.ret r) ∧ K (.inr r))
    (last : ∀ s, I n s → ∃ e, f s = some (.exit e) ∧ K (.inl e)) :
    ∀ (m j k : Nat) (s : S), n = j + m → m < k → I j s → ∃ e, iter f k s = some e ∧ K e
  | 0, _, 0, _, _, hk, _ => absurd hk (Nat.not_lt_zero _)
  | _ + 1, _, 0, _, _, hk, _ => absurd hk (Nat.not_lt_zero _)
  | 0, j, k + 1, s, hj, _, hi => by
    have : n = j := hj
    subst this
    obtain ⟨e, h1, h2⟩ := last s hi
    exact ⟨.inl e, by simp only [iter, h1], h2⟩
  | m + 1, j, k + 1, s, hj, hk, hi => by
    rcases step j s (by omega) hi with ⟨s', h1, h2⟩ | ⟨r, h1, h2⟩
    · obtain ⟨e, h3, h4⟩ := iter_inv I K n step last m (j + 1) k s' (by omega) (by omega) h2
      exact ⟨e, by simp only [iter, h1]; exact h3, h4⟩
    · exact ⟨.inr r, by simp only [iter, h1], h2⟩

def Lo.to {S E R : Type} (I : S → Prop) (K : E ⊕ R → Prop) : Lo S E R → Prop
  | .next s => I s
  | .exit e => K (.inl e)
  | .ret r => K (.inr r)

/-- The same, where a round may end the loop. -/
theorem iter_gen {S E R : Type} {f : S → Option (Lo S E R)} (I : Nat → S → Prop) (K : E ⊕ R → Prop) (n : Nat)
    (step : ∀ j s, j < n → I j s → ∃ o, f s = some o ∧ o.to (I (j + 1)) K)
    (last : ∀ s, I n s → ∃ o, f s = some o ∧ o.to (fun _ => False) K) :
    ∀ (m j k : Nat) (s : S), n = j + m → m < k → I j s → ∃ e, iter f k s = some e ∧ K e
  | 0, _, 0, _, _, hk, _ => absurd hk (Nat.not_lt_zero _)
  | _ + 1, _, 0, _, _, hk, _ => absurd hk (Nat.not_lt_zero _)
  | 0, j, k + 1, s, hj, _, hi => by
    have : n = j := hj
    subst this
    obtain ⟨o, h1, h2⟩ := last s hi
    cases o with
    | next s' => exact h2.elim
    | exit e => exact ⟨.inl e, by simp only [iter, h1], h2⟩
    | ret r => exact ⟨.inr r, by simp only [iter, h1], h2⟩
  | m + 1, j, k + 1, s, hj, hk, hi => by
    obtain ⟨o, h1, h2⟩ := step j s (by omega) hi
    cases o with
    | next s' =>
      obtain ⟨e, h3, h4⟩ := iter_gen I K n step last m (j + 1) k s' (by omega) (by omega) h2
      exact ⟨e, by simp only [iter, h1]; exact h3, h4⟩
    | exit e => exact ⟨.inl e, by simp only [iter, h1], h2⟩
    | ret r => exact ⟨.inr r, by simp only [iter, h1], h2⟩

/-! ### Slices as lists -/

def ls {α : Type} (a : Nat × (Nat → α)) : List α := (List.range a.1).map a.2

theorem ls_len {α : Type} (a : Nat × (Nat → α)) : (ls a).length = a.1 := by simp [ls]
theorem ls_get {α : Type} (a : Nat × (Nat → α)) (i : Nat) (h : i < a.1) : (ls a)[i]? = some (a.2 i) := by simp [ls, h]
theorem ls_mem {α : Type} {a : Nat × (Nat → α)} {x : α} : x ∈ ls a ↔ ∃ i, i < a.1 ∧ a.2 i = x := by simp [ls]
theorem ls_eq {α : Type} {n : Nat} {f g : Nat → α} (h : ∀ i, i < n → f i = g i) : ls (n, f) = ls (n, g) := by
  unfold ls
  exact List.map_congr_left fun i hi => h i (List.mem_range.1 hi)

/-- What is chosen of a list by a test of places. -/
def chs {α : Type} (q : Nat → Bool) (a : Nat → α) (n : Nat) : List α := ((List.range n).filter q).map a

theorem chs_zero {α : Type} (q : Nat → Bool) (a : Nat → α) : chs q a 0 = [] := rfl
theorem chs_succ {α : Type} (q : Nat → Bool) (a : Nat → α) (n : Nat) : chs q a (n + 1) = chs q a n ++ if q n then [a n] else [] := by
  unfold chs
  rw [List.range_succ, List.filter_append, List.map_append]
  congr 1
  cases h : q n <;> simp [h]
theorem chs_all {α : Type} {q : Nat → Bool} {a : Nat → α} {n : Nat} (h : ∀ i, i < n → q i = true) : chs q a n = ls (n, a) := by
  unfold chs ls
  rw [List.filter_eq_self.2 fun i hi => h i (List.mem_range.1 hi)]
theorem chs_mem {α : Type} {q : Nat → Bool} {a : Nat → α} {n : Nat} {x : α} : x ∈ chs q a n ↔ ∃ i, i < n ∧ q i = true ∧ a i = x := by
  unfold chs
  simp only [List.mem_map, List.mem_filter, List.mem_range]
  exact ⟨fun ⟨i, ⟨h1, h2⟩, h3⟩ => ⟨i, h1, h2, h3⟩, fun ⟨i, h1, h2, h3⟩ => ⟨i, ⟨h1, h2⟩, h3⟩⟩
theorem chs_len {α : Type} (q : Nat → Bool) (a : Nat → α) (n : Nat) : (chs q a n).length ≤ n := by
  unfold chs
  rw [List.length_map]
  exact Nat.le_trans (List.length_filter_le ..) (by simp)
theorem chs_filter {α : Type} (p : α → Bool) (a : Nat → α) (n : Nat) : chs (fun i => p (a i)) a n = (ls (n, a)).filter p := by
  unfold chs ls
  rw [List.filter_map]; rfl
theorem chs_congr {α : Type} {q q' : Nat → Bool} {a : Nat → α} {n : Nat} (h : ∀ i, i < n → q i = q' i) : chs q a n = chs q' a n := by
  unfold chs
  rw [List.filter_congr fun i hi => h i (List.mem_range.1 hi)]

theorem ls_push {α : Type} {m : Nat × (Nat → α)} {L : List α} {c z : α} (h : ls m = L) : ls (m.1 + 1, fun i => if i < m.1 then m.2 i else (fun i => ([c] : List α).getD i z) (i - m.1)) = L ++ [c] := by
  subst h
  unfold ls
  rw [List.range_succ, List.map_append]
  congr 1
  · exact List.map_congr_left fun i hi => by simp [List.mem_range.1 hi]
  · simp

theorem ls_cat {α : Type} (m n : Nat × (Nat → α)) : ls (m.1 + n.1, fun i => if i < m.1 then m.2 i else n.2 (i - m.1)) = ls m ++ ls n := by
  unfold ls
  rw [List.range_add, List.map_append, List.map_map]
  congr 1
  · exact List.map_congr_left fun i hi => by simp [List.mem_range.1 hi]
  · refine List.map_congr_left fun i _ => ?_
    simp only [Function.comp]
    rw [if_neg (by omega), Nat.add_sub_cancel_left]

theorem ls_set {α : Type} {i : Nat} {f : Nat → α} {c : α} : ls (i + 1, fun j => if j = i then c else f j) = ls (i, f) ++ [c] := by
  unfold ls
  rw [List.range_succ, List.map_append]
  congr 1
  · exact List.map_congr_left fun j hj => by
      have := List.mem_range.1 hj
      simp [show j ≠ i by omega]
  · simp

/-! ### The order -/

structure Tot {α : Type} (cf : α → α → Int) (eqv : α → α → Bool) : Prop where
  zero : ∀ a b, cf a b = 0 ↔ eqv a b = true
  swap : ∀ a b, cf b a = -cf a b
  le : ∀ a b c, cf a b ≤ 0 → cf b c ≤ 0 → cf a c ≤ 0 ∧ (cf a b < 0 ∨ cf b c < 0 → cf a c < 0)

section
variable {α : Type} {cf : α → α → Int} {eqv : α → α → Bool} (T : Tot cf eqv)
include T

theorem Tot.refl (a : α) : eqv a a = true := (T.zero a a).1 (by have := T.swap a a; omega)
theorem Tot.symm {a b : α} (h : eqv a b = true) : eqv b a = true := (T.zero b a).1 (by have := T.swap a b; have := (T.zero a b).2 h; omega)
theorem Tot.trans {a b c : α} (h1 : eqv a b = true) (h2 : eqv b c = true) : eqv a c = true := by
  have e1 := (T.zero a b).2 h1
  have e2 := (T.zero b c).2 h2
  have k1 := (T.le a b c (by omega) (by omega)).1
  have k2 := (T.le c b a (by have := T.swap b c; omega) (by have := T.swap a b; omega)).1
  have := T.swap a c
  exact (T.zero a c).1 (by omega)

/-- Two lists, each strictly sorted, with the same elements are the same. -/
theorem Tot.same : ∀ (E F : List α), E.Pairwise (fun x y => cf x y < 0) → F.Pairwise (fun x y => cf x y < 0) → (∀ c ∈ E, ∃ x ∈ F, eqv c x = true) → (∀ c ∈ F, ∃ x ∈ E, eqv x c = true) →
    E.length = F.length ∧ ∀ (i : Nat) (x y : α), E[i]? = some x → F[i]? = some y → eqv x y = true
  | [], [], _, _, _, _ => ⟨rfl, fun i x y h => by simp at h⟩
  | [], f :: F, _, _, _, h => by obtain ⟨x, hx, _⟩ := h f (List.mem_cons_self ..); cases hx
  | e :: E, [], _, _, h, _ => by obtain ⟨x, hx, _⟩ := h e (List.mem_cons_self ..); cases hx
  | e :: E, f :: F, hE, hF, h1, h2 => by
    obtain ⟨p1, p2⟩ := List.pairwise_cons.1 hE
    obtain ⟨q1, q2⟩ := List.pairwise_cons.1 hF
    have hef : eqv e f = true := by
      obtain ⟨x, hx, kx⟩ := h1 e (List.mem_cons_self ..)
      obtain ⟨y, hy, ky⟩ := h2 f (List.mem_cons_self ..)
      rcases List.mem_cons.1 hx with rfl | hx
      · exact kx
      rcases List.mem_cons.1 hy with rfl | hy
      · exact ky
      have a1 := q1 x hx
      have a2 := p1 y hy
      have a3 := (T.zero e x).2 kx
      have a4 := (T.zero y f).2 ky
      have a5 := (T.le f x e (by omega) (by have := T.swap e x; omega)).2 (.inl a1)
      have a6 := (T.le e y f (by omega) (by omega)).2 (.inl a2)
      have := T.swap e f
      omega
    have tail1 : ∀ c ∈ E, ∃ x ∈ F, eqv c x = true := fun c hc => by
      obtain ⟨x, hx, kx⟩ := h1 c (List.mem_cons_of_mem _ hc)
      rcases List.mem_cons.1 hx with rfl | hx
      · have := p1 c hc
        have h3 := T.trans hef (T.symm kx)
        have := (T.zero e c).2 h3
        omega
      · exact ⟨x, hx, kx⟩
    have tail2 : ∀ c ∈ F, ∃ x ∈ E, eqv x c = true := fun c hc => by
      obtain ⟨x, hx, kx⟩ := h2 c (List.mem_cons_of_mem _ hc)
      rcases List.mem_cons.1 hx with rfl | hx
      · have := q1 c hc
        have h3 := T.trans (T.symm hef) kx
        have := (T.zero f c).2 h3
        omega
      · exact ⟨x, hx, kx⟩
    obtain ⟨k1, k2⟩ := Tot.same E F p2 q2 tail1 tail2
    refine ⟨by simp [k1], fun i x y hx hy => ?_⟩
    cases i with
    | zero =>
      simp at hx hy
      rw [← hx, ← hy]; exact hef
    | succ i => exact k2 i x y (by simpa using hx) (by simpa using hy)

/-- What a sorted list is without repetitions: each that is not as the one before it. -/
theorem Tot.dedup {n : Nat} {a : Nat → α} {q : Nat → Bool} (hs : ∀ i j, i < j → j < n → cf (a i) (a j) ≤ 0) (hq : ∀ i, i < n → (q i = true ↔ i = 0 ∨ eqv (a i) (a (i - 1)) = false)) :
    (chs q a n).Pairwise (fun x y => cf x y < 0) ∧ ∀ c ∈ ls (n, a), ∃ x ∈ chs q a n, eqv x c = true := by
  constructor
  · unfold chs
    rw [List.pairwise_map]
    have h0 : ((List.range n).filter q).Pairwise (· < ·) := List.Pairwise.filter _ List.pairwise_lt_range
    refine List.Pairwise.imp_of_mem (fun {i j} hi hj hij => ?_) h0
    have hj1 := List.mem_filter.1 hj
    have hjn := List.mem_range.1 hj1.1
    have h1 := ((hq j hjn).1 hj1.2).resolve_left (by omega)
    have h2 : cf (a (j - 1)) (a j) < 0 := by
      have := hs (j - 1) j (by omega) hjn
      have hne : cf (a (j - 1)) (a j) ≠ 0 := fun e => by
        have := T.symm ((T.zero _ _).1 e)
        rw [h1] at this; cases this
      omega
    rcases Nat.lt_or_ge i (j - 1) with h3 | h3
    · exact (T.le _ _ _ (hs i (j - 1) h3 (by omega)) (by omega)).2 (.inr h2)
    · rw [show i = j - 1 by omega]; exact h2
  · intro c hc
    obtain ⟨i, hi, rfl⟩ := ls_mem.1 hc
    simp only at hi ⊢
    clear hc
    induction i with
    | zero => exact ⟨a 0, chs_mem.2 ⟨0, hi, (hq 0 hi).2 (.inl rfl), rfl⟩, T.refl _⟩
    | succ i ih =>
      cases h : eqv (a (i + 1)) (a i) with
      | false => exact ⟨a (i + 1), chs_mem.2 ⟨i + 1, hi, (hq _ hi).2 (.inr h), rfl⟩, T.refl _⟩
      | true =>
        obtain ⟨x, hx, kx⟩ := ih (by omega)
        exact ⟨x, hx, T.trans kx (T.symm h)⟩
end

/-! ### What is not covered -/

structure Cov {α : Type} (eqv : α → α → Bool) (ok : α → Bool) (wn : α → α → Bool) (G : α → Prop) (meas : α → Nat) : Prop where
  refl : ∀ a, G a → ok a = true → wn a a = true
  trans : ∀ a b c, G a → G b → G c → wn a b = true → wn b c = true → wn a c = true
  anti : ∀ a b, G a → G b → wn a b = true → wn b a = true → eqv a b = true
  le : ∀ a b, G a → G b → eqv a b = true → ok a = true → wn a b = true
  okr : ∀ a b, G a → G b → wn a b = true → ok b = true
  less : ∀ a b, G a → G b → wn a b = true → eqv b a = false → meas b < meas a

/-- 'E' is 'A' rid of what is not sound, of repetitions, of what others cover, and sorted. -/
structure Thin {α : Type} (cf : α → α → Int) (eqv : α → α → Bool) (ok : α → Bool) (wn : α → α → Bool) (A E : List α) : Prop where
  sub : ∀ c ∈ E, c ∈ A ∧ ok c = true
  srt : E.Pairwise (fun x y => cf x y < 0)
  top : ∀ c ∈ E, ∀ d ∈ A, ok d = true → wn c d = true → eqv d c = true
  all : ∀ c ∈ A, ok c = true → (∀ d ∈ A, ok d = true → wn c d = true → eqv d c = true) → ∃ e ∈ E, eqv e c = true

section
variable {α : Type} {cf : α → α → Int} {eqv : α → α → Bool} {ok : α → Bool} {wn : α → α → Bool} {G : α → Prop} {meas : α → Nat} (T : Tot cf eqv) (C : Cov eqv ok wn G meas)
include T C

omit T in
/-- Above each there is one that none covers. -/
theorem Cov.top {A : List α} (hG : ∀ c ∈ A, G c) : ∀ (n : Nat) (c : α), meas c ≤ n → c ∈ A → ok c = true → ∃ d ∈ A, ok d = true ∧ wn c d = true ∧ ∀ x ∈ A, ok x = true → wn d x = true → eqv x d = true
  | n, c, hn, hc, ho => by
    by_cases h : ∀ x ∈ A, ok x = true → wn c x = true → eqv x c = true
    · exact ⟨c, hc, ho, C.refl c (hG c hc) ho, h⟩
    · simp only [Classical.not_forall] at h
      obtain ⟨x, hx, ox, wx, ne⟩ := h
      have hm := C.less c x (hG c hc) (hG x hx) wx (by simpa using ne)
      match n with
      | 0 => omega
      | n + 1 =>
        obtain ⟨d, h1, h2, h3, h4⟩ := Cov.top hG n x (by omega) hx ox
        exact ⟨d, h1, h2, C.trans c x d (hG c hc) (hG x hx) (hG d h1) wx h3, h4⟩

theorem Thin.above {A E : List α} (L : Thin cf eqv ok wn A E) (hG : ∀ c ∈ A, G c) {c : α} (hc : c ∈ A) (ho : ok c = true) : ∃ e ∈ E, wn c e = true := by
  obtain ⟨d, h1, h2, h3, h4⟩ := C.top hG (meas c) c (Nat.le_refl _) hc ho
  obtain ⟨e, he, ke⟩ := L.all d h1 h2 h4
  have hGe := hG e (L.sub e he).1
  exact ⟨e, he, C.trans c d e (hG c hc) (hG d h1) hGe h3 (C.le d e (hG d h1) hGe (T.symm ke) h2)⟩

omit C in
theorem Thin.same {A E F : List α} (L : Thin cf eqv ok wn A E) (M : Thin cf eqv ok wn A F) : E.length = F.length ∧ ∀ (i : Nat) (x y : α), E[i]? = some x → F[i]? = some y → eqv x y = true := by
  refine T.same E F L.srt M.srt (fun c hc => ?_) (fun c hc => ?_)
  · obtain ⟨x, hx, kx⟩ := M.all c (L.sub c hc).1 (L.sub c hc).2 (L.top c hc)
    exact ⟨x, hx, T.symm kx⟩
  · exact L.all c (M.sub c hc).1 (M.sub c hc).2 (M.top c hc)

/-- The way to it: sound ones, sorted, without repetitions, those that none covers. -/
theorem Thin.mk' {A : List α} (hG : ∀ c ∈ A, G c) {n : Nat} {a : Nat → α} {q : Nat → Bool} {D E : List α} (hp : (ls (n, a)).Perm (A.filter ok)) (hs : ∀ i j, i < j → j < n → cf (a i) (a j) ≤ 0) (hq : ∀ i, i < n → (q i = true ↔ i = 0 ∨ eqv (a i) (a (i - 1)) = false))
    (hD : D = chs q a n) {keep : α → Bool} (hk : ∀ c ∈ D, (keep c = true ↔ ∀ d ∈ D, wn c d = true → eqv d c = true)) (hE : E = D.filter keep) : Thin cf eqv ok wn A E := by
  obtain ⟨d1, d2⟩ := T.dedup hs hq
  rw [← hD] at d1 d2
  have inD : ∀ c ∈ D, c ∈ A ∧ ok c = true := fun c hc => by
    rw [hD] at hc
    obtain ⟨i, hi, _, rfl⟩ := chs_mem.1 hc
    exact List.mem_filter.1 (hp.mem_iff.1 (ls_mem.2 ⟨i, hi, rfl⟩))
  have toD : ∀ c ∈ A, ok c = true → ∃ x ∈ D, eqv x c = true := fun c hc ho => d2 c (hp.mem_iff.2 (List.mem_filter.2 ⟨hc, ho⟩))
  subst hE
  exact {
    sub := fun c hc => inD c (List.mem_filter.1 hc).1
    srt := List.Pairwise.filter _ d1
    top := fun c hc d hd od hw => by
      obtain ⟨h1, h2⟩ := List.mem_filter.1 hc
      obtain ⟨x, hx, kx⟩ := toD d hd od
      have gc := hG c (inD c h1).1
      have gd := hG d hd
      have gx := hG x (inD x hx).1
      have := (hk c h1).1 h2 x hx (C.trans c d x gc gd gx hw (C.le d x gd gx (T.symm kx) od))
      exact T.trans (T.symm kx) this
    all := fun c hc oc ht => by
      obtain ⟨x, hx, kx⟩ := toD c hc oc
      have gc := hG c hc
      have gx := hG x (inD x hx).1
      refine ⟨x, List.mem_filter.2 ⟨hx, (hk x hx).2 fun d hd hw => ?_⟩, kx⟩
      have gd := hG d (inD d hd).1
      have h1 := ht d (inD d hd).1 (inD d hd).2 (C.trans c x d gc gx gd (C.le c x gc gx (T.symm kx) oc) hw)
      exact T.trans h1 (T.symm kx) }
end

end Go.Pod
