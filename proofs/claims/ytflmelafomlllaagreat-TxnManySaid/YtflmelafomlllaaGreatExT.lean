/- Calls that were run before: they give again what they gave. -/
import Derived.Test.YtflmelafomlllaaGreatExQ
namespace Go.Exe
open Go

noncomputable def sameG {α : Type} (f : α → α → Bool) (l : List α) : List α → Bool := List.rec (fun m => List.rec true (fun _ _ _ => false) m) (fun a _ ih m => List.rec false (fun b m _ => Bool.rec false (ih m) (f a b)) m) l
noncomputable def sameOp {α : Type} (f : α → α → Bool) (x y : Option α) : Bool := Option.rec (Option.rec true (fun _ => false) y) (fun a => Option.rec false (fun b => f a b) y) x
noncomputable def sameTr {α : Type} (f : α → α → Bool) (t : Tr α) : Tr α → Bool := Tr.rec (fun u => Tr.rec true (fun _ _ _ _ _ => false) u) (fun _ v _ il ir u => Tr.rec false (fun l v' r _ _ => both (sameOp f v v') (both (il l) (ir r))) u) t
/-- Does all that stands in the first stand in the second? -/
noncomputable def subTr {α : Type} (f : α → α → Bool) (t : Tr α) : Tr α → Bool := Tr.rec (fun _ => true) (fun _ v _ il ir u => Tr.rec false (fun l v' r _ _ => both (Option.rec true (fun _ => sameOp f v v') v) (both (il l) (ir r))) u) t
noncomputable def sameE (a b : AV × AV × Nat) : Bool := both (sameA 6 a.1 b.1) (both (sameA 6 a.2.1 b.2.1) (Nat.beq a.2.2 b.2.2))
noncomputable def sameRow (a b : Row) : Bool := match a, b with
  | .cells e sz n t wr rel, .cells e' sz' n' t' wr' rel' => both (Nat.beq e e') (both (Nat.beq sz sz') (both (Nat.beq n n') (both (Bool.rec (not wr') wr' wr) (both (sameG Nat.beq rel rel') (sameTr (sameG (sameA 6)) t t')))))
  | .map l c, .map l' c' => both (Nat.beq c c') (sameG sameE l l')
  | .chan c l, .chan c' l' => both (Nat.beq c c') (sameG (sameA 6) l l')
  | .iter m s l z, .iter m' s' l' z' => both (Nat.beq m m') (both (Nat.beq s s') (both (Nat.beq z z') (sameG Nat.beq l l')))
  | .cap a, .cap b => sameA 6 a b
  | _, _ => false
noncomputable def subH (a b : H) : Bool := H.rec (fun t nx => H.rec (fun u mx => both (Nat.ble mx nx) (subTr sameRow t u)) b) a

theorem sameG_eq {α : Type} {f : α → α → Bool} (hf : ∀ a b, f a b = true → a = b) : ∀ {l m : List α}, sameG f l m = true → l = m
  | [], [], _ => rfl
  | [], _ :: _, h => nomatch h
  | _ :: _, [], h => nomatch h
  | a :: l, b :: m, h => by
    have h : Bool.rec (motive := fun _ => Bool) false (sameG f l m) (f a b) = true := h
    cases hab : f a b with
    | false => rw [hab] at h; cases h
    | true => rw [hab] at h; rw [hf a b hab, sameG_eq hf h]
theorem sameOp_eq {α : Type} {f : α → α → Bool} (hf : ∀ a b, f a b = true → a = b) : ∀ {x y : Option α}, sameOp f x y = true → x = y
  | none, none, _ => rfl
  | none, some _, h => nomatch h
  | some _, none, h => nomatch h
  | some a, some b, h => by rw [hf a b h]
theorem sameTr_eq {α : Type} {f : α → α → Bool} (hf : ∀ a b, f a b = true → a = b) : ∀ {t u : Tr α}, sameTr f t u = true → t = u
  | .leaf, .leaf, _ => rfl
  | .leaf, .node .., h => nomatch h
  | .node .., .leaf, h => nomatch h
  | .node l v r, .node l' v' r', h => by
    obtain ⟨h1, h2⟩ := both_true (show both (sameOp f v v') (both (sameTr f l l') (sameTr f r r')) = true from h)
    obtain ⟨h2, h3⟩ := both_true h2
    rw [sameOp_eq hf h1, sameTr_eq hf h2, sameTr_eq hf h3]
theorem subTr_ok {α : Type} {f : α → α → Bool} (hf : ∀ a b, f a b = true → a = b) : ∀ {t u : Tr α}, subTr f t u = true → ∀ i x, t.get i = some x → u.get i = some x
  | .leaf, _, _, _, _, e => nomatch e
  | .node .., .leaf, h, _, _, _ => nomatch h
  | .node l v r, .node l' v' r', h, i, x, e => by
    obtain ⟨h1, h2⟩ := both_true (show both (Option.rec true (fun _ => sameOp f v v') v) (both (subTr f l l') (subTr f r r')) = true from h)
    obtain ⟨h2, h3⟩ := both_true h2
    rw [Tr.get_node] at e ⊢
    split at e
    · rw [if_pos ‹_›]
      cases v with
      | none => cases e
      | some y => rw [← sameOp_eq hf (show sameOp f (some y) v' = true from h1)]; exact e
    · rw [if_neg ‹_›]
      split at e
      · rw [if_pos ‹_›]; exact subTr_ok hf h2 _ _ e
      · rw [if_neg ‹_›]; exact subTr_ok hf h3 _ _ e

theorem sameE_eq (a b : AV × AV × Nat) (h : sameE a b = true) : a = b := by
  obtain ⟨x, y, n⟩ := a
  obtain ⟨x', y', n'⟩ := b
  obtain ⟨h1, h2⟩ := both_true h
  obtain ⟨h2, h3⟩ := both_true h2
  cases sameA_eq 6 _ _ h1; cases sameA_eq 6 _ _ h2; cases Nat.eq_of_beq_eq_true h3
  rfl
theorem sameRow_eq (a b : Row) (h : sameRow a b = true) : a = b := by
  have be : ∀ {x y : Nat}, Nat.beq x y = true → x = y := Nat.eq_of_beq_eq_true
  unfold sameRow at h
  split at h
  · rename_i wr _ _ _ _ _ wr' _
    obtain ⟨h1, h⟩ := both_true h
    obtain ⟨h2, h⟩ := both_true h
    obtain ⟨h3, h⟩ := both_true h
    obtain ⟨h4, h⟩ := both_true h
    obtain ⟨h5, h⟩ := both_true h
    have h4 : wr = wr' := by cases wr <;> cases wr' <;> first | rfl | cases h4
    rw [be h1, be h2, be h3, h4, sameG_eq (fun _ _ => be) h5, sameTr_eq (fun _ _ => sameG_eq (sameA_eq 6)) h]
  · obtain ⟨h1, h⟩ := both_true h
    rw [be h1, sameG_eq sameE_eq h]
  · obtain ⟨h1, h⟩ := both_true h
    rw [be h1, sameG_eq (sameA_eq 6) h]
  · obtain ⟨h1, h⟩ := both_true h
    obtain ⟨h2, h⟩ := both_true h
    obtain ⟨h3, h⟩ := both_true h
    rw [be h1, be h2, be h3, sameG_eq (fun _ _ => be) h]
  · rw [sameA_eq 6 _ _ h]
  · cases h
theorem subH_ok {a b : H} (h : subH a b = true) : b.nx ≤ a.nx ∧ ∀ q row, a.get q = some row → b.get q = some row := by
  obtain ⟨t, nx⟩ := a
  obtain ⟨u, mx⟩ := b
  obtain ⟨h1, h2⟩ := both_true (show both (Nat.ble mx nx) (subTr sameRow t u) = true from h)
  exact ⟨Nat.le_of_ble_eq_true h1, fun q row e => subTr_ok sameRow_eq h2 q row e⟩

/-- A call that was run: its arguments, memory ahead of it, what it gave, memory behind it. -/
structure Ent where
  args : List AV
  h : H
  v : AV
  h' : H
noncomputable def memoO (tab : List Ent) (args : List AV) (h : H) : Out := List.rec none (fun e _ ih => Ent.rec (fun eargs eh ev eh' => Bool.rec ih (some (ev, eh')) (both (sameG (sameA 6) args eargs) (subH eh h))) e) tab
/-- Did it give that? -/
noncomputable def entT (o : Out) (v : AV) (h' : H) : Bool := Option.rec false (fun q => Prod.rec (fun u h => both (sameA 6 u v) (subH h' h)) q) o

theorem memoO_some {args : List AV} {h h' : H} {v : AV} : ∀ {tab : List Ent}, memoO tab args h = some (v, h') → ∃ e ∈ tab, args = e.args ∧ subH e.h h = true ∧ v = e.v ∧ h' = e.h'
  | [], e => nomatch e
  | ⟨a, b, c, d⟩ :: tab, e => by
    have e : Bool.rec (motive := fun _ => Out) (memoO tab args h) (some (c, d)) (both (sameG (sameA 6) args a) (subH b h)) = some (v, h') := e
    cases hb : both (sameG (sameA 6) args a) (subH b h) with
    | false =>
      rw [hb] at e
      obtain ⟨x, h1, h2⟩ := memoO_some (tab := tab) e
      exact ⟨x, List.mem_cons_of_mem _ h1, h2⟩
    | true =>
      rw [hb] at e
      cases e
      obtain ⟨h1, h2⟩ := both_true hb
      exact ⟨_, List.mem_cons_self .., sameG_eq (sameA_eq 6) h1, h2, rfl, rfl⟩
theorem entT_some {o : Out} {v : AV} {h' : H} (e : entT o v h' = true) : ∃ h1, o = some (v, h1) ∧ subH h' h1 = true := by
  unfold entT at e
  cases o with
  | none => cases e
  | some q =>
    obtain ⟨u, h1⟩ := q
    obtain ⟨e1, e2⟩ := both_true e
    cases sameA_eq 6 _ _ e1
    exact ⟨h1, rfl, e2⟩

section
variable {P : Program} {σ : Sig} {N : Nat} {ρ : Rho} {h h' : H} {w w' : World} {v : AV}
theorem HR.subB (hh : HR σ N ρ h w) (s : subH h' h = true) : HR σ N ρ h' w := by
  obtain ⟨h1, h2⟩ := subH_ok s
  refine ⟨fun r row e => hh.live r row (h2 _ _ e), fun r hr => hh.new r (Nat.le_trans h1 hr), fun r q row row' p p' e1 e2 => hh.sep r q row row' p p' (h2 _ _ e1) (h2 _ _ e2), fun r q row row' e1 k e2 => hh.old r q row row' (h2 _ _ e1) k (h2 _ _ e2), fun r q row e k => hh.rels r q row (h2 _ _ e) k, hh.glob⟩
theorem subB_st (s : subH h' h = true) : St ρ h w ρ h' w := by
  obtain ⟨h1, hs⟩ := subH_ok s
  exact ⟨rfl, rfl, rfl, Nat.le_refl _, fun _ _ _ => rfl, Sub.refl _, fun _ _ ⟨q, row, p, g1, g2⟩ => ⟨q, row, p, hs _ _ g1, g2⟩, h1, fun q row p g1 g2 => .inl ⟨row, hs _ _ g1, g2⟩, fun q row g1 => .inl ⟨row, hs _ _ g1⟩, fun q row x g1 g2 => .inr (.inr ⟨q, row, hs _ _ g1, g2⟩), fun _ _ h => h⟩
theorem kok1_memo {F : Facts} {K : Known} (hF : FactsOk P σ F) (hK : KOk P σ N K) (hσ : ∀ i, (σ i).oneCell' = true) (hN : N = P.globals.size) {n f : Nat} (tab : List Ent) (ev : ∀ e ∈ tab, entT (call P F K n f e.args e.h) e.v e.h' = true) : KOk1 P σ N f (memoO tab) := by
  intro args h v h' e ρ w vs hh hv
  obtain ⟨x, hx, rfl, h1, rfl, rfl⟩ := memoO_some e
  obtain ⟨h2, e1, e2⟩ := entT_some (ev x hx)
  intro o a next Q k
  refine enter_ok hK (runs_ok hF hK hσ hN n) e1 (hh.subB h1) hv o a next Q fun ρ' u w' k1 k2 k3 => ?_
  exact k ρ' u w' (k1.subB e2) (((subB_st h1).trans k2).trans (subB_st e2)) k3
end
end Go.Exe
