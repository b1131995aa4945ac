/- Calls that were run elsewhere: what they give is known, memory stays. -/
import Derived.Test.YtimnljbphmndoaaGreatDoorExH
namespace Go.Exe
open Go Go.RowKit

/-- No rows in it. -/
def flatB : Nat → AV → Bool
  | 0, _ => false
  | n + 1, a => match a with
    | .agg l => l.all (flatB n)
    | .tup l => l.all (flatB n)
    | .ifc _ a => flatB n a
    | .ptr _ _ | .slc _ _ _ _ _ | .map _ | .chan _ | .fn _ _ _ => false
    | _ => true

/-- What a call is known to give; '.top': something. -/
noncomputable def coarse1 (a b : AV) : Bool := match b with
  | .top => true
  | b => sameA 6 a b
noncomputable def coarse (a b : AV) : Bool := match a, b with
  | .tup l, .tup m => sameL coarse1 l m
  | a, b => sameA 6 a b
noncomputable def gives (o : Out) (v : AV) : Bool := Option.rec false (fun q => Prod.rec (fun u _ => coarse u v) q) o

/-- A global's row that none may write, of one cell. -/
noncomputable def hasG (N : Nat) (h : H) (g : List (Nat × AV)) : Bool := List.rec true (fun p _ ih => Prod.rec (fun r a => both (both (Nat.blt r N) (both (flatB 3 a) (cellB a))) (Option.rec false (fun _ => ih) (onCells (h.get r) fun _ sz _ t wr _ => ite' (Nat.beq sz 1) (ite' (not wr) (bnd (t.get 0) fun l => List.rec none (fun b m _ => List.rec (ite' (sameA 3 b a) (some ())) (fun _ _ _ => none) m) l))))) p) g
noncomputable def pureO (N : Nat) (g : List (Nat × AV)) (tab : List (List AV × AV)) (args : List AV) (h : H) : Out := List.rec none (fun p _ ih => Prod.rec (fun l v => Bool.rec ih (ite' (hasG N h g) (some (v, h))) (sameL (sameA 6) l args)) p) tab

section
variable {P : Program} {σ : Sig} {N : Nat} {ρ ρ' : Rho} {h h' : H} {w w' : World} {v : AV}

mutual
theorem VR.flat : ∀ (n : Nat) (a : AV) {u : Value}, flatB n a = true → VR σ ρ a u → VR σ ρ' a u
  | 0, _, _, h, _ => nomatch h
  | n + 1, .agg l, _, h, ⟨cs, k1, k2, k3⟩ => ⟨cs, k1, LR.flat n l (show l.all (flatB n) = true from h) k2, k3⟩
  | n + 1, .tup l, _, h, ⟨cs, k1, k2⟩ => ⟨cs, k1, LR.flat n l (show l.all (flatB n) = true from h) k2⟩
  | n + 1, .ifc _ a, _, h, ⟨u, k1, k2⟩ => ⟨u, k1, VR.flat n a (show flatB n a = true from h) k2⟩
  | _ + 1, .ptr _ _, _, h, _ => nomatch h
  | _ + 1, .slc _ _ _ _ _, _, h, _ => nomatch h
  | _ + 1, .map _, _, h, _ => nomatch h
  | _ + 1, .chan _, _, h, _ => nomatch h
  | _ + 1, .fn _ _ _, _, h, _ => nomatch h
  | _ + 1, .int _ _, _, _, k => k
  | _ + 1, .bool _, _, _, k => k
  | _ + 1, .str _ _, _, _, k => k
  | _ + 1, .nilp, _, _, k => k
  | _ + 1, .nils, _, _, k => k
  | _ + 1, .nilm, _, _, k => k
  | _ + 1, .nilc, _, _, k => k
  | _ + 1, .nilf, _, _, k => k
  | _ + 1, .nili, _, _, k => k
  | _ + 1, .sym _, _, _, k => k
  | _ + 1, .und, _, _, k => k
  | _ + 1, .top, _, _, k => k
  | _ + 1, .cel, _, _, k => k
theorem LR.flat : ∀ (n : Nat) (l : List AV) {m : List Value}, l.all (flatB n) = true → LR σ ρ l m → LR σ ρ' l m
  | _, [], _, _, k => k
  | n, a :: l, _, h, ⟨u, r, k1, k2, k3⟩ => by
    rw [List.all_cons, Bool.and_eq_true] at h
    exact ⟨u, r, k1, VR.flat n a h.1 k2, LR.flat n l h.2 k3⟩
end

theorem coarse1_ok {a b : AV} (h : coarse1 a b = true) {u : Value} (hv : VR σ ρ a u) : VR σ ρ b u := by
  unfold coarse1 at h
  split at h
  · trivial
  · rw [← sameA_eq 6 _ _ h]; exact hv
theorem coarseL_ok : ∀ {l m : List AV} {vs : List Value}, sameL coarse1 l m = true → LR σ ρ l vs → LR σ ρ m vs
  | [], [], _, _, k => k
  | [], _ :: _, _, h, _ => nomatch h
  | _ :: _, [], _, h, _ => nomatch h
  | a :: l, b :: m, _, h, ⟨u, r, k1, k2, k3⟩ => by
    have h : Bool.rec (motive := fun _ => Bool) false (sameL coarse1 l m) (coarse1 a b) = true := h
    cases hab : coarse1 a b with
    | false => rw [hab] at h; cases h
    | true => rw [hab] at h; exact ⟨u, r, k1, coarse1_ok hab k2, coarseL_ok h k3⟩
theorem coarse_ok {a b : AV} (h : coarse a b = true) {u : Value} (hv : VR σ ρ a u) : VR σ ρ b u := by
  unfold coarse at h
  split at h
  · obtain ⟨cs, k1, k2⟩ := hv
    exact ⟨cs, k1, coarseL_ok h k2⟩
  · rw [← sameA_eq 6 _ _ h]; exact hv
theorem gives_some {o : Out} {v : AV} (e : gives o v = true) : ∃ u h, o = some (u, h) ∧ coarse u v = true := by
  unfold gives at e
  cases o with
  | none => cases e
  | some q => obtain ⟨u, h⟩ := q; exact ⟨u, h, rfl, e⟩

/-- A world in which all that was there stands. -/
theorem HR.below (hh : HR σ N ρ h w) (b : Below w.heap.size w w') : HR σ N ρ h w' ∧ St ρ h w ρ h w' :=
  ⟨{ live := fun r row e => let ⟨p, k1, k2⟩ := hh.live r row e; ⟨p, k1, k2.mono (Sub.refl _) (b.block _ k2.lt)⟩, new := hh.new, sep := hh.sep, old := hh.old, rels := hh.rels, glob := hh.glob },
   ⟨b.os, b.tape, b.output, b.size, fun k hk _ => b.block k hk, Sub.refl _, fun _ _ h => h, Nat.le_refl _, fun _ row _ h k => .inl ⟨row, h, k⟩, fun _ row h => .inl ⟨row, h⟩, fun q row _ h k => .inr (.inr ⟨q, row, h, k⟩), fun _ _ h => h⟩⟩

theorem cal_of_calls {f : Nat} {fn : Func} {c : Code} {vs : Array Value} (hf : P.funcs[f]? = some fn) (hb : fn.body = some c) (hn : (fn.name == "runtime.NumGoroutine") = false) (hh : HR σ N ρ h w) (hc : Calls P f vs w fun e w' => ∃ u, e = .returned u ∧ (∀ ρ', VR σ ρ' v u) ∧ Below w.heap.size w w') : Cal P σ N ρ h w (callFunc f vs) v h := by
  have hcall : (callFunc f vs).run P w = .ok (.enter f vs) w := by
    have hn' : fn.name ≠ "runtime.NumGoroutine" := by simpa using hn
    simp [callFunc, hf, hb, hn']
  intro o a next Q k
  rw [hcall]
  show Calls P f vs w _
  refine hc.mono ?_
  rintro e w' ⟨u, rfl, k1, k2⟩
  obtain ⟨g1, g2⟩ := hh.below k2
  exact k ρ u w' g1 g2 (k1 ρ)

theorem onCells_row {R : Type} {row : Option Row} {k : TypeId → Nat → Nat → Tr (List AV) → Bool → List Nat → Option R} {x : R} (h : onCells row k = some x) : ∃ e sz n t wr rel, row = some (.cells e sz n t wr rel) ∧ k e sz n t wr rel = some x := onCells_some h

theorem hasG_ok (hh : HR σ N ρ h w) : ∀ {g : List (Nat × AV)}, hasG N h g = true → ∀ r a, (r, a) ∈ g → r < N ∧ cellB a = true ∧ ∃ e cs fz u, w.heap[r]? = some (.cells cs e fz) ∧ cs[0]? = some u ∧ ∀ ρ', VR σ ρ' a u
  | [], _, _, _, hm => nomatch hm
  | (r0, a0) :: g, hg, r, a, hm => by
    obtain ⟨g1, g2⟩ := both_true (show both (both (Nat.blt r0 N) (both (flatB 3 a0) (cellB a0))) (Option.rec (motive := fun _ => Bool) false (fun _ => hasG N h g) (onCells (h.get r0) fun _ sz _ t wr _ => ite' (Nat.beq sz 1) (ite' (not wr) (bnd (t.get 0) fun l => List.rec none (fun b m _ => List.rec (ite' (sameA 3 b a0) (some ())) (fun _ _ _ => none) m) l)))) = true from hg)
    obtain ⟨g3, g4⟩ := both_true g1
    obtain ⟨g4, g5⟩ := both_true g4
    cases hx : (onCells (h.get r0) fun _ sz _ t wr _ => ite' (Nat.beq sz 1) (ite' (not wr) (bnd (t.get 0) fun l => List.rec none (fun b m _ => List.rec (ite' (sameA 3 b a0) (some ())) (fun _ _ _ => none) m) l)) : Option Unit) with
    | none => rw [hx] at g2; cases g2
    | some x =>
      rw [hx] at g2
      rcases List.mem_cons.1 hm with hm | hm
      · cases hm
        obtain ⟨e, sz, n, t, wr, rel, h1, hx⟩ := onCells_some hx
        obtain ⟨h2, hx⟩ := ite_some.1 hx
        obtain ⟨_, hx⟩ := ite_some.1 hx
        obtain ⟨l, h3, hx⟩ := bnd_some.1 hx
        have h2 := Nat.eq_of_beq_eq_true h2
        subst h2
        cases l with
        | nil => cases hx
        | cons b m =>
          cases m with
          | cons => cases hx
          | nil =>
            obtain ⟨h4, _⟩ := ite_some.1 (show ite' (sameA 3 b a0) (some ()) = some x from hx)
            have h4 := sameA_eq 3 _ _ h4
            subst h4
            have hr : r0 < N := Nat.lt_of_succ_le (Nat.le_of_ble_eq_true g3)
            obtain ⟨p, k1, cs, fz, k2, k3, _, k4⟩ := hh.live r0 _ h1
            obtain ⟨z, k5⟩ := hh.glob r0 hr
            rw [k1] at k5; cases k5
            obtain ⟨_, _, _, k6⟩ := k4 0 [b] h3
            obtain ⟨u, k7, k8⟩ := k6 0 b rfl
            exact ⟨hr, g5, e, cs, fz, u, k2, by simpa using k7, fun ρ' => VR.flat 3 _ g4 k8⟩
      · exact hasG_ok hh g2 r a hm

/-- The globals alone. -/
noncomputable def gmem (nx : Nat) (es : Nat → Nat) (g : List (Nat × AV)) : H := globs nx (g.map fun p => (p.1, es p.1, p.2))

theorem gmem_start (hh : HR σ N ρ h w) {g : List (Nat × AV)} (hg : hasG N h g = true) {nx : Nat} (hn : N ≤ nx) : ∃ es, HR σ N (rho0 N w) (gmem nx es g) w ∧ ∀ r row, (gmem nx es g).get r = some row → wrOf row = false := by
  let es : Nat → Nat := fun r => match w.heap[r]? with
    | some (.cells _ e _) => e
    | _ => 0
  refine ⟨es, HR.start (by unfold gmem; rw [globs_nx]; exact hn) fun r row e => ?_, fun r row e => ?_⟩
  · obtain ⟨e0, a, h1, rfl⟩ := globs_get e
    obtain ⟨⟨r', a'⟩, h2, h3⟩ := List.mem_map.1 h1
    cases h3
    obtain ⟨k1, k2, e1, cs, fz, u, k3, k4, k5⟩ := hasG_ok hh hg r' a' h2
    have he : es r' = e1 := by show (match w.heap[r']? with | some (.cells _ e _) => e | _ => 0) = e1; rw [k3]
    refine ⟨k1, _, _, _, _, cs, fz, rfl, by rw [k3]; rw [he], fun i l e => ?_⟩
    rw [Tr.get_node] at e
    by_cases hi : i = 0
    · subst hi
      rw [if_pos rfl] at e
      cases e
      refine ⟨Nat.one_pos, rfl, by simp [k2], fun j b hb => ?_⟩
      cases j with
      | zero => cases hb; exact ⟨u, by simpa using k4, k5 _⟩
      | succ j => simp at hb
    · rw [if_neg hi] at e
      split at e <;> simp at e
  · obtain ⟨e0, a, h1, rfl⟩ := globs_get e; rfl

theorem sameL6_eq {l m : List AV} (h : sameL (sameA 6) l m = true) : l = m := sameL_eq (fun a b h => sameA_eq 6 a b h) h

theorem pureO_some {g : List (Nat × AV)} {args : List AV} : ∀ {tab : List (List AV × AV)}, pureO N g tab args h = some (v, h') → (args, v) ∈ tab ∧ hasG N h g = true ∧ h' = h
  | [], e => nomatch e
  | (l, u) :: tab, e => by
    have e : Bool.rec (motive := fun _ => Out) (pureO N g tab args h) (ite' (hasG N h g) (some (u, h))) (sameL (sameA 6) l args) = some (v, h') := e
    cases hl : sameL (sameA 6) l args with
    | false =>
      rw [hl] at e
      obtain ⟨k1, k2⟩ := pureO_some e
      exact ⟨List.mem_cons_of_mem _ k1, k2⟩
    | true =>
      rw [hl] at e
      obtain ⟨k1, e⟩ := ite_some.1 e
      cases e
      rw [sameL6_eq hl]
      exact ⟨List.mem_cons_self .., k1, rfl⟩

/-- A function that was run at some arguments, over the globals alone. -/
theorem kok1_pure {F : Facts} {K : Known} (hF : FactsOk P σ F) (hK : KOk P σ N K) (hσ : ∀ i, (σ i).oneCell' = true) (hN : N = P.globals.size) {n f : Nat} (hKf : K f = none) {nx : Nat} (hn : N ≤ nx) {g : List (Nat × AV)} {tab : List (List AV × AV)} {fn : Func} {c : Code} (hf : P.funcs[f]? = some fn) (hb : fn.body = some c) (hnm : (fn.name == "runtime.NumGoroutine") = false)
    (flat : (tab.all fun p => p.1.all (flatB 6) && flatB 6 p.2) = true) (ev : ∀ args v, (args, v) ∈ tab → ∀ es, gives (call P F K n f args (gmem nx es g)) v = true) : KOk1 P σ N f (pureO N g tab) := by
  intro args h v h' e ρ w vs hh hv
  obtain ⟨k1, k2, rfl⟩ := pureO_some e
  obtain ⟨es, k3, k4⟩ := gmem_start hh k2 hn
  obtain ⟨u, h1, k5, k6⟩ := gives_some (ev args v k1 es)
  have fl := List.all_eq_true.1 flat _ k1
  rw [Bool.and_eq_true] at fl
  refine cal_of_calls hf hb hnm hh ((calls_enter hF hK hσ hN hKf k5 k3 (LR.flat 6 args fl.1 hv)).mono ?_)
  rintro e w' ⟨ρ', u', rfl, q1, q2, q3⟩
  refine ⟨u', rfl, fun ρ'' => VR.flat 6 v fl.2 (coarse_ok k6 q3), q2.os, q2.tape, q2.output, q2.size, fun k hk => q2.block k hk fun ⟨r, row, p, g1, g2, _⟩ => by rw [k4 r row g1] at g2; cases g2⟩
end
end Go.Exe
