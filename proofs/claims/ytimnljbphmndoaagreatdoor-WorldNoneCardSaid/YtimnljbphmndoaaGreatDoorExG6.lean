/- Drawn regions: every order gives the same. -/
import Derived.Test.YtimnljbphmndoaaGreatDoorExG5
import Derived.Orders
import Derived.StillTail
namespace Go.Exe
open Go

section
variable {P : Program} {F : Facts} {K : Known} {ih : Run} {ops : Array Oper} {sts : Nat → Stt} {n0 : Nat} {o : Oper} {m j : Nat} {S : Nat → Bool}
variable {σ : Sig} {N : Nat} {ρ ρ' ρ0 : Rho} {h0 hS hv h' : H} {w w' w0 : World} {k : Nat}

theorem readAt_some {m ab : Nat} {pend : List (Nat × Nat × Row)} {h : H} {o : Oper} {env : Env} {v : AV} {x : Env} (e : readAt P F K ih m ab pend h o env (fun u => ite' (sameA 4 v u) (some [])) = some x) : ∃ hv h1, visible m ab pend h = some hv ∧ opV P F K ih o.op env hv = some (v, h1) := by
  obtain ⟨hv, h1, e⟩ := bnd_some.1 e
  obtain ⟨u, h2, e1, e⟩ := bnd2_some.1 e
  obtain ⟨h3, _⟩ := ite_some.1 e
  rw [← sameA_eq 4 v u h3] at e1
  exact ⟨hv, h2, h1, e1⟩

theorem backs_spec {m : Nat} {pend : List (Nat × Nat × Row)} {o : Oper} {env : Env} {v : AV} : ∀ {snaps : List (Nat × Nat × H)}, backs P F K ih m pend o env v snaps = true → ∀ e ab h, (e, ab, h) ∈ snaps → m.testBit e = false → ∃ hv h1, visible m ab pend h = some hv ∧ opV P F K ih o.op env hv = some (v, h1)
  | [], _, _, _, _, h, _ => nomatch h
  | (i, ab0, hh) :: snaps, hb, e, ab, h, hm, he => by
    have hb : Bool.rec (motive := fun _ => Bool) (Option.rec (motive := fun _ => Bool) false (fun _ => backs P F K ih m pend o env v snaps) (readAt P F K ih m ab0 pend hh o env fun u => ite' (sameA 4 v u) (some []))) (backs P F K ih m pend o env v snaps) (bit m i) = true := hb
    rw [bit_eq] at hb
    cases hi : m.testBit i with
    | true =>
      rw [hi] at hb
      rcases List.mem_cons.1 hm with g | g
      · cases g; rw [hi] at he; cases he
      · exact backs_spec hb e ab h g he
    | false =>
      rw [hi] at hb
      cases hr : readAt P F K ih m ab0 pend hh o env fun u => ite' (sameA 4 v u) (some []) with
      | none => dsimp only at hb; rw [hr] at hb; cases hb
      | some x =>
        dsimp only at hb; rw [hr] at hb
        rcases List.mem_cons.1 hm with g | g
        · cases g; exact readAt_some hr
        · exact backs_spec hb e ab h g he

theorem watches_spec {mj ab : Nat} {pend : List (Nat × Nat × Row)} {h : H} : ∀ {watch : List (Nat × Nat × Oper × Env × AV)}, watches P F K ih mj ab pend h watch = true → ∀ i m o env v, (i, m, o, env, v) ∈ watch → mj.testBit i = false → ∃ hv h1, visible m ab pend h = some hv ∧ opV P F K ih o.op env hv = some (v, h1)
  | [], _, _, _, _, _, _, h, _ => nomatch h
  | (i0, m0, o0, env0, v0) :: watch, hb, i, m, o, env, v, hm, he => by
    have hb : Bool.rec (motive := fun _ => Bool) (Option.rec (motive := fun _ => Bool) false (fun _ => watches P F K ih mj ab pend h watch) (readAt P F K ih m0 ab pend h o0 env0 fun u => ite' (sameA 4 v0 u) (some []))) (watches P F K ih mj ab pend h watch) (bit mj i0) = true := hb
    rw [bit_eq] at hb
    cases hi : mj.testBit i0 with
    | true =>
      rw [hi] at hb
      rcases List.mem_cons.1 hm with g | g
      · cases g; rw [hi] at he; cases he
      · exact watches_spec hb i m o env v g he
    | false =>
      rw [hi] at hb
      cases hr : readAt P F K ih m0 ab pend h o0 env0 fun u => ite' (sameA 4 v0 u) (some []) with
      | none => dsimp only at hb; rw [hr] at hb; cases hb
      | some x =>
        dsimp only at hb; rw [hr] at hb
        rcases List.mem_cons.1 hm with g | g
        · cases g; exact readAt_some hr
        · exact watches_spec hb i m o env v g he

theorem Trace.calm (T : Trace P F K ih ops n0 sts) (hj : j < ops.size) (h : (sts (j + 1)).em = (sts j).em) : ¬ effAt sts j := fun he => by
  unfold effAt at he
  rw [h] at he
  exact absurd (T.em_low j (by omega) j he) (Nat.lt_irrefl _)
theorem Trace.bare (T : Trace P F K ih ops n0 sts) (hj : j < ops.size) (h : (sts (j + 1)).pend = (sts j).pend) : ∀ r row, (j, r, row) ∉ (sts ops.size).pend := fun r row hm => by
  rw [T.pend_at (j := j + 1) (by omega) (Nat.lt_succ_self _), h] at hm
  exact absurd ((T.pend_ok j (by omega)).1 j r row hm).1 (Nat.lt_irrefl _)

/-- A row laid. -/
theorem Mem.alloc (M : Mem σ N ops sts ρ0 h0 w0 S k ρ hS w) (C : Comes P F K ih ops n0 sts S j o m) {ra : Nat} {row : Row} (hp : (j, ra, row) ∈ (sts ops.size).pend) (he : ¬ effAt sts j) {hS' : H} (hg : ∀ q, hS'.get q = if q = ra then some row else hS.get q) (hn : hS'.nx = hS.nx) (hh : HR σ N ρ' hS' w') (st : St ρ0 h0 w0 ρ' hS' w') (hr : ∀ q, q ≠ ra → ρ' q = ρ q) : Mem σ N ops sts ρ0 h0 w0 (with1 S j) k ρ' hS' w' := by
  have ap := (C.T.pend_ok ops.size (Nat.le_refl _)).2.1
  have hab : (sts k).ab.testBit j = false := by
    cases h : (sts k).ab.testBit j with
    | false => rfl
    | true => have := M.abs j h; rw [C.fresh] at this; cases this
  refine { le := M.le, eff := fun e h1 h2 => ?_, hr := hh, nx := hn.trans M.nx, lt := fun i r row h => by rw [hn]; exact M.lt i r row h, row := fun i r row' h1 h2 h3 => ?_, rest := fun q hq => ?_, gone := M.gone, rel := M.rel, free := fun i r row' h1 h2 => ?_, abs := fun i h => by simp [with1, M.abs i h], st := st }
  · have hne : e ≠ j := fun h => by subst h; exact he h2
    rw [with1_ne hne]; exact M.eff e h1 h2
  · rw [hg]
    by_cases hi : i = j
    · subst hi
      obtain ⟨_, e1, e2⟩ := ap i r row' i ra row h1 hp (.inl rfl)
      rw [if_pos e1, e2]
    · rw [with1_ne hi] at h2
      rw [if_neg ?_]
      · exact M.row i r row' h1 h2 h3
      · intro e; subst e
        exact hi (ap i r row' j r row h1 hp (.inr rfl)).1
  · rw [hg, if_neg ?_]
    · refine M.rest q fun i row' h1 h2 h3 => hq i row' h1 ?_ h3
      simp [with1, h2]
    · intro e; subst e
      exact hq j row hp (with1_self _ _) hab
  · have hij : i ≠ j := fun e => by subst e; rw [with1_self] at h2; cases h2
    rw [with1_ne hij] at h2
    rw [hr r ?_]
    · exact M.free i r row' h1 h2
    · intro e; subst e
      exact hij (ap i r row' j r row h1 hp (.inr rfl)).1

/-- Where effects stand, seen from the operation that comes up. -/
theorem Mem.base (M : Mem σ N ops sts ρ0 h0 w0 S k ρ hS w) (C : Comes P F K ih ops n0 sts S j o m) (hE : effAt sts j) (hem : (sts j).em &&& m = (sts j).em) : (sts j).hc = (sts k).hc ∧ (sts j).ab = (sts k).ab ∧ ∀ e, e < ops.size → effAt sts e → (with1 S j e = true ↔ e < j + 1) := by
  have hj := C.lt
  have ahead : ∀ e, e < j → effAt sts e → S e = true := fun e h1 h2 => by
    refine C.mS ?_
    have := C.T.em_mem j (by omega) e h1 h2
    rw [← hem, Nat.testBit_and, Bool.and_eq_true] at this
    exact this.2
  have behind : ∀ e, j < e → e < ops.size → effAt sts e → S e = false := fun e h1 h2 h3 => by
    cases hs : S e with
    | false => rfl
    | true =>
      exfalso
      obtain ⟨m', hm', st⟩ := C.T.step e ops[e] (Array.getElem?_eq_getElem h2)
      have hb := C.after hs hm'
      have hem' := C.T.em_mem e (by omega) j h1 hE
      generalize hs' : sts (e + 1) = s' at st
      cases st with
      | eff hw hk hmm =>
        rw [← hmm, Nat.testBit_and, Bool.and_eq_true] at hem'
        rw [hb] at hem'; exact absurd hem'.2 (by simp)
      | _ => exact C.T.calm h2 (by rw [hs']) h3
  have hq : (sts j).hc = (sts k).hc ∧ (sts j).ab = (sts k).ab := by
    rcases Nat.le_total k j with h | h
    · exact C.T.quiet h (by omega) fun e h1 h2 h3 => by
        have := (M.eff e (by omega) h3).1 (ahead e h2 h3); omega
    · have := C.T.quiet h M.le fun e h1 h2 h3 => by
        have hs := (M.eff e (by have := M.le; omega) h3).2 h2
        rcases Nat.eq_or_lt_of_le h1 with g | g
        · subst g; rw [C.fresh] at hs; cases hs
        · rw [behind e g (by have := M.le; omega) h3] at hs; cases hs
      exact ⟨this.1.symm, this.2.symm⟩
  refine ⟨hq.1, hq.2, fun e h1 h2 => ?_⟩
  rcases Nat.lt_trichotomy e j with h | h | h
  · rw [with1_ne (by omega)]; exact ⟨fun _ => by omega, fun _ => ahead e h h2⟩
  · subst h; rw [with1_self]; exact ⟨fun _ => by omega, fun _ => rfl⟩
  · rw [with1_ne (by omega), behind e h h1 h2]; exact ⟨fun h => (by cases h), fun h => by omega⟩

/-- What a reading finds, wherever the effects stand. -/
theorem Mem.read (M : Mem σ N ops sts ρ0 h0 w0 S k ρ hS w) (C : Comes P F K ih ops n0 sts S j o m) {v : AV} {hv0 h1 : H} (hvis : visible m (sts j).ab (sts j).pend (sts j).hc = some hv0) (e : opV P F K ih o.op (sts j).env hv0 = some (v, h1)) (hb : backs P F K ih m (sts j).pend o (sts j).env v (sts j).snaps = true) (hw : (j, m, o, (sts j).env, v) ∈ (sts (j + 1)).watch) (hE : ¬ effAt sts j) :
    ∃ jj hv h1, j ≤ jj ∧ jj ≤ ops.size ∧ visible m (sts k).ab (sts jj).pend (sts k).hc = some hv ∧ opV P F K ih o.op (sts j).env hv = some (v, h1) := by
  have hj := C.lt
  by_cases hq : ∃ e, effAt sts e ∧ e < ops.size ∧ ((k ≤ e ∧ e < j) ∨ (j < e ∧ e < k))
  · rcases Nat.le_total k j with hkj | hjk
    · -- the first of them
      have fst : ∀ d e, e < j → effAt sts e → k ≤ e → e - k = d → ∃ f, effAt sts f ∧ k ≤ f ∧ f < j ∧ ∀ x, k ≤ x → x < f → ¬ effAt sts x := fun d => by
        induction d using Nat.strongRecOn with
        | ind d ihd =>
          intro e h1 h2 h3 h4
          by_cases hx : ∃ x, k ≤ x ∧ x < e ∧ effAt sts x
          · obtain ⟨x, g1, g2, g3⟩ := hx
            exact ihd (x - k) (by omega) x (by omega) g3 g1 rfl
          · exact ⟨e, h2, h3, h1, fun x g1 g2 g3 => hx ⟨x, g1, g2, g3⟩⟩
      obtain ⟨e0, g1, g2, g3⟩ := hq
      obtain ⟨f, f1, f2, f3, f4⟩ := fst _ e0 (by omega) g1 (by omega) rfl
      obtain ⟨q1, q2⟩ := C.T.quiet f2 (by omega) f4
      have hSf : S f = false := by
        cases hs : S f with
        | false => rfl
        | true => have := (M.eff f (by omega) f1).1 hs; omega
      have hmf : m.testBit f = false := by
        cases hs : m.testBit f with
        | false => rfl
        | true => rw [C.mS hs] at hSf; cases hSf
      obtain ⟨hv, h2, p1, p2⟩ := backs_spec hb f _ _ (C.T.snap_mem f1 j (by omega) f3) hmf
      rw [q1, q2] at p1
      exact ⟨j, hv, h2, Nat.le_refl _, by omega, p1, p2⟩
    · have lst : ∀ d e, j < e → effAt sts e → e < k → k - e = d → ∃ f, effAt sts f ∧ j < f ∧ f < k ∧ ∀ x, f + 1 ≤ x → x < k → ¬ effAt sts x := fun d => by
        induction d using Nat.strongRecOn with
        | ind d ihd =>
          intro e h1 h2 h3 h4
          by_cases hx : ∃ x, e < x ∧ x < k ∧ effAt sts x
          · obtain ⟨x, g1, g2, g3⟩ := hx
            exact ihd (k - x) (by omega) x (by omega) g3 g2 rfl
          · exact ⟨e, h2, h1, h3, fun x g1 g2 g3 => hx ⟨x, by omega, g2, g3⟩⟩
      obtain ⟨e0, g1, g2, g3⟩ := hq
      obtain ⟨f, f1, f2, f3, f4⟩ := lst _ e0 (by omega) g1 (by omega) rfl
      have hk := M.le
      obtain ⟨q1, q2⟩ := C.T.quiet (a := f + 1) (b := k) (by omega) hk f4
      have hSf : S f = true := (M.eff f (by omega) f1).2 f3
      obtain ⟨m', hm', st⟩ := C.T.step f ops[f] (Array.getElem?_eq_getElem (by omega))
      have hmf := C.after hSf hm'
      have hwf := C.T.watch_keep (j := j + 1) (j' := f) (by omega) (by omega) hw
      generalize hs' : sts (f + 1) = s' at st
      cases st with
      | eff _ _ _ _ _ hwt _ =>
        obtain ⟨hv, h2, p1, p2⟩ := watches_spec hwt _ _ _ _ _ hwf hmf
        rw [hs'] at q1 q2
        rw [q1, q2]
        exact ⟨f, hv, h2, by omega, by omega, p1, p2⟩
      | _ => exact absurd f1 (C.T.calm (by omega) (by rw [hs']))
  · have hk := M.le
    have hq2 : (sts j).hc = (sts k).hc ∧ (sts j).ab = (sts k).ab := by
      rcases Nat.le_total k j with h | h
      · exact C.T.quiet h (by omega) fun e h1 h2 h3 => hq ⟨e, h3, by omega, .inl ⟨h1, h2⟩⟩
      · have := C.T.quiet h hk fun e h1 h2 h3 => by
          rcases Nat.eq_or_lt_of_le h1 with g | g
          · subst g; exact hE h3
          · exact hq ⟨e, h3, by omega, .inr ⟨g, h2⟩⟩
        exact ⟨this.1.symm, this.2.symm⟩
    rw [hq2.1, hq2.2] at hvis
    exact ⟨j, hv0, h1, Nat.le_refl _, by omega, hvis, e⟩

/-- The list of rows agrees with the end's list on what an operation waits for. -/
theorem Comes.pend_agree (C : Comes P F K ih ops n0 sts S j o m) {jj : Nat} (h1 : j ≤ jj) (h2 : jj ≤ ops.size) : ∀ i r row, m.testBit i = true → ((i, r, row) ∈ (sts jj).pend ↔ (i, r, row) ∈ (sts ops.size).pend) := fun i r row hm => by
  have := C.T.below C.ho C.hm hm
  exact (C.T.pend_at h2 (by omega)).symm
end
end Go.Exe
