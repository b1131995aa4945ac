/- Drawn regions: every order gives the same. -/
import Derived.Test.YtflmelafomlllaaGreatExG
import Derived.Orders
import Derived.StillTail
namespace Go.Exe
open Go

section
variable {P : Program} {F : Facts} {K : Known} {ih : Run} {ops : Array Oper} {sts : Nat → Stt} {n0 : Nat} {o : Oper} {m j : Nat} {S : Nat → Bool}
variable {σ : Sig} {N : Nat} {ρ ρ' ρ0 : Rho} {h0 hS hv h' : H} {w w' w0 : World} {k : Nat}

theorem readAt_some {m ab : Nat} {pend : List (Nat × Nat × Row)} {h : H} {o : Oper} {env : Env} {v : AV} {x : Env} (e : readAt P F K ih m ab pend h o env (fun u => ite' (sameA 4 v u) (some [])) = some x) : ∃ hv h1, visible m ab pend h = some hv ∧ opV P F K ih o.op env hv = some (v, h1) := by
  obtain ⟨hv, h1, e⟩ := bnd_some.1 e
  obtain ⟨u, h2, e1, e⟩ := bnd2_some.1 e
  obtain ⟨h3, _⟩ := ite_some.1 e
  rw [← sameA_eq 4 v u h3] at e1
  exact ⟨hv, h2, h1, e1⟩

theorem backs_spec {m : Nat} {pend : List (Nat × Nat × Row)} {o : Oper} {env : Env} {v : AV} : ∀ {snaps : List (Nat × Nat × H)}, backs P F K ih m pend o env v snaps = true → ∀ e ab h, (e, ab, h) ∈ snaps → m.testBit e = false → ∃ hv h1, visible m ab pend h = some hv ∧ opV P F K ih o.op env hv = some (v, h1)
  | [], _, _, _, _, h, _ => nomatch h
  | (i, ab0, hh) :: snaps, hb, e, ab, h, hm, he => by
    have hb : Bool.rec (motive := fun _ => Bool) (Option.rec (motive := fun _ => Bool) false (fun _ => backs P F K ih m pend o env v snaps) (readAt P F K ih m ab0 pend hh o env fun u => ite' (sameA 4 v u) (some []))) (backs P F K ih m pend o env v snaps) (bit m i) = true := hb
    rw [bit_eq] at hb
    cases hi : m.testBit i with
    | true =>
      rw [hi] at hb
      rcases List.mem_cons.1 hm with g | g
      · cases g; rw [hi] at he; cases he
      · exact backs_spec hb e ab h g he
    | false =>
      rw [hi] at hb
      cases hr : readAt P F K ih m ab0 pend hh o env fun u => ite' (sameA 4 v u) (some []) with
      | none => dsimp only at hb; rw [hr] at hb; cases hb
      | some x =>
        dsimp only at hb; rw [hr] at hb
        rcases List.mem_cons.1 hm with g | g
        · cases g; exact readAt_some hr
        · exact backs_spec hb e ab h g he

theorem watches_spec {mj ab : Nat} {pend : List (Nat × Nat × Row)} {h : H} : ∀ {watch : List (Nat × Nat × Oper × Env × AV)}, watches P F K ih mj ab pend h watch = true → ∀ i m o env v, (i, m, o, env, v) ∈ watch → mj.testBit i = false → ∃ hv h1, visible m ab pend h = some hv ∧ opV P F K ih o.op env hv = some (v, h1)
  | [], _, _, _, _, _, _, h, _ => nomatch h
  | (i0, m0, o0, env0, v0) :: watch, hb, i, m, o, env, v, hm, he => by
    have hb : Bool.rec (motive := fun _ => Bool) (Option.rec (motive := fun _ => Bool) false (fun _ => watches P F K ih mj ab pend h watch) (readAt P F K ih m0 ab pend h o0 env0 fun u => ite' (sameA 4 v0 u) (some []))) (watches P F K ih mj ab pend h watch) (bit mj i0) = true := hb
    rw [bit_eq] at hb
    cases hi : mj.testBit i0 with
    | true =>
      rw [hi] at hb
      rcases List.mem_cons.1 hm with g | g
      · cases g; rw [hi] at he; cases he
      · exact watches_spec hb i m o env v g he
    | false =>
      rw [hi] at hb
      cases hr : readAt P F K ih m0 ab pend h o0 env0 fun u => ite' (sameA 4 v0 u) (some []) with
      | none => dsimp only at hb; rw [hr] at hb; cases hb
      | some x =>
        dsimp only at hb; rw [hr] at hb
        rcases List.mem_cons.1 hm with g | g
        · cases g; exact readAt_some hr
        · exact watches_spec hb i m o env v g he

theorem Trace.calm (T : Trace P F K ih ops n0 sts) (hj : j < ops.size) (h : (sts (j + 1)).em = (sts j).em) : ¬ effAt sts j := fun he => by
  unfold effAt at he
  rw [h] at he
  exact absurd (T.em_low j (by omega) j he) (Nat.lt_irrefl _)
theorem Trace.bare (T : Trace P F K ih ops n0 sts) (hj : j < ops.size) (h : (sts (j + 1)).pend = (sts j).pend) : ∀ r row, (j, r, row) ∉ (sts ops.size).pend := fun r row hm => by
  rw [T.pend_at (j := j + 1) (by omega) (Nat.lt_succ_self _), h] at hm
  exact absurd ((T.pend_ok j (by omega)).1 j r row hm).1 (Nat.lt_irrefl _)

/-- A row laid. -/
theorem Mem.alloc (M : Mem σ N ops sts ρ0 h0 w0 S k ρ hS w) (C : Comes P F K ih ops n0 sts S j o m) {ra : Nat} {row : Row} (hp : (j, ra, row) ∈ (sts ops.size).pend) (he : ¬ effAt sts j) {hS' : H} (hg : ∀ q, hS'.get q = if q = ra then some row else hS.get q) (hn : hS'.nx = hS.nx) (hh : HR σ N ρ' hS' w') (st : St ρ0 h0 w0 ρ' hS' w') (hr : ∀ q, q ≠ ra → ρ' q = ρ q) : Mem σ N ops sts ρ0 h0 w0 (with1 S j) k ρ' hS' w' := by
  have ap := (C.T.pend_ok ops.size (Nat.le_refl _)).2.1
  have hab : (sts k).ab.testBit j = false := by
    cases h : (sts k).ab.testBit j with
    | false => rfl
    | true => have := M.abs j h; rw [C.fresh] at this; cases this
  refine { le := M.le, eff := fun e h1 h2 => ?_, hr := hh, nx := hn.trans M.nx, lt := fun i r row h => by rw [hn]; exact M.lt i r row h, row := fun i r row' h1 h2 h3 => ?_, rest := fun q hq => ?_, gone := M.gone, rel := M.rel, free := fun i r row' h1 h2 => ?_, abs := fun i h => by simp [with1, M.abs i h], st := st }
  · have hne : e ≠ j := fun h => by subst h; exact he h2
    rw [with1_ne hne]; exact M.eff e h1 h2
  · rw [hg]
    by_cases hi : i = j
    · subst hi
      obtain ⟨_, e1, e2⟩ := ap i r row' i ra row h1 hp (.inl rfl)
      rw [if_pos e1, e2]
    · rw [with1_ne hi] at h2
      rw [if_neg ?_]
      · exact M.row i r row' h1 h2 h3
      · intro e; subst e
        exact hi (ap i r row' j r row h1 hp (.inr rfl)).1
  · rw [hg, if_neg ?_]
    · refine M.rest q fun i row' h1 h2 h3 => hq i row' h1 ?_ h3
      simp [with1, h2]
    · intro e; subst e
      exact hq j row hp (with1_self _ _) hab
  · have hij : i ≠ j := fun e => by subst e; rw [with1_self] at h2; cases h2
    rw [with1_ne hij] at h2
    rw [hr r ?_]
    · exact M.free i r row' h1 h2
    · intro e; subst e
      exact hij (ap i r row' j r row h1 hp (.inr rfl)).1

/-- Where effects stand, seen from the operation that comes up. -/
theorem Mem.base (M : Mem σ N ops sts ρ0 h0 w0 S k ρ hS w) (C : Comes P F K ih ops n0 sts S j o m) (hE : effAt sts j) (hem : (sts j).em &&& m = (sts j).em) : (sts j).hc = (sts k).hc ∧ (sts j).ab = (sts k).ab ∧ ∀ e, e < ops.size → effAt sts e → (with1 S j e = true ↔ e < j + 1) := by
  have hj := C.lt
  have ahead : ∀ e, e < j → effAt sts e → S e = true := fun e h1 h2 => by
    refine C.mS ?_
    have := C.T.em_mem j (by omega) e h1 h2
    rw [← hem, Nat.testBit_and, Bool.and_eq_true] at this
    exact this.2
  have behind : ∀ e, j < e → e < ops.size → effAt sts e → S e = false := fun e h1 h2 h3 => by
    cases hs : S e with
    | false => rfl
    | true =>
      exfalso
      obtain ⟨m', hm', st⟩ := C.T.step e ops[e] (Array.getElem?_eq_getElem h2)
      have hb := C.after hs hm'
      have hem' := C.T.em_mem e (by omega) j h1 hE
      generalize hs' : sts (e + 1) = s' at st
      cases st with
      | eff hw hk hmm =>
        rw [← hmm, Nat.testBit_and, Bool.and_eq_true] at hem'
        rw [hb] at hem'; exact absurd hem'.2 (by simp)
      | _ => exact C.T.calm h2 (by rw [hs']) h3
  have hq : (sts j).hc = (sts k).hc ∧ (sts j).ab = (sts k).ab := by
    rcases Nat.le_total k j with h | h
    · exact C.T.quiet h (by omega) fun e h1 h2 h3 => by
        have := (M.eff e (by omega) h3).1 (ahead e h2 h3); omega
    · have := C.T.quiet h M.le fun e h1 h2 h3 => by
        have hs := (M.eff e (by have := M.le; omega) h3).2 h2
        rcases Nat.eq_or_lt_of_le h1 with g | g
        · subst g; rw [C.fresh] at hs; cases hs
        · rw [behind e g (by have := M.le; omega) h3] at hs; cases hs
      exact ⟨this.1.symm, this.2.symm⟩
  refine ⟨hq.1, hq.2, fun e h1 h2 => ?_⟩
  rcases Nat.lt_trichotomy e j with h | h | h
  · rw [with1_ne (by omega)]; exact ⟨fun _ => by omega, fun _ => ahead e h h2⟩
  · subst h; rw [with1_self]; exact ⟨fun _ => by omega, fun _ => rfl⟩
  · rw [with1_ne (by omega), behind e h h1 h2]; exact ⟨fun h => (by cases h), fun h => by omega⟩

/-- What a reading finds, wherever the effects stand. -/
theorem Mem.read (M : Mem σ N ops sts ρ0 h0 w0 S k ρ hS w) (C : Comes P F K ih ops n0 sts S j o m) {v : AV} {hv0 h1 : H} (hvis : visible m (sts j).ab (sts j).pend (sts j).hc = some hv0) (e : opV P F K ih o.op (sts j).env hv0 = some (v, h1)) (hb : backs P F K ih m (sts j).pend o (sts j).env v (sts j).snaps = true) (hw : (j, m, o, (sts j).env, v) ∈ (sts (j + 1)).watch) (hE : ¬ effAt sts j) :
    ∃ jj hv h1, j ≤ jj ∧ jj ≤ ops.size ∧ visible m (sts k).ab (sts jj).pend (sts k).hc = some hv ∧ opV P F K ih o.op (sts j).env hv = some (v, h1) := by
  have hj := C.lt
  by_cases hq : ∃ e, effAt sts e ∧ e < ops.size ∧ ((k ≤ e ∧ e < j) ∨ (j < e ∧ e < k))
  · rcases Nat.le_total k j with hkj | hjk
    · -- the first of them
      have fst : ∀ d e, e < j → effAt sts e → k ≤ e → e - k = d → ∃ f, effAt sts f ∧ k ≤ f ∧ f < j ∧ ∀ x, k ≤ x → x < f → ¬ effAt sts x := fun d => by
        induction d using Nat.strongRecOn with
        | ind d ihd =>
          intro e h1 h2 h3 h4
          by_cases hx : ∃ x, k ≤ x ∧ x < e ∧ effAt sts x
          · obtain ⟨x, g1, g2, g3⟩ := hx
            exact ihd (x - k) (by omega) x (by omega) g3 g1 rfl
          · exact ⟨e, h2, h3, h1, fun x g1 g2 g3 => hx ⟨x, g1, g2, g3⟩⟩
      obtain ⟨e0, g1, g2, g3⟩ := hq
      obtain ⟨f, f1, f2, f3, f4⟩ := fst _ e0 (by omega) g1 (by omega) rfl
      obtain ⟨q1, q2⟩ := C.T.quiet f2 (by omega) f4
      have hSf : S f = false := by
        cases hs : S f with
        | false => rfl
        | true => have := (M.eff f (by omega) f1).1 hs; omega
      have hmf : m.testBit f = false := by
        cases hs : m.testBit f with
        | false => rfl
        | true => rw [C.mS hs] at hSf; cases hSf
      obtain ⟨hv, h2, p1, p2⟩ := backs_spec hb f _ _ (C.T.snap_mem f1 j (by omega) f3) hmf
      rw [q1, q2] at p1
      exact ⟨j, hv, h2, Nat.le_refl _, by omega, p1, p2⟩
    · have lst : ∀ d e, j < e → effAt sts e → e < k → k - e = d → ∃ f, effAt sts f ∧ j < f ∧ f < k ∧ ∀ x, f + 1 ≤ x → x < k → ¬ effAt sts x := fun d => by
        induction d using Nat.strongRecOn with
        | ind d ihd =>
          intro e h1 h2 h3 h4
          by_cases hx : ∃ x, e < x ∧ x < k ∧ effAt sts x
          · obtain ⟨x, g1, g2, g3⟩ := hx
            exact ihd (k - x) (by omega) x (by omega) g3 g2 rfl
          · exact ⟨e, h2, h1, h3, fun x g1 g2 g3 => hx ⟨x, by omega, g2, g3⟩⟩
      obtain ⟨e0, g1, g2, g3⟩ := hq
      obtain ⟨f, f1, f2, f3, f4⟩ := lst _ e0 (by omega) g1 (by omega) rfl
      have hk := M.le
      obtain ⟨q1, q2⟩ := C.T.quiet (a := f + 1) (b := k) (by omega) hk f4
      have hSf : S f = true := (M.eff f (by omega) f1).2 f3
      obtain ⟨m', hm', st⟩ := C.T.step f ops[f] (Array.getElem?_eq_getElem (by omega))
      have hmf := C.after hSf hm'
      have hwf := C.T.watch_keep (j := j + 1) (j' := f) (by omega) (by omega) hw
      generalize hs' : sts (f + 1) = s' at st
      cases st with
      | eff _ _ _ _ _ hwt _ =>
        obtain ⟨hv, h2, p1, p2⟩ := watches_spec hwt _ _ _ _ _ hwf hmf
        rw [hs'] at q1 q2
        rw [q1, q2]
        exact ⟨f, hv, h2, by omega, by omega, p1, p2⟩
      | _ => exact absurd f1 (C.T.calm (by omega) (by rw [hs']))
  · have hk := M.le
    have hq2 : (sts j).hc = (sts k).hc ∧ (sts j).ab = (sts k).ab := by
      rcases Nat.le_total k j with h | h
      · exact C.T.quiet h (by omega) fun e h1 h2 h3 => hq ⟨e, h3, by omega, .inl ⟨h1, h2⟩⟩
      · have := C.T.quiet h hk fun e h1 h2 h3 => by
          rcases Nat.eq_or_lt_of_le h1 with g | g
          · subst g; exact hE h3
          · exact hq ⟨e, h3, by omega, .inr ⟨g, h2⟩⟩
        exact ⟨this.1.symm, this.2.symm⟩
    rw [hq2.1, hq2.2] at hvis
    exact ⟨j, hv0, h1, Nat.le_refl _, by omega, hvis, e⟩

/-- The list of rows agrees with the end's list on what an operation waits for. -/
theorem Comes.pend_agree (C : Comes P F K ih ops n0 sts S j o m) {jj : Nat} (h1 : j ≤ jj) (h2 : jj ≤ ops.size) : ∀ i r row, m.testBit i = true → ((i, r, row) ∈ (sts jj).pend ↔ (i, r, row) ∈ (sts ops.size).pend) := fun i r row hm => by
  have := C.T.below C.ho C.hm hm
  exact (C.T.pend_at h2 (by omega)).symm
end
end Go.Exe
/- Drawn regions: a step in any order, and all of them. -/
namespace Go.Exe
open Go

section
variable {P : Program} {F : Facts} {K : Known} {ih : Run} {ops : Array Oper} {sts : Nat → Stt} {n0 : Nat} {o : Oper} {m j : Nat} {S : Nat → Bool}
variable {σ : Sig} {N : Nat} {ρ ρ' ρ0 : Rho} {h0 hS hv h' : H} {w w' w0 : World} {k : Nat}

/-- An effect. -/
theorem Mem.after (M : Mem σ N ops sts ρ0 h0 w0 S k ρ hS w) (C : Comes P F K ih ops n0 sts S j o m) (hE : effAt sts j) (hem : (sts j).em &&& m = (sts j).em) (hvis : visible m (sts j).ab (sts j).pend (sts j).hc = some hv) (hab : (sts (j + 1)).ab = (sts j).ab ||| m) (hpn : (sts (j + 1)).pend = (sts j).pend)
    (hh : HR σ N ρ' (sts (j + 1)).hc w') (st : St ρ hv w ρ' (sts (j + 1)).hc w') : ∃ hS', Mem σ N ops sts ρ0 h0 w0 (with1 S j) (j + 1) ρ' hS' w' ∧ Sub ρ ρ' := by
  have hj := C.lt
  obtain ⟨b1, b2, b3⟩ := M.base C hE hem
  have pn := C.T.pend_ok ops.size (Nat.le_refl _)
  obtain ⟨v1, v2, v3, v4, v5⟩ := M.vis C.T (fun i h => C.mS h) (C.pend_agree (Nat.le_refl _) (by omega)) (C.T.pend_ok j (by omega)).2.1 b1 b2 hvis
  have hnj := C.T.bare hj hpn
  obtain ⟨hS', s1, s2, s3⟩ := beside (fun i => S i && !m.testBit i && !(sts k).ab.testBit i) (sts (j + 1)).hc pn.2.1
  have bes : ∀ q, Beside ops sts S m k q → ∃ row, hS.get q = some row ∧ hS'.get q = some row ∧ relOf row = [] ∧ hv.get q = none := fun q hb => by
    obtain ⟨row, g1, g2, g3, _⟩ := v3 q hb
    obtain ⟨i, row', q1, q2, q3, q4⟩ := hb
    have := M.row i q row' q1 q2 q4
    rw [g1] at this; cases this
    exact ⟨row, g1, s2 i q row q1 (by simp [q2, q3, q4]), g2, g3⟩
  have nbes : ∀ q, ¬ Beside ops sts S m k q → hS'.get q = (sts (j + 1)).hc.get q := fun q hb => s3 q fun i row q1 q2 => by
    simp only [Bool.and_eq_true, Bool.not_eq_true'] at q2
    exact hb ⟨i, row, q1, q2.1.1, q2.1.2, q2.2⟩
  obtain ⟨f1, f2⟩ := frame_ok M.hr v1 v2 hh st (X := Beside ops sts S m k) s1 bes nbes (fun q row x hx => v5 q row x hx)
  have split : ∀ {i}, (sts (j + 1)).ab.testBit i = false → (sts k).ab.testBit i = false ∧ m.testBit i = false := fun {i} h => by
    rw [hab, Nat.testBit_or, Bool.or_eq_false_iff, b2] at h; exact h
  have hid : ∀ i r row, (i, r, row) ∈ (sts ops.size).pend → (sts (j + 1)).ab.testBit i = false → hv.get r = none := fun i r row h1 h2 => by
    obtain ⟨g1, g2⟩ := split h2
    have ho : ∀ i' row', (i', r, row') ∈ (sts ops.size).pend → i' = i := fun i' row' h => (pn.2.1 i' r row' i r row h h1 (.inr rfl)).1
    obtain ⟨k1, k2, k3⟩ := visible_spec (C.T.pend_ok j (by omega)).2.1 hvis
    rw [k3 r fun i' row' q1 q2 _ => ?_, b1]
    · exact M.gone i r row h1 g1
    · have := ho i' row' ((C.pend_agree (Nat.le_refl _) (by omega) i' r row' q2).1 q1)
      subst this; rw [g2] at q2; cases q2
  have hnx : hv.nx = hS.nx := v1
  refine ⟨hS', { le := by omega, eff := b3, hr := f1, nx := s1, lt := fun i r row h => ?_, row := fun i r row h1 h2 h3 => ?_, rest := fun q hq => ?_, gone := fun i r row h1 h2 => ?_, rel := fun i r row h1 h2 q row0 hq hc => ?_, free := fun i r row h1 h2 => ?_, abs := fun i h => ?_, st := M.st.trans f2 }, st.rho⟩
  · have := M.lt i r row h; have := st.nx; omega
  · have hij : i ≠ j := fun e => by subst e; exact hnj _ _ h1
    rw [with1_ne hij] at h2
    obtain ⟨g1, g2⟩ := split h3
    exact s2 i r row h1 (by simp [h2, g1, g2])
  · refine s3 q fun i row q1 q2 => ?_
    simp only [Bool.and_eq_true, Bool.not_eq_true'] at q2
    have hij : i ≠ j := fun e => by subst e; exact hnj _ _ q1
    refine hq i row q1 (by rw [with1_ne hij]; exact q2.1.1) ?_
    rw [hab, Nat.testBit_or, q2.1.2, b2, q2.2]; rfl
  · cases hc : (sts (j + 1)).hc.get r with
    | none => rfl
    | some row0 =>
      exfalso
      rcases st.ids r row0 hc with ⟨row1, g⟩ | g
      · rw [hid i r row h1 h2] at g; cases g
      · have := M.lt i r row h1; omega
  · obtain ⟨g1, g2⟩ := split h2
    rcases st.rel q row0 r hq hc with g | ⟨row1, g⟩ | ⟨q0, row1, g3, g4⟩
    · have := M.lt i r row h1; omega
    · rw [hid i r row h1 h2] at g; cases g
    · obtain ⟨k1, k2, k3⟩ := visible_spec (C.T.pend_ok j (by omega)).2.1 hvis
      by_cases hin : ∃ i' row', (i', q0, row') ∈ (sts j).pend ∧ m.testBit i' = true ∧ (sts j).ab.testBit i' = false
      · obtain ⟨i', row', q1, q2, q3⟩ := hin
        rw [k2 i' q0 row' q1 q2 q3] at g3
        cases g3
        rw [((C.T.pend_ok j (by omega)).1 i' q0 _ q1).2.2.2] at g4; cases g4
      · rw [k3 q0 fun i' row' q1 q2 q3 => hin ⟨i', row', q1, q2, q3⟩, b1] at g3
        exact M.rel i r row h1 g1 q0 row1 g3 g4
  · have hij : i ≠ j := fun e => by subst e; exact hnj _ _ h1
    rw [with1_ne hij] at h2
    exact st.fresh r (by have := M.lt i r row h1; omega) (M.free i r row h1 h2)
  · rw [hab, Nat.testBit_or, Bool.or_eq_true, b2] at h
    rcases h with h | h
    · simp [with1, M.abs i h]
    · simp [with1, C.mS h]

/-- The state in any order. -/
def Inv (σ : Sig) (N : Nat) (ops : Array Oper) (sts : Nat → Stt) (ρ0 : Rho) (h0 : H) (w0 : World) (a0 : Act) (S : Nat → Bool) (a : Act) (w : World) : Prop :=
  ∃ k ρ hS envS, Mem σ N ops sts ρ0 h0 w0 S k ρ hS w ∧ (∀ t, getT envS t = vAt ops sts S t ops.size) ∧ ER σ ρ envS a.tmps ∧ a.defers = a0.defers

theorem op_any (hF : FactsOk P σ F) (hK : KOk P σ N K) (hr : RunOk P σ N ih) (hσ : ∀ i, (σ i).oneCell' = true) (hN : N = P.globals.size) {a0 a : Act} {Q : Exit → Act → World → Prop} (C : Comes P F K ih ops n0 sts S j o m) (hn0 : h0.nx ≤ n0) (I : Inv σ N ops sts ρ0 h0 w0 a0 S a w) (G : Act → World → Prop) (hG : ∀ a w, Inv σ N ops sts ρ0 h0 w0 a0 (with1 S j) a w → G a w) : wpOp P ops Q j G a w := by
  obtain ⟨k, ρ, hS, envS, M, he, her, hd⟩ := I
  have hj := C.lt
  obtain ⟨m', hm', st⟩ := C.T.step j o C.ho
  rw [C.hm] at hm'; cases hm'
  unfold wpOp
  rw [C.ho]
  show if Region.wanted o (yielded ops a.tmps) then o.wp P a w G Q ∨ (o.asks P a w ∧ LetsOut Q) else G (a.put o.dst undef) w
  have pok := C.T.pend_ok j (by omega)
  have done : ∀ {k' ρ' hS' v u w'}, Mem σ N ops sts ρ0 h0 w0 (with1 S j) k' ρ' hS' w' → Sub ρ ρ' → VR σ ρ' v u → putD o.dst v (sts j).env = some (sts (j + 1)).env → G (a.put o.dst u) w' := fun {k' ρ' hS' v u w'} M' hs hv hp => by
    obtain ⟨env', e1, e2⟩ := C.env_step he hp
    exact hG _ _ ⟨k', ρ', hS', env', M', e2, (her.mono hs).put hv e1, by rw [put_defers]; exact hd⟩
  have same : ∀ {h}, opV P F K ih o.op (sts j).env h = opV P F K ih o.op envS h := fun {h} => opV_congr (C.opd_same he)
  generalize hs' : sts (j + 1) = s' at st
  cases st with
  | skip hw hp =>
    rw [wanted_ok her (C.wanted_same he hw), if_neg (by simp)]
    have M' := M.other (C.T.calm hj (by rw [hs'])) (C.T.bare hj (by rw [hs'])) M.hr (St.refl _ _ _)
    exact done M' (Sub.refl _) (v := .und) rfl (by rw [hs']; exact hp)
  | pure hw hk e hp =>
    rw [wanted_ok her (C.wanted_same he hw), if_pos rfl]
    left
    have e2 := (pure_any hk e).2 hS
    rw [same] at e2
    refine opV_ok hF hK hr hσ hN M.hr her e2 _ _ fun ρ' u w' k1 k2 k3 => ?_
    exact done (M.other (C.T.calm hj (by rw [hs'])) (C.T.bare hj (by rw [hs'])) k1 k2) k2.rho k3 (by rw [hs']; exact hp)
  | alloc hw hk e hrow hp =>
    rename_i env' v h1 row
    rw [wanted_ok her (C.wanted_same he hw), if_pos rfl]
    left
    have hin : (j, (sts j).ra, row) ∈ (sts ops.size).pend := by
      rw [C.T.pend_at (j := j + 1) (by omega) (Nat.lt_succ_self _), hs']
      exact List.mem_cons_self ..
    obtain ⟨hS', g1, g2⟩ := put_of hS (sts j).ra (some row)
    have e2 := e
    rw [same] at e2
    have L : Laid σ N ρ hS w ρ0 h0 w0 ⟨.leaf, (sts j).ra⟩ h1 hS' := ⟨M.hr, M.free _ _ _ hin C.fresh, M.st, Nat.le_trans hn0 pok.2.2.1, fun q => by
      rw [g2]
      by_cases hq : q = (sts j).ra
      · rw [if_pos hq, if_pos hq, hq, hrow]
      · rw [if_neg hq, if_neg hq], by rw [g1]; exact Nat.le_refl _, by rw [g1]; exact M.lt _ _ _ hin⟩
    obtain ⟨ρ', u, w', q1, q2, q3, q4, q5, q6⟩ := opV_lain hσ hN L her hk e2
    show o.upon P a G Q ((execOp a.eval o).run P w)
    rw [q1]
    exact done (M.alloc C hin (C.T.calm hj (by rw [hs'])) g2 g1 q2 q3 q6) q5 q4 (by rw [hs']; exact hp)
  | read hw hk hvis e hb hp =>
    rename_i env' v hv0 h1
    rw [wanted_ok her (C.wanted_same he hw), if_pos rfl]
    left
    have hE := C.T.calm hj (by rw [hs'])
    obtain ⟨jj, hv, h2, j1, j2, p1, p2⟩ := M.read C hvis e hb (by rw [hs']; exact List.mem_cons_self ..) hE
    have hsame := read_same hk p2
    subst hsame
    rw [same] at p2
    obtain ⟨v1, v2, v3, v4, v5⟩ := M.vis C.T (fun i h => C.mS h) (C.pend_agree j1 j2) (C.T.pend_ok jj j2).2.1 rfl rfl p1
    refine opV_ok hF hK hr hσ hN (M.hr.sub v1 v2) her p2 _ _ fun ρ' u w' k1 k2 k3 => ?_
    obtain ⟨f1, f2⟩ := frame_ok M.hr v1 v2 k1 k2 (X := Beside ops sts S m k) (hS' := hS) v1.symm (fun x hx => let ⟨row, q1, q2, q3, _⟩ := v3 x hx; ⟨row, q1, q1, q2, q3⟩) v4 (fun q row x hx => v5 q row x hx)
    exact done (M.other hE (C.T.bare hj (by rw [hs'])) f1 f2) k2.rho k3 (by rw [hs']; exact hp)
  | eff hw hk hem hvis e hwt hp =>
    rename_i env' v hv hx
    rw [wanted_ok her (C.wanted_same he hw), if_pos rfl]
    left
    have hE : effAt sts j := by
      unfold effAt
      rw [hs']
      simp [Nat.testBit_or, Nat.testBit_shiftLeft]
    obtain ⟨b1, b2, _⟩ := M.base C hE hem
    obtain ⟨v1, v2, _⟩ := M.vis C.T (fun i h => C.mS h) (C.pend_agree (Nat.le_refl _) (by omega)) pok.2.1 b1 b2 hvis
    rw [same] at e
    refine opV_ok hF hK hr hσ hN (M.hr.sub v1 v2) her e _ _ fun ρ' u w' k1 k2 k3 => ?_
    obtain ⟨hS', M', hsub⟩ := M.after C hE hem hvis (by rw [hs']) (by rw [hs']) (ρ' := ρ') (w' := w') (by rw [hs']; exact k1) (by rw [hs']; exact k2)
    exact done M' hsub k3 (by rw [hs']; exact hp)

/-! ### All of them -/

def unl : List Bool → Nat
  | [] => 0
  | b :: l => (if b then 0 else 1) + unl l
theorem unl_set : ∀ (l : List Bool) (i : Nat), l[i]? = some false → unl (l.set i true) + 1 = unl l
  | [], i, h => by simp at h
  | b :: l, 0, h => by simp at h; subst h; simp [unl]; omega
  | b :: l, i + 1, h => by
    have := unl_set l i (by simpa using h)
    simp only [List.set_cons_succ, unl]; omega
theorem unl_zero : ∀ (l : List Bool), unl l = 0 → ∀ (i : Nat) b, l[i]? = some b → b = true
  | [], _, i, b, h => by simp at h
  | c :: l, hz, 0, b, h => by simp at h; subst h; cases c <;> simp [unl] at hz; rfl
  | c :: l, hz, i + 1, b, h => unl_zero l (by simp only [unl] at hz; omega) i b (by simpa using h)
theorem unl_pos : ∀ (l : List Bool), unl l ≠ 0 → ∃ i : Nat, l[i]? = some false
  | [], h => absurd rfl h
  | false :: l, _ => ⟨0, rfl⟩
  | true :: l, h => let ⟨i, hi⟩ := unl_pos l (by simpa [unl] using h); ⟨i + 1, by simpa using hi⟩
theorem unl_rep : ∀ n, unl (List.replicate n false) = n
  | 0 => rfl
  | n + 1 => by simp only [List.replicate_succ, unl, unl_rep n]; simp; omega

def lis (listed : Array Bool) : Nat → Bool := fun i => listed.getD i false
theorem lis_set {listed : Array Bool} {j : Nat} (hj : j < listed.size) : lis (listed.setIfInBounds j true) = with1 (lis listed) j := by
  funext i
  unfold lis with1
  by_cases h : i = j
  · subst h; simp [hj]
  · rw [getD_set_ne false (Ne.symm h)]; simp [h]

theorem any_ok (hF : FactsOk P σ F) (hK : KOk P σ N K) (hr : RunOk P σ N ih) (hσ : ∀ i, (σ i).oneCell' = true) (hN : N = P.globals.size) {a0 : Act} {Q : Exit → Act → World → Prop} (T : Trace P F K ih ops n0 sts) (hn0 : h0.nx ≤ n0) (fin : ∀ S a w, (∀ i, i < ops.size → S i = true) → Inv σ N ops sts ρ0 h0 w0 a0 S a w → Q .normal a w) :
    ∀ (f : Nat) (listed : Array Bool) (a : Act) (w : World), listed.size = ops.size → unl listed.toList = f → Closed ops (lis listed) → Inv σ N ops sts ρ0 h0 w0 a0 (lis listed) a w → wpAny P .any ops Q f listed a w
  | 0, listed, a, w, hsz, hu, hc, I => by
    have hall : ∀ i, i < ops.size → lis listed i = true := fun i hi => by
      have hi' : i < listed.size := by omega
      have := unl_zero _ hu i listed[i] (by simp [hi'])
      simp [lis, hi', this]
    refine ⟨List.eq_nil_iff_forall_not_mem.2 fun i hi => ?_, fin _ a w hall I⟩
    obtain ⟨h1, o, ho, _⟩ := mem_ready.1 hi
    have hi' : i < ops.size := (Array.getElem?_eq_some_iff.1 ho).1
    have := hall i hi'
    rw [lis, getD_both h1] at this; cases this
  | f + 1, listed, a, w, hsz, hu, hc, I => by
    refine ⟨fun hr0 => ?_, fun j hj => ?_⟩
    · exfalso
      obtain ⟨i, hi⟩ := unl_pos listed.toList (by omega)
      have key : ∀ i, listed.getD i true = false → False := fun i => by
        induction i using Nat.strongRecOn with
        | ind i ihi =>
          intro hi
          have hi' : i < ops.size := by
            rcases Nat.lt_or_ge i listed.size with h | h
            · omega
            · simp [h] at hi
          have ho : ops[i]? = some ops[i] := Array.getElem?_eq_getElem hi'
          have hmem : i ∈ Region.ready .any ops listed := mem_ready.2 ⟨hi, _, ho, fun e hee hb => by
            have hlt := T.edges ho e hee hb
            cases hx : listed.getD e.on false with
            | true => rfl
            | false => exact (ihi e.on hlt (getD_in (by omega) hx)).elim⟩
          rw [hr0] at hmem; cases hmem
      exact key i (by
        have hi' := (List.getElem?_eq_some_iff.1 hi).1
        simp only [Array.length_toList] at hi'
        simp only [Array.getElem?_toList] at hi
        simp [Array.getD_eq_getD_getElem?, hi])
    · obtain ⟨hj1, o, ho, hw⟩ := mem_ready.1 hj
      have hjs : j < ops.size := (Array.getElem?_eq_some_iff.1 ho).1
      have hjl : j < listed.size := by omega
      obtain ⟨m, hm, _⟩ := T.step j o ho
      have C : Comes P F K ih ops n0 sts (lis listed) j o m := ⟨T, ho, hm, hc, fun o' ho' e hee hb => by rw [ho] at ho'; cases ho'; exact hw e hee hb, getD_both hj1⟩
      have hunl : unl (listed.setIfInBounds j true).toList = f := by
        have := unl_set listed.toList j (by
          have hjt : listed[j]? = some false := by
            have := hj1
            simp only [Array.getD_eq_getD_getElem?, Array.getElem?_eq_getElem hjl, Option.getD_some] at this
            rw [Array.getElem?_eq_getElem hjl, this]
          simpa using hjt)
        simp only [Array.toList_setIfInBounds]; omega
      refine op_any hF hK hr hσ hN C hn0 I _ fun a' w' I' => ?_
      refine any_ok hF hK hr hσ hN T hn0 fin f _ a' w' (by simpa using hsz) hunl ?_ (by rw [lis_set hjl]; exact I')
      rw [lis_set hjl]
      intro i hi o' ho' e he hb
      unfold with1 at hi ⊢
      simp only [Bool.or_eq_true, decide_eq_true_eq] at hi ⊢
      rcases hi with rfl | hi
      · rw [ho] at ho'; cases ho'; exact .inr (hw e he hb)
      · exact .inr (hc i hi o' ho' e he hb)

/-- What the evaluation of a drawn region leaves, in any order. -/
theorem drawn_inv {env : Env} {h : H} {k : Env → H → Out} {r : AV × H} {a : Act} (e : drawn P F K ih ops.toList env h k = some r) (hh : HR σ N ρ h w) (he : ER σ ρ env a.tmps) :
    P.follows .mixedOrders = true ∧ ∃ n0 sts, Trace P F K ih ops n0 sts ∧ h.nx ≤ n0 ∧ (∀ (S : Nat → Bool) (a' : Act) (w' : World), (∀ i, i < ops.size → S i = true) → Inv σ N ops sts ρ h w a S a' w' → Reg σ N ρ h w a k r .normal a' w') ∧ Inv σ N ops sts ρ h w a (fun _ => false) a { w with drawn := w.drawn + 1 } := by
  obtain ⟨hx, e⟩ := ite_some.1 e
  obtain ⟨hmix, htidy⟩ := both_true hx
  obtain ⟨t, nx⟩ := h
  have e : force (Nat.add nx (countA ops.toList)) (fun nx' => drawnO P F K ih ops.toList ops.toList (ancs ops.toList []) 0 env ⟨t, nx'⟩ nx [] 0 0 [] [] k) = some r := e
  rw [force_eq] at e
  obtain ⟨sts, s0, s1, hE, s2, s3⟩ := drawnO_trace ops.toList (ancs ops.toList []) 0 ⟨env, ⟨t, Nat.add nx (countA ops.toList)⟩, nx, [], 0, 0, [], []⟩ e
  have T : Trace P F K ih ops nx sts := ⟨by rw [s0]; exact ⟨rfl, rfl, rfl, rfl, rfl, rfl, rfl⟩, fun j o ho => by
    obtain ⟨m, hm, st⟩ := s1 j o (by simpa using ho)
    exact ⟨m, hm, by rw [Nat.zero_add] at st; exact st⟩, htidy⟩
  have hlen : ops.toList.length = ops.size := by simp
  rw [hlen] at s2 s3
  have pn := T.pend_ok ops.size (Nat.le_refl _)
  refine ⟨hmix, nx, sts, T, Nat.le_refl _, fun S a' w' hall I => ?_, ?_⟩
  · obtain ⟨kk, ρ', hS, envS, M, g1, g2, g3⟩ := I
    refine ⟨rfl, ρ', (sts ops.size).env, hE, s3, ?_⟩
    obtain ⟨q1, q2⟩ := T.quiet M.le (Nat.le_refl _) fun e h1 h2 h3 => by
      have := (M.eff e h2 h3).1 (hall e h2); omega
    rw [rest_visible (m := 2 ^ ops.size - 1) fun i r row hi => by
      rw [Nat.testBit_two_pow_sub_one]; exact decide_eq_true (pn.1 i r row hi).1] at s2
    rw [q1, q2] at s2
    obtain ⟨k1, k2, k3⟩ := visible_spec pn.2.1 s2
    have hbit : ∀ i r row, (i, r, row) ∈ (sts ops.size).pend → (2 ^ ops.size - 1).testBit i = true ∧ S i = true := fun i r row hi => ⟨by rw [Nat.testBit_two_pow_sub_one]; exact decide_eq_true (pn.1 i r row hi).1, hall i (pn.1 i r row hi).1⟩
    have hget : ∀ q, hE.get q = hS.get q := fun q => by
      by_cases hin : ∃ i row, (i, q, row) ∈ (sts ops.size).pend ∧ (sts kk).ab.testBit i = false
      · obtain ⟨i, row, p1, p2⟩ := hin
        rw [k2 i q row p1 (hbit i q row p1).1 p2, M.row i q row p1 (hbit i q row p1).2 p2]
      · rw [k3 q fun i row p1 _ p2 => hin ⟨i, row, p1, p2⟩, M.rest q fun i row p1 _ p2 => hin ⟨i, row, p1, p2⟩]
    have hnx : hE.nx = hS.nx := by rw [k1, M.nx]
    refine ⟨M.hr.congr hnx hget, M.st.congr hnx hget, g2.congr fun t => ?_, g3⟩
    rw [g1]
    have : ∀ i, i ≤ ops.size → vAt ops sts S t i = getT (sts i).env t := fun i => by
      induction i with
      | zero => intro _; rfl
      | succ i ihi =>
        intro hi
        unfold vAt
        have hlt : i < ops.size := by omega
        rw [hall i hlt, ihi (by omega), Array.getElem?_eq_getElem hlt]
        obtain ⟨m', _, st⟩ := T.step i ops[i] (Array.getElem?_eq_getElem hlt)
        have hd : ∃ v, putD (ops[i]).dst v (sts i).env = some (sts (i + 1)).env := by
          generalize sts (i + 1) = s' at st
          cases st <;> exact ⟨_, ‹_›⟩
        obtain ⟨v, hv⟩ := hd
        by_cases hdt : (ops[i]).dst = some t
        · rw [if_pos ⟨rfl, hdt⟩]
        · rw [if_neg (fun h => hdt h.2), (putD_some hv).2, if_neg hdt]
    exact (this ops.size (Nat.le_refl _)).symm
  · have hge : ∀ i r row, (i, r, row) ∈ (sts ops.size).pend → nx ≤ r := fun i r row h => (pn.1 i r row h).2.1
    have hh2 : HR σ N ρ ⟨t, Nat.add nx (countA ops.toList)⟩ { w with drawn := w.drawn + 1 } :=
      { live := fun r row e => let ⟨p, k1, k2⟩ := hh.live r row e; ⟨p, k1, k2.mono (Sub.refl _) rfl⟩, new := fun r hr' => hh.new r (Nat.le_trans (Nat.le_add_right _ _) hr'), sep := hh.sep, old := hh.old, rels := hh.rels, glob := hh.glob }
    have e0 : (sts 0).hc = ⟨t, Nat.add nx (countA ops.toList)⟩ := by rw [s0]
    have a0 : (sts 0).ab = 0 := by rw [s0]
    refine ⟨0, ρ, ⟨t, Nat.add nx (countA ops.toList)⟩, env, { le := Nat.zero_le _, eff := fun e h1 h2 => ?_, hr := hh2, nx := by rw [e0], lt := fun i r row h => ?_, row := fun i r row h1 h2 => ?_, rest := fun q _ => by rw [e0], gone := fun i r row h1 _ => ?_, rel := fun i r row h1 _ q row0 hq hc => ?_, free := fun i r row h1 _ => hh.new r (hge i r row h1), abs := fun i h => by rw [a0] at h; simp at h, st := ?_ }, fun t' => ?_, he, rfl⟩
    · exact ⟨fun h => (by cases h), fun h => absurd h (Nat.not_lt_zero _)⟩
    · have h1 := (pn.1 i r row h).2.2.1
      have h2 := pn.2.2.2
      show r < nx + countA ops.toList
      omega
    · cases h2
    · rw [e0]
      cases hc : (⟨t, Nat.add nx (countA ops.toList)⟩ : H).get r with
      | none => rfl
      | some row0 =>
        exfalso
        obtain ⟨p, k1, _⟩ := hh.live r row0 hc
        rw [hh.new r (hge i r row h1)] at k1; cases k1
    · rw [e0] at hq
      exact hh.rels q r row0 hq hc (hh.new r (hge i r row h1))
    · exact ⟨rfl, rfl, rfl, Nat.le_refl _, fun _ _ _ => rfl, Sub.refl _, fun _ _ h => h, Nat.le_add_right _ _, fun q row p h1 h2 => .inl ⟨row, h1, h2⟩, fun q row h1 => .inl ⟨row, h1⟩, fun q row x h1 h2 => .inr (.inr ⟨q, row, h1, h2⟩), fun _ _ h => h⟩
    · have : ∀ i, vAt ops sts (fun _ => false) t' i = getT env t' := fun i => by
        induction i with
        | zero => show getT (sts 0).env t' = _; rw [s0]
        | succ i ihi => unfold vAt; rw [if_neg (by simp), ihi]
      rw [this]

theorem draw1_ok (hF : FactsOk P σ F) (hK : KOk P σ N K) (hr : RunOk P σ N ih) (hσ : ∀ i, (σ i).oneCell' = true) (hN : N = P.globals.size) (id : Nat) {env : Env} {h : H} {k : Env → H → Out} {r : AV × H} {a : Act} (e : drawn P F K ih ops.toList env h k = some r) (hh : HR σ N ρ h w) (he : ER σ ρ env a.tmps) : (Code.region id ops true).wp P (Reg σ N ρ h w a k r) a w := by
  obtain ⟨hmix, n0, sts, T, hn, fin, I0⟩ := drawn_inv e hh he
  have hfalse : lis (Array.replicate ops.size false) = fun _ => false := funext fun i => getD_replicate_false _ _
  refine wp_region_any hmix (any_ok hF hK hr hσ hN T hn fin ops.size _ a _ (by simp) (by simpa using unl_rep ops.size) (fun i hi => ?_) ?_)
  · rw [hfalse] at hi; cases hi
  · rw [hfalse]; exact I0
end
end Go.Exe
/- Drawn regions: two last stores in either order. -/
namespace Go.Exe
open Go

section
variable {P : Program} {F : Facts} {K : Known} {ih : Run} {ops ops0 : Array Oper} {σ : Sig} {N : Nat} {ρ ρ' : Rho} {h h' hX : H} {w w' w0 : World} {jA jB : Nat}

/-- The same operations, two of them without effect. -/
structure Blanked (ops ops0 : Array Oper) (jA jB : Nat) : Prop where
  size : ops0.size = ops.size
  get : ∀ i : Nat, ops0[i]? = (ops[i]?).map fun o => if i = jA ∨ i = jB then blank o else o

theorem blank2_get (jA jB : Nat) : ∀ (l : List Oper) (i j : Nat), (blank2 jA jB l i)[j]? = (l[j]?).map fun o => if i + j = jA ∨ i + j = jB then blank o else o
  | [], _, _ => by simp [blank2]
  | o :: l, i, j => by
    show ((Bool.rec (motive := fun _ => Oper) (Bool.rec (motive := fun _ => Oper) o (blank o) (Nat.beq i jB)) (blank o) (Nat.beq i jA)) :: blank2 jA jB l (Nat.succ i))[j]? = _
    cases j with
    | zero =>
      rw [beq_eq, beq_eq]
      by_cases h1 : i = jA
      · rw [decide_eq_true h1]; simp [h1]
      · rw [decide_eq_false h1]
        by_cases h2 : i = jB
        · rw [decide_eq_true h2]; simp [h2]
        · rw [decide_eq_false h2]; simp [h1, h2]
    | succ j =>
      have := blank2_get jA jB l (Nat.succ i) j
      simp only [List.getElem?_cons_succ]
      rw [this, show Nat.succ i + j = i + (j + 1) by omega]
theorem blank2_len (jA jB : Nat) : ∀ (l : List Oper) (i : Nat), (blank2 jA jB l i).length = l.length
  | [], _ => rfl
  | _ :: l, i => congrArg Nat.succ (blank2_len jA jB l (Nat.succ i))

namespace Blanked

theorem some (B : Blanked ops ops0 jA jB) {i : Nat} {o : Oper} (h : ops[i]? = some o) : ops0[i]? = some (if i = jA ∨ i = jB then blank o else o) := by rw [B.get, h]; rfl
theorem other (B : Blanked ops ops0 jA jB) {i : Nat} (h1 : i ≠ jA) (h2 : i ≠ jB) : ops0[i]? = ops[i]? := by
  rw [B.get]
  cases ops[i]? with
  | none => rfl
  | some o => simp [h1, h2]
theorem dst (B : Blanked ops ops0 jA jB) (i : Nat) : (ops0[i]?).bind (·.dst) = (ops[i]?).bind (·.dst) := by
  rw [B.get]
  cases ops[i]? with
  | none => rfl
  | some o =>
    show (if i = jA ∨ i = jB then blank o else o).dst = o.dst
    split <;> rfl
theorem yielded (B : Blanked ops ops0 jA jB) (tmps : Array Value) : Go.yielded ops0 tmps = Go.yielded ops tmps := funext fun i => by
  unfold Go.yielded; rw [B.dst]
theorem ready (B : Blanked ops ops0 jA jB) {listed : Array Bool} {j : Nat} : j ∈ Region.ready .any ops0 listed ↔ j ∈ Region.ready .any ops listed := by
  rw [mem_ready, mem_ready]
  refine and_congr Iff.rfl ?_
  constructor
  · rintro ⟨o0, h1, h2⟩
    rw [B.get] at h1
    cases ho : ops[j]? with
    | none => rw [ho] at h1; cases h1
    | some o =>
      rw [ho] at h1
      have h1 : (if j = jA ∨ j = jB then blank o else o) = o0 := Option.some.inj h1
      refine ⟨o, rfl, ?_⟩
      have : o0.after = o.after := by rw [← h1]; split <;> rfl
      rw [← this]; exact h2
  · rintro ⟨o, h1, h2⟩
    refine ⟨_, B.some h1, ?_⟩
    have : (if j = jA ∨ j = jB then blank o else o).after = o.after := by split <;> rfl
    rw [this]; exact h2
theorem closed (B : Blanked ops ops0 jA jB) {S : Nat → Bool} (h : ∀ i, S i = true → ∀ o, ops[i]? = Option.some o → ∀ e ∈ o.after, Region.binds .any e = true → S e.on = true) : Closed ops0 S := fun i hi o ho e he hb => by
  rw [B.get] at ho
  cases hx : ops[i]? with
  | none => rw [hx] at ho; cases ho
  | some x =>
    rw [hx] at ho
    have ho : (if i = jA ∨ i = jB then blank x else x) = o := Option.some.inj ho
    have : o.after = x.after := by rw [← ho]; split <;> rfl
    rw [this] at he
    exact h i hi x hx e he hb
theorem wpOp (B : Blanked ops ops0 jA jB) {Q : Exit → Act → World → Prop} {i : Nat} {G : Act → World → Prop} {a : Act} (h1 : i ≠ jA) (h2 : i ≠ jB) (h : Go.wpOp P ops0 Q i G a w) : Go.wpOp P ops Q i G a w := by
  unfold Go.wpOp at h ⊢
  rw [B.other h1 h2, B.yielded] at h
  exact h
end Blanked

theorem wpOp_val {i : Nat} {o : Oper} {a : Act} {u : Value} {G : Act → World → Prop} (hi : ops[i]? = some o) (hg : o.guard = none) (hx : (execOp a.eval o).run P w = .ok (.value u) w) (h : wpOp P ops (fun _ _ _ => False) i G a w) : G (a.put o.dst u) w := by
  unfold wpOp at h
  rw [hi] at h
  have h : if Region.wanted o (yielded ops a.tmps) then o.wp P a w G (fun _ _ _ => False) ∨ (o.asks P a w ∧ LetsOut fun _ _ _ => False) else G (a.put o.dst undef) w := h
  rw [wanted_plain hg, if_pos rfl] at h
  rcases h with h | ⟨_, _, _, h⟩
  · unfold Oper.wp at h; rw [hx] at h; exact h
  · exact h.elim
theorem exec_blank {o : Oper} (a : Act) : (execOp a.eval (blank o)).run P w = .ok (.value (.bool false)) w := by
  simp [execOp, blank, Act.eval]

theorem isStore_some {o : Oper} (h : isStore o = true) : o.dst = none ∧ o.guard = none ∧ ∃ t x y, o.op = .store t x y := by
  unfold isStore at h
  split at h
  · exact ⟨rfl, rfl, _, _, _, rfl⟩
  · cases h
theorem isAddr_some {o : Oper} (h : isAddr o = true) : o.guard = none ∧ kindC P o.op = 0 ∧ ((∃ t x i, o.op = .indexAddr t x i) ∨ ∃ t x i, o.op = .fieldAddr t x i) := by
  unfold isAddr at h
  split at h
  · exact ⟨rfl, rfl, .inl ⟨_, _, _, rfl⟩⟩
  · exact ⟨rfl, rfl, .inr ⟨_, _, _, rfl⟩⟩
  · cases h
/-- An address does not look at memory. -/
theorem addr_yields {o : Oper} {a : Act} {env : Env} {v : AV} (hA : isAddr o = true) (hg : Glo P ρ) (he : ER σ ρ env a.tmps) (e : opV P F K ih o.op env h = some (v, h')) : ∃ u, ∀ w, (execOp a.eval o).run P w = .ok (.value u) w := by
  rcases (isAddr_some (P := P) hA).2.2 with ⟨t, x, i, ho⟩ | ⟨t, x, f, ho⟩
  · rw [ho] at e
    obtain ⟨z, h1, e1⟩ := bnd_some.1 (show bnd (opd P x env) (fun a => bnd (opd P i env) fun j => vO (indexAddrO (elemO P t) a j) h) = some (v, h') from e)
    obtain ⟨u, h2, e2⟩ := bnd_some.1 e1
    obtain ⟨e3, _⟩ := vO_some e2
    obtain ⟨r, _, k2⟩ := indexAddrO_ok (P := P) e3 (opd_ok hg he h1) (opd_ok hg he h2)
    exact ⟨r, fun w => by simp only [execOp, ho]; rw [Sem.run_bind, k2 w]; rfl⟩
  · rw [ho] at e
    obtain ⟨z, h1, e1⟩ := bnd_some.1 (show bnd (opd P x env) (fun a => vO (fieldAddrO (fieldO P t f) a) h) = some (v, h') from e)
    obtain ⟨e3, _⟩ := vO_some e1
    obtain ⟨r, _, k2⟩ := fieldAddrO_ok (P := P) e3 (opd_ok hg he h1)
    exact ⟨r, fun w => by simp only [execOp, ho]; rw [Sem.run_bind, k2 w]; rfl⟩

/-! ### Two stores -/

theorem store_some {A : Op} {env : Env} {v : AV} {r : Nat} (hr : rowOf P A env = some r) (e : opV P F K ih A env h = some (v, h')) : ∃ o l, storeH h r o l = some h' ∧ ∀ {h2 v2 h2'}, opV P F K ih A env h2 = some (v2, h2') → storeH h2 r o l = some h2' := by
  unfold rowOf at hr
  split at hr
  · rename_i t a x
    obtain ⟨y, h1, h2⟩ := bnd_some.1 hr
    obtain ⟨r', o, rfl, h3⟩ := onPtr_some h2
    cases h3
    have key : ∀ {h v h'}, opV P F K ih (.store t a x) env h = some (v, h') → ∃ u l n, opd P x env = some u ∧ szOf P t = some n ∧ onCellsOf u (fun l => ite' (Nat.beq (len l) n) (bnd (storeH h r o l) fun h => some (AV.und, h))) = some (v, h') ∧ onCellsOf u (fun l => some l) = some l ∧ storeH h r o l = some h' := fun {h v h'} e => by
      obtain ⟨z, g1, g2⟩ := bnd_some.1 (show bnd (opd P a env) (fun a => bnd (opd P x env) fun v => storeO (szOf P t) a v h) = some (v, h') from e)
      rw [h1] at g1; cases g1
      obtain ⟨u, g3, g4⟩ := bnd_some.1 g2
      obtain ⟨n, g5, g6⟩ := bnd_some.1 (show bnd (szOf P t) (fun sz => onCellsOf u fun l => ite' (Nat.beq (len l) sz) (bnd (storeH h r o l) fun h => some (AV.und, h))) = some (v, h') from g4)
      have g7 := g6
      unfold onCellsOf at g6
      split at g6
      · rename_i l
        obtain ⟨_, g8⟩ := ite_some.1 g6
        obtain ⟨_, g9, g10⟩ := bnd_some.1 g8
        cases g10
        exact ⟨_, l, n, g3, g5, g7, rfl, g9⟩
      · cases g6
      · cases g6
      · cases g6
      · rename_i u' n1 n2 n3 n4
        obtain ⟨_, g8⟩ := ite_some.1 g6
        obtain ⟨_, g9, g10⟩ := bnd_some.1 g8
        cases g10
        refine ⟨_, [u], n, g3, g5, g7, ?_, g9⟩
        unfold onCellsOf
        split <;> first | rfl | simp_all
    obtain ⟨u, l, n, k1, _, _, k2, k3⟩ := key e
    refine ⟨o, l, k3, fun {h2 v2 h2'} e2 => ?_⟩
    obtain ⟨u', l', n', q1, _, _, q2, q3⟩ := key e2
    rw [k1] at q1; cases q1
    rw [k2] at q2; cases q2
    exact q3
  · cases hr

/-- A row with cells laid over. -/
noncomputable def rowSt (row : Row) (o : Nat) (m : List AV) : Option Row := onCells (some row) fun e sz n t wr _ => ite' wr (ite' (Nat.ble 1 sz) (bnd (t.get (Nat.div o sz)) fun l => bnd (overAt m l (Nat.mod o sz)) fun l => bnd (t.set (some l) 30 (Nat.div o sz)) fun t => some (.cells e sz n t true [])))
theorem storeH_get {r o : Nat} {m : List AV} (e : storeH h r o m = some h') : ∃ row row', h.get r = some row ∧ rowSt row o m = some row' ∧ h'.nx = h.nx ∧ ∀ q, h'.get q = if q = r then some row' else if q ∈ relOf row then none else h.get q := by
  unfold storeH at e
  obtain ⟨ty, sz, n, t, wr, rel, hr, e⟩ := onCells_some e
  obtain ⟨hwr, e1⟩ := ite_some.1 e
  obtain ⟨hsz, e2⟩ := ite_some.1 e1
  obtain ⟨l, hl, e3⟩ := bnd_some.1 e2
  obtain ⟨l', hl', e4⟩ := bnd_some.1 e3
  obtain ⟨t', ht', e5⟩ := bnd_some.1 e4
  obtain ⟨h1, hk, e6⟩ := bnd_some.1 e5
  obtain ⟨k1, k2⟩ := kills_some hk
  obtain ⟨k3, k4⟩ := put_some e6
  refine ⟨_, .cells ty sz n t' true [], hr, ?_, by rw [k3, k1], fun q => ?_⟩
  · show ite' wr (ite' (Nat.ble 1 sz) (bnd (t.get (Nat.div o sz)) fun l => bnd (overAt m l (Nat.mod o sz)) fun l => bnd (t.set (some l) 30 (Nat.div o sz)) fun t => some (Row.cells ty sz n t true []))) = _
    rw [hwr, hsz]
    show bnd (t.get (Nat.div o sz)) (fun l => bnd (overAt m l (Nat.mod o sz)) fun l => bnd (t.set (some l) 30 (Nat.div o sz)) fun t => some (Row.cells ty sz n t true [])) = _
    rw [hl]
    show bnd (overAt m l (Nat.mod o sz)) (fun l => bnd (t.set (some l) 30 (Nat.div o sz)) fun t => some (Row.cells ty sz n t true [])) = _
    rw [hl']
    show bnd (t.set (some l') 30 (Nat.div o sz)) (fun t => some (Row.cells ty sz n t true [])) = _
    rw [ht']; rfl
  · rw [k4]
    by_cases hq : q = r
    · rw [if_pos hq, if_pos hq]
    · rw [if_neg hq, if_neg hq, k2]; rfl
/-- Two stores into two rows come to the same in either order. -/
theorem store_comm {rA rB oA oB : Nat} {mA mB : List AV} {hA hAB hB hBA : H} (hne : rA ≠ rB) (e1 : storeH h rA oA mA = some hA) (e2 : storeH hA rB oB mB = some hAB) (e3 : storeH h rB oB mB = some hB) (e4 : storeH hB rA oA mA = some hBA) : hAB.nx = hBA.nx ∧ ∀ q, hAB.get q = hBA.get q := by
  obtain ⟨rowA, rowA', a1, a2, a3, a4⟩ := storeH_get e1
  obtain ⟨rowB, rowB', b1, b2, b3, b4⟩ := storeH_get e2
  obtain ⟨rowB1, rowB1', c1, c2, c3, c4⟩ := storeH_get e3
  obtain ⟨rowA1, rowA1', d1, d2, d3, d4⟩ := storeH_get e4
  have hB1 : rB ∉ relOf rowA ∧ rowB = rowB1 := by
    rw [a4, if_neg (Ne.symm hne)] at b1
    split at b1
    · cases b1
    · rw [c1] at b1; cases b1; exact ⟨‹_›, rfl⟩
  have hA1 : rA ∉ relOf rowB1 ∧ rowA1 = rowA := by
    rw [c4, if_neg hne] at d1
    split at d1
    · cases d1
    · rw [a1] at d1; cases d1; exact ⟨‹_›, rfl⟩
  obtain ⟨n1, rfl⟩ := hB1
  obtain ⟨n2, rfl⟩ := hA1
  rw [b2] at c2; cases c2
  rw [a2] at d2; cases d2
  refine ⟨by rw [b3, a3, d3, c3], fun q => ?_⟩
  rw [b4, d4]
  by_cases hq : q = rB
  · subst hq
    rw [if_pos rfl, if_neg (Ne.symm hne), if_neg n1, c4, if_pos rfl]
  · rw [if_neg hq]
    by_cases hq2 : q = rA
    · subst hq2
      rw [if_pos rfl, if_neg n2, a4, if_pos rfl]
    · rw [if_neg hq2, a4, if_neg hq2, c4, if_neg hq]
      by_cases hx : q ∈ relOf rowB <;> by_cases hy : q ∈ relOf rowA1 <;> simp [hx, hy]
end
end Go.Exe
/- Drawn regions, whole. -/
namespace Go.Exe
open Go

theorem least {p : Nat → Prop} (h : ∃ n, p n) : ∃ n, p n ∧ ∀ m, m < n → ¬ p m := by
  obtain ⟨n, hn⟩ := h
  induction n using Nat.strongRecOn with
  | ind n ih =>
    by_cases hx : ∃ m, m < n ∧ p m
    · obtain ⟨m, h1, h2⟩ := hx
      exact ih m h1 h2
    · exact ⟨n, hn, fun m h1 h2 => hx ⟨m, h1, h2⟩⟩

section
variable {P : Program} {F : Facts} {K : Known} {ih : Run} {ops ops0 : Array Oper} {σ : Sig} {N : Nat} {ρ ρ' : Rho} {h h' hX : H} {w w' w0 : World} {jA jB : Nat}

theorem waitsOn_false {o : Oper} {j : Nat} (h : waitsOn o j = false) : ∀ e ∈ o.after, Region.binds .any e = true → e.on ≠ j := fun e he hb hj => by
  unfold waitsOn at h
  have : (o.after.any fun e => Region.binds .any e && e.on == j) = true := Array.any_eq_true'.2 ⟨e, he, by simp [hb, hj]⟩
  rw [this] at h; cases h
theorem waitsOn_true {o : Oper} {j : Nat} (h : waitsOn o j = true) : ∃ e ∈ o.after, Region.binds .any e = true ∧ e.on = j := by
  unfold waitsOn at h
  obtain ⟨e, he, hb⟩ := Array.any_eq_true'.1 h
  simp only [Bool.and_eq_true, beq_iff_eq] at hb
  exact ⟨e, he, hb.1, hb.2⟩

theorem put_none (a : Act) (u : Value) : a.put none u = a := rfl

/-- Two stores, one after the other. -/
theorem two_go (hF : FactsOk P σ F) (hK : KOk P σ N K) (hr : RunOk P σ N ih) (hσ : ∀ i, (σ i).oneCell' = true) (hN : N = P.globals.size) {jX jY : Nat} {oX oY : Oper} (hX : ops[jX]? = some oX) (hY : ops[jY]? = some oY) (sX : isStore oX = true) (sY : isStore oY = true) (hne : jX ≠ jY)
    {Q : Exit → Act → World → Prop} {env : Env} {h1 hx hxy : H} {vx vy : AV} {ρ1 : Rho} {a : Act} (eX : opV P F K ih oX.op env h1 = some (vx, hx)) (eY : opV P F K ih oY.op env hx = some (vy, hxy)) (hh : HR σ N ρ1 h1 w) (he : ER σ ρ1 env a.tmps)
    (fin : ∀ ρ3 w3, HR σ N ρ3 hxy w3 → St ρ1 h1 w ρ3 hxy w3 → Q .normal a w3) {f : Nat} {listed : Array Bool} (hsz : listed.size = ops.size) (hall : ∀ i, i < ops.size → i ≠ jX → i ≠ jY → lis listed i = true) (hunX : lis listed jX = false) (hunY : lis listed jY = false) (hu : unl listed.toList = f + 1)
    (wY : ∀ e ∈ oY.after, Region.binds .any e = true → e.on ≠ jY ∧ e.on < ops.size) : wpOp P ops Q jX (wpAny P .any ops Q f (listed.setIfInBounds jX true)) a w := by
  obtain ⟨dX, gX, _⟩ := isStore_some sX
  obtain ⟨dY, gY, _⟩ := isStore_some sY
  have hXl : jX < ops.size := (Array.getElem?_eq_some_iff.1 hX).1
  have hYl : jY < ops.size := (Array.getElem?_eq_some_iff.1 hY).1
  have l1 : lis (listed.setIfInBounds jX true) = with1 (lis listed) jX := lis_set (by omega)
  have hsz1 : (listed.setIfInBounds jX true).size = ops.size := by simpa using hsz
  have l2 : lis ((listed.setIfInBounds jX true).setIfInBounds jY true) = with1 (with1 (lis listed) jX) jY := by rw [lis_set (by omega), l1]
  have un : ∀ {l : Array Bool} {j : Nat}, l.size = ops.size → j < ops.size → lis l j = false → l.getD j true = false := fun {l j} h1 h2 h3 => getD_in (by omega) h3
  unfold wpOp
  rw [hX]
  show if Region.wanted oX (yielded ops a.tmps) then _ ∨ _ else _
  rw [wanted_plain gX, if_pos rfl]
  left
  refine opV_ok hF hK hr hσ hN hh he eX _ _ fun ρ2 u w2 k1 k2 k3 => ?_
  rw [dX, put_none]
  have hu1 : unl (listed.setIfInBounds jX true).toList = f := by
    have hlt : jX < listed.size := by omega
    have := unl_set listed.toList jX (by
      have hjt : listed[jX]? = some false := by
        have := un hsz hXl hunX
        simp only [Array.getD_eq_getD_getElem?, Array.getElem?_eq_getElem hlt, Option.getD_some] at this
        rw [Array.getElem?_eq_getElem hlt, this]
      simpa using hjt)
    simp only [Array.toList_setIfInBounds]; omega
  have hun1 : lis (listed.setIfInBounds jX true) jY = false := by rw [l1, with1_ne (Ne.symm hne)]; exact hunY
  have hYr : jY ∈ Region.ready .any ops (listed.setIfInBounds jX true) := mem_ready.2 ⟨un hsz1 hYl hun1, oY, hY, fun e he hb => by
    obtain ⟨g1, g2⟩ := wY e he hb
    show lis (listed.setIfInBounds jX true) e.on = true
    rw [l1]
    by_cases hx : e.on = jX
    · rw [hx, with1_self]
    · rw [with1_ne hx]; exact hall _ g2 hx g1⟩
  cases f with
  | zero =>
    exfalso
    have hlt : jY < (listed.setIfInBounds jX true).size := by omega
    have := unl_zero _ hu1 jY (listed.setIfInBounds jX true)[jY] (by rw [Array.getElem?_toList, Array.getElem?_eq_getElem hlt])
    have h2 := un hsz1 hYl hun1
    simp only [Array.getD_eq_getD_getElem?, Array.getElem?_eq_getElem hlt, Option.getD_some] at h2
    rw [this] at h2; cases h2
  | succ f =>
    refine ⟨fun h0 => (by rw [h0] at hYr; cases hYr), fun j hj => ?_⟩
    obtain ⟨j1, oj, j2, _⟩ := mem_ready.1 hj
    have hjl : j < ops.size := (Array.getElem?_eq_some_iff.1 j2).1
    have hjY : j = jY := by
      by_cases hx : j = jY
      · exact hx
      · exfalso
        have hd : lis (listed.setIfInBounds jX true) j = false := getD_both j1
        rw [l1] at hd
        by_cases hy : j = jX
        · rw [hy, with1_self] at hd; cases hd
        · rw [with1_ne hy, hall j hjl hy hx] at hd; cases hd
    subst hjY
    unfold wpOp
    rw [hY]
    show if Region.wanted oY (yielded ops a.tmps) then _ ∨ _ else _
    rw [wanted_plain gY, if_pos rfl]
    left
    refine opV_ok hF hK hr hσ hN k1 (he.mono k2.rho) eY _ _ fun ρ3 u3 w3 k4 k5 k6 => ?_
    rw [dY, put_none]
    have hq := fin ρ3 w3 k4 (k2.trans k5)
    have hr0 : Region.ready .any ops ((listed.setIfInBounds jX true).setIfInBounds j true) = [] := List.eq_nil_iff_forall_not_mem.2 fun i hi => by
      obtain ⟨h1, o, ho, _⟩ := mem_ready.1 hi
      have hil : i < ops.size := (Array.getElem?_eq_some_iff.1 ho).1
      have hd : lis ((listed.setIfInBounds jX true).setIfInBounds j true) i = false := getD_both h1
      rw [l2] at hd
      by_cases hx : i = j
      · rw [hx, with1_self] at hd; cases hd
      · rw [with1_ne hx] at hd
        by_cases hy : i = jX
        · rw [hy, with1_self] at hd; cases hd
        · rw [with1_ne hy, hall i hil hy hx] at hd; cases hd
    cases f with
    | zero => exact ⟨hr0, hq⟩
    | succ f => exact ⟨fun _ => hq, fun i hi => by rw [hr0] at hi; cases hi⟩

theorem late_go (hF : FactsOk P σ F) (hK : KOk P σ N K) (hr : RunOk P σ N ih) (hσ : ∀ i, (σ i).oneCell' = true) (hN : N = P.globals.size) (B : Blanked ops ops0 jA jB) {n0 : Nat} {sts : Nat → Stt} (T : Trace P F K ih ops0 n0 sts) (hn0 : h.nx ≤ n0) {a0 : Act} {k : Env → H → Out} {r : AV × H} {oA oB : Oper} (hA : ops[jA]? = some oA) (hB : ops[jB]? = some oB) (sA : isStore oA = true) (sB : isStore oB = true) (hne : jA ≠ jB)
    (hsel : Region.noSelect ops = true) (hw : ∀ o, o ∈ ops.toList → waitsOn o jA = false ∧ waitsOn o jB = false)
    (hfree : ∀ j o, ops[j]? = some o → j ≠ jA → j ≠ jB → (((ancs ops.toList []).getD jA 0).testBit j = true ∧ ((ancs ops.toList []).getD jB 0).testBit j = true) ∨ (isAddr o = true ∧ ∀ i o', ops[i]? = some o' → i ≠ j → waitsOn o' j = true ∨ waitsOn o i = true ∨ o.apart ops o' = true))
    (fin : ∀ (S : Nat → Bool) (a' : Act) (w' : World), (∀ i, i < ops0.size → S i = true) → Inv σ N ops0 sts ρ h w0 a0 S a' w' → Reg σ N ρ h w0 a0 (bothStores P F K ih oA.op oB.op k) r .normal a' w') :
    ∀ (f : Nat) (listed : Array Bool) (a : Act) (w : World), listed.size = ops.size → unl listed.toList = f → Closed ops (lis listed) → lis listed jA = false → lis listed jB = false → Inv σ N ops0 sts ρ h w0 a0 (lis listed) a w → wpAny P .any ops (Reg σ N ρ h w0 a0 k r) f listed a w := by
  intro f
  induction f with
  | zero =>
    intro listed a w hsz hu _ hunA _ _
    exfalso
    have hAl : jA < listed.size := by have := (Array.getElem?_eq_some_iff.1 hA).1; omega
    have := unl_zero _ hu jA listed[jA] (by rw [Array.getElem?_toList, Array.getElem?_eq_getElem hAl])
    simp only [lis, Array.getD_eq_getD_getElem?, Array.getElem?_eq_getElem hAl, Option.getD_some] at hunA
    rw [this] at hunA; cases hunA
  | succ f ihf =>
    intro listed a w hsz hu hc hunA hunB I
    have hAl : jA < ops.size := (Array.getElem?_eq_some_iff.1 hA).1
    have hBl : jB < ops.size := (Array.getElem?_eq_some_iff.1 hB).1
    have edge : ∀ {j : Nat} {o : Oper}, ops[j]? = some o → ∀ e ∈ o.after, Region.binds .any e = true → e.on < j ∧ e.on ≠ jA ∧ e.on ≠ jB := fun {j o} ho e he hb => by
      obtain ⟨g1, g2⟩ := hw o (Array.mem_toList_iff.2 (Array.mem_of_getElem? ho))
      refine ⟨?_, waitsOn_false g1 e he hb, waitsOn_false g2 e he hb⟩
      have := T.edges (B.some ho) e (by split <;> exact he) hb
      exact this
    have hc0 : Closed ops0 (lis listed) := B.closed fun i hi o ho e he hb => hc i hi o ho e he hb
    have un : ∀ {j : Nat}, j < ops.size → lis listed j = false → listed.getD j true = false := fun {j} h2 h3 => getD_in (by omega) h3
    -- a step of one that has no effect on the order of the two
    have comes : ∀ {S : Nat → Bool} {j : Nat} {o : Oper}, ops[j]? = some o → Closed ops0 S → (∀ e ∈ o.after, Region.binds .any e = true → S e.on = true) → S j = false → ∃ m o0, ops0[j]? = some o0 ∧ o0 = (if j = jA ∨ j = jB then blank o else o) ∧ Comes P F K ih ops0 n0 sts S j o0 m := fun {S j o} ho hcS hwS hS => by
      have h0 := B.some ho
      obtain ⟨m, hm, _⟩ := T.step j _ h0
      exact ⟨m, _, h0, rfl, T, h0, hm, hcS, fun o' ho' e he hb => by
        rw [h0] at ho'; cases ho'
        exact hwS e (by split at he <;> exact he) hb, hS⟩
    by_cases hall : ∀ i, i < ops.size → i ≠ jA → i ≠ jB → lis listed i = true
    · -- all but the two
      have waitsX : ∀ {j : Nat} {o : Oper}, ops[j]? = some o → ∀ e ∈ o.after, Region.binds .any e = true → lis listed e.on = true := fun {j o} ho e he hb => by
        obtain ⟨g1, g2, g3⟩ := edge ho e he hb
        have := (Array.getElem?_eq_some_iff.1 ho).1
        exact hall _ (by omega) g2 g3
      have step : ∀ {S : Nat → Bool} {j : Nat} {o : Oper}, (j = jA ∨ j = jB) → ops[j]? = some o → isStore o = true → Closed ops0 S → (∀ i, lis listed i = true → S i = true) → S j = false → Inv σ N ops0 sts ρ h w0 a0 S a w → Inv σ N ops0 sts ρ h w0 a0 (with1 S j) a w := fun {S j o} hj ho hs hcS hsub hS IS => by
        obtain ⟨m, o0, h0, e0, C⟩ := comes ho hcS (fun e he hb => hsub _ (waitsX ho e he hb)) hS
        rw [if_pos hj] at e0
        subst e0
        have := wpOp_val (u := .bool false) h0 (isStore_some hs).2.1 (exec_blank a) (op_any hF hK hr hσ hN C hn0 IS (fun a w => Inv σ N ops0 sts ρ h w0 a0 (with1 S j) a w) fun _ _ h => h)
        rw [show (blank o).dst = none from (isStore_some hs).1, put_none] at this
        exact this
      have IA := step (.inl rfl) hA sA hc0 (fun _ h => h) hunA I
      have hcA : Closed ops0 (with1 (lis listed) jA) := B.closed fun i hi o ho e he hb => by
        unfold with1 at hi ⊢
        simp only [Bool.or_eq_true, decide_eq_true_eq] at hi ⊢
        exact .inr (waitsX ho e he hb)
      have IAB := step (.inr rfl) hB sB hcA (fun i hi => by simp [with1, hi]) (by rw [with1_ne (Ne.symm hne)]; exact hunB) IA
      obtain ⟨_, ρ1, env1, h1, kk, hh1, st1, he1, hd1⟩ := fin _ a w (fun i hi => by
        rw [B.size] at hi
        by_cases hx : i = jB
        · rw [hx, with1_self]
        · rw [with1_ne hx]
          by_cases hy : i = jA
          · rw [hy, with1_self]
          · rw [with1_ne hy]; exact hall i hi hy hx) IAB
      obtain ⟨rA, y1, y2⟩ := bnd_some.1 kk
      obtain ⟨rB, y3, y4⟩ := bnd_some.1 y2
      obtain ⟨y5, y6⟩ := ite_some.1 y4
      have hrne : rA ≠ rB := fun e => by rw [e] at y5; simp at y5
      obtain ⟨vA, hA1, q1, y7⟩ := bnd2_some.1 y6
      obtain ⟨vB, hAB, q2, y8⟩ := bnd2_some.1 y7
      obtain ⟨vB', hB1, q3, y9⟩ := bnd2_some.1 y8
      obtain ⟨vA', hBA, q4, y10⟩ := bnd2_some.1 y9
      have eA : ∀ e ∈ oA.after, Region.binds .any e = true → e.on ≠ jA ∧ e.on < ops.size := fun e he hb => by
        obtain ⟨g1, g2, _⟩ := edge hA e he hb
        exact ⟨g2, by omega⟩
      have eB : ∀ e ∈ oB.after, Region.binds .any e = true → e.on ≠ jB ∧ e.on < ops.size := fun e he hb => by
        obtain ⟨g1, _, g2⟩ := edge hB e he hb
        exact ⟨g2, by omega⟩
      have hrA : jA ∈ Region.ready .any ops listed := mem_ready.2 ⟨un hAl hunA, oA, hA, fun e he hb => waitsX hA e he hb⟩
      refine ⟨fun h0 => (by rw [h0] at hrA; cases hrA), fun j hj => ?_⟩
      obtain ⟨j1, oj, j2, _⟩ := mem_ready.1 hj
      have hjl : j < ops.size := (Array.getElem?_eq_some_iff.1 j2).1
      have hjj : j = jA ∨ j = jB := by
        by_cases hx : j = jA
        · exact .inl hx
        · by_cases hy : j = jB
          · exact .inr hy
          · have hd : lis listed j = false := getD_both j1
            rw [hall j hjl hx hy] at hd; cases hd
      rcases hjj with rfl | rfl
      · exact two_go hF hK hr hσ hN hA hB sA sB hne q1 q2 hh1 he1 (fun ρ3 w3 k1 k2 => ⟨rfl, ρ3, env1, hAB, y10, k1, st1.trans k2, he1.mono k2.rho, hd1⟩) hsz hall hunA hunB hu eB
      · obtain ⟨pA, lA, s1, s1'⟩ := store_some y1 q1
        obtain ⟨pB, lB, s2, s2'⟩ := store_some y3 q3
        obtain ⟨c1, c2⟩ := store_comm hrne s1 (s2' q2) s2 (s1' q4)
        exact two_go hF hK hr hσ hN hB hA sB sA (Ne.symm hne) q3 q4 hh1 he1 (fun ρ3 w3 k1 k2 => ⟨rfl, ρ3, env1, hAB, y10, k1.congr c1 c2, st1.trans (k2.congr c1 c2), he1.mono k2.rho, hd1⟩) hsz (fun i h1 h2 h3 => hall i h1 h3 h2) hunB hunA hu eA
    · -- others are left
      obtain ⟨i1, hi1⟩ := Classical.not_forall.1 hall
      obtain ⟨i2, hi2⟩ := Classical.not_imp.1 hi1
      obtain ⟨i3, hi3⟩ := Classical.not_imp.1 hi2
      obtain ⟨i4, hi4⟩ := Classical.not_imp.1 hi3
      obtain ⟨i, ⟨m1, m2, m3, m4⟩, hmin⟩ := least (p := fun i => i < ops.size ∧ i ≠ jA ∧ i ≠ jB ∧ lis listed i = false) ⟨i1, i2, i3, i4, by simpa using hi4⟩
      have ho : ops[i]? = some ops[i] := Array.getElem?_eq_getElem m1
      have hwi : ∀ e ∈ ops[i].after, Region.binds .any e = true → lis listed e.on = true := fun e he hb => by
        obtain ⟨g1, g2, g3⟩ := edge ho e he hb
        cases hx : lis listed e.on with
        | true => rfl
        | false => exact absurd ⟨by omega, g2, g3, hx⟩ (hmin _ g1)
      have hir : i ∈ Region.ready .any ops listed := mem_ready.2 ⟨un m1 m4, _, ho, hwi⟩
      have nextS : ∀ {j : Nat} {o : Oper}, ops[j]? = some o → lis listed j = false → (∀ e ∈ o.after, Region.binds .any e = true → lis listed e.on = true) → j ≠ jA → j ≠ jB → ∀ a' w', Inv σ N ops0 sts ρ h w0 a0 (with1 (lis listed) j) a' w' → wpAny P .any ops (Reg σ N ρ h w0 a0 k r) f (listed.setIfInBounds j true) a' w' := fun {j o} hoj hjun hjw hjA hjB a' w' I' => by
        have hjl : j < ops.size := (Array.getElem?_eq_some_iff.1 hoj).1
        have l1 : lis (listed.setIfInBounds j true) = with1 (lis listed) j := lis_set (by omega)
        refine ihf _ a' w' (by simpa using hsz) ?_ ?_ (by rw [l1, with1_ne (Ne.symm hjA)]; exact hunA) (by rw [l1, with1_ne (Ne.symm hjB)]; exact hunB) (by rw [l1]; exact I')
        · have hlt : j < listed.size := by omega
          have := unl_set listed.toList j (by
            have hjt : listed[j]? = some false := by
              have := un hjl hjun
              simp only [Array.getD_eq_getD_getElem?, Array.getElem?_eq_getElem hlt, Option.getD_some] at this
              rw [Array.getElem?_eq_getElem hlt, this]
            simpa using hjt)
          simp only [Array.toList_setIfInBounds]; omega
        · rw [l1]
          intro q hq o' ho' e he hb
          unfold with1 at hq ⊢
          simp only [Bool.or_eq_true, decide_eq_true_eq] at hq ⊢
          rcases hq with rfl | hq
          · rw [hoj] at ho'; cases ho'; exact .inr (hjw e he hb)
          · exact .inr (hc q hq o' ho' e he hb)
      by_cases hrdy : jA ∈ Region.ready .any ops listed ∨ jB ∈ Region.ready .any ops listed
      · -- an address first
        have nomask : ∀ {j}, j ∈ Region.ready .any ops listed → ((ancs ops.toList []).getD j 0).testBit i = true → False := fun {j} hj hb => by
          obtain ⟨_, oj, j2, j3⟩ := mem_ready.1 hj
          rw [List.getD_eq_getElem?_getD] at hb
          cases hm : (ancs ops.toList [])[j]? with
          | none => rw [hm] at hb; simp at hb
          | some m =>
            rw [hm] at hb
            have := anc_spec j m hm (lis listed) hc (fun o' ho' e he hb' => by rw [j2] at ho'; cases ho'; exact j3 e he hb') i hb
            rw [m4] at this; cases this
        rcases hfree i _ ho m2 m3 with ⟨g1, g2⟩ | ⟨g1, g2⟩
        · exfalso
          rcases hrdy with hj | hj
          · exact nomask hj g1
          · exact nomask hj g2
        · obtain ⟨m, o0, h0, e0, C⟩ := comes ho hc0 hwi m4
          rw [if_neg (by rintro (h | h); exact m2 h; exact m3 h)] at e0
          subst e0
          obtain ⟨gd, kc, _⟩ := isAddr_some (P := P) g1
          have hy : ∃ u, ∀ w, (execOp a.eval ops[i]).run P w = .ok (.value u) w := by
            obtain ⟨kk, ρ1, hS, envS, M, he, her, hd⟩ := I
            obtain ⟨m', _, st⟩ := T.step i _ h0
            have same : ∀ {h}, opV P F K ih ops[i].op (sts i).env h = opV P F K ih ops[i].op envS h := fun {h} => opV_congr (C.opd_same he)
            generalize sts (i + 1) = s' at st
            cases st with
            | skip hw' hp =>
              rw [gd] at hw'
              cases hw'
            | pure hw' hk e hp =>
              have e2 := (pure_any hk e).2 hS
              rw [same] at e2
              exact addr_yields g1 (fun g hgl => M.hr.glob g (hN ▸ hgl)) her e2
            | alloc hw' hk e hrow hp => rw [kc] at hk; cases hk
            | read hw' hk hvis e hb hp => rw [kc] at hk; cases hk
            | eff hw' hk hm hvis e hwt hp => rw [kc] at hk; exact absurd hk (by omega)
          obtain ⟨u, hu2⟩ := hy
          have I' := wpOp_val h0 gd (hu2 w) (op_any hF hK hr hσ hN C hn0 I (fun a w => Inv σ N ops0 sts ρ h w0 a0 (with1 (lis listed) i) a w) fun _ _ h => h)
          refine wpAny_first ho (Region.noSelect_spec hsel) (fun c a w hq => by exact nomatch hq.1) f listed a w (fun j oj hj hji hjun hno => ?_) hir (.inl ⟨wanted_plain gd a, hu2⟩) (nextS ho m4 hwi m2 m3 _ _ I')
          rcases g2 j oj hj hji with g | g | g
          · obtain ⟨e, he, hb, hon⟩ := waitsOn_true g
            exact absurd hon (hno e he hb)
          · obtain ⟨e, he, hb, hon⟩ := waitsOn_true g
            have h1 := hwi e he hb
            rw [hon] at h1
            have h2 : lis listed j = false := getD_both hjun
            rw [h2] at h1; cases h1
          · exact g
      · refine ⟨fun h0 => (by rw [h0] at hir; cases hir), fun j hj => ?_⟩
        obtain ⟨j1, oj, j2, j3⟩ := mem_ready.1 hj
        have hjA : j ≠ jA := fun e => hrdy (.inl (e ▸ hj))
        have hjB : j ≠ jB := fun e => hrdy (.inr (e ▸ hj))
        have hjun : lis listed j = false := getD_both j1
        obtain ⟨m, o0, h0, e0, C⟩ := comes j2 hc0 j3 hjun
        exact B.wpOp hjA hjB (op_any hF hK hr hσ hN C hn0 I _ fun a' w' I' => nextS j2 hjun j3 hjA hjB a' w' I')

theorem freeStore_some (m : Nat) : ∀ (l : List Oper) (i j : Nat), freeStore m l i = some j → ∃ o, i ≤ j ∧ l[j - i]? = some o ∧ isStore o = true
  | [], _, _, h => nomatch h
  | o :: l, i, j, h => by
    have h : Bool.rec (motive := fun _ => Option Nat) (freeStore m l (Nat.succ i)) (Bool.rec (motive := fun _ => Option Nat) (some i) (freeStore m l (Nat.succ i)) (bit m i)) (isStore o) = some j := h
    have up : freeStore m l (Nat.succ i) = some j → ∃ o', i ≤ j ∧ (o :: l)[j - i]? = some o' ∧ isStore o' = true := fun h => by
      obtain ⟨o', k1, k2, k3⟩ := freeStore_some m l (Nat.succ i) j h
      refine ⟨o', by omega, ?_, k3⟩
      rw [show j - i = (j - Nat.succ i) + 1 by omega]
      simpa using k2
    cases hs : isStore o with
    | false => rw [hs] at h; exact up h
    | true =>
      rw [hs] at h
      cases hb : bit m i with
      | true => rw [hb] at h; exact up h
      | false => rw [hb] at h; cases h; exact ⟨o, Nat.le_refl _, by simp, hs⟩

theorem lateOf_some {l : List Oper} (e : lateOf l = some (jA, jB)) : jA < jB ∧ (∃ o, l[jA]? = some o ∧ isStore o = true) ∧ ∃ o, l[jB]? = some o ∧ isStore o = true := by
  unfold lateOf at e
  rw [force_eq] at e
  obtain ⟨oB, h1, e1⟩ := bnd_some.1 e
  obtain ⟨h2, e2⟩ := ite_some.1 e1
  obtain ⟨m, _, e3⟩ := bnd_some.1 e2
  obtain ⟨j, h3, e4⟩ := bnd_some.1 e3
  obtain ⟨h4, e5⟩ := ite_some.1 e4
  cases e5
  rw [nth_eq] at h1
  obtain ⟨o, _, k2, k3⟩ := freeStore_some m l 0 _ h3
  exact ⟨Nat.lt_of_succ_le (Nat.le_of_ble_eq_true h4), ⟨o, by simpa using k2, k3⟩, oB, h1, h2⟩

theorem drawn2_ok (hF : FactsOk P σ F) (hK : KOk P σ N K) (hr : RunOk P σ N ih) (hσ : ∀ i, (σ i).oneCell' = true) (hN : N = P.globals.size) (id : Nat) {env : Env} {k : Env → H → Out} {r : AV × H} {a : Act} {out : Out} (e : drawn2 P F K ih ops env h k = some out) (eo : out = some r) (hh : HR σ N ρ h w) (he : ER σ ρ env a.tmps) : (Code.region id ops true).wp P (Reg σ N ρ h w a k r) a w := by
  obtain ⟨jA, jB, e1, e2⟩ := bnd2_some.1 e
  obtain ⟨hok, e3⟩ := ite_some.1 e2
  obtain ⟨oA, hA, e4⟩ := bnd_some.1 e3
  obtain ⟨oB, hB, e5⟩ := bnd_some.1 e4
  have e5 := Option.some.inj e5
  rw [← e5] at eo
  clear e e2 e3 e4
  rw [nth_eq] at hA hB
  have hA : ops[jA]? = some oA := by simpa using hA
  have hB : ops[jB]? = some oB := by simpa using hB
  obtain ⟨hlt, ⟨oA', hA', sA⟩, oB', hB', sB⟩ := lateOf_some e1
  have hA' : ops[jA]? = some oA' := by simpa using hA'
  have hB' : ops[jB]? = some oB' := by simpa using hB'
  rw [hA] at hA'; cases hA'
  rw [hB] at hB'; cases hB'
  unfold lateOk at hok
  rw [Bool.and_eq_true, Bool.and_eq_true] at hok
  obtain ⟨⟨hsel, hall⟩, hfr⟩ := hok
  rw [List.all_eq_true] at hall hfr
  let ops0 : Array Oper := (blank2 jA jB ops.toList 0).toArray
  have B : Blanked ops ops0 jA jB := ⟨by simp [ops0, blank2_len], fun i => by
    have := blank2_get jA jB ops.toList 0 i
    simp only [Nat.zero_add, Array.getElem?_toList] at this
    simpa [ops0] using this⟩
  obtain ⟨hmix, n0, sts, T, hn, fin, I0⟩ := drawn_inv (ops := ops0) (show drawn P F K ih ops0.toList env h (bothStores P F K ih oA.op oB.op k) = some r from eo) hh he
  have hfalse : lis (Array.replicate ops.size false) = fun _ => false := funext fun i => getD_replicate_false _ _
  refine wp_region_any hmix (late_go hF hK hr hσ hN B T hn hA hB sA sB (by omega) hsel (fun o ho => ?_) (fun j o hj hjA hjB => ?_) fin ops.size _ a _ (by simp) (by simpa using unl_rep ops.size) (fun i hi => ?_) ?_ ?_ ?_)
  · have := hall o ho
    simpa using this
  · have hjl : j < ops.size := (Array.getElem?_eq_some_iff.1 hj).1
    have := hfr j (List.mem_range.2 hjl)
    rw [hj] at this
    have h1 : (j == jA) = false := by simpa using hjA
    have h2 : (j == jB) = false := by simpa using hjB
    simp only [h1, h2, Bool.false_or, Bool.or_eq_true, Bool.and_eq_true, List.all_eq_true, List.mem_range] at this
    refine this.imp (fun g => g) fun g => ⟨g.1, fun i o' hi hij => ?_⟩
    have hil : i < ops.size := (Array.getElem?_eq_some_iff.1 hi).1
    have := g.2 i hil
    rw [hi] at this
    have h3 : (i == j) = false := by simpa using hij
    simp only [h3, Bool.false_or, Bool.or_eq_true] at this
    rcases this with (g1 | g1) | g1
    · exact .inl g1
    · exact .inr (.inl g1)
    · exact .inr (.inr g1)
  · rw [hfalse] at hi; cases hi
  · rw [hfalse]
  · rw [hfalse]
  · rw [hfalse]; exact I0

theorem draw_ok (hF : FactsOk P σ F) (hK : KOk P σ N K) (hr : RunOk P σ N ih) (hσ : ∀ i, (σ i).oneCell' = true) (hN : N = P.globals.size) : DrawOk P σ N F K ih := by
  intro id ops env h k r ρ a w e hh he
  have e : Option.rec (motive := fun _ => Out) (drawn P F K ih ops.toList env h k) (fun x => x) (drawn2 P F K ih ops env h k) = some r := e
  cases hm : drawn2 P F K ih ops env h k with
  | none => rw [hm] at e; exact draw1_ok hF hK hr hσ hN id e hh he
  | some out => rw [hm] at e; exact drawn2_ok hF hK hr hσ hN id hm e hh he

/-- A run is sound. -/
theorem runs_ok (hF : FactsOk P σ F) (hK : KOk P σ N K) (hσ : ∀ i, (σ i).oneCell' = true) (hN : N = P.globals.size) (n : Nat) : RunOk P σ N (run P F K n) := run_ok hF hK (fun _ hr => draw_ok hF hK hr hσ hN) hσ hN n
end
end Go.Exe
