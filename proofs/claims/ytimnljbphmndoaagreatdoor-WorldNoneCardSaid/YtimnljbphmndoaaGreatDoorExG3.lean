/- Drawn regions: the evaluation, step by step; rows beside memory. -/
import Derived.Test.YtimnljbphmndoaaGreatDoorExG2
namespace Go.Exe
open Go

section
variable {σ : Sig} {N : Nat} {ρ ρ' : Rho} {h h' : H} {w w' : World}

/-- What a step does not see stays. -/
theorem frame_ok {hS hv hS' : H} (hr : HR σ N ρ hS w) (hvn : hv.nx = hS.nx) (hvs : ∀ q row, hv.get q = some row → hS.get q = some row) (hh' : HR σ N ρ' h' w') (st : St ρ hv w ρ' h' w') {X : Nat → Prop} (hn' : hS'.nx = h'.nx)
    (hX : ∀ x, X x → ∃ row, hS.get x = some row ∧ hS'.get x = some row ∧ relOf row = [] ∧ hv.get x = none) (hR : ∀ q, ¬ X q → hS'.get q = h'.get q) (hrel : ∀ q row x, X x → hv.get q = some row → x ∉ relOf row) : HR σ N ρ' hS' w' ∧ St ρ hS w ρ' hS' w' := by
  have low : ∀ x row, hS.get x = some row → x < hS.nx := fun x row e => by
    obtain ⟨p, h1, _⟩ := hr.live x row e
    rcases Nat.lt_or_ge x hS.nx with hl | hl
    · exact hl
    · rw [hr.new x hl] at h1; cases h1
  have hrel' : ∀ q row x, X x → h'.get q = some row → x ∉ relOf row := fun q row x hx e hc => by
    obtain ⟨rowx, k1, _, _, k2⟩ := hX x hx
    rcases st.rel q row x e hc with h1 | ⟨row0, h1⟩ | ⟨q0, row0, h1, h2⟩
    · have := low x rowx k1; omega
    · rw [k2] at h1; cases h1
    · exact hrel q0 row0 x hx h1 h2
  have lv : ∀ x, X x → ∀ row, hS.get x = some row → ∃ p, ρ x = some p ∧ ρ' x = some p ∧ RowR σ ρ w p row ∧ (¬ Owns ρ hv p.b) ∧ ∀ q row0 p0, hv.get q = some row0 → ρ q = some p0 → p0.b ≠ p.b := fun x hx row e => by
    obtain ⟨row2, k1, _, k3, k4⟩ := hX x hx
    rw [e] at k1; cases k1
    obtain ⟨p, h1, h2⟩ := hr.live x row e
    have sep : ∀ q row0 p0, hv.get q = some row0 → ρ q = some p0 → p0.b ≠ p.b := fun q row0 p0 g1 g2 => by
      have hne : q ≠ x := fun e => by subst e; rw [k4] at g1; cases g1
      exact hr.sep q x row0 row p0 p (hvs _ _ g1) e hne (hrel q row0 x hx g1) (by rw [k3]; exact (fun h => nomatch h)) g2 h1
    exact ⟨p, h1, st.rho _ _ h1, h2, fun ⟨q, row0, p0, g1, _, g2, g3⟩ => sep q row0 p0 g1 g2 g3, sep⟩
  have inX : ∀ q row, hS'.get q = some row → X q → hS.get q = some row := fun q row e hx => by
    obtain ⟨row2, k1, k2, _⟩ := hX q hx
    rw [e] at k2; cases k2; exact k1
  have notX : ∀ q row, hS'.get q = some row → ¬ X q → h'.get q = some row := fun q row e hx => by rw [← hR q hx]; exact e
  have mix : ∀ x q row row0 p p0, hS'.get x = some row → X x → hS'.get q = some row0 → ¬ X q → ρ' x = some p → ρ' q = some p0 → p.b ≠ p0.b := fun x q row row0 p p0 e1 hx e2 hq h1 h2 => by
    have g1 := inX x row e1 hx
    obtain ⟨p1, k1, k2, k3, _, k5⟩ := lv x hx row g1
    rw [h1] at k2; cases k2
    rcases st.dom q row0 p0 (notX q row0 e2 hq) h2 with ⟨row1, g2, g3⟩ | g2 | ⟨q1, row1, p1, g2, _, g3, g4⟩
    · exact Ne.symm (k5 q row1 p0 g2 g3)
    · have := k3.lt; omega
    · rw [← g4]; exact Ne.symm (k5 q1 row1 p1 g2 g3)
  constructor
  · refine ⟨fun q row e => ?_, fun q hq => hh'.new q (by rw [← hn']; exact hq), fun q q' row row' p p' e1 e2 hne h1 h2 hp hp' => ?_, fun q q' row row' e1 hq e2 => ?_, fun q q' row e1 hq => ?_, hh'.glob⟩
    · by_cases hx : X q
      · obtain ⟨p, k1, k2, k3, k4, _⟩ := lv q hx row (inX q row e hx)
        exact ⟨p, k2, k3.mono st.rho (st.block _ k3.lt k4)⟩
      · exact hh'.live q row (notX q row e hx)
    · by_cases hx : X q
      · by_cases hx' : X q'
        · obtain ⟨p1, k1, k2, _⟩ := lv q hx row (inX q row e1 hx)
          obtain ⟨p2, k3, k4, _⟩ := lv q' hx' row' (inX q' row' e2 hx')
          rw [hp] at k2; cases k2
          rw [hp'] at k4; cases k4
          exact hr.sep q q' row row' p p' (inX _ _ e1 hx) (inX _ _ e2 hx') hne h1 h2 k1 k3
        · exact mix q q' row row' p p' e1 hx e2 hx' hp hp'
      · by_cases hx' : X q'
        · exact Ne.symm (mix q' q row' row p' p e2 hx' e1 hx hp' hp)
        · exact hh'.sep q q' row row' p p' (notX _ _ e1 hx) (notX _ _ e2 hx') hne h1 h2 hp hp'
    · by_cases hx : X q
      · obtain ⟨row2, k1, k2, k3, _⟩ := hX q hx
        rw [e1] at k2; cases k2
        rw [k3] at hq; cases hq
      · by_cases hx' : X q'
        · exact absurd hq (hrel' q row q' hx' (notX _ _ e1 hx))
        · exact hh'.old q q' row row' (notX _ _ e1 hx) hq (notX _ _ e2 hx')
    · by_cases hx : X q
      · obtain ⟨row2, k1, k2, k3, _⟩ := hX q hx
        rw [e1] at k2; cases k2
        rw [k3] at hq; cases hq
      · exact hh'.rels q q' row (notX _ _ e1 hx) hq
  · have up : ∀ b, Owns ρ hv b → Owns ρ hS b := fun b ⟨q, row, p, g1, g2⟩ => ⟨q, row, p, hvs _ _ g1, g2⟩
    refine ⟨st.os, st.tape, st.output, st.size, fun b hb hno => st.block b hb fun h => hno (up b h), st.rho, fun b hb ⟨q, row, p, e1, e2, e3, e4⟩ => ?_, by rw [hn', ← hvn]; exact st.nx, fun q row p e1 e2 => ?_, fun q row e1 => ?_, fun q row x e1 hx => ?_, fun r h1 h2 => st.fresh r (by rw [hvn]; exact h1) h2⟩
    · by_cases hx : X q
      · obtain ⟨p1, k1, k2, _⟩ := lv q hx row (inX q row e1 hx)
        rw [e3] at k2; cases k2
        exact ⟨q, row, p, inX _ _ e1 hx, e2, k1, e4⟩
      · exact up b (st.owns b hb ⟨q, row, p, notX _ _ e1 hx, e2, e3, e4⟩)
    · by_cases hx : X q
      · obtain ⟨p1, k1, k2, _⟩ := lv q hx row (inX q row e1 hx)
        rw [e2] at k2; cases k2
        exact .inl ⟨row, inX _ _ e1 hx, k1⟩
      · rcases st.dom q row p (notX _ _ e1 hx) e2 with ⟨row1, g2, g3⟩ | g2 | g2
        · exact .inl ⟨row1, hvs _ _ g2, g3⟩
        · exact .inr (.inl g2)
        · exact .inr (.inr (up _ g2))
    · by_cases hx : X q
      · exact .inl ⟨row, inX _ _ e1 hx⟩
      · rcases st.ids q row (notX _ _ e1 hx) with ⟨row0, g⟩ | g
        · exact .inl ⟨row0, hvs _ _ g⟩
        · exact .inr (by rw [← hvn]; exact g)
    · by_cases hq : X q
      · obtain ⟨row2, k1, k2, k3, _⟩ := hX q hq
        rw [e1] at k2; cases k2
        rw [k3] at hx; cases hx
      · rcases st.rel q row x (notX _ _ e1 hq) hx with g | ⟨row0, g⟩ | ⟨q0, row0, g1, g2⟩
        · exact .inl (by rw [← hvn]; exact g)
        · exact .inr (.inl ⟨row0, hvs _ _ g⟩)
        · exact .inr (.inr ⟨q0, row0, hvs _ _ g1, g2⟩)

theorem HR.congr (hh : HR σ N ρ h w) (hn : h'.nx = h.nx) (hg : ∀ q, h'.get q = h.get q) : HR σ N ρ h' w :=
  hh.weak hn fun q row e => ⟨row, by rw [← hg]; exact e, fun _ k => k, id, fun _ k => k, fun _ k1 k2 => absurd k1 k2⟩
theorem HR.sub (hh : HR σ N ρ h w) (hn : h'.nx = h.nx) (hg : ∀ q row, h'.get q = some row → h.get q = some row) : HR σ N ρ h' w :=
  hh.weak hn fun _ row e => ⟨row, hg _ _ e, fun _ k => k, id, fun _ k => k, fun _ k1 k2 => absurd k1 k2⟩
theorem St.congr {h1 h2 : H} (st : St ρ h w ρ' h1 w') (hn : h2.nx = h1.nx) (hg : ∀ q, h2.get q = h1.get q) : St ρ h w ρ' h2 w' where
  os := st.os
  tape := st.tape
  output := st.output
  size := st.size
  block := st.block
  rho := st.rho
  owns := fun b hb ⟨q, row, p, e1, e2⟩ => st.owns b hb ⟨q, row, p, by rw [← hg]; exact e1, e2⟩
  nx := by rw [hn]; exact st.nx
  dom := fun q row p e => st.dom q row p (by rw [← hg]; exact e)
  ids := fun q row e => st.ids q row (by rw [← hg]; exact e)
  rel := fun q row x e => st.rel q row x (by rw [← hg]; exact e)
  fresh := st.fresh

/-- Rows put beside memory. -/
theorem beside (c : Nat → Bool) : ∀ {pend : List (Nat × Nat × Row)} (h : H), Apart pend → ∃ hv : H, hv.nx = h.nx ∧ (∀ i r row, (i, r, row) ∈ pend → c i = true → hv.get r = some row) ∧ ∀ q, (∀ i row, (i, q, row) ∈ pend → c i = true → False) → hv.get q = h.get q
  | [], h, _ => ⟨h, rfl, (fun _ _ _ h => nomatch h), fun _ _ => rfl⟩
  | (i, r, row) :: pend, h, hp => by
    have hp' : Apart pend := fun a b c a' b' c' h1 h2 => hp a b c a' b' c' (List.mem_cons_of_mem _ h1) (List.mem_cons_of_mem _ h2)
    obtain ⟨hv, k1, k2, k3⟩ := beside c h hp'
    cases hc : c i with
    | false =>
      refine ⟨hv, k1, fun j s row' hm h1 => ?_, fun q hq => k3 q fun j row' hm => hq j row' (List.mem_cons_of_mem _ hm)⟩
      rcases List.mem_cons.1 hm with h3 | h3
      · cases h3; rw [hc] at h1; cases h1
      · exact k2 j s row' h3 h1
    | true =>
      obtain ⟨h2, g1, g2⟩ := put_of hv r (some row)
      refine ⟨h2, g1.trans k1, fun j s row' hm h1 => ?_, fun q hq => ?_⟩
      · rw [g2]
        by_cases hs : s = r
        · rw [if_pos hs]
          obtain ⟨_, _, h5⟩ := hp j s row' i r row hm (List.mem_cons_self ..) (.inr hs)
          rw [h5]
        · rw [if_neg hs]
          rcases List.mem_cons.1 hm with h3 | h3
          · cases h3; exact absurd rfl hs
          · exact k2 j s row' h3 h1
      · rw [g2, if_neg ?_]
        · exact k3 q fun j row' hm => hq j row' (List.mem_cons_of_mem _ hm)
        · intro e; subst e
          exact hq i row (List.mem_cons_self ..) hc
end

/-! ### The evaluation, step by step -/

structure Stt where
  env : Env
  hc : H
  ra : Nat
  pend : List (Nat × Nat × Row)
  ab : Nat
  em : Nat
  snaps : List (Nat × Nat × H)
  watch : List (Nat × Nat × Oper × Env × AV)

inductive Step1 (P : Program) (F : Facts) (K : Known) (ih : Run) (ops : List Oper) (i : Nat) (o : Oper) (m : Nat) (s : Stt) : Stt → Prop
  | skip {env'} (hw : wantedO (guardT ops o.guard) s.env = some false) (hp : putD o.dst .und s.env = some env') : Step1 P F K ih ops i o m s { s with env := env' }
  | pure {env' v h1} (hw : wantedO (guardT ops o.guard) s.env = some true) (hk : kindC P o.op = 0) (e : opV P F K ih o.op s.env s.hc = some (v, h1)) (hp : putD o.dst v s.env = some env') : Step1 P F K ih ops i o m s { s with env := env' }
  | alloc {env' v h1 row} (hw : wantedO (guardT ops o.guard) s.env = some true) (hk : kindC P o.op = 1) (e : opV P F K ih o.op s.env ⟨.leaf, s.ra⟩ = some (v, h1)) (hrow : h1.get s.ra = some row) (hp : putD o.dst v s.env = some env') : Step1 P F K ih ops i o m s { s with env := env', ra := s.ra + 1, pend := (i, s.ra, row) :: s.pend }
  | read {env' v hv h1} (hw : wantedO (guardT ops o.guard) s.env = some true) (hk : kindC P o.op = 2) (hvis : visible m s.ab s.pend s.hc = some hv) (e : opV P F K ih o.op s.env hv = some (v, h1)) (hb : backs P F K ih m s.pend o s.env v s.snaps = true) (hp : putD o.dst v s.env = some env') : Step1 P F K ih ops i o m s { s with env := env', watch := (i, m, o, s.env, v) :: s.watch }
  | eff {env' v hv h'} (hw : wantedO (guardT ops o.guard) s.env = some true) (hk : 3 ≤ kindC P o.op) (hm : s.em &&& m = s.em) (hvis : visible m s.ab s.pend s.hc = some hv) (e : opV P F K ih o.op s.env hv = some (v, h')) (hwt : watches P F K ih m (s.ab ||| m) s.pend h' s.watch = true) (hp : putD o.dst v s.env = some env') : Step1 P F K ih ops i o m s { s with env := env', hc := h', ab := s.ab ||| m, em := s.em ||| (1 <<< i), snaps := (i, s.ab, s.hc) :: s.snaps }

section
variable {P : Program} {F : Facts} {K : Known} {ih : Run} {ops : List Oper} {k : Env → H → Out} {r : AV × H}

theorem drawnO_trace : ∀ (l : List Oper) (ms : List Nat) (i : Nat) (s : Stt), drawnO P F K ih ops l ms i s.env s.hc s.ra s.pend s.ab s.em s.snaps s.watch k = some r →
    ∃ sts : Nat → Stt, sts 0 = s ∧ (∀ j o, l[j]? = some o → ∃ m, ms[j]? = some m ∧ Step1 P F K ih ops (i + j) o m (sts j) (sts (j + 1))) ∧ ∃ hE, restOf (sts l.length).ab (sts l.length).pend (sts l.length).hc = some hE ∧ k (sts l.length).env hE = some r
  | [], ms, i, s, e => by
    obtain ⟨hE, h1, h2⟩ := bnd_some.1 (show bnd (restOf s.ab s.pend s.hc) (fun h => k s.env h) = some r from e)
    exact ⟨fun _ => s, rfl, fun j o h => by simp at h, hE, h1, h2⟩
  | o :: l, ms, i, s, e => by
    cases ms with
    | nil => exact nomatch e
    | cons m ms =>
      have go : ∀ s' : Stt, Step1 P F K ih ops i o m s s' → drawnO P F K ih ops l ms (i + 1) s'.env s'.hc s'.ra s'.pend s'.ab s'.em s'.snaps s'.watch k = some r →
          ∃ sts : Nat → Stt, sts 0 = s ∧ (∀ j o', (o :: l)[j]? = some o' → ∃ m', (m :: ms)[j]? = some m' ∧ Step1 P F K ih ops (i + j) o' m' (sts j) (sts (j + 1))) ∧ ∃ hE, restOf (sts (o :: l).length).ab (sts (o :: l).length).pend (sts (o :: l).length).hc = some hE ∧ k (sts (o :: l).length).env hE = some r := fun s' st e => by
        obtain ⟨sts, h0, h1, h2⟩ := drawnO_trace l ms (i + 1) s' e
        refine ⟨fun n => match n with | 0 => s | n + 1 => sts n, rfl, fun j o' hj => ?_, h2⟩
        cases j with
        | zero => cases hj; exact ⟨m, rfl, by show Step1 P F K ih ops (i + 0) o m s (sts 0); rw [h0]; exact st⟩
        | succ j =>
          obtain ⟨m', h3, h4⟩ := h1 j o' (by simpa using hj)
          exact ⟨m', by simpa using h3, by rw [show i + (j + 1) = i + 1 + j by omega]; exact h4⟩
      obtain ⟨b, hw, e⟩ := bnd_some.1 (show bnd (wantedO (guardT ops o.guard) s.env) _ = some r from e)
      cases b with
      | false =>
        obtain ⟨env', h1, e⟩ := bnd_some.1 (show bnd (putD o.dst .und s.env) (fun env => drawnO P F K ih ops l ms (i + 1) env s.hc s.ra s.pend s.ab s.em s.snaps s.watch k) = some r from e)
        exact go _ (.skip hw h1) e
      | true =>
        dsimp only at e
        generalize hk : kindC P o.op = kd at e
        cases kd with
        | zero =>
          obtain ⟨v, h1, e1, e⟩ := bnd2_some.1 (show bnd2 (opV P F K ih o.op s.env s.hc) (fun v _ => bnd (putD o.dst v s.env) fun env => drawnO P F K ih ops l ms (i + 1) env s.hc s.ra s.pend s.ab s.em s.snaps s.watch k) = some r from e)
          obtain ⟨env', h2, e⟩ := bnd_some.1 e
          exact go _ (.pure hw hk e1 h2) e
        | succ kd =>
          cases kd with
          | zero =>
            obtain ⟨v, h1, e1, e⟩ := bnd2_some.1 (show bnd2 (opV P F K ih o.op s.env ⟨.leaf, s.ra⟩) (fun v h1 => bnd (h1.get s.ra) fun row => bnd (putD o.dst v s.env) fun env => force (Nat.succ s.ra) fun ra' => drawnO P F K ih ops l ms (i + 1) env s.hc ra' ((i, s.ra, row) :: s.pend) s.ab s.em s.snaps s.watch k) = some r from e)
            obtain ⟨row, h2, e⟩ := bnd_some.1 e
            obtain ⟨env', h3, e⟩ := bnd_some.1 e
            rw [force_eq] at e
            exact go _ (.alloc hw hk e1 h2 h3) e
          | succ kd =>
            cases kd with
            | zero =>
              obtain ⟨hv, h1, e⟩ := bnd_some.1 (show bnd (visible m s.ab s.pend s.hc) (fun hv => bnd2 (opV P F K ih o.op s.env hv) fun v _ => ite' (backs P F K ih m s.pend o s.env v s.snaps) (bnd (putD o.dst v s.env) fun env' => drawnO P F K ih ops l ms (i + 1) env' s.hc s.ra s.pend s.ab s.em s.snaps ((i, m, o, s.env, v) :: s.watch) k)) = some r from e)
              obtain ⟨v, h2, e1, e⟩ := bnd2_some.1 e
              obtain ⟨h3, e⟩ := ite_some.1 e
              obtain ⟨env', h4, e⟩ := bnd_some.1 e
              exact go _ (.read hw hk h1 e1 h3 h4) e
            | succ kd =>
              obtain ⟨h0, e⟩ := ite_some.1 (show ite' (Nat.beq (Nat.land s.em m) s.em) (bnd (visible m s.ab s.pend s.hc) fun hv => bnd2 (opV P F K ih o.op s.env hv) fun v h' => force (Nat.lor s.ab m) fun ab' => ite' (watches P F K ih m ab' s.pend h' s.watch) (bnd (putD o.dst v s.env) fun env => force (Nat.lor s.em (Nat.shiftLeft 1 i)) fun em => drawnO P F K ih ops l ms (i + 1) env h' s.ra s.pend ab' em ((i, s.ab, s.hc) :: s.snaps) s.watch k)) = some r from e)
              obtain ⟨hv, h1, e⟩ := bnd_some.1 e
              obtain ⟨v, h', e1, e⟩ := bnd2_some.1 e
              rw [force_eq] at e
              obtain ⟨h3, e⟩ := ite_some.1 e
              obtain ⟨env', h4, e⟩ := bnd_some.1 e
              rw [force_eq] at e
              exact go _ (.eff hw (by omega) (Nat.eq_of_beq_eq_true h0) h1 e1 h3 h4) e
end
end Go.Exe
