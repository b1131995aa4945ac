/- Drawn regions: a step in any order, and all of them. -/
import Derived.Test.YtimnljbphmndoaaGreatDoorExG6
namespace Go.Exe
open Go

section
variable {P : Program} {F : Facts} {K : Known} {ih : Run} {ops : Array Oper} {sts : Nat → Stt} {n0 : Nat} {o : Oper} {m j : Nat} {S : Nat → Bool}
variable {σ : Sig} {N : Nat} {ρ ρ' ρ0 : Rho} {h0 hS hv h' : H} {w w' w0 : World} {k : Nat}

/-- An effect. -/
theorem Mem.after (M : Mem σ N ops sts ρ0 h0 w0 S k ρ hS w) (C : Comes P F K ih ops n0 sts S j o m) (hE : effAt sts j) (hem : (sts j).em &&& m = (sts j).em) (hvis : visible m (sts j).ab (sts j).pend (sts j).hc = some hv) (hab : (sts (j + 1)).ab = (sts j).ab ||| m) (hpn : (sts (j + 1)).pend = (sts j).pend)
    (hh : HR σ N ρ' (sts (j + 1)).hc w') (st : St ρ hv w ρ' (sts (j + 1)).hc w') : ∃ hS', Mem σ N ops sts ρ0 h0 w0 (with1 S j) (j + 1) ρ' hS' w' ∧ Sub ρ ρ' := by
  have hj := C.lt
  obtain ⟨b1, b2, b3⟩ := M.base C hE hem
  have pn := C.T.pend_ok ops.size (Nat.le_refl _)
  obtain ⟨v1, v2, v3, v4, v5⟩ := M.vis C.T (fun i h => C.mS h) (C.pend_agree (Nat.le_refl _) (by omega)) (C.T.pend_ok j (by omega)).2.1 b1 b2 hvis
  have hnj := C.T.bare hj hpn
  obtain ⟨hS', s1, s2, s3⟩ := beside (fun i => S i && !m.testBit i && !(sts k).ab.testBit i) (sts (j + 1)).hc pn.2.1
  have bes : ∀ q, Beside ops sts S m k q → ∃ row, hS.get q = some row ∧ hS'.get q = some row ∧ relOf row = [] ∧ hv.get q = none := fun q hb => by
    obtain ⟨row, g1, g2, g3, _⟩ := v3 q hb
    obtain ⟨i, row', q1, q2, q3, q4⟩ := hb
    have := M.row i q row' q1 q2 q4
    rw [g1] at this; cases this
    exact ⟨row, g1, s2 i q row q1 (by simp [q2, q3, q4]), g2, g3⟩
  have nbes : ∀ q, ¬ Beside ops sts S m k q → hS'.get q = (sts (j + 1)).hc.get q := fun q hb => s3 q fun i row q1 q2 => by
    simp only [Bool.and_eq_true, Bool.not_eq_true'] at q2
    exact hb ⟨i, row, q1, q2.1.1, q2.1.2, q2.2⟩
  obtain ⟨f1, f2⟩ := frame_ok M.hr v1 v2 hh st (X := Beside ops sts S m k) s1 bes nbes (fun q row x hx => v5 q row x hx)
  have split : ∀ {i}, (sts (j + 1)).ab.testBit i = false → (sts k).ab.testBit i = false ∧ m.testBit i = false := fun {i} h => by
    rw [hab, Nat.testBit_or, Bool.or_eq_false_iff, b2] at h; exact h
  have hid : ∀ i r row, (i, r, row) ∈ (sts ops.size).pend → (sts (j + 1)).ab.testBit i = false → hv.get r = none := fun i r row h1 h2 => by
    obtain ⟨g1, g2⟩ := split h2
    have ho : ∀ i' row', (i', r, row') ∈ (sts ops.size).pend → i' = i := fun i' row' h => (pn.2.1 i' r row' i r row h h1 (.inr rfl)).1
    obtain ⟨k1, k2, k3⟩ := visible_spec (C.T.pend_ok j (by omega)).2.1 hvis
    rw [k3 r fun i' row' q1 q2 _ => ?_, b1]
    · exact M.gone i r row h1 g1
    · have := ho i' row' ((C.pend_agree (Nat.le_refl _) (by omega) i' r row' q2).1 q1)
      subst this; rw [g2] at q2; cases q2
  have hnx : hv.nx = hS.nx := v1
  refine ⟨hS', { le := by omega, eff := b3, hr := f1, nx := s1, lt := fun i r row h => ?_, row := fun i r row h1 h2 h3 => ?_, rest := fun q hq => ?_, gone := fun i r row h1 h2 => ?_, rel := fun i r row h1 h2 q row0 hq hc => ?_, free := fun i r row h1 h2 => ?_, abs := fun i h => ?_, st := M.st.trans f2 }, st.rho⟩
  · have := M.lt i r row h; have := st.nx; omega
  · have hij : i ≠ j := fun e => by subst e; exact hnj _ _ h1
    rw [with1_ne hij] at h2
    obtain ⟨g1, g2⟩ := split h3
    exact s2 i r row h1 (by simp [h2, g1, g2])
  · refine s3 q fun i row q1 q2 => ?_
    simp only [Bool.and_eq_true, Bool.not_eq_true'] at q2
    have hij : i ≠ j := fun e => by subst e; exact hnj _ _ q1
    refine hq i row q1 (by rw [with1_ne hij]; exact q2.1.1) ?_
    rw [hab, Nat.testBit_or, q2.1.2, b2, q2.2]; rfl
  · cases hc : (sts (j + 1)).hc.get r with
    | none => rfl
    | some row0 =>
      exfalso
      rcases st.ids r row0 hc with ⟨row1, g⟩ | g
      · rw [hid i r row h1 h2] at g; cases g
      · have := M.lt i r row h1; omega
  · obtain ⟨g1, g2⟩ := split h2
    rcases st.rel q row0 r hq hc with g | ⟨row1, g⟩ | ⟨q0, row1, g3, g4⟩
    · have := M.lt i r row h1; omega
    · rw [hid i r row h1 h2] at g; cases g
    · obtain ⟨k1, k2, k3⟩ := visible_spec (C.T.pend_ok j (by omega)).2.1 hvis
      by_cases hin : ∃ i' row', (i', q0, row') ∈ (sts j).pend ∧ m.testBit i' = true ∧ (sts j).ab.testBit i' = false
      · obtain ⟨i', row', q1, q2, q3⟩ := hin
        rw [k2 i' q0 row' q1 q2 q3] at g3
        cases g3
        rw [((C.T.pend_ok j (by omega)).1 i' q0 _ q1).2.2.2] at g4; cases g4
      · rw [k3 q0 fun i' row' q1 q2 q3 => hin ⟨i', row', q1, q2, q3⟩, b1] at g3
        exact M.rel i r row h1 g1 q0 row1 g3 g4
  · have hij : i ≠ j := fun e => by subst e; exact hnj _ _ h1
    rw [with1_ne hij] at h2
    exact st.fresh r (by have := M.lt i r row h1; omega) (M.free i r row h1 h2)
  · rw [hab, Nat.testBit_or, Bool.or_eq_true, b2] at h
    rcases h with h | h
    · simp [with1, M.abs i h]
    · simp [with1, C.mS h]

/-- The state in any order. -/
def Inv (σ : Sig) (N : Nat) (ops : Array Oper) (sts : Nat → Stt) (ρ0 : Rho) (h0 : H) (w0 : World) (a0 : Act) (S : Nat → Bool) (a : Act) (w : World) : Prop :=
  ∃ k ρ hS envS, Mem σ N ops sts ρ0 h0 w0 S k ρ hS w ∧ (∀ t, getT envS t = vAt ops sts S t ops.size) ∧ ER σ ρ envS a.tmps ∧ a.defers = a0.defers

theorem op_any (hF : FactsOk P σ F) (hK : KOk P σ N K) (hr : RunOk P σ N ih) (hσ : ∀ i, (σ i).oneCell' = true) (hN : N = P.globals.size) {a0 a : Act} {Q : Exit → Act → World → Prop} (C : Comes P F K ih ops n0 sts S j o m) (hn0 : h0.nx ≤ n0) (I : Inv σ N ops sts ρ0 h0 w0 a0 S a w) (G : Act → World → Prop) (hG : ∀ a w, Inv σ N ops sts ρ0 h0 w0 a0 (with1 S j) a w → G a w) : wpOp P ops Q j G a w := by
  obtain ⟨k, ρ, hS, envS, M, he, her, hd⟩ := I
  have hj := C.lt
  obtain ⟨m', hm', st⟩ := C.T.step j o C.ho
  rw [C.hm] at hm'; cases hm'
  unfold wpOp
  rw [C.ho]
  show if Region.wanted o (yielded ops a.tmps) then o.wp P a w G Q ∨ (o.asks P a w ∧ LetsOut Q) else G (a.put o.dst undef) w
  have pok := C.T.pend_ok j (by omega)
  have done : ∀ {k' ρ' hS' v u w'}, Mem σ N ops sts ρ0 h0 w0 (with1 S j) k' ρ' hS' w' → Sub ρ ρ' → VR σ ρ' v u → putD o.dst v (sts j).env = some (sts (j + 1)).env → G (a.put o.dst u) w' := fun {k' ρ' hS' v u w'} M' hs hv hp => by
    obtain ⟨env', e1, e2⟩ := C.env_step he hp
    exact hG _ _ ⟨k', ρ', hS', env', M', e2, (her.mono hs).put hv e1, by rw [put_defers]; exact hd⟩
  have same : ∀ {h}, opV P F K ih o.op (sts j).env h = opV P F K ih o.op envS h := fun {h} => opV_congr (C.opd_same he)
  generalize hs' : sts (j + 1) = s' at st
  cases st with
  | skip hw hp =>
    rw [wanted_ok her (C.wanted_same he hw), if_neg (by simp)]
    have M' := M.other (C.T.calm hj (by rw [hs'])) (C.T.bare hj (by rw [hs'])) M.hr (St.refl _ _ _)
    exact done M' (Sub.refl _) (v := .und) rfl (by rw [hs']; exact hp)
  | pure hw hk e hp =>
    rw [wanted_ok her (C.wanted_same he hw), if_pos rfl]
    left
    have e2 := (pure_any hk e).2 hS
    rw [same] at e2
    refine opV_ok hF hK hr hσ hN M.hr her e2 _ _ fun ρ' u w' k1 k2 k3 => ?_
    exact done (M.other (C.T.calm hj (by rw [hs'])) (C.T.bare hj (by rw [hs'])) k1 k2) k2.rho k3 (by rw [hs']; exact hp)
  | alloc hw hk e hrow hp =>
    rename_i env' v h1 row
    rw [wanted_ok her (C.wanted_same he hw), if_pos rfl]
    left
    have hin : (j, (sts j).ra, row) ∈ (sts ops.size).pend := by
      rw [C.T.pend_at (j := j + 1) (by omega) (Nat.lt_succ_self _), hs']
      exact List.mem_cons_self ..
    obtain ⟨hS', g1, g2⟩ := put_of hS (sts j).ra (some row)
    have e2 := e
    rw [same] at e2
    have L : Laid σ N ρ hS w ρ0 h0 w0 ⟨.leaf, (sts j).ra⟩ h1 hS' := ⟨M.hr, M.free _ _ _ hin C.fresh, M.st, Nat.le_trans hn0 pok.2.2.1, fun q => by
      rw [g2]
      by_cases hq : q = (sts j).ra
      · rw [if_pos hq, if_pos hq, hq, hrow]
      · rw [if_neg hq, if_neg hq], by rw [g1]; exact Nat.le_refl _, by rw [g1]; exact M.lt _ _ _ hin⟩
    obtain ⟨ρ', u, w', q1, q2, q3, q4, q5, q6⟩ := opV_lain hσ hN L her hk e2
    show o.upon P a G Q ((execOp a.eval o).run P w)
    rw [q1]
    exact done (M.alloc C hin (C.T.calm hj (by rw [hs'])) g2 g1 q2 q3 q6) q5 q4 (by rw [hs']; exact hp)
  | read hw hk hvis e hb hp =>
    rename_i env' v hv0 h1
    rw [wanted_ok her (C.wanted_same he hw), if_pos rfl]
    left
    have hE := C.T.calm hj (by rw [hs'])
    obtain ⟨jj, hv, h2, j1, j2, p1, p2⟩ := M.read C hvis e hb (by rw [hs']; exact List.mem_cons_self ..) hE
    have hsame := read_same hk p2
    subst hsame
    rw [same] at p2
    obtain ⟨v1, v2, v3, v4, v5⟩ := M.vis C.T (fun i h => C.mS h) (C.pend_agree j1 j2) (C.T.pend_ok jj j2).2.1 rfl rfl p1
    refine opV_ok hF hK hr hσ hN (M.hr.sub v1 v2) her p2 _ _ fun ρ' u w' k1 k2 k3 => ?_
    obtain ⟨f1, f2⟩ := frame_ok M.hr v1 v2 k1 k2 (X := Beside ops sts S m k) (hS' := hS) v1.symm (fun x hx => let ⟨row, q1, q2, q3, _⟩ := v3 x hx; ⟨row, q1, q1, q2, q3⟩) v4 (fun q row x hx => v5 q row x hx)
    exact done (M.other hE (C.T.bare hj (by rw [hs'])) f1 f2) k2.rho k3 (by rw [hs']; exact hp)
  | eff hw hk hem hvis e hwt hp =>
    rename_i env' v hv hx
    rw [wanted_ok her (C.wanted_same he hw), if_pos rfl]
    left
    have hE : effAt sts j := by
      unfold effAt
      rw [hs']
      simp [Nat.testBit_or, Nat.testBit_shiftLeft]
    obtain ⟨b1, b2, _⟩ := M.base C hE hem
    obtain ⟨v1, v2, _⟩ := M.vis C.T (fun i h => C.mS h) (C.pend_agree (Nat.le_refl _) (by omega)) pok.2.1 b1 b2 hvis
    rw [same] at e
    refine opV_ok hF hK hr hσ hN (M.hr.sub v1 v2) her e _ _ fun ρ' u w' k1 k2 k3 => ?_
    obtain ⟨hS', M', hsub⟩ := M.after C hE hem hvis (by rw [hs']) (by rw [hs']) (ρ' := ρ') (w' := w') (by rw [hs']; exact k1) (by rw [hs']; exact k2)
    exact done M' hsub k3 (by rw [hs']; exact hp)

/-! ### All of them -/

def unl : List Bool → Nat
  | [] => 0
  | b :: l => (if b then 0 else 1) + unl l
theorem unl_set : ∀ (l : List Bool) (i : Nat), l[i]? = some false → unl (l.set i true) + 1 = unl l
  | [], i, h => by simp at h
  | b :: l, 0, h => by simp at h; subst h; simp [unl]; omega
  | b :: l, i + 1, h => by
    have := unl_set l i (by simpa using h)
    simp only [List.set_cons_succ, unl]; omega
theorem unl_zero : ∀ (l : List Bool), unl l = 0 → ∀ (i : Nat) b, l[i]? = some b → b = true
  | [], _, i, b, h => by simp at h
  | c :: l, hz, 0, b, h => by simp at h; subst h; cases c <;> simp [unl] at hz; rfl
  | c :: l, hz, i + 1, b, h => unl_zero l (by simp only [unl] at hz; omega) i b (by simpa using h)
theorem unl_pos : ∀ (l : List Bool), unl l ≠ 0 → ∃ i : Nat, l[i]? = some false
  | [], h => absurd rfl h
  | false :: l, _ => ⟨0, rfl⟩
  | true :: l, h => let ⟨i, hi⟩ := unl_pos l (by simpa [unl] using h); ⟨i + 1, by simpa using hi⟩
theorem unl_rep : ∀ n, unl (List.replicate n false) = n
  | 0 => rfl
  | n + 1 => by simp only [List.replicate_succ, unl, unl_rep n]; simp; omega

def lis (listed : Array Bool) : Nat → Bool := fun i => listed.getD i false
theorem lis_set {listed : Array Bool} {j : Nat} (hj : j < listed.size) : lis (listed.setIfInBounds j true) = with1 (lis listed) j := by
  funext i
  unfold lis with1
  by_cases h : i = j
  · subst h; simp [hj]
  · rw [getD_set_ne false (Ne.symm h)]; simp [h]

theorem any_ok (hF : FactsOk P σ F) (hK : KOk P σ N K) (hr : RunOk P σ N ih) (hσ : ∀ i, (σ i).oneCell' = true) (hN : N = P.globals.size) {a0 : Act} {Q : Exit → Act → World → Prop} (T : Trace P F K ih ops n0 sts) (hn0 : h0.nx ≤ n0) (fin : ∀ S a w, (∀ i, i < ops.size → S i = true) → Inv σ N ops sts ρ0 h0 w0 a0 S a w → Q .normal a w) :
    ∀ (f : Nat) (listed : Array Bool) (a : Act) (w : World), listed.size = ops.size → unl listed.toList = f → Closed ops (lis listed) → Inv σ N ops sts ρ0 h0 w0 a0 (lis listed) a w → wpAny P .any ops Q f listed a w
  | 0, listed, a, w, hsz, hu, hc, I => by
    have hall : ∀ i, i < ops.size → lis listed i = true := fun i hi => by
      have hi' : i < listed.size := by omega
      have := unl_zero _ hu i listed[i] (by simp [hi'])
      simp [lis, hi', this]
    refine ⟨List.eq_nil_iff_forall_not_mem.2 fun i hi => ?_, fin _ a w hall I⟩
    obtain ⟨h1, o, ho, _⟩ := mem_ready.1 hi
    have hi' : i < ops.size := (Array.getElem?_eq_some_iff.1 ho).1
    have := hall i hi'
    rw [lis, getD_both h1] at this; cases this
  | f + 1, listed, a, w, hsz, hu, hc, I => by
    refine ⟨fun hr0 => ?_, fun j hj => ?_⟩
    · exfalso
      obtain ⟨i, hi⟩ := unl_pos listed.toList (by omega)
      have key : ∀ i, listed.getD i true = false → False := fun i => by
        induction i using Nat.strongRecOn with
        | ind i ihi =>
          intro hi
          have hi' : i < ops.size := by
            rcases Nat.lt_or_ge i listed.size with h | h
            · omega
            · simp [h] at hi
          have ho : ops[i]? = some ops[i] := Array.getElem?_eq_getElem hi'
          have hmem : i ∈ Region.ready .any ops listed := mem_ready.2 ⟨hi, _, ho, fun e hee hb => by
            have hlt := T.edges ho e hee hb
            cases hx : listed.getD e.on false with
            | true => rfl
            | false => exact (ihi e.on hlt (getD_in (by omega) hx)).elim⟩
          rw [hr0] at hmem; cases hmem
      exact key i (by
        have hi' := (List.getElem?_eq_some_iff.1 hi).1
        simp only [Array.length_toList] at hi'
        simp only [Array.getElem?_toList] at hi
        simp [Array.getD_eq_getD_getElem?, hi])
    · obtain ⟨hj1, o, ho, hw⟩ := mem_ready.1 hj
      have hjs : j < ops.size := (Array.getElem?_eq_some_iff.1 ho).1
      have hjl : j < listed.size := by omega
      obtain ⟨m, hm, _⟩ := T.step j o ho
      have C : Comes P F K ih ops n0 sts (lis listed) j o m := ⟨T, ho, hm, hc, fun o' ho' e hee hb => by rw [ho] at ho'; cases ho'; exact hw e hee hb, getD_both hj1⟩
      have hunl : unl (listed.setIfInBounds j true).toList = f := by
        have := unl_set listed.toList j (by
          have hjt : listed[j]? = some false := by
            have := hj1
            simp only [Array.getD_eq_getD_getElem?, Array.getElem?_eq_getElem hjl, Option.getD_some] at this
            rw [Array.getElem?_eq_getElem hjl, this]
          simpa using hjt)
        simp only [Array.toList_setIfInBounds]; omega
      refine op_any hF hK hr hσ hN C hn0 I _ fun a' w' I' => ?_
      refine any_ok hF hK hr hσ hN T hn0 fin f _ a' w' (by simpa using hsz) hunl ?_ (by rw [lis_set hjl]; exact I')
      rw [lis_set hjl]
      intro i hi o' ho' e he hb
      unfold with1 at hi ⊢
      simp only [Bool.or_eq_true, decide_eq_true_eq] at hi ⊢
      rcases hi with rfl | hi
      · rw [ho] at ho'; cases ho'; exact .inr (hw e he hb)
      · exact .inr (hc i hi o' ho' e he hb)

theorem draw_ok (hF : FactsOk P σ F) (hK : KOk P σ N K) (hr : RunOk P σ N ih) (hσ : ∀ i, (σ i).oneCell' = true) (hN : N = P.globals.size) : DrawOk P σ N F K ih := by
  intro id ops env h k r ρ a w e hh he
  obtain ⟨hx, e⟩ := ite_some.1 e
  obtain ⟨hmix, htidy⟩ := both_true hx
  obtain ⟨t, nx⟩ := h
  have e : force (Nat.add nx (countA ops.toList)) (fun nx' => drawnO P F K ih ops.toList ops.toList (ancs ops.toList []) 0 env ⟨t, nx'⟩ nx [] 0 0 [] [] k) = some r := e
  rw [force_eq] at e
  obtain ⟨sts, s0, s1, hE, s2, s3⟩ := drawnO_trace ops.toList (ancs ops.toList []) 0 ⟨env, ⟨t, Nat.add nx (countA ops.toList)⟩, nx, [], 0, 0, [], []⟩ e
  have T : Trace P F K ih ops nx sts := ⟨by rw [s0]; exact ⟨rfl, rfl, rfl, rfl, rfl, rfl, rfl⟩, fun j o ho => by
    obtain ⟨m, hm, st⟩ := s1 j o (by simpa using ho)
    exact ⟨m, hm, by rw [Nat.zero_add] at st; exact st⟩, htidy⟩
  have hlen : ops.toList.length = ops.size := by simp
  rw [hlen] at s2 s3
  have pn := T.pend_ok ops.size (Nat.le_refl _)
  have hfalse : ∀ i, lis (Array.replicate ops.size false) i = false := fun i => getD_replicate_false _ _
  refine wp_region_any hmix (any_ok (ρ0 := ρ) (h0 := ⟨t, nx⟩) (w0 := w) (a0 := a) hF hK hr hσ hN T (Nat.le_refl _) (fun S a' w' hall I => ?_) ops.size _ a _ (by simp) (by simpa using unl_rep ops.size) (fun i hi => by rw [hfalse] at hi; cases hi) ?_)
  · obtain ⟨kk, ρ', hS, envS, M, g1, g2, g3⟩ := I
    refine ⟨rfl, ρ', (sts ops.size).env, hE, s3, ?_⟩
    obtain ⟨q1, q2⟩ := T.quiet M.le (Nat.le_refl _) fun e h1 h2 h3 => by
      have := (M.eff e h2 h3).1 (hall e h2); omega
    rw [rest_visible (m := 2 ^ ops.size - 1) fun i r row hi => by
      rw [Nat.testBit_two_pow_sub_one]; exact decide_eq_true (pn.1 i r row hi).1] at s2
    rw [q1, q2] at s2
    obtain ⟨k1, k2, k3⟩ := visible_spec pn.2.1 s2
    have hbit : ∀ i r row, (i, r, row) ∈ (sts ops.size).pend → (2 ^ ops.size - 1).testBit i = true ∧ S i = true := fun i r row hi => ⟨by rw [Nat.testBit_two_pow_sub_one]; exact decide_eq_true (pn.1 i r row hi).1, hall i (pn.1 i r row hi).1⟩
    have hget : ∀ q, hE.get q = hS.get q := fun q => by
      by_cases hin : ∃ i row, (i, q, row) ∈ (sts ops.size).pend ∧ (sts kk).ab.testBit i = false
      · obtain ⟨i, row, p1, p2⟩ := hin
        rw [k2 i q row p1 (hbit i q row p1).1 p2, M.row i q row p1 (hbit i q row p1).2 p2]
      · rw [k3 q fun i row p1 _ p2 => hin ⟨i, row, p1, p2⟩, M.rest q fun i row p1 _ p2 => hin ⟨i, row, p1, p2⟩]
    have hnx : hE.nx = hS.nx := by rw [k1, M.nx]
    refine ⟨M.hr.congr hnx hget, M.st.congr hnx hget, g2.congr fun t => ?_, g3⟩
    rw [g1]
    have : ∀ i, i ≤ ops.size → vAt ops sts S t i = getT (sts i).env t := fun i => by
      induction i with
      | zero => intro _; rfl
      | succ i ihi =>
        intro hi
        unfold vAt
        have hlt : i < ops.size := by omega
        rw [hall i hlt, ihi (by omega), Array.getElem?_eq_getElem hlt]
        obtain ⟨m', _, st⟩ := T.step i ops[i] (Array.getElem?_eq_getElem hlt)
        have hd : ∃ v, putD (ops[i]).dst v (sts i).env = some (sts (i + 1)).env := by
          generalize sts (i + 1) = s' at st
          cases st <;> exact ⟨_, ‹_›⟩
        obtain ⟨v, hv⟩ := hd
        by_cases hdt : (ops[i]).dst = some t
        · rw [if_pos ⟨rfl, hdt⟩]
        · rw [if_neg (fun h => hdt h.2), (putD_some hv).2, if_neg hdt]
    exact (this ops.size (Nat.le_refl _)).symm
  · have hge : ∀ i r row, (i, r, row) ∈ (sts ops.size).pend → nx ≤ r := fun i r row h => (pn.1 i r row h).2.1
    have hh2 : HR σ N ρ ⟨t, Nat.add nx (countA ops.toList)⟩ { w with drawn := w.drawn + 1 } :=
      { live := fun r row e => let ⟨p, k1, k2⟩ := hh.live r row e; ⟨p, k1, k2.mono (Sub.refl _) rfl⟩, new := fun r hr' => hh.new r (Nat.le_trans (Nat.le_add_right _ _) hr'), sep := hh.sep, old := hh.old, rels := hh.rels, glob := hh.glob }
    have e0 : (sts 0).hc = ⟨t, Nat.add nx (countA ops.toList)⟩ := by rw [s0]
    have a0 : (sts 0).ab = 0 := by rw [s0]
    refine ⟨0, ρ, ⟨t, Nat.add nx (countA ops.toList)⟩, env, { le := Nat.zero_le _, eff := fun e h1 h2 => ?_, hr := hh2, nx := by rw [e0], lt := fun i r row h => ?_, row := fun i r row h1 h2 => ?_, rest := fun q _ => by rw [e0], gone := fun i r row h1 _ => ?_, rel := fun i r row h1 _ q row0 hq hc => ?_, free := fun i r row h1 _ => hh.new r (hge i r row h1), abs := fun i h => by rw [a0] at h; simp at h, st := ?_ }, fun t' => ?_, he, rfl⟩
    · rw [hfalse]; exact ⟨fun h => (by cases h), fun h => absurd h (Nat.not_lt_zero _)⟩
    · have h1 := (pn.1 i r row h).2.2.1
      have h2 := pn.2.2.2
      show r < nx + countA ops.toList
      omega
    · rw [hfalse] at h2; cases h2
    · rw [e0]
      cases hc : (⟨t, Nat.add nx (countA ops.toList)⟩ : H).get r with
      | none => rfl
      | some row0 =>
        exfalso
        obtain ⟨p, k1, _⟩ := hh.live r row0 hc
        rw [hh.new r (hge i r row h1)] at k1; cases k1
    · rw [e0] at hq
      exact hh.rels q r row0 hq hc (hh.new r (hge i r row h1))
    · exact ⟨rfl, rfl, rfl, Nat.le_refl _, fun _ _ _ => rfl, Sub.refl _, fun _ _ h => h, Nat.le_add_right _ _, fun q row p h1 h2 => .inl ⟨row, h1, h2⟩, fun q row h1 => .inl ⟨row, h1⟩, fun q row x h1 h2 => .inr (.inr ⟨q, row, h1, h2⟩), fun _ _ h => h⟩
    · have : ∀ i, vAt ops sts (lis (Array.replicate ops.size false)) t' i = getT env t' := fun i => by
        induction i with
        | zero => show getT (sts 0).env t' = _; rw [s0]
        | succ i ihi => unfold vAt; rw [hfalse, if_neg (by simp), ihi]
      rw [this]

/-- A run is sound. -/
theorem runs_ok (hF : FactsOk P σ F) (hK : KOk P σ N K) (hσ : ∀ i, (σ i).oneCell' = true) (hN : N = P.globals.size) (n : Nat) : RunOk P σ N (run P F K n) := run_ok hF hK (fun _ hr => draw_ok hF hK hr hσ hN) hσ hN n
end
end Go.Exe
