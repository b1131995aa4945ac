/- Control: loops over maps in any order, a select with a default. -/
import Derived.Test.YtimnljbphmndoaaGreatDoorExF4
import Derived.Test.YtimnljbphmndoaaGreatDoorExM
import Derived.Conc.LoneSelect
namespace Go.Exe
open Go

section
variable {P : Program} {σ : Sig} {N : Nat} {ρ : Rho} {h h' : H} {w w' : World} {o : Oper} {a : Act} {v : AV}

theorem onBool_tE {R : Type} {x : Option AV} {p q : Option R} {r : R} (e : onBool x p q = some r) : ∃ b, x = some (.bool b) ∧ (match b with | true => p | false => q) = some r := by
  obtain ⟨b, h1, h2⟩ := onBool_t e
  refine ⟨b, h1, ?_⟩
  cases b <;> exact h2

theorem sameL_eq {f : AV → AV → Bool} (hf : ∀ a b, f a b = true → a = b) : ∀ {l m : List AV}, sameL f l m = true → l = m
  | [], [], _ => rfl
  | [], _ :: _, h => nomatch h
  | _ :: _, [], h => nomatch h
  | a :: l, b :: m, h => by
    have h : Bool.rec (motive := fun _ => Bool) false (sameL f l m) (f a b) = true := h
    cases hab : f a b with
    | false => rw [hab] at h; cases h
    | true => rw [hab] at h; rw [hf a b hab, sameL_eq hf h]

theorem sameA_eq : ∀ (n : Nat) (a b : AV), sameA n a b = true → a = b
  | 0, _, _, h => nomatch h
  | n + 1, a, b, h => by
    have ih := sameA_eq n
    have be : ∀ {x y : Nat}, Nat.beq x y = true → x = y := Nat.eq_of_beq_eq_true
    unfold sameA at h
    split at h
    case h_1 => obtain ⟨h1, h2⟩ := both_true h; rw [ieq_eq] at h2; rw [kEq_eq h1, of_decide_eq_true h2]
    case h_2 x y => cases x <;> cases y <;> first | rfl | cases h
    case h_3 n' x m y =>
      cases hnm : Nat.beq n' m with
      | false => unfold strEq at h; rw [hnm] at h; cases h
      | true => unfold strEq at h; rw [hnm] at h; rw [be hnm, be h]
    case h_4 => obtain ⟨h1, h2⟩ := both_true h; rw [be h1, be h2]
    case h_5 => rfl
    case h_6 =>
      obtain ⟨h1, h2⟩ := both_true h
      obtain ⟨h3, h4⟩ := both_true h2
      obtain ⟨h5, h6⟩ := both_true h4
      obtain ⟨h7, h8⟩ := both_true h6
      rw [be h1, be h3, be h5, be h7, be h8]
    case h_7 => rfl
    case h_8 => rw [be h]
    case h_9 => rfl
    case h_10 => rfl
    case h_11 =>
      obtain ⟨h1, h2⟩ := both_true h
      obtain ⟨h3, h4⟩ := both_true h2
      rw [be h1, sameL_eq ih h3, sameL_eq ih h4]
    case h_12 => obtain ⟨h1, h2⟩ := both_true h; rw [be h1, ih _ _ h2]
    case h_13 => rfl
    case h_14 => rw [sameL_eq ih h]
    case h_15 => rw [sameL_eq ih h]
    case h_16 => rw [be h]
    case h_17 => rfl
    case h_18 => cases h

theorem memB_ok (n : Nat) : ∀ {l : List (AV × AV × Nat)} {m : List MapEntry}, MR σ ρ l m → memB n l = false → n ∉ m.map (·.born)
  | [], _, hm, _ => by cases hm; simp
  | (k, c, b) :: l, _, ⟨x, r, h1, h2, h3, h4, h5⟩, h => by
    subst h1
    have h4 : x.born = b := h4
    have h : Bool.rec (motive := fun _ => Bool) (memB n l) true (Nat.beq b n) = false := h
    rw [beq_eq] at h
    by_cases hb : b = n
    · rw [decide_eq_true hb] at h; cases h
    · rw [decide_eq_false hb] at h
      intro hc
      rcases List.mem_cons.1 hc with hc | hc
      · exact hb (by rw [← h4]; exact hc.symm)
      · exact memB_ok n h5 h hc
theorem bornOk_ok {c : Nat} : ∀ {l : List (AV × AV × Nat)} {m : List MapEntry}, MR σ ρ l m → bornOk c l = true → (∀ x ∈ m, x.born < c) ∧ (m.map (·.born)).Nodup
  | [], _, hm, _ => by cases hm; exact ⟨(fun x h => by cases h), List.nodup_nil⟩
  | (k, q, b) :: l, _, ⟨x, r, h1, h2, h3, h4, h5⟩, h => by
    subst h1
    have h4 : x.born = b := h4
    obtain ⟨g1, g2⟩ := both_true (show both (Nat.ble (Nat.succ b) c) (both (not (memB b l)) (bornOk c l)) = true from h)
    obtain ⟨g2, g3⟩ := both_true g2
    obtain ⟨i1, i2⟩ := bornOk_ok h5 g3
    have g1 := Nat.le_of_ble_eq_true g1
    have g2 : memB b l = false := by simpa using g2
    refine ⟨fun y hy => ?_, List.nodup_cons.2 ⟨?_, i2⟩⟩
    · rcases List.mem_cons.1 hy with rfl | hy
      · omega
      · exact i1 y hy
    · show x.born ∉ _
      rw [h4]; exact memB_ok b h5 g2

/-! ### Regions and code that lead on -/

theorem regionE_ok {F : Facts} (hF : FactsOk P σ F) {K : Known} (hK : KOk P σ N K) {ih : Run} (hr : RunOk P σ N ih) (hσ : ∀ i, (σ i).oneCell' = true) (hN : N = P.globals.size) {ops : Array Oper} {env' : Env} {ρ0 : Rho} {h0 : H} {w0 : World} {a0 : Act} :
    ∀ (l : List Oper) (env : Env) (h : H) (ρ : Rho) (a : Act) (w : World), regionE P F K ih ops.toList l env h = some (env', h') → HR σ N ρ h w → St ρ0 h0 w0 ρ h w → ER σ ρ env a.tmps → a.defers = a0.defers →
      wpList P ops (fun e a' w' => e = .normal ∧ ∃ ρ', HR σ N ρ' h' w' ∧ St ρ0 h0 w0 ρ' h' w' ∧ ER σ ρ' env' a'.tmps ∧ a'.defers = a0.defers) l a w
  | [], env, h, ρ, a, w, e, hh, st, he, hd => by cases e; exact ⟨rfl, ρ, hh, st, he, hd⟩
  | o :: l, env, h, ρ, a, w, e, hh, st, he, hd => by
    obtain ⟨env1, h1, e1, e2⟩ := bnd2_some.1 (show bnd2 (oper P F K ih ops.toList o env h) (fun env h => regionE P F K ih ops.toList l env h) = some (env', h') from e)
    obtain ⟨b, e3, e4⟩ := bnd_some.1 e1
    have hw := wanted_ok he e3
    unfold wpList
    cases b with
    | false =>
      rw [hw, if_neg (by simp)]
      obtain ⟨env2, e5, e6⟩ := bnd_some.1 (show bnd (putD o.dst .und env) (fun env => some (env, h)) = some (env1, h1) from e4)
      cases e6
      exact regionE_ok hF hK hr hσ hN l env1 h ρ _ w e2 hh st (he.put (x := .und) rfl e5) (by rw [put_defers]; exact hd)
    | true =>
      rw [hw, if_pos rfl]
      obtain ⟨v, h2, e5, e6⟩ := bnd2_some.1 (show bnd2 (opV P F K ih o.op env h) (fun v h => bnd (putD o.dst v env) fun env => some (env, h)) = some (env1, h1) from e4)
      obtain ⟨env2, e7, e8⟩ := bnd_some.1 e6
      cases e8
      left
      exact opV_ok hF hK hr hσ hN hh he e5 _ _ fun ρ' u w' k1 k2 k3 => regionE_ok hF hK hr hσ hN l env1 h1 ρ' _ w' e2 k1 (st.trans k2) ((he.mono k2.rho).put k3 e7) (by rw [put_defers]; exact hd)

/-- Code that leads on to what stands behind it. -/
def Leads (P : Program) (σ : Sig) (N : Nat) (c : Code) (ρ : Rho) (h : H) (w : World) (a : Act) (env' : Env) (h' : H) : Prop :=
  ∀ (T : List Item) (b : Frame) (cs : List Frame), ∃ a' w' ρ', Steps P (lone (b.at a (.code c :: T)) cs w) (lone (b.at a' T) cs w') ∧ HR σ N ρ' h' w' ∧ St ρ h w ρ' h' w' ∧ ER σ ρ' env' a'.tmps ∧ a'.defers = []

theorem Leads.region {ρ : Rho} {c : Code} {env' : Env} (hd : a.defers = []) (g : c.wp P (fun e a' w' => e = .normal ∧ ∃ ρ', HR σ N ρ' h' w' ∧ St ρ h w ρ' h' w' ∧ ER σ ρ' env' a'.tmps ∧ a'.defers = a.defers) a w) : Leads P σ N c ρ h w a env' h' := by
  intro T b cs
  obtain ⟨e, a1, w1, ⟨rfl, ρ1, k2, k3, k4, k5⟩, harr⟩ := g b T cs
  exact ⟨a1, w1, ρ1, harr, k2, k3, k4, k5.trans hd⟩

/-- The same, where the first step was taken by hand. -/
def Leads' (P : Program) (σ : Sig) (N : Nat) (c : Code) (ρ : Rho) (h : H) (w0 : World) (a : Act) (w : World) (env' : Env) (h' : H) : Prop :=
  ∀ (T : List Item) (b : Frame) (cs : List Frame), ∃ a' w' ρ', Steps P (lone (b.at a (.code c :: T)) cs w) (lone (b.at a' T) cs w') ∧ HR σ N ρ' h' w' ∧ St ρ h w0 ρ' h' w' ∧ ER σ ρ' env' a'.tmps ∧ a'.defers = []
theorem Leads'.region {ρ : Rho} {w0 : World} {c : Code} {env' : Env} (hd : a.defers = []) (g : c.wp P (fun e a' w' => e = .normal ∧ ∃ ρ', HR σ N ρ' h' w' ∧ St ρ h w0 ρ' h' w' ∧ ER σ ρ' env' a'.tmps ∧ a'.defers = a.defers) a w) : Leads' P σ N c ρ h w0 a w env' h' := by
  intro T b cs
  obtain ⟨e, a1, w1, ⟨rfl, ρ1, k2, k3, k4, k5⟩, harr⟩ := g b T cs
  exact ⟨a1, w1, ρ1, harr, k2, k3, k4, k5.trans hd⟩

theorem runB_ok {F : Facts} (hF : FactsOk P σ F) {K : Known} (hK : KOk P σ N K) {ih : Run} (hr : RunOk P σ N ih) (hσ : ∀ i, (σ i).oneCell' = true) (hN : N = P.globals.size) : ∀ (n : Nat) (c : Code) {env env' : Env} {h h' : H}, runB P F K ih n c env h = some (env', h') → ∀ {ρ : Rho} {a : Act} {w : World}, HR σ N ρ h w → ER σ ρ env a.tmps → a.defers = [] → Leads P σ N c ρ h w a env' h'
  | 0, _, _, _, _, _, e => nomatch e
  | n + 1, c, env, env', h, h', e => by
    rename_i ρ a w
    intro hh he hd
    match c, e with
    | .skip, e => cases e; exact fun T b cs => ⟨a, w, ρ, .one step_skip, hh, St.refl _ _ _, he, hd⟩
    | .seq x y, e =>
      obtain ⟨env1, h1, e1, e2⟩ := bnd2_some.1 (show bnd2 (runB P F K ih n x env h) (fun env h => runB P F K ih n y env h) = some (env', h') from e)
      intro T b cs
      obtain ⟨a1, w1, ρ1, s1, k1, k2, k3, k4⟩ := runB_ok hF hK hr hσ hN n x e1 hh he hd (.code y :: T) b cs
      obtain ⟨a2, w2, ρ2, s2, q1, q2, q3, q4⟩ := runB_ok hF hK hr hσ hN n y e2 k1 k3 k4 T b cs
      exact ⟨a2, w2, ρ2, .head step_seq (s1.trans s2), q1, k2.trans q2, q3, q4⟩
    | .cond c x y, e =>
      obtain ⟨t, h1, h2⟩ := onBool_tE (show onBool (opd P c env) (runB P F K ih n x env h) (runB P F K ih n y env h) = some (env', h') from e)
      have hv : a.eval c = .bool t := opd_ok (fun g hgl => hh.glob g (hN ▸ hgl)) he h1
      intro T b cs
      cases t with
      | true =>
        obtain ⟨a1, w1, ρ1, s1, k⟩ := runB_ok hF hK hr hσ hN n x h2 hh he hd T b cs
        exact ⟨a1, w1, ρ1, .head (step_cond hv) s1, k⟩
      | false =>
        obtain ⟨a1, w1, ρ1, s1, k⟩ := runB_ok hF hK hr hσ hN n y h2 hh he hd T b cs
        exact ⟨a1, w1, ρ1, .head (step_cond hv) s1, k⟩
    | .block id x, e =>
      intro T b cs
      obtain ⟨a1, w1, ρ1, s1, k⟩ := runB_ok hF hK hr hσ hN n x (show runB P F K ih n x env h = some (env', h') from e) hh he hd (.inBlock id :: T) b cs
      exact ⟨a1, w1, ρ1, .head step_block (s1.trans (.one step_inBlock)), k⟩
    | .region id ops false, e => exact Leads.region hd (wp_region_list (regionE_ok hF hK hr hσ hN ops.toList env h ρ a w e hh (St.refl _ _ _) he rfl))
    | .region id ops true, e => exact nomatch e
    | .label _, e => exact nomatch e
    | .loop _, e => exact nomatch e
    | .scope _, e => exact nomatch e
    | .exit _, e => exact nomatch e
    | .goto _, e => exact nomatch e
    | .ret, e => exact nomatch e
    | .refuse _, e => exact nomatch e
    | .rangeFunc .., e => exact nomatch e

/-! ### Loops over maps -/

theorem loopOf_some {b : Code} {M : MapLoop} (e : loopOf b = some M) : ∃ i1 i2 i3, b = .seq (.region i1 M.ops1 false) (.seq (.cond M.c .skip (.exit M.e)) M.body) ∧ M.body = .block i2 (.seq (.region i3 M.ops3 false) M.rest) := by
  unfold loopOf at e
  split at e
  · cases e; exact ⟨_, _, _, rfl, rfl⟩
  · cases e
theorem nextOf_some {o : Oper} {t i : Nat} (e : nextOf o = some (t, i)) : o.dst = some t ∧ o.op = .next (.tmp i) false ∧ o.guard = none := by
  unfold nextOf at e
  split at e
  · cases e; exact ⟨rfl, rfl, rfl⟩
  · cases e
theorem entryOf_some {o : Oper} {t i : Nat} (e : entryOf o = some (t, i)) : o.dst = some t ∧ o.op = .entry (.tmp i) ∧ o.guard = none := by
  unfold entryOf at e
  split at e
  · cases e; exact ⟨rfl, rfl, rfl⟩
  · cases e
theorem uncons_some {α : Type} {l : List α} {a : α} {r : List α} (e : uncons l = some (a, r)) : l = a :: r := by
  cases l with
  | nil => cases e
  | cons x y => cases e; rfl
theorem isPtr_some {r : Nat} {x : Option AV} (e : isPtr r x = true) : x = some (.ptr r 0) := by
  unfold isPtr at e
  split at e
  · obtain ⟨h1, h2⟩ := both_true e
    rw [Nat.eq_of_beq_eq_true h1, Nat.eq_of_beq_eq_true h2]
  · cases e
theorem wanted_plain {ops : Array Oper} (hg : o.guard = none) (a : Act) : Region.wanted o (yielded ops a.tmps) = true := by
  unfold Region.wanted; rw [hg]

theorem Tr.get_mapO {α : Type} (f : α → Option α) : ∀ (t : Tr α) (i : Nat), (t.mapO f).get i = bnd (t.get i) f
  | .leaf, _ => rfl
  | .node l v r, i => by
    show (Tr.node (l.mapO f) (bnd v f) (r.mapO f)).get i = _
    rw [Tr.get_node, Tr.get_node]
    split
    · rfl
    · split
      · exact Tr.get_mapO f l _
      · exact Tr.get_mapO f r _
theorem frz_get {q : Nat} {row : Row} (e : h.frz.get q = some row) : ∃ ty sz n t wr rel, h.get q = some (.cells ty sz n t wr rel) ∧ row = .cells ty sz n t false rel := by
  obtain ⟨t, nx⟩ := h
  have e : (t.mapO frzRow).get q = some row := e
  rw [Tr.get_mapO] at e
  obtain ⟨row0, h1, h2⟩ := bnd_some.1 e
  cases row0 with
  | cells ty sz n tr wr rel => cases h2; exact ⟨ty, sz, n, tr, wr, rel, h1, rfl⟩
  | map => cases h2
  | chan => cases h2
  | iter => cases h2
  | cap => cases h2
theorem HR.frz (hh : HR σ N ρ h w) : HR σ N ρ h.frz w := by
  have hn : h.frz.nx = h.nx := by obtain ⟨t, nx⟩ := h; rfl
  refine hh.weak hn fun q row e => ?_
  obtain ⟨ty, sz, n, t, wr, rel, h1, rfl⟩ := frz_get e
  refine ⟨_, h1, fun p ⟨cs, fz, k1, k2, k3, k4⟩ => ⟨cs, fz, k1, k2, ⟨k3.1, fun h => nomatch h⟩, k4⟩, fun h => (nomatch h), fun _ h => h, fun _ h k => absurd h k⟩
theorem frz_owns {b : Nat} : ¬ Owns ρ h.frz b := fun ⟨q, row, p, h1, h2, _⟩ => by
  obtain ⟨_, _, _, _, _, _, _, rfl⟩ := frz_get h1
  cases h2

mutual
/-- What stood under fewer rows stands under them still. -/
theorem VR.back {ρ ρ' : Rho} (s : Sub ρ ρ') : ∀ (a : AV) {u v : Value}, VR σ ρ a u → VR σ ρ' a v → VR σ ρ a v
  | .int _ _, _, _, _, k => k
  | .bool _, _, _, _, k => k
  | .str _ _, _, _, _, k => k
  | .ptr _ _, _, _, ⟨p, h1, _⟩, ⟨p', k1, k2⟩ => by
    have := s _ _ h1; rw [k1] at this; cases this
    exact ⟨_, h1, k2⟩
  | .nilp, _, _, _, k => k
  | .slc _ _ _ _ _, _, _, ⟨p, _, _, h1, _⟩, ⟨p', cap, off, k1, k2⟩ => by
    have := s _ _ h1; rw [k1] at this; cases this
    exact ⟨_, cap, off, h1, k2⟩
  | .nils, _, _, _, k => k
  | .map _, _, _, ⟨p, h1, _⟩, ⟨p', k1, k2⟩ => by
    have := s _ _ h1; rw [k1] at this; cases this
    exact ⟨_, h1, k2⟩
  | .nilm, _, _, _, k => k
  | .chan _, _, _, ⟨p, h1, _⟩, ⟨p', k1, k2⟩ => by
    have := s _ _ h1; rw [k1] at this; cases this
    exact ⟨_, h1, k2⟩
  | .nilc, _, _, _, k => k
  | .fn _ a b, _, _, ⟨_, _, _, h1, h2⟩, ⟨fs, cs, k1, k2, k3⟩ => ⟨fs, cs, k1, LR.back s a h1 k2, LR.back s b h2 k3⟩
  | .nilf, _, _, _, k => k
  | .ifc _ a, _, _, ⟨_, _, h1⟩, ⟨u, k1, k2⟩ => ⟨u, k1, VR.back s a h1 k2⟩
  | .nili, _, _, _, k => k
  | .agg l, _, _, ⟨_, _, h1, _⟩, ⟨cs, k1, k2, k3⟩ => ⟨cs, k1, LR.back s l h1 k2, k3⟩
  | .tup l, _, _, ⟨_, _, h1⟩, ⟨cs, k1, k2⟩ => ⟨cs, k1, LR.back s l h1 k2⟩
  | .sym _, _, _, _, k => k
  | .und, _, _, _, k => k
  | .top, _, _, _, k => k
  | .cel, _, _, _, k => k
theorem LR.back {ρ ρ' : Rho} (s : Sub ρ ρ') : ∀ (l : List AV) {u v : List Value}, LR σ ρ l u → LR σ ρ' l v → LR σ ρ l v
  | [], _, _, _, k => k
  | a :: l, _, _, ⟨_, _, _, h1, h2⟩, ⟨v, r, k1, k2, k3⟩ => ⟨v, r, k1, VR.back s a h1 k2, LR.back s l h2 k3⟩
end

theorem weakA_ok {a b : AV} (e : weakA a b = true) : b = .top ∨ a = b := by
  unfold weakA at e
  split at e
  · exact .inl rfl
  · exact .inr (sameA_eq 4 _ _ e)
theorem sameLw_ok : ∀ {l m : List AV}, sameL weakA l m = true → l.length = m.length ∧ ∀ (i : Nat) (b : AV), m[i]? = some b → ∃ a : AV, l[i]? = some a ∧ (b = AV.top ∨ a = b)
  | [], [], _ => ⟨rfl, fun i b h => by simp at h⟩
  | [], _ :: _, h => nomatch h
  | _ :: _, [], h => nomatch h
  | a :: l, b :: m, h => by
    have h : Bool.rec (motive := fun _ => Bool) false (sameL weakA l m) (weakA a b) = true := h
    cases hab : weakA a b with
    | false => rw [hab] at h; cases h
    | true =>
      rw [hab] at h
      obtain ⟨k1, k2⟩ := sameLw_ok h
      refine ⟨by simp [k1], fun i c hc => ?_⟩
      cases i with
      | zero => simp at hc; subst hc; exact ⟨a, rfl, weakA_ok hab⟩
      | succ i => exact k2 i c (by simpa using hc)
theorem weakE_ok : ∀ {e f : Env}, weakE e f = true → ∀ (i : Nat) (m : List AV), f[i]? = some m → ∃ l, e[i]? = some l ∧ sameL weakA l m = true
  | [], [], _, i, m, h => by simp at h
  | [], _ :: _, h, _, _, _ => nomatch h
  | _ :: _, [], h, _, _, _ => nomatch h
  | a :: l, b :: f, h, i, m, hm => by
    obtain ⟨h1, h2⟩ := both_true (show both (sameL weakA a b) (weakE.sameL' l f) = true from h)
    cases i with
    | zero => simp at hm; subst hm; exact ⟨a, rfl, h1⟩
    | succ i => exact weakE_ok (e := l) (f := f) h2 i m (by simpa using hm)
theorem weakE_get {e f : Env} (h : weakE e f = true) {t : Nat} {b : AV} (hb : getT f t = some b) : ∃ a, getT e t = some a ∧ (b = .top ∨ a = b) := by
  obtain ⟨m, h1, h2⟩ := bnd_some.1 (show bnd (nth f (Nat.div t 8)) (fun l => nth l (Nat.mod t 8)) = some b from hb)
  rw [nth_eq] at h1 h2
  obtain ⟨l, k1, k2⟩ := weakE_ok h _ m h1
  obtain ⟨_, k3⟩ := sameLw_ok k2
  obtain ⟨a, k4, k5⟩ := k3 _ b h2
  refine ⟨a, ?_, k5⟩
  show bnd (nth e (Nat.div t 8)) (fun l => nth l (Nat.mod t 8)) = some a
  rw [nth_eq, k1]
  show nth l (Nat.mod t 8) = some a
  rw [nth_eq]; exact k4
/-- Slots of which less is known. -/
theorem ER.weak {ρ ρ' : Rho} {e f : Env} {tmps tmps0 : Array Value} (s : Sub ρ ρ') (h : weakE e f = true) (h0 : ER σ ρ f tmps0) (he : ER σ ρ' e tmps) : ER σ ρ f tmps := fun t b hb => by
  obtain ⟨a, k1, k2⟩ := weakE_get h hb
  obtain ⟨k3, k4⟩ := he t a k1
  refine ⟨k3, ?_⟩
  rcases k2 with rfl | rfl
  · trivial
  · exact VR.back s _ (h0 t _ hb).2 k4
theorem ER.weak0 {e f : Env} {tmps : Array Value} (h : weakE e f = true) (he : ER σ ρ e tmps) : ER σ ρ f tmps := fun t b hb => by
  obtain ⟨a, k1, k2⟩ := weakE_get h hb
  obtain ⟨k3, k4⟩ := he t a k1
  refine ⟨k3, ?_⟩
  rcases k2 with rfl | rfl
  · trivial
  · exact k4

theorem MR.mem : ∀ {l : List (AV × AV × Nat)} {m : List MapEntry}, MR σ ρ l m → ∀ x, x ∈ m → ∃ k q b, (k, q, b) ∈ l ∧ VR σ ρ k x.key ∧ VR σ ρ q x.val ∧ x.born = b
  | [], _, hm, x, hx => by cases hm; cases hx
  | (k, q, b) :: l, _, ⟨y, r, h1, h2, h3, h4, h5⟩, x, hx => by
    subst h1
    rcases List.mem_cons.1 hx with rfl | hx
    · exact ⟨k, q, b, List.mem_cons_self .., h2, h3, h4⟩
    · obtain ⟨k', q', b', g1, g2⟩ := MR.mem h5 x hx
      exact ⟨k', q', b', List.mem_cons_of_mem _ g1, g2⟩

theorem allRounds_mem {F : Facts} {K : Known} {ih : Run} {M : MapLoop} {r i t1 t3 : Nat} {l1 l3 : List Oper} {hF : H} {env : Env} : ∀ {L : List (AV × AV × Nat)}, allRounds P F K ih M r i t1 t3 l1 l3 hF env L = true → ∀ e, e ∈ L → ∃ env', mapRound P F K ih M r i t1 t3 l1 l3 hF env e = some env' ∧ weakE env' env = true
  | [], _, e, he => by cases he
  | x :: L, h, e, he => by
    have h : Option.rec (motive := fun _ => Bool) false (fun env' => both (weakE env' env) (allRounds P F K ih M r i t1 t3 l1 l3 hF env L)) (mapRound P F K ih M r i t1 t3 l1 l3 hF env x) = true := h
    cases hx : mapRound P F K ih M r i t1 t3 l1 l3 hF env x with
    | none => rw [hx] at h; cases h
    | some env' =>
      rw [hx] at h
      obtain ⟨k1, k2⟩ := both_true (show both (weakE env' env) (allRounds P F K ih M r i t1 t3 l1 l3 hF env L) = true from h)
      rcases List.mem_cons.1 he with rfl | he
      · exact ⟨env', hx, k1⟩
      · exact allRounds_mem k2 e he

theorem left_push {es : Array MapEntry} {S : Array Nat} {e : MapEntry} (he : e ∈ (leftOf es S).toList) : (leftOf es (S.push e.born)).size < (leftOf es S).size := by
  have h1 : (leftOf es (S.push e.born)).toList = (leftOf es S).toList.filter fun x => decide (x.born ≠ e.born) := by
    unfold leftOf
    rw [Array.toList_filter, Array.toList_filter, List.filter_filter]
    congr 1
    funext x
    rw [Bool.eq_iff_iff]
    simp [and_comm]
  rw [← Array.length_toList, ← Array.length_toList, h1]
  exact List.length_filter_lt_length_iff_exists.2 ⟨e, he, by simp⟩

/-- An iterator's block turns: what does not stand there stands. -/
theorem HR.beside {p : Pl} (hh : HR σ N ρ h w) (ne : ∀ q row p', h.get q = some row → ρ q = some p' → p'.b ≠ p.b) (hp : ∀ b, b ≠ p.b → w'.heap[b]? = w.heap[b]?) : HR σ N ρ h w' :=
  { live := fun r row e => let ⟨q, k1, k2⟩ := hh.live r row e; ⟨q, k1, k2.mono (Sub.refl _) (hp _ (ne r row q e k1))⟩, new := hh.new, sep := hh.sep, old := hh.old, rels := hh.rels, glob := hh.glob }

theorem setBlock_at {b : Nat} {x : Obj} (hb : w.heap[b]?.isSome = true) : (ChangeMaps.setBlock w b x).heap[b]? = some x ∧ (∀ i, i ≠ b → (ChangeMaps.setBlock w b x).heap[i]? = w.heap[i]?) ∧ (ChangeMaps.setBlock w b x).heap.size = w.heap.size := by
  obtain ⟨y, hy⟩ := Option.isSome_iff_exists.1 hb
  exact ⟨(MapKept.heap_set (o' := x) hy).1, (MapKept.heap_set (o' := x) hy).2, by simp [ChangeMaps.setBlock]⟩

theorem wp_val {next : Act → World → Prop} {Q : Exit → Act → World → Prop} {u : Value} (e : (execOp a.eval o).run P w = .ok (.value u) w') (h : next (a.put o.dst u) w') : o.wp P a w next Q := by
  unfold Oper.wp
  rw [e]; exact h
theorem eval_tmp {t : Nat} (a : Act) : a.eval (.tmp t) = a.tmps.getD t undef := rfl

/-- A loop over a map, from any place on. -/
theorem mapRun_go {F : Facts} (hF : FactsOk P σ F) {K : Known} (hK : KOk P σ N K) {ih : Run} (hr : RunOk P σ N ih) (hσ : ∀ i, (σ i).oneCell' = true) (hN : N = P.globals.size)
    {fn : Func} {bd : Code} {k k' : List Item} {M : MapLoop} {o1 o3 : Oper} {i t1 t3 r since c : Nat} {l1 l3 : List Oper} {seen : List Nat} {l : List (AV × AV × Nat)} {env0 envx envx' : Env} {hX hx : H} {p pm : Pl} {es : Array MapEntry} {w0 : World}
    (hM : loopOf bd = some M) (h1 : M.ops1.toList = o1 :: l1) (hn : nextOf o1 = some (t1, i)) (h3 : M.ops3.toList = o3 :: l3) (hen : entryOf o3 = some (t3, i))
    (hp : ρ r = some p) (hp0 : p.base = 0) (hne : p.b ≠ pm.b) (hown : Owns ρ h p.b)
    (ne : ∀ q row p', hX.get q = some row → ρ q = some p' → p'.b ≠ p.b)
    (hmr : MR σ ρ l es.toList) (hall : ∀ x ∈ es.toList, x.born < since) (hnd : (es.toList.map (·.born)).Nodup) (hsc : since ≤ c)
    (rounds : allRounds P F K ih M r i t1 t3 l1 l3 hX.frz env0 (leftE seen l) = true) (hptr : getT env0 i = some (.ptr r 0))
    (ex1 : setT env0 t1 (.tup [.bool false]) = some envx) (ex2 : regionE P F K ih M.ops1.toList l1 envx hX = some (envx', hx)) (ex3 : opd P M.c envx' = some (.bool false)) (ex4 : exitTo M.e (.code M.body :: .inLoop bd :: k) = some k') (ex5 : ih fn k' envx' hx = some (v, h')) (bfr : Frame) (cs : List Frame) :
    ∀ (n : Nat) (S : Array Nat) (last : Nat) (a : Act) (w : World), (leftOf es S).size < n → (∀ b, b ∈ seen → b ∈ S) → since ≤ last → w.heap[p.b]? = some (.mapIter (some pm.b) since S last) → w.heap[pm.b]? = some (.map es c) → HR σ N ρ hX w → St ρ h w0 ρ hX w → ER σ ρ env0 a.tmps → a.defers = [] →
      ∃ a' w' ρ' T' u, Steps P (lone (bfr.at a (.code bd :: .inLoop bd :: k)) cs w) (lone { bfr.at a' T' with mode := .returning } cs w') ∧ a'.defers = [] ∧ (results fn a'.tmps).run P w' = .ok u w' ∧ HR σ N ρ' h' w' ∧ St ρ h w0 ρ' h' w' ∧ VR σ ρ' v u
  | 0, _, _, _, _, hs, _, _, _, _, _, _, _, _ => absurd hs (Nat.not_lt_zero _)
  | n + 1, S, last, a, w, hs, hseen, hlast, hit, hmap, hh, st, he, hd => by
    obtain ⟨i1, i2, i3, hbd, hbody⟩ := loopOf_some hM
    obtain ⟨n1, n2, n3⟩ := nextOf_some hn
    obtain ⟨e1, e2, e3⟩ := entryOf_some hen
    have hiv : a.eval (.tmp i) = .pointer (some ⟨p.b, 0, none⟩) := by
      obtain ⟨_, p', k1, k2⟩ := he i _ hptr
      rw [hp] at k1; cases k1
      rw [eval_tmp, k2, hp0]
    have hexec : ∀ {u : Value} {w' : World}, (Instr.next (.pointer (some ⟨p.b, 0, none⟩)) false o1.type).run P w = .ok u w' → (execOp a.eval o1).run P w = .ok (.value u) w' := fun {u w'} e => by
      simp only [execOp, n2]
      rw [hiv, Sem.run_bind, e]; rfl
    have first : ∀ {u : Value} {w' : World} {x : AV} {env1 env2 : Env} {hA h2 : H}, (execOp a.eval o1).run P w = .ok (.value u) w' → VR σ ρ x u → setT env0 t1 x = some env1 → HR σ N ρ hA w' → regionE P F K ih M.ops1.toList l1 env1 hA = some (env2, h2) →
        ∃ a2 w2 ρ2, Steps P (lone (bfr.at a (.code bd :: .inLoop bd :: k)) cs w) (lone (bfr.at a2 (.code (.cond M.c .skip (.exit M.e)) :: .code M.body :: .inLoop bd :: k)) cs w2) ∧ HR σ N ρ2 h2 w2 ∧ St ρ hA w' ρ2 h2 w2 ∧ ER σ ρ2 env2 a2.tmps ∧ a2.defers = [] := fun {u w' x env1 env2 hA h2} g1 g2 g3 g4 g5 => by
      have her := he.put (d := some t1) g2 g3
      have hl : Leads' P σ N (.region i1 M.ops1 false) ρ hA w' a w env2 h2 := Leads'.region hd (wp_region_list (by
        rw [h1]
        unfold wpList
        rw [wanted_plain n3 a, if_pos rfl]
        left
        refine wp_val g1 ?_
        rw [n1]
        exact regionE_ok hF hK hr hσ hN l1 env1 hA ρ _ w' g5 g4 (St.refl _ _ _) her (put_defers ..)))
      obtain ⟨a2, w2, ρ2, s1, q⟩ := hl (.code (.seq (.cond M.c .skip (.exit M.e)) M.body) :: .inLoop bd :: k) bfr cs
      refine ⟨a2, w2, ρ2, ?_, q⟩
      rw [show (Item.code bd :: Item.inLoop bd :: k) = .code (.seq (.region i1 M.ops1 false) (.seq (.cond M.c .skip (.exit M.e)) M.body)) :: .inLoop bd :: k by rw [← hbd]]
      exact .head step_seq (s1.trans (.one step_seq))
    rcases run_next_at (P := P) w o1.type p.b pm.b since last S es c hit hmap hall hlast with ⟨f1, f2⟩ | ⟨x, f1, w1, f2, f3⟩
    · obtain ⟨a2, w2, ρ2, s1, k1, k2, k3, k4⟩ := first (hexec f2) (x := .tup [.bool false]) ⟨#[.bool false], rfl, _, _, rfl, rfl, rfl⟩ ex1 hh ex2
      have hv : a2.eval M.c = .bool false := opd_ok (fun g hgl => k1.glob g (hN ▸ hgl)) k3 ex3
      obtain ⟨a', w', ρ', T', u, q1, q2, q3, q4, q5, q6⟩ := hr fn k' envx' hx v h' ex5 ρ2 a2 w2 bfr cs k1 k3 k4
      exact ⟨a', w', ρ', T', u, s1.trans (.head (step_cond hv) (.head (step_exit ex4) q1)), q2, q3, q4, st.trans (k2.trans q5), q6⟩
    · have hw1 : ∀ b : Nat, w1.heap[b]? = w.heap[b]? := fun b => by rcases f2 with rfl | rfl <;> rfl
      have hw1s : w1.heap.size = w.heap.size := by rcases f2 with rfl | rfl <;> rfl
      have hxe : x ∈ es.toList ∧ x.born ∉ S := by
        unfold leftOf at f1
        rw [Array.toList_filter, List.mem_filter] at f1
        exact ⟨f1.1, by simpa using f1.2⟩
      have left := leftE_ok seen hmr
      obtain ⟨ka, qa, ba, m1, m2, m3, m4⟩ := left.mem x (List.mem_filter.2 ⟨hxe.1, by
        simp only [Bool.not_eq_true', List.contains_eq_mem, decide_eq_false_iff_not]
        exact fun hc => hxe.2 (hseen _ hc)⟩)
      obtain ⟨env', r1, r2⟩ := allRounds_mem rounds _ m1
      obtain ⟨_, r3⟩ := ite_some.1 (show ite' (isPtr r (getT env0 i)) (bnd (setT env0 t1 (.tup [.bool true, ka, qa])) fun env => bnd2 (regionE P F K ih M.ops1.toList l1 env hX.frz) fun env h => onBool (opd P M.c env) (ite' (isPtr r (getT env i)) (bnd (setT env t3 (.tup [ka, qa])) fun env => bnd2 (regionE P F K ih M.ops3.toList l3 env h) fun env h => bnd2 (runB P F K ih 100 M.rest env h) fun env _ => some env)) none) = some env' from r1)
      obtain ⟨env1, r4, r5⟩ := bnd_some.1 r3
      obtain ⟨env2, h2, r6, r7⟩ := bnd2_some.1 r5
      obtain ⟨tc, r8, r9⟩ := onBool_tE r7
      cases tc with
      | false => cases r9
      | true =>
        obtain ⟨r10, r11⟩ := ite_some.1 (show ite' (isPtr r (getT env2 i)) (bnd (setT env2 t3 (.tup [ka, qa])) fun env => bnd2 (regionE P F K ih M.ops3.toList l3 env h2) fun env h => bnd2 (runB P F K ih 100 M.rest env h) fun env _ => some env) = some env' from r9)
        obtain ⟨env3, r12, r13⟩ := bnd_some.1 r11
        obtain ⟨env4, h4, r14, r15⟩ := bnd2_some.1 r13
        obtain ⟨env5, h5, r16, r17⟩ := bnd2_some.1 r15
        cases r17
        have hset := setBlock_at (w := w1) (b := p.b) (x := .mapIter (some pm.b) since (S.push x.born) c) (by rw [hw1, hit]; rfl)
        have hh2 : HR σ N ρ hX (ChangeMaps.setBlock w1 p.b (.mapIter (some pm.b) since (S.push x.born) c)) := hh.beside ne fun b hb => (hset.2.1 b hb).trans (hw1 b)
        obtain ⟨a2, w2, ρ2, s1, k1, k2, k3, k4⟩ := first (hexec f3) (x := .tup [.bool true, ka, qa]) ⟨#[.bool true, x.key, x.val], rfl, _, _, rfl, rfl, _, _, rfl, m2, _, _, rfl, m3, rfl⟩ r4 hh2.frz r6
        have still : ∀ b, b < w.heap.size → w2.heap[b]? = (ChangeMaps.setBlock w1 p.b (.mapIter (some pm.b) since (S.push x.born) c)).heap[b]? := fun b hb => k2.block b (by rw [hset.2.2, hw1s]; exact hb) frz_owns
        have hpl := (Array.getElem?_eq_some_iff.1 hit).1
        have hml := (Array.getElem?_eq_some_iff.1 hmap).1
        have it2 := (still _ hpl).trans hset.1
        have map2 : w2.heap[pm.b]? = some (.map es c) := (still _ hml).trans ((hset.2.1 _ (Ne.symm hne)).trans ((hw1 _).trans hmap))
        have hv : a2.eval M.c = .bool true := opd_ok (fun g hgl => k1.glob g (hN ▸ hgl)) k3 r8
        have hiv2 : a2.eval (.tmp i) = .pointer (some ⟨p.b, 0, none⟩) := by
          obtain ⟨_, p', g1, g2⟩ := k3 i _ (isPtr_some r10)
          rw [k2.rho _ _ hp] at g1; cases g1
          rw [eval_tmp, g2, hp0]
        have hent : (execOp a2.eval o3).run P w2 = .ok (.value (.tuple #[x.key, x.val])) w2 := by
          simp only [execOp, e2]
          rw [hiv2, Sem.run_bind, run_entry_at w2 p.b pm.b since S es c x it2 map2 hxe.1 hnd]; rfl
        have her := k3.put (d := some t3) (x := .tup [ka, qa]) (u := .tuple #[x.key, x.val]) ⟨#[x.key, x.val], rfl, _, _, rfl, VR.mono k2.rho _ m2, _, _, rfl, VR.mono k2.rho _ m3, rfl⟩ r12
        have hl : Leads' P σ N (.region i3 M.ops3 false) ρ2 h2 w2 a2 w2 env4 h4 := Leads'.region k4 (wp_region_list (by
          rw [h3]
          unfold wpList
          rw [wanted_plain e3 a2, if_pos rfl]
          left
          refine wp_val hent ?_
          rw [e1]
          exact regionE_ok hF hK hr hσ hN l3 env3 h2 ρ2 _ w2 r14 k1 (St.refl _ _ _) her (put_defers ..)))
        obtain ⟨a4, w4, ρ4, s4, q1, q2, q3, q4⟩ := hl (.code M.rest :: .inBlock i2 :: .inLoop bd :: k) bfr cs
        obtain ⟨a5, w5, ρ5, s5, u1, u2, u3, u4⟩ := runB_ok hF hK hr hσ hN 100 M.rest r16 q1 q3 q4 (.inBlock i2 :: .inLoop bd :: k) bfr cs
        have all := (k2.trans q2).trans u2
        have still5 : ∀ b, b < w.heap.size → w5.heap[b]? = (ChangeMaps.setBlock w1 p.b (.mapIter (some pm.b) since (S.push x.born) c)).heap[b]? := fun b hb => all.block b (by rw [hset.2.2, hw1s]; exact hb) frz_owns
        have hsz2 : w.heap.size ≤ w5.heap.size := by have := all.size; rw [hset.2.2, hw1s] at this; exact this
        have hh5 : HR σ N ρ hX w5 := { live := fun q row g => let ⟨p', g1, g2⟩ := hh2.live q row g; ⟨p', g1, g2.mono (Sub.refl _) (all.block _ g2.lt frz_owns)⟩, new := hh2.new, sep := hh2.sep, old := hh2.old, rels := hh2.rels, glob := hh2.glob }
        have hos : w1.os = w.os ∧ w1.tape = w.tape ∧ w1.output = w.output := by rcases f2 with rfl | rfl <;> exact ⟨rfl, rfl, rfl⟩
        have st5 : St ρ h w0 ρ hX w5 := ⟨all.os.trans (hos.1.trans st.os), all.tape.trans (hos.2.1.trans st.tape), all.output.trans (hos.2.2.trans st.output), Nat.le_trans st.size hsz2, fun b hb hno => by
            have hbp : b ≠ p.b := fun e => hno (e ▸ hown)
            have hbw := Nat.lt_of_lt_of_le hb st.size
            exact (still5 b hbw).trans ((hset.2.1 b hbp).trans ((hw1 b).trans (st.block b hb hno))), st.rho, fun b hb ho => st.owns b hb ho, st.nx, fun q row p' g1 g2 => st.dom q row p' g1 g2, st.ids, st.rel, st.fresh⟩
        obtain ⟨a', w', ρ', T', u, q5, q6⟩ := mapRun_go hF hK hr hσ hN hM h1 hn h3 hen hp hp0 hne hown ne hmr hall hnd hsc rounds hptr ex1 ex2 ex3 ex4 ex5 bfr cs n (S.push x.born) c a5 w5
          (by have := left_push f1; omega) (fun b hb => Array.mem_push.2 (.inl (hseen b hb))) hsc ((still5 _ hpl).trans hset.1) ((still5 _ hml).trans ((hset.2.1 _ (Ne.symm hne)).trans ((hw1 _).trans hmap))) hh5 st5 (ER.weak (all.rho) r2 he u3) u4
        refine ⟨a', w', ρ', T', u, s1.trans (.head (step_cond hv) (.head step_skip ?_)), q6⟩
        rw [hbody]
        exact .head step_block (.head step_seq (s4.trans (s5.trans (.head step_inBlock (.head step_inLoop q5)))))

theorem sub_st {hX : H} (hn : hX.nx = h.nx) (hs : ∀ q row, hX.get q = some row → h.get q = some row) : St ρ h w ρ hX w :=
  ⟨rfl, rfl, rfl, Nat.le_refl _, fun _ _ _ => rfl, Sub.refl _, fun _ _ ⟨q, row, p, g1, g2⟩ => ⟨q, row, p, hs _ _ g1, g2⟩, by rw [hn]; exact Nat.le_refl _, fun q row p g1 g2 => .inl ⟨row, hs _ _ g1, g2⟩, fun q row g1 => .inl ⟨row, hs _ _ g1⟩, fun q row x g1 g2 => .inr (.inr ⟨q, row, hs _ _ g1, g2⟩), fun _ _ h => h⟩

theorem mapLoop_ok {F : Facts} (hF : FactsOk P σ F) {K : Known} (hK : KOk P σ N K) {ih : Run} (hr : RunOk P σ N ih) (hσ : ∀ i, (σ i).oneCell' = true) (hN : N = P.globals.size) {fn : Func} {bd : Code} {k : List Item} {env : Env} {out : Out} (e : mapLoop P F K ih fn bd k env h = some out) (eo : out = some (v, h')) (hh : HR σ N ρ h w) (he : ER σ ρ env a.tmps) (hd : a.defers = []) (b : Frame) (cs : List Frame) : Goes P σ N fn (.code (.loop bd) :: k) h v h' ρ a w b cs := by
  obtain ⟨M, hM, y1⟩ := bnd_some.1 e
  obtain ⟨o1, l1, h1, y2⟩ := bnd2_some.1 y1
  obtain ⟨t1, i, hn, y3⟩ := bnd2_some.1 y2
  obtain ⟨o3, l3, h3, y4⟩ := bnd2_some.1 y3
  obtain ⟨t3, j, hen, y5⟩ := bnd2_some.1 y4
  obtain ⟨hij, y6⟩ := ite_some.1 y5
  have hij := Nat.eq_of_beq_eq_true hij
  subst hij
  obtain ⟨x, hx, y7⟩ := bnd_some.1 y6
  obtain ⟨r, o, rfl, y8⟩ := onPtr_some y7
  obtain ⟨ho, y9⟩ := ite_some.1 y8
  have ho := Nat.eq_of_beq_eq_true ho
  subst ho
  obtain ⟨m, since, seen, last, g1, y10⟩ := onIter_some y9
  obtain ⟨l, c, g2, y11⟩ := onMap_some y10
  obtain ⟨e1, L, _, y12⟩ := bnd2_some.1 y11
  obtain ⟨_, _, y13⟩ := bnd_some.1 y12
  have y13 := Option.some.inj y13
  clear e y1 y2 y3 y4 y5 y6 y7 y8 y9 y10 y11 y12
  rw [← y13] at eo
  obtain ⟨z1, z2⟩ := ite_some.1 (show ite' (both (Nat.ble since last) (both (Nat.ble since c) (both (allBelow since l) (bornOk c l)))) (bnd (h.put r none) fun hX => bnd (mapRound P F K ih M r i t1 t3 l1 l3 hX.frz env e1) fun env1 =>
    (fun env0 => ite' (both (weakE env env0) (allRounds P F K ih M r i t1 t3 l1 l3 hX.frz env0 (leftE seen l)))
      (ite' (isPtr r (getT env0 i)) (bnd (setT env0 t1 (.tup [.bool false])) fun envx => bnd2 (regionE P F K ih M.ops1.toList l1 envx hX) fun envx hx => onBool (opd P M.c envx) none (bnd (exitTo M.e (.code M.body :: .inLoop bd :: k)) fun k' => ih fn k' envx hx)))) (joinE env env1)) = some (v, h') from eo)
  obtain ⟨c1, z3⟩ := both_true z1
  obtain ⟨c2, z4⟩ := both_true z3
  obtain ⟨c3, c4⟩ := both_true z4
  obtain ⟨hX, p1, z5⟩ := bnd_some.1 z2
  obtain ⟨env1, _, z6⟩ := bnd_some.1 z5
  have z6 := z6
  generalize joinE env env1 = env0 at z6
  obtain ⟨z7, z8⟩ := ite_some.1 (show ite' (both (weakE env env0) (allRounds P F K ih M r i t1 t3 l1 l3 hX.frz env0 (leftE seen l))) (ite' (isPtr r (getT env0 i)) (bnd (setT env0 t1 (.tup [.bool false])) fun envx => bnd2 (regionE P F K ih M.ops1.toList l1 envx hX) fun envx hx => onBool (opd P M.c envx) none (bnd (exitTo M.e (.code M.body :: .inLoop bd :: k)) fun k' => ih fn k' envx hx))) = some (v, h') from z6)
  obtain ⟨q1, q2⟩ := both_true z7
  obtain ⟨q3, z9⟩ := ite_some.1 z8
  obtain ⟨envx, q4, z10⟩ := bnd_some.1 z9
  obtain ⟨envx', hx', q5, z11⟩ := bnd2_some.1 z10
  obtain ⟨tb, q6, z12⟩ := onBool_tE z11
  cases tb with
  | true => cases z12
  | false =>
    obtain ⟨k', q7, q8⟩ := bnd_some.1 z12
    obtain ⟨pn, pg⟩ := put_some p1
    have hsub : ∀ q row, hX.get q = some row → h.get q = some row := fun q row g => by
      rw [pg] at g
      split at g
      · cases g
      · exact g
    have hnr : ∀ q row, hX.get q = some row → q ≠ r := fun q row g hq => by rw [pg, if_pos hq] at g; cases g
    obtain ⟨p, k1, k2, pm, k3, k4⟩ := hh.live r _ g1
    obtain ⟨pm', k5, es, k6, k7⟩ := hh.live m _ g2
    rw [k3] at k5; cases k5
    obtain ⟨b1, b2⟩ := bornOk_ok k7 c4
    have hrm : r ≠ m := fun e => by rw [e, g2] at g1; cases g1
    have hne : p.b ≠ pm.b := hh.sep r m _ _ p pm g1 g2 hrm (fun hc => by cases hc) (fun hc => by cases hc) k1 k3
    obtain ⟨a', w', ρ', T', u, s1, s2⟩ := mapRun_go (P := P) (σ := σ) (N := N) (ρ := ρ) (h := h) hF hK hr hσ hN (seen := seen) hM (uncons_some h1) hn (uncons_some h3) hen k1 k2 hne ⟨r, _, p, g1, rfl, k1, rfl⟩
      (fun q row p' g4 g5 => by
        refine hh.sep q r row _ p' p (hsub _ _ g4) g1 (hnr _ _ g4) (fun hc => ?_) (fun hc => by cases hc) g5 k1
        have := hh.old q r row _ (hsub _ _ g4) hc g1
        cases this)
      k7 (allBelow_ok k7 c3) b2 (Nat.le_of_ble_eq_true c2) q2 (isPtr_some q3) q4 q5 q6 q7 q8 b cs _ seen.reverse.toArray last a w (Nat.lt_succ_self _) (fun x hx => by simpa using hx) (Nat.le_of_ble_eq_true c1) k4 k6
      (hh.weak pn fun q row g => ⟨row, hsub _ _ g, fun _ k => k, id, fun _ k => k, fun _ k1 k2 => absurd k1 k2⟩) (sub_st pn hsub) (he.weak0 q1) hd
    exact ⟨a', w', ρ', T', u, .head step_loop s1, s2⟩

/-! ### A select of one case, with a default -/

theorem selOf_some {o : Oper} {c : SelectCase} (e : selOf o = some c) : o.op = .select #[c] false ∧ o.guard = none := by
  unfold selOf at e
  split at e
  · cases e; exact ⟨rfl, rfl⟩
  · cases e
theorem onChanV_some {R : Type} {x : AV} {k : Nat → Option R} {y : R} (e : onChanV x k = some y) : ∃ r, x = .chan r ∧ k r = some y := by
  unfold onChanV at e
  split at e
  · exact ⟨_, rfl, e⟩
  · cases e
theorem comm_step {o : Oper} {ops : Array Oper} {i : Nat} {rest : List Nat} {b : Frame} {k : List Item} {cs : List Frame} {cases : Array CommCase} (ho : ops[i]? = some o) (hg : o.guard = none) (e : (execOp a.eval o).run P w = .ok (.comm cases false .select) w) :
    ∃ es, stepG P true (Conc.G (b.at a (.inRegion ops (i :: rest) :: k)) cs) w = .comm (Conc.G (b.at a (.inRegion ops (i :: rest) :: k)) cs) cases false .select w es := by
  have hgo := stepG_op (P := P) (b := b) (a := a) (k := k) (cs := cs) (w := w) (rest := rest) ho (wanted_plain hg a)
  have ha : ∃ es, stepG.apply P true (b.at a (.inRegion ops (i :: rest) :: k)) cs none (execOp a.eval o) w = .comm (Conc.G (b.at a (.inRegion ops (i :: rest) :: k)) cs) cases false .select w es := by
    simp only [stepG.apply, Sem.runT_eq, e, if_true]
    exact ⟨_, rfl⟩
  obtain ⟨es, ha⟩ := ha
  exact ⟨es, hgo.trans ha⟩
theorem app_one (l : List AV) (x : AV) : app l [x] = some (l ++ [x]) := app_eq l [x]
theorem LR.snoc {l : List AV} {m : List Value} {x : AV} {u : Value} (h : LR σ ρ l m) (hx : VR σ ρ x u) : LR σ ρ (l ++ [x]) (m ++ [u]) := h.append ⟨u, [], rfl, hx, rfl⟩

theorem selReg_ok {F : Facts} (hF : FactsOk P σ F) {K : Known} (hK : KOk P σ N K) {ih : Run} (hr : RunOk P σ N ih) (hσ : ∀ i, (σ i).oneCell' = true) (hN : N = P.globals.size) {fn : Func} {id : Nat} {ops : Array Oper} {k : List Item} {env : Env} {out : Out} (e : selReg P F K ih fn ops k env h = some out) (eo : out = some (v, h')) (hh : HR σ N ρ h w) (he : ER σ ρ env a.tmps) (hd : a.defers = []) (b : Frame) (cs : List Frame) : Goes P σ N fn (.code (.region id ops false) :: k) h v h' ρ a w b cs := by
  obtain ⟨o, l, h1, y1⟩ := bnd2_some.1 e
  obtain ⟨c, h2, y2⟩ := bnd_some.1 y1
  have y2 := Option.some.inj y2
  clear e y1
  rw [← y2] at eo
  obtain ⟨x, hs, h3, y3⟩ := bnd2_some.1 eo
  obtain ⟨env', h4, y4⟩ := bnd_some.1 y3
  have h1 := uncons_some h1
  obtain ⟨h5, h6⟩ := selOf_some h2
  have hg : Glo P ρ := fun g hgl => hh.glob g (hN ▸ hgl)
  have ho : ops[0]? = some o := by
    have : ops.toList[0]? = some o := by rw [h1]; rfl
    simpa using this
  have hrange : List.range ops.size = 0 :: List.range' 1 l.length := by
    rw [← Array.length_toList, h1, List.range_eq_range']; rfl
  have fin : ∀ u, (b.at a (.inRegion ops (0 :: List.range' 1 l.length) :: k)).finish u = b.at (a.put o.dst u) (.inRegion ops (List.range' 1 l.length) :: k) := fun u => by
    rw [Frame.finish_at, ho]; rfl
  have go : ∀ {u : Value} {w' : World}, step P (Conc.solo (Conc.G (b.at a (.inRegion ops (0 :: List.range' 1 l.length) :: k)) cs) w) = .next (Conc.solo (Conc.G ((b.at a (.inRegion ops (0 :: List.range' 1 l.length) :: k)).finish u) cs) w') → HR σ N ρ hs w' → St ρ h w ρ hs w' → VR σ ρ x u → Goes P σ N fn (.code (.region id ops false) :: k) h v h' ρ a w b cs := fun {u w'} s1 s2 s3 s4 => by
    rw [fin] at s1
    have her := he.put s4 h4
    have hwp := region_ok hF hK hr hσ hN (ops := ops) l env' hs ρ (a.put o.dst u) w' y4 s2 s3 her (put_defers ..)
    rw [← wpOps_eq_wpList l 1 (fun j => by
      have : ops.toList[1 + j]? = l[j]? := by rw [h1, Nat.add_comm]; rfl
      rw [← this]; simp)] at hwp
    obtain ⟨e', a1, w1, ⟨rfl, ρ1, env1, hh1, k1, k2, k3, k4, k5⟩, harr⟩ := wp_ops _ _ _ hwp b k cs
    obtain ⟨a', w2, ρ', T', u', q1, q2, q3, q4, q5, q6⟩ := hr fn k env1 hh1 v h' k1 ρ1 a1 w1 b cs k2 k4 (k5.trans hd)
    refine ⟨a', w2, ρ', T', u', .head step_region ?_, q2, q3, q4, k3.trans q5, q6⟩
    rw [hrange]
    exact .head s1 (Steps.trans harr q1)
  obtain ⟨ch, y5, y6⟩ := bnd_some.1 h3
  obtain ⟨z, y7, y8⟩ := bnd_some.1 y6
  obtain ⟨r, rfl, y9⟩ := onChanV_some y8
  obtain ⟨cap, buf, y10, y11⟩ := onChan_some y9
  obtain ⟨zv, z1, z2⟩ := zeroOf_ok (P := P) (σ := σ) (ρ := ρ) y7
  obtain ⟨p, k1, k2⟩ := opd_ok hg he y5
  obtain ⟨p', k3, bs, ns, nr, k4, k5⟩ := hh.live r _ y10
  rw [k1] at k3; cases k3
  have hbl := k5.length
  cases hsend : c.send with
  | none =>
    rw [hsend] at y11
    have hex : (execOp a.eval o).run P w = .ok (.comm #[Conc.rcase p.b zv] false .select) w := by
      simp [execOp, h5, hsend, z2 w, k2, Conc.rcase, Result.andThen]
    cases buf with
    | nil =>
      cases (show some (AV.tup [.int .i64 (.negSucc 0), .bool false, z], h) = some (x, hs) from y11)
      have hb0 : bs = #[] := by
        apply Array.eq_empty_of_size_eq_zero; simpa using hbl
      subst hb0
      obtain ⟨es, hst⟩ := comm_step (rest := List.range' 1 l.length) (b := b) (k := k) (cs := cs) ho h6 hex
      exact go (Conc.step_lone_select_default hst k4) hh (St.refl _ _ _) ⟨_, rfl, _, _, rfl, rfl, _, _, rfl, rfl, _, _, rfl, z1, rfl⟩
    | cons y rest =>
      obtain ⟨h2', p1, y12⟩ := bnd_some.1 (show bnd (h.put r (some (.chan cap rest))) (fun h => some (AV.tup [.int .i64 (.ofNat 0), .bool true, y], h)) = some (x, hs) from y11)
      cases y12
      obtain ⟨es, hst⟩ := comm_step (rest := List.range' 1 l.length) (b := b) (k := k) (cs := cs) ho h6 hex
      obtain ⟨u, m, m1, m2, m3⟩ := k5
      have hbs : bs.getD 0 undef = u := by
        have : bs.toList[0]? = some u := by rw [m1]; rfl
        have : bs[0]? = some u := by simpa using this
        rw [Array.getD_eq_getD_getElem?, this]; rfl
      have hex2 : (bs.extract 1 bs.size).toList = m := by
        rw [Array.toList_extract, m1]; simp
        have : bs.size = m.length + 1 := by rw [← Array.length_toList, m1]; rfl
        rw [this]; simp
      obtain ⟨t1, t2⟩ := map_turn (x := .chan cap (bs.extract 1 bs.size) false ns (nr + 1) false) hh y10 rfl rfl rfl k1 k4 p1 ⟨_, _, _, withObj_at k4, by rw [hex2]; exact m3⟩
      exact go (Conc.step_lone_select_recv_buf hst k4 (by rw [← Array.length_toList, m1]; simp)) t1 t2 ⟨_, rfl, _, _, rfl, rfl, _, _, rfl, rfl, _, _, rfl, hbs ▸ m2, rfl⟩
  | some y =>
    rw [hsend] at y11
    obtain ⟨xv, y12, y13⟩ := bnd_some.1 (show bnd (opd P y env) (fun v => (Bool.rec (some (.tup [.int .i64 (.negSucc 0), .bool false], h)) (bnd (app buf [v]) fun buf' => bnd (h.put r (some (.chan cap buf'))) fun h => some (.tup [.int .i64 (.ofNat 0), .bool false], h)) (Nat.ble (Nat.succ (len buf)) cap) : Out)) = some (x, hs) from y11)
    have hxv := opd_ok hg he y12
    have hex : (execOp a.eval o).run P w = .ok (.comm #[Conc.scase p.b (a.eval y) zv] false .select) w := by
      simp [execOp, h5, hsend, z2 w, k2, Conc.scase, Result.andThen]
    obtain ⟨es, hst⟩ := comm_step (rest := List.range' 1 l.length) (b := b) (k := k) (cs := cs) ho h6 hex
    cases hroom : Nat.ble (Nat.succ (len buf)) cap with
    | false =>
      rw [hroom] at y13
      cases (show some (AV.tup [.int .i64 (.negSucc 0), .bool false], h) = some (x, hs) from y13)
      have hfull : cap ≤ bs.size := by
        rw [len_eq] at hroom
        have : ¬ buf.length + 1 ≤ cap := fun hc => by rw [Nat.ble_eq_true_of_le hc] at hroom; cases hroom
        have : bs.size = buf.length := by rw [← Array.length_toList]; exact hbl
        omega
      exact go (Conc.step_lone_select_send_full hst k4 hfull) hh (St.refl _ _ _) ⟨_, rfl, _, _, rfl, rfl, _, _, rfl, rfl, rfl⟩
    | true =>
      rw [hroom] at y13
      obtain ⟨buf', y14, y15⟩ := bnd_some.1 (show bnd (app buf [xv]) (fun buf' => bnd (h.put r (some (.chan cap buf'))) fun h => some (AV.tup [.int .i64 (.ofNat 0), .bool false], h)) = some (x, hs) from y13)
      obtain ⟨h2', p1, y16⟩ := bnd_some.1 y15
      cases y16
      rw [app_one] at y14
      cases y14
      have hroom' : bs.size < cap := by
        rw [len_eq] at hroom
        have := Nat.le_of_ble_eq_true hroom
        have : bs.size = buf.length := by rw [← Array.length_toList]; exact hbl
        omega
      obtain ⟨t1, t2⟩ := map_turn (x := .chan cap (bs.push (a.eval y)) false (ns + 1) nr false) hh y10 rfl rfl rfl k1 k4 p1 ⟨_, _, _, withObj_at k4, by rw [Array.toList_push]; exact k5.snoc hxv⟩
      exact go (Conc.step_lone_select_send_room hst k4 hroom') t1 t2 ⟨_, rfl, _, _, rfl, rfl, _, _, rfl, rfl, rfl⟩
end
end Go.Exe
