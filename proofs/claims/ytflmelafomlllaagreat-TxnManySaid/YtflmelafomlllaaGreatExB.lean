/- The machine's lists and tries, as plain ones. -/
import Derived.Test.YtflmelafomlllaaGreatExA
import Derived.Laws.CopyRow
import Derived.Below
namespace Go.Exe
open Go

theorem force_eq {R : Type} (n : Nat) (k : Nat → R) : force n k = k n := by cases n <;> rfl
theorem forceI_eq {R : Type} (n : Int) (k : Int → R) : forceI n k = k n := by
  cases n with
  | ofNat a => exact force_eq a fun a => k (.ofNat a)
  | negSucc a => exact force_eq a fun a => k (.negSucc a)
theorem bnd_some {α β : Type} {x : Option α} {f : α → Option β} {b : β} : bnd x f = some b ↔ ∃ a, x = some a ∧ f a = some b := by
  cases x with
  | none => exact ⟨fun h => (nomatch h), fun ⟨_, h, _⟩ => (nomatch h)⟩
  | some a => exact ⟨fun h => ⟨a, rfl, h⟩, fun ⟨_, h, k⟩ => by cases h; exact k⟩
theorem bnd2_some {α β γ : Type} {x : Option (α × β)} {f : α → β → Option γ} {c : γ} : bnd2 x f = some c ↔ ∃ a b, x = some (a, b) ∧ f a b = some c := by
  cases x with
  | none => exact ⟨fun h => (nomatch h), fun ⟨_, _, h, _⟩ => (nomatch h)⟩
  | some q => exact ⟨fun h => ⟨q.1, q.2, rfl, h⟩, fun ⟨_, _, h, k⟩ => by cases h; exact k⟩
theorem ite_some {α : Type} {b : Bool} {x : Option α} {a : α} : ite' b x = some a ↔ b = true ∧ x = some a := by
  cases b with
  | false => exact ⟨fun h => (nomatch h), fun h => (nomatch h.1)⟩
  | true => exact ⟨fun h => ⟨rfl, h⟩, fun h => h.2⟩

section
variable {α : Type}

theorem nth_eq : ∀ (l : List α) (i : Nat), nth l i = l[i]?
  | [], _ => rfl
  | _ :: _, 0 => rfl
  | _ :: l, i + 1 => (nth_eq l i).trans List.getElem?_cons_succ.symm

theorem setN_some {x : α} : ∀ {l : List α} {i : Nat} {m : List α}, setN x l i = some m → i < l.length ∧ m = l.set i x
  | [], i, m, h => nomatch h
  | a :: l, 0, m, h => by cases h; exact ⟨Nat.succ_pos _, rfl⟩
  | a :: l, i + 1, m, h => by
    obtain ⟨l', h1, h2⟩ := bnd_some.1 (show bnd (setN x l i) (fun l' => some (a :: l')) = some m from h)
    cases h2
    obtain ⟨h3, rfl⟩ := setN_some h1
    exact ⟨Nat.succ_lt_succ h3, rfl⟩

theorem dropN_some : ∀ {l : List α} {i : Nat} {m : List α}, dropN l i = some m → i ≤ l.length ∧ m = l.drop i
  | [], 0, m, h => by cases h; exact ⟨Nat.le_refl _, rfl⟩
  | [], i + 1, m, h => nomatch h
  | a :: l, 0, m, h => by cases h; exact ⟨Nat.zero_le _, rfl⟩
  | a :: l, i + 1, m, h => let ⟨h1, h2⟩ := dropN_some (l := l) (i := i) h; ⟨Nat.succ_le_succ h1, h2⟩

theorem takeN_some : ∀ {l : List α} {i : Nat} {m : List α}, takeN l i = some m → i ≤ l.length ∧ m = l.take i
  | [], 0, m, h => by cases h; exact ⟨Nat.le_refl _, rfl⟩
  | [], i + 1, m, h => nomatch h
  | a :: l, 0, m, h => by cases h; exact ⟨Nat.zero_le _, rfl⟩
  | a :: l, i + 1, m, h => by
    obtain ⟨l', h1, h2⟩ := bnd_some.1 (show bnd (takeN l i) (fun l' => some (a :: l')) = some m from h)
    cases h2
    obtain ⟨h3, rfl⟩ := takeN_some h1
    exact ⟨Nat.succ_le_succ h3, rfl⟩

theorem sub_some {l : List α} {o n : Nat} {m : List α} (h : sub l o n = some m) : o + n ≤ l.length ∧ m = (l.drop o).take n := by
  obtain ⟨l', h1, h2⟩ := bnd_some.1 h
  obtain ⟨h3, rfl⟩ := dropN_some h1
  obtain ⟨h4, rfl⟩ := takeN_some h2
  rw [List.length_drop] at h4
  exact ⟨by omega, rfl⟩
theorem sub_get {l : List α} {o n : Nat} {m : List α} (h : sub l o n = some m) : m.length = n ∧ ∀ j, j < n → m[j]? = l[o + j]? := by
  obtain ⟨h1, rfl⟩ := sub_some h
  refine ⟨by simp; omega, fun j hj => ?_⟩
  rw [List.getElem?_take, if_pos hj, List.getElem?_drop]

theorem over_some : ∀ {m l : List α} {l' : List α}, over m l = some l' → m.length ≤ l.length ∧ l' = m ++ l.drop m.length
  | [], l, l', h => by cases h; exact ⟨Nat.zero_le _, rfl⟩
  | a :: m, [], l', h => nomatch h
  | a :: m, b :: l, l', h => by
    obtain ⟨l2, h1, h2⟩ := bnd_some.1 (show bnd (over m l) (fun l' => some (a :: l')) = some l' from h)
    cases h2
    obtain ⟨h3, rfl⟩ := over_some h1
    exact ⟨Nat.succ_le_succ h3, rfl⟩

theorem overAt_some {m : List α} : ∀ {l : List α} {i : Nat} {l' : List α}, overAt m l i = some l' → i + m.length ≤ l.length ∧ l' = l.take i ++ m ++ l.drop (i + m.length)
  | [], 0, l', h => by
    obtain ⟨h1, rfl⟩ := over_some (show over m [] = some l' from h)
    exact ⟨by simpa using h1, by simp⟩
  | [], i + 1, l', h => nomatch h
  | a :: l, 0, l', h => by
    obtain ⟨h1, rfl⟩ := over_some (show over m (a :: l) = some l' from h)
    exact ⟨by simpa using h1, by simp⟩
  | a :: l, i + 1, l', h => by
    obtain ⟨l2, h1, h2⟩ := bnd_some.1 (show bnd (overAt m l i) (fun l' => some (a :: l')) = some l' from h)
    cases h2
    obtain ⟨h3, rfl⟩ := overAt_some h1
    refine ⟨by simp; omega, ?_⟩
    rw [show i + 1 + m.length = i + m.length + 1 by omega]
    rfl
theorem overAt_get {m l : List α} {i : Nat} {l' : List α} (h : overAt m l i = some l') : l'.length = l.length ∧ ∀ j, l'[j]? = if i ≤ j ∧ j < i + m.length then m[j - i]? else l[j]? := by
  obtain ⟨h1, rfl⟩ := overAt_some h
  refine ⟨by simp; omega, fun j => ?_⟩
  rw [List.append_assoc]
  by_cases h2 : j < i
  · rw [List.getElem?_append_left (by simp; omega), List.getElem?_take, if_pos h2, if_neg (by omega)]
  · rw [List.getElem?_append_right (by simp; omega)]
    have e : (l.take i).length = i := by simp; omega
    rw [e]
    by_cases h3 : j < i + m.length
    · rw [List.getElem?_append_left (by omega), if_pos ⟨by omega, h3⟩]
    · rw [List.getElem?_append_right (by omega), if_neg (by omega), List.getElem?_drop]
      congr 1; omega

theorem app_eq : ∀ (l m : List α), app l m = some (l ++ m)
  | [], m => rfl
  | a :: l, m => by
    show bnd (app l m) (fun l' => some (a :: l')) = _
    rw [app_eq l m]; rfl
theorem len_eq : ∀ (l : List α), len l = l.length
  | [] => rfl
  | _ :: l => congrArg Nat.succ (len_eq l)
theorem rep_eq : ∀ (n : Nat) (a : α), rep n a = List.replicate n a
  | 0, a => rfl
  | n + 1, a => by rw [List.replicate_succ, ← rep_eq n a]; rfl

/-! ### Tries -/

theorem odd_eq (i : Nat) : Nat.beq (Nat.land i 1) 1 = decide (i % 2 = 1) := by
  have : Nat.land i 1 = i % 2 := Nat.and_one_is_mod i
  rw [this]
  cases Nat.mod_two_eq_zero_or_one i with
  | inl h => rw [h]; rfl
  | inr h => rw [h]; rfl
theorem beq_eq (i j : Nat) : Nat.beq i j = decide (i = j) := by
  by_cases h : i = j
  · subst h; simp [Nat.beq_refl]
  · rw [decide_eq_false h]; cases hb : Nat.beq i j with
    | false => rfl
    | true => exact absurd (Nat.eq_of_beq_eq_true hb) h

@[simp] theorem Tr.get_leaf (i : Nat) : (Tr.leaf : Tr α).get i = none := rfl
theorem Tr.get_node (l : Tr α) (v : Option α) (r : Tr α) (i : Nat) : (Tr.node l v r).get i = if i = 0 then v else if i % 2 = 1 then l.get (i / 2) else r.get (i / 2 - 1) := by
  show Bool.rec (motive := fun _ => Option α) (Bool.rec (motive := fun _ => Option α) (r.get (Nat.pred (Nat.div i 2))) (l.get (Nat.div i 2)) (Nat.beq (Nat.land i 1) 1)) v (Nat.beq i 0) = _
  rw [odd_eq, beq_eq]
  by_cases h : i = 0
  · rw [decide_eq_true h, if_pos h]
  · rw [decide_eq_false h, if_neg h]
    by_cases k : i % 2 = 1
    · rw [decide_eq_true k, if_pos k]; rfl
    · rw [decide_eq_false k, if_neg k]; rfl

theorem Tr.get_set {x : Option α} : ∀ {d : Nat} {t : Tr α} {i : Nat} {t' : Tr α}, t.set x d i = some t' → ∀ j, t'.get j = if j = i then x else t.get j
  | 0, t, i, t', h => nomatch h
  | d + 1, t, i, t', h => by
    have node : ∀ (l : Tr α) (v : Option α) (r : Tr α), (∀ j, t.get j = if j = 0 then v else if j % 2 = 1 then l.get (j / 2) else r.get (j / 2 - 1)) →
        Bool.rec (motive := fun _ => Option (Tr α)) (Bool.rec (motive := fun _ => Option (Tr α)) (bnd (Tr.set x d r (Nat.pred (Nat.div i 2))) fun r => some (.node l v r)) (bnd (Tr.set x d l (Nat.div i 2)) fun l => some (.node l v r)) (Nat.beq (Nat.land i 1) 1)) (some (.node l x r)) (Nat.beq i 0) = some t' → ∀ j, t'.get j = if j = i then x else t.get j := by
      intro l v r ht h j
      rw [odd_eq, beq_eq] at h
      by_cases h0 : i = 0
      · rw [decide_eq_true h0] at h
        cases h
        rw [Tr.get_node, ht]
        subst h0
        by_cases hj : j = 0
        · rw [if_pos hj, if_pos hj]
        · rw [if_neg hj, if_neg hj, if_neg hj]
      · rw [decide_eq_false h0] at h
        by_cases k : i % 2 = 1
        · rw [decide_eq_true k] at h
          obtain ⟨l', h1, h2⟩ := bnd_some.1 h
          cases h2
          have ih := Tr.get_set h1
          rw [Tr.get_node, ht, ih]
          show (if j = 0 then v else if j % 2 = 1 then (if j / 2 = i / 2 then x else l.get (j / 2)) else r.get (j / 2 - 1)) = _
          by_cases hj : j = 0
          · rw [if_pos hj, if_neg (by omega), if_pos hj]
          · rw [if_neg hj, if_neg hj]
            by_cases hj1 : j % 2 = 1
            · rw [if_pos hj1, if_pos hj1]
              by_cases e : j = i
              · rw [if_pos e, if_pos (by omega)]
              · rw [if_neg e, if_neg (by omega)]
            · rw [if_neg hj1, if_neg hj1, if_neg (by omega)]
        · rw [decide_eq_false k] at h
          obtain ⟨r', h1, h2⟩ := bnd_some.1 h
          cases h2
          have ih := Tr.get_set h1
          rw [Tr.get_node, ht, ih]
          show (if j = 0 then v else if j % 2 = 1 then l.get (j / 2) else (if j / 2 - 1 = i / 2 - 1 then x else r.get (j / 2 - 1))) = _
          by_cases hj : j = 0
          · rw [if_pos hj, if_neg (by omega), if_pos hj]
          · rw [if_neg hj, if_neg hj]
            by_cases hj1 : j % 2 = 1
            · rw [if_pos hj1, if_pos hj1, if_neg (by omega)]
            · rw [if_neg hj1, if_neg hj1]
              by_cases e : j = i
              · rw [if_pos e, if_pos (by omega)]
              · rw [if_neg e, if_neg (by omega)]
    cases t with
    | leaf => exact node .leaf none .leaf (fun j => by simp) h
    | node l v r => exact node l v r (fun j => Tr.get_node l v r j) h
end

/-! ### Memory -/

theorem put_some {h h' : H} {r : Nat} {row : Option Row} (e : h.put r row = some h') : h'.nx = h.nx ∧ ∀ q, h'.get q = if q = r then row else h.get q := by
  obtain ⟨t, nx⟩ := h
  obtain ⟨t', h1, h2⟩ := bnd_some.1 (show bnd (t.set row 30 r) (fun t => some (⟨t, nx⟩ : H)) = some h' from e)
  cases h2
  exact ⟨rfl, Tr.get_set h1⟩
theorem kills_some : ∀ {l : List Nat} {h h' : H}, H.kills l h = some h' → h'.nx = h.nx ∧ ∀ q, h'.get q = if q ∈ l then none else h.get q
  | [], h, h', e => by cases e; exact ⟨rfl, fun q => by simp⟩
  | r :: l, h, h', e => by
    obtain ⟨h1, e1, e2⟩ := bnd_some.1 (show bnd (h.put r none) (H.kills l) = some h' from e)
    obtain ⟨k1, k2⟩ := put_some e1
    obtain ⟨k3, k4⟩ := kills_some e2
    refine ⟨k3.trans k1, fun q => ?_⟩
    rw [k4, k2]
    by_cases h1 : q ∈ l
    · simp [h1]
    · by_cases h2 : q = r <;> simp [h1, h2]
theorem new_some {R : Type} {h : H} {row : Row} {k : Nat → H → Option R} {x : R} (e : h.new row k = some x) : ∃ h' : H, k h.nx h' = some x ∧ h'.nx = h.nx + 1 ∧ ∀ q, h'.get q = if q = h.nx then some row else h.get q := by
  obtain ⟨t, nx⟩ := h
  obtain ⟨t', h1, h2⟩ := bnd_some.1 (show bnd (t.set (some row) 30 nx) (fun t => force nx fun r => force (Nat.succ nx) fun nx => k r ⟨t, nx⟩) = some x from e)
  rw [force_eq, force_eq] at h2
  exact ⟨_, h2, rfl, Tr.get_set h1⟩
theorem onCells_some {R : Type} {row : Option Row} {k : TypeId → Nat → Nat → Tr (List AV) → Bool → List Nat → Option R} {x : R} (h : onCells row k = some x) : ∃ e sz n t wr rel, row = some (.cells e sz n t wr rel) ∧ k e sz n t wr rel = some x := by
  cases row with
  | none => exact nomatch h
  | some row => cases row with
    | cells e sz n t wr rel => exact ⟨e, sz, n, t, wr, rel, rfl, h⟩
    | map => exact nomatch h
    | chan => exact nomatch h
    | iter => exact nomatch h
    | cap => exact nomatch h
theorem onIter_some {R : Type} {row : Option Row} {k : Nat → Nat → List Nat → Nat → Option R} {x : R} (h : onIter row k = some x) : ∃ m s l c, row = some (.iter m s l c) ∧ k m s l c = some x := by
  cases row with
  | none => exact nomatch h
  | some row => cases row with
    | iter m s l c => exact ⟨m, s, l, c, rfl, h⟩
    | cells => exact nomatch h
    | map => exact nomatch h
    | chan => exact nomatch h
    | cap => exact nomatch h
theorem onMap_some {R : Type} {row : Option Row} {k : List (AV × AV × Nat) → Nat → Option R} {x : R} (h : onMap row k = some x) : ∃ l c, row = some (.map l c) ∧ k l c = some x := by
  cases row with
  | none => exact nomatch h
  | some row => cases row with
    | map l c => exact ⟨l, c, rfl, h⟩
    | cells => exact nomatch h
    | chan => exact nomatch h
    | iter => exact nomatch h
    | cap => exact nomatch h
theorem onChan_some {R : Type} {row : Option Row} {k : Nat → List AV → Option R} {x : R} (h : onChan row k = some x) : ∃ n l, row = some (.chan n l) ∧ k n l = some x := by
  cases row with
  | none => exact nomatch h
  | some row => cases row with
    | chan n l => exact ⟨n, l, rfl, h⟩
    | cells => exact nomatch h
    | map => exact nomatch h
    | iter => exact nomatch h
    | cap => exact nomatch h
theorem onCap_some {R : Type} {row : Option Row} {k : AV → Option R} {x : R} (h : onCap row k = some x) : ∃ a, row = some (.cap a) ∧ k a = some x := by
  cases row with
  | none => exact nomatch h
  | some row => cases row with
    | cap a => exact ⟨a, rfl, h⟩
    | cells => exact nomatch h
    | map => exact nomatch h
    | chan => exact nomatch h
    | iter => exact nomatch h
end Go.Exe
/- What the machine's values and memory stand for; how memory may turn. -/
namespace Go.Exe
open Go

/-- The place of a row: a block, where in it the row begins, how many cells the block has. -/
structure Pl where
  b : Nat
  base : Nat
  size : Nat

abbrev Rho := Nat → Option Pl
abbrev Sig := Nat → Value

mutual
def VR (σ : Sig) (ρ : Rho) : AV → Value → Prop
  | .int k n, v => v = .int k n
  | .bool b, v => v = .bool b
  | .str n x, v => ∃ s : ByteArray, v = .string s ∧ s.data.toList.length = n ∧ bytesN s.data.toList = x
  | .ptr r o, v => ∃ p, ρ r = some p ∧ v = .pointer (some ⟨p.b, p.base + o, none⟩)
  | .nilp, v => v = .pointer none
  | .slc r o n c g, v => ∃ p cap off, ρ r = some p ∧ v = .slice (some ⟨p.b, off, none⟩) n cap ∧ (off = p.base + o ∨ cap = 0) ∧ n ≤ cap ∧ c ≤ cap ∧ cap ≤ maxLen ∧ (g = 0 → cap = c) ∧ ∀ s, g = s + 1 → off + cap * s ≤ p.size
  | .nils, v => v = .slice none 0 0
  | .map r, v => ∃ p, ρ r = some p ∧ v = .map (some p.b)
  | .nilm, v => v = .map none
  | .chan r, v => ∃ p, ρ r = some p ∧ v = .chan (some p.b)
  | .nilc, v => v = .chan none
  | .fn f a b, v => ∃ fs cs, v = .func f fs cs ∧ LR σ ρ a fs.toList ∧ LR σ ρ b cs.toList
  | .nilf, v => v = .nilFunc
  | .ifc t a, v => ∃ u, v = .iface t u ∧ VR σ ρ a u
  | .nili, v => v = .nilIface
  | .agg l, v => ∃ cs, v = .agg cs ∧ LR σ ρ l cs.toList ∧ l.all cellB = true
  | .tup l, v => ∃ cs, v = .tuple cs ∧ LR σ ρ l cs.toList
  | .sym i, v => v = σ i
  | .und, v => v = undef
  | .top, _ => True
  | .cel, v => v.oneCell' = true
def LR (σ : Sig) (ρ : Rho) : List AV → List Value → Prop
  | [], m => m = []
  | a :: l, m => ∃ v r, m = v :: r ∧ VR σ ρ a v ∧ LR σ ρ l r
end

def Sub (ρ ρ' : Rho) : Prop := ∀ r p, ρ r = some p → ρ' r = some p
theorem Sub.refl (ρ : Rho) : Sub ρ ρ := fun _ _ h => h
theorem Sub.trans {ρ ρ' ρ'' : Rho} (h : Sub ρ ρ') (k : Sub ρ' ρ'') : Sub ρ ρ'' := fun r p e => k r p (h r p e)

mutual
theorem VR.mono {σ : Sig} {ρ ρ' : Rho} (h : Sub ρ ρ') : ∀ (a : AV) {v : Value}, VR σ ρ a v → VR σ ρ' a v
  | .int _ _, _, k => k
  | .bool _, _, k => k
  | .str _ _, _, k => k
  | .ptr _ _, _, ⟨p, k1, k2⟩ => ⟨p, h _ _ k1, k2⟩
  | .nilp, _, k => k
  | .slc _ _ _ _ _, _, ⟨p, cap, off, k1, k2⟩ => ⟨p, cap, off, h _ _ k1, k2⟩
  | .nils, _, k => k
  | .map _, _, ⟨p, k1, k2⟩ => ⟨p, h _ _ k1, k2⟩
  | .nilm, _, k => k
  | .chan _, _, ⟨p, k1, k2⟩ => ⟨p, h _ _ k1, k2⟩
  | .nilc, _, k => k
  | .fn _ a b, _, ⟨fs, cs, k1, k2, k3⟩ => ⟨fs, cs, k1, LR.mono h a k2, LR.mono h b k3⟩
  | .nilf, _, k => k
  | .ifc _ a, _, ⟨u, k1, k2⟩ => ⟨u, k1, VR.mono h a k2⟩
  | .nili, _, k => k
  | .agg l, _, ⟨cs, k1, k2, k3⟩ => ⟨cs, k1, LR.mono h l k2, k3⟩
  | .tup l, _, ⟨cs, k1, k2⟩ => ⟨cs, k1, LR.mono h l k2⟩
  | .sym _, _, k => k
  | .und, _, k => k
  | .top, _, k => k
  | .cel, _, k => k
theorem LR.mono {σ : Sig} {ρ ρ' : Rho} (h : Sub ρ ρ') : ∀ (l : List AV) {m : List Value}, LR σ ρ l m → LR σ ρ' l m
  | [], _, k => k
  | a :: l, _, ⟨v, r, k1, k2, k3⟩ => ⟨v, r, k1, VR.mono h a k2, LR.mono h l k3⟩
end

section
variable {σ : Sig} {ρ : Rho}

theorem LR.length : ∀ {l : List AV} {m : List Value}, LR σ ρ l m → m.length = l.length
  | [], _, k => by cases k; rfl
  | _ :: _, _, ⟨_, _, k1, _, k3⟩ => by cases k1; simp [LR.length k3]
theorem LR.get : ∀ {l : List AV} {m : List Value}, LR σ ρ l m → ∀ (i : Nat) (a : AV), l[i]? = some a → ∃ v, m[i]? = some v ∧ VR σ ρ a v
  | [], _, _, i, a, e => by simp at e
  | _ :: _, _, ⟨v, r, k1, k2, k3⟩, 0, a, e => by cases k1; simp at e; subst e; exact ⟨v, rfl, k2⟩
  | _ :: _, _, ⟨v, r, k1, k2, k3⟩, i + 1, a, e => by cases k1; exact LR.get k3 i a (by simpa using e)
theorem LR.mk : ∀ {l : List AV} {m : List Value}, m.length = l.length → (∀ (i : Nat) (a : AV) (v : Value), l[i]? = some a → m[i]? = some v → VR σ ρ a v) → LR σ ρ l m
  | [], m, h, _ => List.eq_nil_of_length_eq_zero h
  | a :: l, [], h, _ => by simp at h
  | a :: l, v :: m, h, k => ⟨v, m, rfl, k 0 a v rfl rfl, LR.mk (by simpa using h) fun i b u e1 e2 => k (i + 1) b u (by simpa using e1) (by simpa using e2)⟩
theorem LR.append : ∀ {l l' : List AV} {m m' : List Value}, LR σ ρ l m → LR σ ρ l' m' → LR σ ρ (l ++ l') (m ++ m')
  | [], _, _, _, h, k => by cases h; exact k
  | _ :: _, _, _, _, ⟨v, r, k1, k2, k3⟩, k => by cases k1; exact ⟨v, r ++ _, rfl, k2, LR.append k3 k⟩

theorem VR.one (hσ : ∀ i, (σ i).oneCell' = true) {a : AV} (hc : cellB a = true) {v : Value} (h : VR σ ρ a v) : v.oneCell' = true := by
  cases a <;> simp only [cellB, Bool.false_eq_true] at hc <;> simp only [VR] at h
  case int => subst h; rfl
  case bool => subst h; rfl
  case str => obtain ⟨s, rfl, _⟩ := h; rfl
  case ptr => obtain ⟨p, _, rfl⟩ := h; rfl
  case nilp => subst h; rfl
  case slc => obtain ⟨p, cap, off, _, rfl, _⟩ := h; rfl
  case nils => subst h; rfl
  case map => obtain ⟨p, _, rfl⟩ := h; rfl
  case nilm => subst h; rfl
  case chan => obtain ⟨p, _, rfl⟩ := h; rfl
  case nilc => subst h; rfl
  case fn => obtain ⟨fs, cs, rfl, _⟩ := h; rfl
  case nilf => subst h; rfl
  case ifc => obtain ⟨u, rfl, _⟩ := h; rfl
  case nili => subst h; rfl
  case sym => subst h; exact hσ _
  case cel => exact h
end

/-- Cells from 'o' on are what the list says. -/
def Seg (σ : Sig) (ρ : Rho) (cs : Array Value) (o : Nat) (l : List AV) : Prop := l.all cellB = true ∧ ∀ (j : Nat) (a : AV), l[j]? = some a → ∃ v, cs[o + j]? = some v ∧ VR σ ρ a v
theorem Seg.mono {σ : Sig} {ρ ρ' : Rho} (h : Sub ρ ρ') {cs : Array Value} {o : Nat} {l : List AV} (k : Seg σ ρ cs o l) : Seg σ ρ' cs o l := ⟨k.1, fun j a e => let ⟨v, h1, h2⟩ := k.2 j a e; ⟨v, h1, VR.mono h a h2⟩⟩

/-- A row's elements lie in cells from 'base' on. -/
def Els (σ : Sig) (ρ : Rho) (cs : Array Value) (base sz n : Nat) (t : Tr (List AV)) : Prop := ∀ i l, t.get i = some l → i < n ∧ l.length = sz ∧ Seg σ ρ cs (base + i * sz) l

def MR (σ : Sig) (ρ : Rho) : List (AV × AV × Nat) → List MapEntry → Prop
  | [], m => m = []
  | e :: l, m => ∃ x r, m = x :: r ∧ VR σ ρ e.1 x.key ∧ VR σ ρ e.2.1 x.val ∧ x.born = e.2.2 ∧ MR σ ρ l r
theorem MR.mono {σ : Sig} {ρ ρ' : Rho} (h : Sub ρ ρ') : ∀ {l : List (AV × AV × Nat)} {m : List MapEntry}, MR σ ρ l m → MR σ ρ' l m
  | [], _, k => k
  | _ :: _, _, ⟨x, r, k1, k2, k3, k4, k5⟩ => ⟨x, r, k1, VR.mono h _ k2, VR.mono h _ k3, k4, MR.mono h k5⟩

def RowR (σ : Sig) (ρ : Rho) (w : World) (p : Pl) : Row → Prop
  | .cells e sz n t wr _ => ∃ cs fz, w.heap[p.b]? = some (.cells cs e fz) ∧ cs.size = p.size ∧ (p.base % sz = 0 ∧ (wr = true → fz.1 = fz.2 ∨ cs.size ≤ fz.1)) ∧ Els σ ρ cs p.base sz n t
  | .map l c => ∃ es, w.heap[p.b]? = some (.map es c) ∧ MR σ ρ l es.toList
  | .chan cap buf => ∃ bs s v, w.heap[p.b]? = some (.chan cap bs false s v false) ∧ LR σ ρ buf bs.toList
  | .iter m since seen last => p.base = 0 ∧ ∃ pm, ρ m = some pm ∧ w.heap[p.b]? = some (.mapIter (some pm.b) since seen.reverse.toArray last)
  | .cap a => p.base = 0 ∧ ∃ u e fz, w.heap[p.b]? = some (.cells #[u] e fz) ∧ VR σ ρ a u

def wrOf : Row → Bool
  | .cells _ _ _ _ wr _ => wr
  | _ => true
def relOf : Row → List Nat
  | .cells _ _ _ _ _ rel => rel
  | _ => []

theorem RowR.mono {σ : Sig} {ρ ρ' : Rho} (h : Sub ρ ρ') {w w' : World} {p : Pl} (hb : w'.heap[p.b]? = w.heap[p.b]?) : ∀ {row : Row}, RowR σ ρ w p row → RowR σ ρ' w' p row
  | .cells _ _ _ _ _ _, ⟨cs, fz, k1, k2, k3, k4⟩ => ⟨cs, fz, hb.trans k1, k2, k3, fun i l e => let ⟨h1, h2, h3⟩ := k4 i l e; ⟨h1, h2, h3.mono h⟩⟩
  | .map _ _, ⟨es, k1, k2⟩ => ⟨es, hb.trans k1, k2.mono h⟩
  | .chan _ _, ⟨bs, s, v, k1, k2⟩ => ⟨bs, s, v, hb.trans k1, LR.mono h _ k2⟩
  | .iter _ _ _ _, ⟨k0, pm, k1, k2⟩ => ⟨k0, pm, h _ _ k1, hb.trans k2⟩
  | .cap _, ⟨k0, u, e, fz, k1, k2⟩ => ⟨k0, u, e, fz, hb.trans k1, VR.mono h _ k2⟩

theorem RowR.lt {σ : Sig} {ρ : Rho} {w : World} {p : Pl} : ∀ {row : Row}, RowR σ ρ w p row → p.b < w.heap.size
  | .cells _ _ _ _ _ _, ⟨_, _, k1, _⟩ => (Array.getElem?_eq_some_iff.1 k1).1
  | .map _ _, ⟨_, k1, _⟩ => (Array.getElem?_eq_some_iff.1 k1).1
  | .chan _ _, ⟨_, _, _, k1, _⟩ => (Array.getElem?_eq_some_iff.1 k1).1
  | .iter _ _ _ _, ⟨_, _, _, k1⟩ => (Array.getElem?_eq_some_iff.1 k1).1
  | .cap _, ⟨_, _, _, _, k1, _⟩ => (Array.getElem?_eq_some_iff.1 k1).1

/-- The world holds what the machine's memory says. -/
structure HR (σ : Sig) (N : Nat) (ρ : Rho) (h : H) (w : World) : Prop where
  live : ∀ r row, h.get r = some row → ∃ p, ρ r = some p ∧ RowR σ ρ w p row
  new : ∀ r, h.nx ≤ r → ρ r = none
  sep : ∀ r q row row' p p', h.get r = some row → h.get q = some row' → r ≠ q → q ∉ relOf row → r ∉ relOf row' → ρ r = some p → ρ q = some p' → p.b ≠ p'.b
  old : ∀ r q row row', h.get r = some row → q ∈ relOf row → h.get q = some row' → wrOf row' = false
  rels : ∀ r q row, h.get r = some row → q ∈ relOf row → ρ q ≠ none
  glob : ∀ g, g < N → ∃ z, ρ g = some ⟨g, 0, z⟩

/-- Is a block one that may be written? -/
def Owns (ρ : Rho) (h : H) (b : Nat) : Prop := ∃ r row p, h.get r = some row ∧ wrOf row = true ∧ ρ r = some p ∧ p.b = b

/-- What a run may do. -/
structure St (ρ : Rho) (h : H) (w : World) (ρ' : Rho) (h' : H) (w' : World) : Prop where
  os : w'.os = w.os
  tape : w'.tape = w.tape
  output : w'.output = w.output
  size : w.heap.size ≤ w'.heap.size
  block : ∀ b, b < w.heap.size → ¬ Owns ρ h b → w'.heap[b]? = w.heap[b]?
  rho : Sub ρ ρ'
  owns : ∀ b, b < w.heap.size → Owns ρ' h' b → Owns ρ h b
  nx : h.nx ≤ h'.nx
  dom : ∀ q row p, h'.get q = some row → ρ' q = some p → (∃ row0, h.get q = some row0 ∧ ρ q = some p) ∨ w.heap.size ≤ p.b ∨ Owns ρ h p.b
  ids : ∀ q row, h'.get q = some row → (∃ row0, h.get q = some row0) ∨ h.nx ≤ q
  rel : ∀ q row x, h'.get q = some row → x ∈ relOf row → h.nx ≤ x ∨ (∃ row0, h.get x = some row0) ∨ ∃ q0 row0, h.get q0 = some row0 ∧ x ∈ relOf row0
  fresh : ∀ r, r < h.nx → ρ r = none → ρ' r = none

theorem St.refl (ρ : Rho) (h : H) (w : World) : St ρ h w ρ h w := ⟨rfl, rfl, rfl, Nat.le_refl _, fun _ _ _ => rfl, Sub.refl _, fun _ _ h => h, Nat.le_refl _, fun _ row _ h k => .inl ⟨row, h, k⟩, fun _ row h => .inl ⟨row, h⟩, fun q row _ h k => .inr (.inr ⟨q, row, h, k⟩), fun _ _ h => h⟩

theorem St.trans {ρ ρ' ρ'' : Rho} {h h' h'' : H} {w w' w'' : World} (a : St ρ h w ρ' h' w') (b : St ρ' h' w' ρ'' h'' w'') : St ρ h w ρ'' h'' w'' where
  os := b.os.trans a.os
  tape := b.tape.trans a.tape
  output := b.output.trans a.output
  size := Nat.le_trans a.size b.size
  block := fun k hk hn => (b.block k (Nat.lt_of_lt_of_le hk a.size) fun ho => hn (a.owns k hk ho)).trans (a.block k hk hn)
  rho := a.rho.trans b.rho
  owns := fun k hk ho => a.owns k hk (b.owns k (Nat.lt_of_lt_of_le hk a.size) ho)
  nx := Nat.le_trans a.nx b.nx
  dom := fun q row p e1 e2 => by
    rcases b.dom q row p e1 e2 with ⟨row0, k1, k2⟩ | k | k
    · exact a.dom q row0 p k1 k2
    · exact .inr (.inl (Nat.le_trans a.size k))
    · rcases Nat.lt_or_ge p.b w.heap.size with hl | hl
      · exact .inr (.inr (a.owns _ hl k))
      · exact .inr (.inl hl)
  ids := fun q row e => by
    rcases b.ids q row e with ⟨row0, k⟩ | k
    · exact a.ids q row0 k
    · exact .inr (Nat.le_trans a.nx k)
  rel := fun q row x e hx => by
    rcases b.rel q row x e hx with k | ⟨row0, k⟩ | ⟨q0, row0, k1, k2⟩
    · exact .inl (Nat.le_trans a.nx k)
    · exact (a.ids x row0 k).elim (fun h => .inr (.inl h)) .inl
    · exact a.rel q0 row0 x k1 k2
  fresh := fun r h1 h2 => b.fresh r (Nat.lt_of_lt_of_le h1 a.nx) (a.fresh r h1 h2)

/-! ### Writing -/

/-- Cells with others laid over. -/
def ovr (cs : Array Value) (o : Nat) (vs : List Value) : Array Value := (cs.toList.take o ++ vs ++ cs.toList.drop (o + vs.length)).toArray
theorem ovr_size {cs : Array Value} {o : Nat} {vs : List Value} (h : o + vs.length ≤ cs.size) : (ovr cs o vs).size = cs.size := by simp [ovr]; omega
theorem ovr_get {cs : Array Value} {o : Nat} {vs : List Value} (h : o + vs.length ≤ cs.size) (j : Nat) : (ovr cs o vs)[j]? = if o ≤ j ∧ j < o + vs.length then vs[j - o]? else cs[j]? := by
  simp only [ovr, List.getElem?_toArray]
  rw [List.append_assoc]
  by_cases h2 : j < o
  · rw [List.getElem?_append_left (by simp; omega), List.getElem?_take, if_pos h2, if_neg (by omega)]; simp
  · rw [List.getElem?_append_right (by simp; omega)]
    have e : (cs.toList.take o).length = o := by simp; omega
    rw [e]
    by_cases h3 : j < o + vs.length
    · rw [List.getElem?_append_left (by omega), if_pos ⟨by omega, h3⟩]
    · rw [List.getElem?_append_right (by omega), if_neg (by omega), List.getElem?_drop]
      rw [show o + vs.length + (j - o - vs.length) = j by omega]; simp

theorem run_storeCells_ovr (P : Program) (g o : Nat) (t : TypeId) (fz : Nat × Nat) : ∀ (vs : List Value) (i : Nat) (cur : Array Value) (w : World), w.heap[g]? = some (.cells cur t fz) → (fz.1 = fz.2 ∨ cur.size ≤ fz.1) → o + i + vs.length ≤ cur.size → (∀ v ∈ vs, v.oneCell' = true) →
    (storeCells ⟨g, o, none⟩ vs i).run P w = .ok () (w.setRow g (ovr cur (o + i) vs))
  | [], i, cur, w, hg, _, _, _ => by
    simp only [storeCells, ovr, List.append_nil, List.length_nil, Nat.add_zero, List.take_append_drop, Array.toArray_toList]
    rw [setRow_self w g cur t fz hg]
    rfl
  | v :: rest, i, cur, w, hg, hfz, hl, h1 => by
    have hi : o + i < cur.size := by simp at hl; omega
    have hadd : (⟨g, o, none⟩ : Addr).add i = ⟨g, o + i, none⟩ := by unfold Addr.add; split <;> simp_all
    have hcell : w.cell? ⟨g, o + i, none⟩ = some cur[o + i] := by simp [World.cell?, hg, hi]
    have hfro : w.frozen? ⟨g, o + i, none⟩ = false := by
      obtain ⟨lo, hi'⟩ := fz
      simp only [World.frozen?, hg, Bool.and_eq_false_iff, decide_eq_false_iff_not]
      simp only at hfz
      omega
    have hst : (store ((⟨g, o, none⟩ : Addr).add i) v).run P w = .ok () (w.setRow g (cur.setIfInBounds (o + i) v)) := by
      rw [hadd, run_store P w _ v _ (h1 v (by simp)), hcell]
      simp [hfro, setCell_eq_setRow w g (o + i) cur t fz v hg]
    have ih := run_storeCells_ovr P g o t fz rest (i + 1) (cur.setIfInBounds (o + i) v) (w.setRow g (cur.setIfInBounds (o + i) v)) (setRow_heap w g cur _ t _ hg) (by simpa using hfz) (by simp at hl ⊢; omega) (fun x hx => h1 x (by simp [hx]))
    simp only [storeCells, Sem.run_bind, hst, Result.andThen_ok, ih, setRow_setRow]
    have e := list_seg_step cur.toList (o + i) v rest (by simp at hl ⊢; omega)
    have e2 : ovr (cur.setIfInBounds (o + i) v) (o + (i + 1)) rest = ovr cur (o + i) (v :: rest) := by
      unfold ovr
      congr 1
      simpa [Array.toList_setIfInBounds, Nat.add_assoc] using e
    rw [e2]

theorem setRow_size (w : World) (g : Nat) (cs : Array Value) : (w.setRow g cs).heap.size = w.heap.size := by simp [World.setRow]

section
variable {σ : Sig} {N : Nat} {ρ : Rho} {h : H} {w : World}

theorem St.of_setRow {r : Nat} {e : TypeId} {sz n : Nat} {t : Tr (List AV)} {rel : List Nat} (hr : h.get r = some (.cells e sz n t true rel)) {p : Pl} (hp : ρ r = some p) (cs : Array Value) {h' : H} (hnx : h'.nx = h.nx)
    (ho : ∀ q row, h'.get q = some row → ∃ row', h.get q = some row' ∧ (wrOf row = true → wrOf row' = true) ∧ ∀ x, x ∈ relOf row → x ∈ relOf row') : St ρ h w ρ h' (w.setRow p.b cs) where
  os := rfl
  tape := rfl
  output := rfl
  size := by rw [setRow_size]; exact Nat.le_refl _
  block := fun b _ hn => setRow_other w p.b b cs fun hb => hn ⟨r, _, p, hr, rfl, hp, hb.symm⟩
  rho := Sub.refl _
  owns := fun b _ ⟨q, row, pq, h1, h2, h3, h4⟩ => let ⟨row', k1, k2, _⟩ := ho q row h1; ⟨q, row', pq, k1, k2 h2, h3, h4⟩
  nx := by rw [hnx]; exact Nat.le_refl _
  dom := fun q row p h1 h2 => let ⟨row', k1, _⟩ := ho q row h1; .inl ⟨row', k1, h2⟩
  ids := fun q row h1 => let ⟨row', k1, _⟩ := ho q row h1; .inl ⟨row', k1⟩
  rel := fun q row x h1 h2 => let ⟨row', k1, _, k2⟩ := ho q row h1; .inr (.inr ⟨q, row', k1, k2 x h2⟩)
  fresh := fun _ _ h => h

/-- A write into one element. -/
theorem HR.wr (hh : HR σ N ρ h w) (hσ : ∀ i, (σ i).oneCell' = true) {r o : Nat} {m : List AV} {h' : H} (e : storeH h r o m = some h') (hm : m.all cellB = true) (P : Program) {vs : List Value} (hv : LR σ ρ m vs) :
    ∃ p cs ty fz, ρ r = some p ∧ w.heap[p.b]? = some (.cells cs ty fz) ∧ (∀ a : Nat, a = p.base + o → (storeCells ⟨p.b, a, none⟩ vs).run P w = .ok () (w.setRow p.b (ovr cs a vs))) ∧ p.base + o + vs.length ≤ cs.size ∧ (fz.1 = fz.2 ∨ cs.size ≤ fz.1) ∧ HR σ N ρ h' (w.setRow p.b (ovr cs (p.base + o) vs)) ∧ St ρ h w ρ h' (w.setRow p.b (ovr cs (p.base + o) vs)) ∧ h'.nx = h.nx := by
  unfold storeH at e
  obtain ⟨ty, sz, n, t, wr, rel, hr, e⟩ := onCells_some e
  replace e := ite_some.1 e
  obtain ⟨hwr, e⟩ := e
  replace e := ite_some.1 e
  obtain ⟨hsz1, e⟩ := e
  subst hwr
  obtain ⟨l, hl, e⟩ := bnd_some.1 e
  obtain ⟨l', hl', e⟩ := bnd_some.1 e
  obtain ⟨t', ht', e⟩ := bnd_some.1 e
  obtain ⟨h1, hk, e⟩ := bnd_some.1 e
  have hsz1 : 1 ≤ sz := Nat.le_of_ble_eq_true hsz1
  change t.get (o / sz) = some l at hl
  change overAt m l (o % sz) = some l' at hl'
  change t.set (some l') 30 (o / sz) = some t' at ht'
  obtain ⟨k1, k2⟩ := kills_some hk
  obtain ⟨k3, k4⟩ := put_some e
  obtain ⟨p, hp, cs, fz, hc, hsz, hfz, hels⟩ := hh.live r _ hr
  obtain ⟨g1, g2⟩ := overAt_get hl'
  obtain ⟨g3, g4⟩ := overAt_some hl'
  have gt := Tr.get_set ht'
  obtain ⟨hin, hlen, hseg⟩ := hels _ _ hl
  have hvl : vs.length = m.length := hv.length
  have hdm : o / sz * sz + o % sz = o := by have := Nat.div_add_mod o sz; rw [Nat.mul_comm] at this; exact this
  have hml : o % sz < sz := Nat.mod_lt _ hsz1
  have hbound : p.base + o + vs.length ≤ cs.size := by
    obtain ⟨v, hv1, _⟩ := hseg.2 (l.length - 1) (l[l.length - 1]'(by omega)) (List.getElem?_eq_getElem _)
    have := (Array.getElem?_eq_some_iff.1 hv1).1
    omega
  have hone : ∀ v ∈ vs, v.oneCell' = true := fun v hvm => by
    obtain ⟨j, hj, rfl⟩ := List.mem_iff_getElem.1 hvm
    obtain ⟨u, hu1, hu2⟩ := hv.get j (m[j]'(by omega)) (List.getElem?_eq_getElem _)
    have : vs[j] = u := by simpa [hj] using hu1
    rw [this]
    exact VR.one hσ (List.all_eq_true.1 hm _ (List.getElem_mem _)) hu2
  have hfz' := hfz.2 rfl
  refine ⟨p, cs, ty, fz, hp, hc, fun a ha => ?_, hbound, hfz', ?_, ?_, k3.trans k1⟩
  · have := run_storeCells_ovr P p.b a ty fz vs 0 cs w hc hfz' (by omega) hone
    simpa [ha] using this
  · -- what no write touches
    have apart : ∀ q row, h'.get q = some row → q ≠ r → h.get q = some row ∧ ∀ pq, ρ q = some pq → pq.b ≠ p.b := fun q row hq hne => by
      rw [k4, if_neg hne, k2] at hq
      by_cases hrel : q ∈ rel
      · rw [if_pos hrel] at hq; cases hq
      · rw [if_neg hrel] at hq
        refine ⟨hq, fun pq hpq => ?_⟩
        have h2 : r ∉ relOf row := fun hc => by
          have := hh.old q r row _ hq hc hr
          cases this
        exact fun hb => hh.sep r q _ row p pq hr hq (Ne.symm hne) hrel h2 hp hpq hb.symm
    have getr : h'.get r = some (.cells ty sz n t' true []) := by rw [k4, if_pos rfl]
    refine ⟨fun q row hq => ?_, fun q hq => hh.new q (by rw [k3, k1] at hq; exact hq), fun q q' row row' pq pq' h1 h2 hne hr1 hr2 hp1 hp2 => ?_, fun q q' row row' h1 h2 h3 => ?_, fun q q' row h1 h2 => ?_, hh.glob⟩
    · by_cases hne : q = r
      · subst hne
        rw [getr] at hq
        cases hq
        refine ⟨p, hp, ovr cs (p.base + o) vs, fz, setRow_heap w p.b cs _ ty fz hc, by rw [ovr_size hbound, hsz], ⟨hfz.1, fun _ => by rw [ovr_size hbound]; exact hfz'⟩, fun i l2 hi2 => ?_⟩
        rw [gt] at hi2
        by_cases hio : i = o / sz
        · rw [if_pos hio] at hi2
          cases hi2
          subst hio
          refine ⟨hin, g1.trans hlen, ?_, fun j a ha => ?_⟩
          · rw [g4]
            simp only [List.all_append, Bool.and_eq_true]
            exact ⟨⟨List.all_eq_true.2 fun x hx => List.all_eq_true.1 hseg.1 x (List.mem_of_mem_take hx), hm⟩, List.all_eq_true.2 fun x hx => List.all_eq_true.1 hseg.1 x (List.mem_of_mem_drop hx)⟩
          · rw [g2] at ha
            rw [ovr_get hbound]
            by_cases hj : o % sz ≤ j ∧ j < o % sz + m.length
            · rw [if_pos hj] at ha
              rw [if_pos (by omega)]
              obtain ⟨v, hv1, hv2⟩ := hv.get _ _ ha
              exact ⟨v, by rw [show p.base + o / sz * sz + j - (p.base + o) = j - o % sz by omega]; exact hv1, hv2⟩
            · rw [if_neg hj] at ha
              rw [if_neg (by omega)]
              exact hseg.2 j a ha
        · rw [if_neg hio] at hi2
          obtain ⟨q1, q2, q3⟩ := hels _ _ hi2
          refine ⟨q1, q2, q3.1, fun j a ha => ?_⟩
          rw [ovr_get hbound, if_neg ?_]
          · exact q3.2 j a ha
          · have hj : j < sz := by rw [← q2]; exact (List.getElem?_eq_some_iff.1 ha).1
            have hlt : o % sz + m.length ≤ sz := by omega
            rcases Nat.lt_or_gt_of_ne hio with hlt' | hlt'
            · have : (i + 1) * sz ≤ o / sz * sz := Nat.mul_le_mul_right sz hlt'
              rw [Nat.add_mul, Nat.one_mul] at this
              omega
            · have : (o / sz + 1) * sz ≤ i * sz := Nat.mul_le_mul_right sz hlt'
              rw [Nat.add_mul, Nat.one_mul] at this
              omega
      · obtain ⟨hq', hpq⟩ := apart q row hq hne
        obtain ⟨pq, k5, k6⟩ := hh.live q row hq'
        exact ⟨pq, k5, k6.mono (Sub.refl _) (setRow_other w p.b pq.b _ (hpq pq k5))⟩
    · by_cases e1 : q = r
      · subst e1
        rw [hp] at hp1
        cases hp1
        exact fun hb => (apart q' row' h2 (Ne.symm hne)).2 pq' hp2 hb.symm
      · by_cases e2 : q' = r
        · subst e2
          rw [hp] at hp2
          cases hp2
          exact (apart q row h1 e1).2 pq hp1
        · exact hh.sep q q' row row' pq pq' (apart q row h1 e1).1 (apart q' row' h2 e2).1 hne hr1 hr2 hp1 hp2
    · by_cases e1 : q = r
      · subst e1
        rw [getr] at h1
        cases h1
        cases h2
      · have h1' := (apart q row h1 e1).1
        by_cases e2 : q' = r
        · subst e2
          exact absurd (hh.old q q' row _ h1' h2 hr) (by simp [wrOf])
        · exact hh.old q q' row row' h1' h2 (apart q' row' h3 e2).1
    · by_cases e1 : q = r
      · subst e1
        rw [getr] at h1
        cases h1
        cases h2
      · exact hh.rels q q' row (apart q row h1 e1).1 h2
  · have getr' : h'.get r = some (.cells ty sz n t' true []) := by rw [k4, if_pos rfl]
    refine St.of_setRow hr hp _ (k3.trans k1) fun q row hq => ?_
    by_cases hne : q = r
    · subst hne; rw [getr'] at hq; cases hq; exact ⟨_, hr, fun _ => rfl, fun x hx => nomatch hx⟩
    · rw [k4, if_neg hne, k2] at hq
      by_cases hrel : q ∈ rel
      · rw [if_pos hrel] at hq; cases hq
      · rw [if_neg hrel] at hq; exact ⟨row, hq, id, fun _ h => h⟩

/-! ### New rows -/

def upd (ρ : Rho) (r : Nat) (p : Pl) : Rho := fun q => if q = r then some p else ρ q
theorem upd_same (ρ : Rho) (r : Nat) (p : Pl) : upd ρ r p r = some p := if_pos rfl
theorem upd_sub {r : Nat} (hr : ρ r = none) (p : Pl) : Sub ρ (upd ρ r p) := fun q x e => by
  unfold upd
  by_cases hq : q = r
  · subst hq; rw [hr] at e; cases e
  · rw [if_neg hq]; exact e

def pushed (w : World) (o : Obj) : World := { w with heap := w.heap.push o }
theorem pushed_new (w : World) (o : Obj) : (pushed w o).heap[w.heap.size]? = some o := by
  show (w.heap.push o)[w.heap.size]? = some o
  rw [Array.getElem?_push, if_pos rfl]
theorem pushed_old (w : World) (o : Obj) {b : Nat} (h : b < w.heap.size) : (pushed w o).heap[b]? = w.heap[b]? := by
  simp only [pushed]
  rw [Array.getElem?_push, if_neg (by omega)]
theorem pushed_size (w : World) (o : Obj) : (pushed w o).heap.size = w.heap.size + 1 := by simp [pushed]

/-- A new row in a new block. -/
theorem HR.add (hh : HR σ N ρ h w) {ρ0 : Rho} {h0 : H} {w0 : World} (st0 : St ρ0 h0 w0 ρ h w) {r : Nat} (hr0 : h0.nx ≤ r) (hr : ρ r = none) {row : Row} {h' : H} (hg : ∀ q, h'.get q = if q = r then some row else h.get q) (hn : h.nx ≤ h'.nx) (hrn : r < h'.nx) (hrl : ∀ q, q ∈ relOf row → ∃ row', h.get q = some row' ∧ wrOf row' = false) {o : Obj} {p : Pl} (hp : p.b = w.heap.size)
    (hrow : RowR σ (upd ρ r p) (pushed w o) p row) : HR σ N (upd ρ r p) h' (pushed w o) ∧ St ρ0 h0 w0 (upd ρ r p) h' (pushed w o) := by
  have hrel : ∀ q, q ∈ relOf row → ρ q ≠ none ∧ ∀ row', h.get q = some row' → wrOf row' = false := fun q hq => by
    obtain ⟨row', k1, k2⟩ := hrl q hq
    obtain ⟨p', k3, _⟩ := hh.live q row' k1
    exact ⟨by rw [k3]; exact (fun h => nomatch h), fun row2 k4 => by rw [k1] at k4; cases k4; exact k2⟩
  have hgr : h.get r = none := by
    cases hc : h.get r with
    | none => rfl
    | some row0 => obtain ⟨p0, h1, _⟩ := hh.live r row0 hc; rw [hr] at h1; cases h1
  have sub := upd_sub hr p
  have was : ∀ q row0, h'.get q = some row0 → q ≠ r → h.get q = some row0 := fun q row0 hq hne => by rw [hg, if_neg hne] at hq; exact hq
  have isr : ∀ row0, h'.get r = some row0 → row0 = row := fun row0 hq => by rw [hg, if_pos rfl] at hq; cases hq; rfl
  have upn : ∀ q pq, q ≠ r → upd ρ r p q = some pq → ρ q = some pq := fun q pq hne e => by unfold upd at e; rw [if_neg hne] at e; exact e
  have blk : ∀ q row0 pq, h.get q = some row0 → ρ q = some pq → pq.b ≠ w.heap.size := fun q row0 pq h1 h2 => by
    obtain ⟨p0, h3, h4⟩ := hh.live q row0 h1
    rw [h2] at h3; cases h3
    exact Nat.ne_of_lt h4.lt
  constructor
  · refine ⟨fun q row0 hq => ?_, fun q hq => ?_, fun q q' row0 row1 pq pq' h1 h2 hne hr1 hr2 hp1 hp2 => ?_, fun q q' row0 row1 h1 h2 h3 => ?_, fun q q' row0 h1 h2 => ?_, fun g hg => let ⟨z, e⟩ := hh.glob g hg; ⟨z, sub _ _ e⟩⟩
    · by_cases hne : q = r
      · subst hne; cases isr _ hq; exact ⟨p, upd_same _ _ _, hrow⟩
      · obtain ⟨pq, h1, h2⟩ := hh.live q row0 (was q row0 hq hne)
        exact ⟨pq, sub _ _ h1, h2.mono sub (pushed_old w o h2.lt)⟩
    · unfold upd; rw [if_neg (by omega)]; exact hh.new q (by omega)
    · by_cases e1 : q = r
      · subst e1
        rw [upd_same] at hp1; cases hp1
        have := upn q' pq' (Ne.symm hne) hp2
        rw [hp]; exact Ne.symm (blk q' row1 pq' (was _ _ h2 (Ne.symm hne)) this)
      · by_cases e2 : q' = r
        · subst e2
          rw [upd_same] at hp2; cases hp2
          rw [hp]; exact blk q row0 pq (was _ _ h1 e1) (upn q pq e1 hp1)
        · exact hh.sep q q' row0 row1 pq pq' (was _ _ h1 e1) (was _ _ h2 e2) hne hr1 hr2 (upn _ _ e1 hp1) (upn _ _ e2 hp2)
    · by_cases e1 : q = r
      · subst e1; cases isr _ h1
        have hne : q' ≠ q := fun e => by subst e; exact (hrel _ h2).1 hr
        exact (hrel _ h2).2 _ (was _ _ h3 hne)
      · by_cases e2 : q' = r
        · subst e2; exact absurd hr (hh.rels q q' row0 (was _ _ h1 e1) h2)
        · exact hh.old q q' row0 row1 (was _ _ h1 e1) h2 (was _ _ h3 e2)
    · by_cases e1 : q = r
      · subst e1; cases isr _ h1
        cases hq : ρ q' with
        | none => exact absurd hq (hrel _ h2).1
        | some x => rw [sub _ _ hq]; exact fun h => nomatch h
      · have := hh.rels q q' row0 (was _ _ h1 e1) h2
        cases hq : ρ q' with
        | none => exact absurd hq this
        | some x => rw [sub _ _ hq]; exact fun h => nomatch h
  · have hle := st0.size
    refine ⟨st0.os, st0.tape, st0.output, by rw [pushed_size]; omega, fun b hb hno => (pushed_old w o (by omega)).trans (st0.block b hb hno), st0.rho.trans sub, fun b hb ⟨q, row0, pq, h1, h2, h3, h4⟩ => ?_, Nat.le_trans st0.nx hn, fun q row0 pq h1 h2 => ?_, fun q row0 h1 => ?_, fun q row0 x h1 h2 => ?_, fun q h1 h2 => ?_⟩
    · by_cases e1 : q = r
      · subst e1; rw [upd_same] at h3; cases h3; omega
      · exact st0.owns b hb ⟨q, row0, pq, was _ _ h1 e1, h2, upn _ _ e1 h3, h4⟩
    · by_cases e1 : q = r
      · subst e1; rw [upd_same] at h2; cases h2; exact .inr (.inl (by omega))
      · exact st0.dom q row0 pq (was _ _ h1 e1) (upn _ _ e1 h2)
    · by_cases e1 : q = r
      · subst e1; exact .inr hr0
      · exact st0.ids q row0 (was _ _ h1 e1)
    · by_cases e1 : q = r
      · subst e1; cases isr _ h1
        obtain ⟨row', k1, _⟩ := hrl x h2
        exact (st0.ids x row' k1).elim (fun h => .inr (.inl h)) .inl
      · exact st0.rel q row0 x (was _ _ h1 e1) h2
    · unfold upd; rw [if_neg (by omega)]; exact st0.fresh q h1 h2
end
end Go.Exe
