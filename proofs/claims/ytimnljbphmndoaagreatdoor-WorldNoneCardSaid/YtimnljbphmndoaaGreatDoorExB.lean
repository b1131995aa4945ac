/- The machine's lists and tries, as plain ones. -/
import Derived.Test.YtimnljbphmndoaaGreatDoorExA
namespace Go.Exe
open Go

theorem force_eq {R : Type} (n : Nat) (k : Nat → R) : force n k = k n := by cases n <;> rfl
theorem forceI_eq {R : Type} (n : Int) (k : Int → R) : forceI n k = k n := by
  cases n with
  | ofNat a => exact force_eq a fun a => k (.ofNat a)
  | negSucc a => exact force_eq a fun a => k (.negSucc a)
theorem bnd_some {α β : Type} {x : Option α} {f : α → Option β} {b : β} : bnd x f = some b ↔ ∃ a, x = some a ∧ f a = some b := by
  cases x with
  | none => exact ⟨fun h => (nomatch h), fun ⟨_, h, _⟩ => (nomatch h)⟩
  | some a => exact ⟨fun h => ⟨a, rfl, h⟩, fun ⟨_, h, k⟩ => by cases h; exact k⟩
theorem bnd2_some {α β γ : Type} {x : Option (α × β)} {f : α → β → Option γ} {c : γ} : bnd2 x f = some c ↔ ∃ a b, x = some (a, b) ∧ f a b = some c := by
  cases x with
  | none => exact ⟨fun h => (nomatch h), fun ⟨_, _, h, _⟩ => (nomatch h)⟩
  | some q => exact ⟨fun h => ⟨q.1, q.2, rfl, h⟩, fun ⟨_, _, h, k⟩ => by cases h; exact k⟩
theorem ite_some {α : Type} {b : Bool} {x : Option α} {a : α} : ite' b x = some a ↔ b = true ∧ x = some a := by
  cases b with
  | false => exact ⟨fun h => (nomatch h), fun h => (nomatch h.1)⟩
  | true => exact ⟨fun h => ⟨rfl, h⟩, fun h => h.2⟩

section
variable {α : Type}

theorem nth_eq : ∀ (l : List α) (i : Nat), nth l i = l[i]?
  | [], _ => rfl
  | _ :: _, 0 => rfl
  | _ :: l, i + 1 => (nth_eq l i).trans List.getElem?_cons_succ.symm

theorem setN_some {x : α} : ∀ {l : List α} {i : Nat} {m : List α}, setN x l i = some m → i < l.length ∧ m = l.set i x
  | [], i, m, h => nomatch h
  | a :: l, 0, m, h => by cases h; exact ⟨Nat.succ_pos _, rfl⟩
  | a :: l, i + 1, m, h => by
    obtain ⟨l', h1, h2⟩ := bnd_some.1 (show bnd (setN x l i) (fun l' => some (a :: l')) = some m from h)
    cases h2
    obtain ⟨h3, rfl⟩ := setN_some h1
    exact ⟨Nat.succ_lt_succ h3, rfl⟩

theorem dropN_some : ∀ {l : List α} {i : Nat} {m : List α}, dropN l i = some m → i ≤ l.length ∧ m = l.drop i
  | [], 0, m, h => by cases h; exact ⟨Nat.le_refl _, rfl⟩
  | [], i + 1, m, h => nomatch h
  | a :: l, 0, m, h => by cases h; exact ⟨Nat.zero_le _, rfl⟩
  | a :: l, i + 1, m, h => let ⟨h1, h2⟩ := dropN_some (l := l) (i := i) h; ⟨Nat.succ_le_succ h1, h2⟩

theorem takeN_some : ∀ {l : List α} {i : Nat} {m : List α}, takeN l i = some m → i ≤ l.length ∧ m = l.take i
  | [], 0, m, h => by cases h; exact ⟨Nat.le_refl _, rfl⟩
  | [], i + 1, m, h => nomatch h
  | a :: l, 0, m, h => by cases h; exact ⟨Nat.zero_le _, rfl⟩
  | a :: l, i + 1, m, h => by
    obtain ⟨l', h1, h2⟩ := bnd_some.1 (show bnd (takeN l i) (fun l' => some (a :: l')) = some m from h)
    cases h2
    obtain ⟨h3, rfl⟩ := takeN_some h1
    exact ⟨Nat.succ_le_succ h3, rfl⟩

theorem sub_some {l : List α} {o n : Nat} {m : List α} (h : sub l o n = some m) : o + n ≤ l.length ∧ m = (l.drop o).take n := by
  obtain ⟨l', h1, h2⟩ := bnd_some.1 h
  obtain ⟨h3, rfl⟩ := dropN_some h1
  obtain ⟨h4, rfl⟩ := takeN_some h2
  rw [List.length_drop] at h4
  exact ⟨by omega, rfl⟩
theorem sub_get {l : List α} {o n : Nat} {m : List α} (h : sub l o n = some m) : m.length = n ∧ ∀ j, j < n → m[j]? = l[o + j]? := by
  obtain ⟨h1, rfl⟩ := sub_some h
  refine ⟨by simp; omega, fun j hj => ?_⟩
  rw [List.getElem?_take, if_pos hj, List.getElem?_drop]

theorem over_some : ∀ {m l : List α} {l' : List α}, over m l = some l' → m.length ≤ l.length ∧ l' = m ++ l.drop m.length
  | [], l, l', h => by cases h; exact ⟨Nat.zero_le _, rfl⟩
  | a :: m, [], l', h => nomatch h
  | a :: m, b :: l, l', h => by
    obtain ⟨l2, h1, h2⟩ := bnd_some.1 (show bnd (over m l) (fun l' => some (a :: l')) = some l' from h)
    cases h2
    obtain ⟨h3, rfl⟩ := over_some h1
    exact ⟨Nat.succ_le_succ h3, rfl⟩

theorem overAt_some {m : List α} : ∀ {l : List α} {i : Nat} {l' : List α}, overAt m l i = some l' → i + m.length ≤ l.length ∧ l' = l.take i ++ m ++ l.drop (i + m.length)
  | [], 0, l', h => by
    obtain ⟨h1, rfl⟩ := over_some (show over m [] = some l' from h)
    exact ⟨by simpa using h1, by simp⟩
  | [], i + 1, l', h => nomatch h
  | a :: l, 0, l', h => by
    obtain ⟨h1, rfl⟩ := over_some (show over m (a :: l) = some l' from h)
    exact ⟨by simpa using h1, by simp⟩
  | a :: l, i + 1, l', h => by
    obtain ⟨l2, h1, h2⟩ := bnd_some.1 (show bnd (overAt m l i) (fun l' => some (a :: l')) = some l' from h)
    cases h2
    obtain ⟨h3, rfl⟩ := overAt_some h1
    refine ⟨by simp; omega, ?_⟩
    rw [show i + 1 + m.length = i + m.length + 1 by omega]
    rfl
theorem overAt_get {m l : List α} {i : Nat} {l' : List α} (h : overAt m l i = some l') : l'.length = l.length ∧ ∀ j, l'[j]? = if i ≤ j ∧ j < i + m.length then m[j - i]? else l[j]? := by
  obtain ⟨h1, rfl⟩ := overAt_some h
  refine ⟨by simp; omega, fun j => ?_⟩
  rw [List.append_assoc]
  by_cases h2 : j < i
  · rw [List.getElem?_append_left (by simp; omega), List.getElem?_take, if_pos h2, if_neg (by omega)]
  · rw [List.getElem?_append_right (by simp; omega)]
    have e : (l.take i).length = i := by simp; omega
    rw [e]
    by_cases h3 : j < i + m.length
    · rw [List.getElem?_append_left (by omega), if_pos ⟨by omega, h3⟩]
    · rw [List.getElem?_append_right (by omega), if_neg (by omega), List.getElem?_drop]
      congr 1; omega

theorem app_eq : ∀ (l m : List α), app l m = some (l ++ m)
  | [], m => rfl
  | a :: l, m => by
    show bnd (app l m) (fun l' => some (a :: l')) = _
    rw [app_eq l m]; rfl
theorem len_eq : ∀ (l : List α), len l = l.length
  | [] => rfl
  | _ :: l => congrArg Nat.succ (len_eq l)
theorem rep_eq : ∀ (n : Nat) (a : α), rep n a = List.replicate n a
  | 0, a => rfl
  | n + 1, a => by rw [List.replicate_succ, ← rep_eq n a]; rfl

/-! ### Tries -/

theorem odd_eq (i : Nat) : Nat.beq (Nat.land i 1) 1 = decide (i % 2 = 1) := by
  have : Nat.land i 1 = i % 2 := Nat.and_one_is_mod i
  rw [this]
  cases Nat.mod_two_eq_zero_or_one i with
  | inl h => rw [h]; rfl
  | inr h => rw [h]; rfl
theorem beq_eq (i j : Nat) : Nat.beq i j = decide (i = j) := by
  by_cases h : i = j
  · subst h; simp [Nat.beq_refl]
  · rw [decide_eq_false h]; cases hb : Nat.beq i j with
    | false => rfl
    | true => exact absurd (Nat.eq_of_beq_eq_true hb) h

@[simp] theorem Tr.get_leaf (i : Nat) : (Tr.leaf : Tr α).get i = none := rfl
theorem Tr.get_node (l : Tr α) (v : Option α) (r : Tr α) (i : Nat) : (Tr.node l v r).get i = if i = 0 then v else if i % 2 = 1 then l.get (i / 2) else r.get (i / 2 - 1) := by
  show Bool.rec (motive := fun _ => Option α) (Bool.rec (motive := fun _ => Option α) (r.get (Nat.pred (Nat.div i 2))) (l.get (Nat.div i 2)) (Nat.beq (Nat.land i 1) 1)) v (Nat.beq i 0) = _
  rw [odd_eq, beq_eq]
  by_cases h : i = 0
  · rw [decide_eq_true h, if_pos h]
  · rw [decide_eq_false h, if_neg h]
    by_cases k : i % 2 = 1
    · rw [decide_eq_true k, if_pos k]; rfl
    · rw [decide_eq_false k, if_neg k]; rfl

theorem Tr.get_set {x : Option α} : ∀ {d : Nat} {t : Tr α} {i : Nat} {t' : Tr α}, t.set x d i = some t' → ∀ j, t'.get j = if j = i then x else t.get j
  | 0, t, i, t', h => nomatch h
  | d + 1, t, i, t', h => by
    have node : ∀ (l : Tr α) (v : Option α) (r : Tr α), (∀ j, t.get j = if j = 0 then v else if j % 2 = 1 then l.get (j / 2) else r.get (j / 2 - 1)) →
        Bool.rec (motive := fun _ => Option (Tr α)) (Bool.rec (motive := fun _ => Option (Tr α)) (bnd (Tr.set x d r (Nat.pred (Nat.div i 2))) fun r => some (.node l v r)) (bnd (Tr.set x d l (Nat.div i 2)) fun l => some (.node l v r)) (Nat.beq (Nat.land i 1) 1)) (some (.node l x r)) (Nat.beq i 0) = some t' → ∀ j, t'.get j = if j = i then x else t.get j := by
      intro l v r ht h j
      rw [odd_eq, beq_eq] at h
      by_cases h0 : i = 0
      · rw [decide_eq_true h0] at h
        cases h
        rw [Tr.get_node, ht]
        subst h0
        by_cases hj : j = 0
        · rw [if_pos hj, if_pos hj]
        · rw [if_neg hj, if_neg hj, if_neg hj]
      · rw [decide_eq_false h0] at h
        by_cases k : i % 2 = 1
        · rw [decide_eq_true k] at h
          obtain ⟨l', h1, h2⟩ := bnd_some.1 h
          cases h2
          have ih := Tr.get_set h1
          rw [Tr.get_node, ht, ih]
          show (if j = 0 then v else if j % 2 = 1 then (if j / 2 = i / 2 then x else l.get (j / 2)) else r.get (j / 2 - 1)) = _
          by_cases hj : j = 0
          · rw [if_pos hj, if_neg (by omega), if_pos hj]
          · rw [if_neg hj, if_neg hj]
            by_cases hj1 : j % 2 = 1
            · rw [if_pos hj1, if_pos hj1]
              by_cases e : j = i
              · rw [if_pos e, if_pos (by omega)]
              · rw [if_neg e, if_neg (by omega)]
            · rw [if_neg hj1, if_neg hj1, if_neg (by omega)]
        · rw [decide_eq_false k] at h
          obtain ⟨r', h1, h2⟩ := bnd_some.1 h
          cases h2
          have ih := Tr.get_set h1
          rw [Tr.get_node, ht, ih]
          show (if j = 0 then v else if j % 2 = 1 then l.get (j / 2) else (if j / 2 - 1 = i / 2 - 1 then x else r.get (j / 2 - 1))) = _
          by_cases hj : j = 0
          · rw [if_pos hj, if_neg (by omega), if_pos hj]
          · rw [if_neg hj, if_neg hj]
            by_cases hj1 : j % 2 = 1
            · rw [if_pos hj1, if_pos hj1, if_neg (by omega)]
            · rw [if_neg hj1, if_neg hj1]
              by_cases e : j = i
              · rw [if_pos e, if_pos (by omega)]
              · rw [if_neg e, if_neg (by omega)]
    cases t with
    | leaf => exact node .leaf none .leaf (fun j => by simp) h
    | node l v r => exact node l v r (fun j => Tr.get_node l v r j) h
end

/-! ### Memory -/

theorem put_some {h h' : H} {r : Nat} {row : Option Row} (e : h.put r row = some h') : h'.nx = h.nx ∧ ∀ q, h'.get q = if q = r then row else h.get q := by
  obtain ⟨t, nx⟩ := h
  obtain ⟨t', h1, h2⟩ := bnd_some.1 (show bnd (t.set row 30 r) (fun t => some (⟨t, nx⟩ : H)) = some h' from e)
  cases h2
  exact ⟨rfl, Tr.get_set h1⟩
theorem kills_some : ∀ {l : List Nat} {h h' : H}, H.kills l h = some h' → h'.nx = h.nx ∧ ∀ q, h'.get q = if q ∈ l then none else h.get q
  | [], h, h', e => by cases e; exact ⟨rfl, fun q => by simp⟩
  | r :: l, h, h', e => by
    obtain ⟨h1, e1, e2⟩ := bnd_some.1 (show bnd (h.put r none) (H.kills l) = some h' from e)
    obtain ⟨k1, k2⟩ := put_some e1
    obtain ⟨k3, k4⟩ := kills_some e2
    refine ⟨k3.trans k1, fun q => ?_⟩
    rw [k4, k2]
    by_cases h1 : q ∈ l
    · simp [h1]
    · by_cases h2 : q = r <;> simp [h1, h2]
theorem new_some {R : Type} {h : H} {row : Row} {k : Nat → H → Option R} {x : R} (e : h.new row k = some x) : ∃ h' : H, k h.nx h' = some x ∧ h'.nx = h.nx + 1 ∧ ∀ q, h'.get q = if q = h.nx then some row else h.get q := by
  obtain ⟨t, nx⟩ := h
  obtain ⟨t', h1, h2⟩ := bnd_some.1 (show bnd (t.set (some row) 30 nx) (fun t => force nx fun r => force (Nat.succ nx) fun nx => k r ⟨t, nx⟩) = some x from e)
  rw [force_eq, force_eq] at h2
  exact ⟨_, h2, rfl, Tr.get_set h1⟩
theorem onCells_some {R : Type} {row : Option Row} {k : TypeId → Nat → Nat → Tr (List AV) → Bool → List Nat → Option R} {x : R} (h : onCells row k = some x) : ∃ e sz n t wr rel, row = some (.cells e sz n t wr rel) ∧ k e sz n t wr rel = some x := by
  cases row with
  | none => exact nomatch h
  | some row => cases row with
    | cells e sz n t wr rel => exact ⟨e, sz, n, t, wr, rel, rfl, h⟩
    | map => exact nomatch h
    | chan => exact nomatch h
    | iter => exact nomatch h
    | cap => exact nomatch h
theorem onIter_some {R : Type} {row : Option Row} {k : Nat → Nat → List Nat → Nat → Option R} {x : R} (h : onIter row k = some x) : ∃ m s l c, row = some (.iter m s l c) ∧ k m s l c = some x := by
  cases row with
  | none => exact nomatch h
  | some row => cases row with
    | iter m s l c => exact ⟨m, s, l, c, rfl, h⟩
    | cells => exact nomatch h
    | map => exact nomatch h
    | chan => exact nomatch h
    | cap => exact nomatch h
theorem onMap_some {R : Type} {row : Option Row} {k : List (AV × AV × Nat) → Nat → Option R} {x : R} (h : onMap row k = some x) : ∃ l c, row = some (.map l c) ∧ k l c = some x := by
  cases row with
  | none => exact nomatch h
  | some row => cases row with
    | map l c => exact ⟨l, c, rfl, h⟩
    | cells => exact nomatch h
    | chan => exact nomatch h
    | iter => exact nomatch h
    | cap => exact nomatch h
theorem onChan_some {R : Type} {row : Option Row} {k : Nat → List AV → Option R} {x : R} (h : onChan row k = some x) : ∃ n l, row = some (.chan n l) ∧ k n l = some x := by
  cases row with
  | none => exact nomatch h
  | some row => cases row with
    | chan n l => exact ⟨n, l, rfl, h⟩
    | cells => exact nomatch h
    | map => exact nomatch h
    | iter => exact nomatch h
    | cap => exact nomatch h
theorem onCap_some {R : Type} {row : Option Row} {k : AV → Option R} {x : R} (h : onCap row k = some x) : ∃ a, row = some (.cap a) ∧ k a = some x := by
  cases row with
  | none => exact nomatch h
  | some row => cases row with
    | cap a => exact ⟨a, rfl, h⟩
    | cells => exact nomatch h
    | map => exact nomatch h
    | chan => exact nomatch h
    | iter => exact nomatch h
end Go.Exe
