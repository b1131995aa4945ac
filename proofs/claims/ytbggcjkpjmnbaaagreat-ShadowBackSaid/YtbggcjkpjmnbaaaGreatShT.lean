/- Tables of rules: every function of the program comes to an answer. -/
import Derived.Test.YtbggcjkpjmnbaaaGreatFnC
namespace Go.Proofs.YtbggcjkpjmnbaaaGreat
open Go Go.Pod

abbrev Ru := Nat × (Nat → S_api_Rule)
abbrev Mo := Nat × (Nat → S_api_Mod)
abbrev Chs := Nat × (Nat → S_api_Change)

/-! ### An answer of which P holds -/

def Tot {α : Type} (x : Option α) (P : α → Prop) : Prop := ∃ r, x = some r ∧ P r

theorem Tot.ret {α : Type} {P : α → Prop} {r : α} (h : P r) : Tot (some r) P := ⟨r, rfl, h⟩
theorem Tot.bind {α β : Type} {x : Option α} {P : α → Prop} {f : α → Option β} {Q : β → Prop} (h : Tot x P) (k : ∀ r, P r → Tot (f r) Q) : Tot (x.bind f) Q := by
  obtain ⟨r, rfl, h⟩ := h; exact k r h
theorem Tot.chk {α : Type} {p : Prop} [Decidable p] {o : Option α} {P : α → Prop} (hp : p) (h : Tot o P) : Tot (Pod.chk p o) P := by
  unfold Pod.chk; rw [if_pos hp]; exact h
theorem Tot.ifs {α : Type} {b : Bool} {x y : Option α} {P : α → Prop} (h1 : b = true → Tot x P) (h2 : b = false → Tot y P) : Tot (Pod.ifs b x y) P := by
  cases b
  · exact h2 rfl
  · exact h1 rfl
theorem Tot.callIf {α : Type} {g : Bool} {x : Option α} {a : α} {P : α → Prop} (h : g = true → Tot x P) : Tot (Pod.callIf g x a) (fun r => g = true → P r) := by
  cases g
  · exact ⟨a, rfl, nofun⟩
  · obtain ⟨r, h1, h2⟩ := h rfl; exact ⟨r, h1, fun _ => h2⟩
theorem Tot.mono {α : Type} {x : Option α} {P Q : α → Prop} (h : Tot x P) (k : ∀ r, P r → Q r) : Tot x Q := by
  obtain ⟨r, h1, h2⟩ := h; exact ⟨r, h1, k r h2⟩

def LoP {S E R : Type} (I : S → Prop) (X : E → Prop) (Y : R → Prop) : Lo S E R → Prop
  | .next s => I s
  | .exit e => X e
  | .ret r => Y r
def SuP {E R : Type} (X : E → Prop) (Y : R → Prop) : E ⊕ R → Prop
  | .inl e => X e
  | .inr r => Y r

theorem Tot.iter {S E R : Type} {f : S → Option (Lo S E R)} {I : Nat → S → Prop} {X : E → Prop} {Y : R → Prop} (n : Nat) {k : Nat} (hk : n < k) (hs : ∀ i s, i < n → I i s → Tot (f s) (LoP (I (i + 1)) X Y)) (he : ∀ s, I n s → Tot (f s) (LoP (fun _ => False) X Y)) {s : S} (h : I 0 s) :
    Tot (Pod.iter f k s) (SuP X Y) := by
  have key : ∀ m i k s, i + m = n → m < k → I i s → Tot (Pod.iter f k s) (SuP X Y) := by
    intro m
    induction m with
    | zero =>
      intro i k s hi hk h
      obtain ⟨k, rfl⟩ : ∃ q, k = q + 1 := ⟨k - 1, by omega⟩
      have e : i = n := by omega
      subst e
      obtain ⟨o, h1, h2⟩ := he s h
      unfold Pod.iter
      rw [h1]
      cases o with
      | next s' => exact h2.elim
      | exit e => exact ⟨_, rfl, h2⟩
      | ret r => exact ⟨_, rfl, h2⟩
    | succ m ih =>
      intro i k s hi hk h
      obtain ⟨k, rfl⟩ : ∃ q, k = q + 1 := ⟨k - 1, by omega⟩
      obtain ⟨o, h1, h2⟩ := hs i s (by omega) h
      unfold Pod.iter
      rw [h1]
      cases o with
      | next s' => exact ih (i + 1) k s' (by omega) (by omega) h2
      | exit e => exact ⟨_, rfl, h2⟩
      | ret r => exact ⟨_, rfl, h2⟩
  exact key n 0 k s (by omega) hk h

theorem Tot.after {E R : Type} {x : Option (E ⊕ R)} {g : E → Option R} {X : E → Prop} {Y : R → Prop} (h : Tot x (SuP X Y)) (k : ∀ e, X e → Tot (g e) Y) : Tot (Pod.after x g) Y := by
  obtain ⟨o, rfl, h⟩ := h
  cases o with
  | inl e => exact k e h
  | inr r => exact ⟨r, rfl, h⟩

theorem wr {i : Nat} (h : i < 4611686018427387904) : IntKind.wrap .i64 ((i : Int) + (1 : Int)) = ((i + 1 : Nat) : Int) := by
  rw [IntKind.wrap_i64]; omega

abbrev Any1 {α : Type} : α → Prop := fun _ => True

/-- A place is looked for. -/
theorem t_scan {fu n : Nat} (hn : n < fu) (hb : n < 4611686018427387904) {L : Int → Option (Lo Int Unit Int)} {G : Nat → Option Bool} (hG : ∀ i, i < n → Tot (G i) Any1)
    (hL : ∀ i : Nat, L (i : Int) = ifs (decide ((i : Int) < ((n : Nat) : Int))) (chk (0 ≤ (i : Int) ∧ (i : Int) < ((n : Nat) : Int)) <| (G i).bind fun r0 => ifs r0 (some (.ret (i : Int))) (some (.next (IntKind.wrap .i64 ((i : Int) + (1 : Int)))))) (some (.exit ()))) :
    Tot (after (iter L fu (0 : Int)) fun _ => some (-1 : Int)) (fun r => -1 ≤ r ∧ r < (n : Int)) := by
  refine Tot.after (X := Any1) (Tot.iter (I := fun i s => s = (i : Int)) n hn (fun i s hi hs => ?_) (fun s hs => ?_) rfl) fun _ _ => Tot.ret (by omega)
  · subst hs
    rw [hL]
    exact Tot.ifs (fun _ => Tot.chk (by omega) <| (hG i hi).bind fun r _ => Tot.ifs (fun _ => Tot.ret (show -1 ≤ (i : Int) ∧ (i : Int) < (n : Int) by omega)) (fun _ => Tot.ret (wr (by omega)))) (fun _ => Tot.ret trivial)
  · subst hs
    rw [hL]
    exact Tot.ifs (fun h => absurd (of_decide_eq_true h) (by omega)) (fun _ => Tot.ret trivial)

/-! ### Headers, cubes, actions -/

theorem t_there (t : Int) : Tot (F_head_there t) (fun b => b = true → 0 ≤ t ∧ t < 12) := by
  unfold F_head_there
  refine Tot.ret fun h => ?_
  by_cases h1 : t ≥ 0
  · rw [decide_eq_true h1] at h; exact ⟨h1, of_decide_eq_true h⟩
  · rw [decide_eq_false h1] at h; cases h

theorem t_size {i : Nat} (h : i < 12) : Tot (F_head_Size (i : Int)) (fun r => 0 ≤ r) := by
  have : i = 0 ∨ i = 1 ∨ i = 2 ∨ i = 3 ∨ i = 4 ∨ i = 5 ∨ i = 6 ∨ i = 7 ∨ i = 8 ∨ i = 9 ∨ i = 10 ∨ i = 11 := by omega
  rcases this with rfl | rfl | rfl | rfl | rfl | rfl | rfl | rfl | rfl | rfl | rfl | rfl <;> exact ⟨_, rfl, by decide⟩

theorem t_sizeI (t : Int) : Tot (F_head_Size t) (fun r => 0 ≤ r) := by
  by_cases h : 0 ≤ t ∧ t < 12
  · obtain ⟨i, rfl⟩ : ∃ i : Nat, t = (i : Int) := ⟨t.toNat, by omega⟩
    exact t_size (by omega)
  · unfold F_head_Size
    exact (t_there t).bind fun r hr => Tot.ifs (fun _ => Tot.ret (Int.le_refl 0)) fun hb => absurd (hr (by cases r <;> simp_all)) h

theorem t_fits (t v : Int) : Tot (F_head_fits t v) Any1 := (t_sizeI t).bind fun _ hr => Tot.chk hr (Tot.ret trivial)

theorem t_headSound {fu : Nat} (hf : 12 < fu) (c : Nat → Int) : Tot (F_head_Sound fu c) Any1 :=
  Tot.after (X := Any1) (Tot.iter (I := fun i s => s = (i : Int)) 12 hf (fun i s hi hs => by
    subst hs
    exact Tot.ifs (fun _ => Tot.chk (by omega) <| Tot.chk (by omega) <| (t_fits _ _).bind fun r _ => Tot.ifs (fun _ => Tot.ret trivial) (fun _ => Tot.ret (wr (by omega)))) (fun _ => Tot.ret trivial))
    (fun s hs => by subst hs; exact Tot.ifs (fun h => absurd (of_decide_eq_true h) (by omega)) (fun _ => Tot.ret trivial)) rfl) fun _ _ => Tot.ret trivial

theorem t_cubeSound {fu : Nat} (hf : 12 < fu) (c : S_api_Cube) : Tot (F_cube_Sound fu c) Any1 :=
  (t_headSound hf _).bind fun _ _ => Tot.ifs (fun _ => Tot.ret trivial) fun _ =>
  Tot.after (X := Any1) (Tot.iter (I := fun i s => s = (i : Int)) 12 hf (fun i s hi hs => by
    subst hs
    exact Tot.ifs (fun _ => Tot.chk (by omega) <| Tot.chk (by omega) <| Tot.chk (by omega) <| Tot.chk (by omega) <| Tot.ifs (fun _ => Tot.ret trivial) (fun _ => Tot.ret (wr (by omega)))) (fun _ => Tot.ret trivial))
    (fun s hs => by subst hs; exact Tot.ifs (fun h => absurd (of_decide_eq_true h) (by omega)) (fun _ => Tot.ret trivial)) rfl) fun _ _ => Tot.ret trivial

theorem t_headSet (c : Nat → Int) (t v : Int) : Tot (F_head_Set c t v) Any1 :=
  (t_there t).bind fun r hr => Tot.ifs (fun _ => Tot.ret trivial) fun hb => (t_fits t v).bind fun q _ => Tot.ifs (fun _ => Tot.ret trivial) fun _ => by
    have := hr (by cases r <;> simp_all)
    exact Tot.chk (by omega) <| Tot.chk (by omega) <| Tot.ret trivial

theorem t_act (a : S_api_Act) : Tot (F_act_sound a) Any1 :=
  Tot.ifs (fun _ => Tot.ret trivial) fun _ => Tot.ifs (fun _ => (t_headSet _ _ _).bind fun _ _ => Tot.ret trivial) fun _ => Tot.ret trivial

theorem t_actsSound {fu : Nat} {a : Nat × (Nat → S_api_Act)} (hn : a.1 < fu) (hb : a.1 < 4611686018427387904) : Tot (F_act_Sound fu a) Any1 :=
  (Tot.callIf (P := Any1) fun _ => (t_scan hn hb (G := fun i => F_act_Sound_1 (a.2 i)) (fun i _ => (t_act _).bind fun _ _ => Tot.ret trivial) (fun _ => rfl)).bind fun _ _ => Tot.ret trivial).bind fun _ _ => Tot.ret trivial

theorem t_span (a b : Int) : Tot (F_rule_span a b) Any1 := Tot.ret trivial
theorem t_mspan (a b : Int) : Tot (F_mods_span a b) Any1 := Tot.ret trivial

theorem t_ruleSound {fu : Nat} (hf : 12 < fu) {r : S_api_Rule} (hn : r.f2.1 < fu) (hb : r.f2.1 < 4611686018427387904) : Tot (F_rule_Sound fu r) Any1 :=
  (t_cubeSound hf _).bind fun _ _ => (Tot.callIf fun _ => t_actsSound hn hb).bind fun _ _ => (Tot.callIf fun _ => t_span _ _).bind fun _ _ => (Tot.callIf fun _ => t_span _ _).bind fun _ _ =>
  (Tot.callIf fun _ => t_span _ _).bind fun _ _ => (Tot.callIf fun _ => t_span _ _).bind fun _ _ => Tot.ret trivial

theorem t_plain (m : S_api_Mod) : Tot (F_mods_plain m) Any1 := Tot.ret trivial

theorem t_modSound {fu : Nat} (hf : 12 < fu) {m : S_api_Mod} (hn : m.f3.1 < fu) (hb : m.f3.1 < 4611686018427387904) : Tot (F_mods_Sound fu m) Any1 :=
  (t_cubeSound hf _).bind fun _ _ => (Tot.callIf fun _ => t_actsSound hn hb).bind fun _ _ => (Tot.callIf fun _ => t_mspan _ _).bind fun _ _ => (Tot.callIf fun _ => t_mspan _ _).bind fun _ _ =>
  Tot.ifs (fun _ => Tot.ret trivial) fun _ => Tot.ifs (fun _ => (t_mspan _ _).bind fun _ _ => (Tot.callIf fun _ => t_mspan _ _).bind fun _ _ => Tot.ret trivial) fun _ =>
  Tot.ifs (fun _ => (t_plain m).bind fun _ _ => Tot.ret trivial) fun _ => Tot.ifs (fun _ => (t_plain m).bind fun _ _ => Tot.ret trivial) fun _ =>
  Tot.ifs (fun _ => (t_plain m).bind fun _ _ => Tot.ret trivial) fun _ => Tot.ifs (fun _ => (t_plain m).bind fun _ _ => Tot.ret trivial) fun _ => Tot.ret trivial

/-! ### Orders -/

theorem t_cmp (a b : Int) : Tot (F_cmp_Compare_uint64 a b) Any1 :=
  (Tot.ret (P := Any1) trivial).bind fun _ _ => (Tot.ret (P := Any1) trivial).bind fun _ _ => Tot.ifs (fun _ => Tot.ifs (fun _ => Tot.ret trivial) fun _ => Tot.ret trivial) fun _ =>
  Tot.ifs (fun _ => Tot.ret trivial) fun _ => Tot.ifs (fun _ => Tot.ret trivial) fun _ => Tot.ifs (fun _ => Tot.ret trivial) fun _ => Tot.ret trivial

theorem t_headCompare {fu : Nat} (hf : 12 < fu) (a b : Nat → Int) : Tot (F_head_Compare fu a b) Any1 := by
  refine Tot.bind (P := Any1) ?_ fun _ _ => Tot.ret trivial
  refine Tot.after (X := Any1) (Tot.iter (I := fun i s => s = (i : Int)) 12 hf (fun i s hi hs => ?_) (fun s hs => ?_) rfl) fun _ _ => Tot.ifs (fun _ => Tot.ret trivial) fun _ => Tot.ret trivial
  · subst hs
    refine Tot.ifs (fun _ => Tot.chk ⟨by omega, ?_⟩ <| Tot.ifs (fun _ => Tot.ret trivial) fun _ => Tot.chk ⟨by omega, ?_⟩ <| (t_cmp _ _).bind fun r _ => Tot.ifs (fun _ => Tot.ret trivial) (fun _ => Tot.ret (wr (by omega)))) (fun _ => Tot.ret trivial)
    · show (i : Int) < ((12 : Nat) : Int); omega
    · show (i : Int) < ((12 : Nat) : Int); omega
  · subst hs
    refine Tot.ifs (fun h => absurd (of_decide_eq_true h) ?_) (fun _ => Tot.ret trivial)
    show ¬ ((12 : Nat) : Int) < ((12 : Nat) : Int); omega

theorem t_or {fu : Nat} (hf : 2 < fu) (f : Nat → Int) : Tot (F_cmp_Or_int fu (2, f)) Any1 := by
  refine Tot.after (X := Any1) (Tot.iter (I := fun i s => s = (i : Int)) 2 hf (fun i s hi hs => ?_) (fun s hs => ?_) rfl) fun _ _ => Tot.ret trivial
  · subst hs
    refine Tot.ifs (fun _ => Tot.chk ⟨by omega, ?_⟩ <| Tot.ifs (fun _ => Tot.ret trivial) (fun _ => Tot.ret (wr (by omega)))) (fun _ => Tot.ret trivial)
    show (i : Int) < ((2 : Nat) : Int); omega
  · subst hs
    refine Tot.ifs (fun h => absurd (of_decide_eq_true h) ?_) (fun _ => Tot.ret trivial)
    show ¬ ((2 : Nat) : Int) < ((2 : Nat) : Int); omega

theorem t_compare {fu : Nat} (hf : 12 < fu) (a b : S_api_Rule) : Tot (F_rule_compare fu a b) Any1 :=
  Tot.ifs (fun _ => Tot.ifs (fun _ => Tot.ret trivial) fun _ => Tot.ret trivial) fun _ =>
  ((t_headCompare hf _ _).bind fun _ _ => (t_headCompare hf _ _).bind fun _ _ => (t_or (by omega) _).bind fun _ _ => Tot.ret (P := Any1) trivial).bind fun _ _ => Tot.ret trivial

theorem t_before {fu : Nat} (hf : 12 < fu) (a b : S_api_Rule) : Tot (F_rule_Before fu a b) Any1 := (t_compare hf a b).bind fun _ _ => Tot.ret trivial

/-! ### Tables -/

/-- Not too long, no action lists that are. -/
structure Gd (n B : Nat) (r : Ru) : Prop where
  len : r.1 ≤ n
  acts : ∀ i, i < r.1 → (r.2 i).f2.1 ≤ B

theorem Gd.mono {n m B : Nat} {r : Ru} (h : Gd n B r) (k : n ≤ m) : Gd m B r := ⟨Nat.le_trans h.len k, h.acts⟩
theorem Gd.nil {n B : Nat} {f : Nat → S_api_Rule} : Gd n B (0, f) := ⟨Nat.zero_le _, fun i hi => absurd hi (Nat.not_lt_zero i)⟩
theorem Gd.snoc {n B : Nat} {m : Ru} (h : Gd n B m) {r z : S_api_Rule} (hr : r.f2.1 ≤ B) : Gd (n + 1) B ((m.1 + 1), (fun i => if i < m.1 then m.2 i else (fun i => ([r] : List S_api_Rule).getD i z) (i - m.1))) := by
  refine ⟨Nat.succ_le_succ h.len, fun i hi => ?_⟩
  show (S_api_Rule.f2 (if i < m.1 then m.2 i else (fun i => ([r] : List S_api_Rule).getD i z) (i - m.1))).1 ≤ B
  by_cases h1 : i < m.1
  · rw [if_pos h1]; exact h.acts i h1
  · rw [if_neg h1]
    have : i - m.1 = 0 := by have : i < m.1 + 1 := hi; omega
    rw [this]; exact hr

structure BOk (B fu : Nat) : Prop where
  room : B * 32 ≤ 140737488355328
  fu : B + 1000 ≤ fu

theorem BOk.lt {B fu : Nat} (h : BOk B fu) {k : Nat} (hk : k ≤ B) : k < fu := by have := h.fu; omega
theorem BOk.lt2 {B fu : Nat} (h : BOk B fu) {k : Nat} (hk : k ≤ B) : k < 4611686018427387904 := by have := h.room; omega
theorem BOk.f {B fu : Nat} (h : BOk B fu) : 12 < fu := by have := h.fu; omega

theorem t_table {B fu n : Nat} (hB : BOk B fu) (hn : n ≤ 900) {r : Ru} (h : Gd n B r) : Tot (F_rule_Table fu r) Any1 := by
  have hlen := h.len
  refine Tot.after (X := Any1) (Tot.iter (I := fun i s => s = (i : Int)) r.1 (by have := hB.fu; omega) (fun i s hi hs => ?_) (fun s hs => ?_) rfl) fun _ _ => Tot.ret trivial
  · subst hs
    refine Tot.ifs (fun _ => Tot.chk (by omega) <| (t_ruleSound hB.f (hB.lt (h.acts i hi)) (hB.lt2 (h.acts i hi))).bind fun r0 _ => Tot.chk ?_ <| (Tot.callIf fun _ => t_before hB.f _ _).bind fun r1 _ => Tot.ifs (fun _ => Tot.ret trivial) (fun _ => Tot.ret (wr (by omega)))) (fun _ => Tot.ret trivial)
    intro hg
    have : (i : Int) > 0 := of_decide_eq_true (Bool.and_eq_true_iff.1 hg).2
    rw [IntKind.wrap_i64]
    omega
  · subst hs
    exact Tot.ifs (fun h => absurd (of_decide_eq_true h) (by omega)) (fun _ => Tot.ret trivial)

theorem clone_eq {a : Nat × (Nat → S_api_Act)} (h : a.1 * 32 ≤ 140737488355328) : F_slices_Clone_api_Act a = some a := by
  unfold F_slices_Clone_api_Act chk
  rw [if_pos ⟨by omega, by omega⟩]
theorem clip_eq (a : Nat × (Nat → S_api_Act)) : F_slices_Clip_api_Act a = some a := by
  unfold F_slices_Clip_api_Act chk
  rw [if_pos (by omega)]
  rfl
theorem copied_eq {r : S_api_Rule} (h : r.f2.1 * 32 ≤ 140737488355328) : F_rule_copied r = some r := by
  unfold F_rule_copied
  rw [clone_eq h, Option.bind_some, clip_eq, Option.bind_some]
theorem BOk.r {B fu : Nat} (h : BOk B fu) {k : Nat} (hk : k ≤ B) : k * 32 ≤ 140737488355328 := Nat.le_trans (Nat.mul_le_mul_right _ hk) h.room

theorem mrule_eq {m : S_api_Mod} (h : m.f3.1 * 32 ≤ 140737488355328) : F_mods_Rule m = some ⟨m.f1, m.f2, m.f3, m.f4, m.f5, m.f6, 0, 0, 0⟩ := by
  unfold F_mods_Rule
  rw [clone_eq h, Option.bind_some, clip_eq, Option.bind_some]

theorem room272 {k : Nat} (h : k ≤ 1000) : RoomOk (k + 1) 272 := ⟨by omega, by omega⟩

theorem t_copyL {B fu n : Nat} (hB : BOk B fu) (hn : n ≤ 900) {r : Ru} (h : Gd n B r) {L : Int × Ru → Option (Lo (Int × Ru) Ru Ru)} (hL : ∀ (i : Nat) (m : Ru), L ((i : Int), m) = F_rule_Copy_L1 fu r ((r.1 : Nat) : Int) (i : Int) m) :
    Tot (iter L fu ((0 : Int), (0, (fun _ => S_api_Rule.z)))) (SuP (Gd n B) (Gd n B)) := by
  have hlen := h.len
  refine Tot.iter (I := fun i s => ∃ m, s = ((i : Int), m) ∧ Gd i B m) r.1 (by have := hB.fu; omega) (fun i s hi hs => ?_) (fun s hs => ?_) ⟨_, rfl, Gd.nil⟩
  · obtain ⟨m, rfl, hm⟩ := hs
    rw [hL]
    unfold F_rule_Copy_L1
    refine Tot.ifs (fun _ => Tot.chk (by omega) ?_) (fun _ => Tot.ret (hm.mono (by omega)))
    have e : F_rule_copied (r.2 (i : Int).toNat) = some (r.2 i) := copied_eq (hB.r (h.acts i hi))
    rw [e, Option.bind_some]
    have := hm.len
    exact Tot.chk (room272 (by omega)) (Tot.ret ⟨_, by rw [wr (by omega)], hm.snoc (h.acts i hi)⟩)
  · obtain ⟨m, rfl, hm⟩ := hs
    rw [hL]
    exact Tot.ifs (fun h => absurd (of_decide_eq_true h) (by omega)) (fun _ => Tot.ret (hm.mono hlen))

theorem clipR_eq (a : Ru) : F_slices_Clip_api_Rule a = some a := by
  unfold F_slices_Clip_api_Rule chk
  rw [if_pos (by omega)]
  rfl

theorem t_copy {B fu n : Nat} (hB : BOk B fu) (hn : n ≤ 900) {r : Ru} (h : Gd n B r) : Tot (F_rule_Copy fu r) (Gd n B) :=
  Tot.after (t_copyL hB hn h fun _ _ => rfl) fun e he => by rw [clipR_eq]; exact Tot.ret he

theorem t_copyOwn {B fu n : Nat} (hB : BOk B fu) (hn : n ≤ 900) {r : Ru} (h : Gd n B r) : Tot (F_rule_Copy_own fu r) (Gd n B) :=
  Tot.after (t_copyL hB hn h fun _ _ => rfl) fun e he => Tot.ret he

/-! ### Sorting -/

theorem mid_eq {a b : Nat} (h : a + b < 4611686018427387904) : IntKind.wrap .i64 (ishr .u64 (IntKind.wrap .u64 (IntKind.wrap .i64 ((a : Int) + (b : Int)))) (1 : Int)) = (((a + b) / 2 : Nat) : Int) := by
  have e1 : IntKind.wrap .i64 ((a : Int) + (b : Int)) = ((a + b : Nat) : Int) := by rw [IntKind.wrap_i64]; omega
  have e2 : IntKind.wrap .u64 ((a + b : Nat) : Int) = ((a + b : Nat) : Int) := by rw [IntKind.wrap_u64]; omega
  rw [e1, e2]
  unfold ishr
  rw [show (2 : Int) ^ min (1 : Int).toNat IntKind.u64.bits = 2 from rfl, Int.fdiv_eq_ediv_of_nonneg _ (by decide), IntKind.wrap_i64]
  omega

theorem t_bin {B fu n : Nat} (hB : BOk B fu) (hn : n ≤ 900) {r : Ru} (h : Gd n B r) (x : S_api_Rule) : Tot (F_slices_BinarySearchFunc_api_Rule_rule_compare fu r x) (fun q => 0 ≤ q.1 ∧ q.1 ≤ (r.1 : Int) ∧ (q.2 = true → q.1 < (r.1 : Int))) := by
  have hlen := h.len
  refine Tot.after (X := fun e : Int => 0 ≤ e ∧ e ≤ (r.1 : Int)) (Tot.iter (I := fun i s => ∃ a b : Nat, s = ((a : Int), (b : Int)) ∧ a ≤ b ∧ b ≤ r.1 ∧ b - a ≤ r.1 - i) r.1 (by have := hB.fu; omega) (fun i s hi hs => ?_) (fun s hs => ?_) ⟨0, r.1, rfl, by omega, by omega, by omega⟩) fun e he => ?_
  · obtain ⟨a, b, rfl, h1, h2, h3⟩ := hs
    show Tot (F_slices_BinarySearchFunc_api_Rule_rule_compare_L1 fu r ((r.1 : Nat) : Int) x (a : Int) (b : Int)) _
    unfold F_slices_BinarySearchFunc_api_Rule_rule_compare_L1
    refine Tot.ifs (fun hb => ?_) (fun _ => Tot.ret ⟨by omega, by omega⟩)
    have hab : a < b := by have := of_decide_eq_true hb; omega
    rw [mid_eq (by omega)]
    refine Tot.chk (by decide) <| Tot.chk (by omega) <| (t_compare hB.f _ _).bind fun q _ => Tot.ifs (fun _ => Tot.ret ⟨(a + b) / 2 + 1, b, ?_, by omega, by omega, by omega⟩) (fun _ => Tot.ret ⟨a, (a + b) / 2, rfl, by omega, by omega, by omega⟩)
    rw [wr (by omega)]
  · obtain ⟨a, b, rfl, h1, h2, h3⟩ := hs
    show Tot (F_slices_BinarySearchFunc_api_Rule_rule_compare_L1 fu r ((r.1 : Nat) : Int) x (a : Int) (b : Int)) _
    unfold F_slices_BinarySearchFunc_api_Rule_rule_compare_L1
    refine Tot.ifs (fun hb => absurd (of_decide_eq_true hb) (by omega)) (fun _ => Tot.ret ⟨by omega, by omega⟩)
  · refine Tot.chk (fun hd => ⟨he.1, of_decide_eq_true hd⟩) <| (Tot.callIf fun _ => t_compare hB.f _ _).bind fun q _ => Tot.ret ⟨he.1, he.2, fun hb => ?_⟩
    by_cases hd : e < ((r.1 : Nat) : Int)
    · exact hd
    · have hb' : (bif (decide (e < ((r.1 : Nat) : Int))) then (q == (0 : Int)) else false) = true := hb
      rw [decide_eq_false hd] at hb'; cases hb'

theorem t_insert {B n : Nat} (hn : n ≤ 900) {r : Ru} (h : Gd n B r) {k : Int} (hk : 0 ≤ k ∧ k ≤ (r.1 : Int)) {x : S_api_Rule} (hx : x.f2.1 ≤ B) {z : S_api_Rule} : Tot (F_slices_Insert_api_Rule r k (1, (fun i => ([x] : List S_api_Rule).getD i z))) (Gd (n + 1) B) := by
  have hlen := h.len
  unfold F_slices_Insert_api_Rule
  refine Tot.chk hk <| Tot.chk rfl <| Tot.chk (room272 (by omega)) <| Tot.ret ⟨Nat.succ_le_succ hlen, fun i hi => ?_⟩
  have hi : i < r.1 + 1 := hi
  show (S_api_Rule.f2 (if i < k.toNat then r.2 i else if i = k.toNat then _ else r.2 (i - 1))).1 ≤ B
  by_cases h1 : i < k.toNat
  · rw [if_pos h1]; exact h.acts i (by omega)
  · rw [if_neg h1]
    by_cases h2 : i = k.toNat
    · rw [if_pos h2]; exact hx
    · rw [if_neg h2]; exact h.acts (i - 1) (by omega)

theorem t_sort {B fu n : Nat} (hB : BOk B fu) (hn : n ≤ 900) {r : Ru} (h : Gd n B r) : Tot (F_rule_Sort fu r) (Gd n B) := by
  have hlen := h.len
  refine Tot.after (X := Gd n B) (Tot.iter (I := fun i s => ∃ m, s = ((i : Int), m) ∧ Gd i B m) r.1 (by have := hB.fu; omega) (fun i s hi hs => ?_) (fun s hs => ?_) ⟨_, rfl, Gd.nil⟩) fun e he => by rw [clipR_eq]; exact Tot.ret he
  · obtain ⟨m, rfl, hm⟩ := hs
    have hml := hm.len
    have e : F_rule_copied (r.2 (i : Int).toNat) = some (r.2 i) := copied_eq (hB.r (h.acts i hi))
    show Tot (F_rule_Sort_L1 fu r ((r.1 : Nat) : Int) (i : Int) m) _
    unfold F_rule_Sort_L1
    rw [e]
    refine Tot.ifs (fun _ => Tot.chk (by omega) <| (t_ruleSound hB.f (hB.lt (h.acts i hi)) (hB.lt2 (h.acts i hi))).bind fun r0 _ => Tot.ifs (fun _ => Tot.ret ⟨m, by rw [wr (by omega)], hm.mono (by omega)⟩) fun _ =>
      (t_bin hB (by omega) hm (r.2 i)).bind fun q hq => Tot.ifs (fun hb => ?_) (fun _ => ?_)) (fun _ => Tot.ret (hm.mono (by omega)))
    · have := hq.2.2 hb
      rw [Option.bind_some]
      refine Tot.chk ⟨hq.1, this⟩ <| Tot.chk (by omega) <| Tot.ret ⟨_, by rw [wr (by omega)], ⟨by show m.1 ≤ i + 1; omega, fun j hj => ?_⟩⟩
      show (S_api_Rule.f2 (if j = q.1.toNat then r.2 i else m.2 j)).1 ≤ B
      by_cases hjq : j = q.1.toNat
      · rw [if_pos hjq]; exact h.acts i hi
      · rw [if_neg hjq]; exact hm.acts j hj
    · rw [Option.bind_some]
      exact (t_insert (by omega) hm ⟨hq.1, hq.2.1⟩ (h.acts i hi)).bind fun m2 h2 => Tot.ret ⟨m2, by rw [wr (by omega)], h2⟩
  · obtain ⟨m, rfl, hm⟩ := hs
    show Tot (F_rule_Sort_L1 fu r ((r.1 : Nat) : Int) ((r.1 : Nat) : Int) m) _
    exact Tot.ifs (fun h => absurd (of_decide_eq_true h) (by omega)) (fun _ => Tot.ret (hm.mono hlen))

/-! ### Changes -/

theorem t_meet {fu : Nat} (hf : 12 < fu) (a b : S_api_Cube) : Tot (F_cube_Meet fu a b) Any1 := by
  refine ((t_cubeSound hf a).bind (Q := Any1) fun r0 _ => (Tot.callIf fun _ => t_cubeSound hf b).bind fun _ _ => Tot.ret trivial).bind fun r0 _ => Tot.ifs (fun _ => Tot.ret trivial) fun _ => ?_
  refine Tot.after (X := Any1) (Tot.iter (I := fun i s => ∃ m, s = ((i : Int), m)) 12 hf (fun i s hi hs => ?_) (fun s hs => ?_) ⟨_, rfl⟩) fun _ _ => Tot.ret trivial
  · obtain ⟨m, rfl⟩ := hs
    show Tot (F_cube_Meet_L1 fu b _ (i : Int) m) _
    unfold F_cube_Meet_L1
    refine Tot.ifs (fun _ => ?_) (fun _ => Tot.ret trivial)
    iterate 8 refine Tot.chk (by omega) ?_
    refine Tot.ifs (fun _ => Tot.ret trivial) fun _ => ?_
    iterate 12 refine Tot.chk (by omega) ?_
    exact Tot.ret ⟨_, by rw [wr (by omega)]⟩
  · obtain ⟨m, rfl⟩ := hs
    show Tot (F_cube_Meet_L1 fu b _ ((12 : Nat) : Int) m) _
    exact Tot.ifs (fun h => absurd (of_decide_eq_true h) (by omega)) (fun _ => Tot.ret trivial)

theorem t_key (a b : S_api_Rule) : Tot (F_rule_Key a b) Any1 := Tot.ret trivial

theorem t_add {B fu n : Nat} (hB : BOk B fu) (hn : n ≤ 800) {r : Ru} (h : Gd n B r) {m : S_api_Mod} (hm : m.f3.1 ≤ B) (t : Int) : Tot (F_mods_add fu r m t) (fun q => Gd (n + 1) B q.1) := by
  have hlen := h.len
  unfold F_mods_add
  rw [mrule_eq (hB.r hm), Option.bind_some]
  refine (t_scan (n := r.1) (by have := hB.fu; omega) (by omega) (G := fun i => F_mods_add_1 (r.2 i) _) (fun i _ => (t_key _ _).bind fun _ _ => Tot.ret trivial) (fun _ => rfl)).bind fun r1 h1 => Tot.chk (fun hd => ⟨of_decide_eq_true hd, h1.2⟩) <|
    Tot.ifs (fun _ => Tot.ret Gd.nil) fun _ => ?_
  refine (Tot.callIf (P := Any1) fun _ => (t_scan (n := r.1) (by have := hB.fu; omega) (by omega) (G := fun i => F_mods_add_2 fu (r.2 i) _) (fun i _ => (t_key _ _).bind fun _ _ => (Tot.callIf (P := Any1) fun _ => (t_meet hB.f _ _).bind fun _ _ => Tot.ret trivial).bind fun _ _ => Tot.ret trivial) (fun _ => rfl)).bind fun _ _ => Tot.ret trivial).bind fun _ _ =>
    Tot.ifs (fun _ => Tot.ret Gd.nil) fun _ => Tot.ifs (fun _ => Tot.ret Gd.nil) fun _ => (t_copyOwn hB (by omega) h).bind fun r3 h3 => ?_
  have := h3.len
  exact Tot.chk (room272 (by omega)) <| (t_sort hB (by omega) (h3.snoc hm)).bind fun r4 h4 => Tot.ret h4

theorem t_touches {B fu : Nat} (hB : BOk B fu) {m : S_api_Mod} (hm : m.f3.1 ≤ B) (r : S_api_Rule) : Tot (F_mods_touches fu m r) Any1 := by
  have j2 : ∀ b, Tot (F_mods_touches_J2 fu b m r) Any1 := fun b => by
    unfold F_mods_touches_J2
    rw [mrule_eq (hB.r hm)]
    exact Tot.ifs (fun _ => (Tot.callIf (P := Any1) fun _ => Tot.ret trivial).bind fun _ _ => (Tot.callIf fun _ => t_key _ _).bind fun _ _ => Tot.ret trivial) fun _ => Tot.ret trivial
  have j1 : ∀ t b, Tot (F_mods_touches_J1 fu t b m r) Any1 := fun t b =>
    Tot.ifs (fun _ => (Tot.callIf (P := Any1) fun _ => (t_meet hB.f _ _).bind fun _ _ => Tot.ret trivial).bind fun _ _ => Tot.ret trivial) fun _ => Tot.ifs (fun _ => j2 _) fun _ => j2 _
  exact Tot.ifs (fun _ => j1 _ _) fun _ => j1 _ _

theorem t_apply {B fu n : Nat} (hB : BOk B fu) (hn : n ≤ 800) {r : Ru} (h : Gd n B r) {m : S_api_Mod} (hm : m.f3.1 ≤ B) (t : Int) : Tot (F_mods_Apply fu r m t) (fun q => Gd (n + 1) B q.1) := by
  unfold F_mods_Apply
  refine (t_table hB (by omega) h).bind fun _ _ => (Tot.callIf fun _ => t_modSound hB.f (hB.lt hm) (hB.lt2 hm)).bind fun _ _ => Tot.ifs (fun _ => Tot.ret Gd.nil) fun _ => Tot.ifs (fun _ => (t_add hB hn h hm t).bind fun q hq => Tot.ret hq) fun _ => (t_copy hB (by omega) h).bind fun r3 h3 => ?_
  have hlen := h3.len
  have j1 : ∀ (i : Nat) (m1 : Ru) (x : S_api_Rule), i < r3.1 → Gd i B m1 → x.f2.1 ≤ B → Tot (F_mods_Apply_J1 fu r3 ((r3.1 : Nat) : Int) m (i : Int) m1 x) (LoP (fun s => ∃ q, s = (((i + 1 : Nat) : Int), q) ∧ Gd (i + 1) B q) (Gd (n + 1) B) (fun q => Gd (n + 1) B q.1)) := fun i m1 x hi h1 hx => by
    have := h1.len
    exact Tot.chk (room272 (by omega)) (Tot.ret ⟨_, by rw [wr (by omega)], h1.snoc hx⟩)
  refine Tot.after (X := Gd (n + 1) B) (Tot.iter (I := fun i s => ∃ q, s = ((i : Int), q) ∧ Gd i B q) r3.1 (by have := hB.fu; omega) (fun i s hi hs => ?_) (fun s hs => ?_) ⟨_, rfl, Gd.nil⟩) fun e he => Tot.ret he
  · obtain ⟨m1, rfl, h1⟩ := hs
    show Tot (F_mods_Apply_L1 fu r3 ((r3.1 : Nat) : Int) m (i : Int) m1) _
    unfold F_mods_Apply_L1
    refine Tot.ifs (fun _ => Tot.chk (by omega) <| (t_touches hB hm _).bind fun r4 _ => Tot.ifs (fun _ => Tot.ifs (fun _ => Tot.ret ⟨m1, by rw [wr (by omega)], h1.mono (by omega)⟩) fun _ => ?_) fun _ => j1 i m1 _ hi h1 (h3.acts i hi)) (fun _ => Tot.ret (h1.mono (by omega)))
    rw [clone_eq (hB.r hm), Option.bind_some, clip_eq, Option.bind_some]
    exact j1 i m1 _ hi h1 hm
  · obtain ⟨m1, rfl, h1⟩ := hs
    show Tot (F_mods_Apply_L1 fu r3 ((r3.1 : Nat) : Int) m ((r3.1 : Nat) : Int) m1) _
    exact Tot.ifs (fun h => absurd (of_decide_eq_true h) (by omega)) (fun _ => Tot.ret (h1.mono (by omega)))

/-! ### What went and what came -/

theorem t_actsEqual {fu : Nat} {a b : Nat × (Nat → S_api_Act)} (hn : a.1 < fu) (hb : a.1 < 4611686018427387904) : Tot (F_slices_Equal_api_Act fu a b) Any1 := by
  refine Tot.ifs (fun _ => Tot.ret trivial) fun he => ?_
  have he' : a.1 = b.1 := by
    have : ((a.1 : Nat) : Int) = ((b.1 : Nat) : Int) := by simpa using he
    omega
  refine Tot.after (X := Any1) (Tot.iter (I := fun i s => s = (i : Int)) a.1 hn (fun i s hi hs => ?_) (fun s hs => ?_) rfl) fun _ _ => Tot.ret trivial
  · subst hs
    exact Tot.ifs (fun _ => Tot.chk (by omega) <| Tot.chk (by omega) <| Tot.ifs (fun _ => Tot.ret trivial) (fun _ => Tot.ret (wr (by omega)))) (fun _ => Tot.ret trivial)
  · subst hs
    exact Tot.ifs (fun h => absurd (of_decide_eq_true h) (by omega)) (fun _ => Tot.ret trivial)

theorem t_equal {B fu : Nat} (hB : BOk B fu) {a : S_api_Rule} (b : S_api_Rule) (ha : a.f2.1 ≤ B) : Tot (F_rule_Equal fu a b) Any1 :=
  ((t_actsEqual (hB.lt ha) (hB.lt2 ha)).bind fun _ _ => Tot.ret (P := Any1) trivial).bind fun _ _ => (Tot.callIf fun _ => t_key _ _).bind fun _ _ => Tot.ret trivial

theorem t_alone {B fu n : Nat} (hB : BOk B fu) (hn : n ≤ 900) {a b : Ru} (ha : Gd n B a) (hb : Gd n B b) : Tot (F_undo_alone fu a b) Any1 := by
  have hal := ha.len
  have hbl := hb.len
  refine Tot.after (X := Gd n B) (Tot.iter (I := fun i s => ∃ m, s = ((i : Int), m) ∧ Gd i B m) a.1 (by have := hB.fu; omega) (fun i s hi hs => ?_) (fun s hs => ?_) ⟨_, rfl, Gd.nil⟩) fun e he => (t_copy hB hn he).bind fun _ _ => Tot.ret trivial
  · obtain ⟨m, rfl, hm⟩ := hs
    have := hm.len
    show Tot (F_undo_alone_L1 fu b a ((a.1 : Nat) : Int) (i : Int) m) _
    unfold F_undo_alone_L1
    exact Tot.ifs (fun _ => Tot.chk (by omega) <| ((t_scan (n := b.1) (by have := hB.fu; omega) (by omega) (G := fun j => F_undo_alone_1 fu (b.2 j) (a.2 i)) (fun j _ => (t_equal hB _ (ha.acts i hi)).bind fun _ _ => Tot.ret trivial) (fun _ => rfl)).bind fun _ _ => Tot.ret (P := Any1) trivial).bind fun r0 _ =>
      Tot.ifs (fun _ => Tot.chk (room272 (by omega)) <| Tot.ret ⟨_, (by rw [wr (by omega)]; rfl), hm.snoc (r := a.2 i) (z := S_api_Rule.z) (ha.acts i hi)⟩) fun _ => Tot.ret ⟨m, by rw [wr (by omega)], hm.mono (by omega)⟩) (fun _ => Tot.ret (hm.mono (by omega)))
  · obtain ⟨m, rfl, hm⟩ := hs
    show Tot (F_undo_alone_L1 fu b a ((a.1 : Nat) : Int) ((a.1 : Nat) : Int) m) _
    exact Tot.ifs (fun h => absurd (of_decide_eq_true h) (by omega)) (fun _ => Tot.ret (hm.mono hal))

theorem t_inverse {B fu n : Nat} (hB : BOk B fu) (hn : n ≤ 800) {r : Ru} (h : Gd n B r) {m : S_api_Mod} (hm : m.f3.1 ≤ B) (t : Int) : Tot (F_undo_Inverse fu r m t) (fun q => Gd (n + 1) B q.1) :=
  (t_apply hB hn h hm t).bind fun q hq => Tot.ifs (fun _ => Tot.ret Gd.nil) fun _ =>
    ((t_table hB (by omega) h).bind fun _ _ => (Tot.callIf fun _ => t_table hB (by omega) hq).bind fun _ _ => Tot.ifs (fun _ => Tot.ret (P := Any1) trivial) fun _ =>
      (t_alone hB (n := n + 1) (by omega) (h.mono (by omega)) hq).bind fun _ _ => (t_alone hB (n := n + 1) (by omega) hq (h.mono (by omega))).bind fun _ _ => Tot.ret trivial).bind fun _ _ => Tot.ret hq

/-- Changes with action lists that are not too long. -/
def MOk (n B : Nat) (l : Mo) : Prop := l.1 ≤ n ∧ ∀ i, i < l.1 → (l.2 i).f3.1 ≤ B

theorem t_laid {B fu n k : Nat} (hB : BOk B fu) (hn : n + k ≤ 800) {r : Ru} (h : Gd n B r) {l : Mo} (hl : MOk k B l) : Tot (F_shadow_laid fu r l) (fun q => Gd (n + k) B q.1) := by
  obtain ⟨hk, hl⟩ := hl
  refine Tot.after (X := fun e : Ru × (Nat × (Nat → S_undo_Patch)) => Gd (n + k) B e.1) (Tot.iter (I := fun i s => ∃ q p, s = (q, (i : Int), p) ∧ Gd (n + i) B q ∧ p.1 ≤ i) l.1 (by have := hB.fu; omega) (fun i s hi hs => ?_) (fun s hs => ?_) ⟨_, _, rfl, h, Nat.le_refl 0⟩) fun e he => Tot.ret he
  · obtain ⟨q, p, rfl, hq, hp⟩ := hs
    show Tot (F_shadow_laid_L1 fu l ((l.1 : Nat) : Int) q (i : Int) p) _
    unfold F_shadow_laid_L1
    refine Tot.ifs (fun _ => Tot.chk (by omega) <| (t_inverse hB (n := n + i) (by omega) hq (hl i hi) _).bind fun r0 h0 => Tot.ifs (fun _ => Tot.ret ⟨q, p, by rw [wr (by omega)], hq.mono (by omega), by omega⟩) fun _ => Tot.chk ⟨by omega, by omega⟩ <| Tot.ret ⟨_, _, by rw [wr (by omega)], h0, ?_⟩) (fun _ => Tot.ret (hq.mono (by omega)))
    show p.1 + 1 ≤ i + 1; omega
  · obtain ⟨q, p, rfl, hq, hp⟩ := hs
    show Tot (F_shadow_laid_L1 fu l ((l.1 : Nat) : Int) q ((l.1 : Nat) : Int) p) _
    exact Tot.ifs (fun h => absurd (of_decide_eq_true h) (by omega)) (fun _ => Tot.ret (hq.mono (by omega)))

def COk (n B : Nat) (l : Chs) : Prop := l.1 ≤ n ∧ ∀ i, i < l.1 → (l.2 i).f1.f3.1 ≤ B

theorem t_for {B fu n : Nat} (hB : BOk B fu) (hn : n ≤ 800) {l : Chs} (hl : COk n B l) (u : Int) : Tot (F_region_For fu l u) (MOk n B) := by
  obtain ⟨hk, hl⟩ := hl
  refine Tot.after (X := MOk n B) (Tot.iter (I := fun i s => ∃ q, s = ((i : Int), q) ∧ MOk i B q) l.1 (by have := hB.fu; omega) (fun i s hi hs => ?_) (fun s hs => ?_) ⟨_, rfl, Nat.le_refl 0, fun i hi => absurd hi (Nat.not_lt_zero i)⟩) fun e he => Tot.ret he
  · obtain ⟨q, rfl, hq⟩ := hs
    have := hq.1
    show Tot (F_region_For_L1 fu u l ((l.1 : Nat) : Int) (i : Int) q) _
    unfold F_region_For_L1
    have e : F_slices_Clone_api_Act (l.2 (i : Int).toNat).f1.f3 = some (l.2 i).f1.f3 := clone_eq (hB.r (hl i hi))
    rw [e]
    refine Tot.ifs (fun _ => Tot.chk (by omega) <| Tot.ifs (fun _ => ?_) fun _ => Tot.ret ⟨q, by rw [wr (by omega)], ⟨by omega, hq.2⟩⟩) (fun _ => Tot.ret ⟨by omega, hq.2⟩)
    rw [Option.bind_some, clip_eq, Option.bind_some]
    refine Tot.chk ⟨by omega, by omega⟩ <| Tot.ret ⟨_, by rw [wr (by omega)], by show q.1 + 1 ≤ i + 1; omega, fun j hj => ?_⟩
    have hj : j < q.1 + 1 := hj
    show (S_api_Mod.f3 (if j < q.1 then q.2 j else (fun i => ([_] : List S_api_Mod).getD i S_api_Mod.z) (j - q.1))).1 ≤ B
    by_cases h1 : j < q.1
    · rw [if_pos h1]; exact hq.2 j h1
    · rw [if_neg h1]
      have : j - q.1 = 0 := by omega
      rw [this]; exact hl i hi
  · obtain ⟨q, rfl, hq⟩ := hs
    show Tot (F_region_For_L1 fu u l ((l.1 : Nat) : Int) ((l.1 : Nat) : Int) q) _
    exact Tot.ifs (fun h => absurd (of_decide_eq_true h) (by omega)) (fun _ => Tot.ret ⟨by have := hq.1; omega, hq.2⟩)

end Go.Proofs.YtbggcjkpjmnbaaaGreat
