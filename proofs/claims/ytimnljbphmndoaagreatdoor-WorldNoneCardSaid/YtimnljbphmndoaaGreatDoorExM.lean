/- Maps. -/
import Derived.Test.YtimnljbphmndoaaGreatDoorExE7
import Derived.MapKept
import Derived.Maps.RangeRun
namespace Go.Exe
open Go Go.MapKept

section
variable {P : Program} {σ : Sig} {N : Nat} {ρ : Rho} {h h' : H} {w w' : World} {o : Oper} {a : Act} {v : AV}

theorem keyT_ok {t : TypeId} {k : AV} (h : keyT P t k = true) {u : Value} (hu : VR σ ρ k u) : ∃ d, P.underlying t = some d ∧ IsKey d u := by
  unfold keyT at h
  split at h
  · rename_i j i n e
    cases hu
    exact ⟨_, e, (kEq_eq h).symm⟩
  · rename_i e
    obtain ⟨s, rfl, _⟩ := hu
    exact ⟨_, e, trivial⟩
  · cases h

theorem eqK_ok {d : TypeDesc} {k b : AV} {r : Bool} (e : eqK k b = some r) {u x : Value} (hd : IsKey d u) (hu : VR σ ρ k u) (hx : VR σ ρ b x) : Instr.sameNow d u x = some r ∧ (r = true → x = u) := by
  unfold eqK at e
  split at e
  · rename_i k x' j y'
    obtain ⟨h1, e⟩ := ite_some.1 e
    cases e
    cases hu; cases hx
    cases kEq_eq h1
    cases d <;> first | (cases hd; done) | skip
    refine ⟨?_, fun h => ?_⟩
    · show (if k = k then some (x' == y') else none) = _
      rw [if_pos rfl, ieq_eq]; rfl
    · rw [ieq_eq] at h
      rw [of_decide_eq_true h]
  · rename_i n x' m y'
    obtain ⟨s, rfl, h1, h2⟩ := hu
    obtain ⟨s', rfl, h3, h4⟩ := hx
    have e : some (strEq n x' m y') = some r := e
    cases e
    subst h1 h2 h3 h4
    cases d <;> first | (cases hd; done) | skip
    have hb : strEq s.data.toList.length (bytesN s.data.toList) s'.data.toList.length (bytesN s'.data.toList) = (s == s') := by
      rw [strEq_eq, Bool.eq_iff_iff, bytes_beq]
      obtain ⟨⟨p⟩⟩ := s
      obtain ⟨⟨q⟩⟩ := s'
      simp
    refine ⟨?_, fun h => ?_⟩
    · rw [hb]; rfl
    · rw [hb] at h
      exact congrArg Value.string ((bytes_beq s s').1 h).symm
  · cases e

section
variable {d : TypeDesc} {k : AV} {u : Value}

theorem findK_ok (hd : IsKey d u) (hu : VR σ ρ k u) : ∀ {l : List (AV × AV × Nat)} {m : List MapEntry} (i : Nat) {q : Option (AV × Nat)}, MR σ ρ l m → findK k l = some q →
    (q = none ∧ Instr.findNow d u m i = some none) ∨ ∃ j y c b, q = some (c, b) ∧ Instr.findNow d u m i = some (some (i + j, y.val)) ∧ m[j]? = some y ∧ y.key = u ∧ VR σ ρ c y.val ∧ y.born = b
  | [], _, i, q, hm, e => by cases hm; cases e; exact .inl ⟨rfl, rfl⟩
  | (b, c, n) :: l, _, i, q, ⟨x, r, h1, h2, h3, h4, h5⟩, e => by
    subst h1
    obtain ⟨t, e1, e⟩ := bnd_some.1 (show bnd (eqK k b) (fun r => Bool.rec (motive := fun _ => Option (Option (AV × Nat))) (findK k l) (some (some (c, n))) r) = some q from e)
    obtain ⟨g1, g2⟩ := eqK_ok e1 hd hu h2
    cases t with
    | true => cases e; exact .inr ⟨0, x, c, n, rfl, by simp [Instr.findNow, g1], rfl, g2 rfl, h3, h4⟩
    | false =>
      rcases findK_ok hd hu (i + 1) h5 e with ⟨k1, k2⟩ | ⟨j, y, c', b', k1, k2, k3, k4, k5, k6⟩
      · exact .inl ⟨k1, by simp [Instr.findNow, g1, k2]⟩
      · exact .inr ⟨j + 1, y, c', b', k1, by simp [Instr.findNow, g1, k2]; omega, by simpa using k3, k4, k5, k6⟩

theorem putK_ok (hd : IsKey d u) (hu : VR σ ρ k u) {y : Value} (hv : VR σ ρ v y) {c : Nat} : ∀ {l : List (AV × AV × Nat)} {m : List MapEntry} (i : Nat) {l' : List (AV × AV × Nat)} {b : Bool}, MR σ ρ l m → putK k v c l = some (l', b) →
    (b = true ∧ Instr.findNow d u m i = some none ∧ MR σ ρ l' (m ++ [{ key := u, val := y, born := c }])) ∨ (b = false ∧ ∃ j e, Instr.findNow d u m i = some (some (i + j, e.val)) ∧ m[j]? = some e ∧ e.key = u ∧ MR σ ρ l' (m.modify j fun e => { e with key := u, val := y }))
  | [], _, i, l', b, hm, e => by cases hm; cases e; exact .inl ⟨rfl, rfl, _, _, rfl, hu, hv, rfl, rfl⟩
  | (b0, c0, n) :: l, _, i, l', b, ⟨x, r, h1, h2, h3, h4, h5⟩, e => by
    subst h1
    obtain ⟨t, e1, e⟩ := bnd_some.1 (show bnd (eqK k b0) (fun r => Bool.rec (motive := fun _ => Option (List (AV × AV × Nat) × Bool)) (bnd2 (putK k v c l) fun l b => some ((b0, c0, n) :: l, b)) (some ((k, v, n) :: l, false)) r) = some (l', b) from e)
    obtain ⟨g1, g2⟩ := eqK_ok e1 hd hu h2
    cases t with
    | true =>
      cases e
      exact .inr ⟨rfl, 0, x, by simp [Instr.findNow, g1], rfl, g2 rfl, { x with key := u, val := y }, r, rfl, hu, hv, h4, h5⟩
    | false =>
      obtain ⟨l2, b2, e2, e⟩ := bnd2_some.1 e
      cases e
      rcases putK_ok hd hu hv (i + 1) h5 e2 with ⟨k1, k2, k3⟩ | ⟨k1, j, e', k2, k3, k4, k5⟩
      · exact .inl ⟨k1, by simp [Instr.findNow, g1, k2], x, _, rfl, h2, h3, h4, k3⟩
      · exact .inr ⟨k1, j + 1, e', by simp [Instr.findNow, g1, k2]; omega, by simpa using k3, k4, x, _, rfl, h2, h3, h4, k5⟩

theorem delK_ok (hd : IsKey d u) (hu : VR σ ρ k u) : ∀ {l : List (AV × AV × Nat)} {m : List MapEntry} (i : Nat) {l' : List (AV × AV × Nat)}, MR σ ρ l m → delK k l = some l' →
    (Instr.findNow d u m i = some none ∧ MR σ ρ l' m) ∨ ∃ j e, Instr.findNow d u m i = some (some (i + j, e.val)) ∧ m[j]? = some e ∧ MR σ ρ l' (m.eraseIdx j)
  | [], _, i, l', hm, e => by cases hm; cases e; exact .inl ⟨rfl, rfl⟩
  | (b0, c0, n) :: l, _, i, l', ⟨x, r, h1, h2, h3, h4, h5⟩, e => by
    subst h1
    obtain ⟨t, e1, e⟩ := bnd_some.1 (show bnd (eqK k b0) (fun r => Bool.rec (motive := fun _ => Option (List (AV × AV × Nat))) (bnd (delK k l) fun l => some ((b0, c0, n) :: l)) (some l) r) = some l' from e)
    obtain ⟨g1, g2⟩ := eqK_ok e1 hd hu h2
    cases t with
    | true => cases e; exact .inr ⟨0, x, by simp [Instr.findNow, g1], rfl, h5⟩
    | false =>
      obtain ⟨l2, e2, e⟩ := bnd_some.1 e
      cases e
      rcases delK_ok hd hu (i + 1) h5 e2 with ⟨k2, k3⟩ | ⟨j, e', k2, k3, k5⟩
      · exact .inl ⟨by simp [Instr.findNow, g1, k2], x, _, rfl, h2, h3, h4, k3⟩
      · exact .inr ⟨j + 1, e', by simp [Instr.findNow, g1, k2]; omega, by simpa using k3, x, _, rfl, h2, h3, h4, k5⟩
end

theorem setB_ok {y : Value} (hv : VR σ ρ v y) {n : Nat} : ∀ {l : List (AV × AV × Nat)} {m : List MapEntry} {l' : List (AV × AV × Nat)}, MR σ ρ l m → setB v n l = some l' →
    ∃ j, m.findIdx? (fun e => (e.born : Int) == (n : Int)) = some j ∧ MR σ ρ l' (m.modify j fun e => { e with val := y })
  | [], _, _, _, e => nomatch e
  | (b0, c0, c) :: l, _, l', ⟨x, r, h1, h2, h3, h4, h5⟩, e => by
    subst h1
    have e : Bool.rec (motive := fun _ => Option (List (AV × AV × Nat))) (bnd (setB v n l) fun l => some ((b0, c0, c) :: l)) (some ((b0, v, c) :: l)) (Nat.beq c n) = some l' := e
    rw [beq_eq] at e
    have h4 : x.born = c := h4
    by_cases hc : c = n
    · rw [decide_eq_true hc] at e
      cases e
      exact ⟨0, by rw [List.findIdx?_cons]; simp [h4, hc], { x with val := y }, r, rfl, h2, hv, h4, h5⟩
    · rw [decide_eq_false hc] at e
      obtain ⟨l2, e2, e⟩ := bnd_some.1 e
      cases e
      obtain ⟨j, k1, k2⟩ := setB_ok hv h5 e2
      refine ⟨j + 1, ?_, x, _, rfl, h2, h3, h4, k2⟩
      rw [List.findIdx?_cons, k1]
      have : ((x.born : Int) == (n : Int)) = false := by rw [h4]; simp; omega
      rw [this]; rfl

theorem findB_ok {n : Nat} : ∀ {l : List (AV × AV × Nat)} {m : List MapEntry} {p q : AV}, MR σ ρ l m → findB n l = some (p, q) → ∃ e, m.find? (fun e => e.born == n) = some e ∧ VR σ ρ p e.key ∧ VR σ ρ q e.val
  | [], _, _, _, _, e => nomatch e
  | (b0, c0, c) :: l, _, p, q, ⟨x, r, h1, h2, h3, h4, h5⟩, e => by
    subst h1
    have e : Bool.rec (motive := fun _ => Option (AV × AV)) (findB n l) (some (b0, c0)) (Nat.beq c n) = some (p, q) := e
    have h4 : x.born = c := h4
    rw [beq_eq] at e
    by_cases hc : c = n
    · rw [decide_eq_true hc] at e
      cases e
      exact ⟨x, by rw [List.find?_cons]; simp [h4, hc], h2, h3⟩
    · rw [decide_eq_false hc] at e
      obtain ⟨y, k1, k2⟩ := findB_ok h5 e
      refine ⟨y, ?_, k2⟩
      rw [List.find?_cons, k1]
      have : (x.born == n) = false := by rw [h4]; simp; omega
      rw [this]

theorem memN_eq (n : Nat) : ∀ l : List Nat, memN l n = l.contains n
  | [] => rfl
  | b :: l => by
    show Bool.rec (motive := fun _ => Bool) (memN l n) true (Nat.beq b n) = _
    rw [memN_eq n l, List.contains_cons, beq_eq]
    by_cases hb : b = n
    · rw [decide_eq_true hb]; simp [hb]
    · rw [decide_eq_false hb]
      have : (n == b) = false := by simp; omega
      rw [this]; rfl
theorem leftE_ok (seen : List Nat) : ∀ {l : List (AV × AV × Nat)} {m : List MapEntry}, MR σ ρ l m → MR σ ρ (leftE seen l) (m.filter fun e => !seen.contains e.born)
  | [], _, hm => by cases hm; rfl
  | (b0, c0, c) :: l, _, ⟨x, r, h1, h2, h3, h4, h5⟩ => by
    subst h1
    have h4 : x.born = c := h4
    show MR σ ρ (Bool.rec (motive := fun _ => List (AV × AV × Nat)) ((b0, c0, c) :: leftE seen l) (leftE seen l) (memN seen c)) _
    rw [memN_eq, List.filter_cons, h4]
    cases seen.contains c with
    | true => exact leftE_ok seen h5
    | false => exact ⟨x, _, rfl, h2, h3, h4, leftE_ok seen h5⟩
theorem allBelow_ok {n : Nat} : ∀ {l : List (AV × AV × Nat)} {m : List MapEntry}, MR σ ρ l m → allBelow n l = true → ∀ e ∈ m, e.born < n
  | [], _, hm, _, e, he => by cases hm; cases he
  | (b0, c0, c) :: l, _, ⟨x, r, h1, h2, h3, h4, h5⟩, hb, e, he => by
    subst h1
    have h4 : x.born = c := h4
    have hb : Bool.rec (motive := fun _ => Bool) false (allBelow n l) (Nat.ble (Nat.succ c) n) = true := hb
    cases hc : Nat.ble (Nat.succ c) n with
    | false => rw [hc] at hb; cases hb
    | true =>
      rw [hc] at hb
      rcases List.mem_cons.1 he with rfl | he
      · have := Nat.le_of_ble_eq_true hc; omega
      · exact allBelow_ok h5 hb e he

theorem mapKE_some {t k e : TypeId} (h : mapKE P t = some (k, e)) : P.underlying t = some (.map k e) := by
  obtain ⟨d, h1, h2⟩ := bnd_some.1 h
  split at h2
  · cases h2; exact h1
  · cases h2
theorem onKey_some {R : Type} {t : TypeId} {k : AV} {f : TypeId → Option R} {x : R} (h : onKey P t k f = some x) {u : Value} (hu : VR σ ρ k u) : ∃ kt e d, P.underlying t = some (.map kt e) ∧ P.underlying kt = some d ∧ IsKey d u ∧ f e = some x := by
  obtain ⟨kt, e, h1, h2⟩ := bnd2_some.1 h
  obtain ⟨h3, h4⟩ := ite_some.1 h2
  obtain ⟨d, h5, h6⟩ := keyT_ok h3 hu
  exact ⟨kt, e, d, mapKE_some h1, h5, h6, h4⟩

/-- A map row's block. -/
theorem map_live (hh : HR σ N ρ h w) {r : Nat} {l : List (AV × AV × Nat)} {c : Nat} (e : h.get r = some (.map l c)) {y : Value} (hy : VR σ ρ (.map r) y) : ∃ p es, ρ r = some p ∧ y = .map (some p.b) ∧ w.heap[p.b]? = some (.map es c) ∧ MR σ ρ l es.toList := by
  obtain ⟨p, h1, rfl⟩ := hy
  obtain ⟨p', h2, es, h3, h4⟩ := hh.live r _ e
  rw [h1] at h2; cases h2
  exact ⟨p, es, h1, rfl, h3, h4⟩

def withObj (w : World) (b : Nat) (x : Obj) : World := { w with heap := w.heap.setIfInBounds b x }
/-- A map row turns. -/
theorem map_turn (hh : HR σ N ρ h w) {r : Nat} {row row' : Row} (e : h.get r = some row) (hw : wrOf row = true) (hrl : relOf row = []) (hrl' : relOf row' = []) {p : Pl} (hp : ρ r = some p) {x0 x : Obj} (hb : w.heap[p.b]? = some x0) (hput : h.put r (some row') = some h') (hrow : RowR σ ρ (withObj w p.b x) p row') : HR σ N ρ h' (withObj w p.b x) ∧ St ρ h w ρ h' (withObj w p.b x) := by
  obtain ⟨k1, k2⟩ := put_some hput
  refine hh.turn hp e hw (fun q => ?_) k1 hrl' ⟨rfl, rfl, rfl⟩ (by simp [withObj]) (fun b hne => (heap_set (o' := x) hb).2 b hne) hrow
  rw [k2, hrl]
  by_cases hq : q = r
  · rw [if_pos hq, if_pos hq]
  · rw [if_neg hq, if_neg hq, if_neg (by simp)]
theorem withObj_at {b : Nat} {x0 x : Obj} (hb : w.heap[b]? = some x0) : (withObj w b x).heap[b]? = some x := (heap_set hb).1

theorem onMap_row {R : Type} {r : Nat} {k : List (AV × AV × Nat) → Nat → Option R} {x : R} (h1 : onMap (h.get r) k = some x) : ∃ l c, h.get r = some (.map l c) ∧ k l c = some x := onMap_some h1

theorem lookupO_ok (hh : HR σ N ρ h w) {t : TypeId} {m k : AV} {ok : Bool} (e : lookupO P t m k ok h = some (v, h')) {y z : Value} (hy : VR σ ρ m y) (hz : VR σ ρ k z) : Gives P σ N ρ h w (Instr.lookup t y z ok) v h' := by
  obtain ⟨kt, et, d, u1, u2, hd, e⟩ := onKey_some e hz
  obtain ⟨q, e1, e⟩ := bnd_some.1 e
  have fin : ∀ es : Array MapEntry, (∀ (r : Option (Nat × Value)) (zv : Value), Instr.findNow d z es.toList 0 = some r → (r = none → ∀ w, (zeroValue et).run P w = .ok zv w) → (Instr.lookup t y z ok).run P w = .ok (if ok then .tuple #[(r.map (·.2)).getD zv, .bool r.isSome] else (r.map (·.2)).getD zv) w) →
      ((q = none ∧ Instr.findNow d z es.toList 0 = some none) ∨ ∃ j y c b, q = some (c, b) ∧ Instr.findNow d z es.toList 0 = some (some (j, y)) ∧ VR σ ρ c y) → Gives P σ N ρ h w (Instr.lookup t y z ok) v h' := fun es hr hq => by
    rcases hq with ⟨rfl, k1⟩ | ⟨j, y', c, b, rfl, k1, k2⟩
    · obtain ⟨zv, e2, e⟩ := bnd_some.1 e
      obtain ⟨u, k3, k4⟩ := zeroOf_ok (P := P) (σ := σ) (ρ := ρ) e2
      have := hr none u k1 fun _ => k4
      cases ok with
      | true => cases e; exact ⟨ρ, _, w, this, hh, St.refl _ _ _, #[u, .bool false], rfl, u, _, rfl, k3, _, _, rfl, rfl, rfl⟩
      | false => cases e; exact ⟨ρ, _, w, this, hh, St.refl _ _ _, k3⟩
    · have := hr (some (j, y')) undef k1 fun h => nomatch h
      cases ok with
      | true => cases e; exact ⟨ρ, _, w, this, hh, St.refl _ _ _, #[y', .bool true], rfl, y', _, rfl, k2, _, _, rfl, rfl, rfl⟩
      | false => cases e; exact ⟨ρ, _, w, this, hh, St.refl _ _ _, k2⟩
  split at e1
  · cases hy
    cases e1
    refine fin #[] (fun r zv g1 g2 => ?_) (.inl ⟨rfl, rfl⟩)
    cases g1
    cases ok <;> simp [Instr.lookup, run_underlying u1, run_checkKey u2 hd, run_findKey u2 (show Instr.findNow d z [] 0 = some none from rfl), g2 rfl, Result.andThen]
  · rename_i r
    obtain ⟨l, c, e2, e1⟩ := onMap_some e1
    obtain ⟨p, es, k1, rfl, k2, k3⟩ := map_live hh e2 hy
    refine fin es (fun r zv g1 g2 => ?_) ?_
    · cases r with
      | none => cases ok <;> simp [Instr.lookup, run_underlying u1, MapKept.run_getObj_map k2, run_checkKey u2 hd, run_findKey u2 g1, g2 rfl, Result.andThen]
      | some r => cases ok <;> simp [Instr.lookup, run_underlying u1, MapKept.run_getObj_map k2, run_checkKey u2 hd, run_findKey u2 g1, Result.andThen]
    · rcases findK_ok hd hz 0 k3 e1 with ⟨g1, g2⟩ | ⟨j, y', c', b, g1, g2, _, _, g5, _⟩
      · exact .inl ⟨g1, g2⟩
      · exact .inr ⟨_, _, _, _, g1, g2, g5⟩
  · cases e1

theorem mapUpdateO_ok (hh : HR σ N ρ h w) {t : TypeId} {m k x : AV} (e : mapUpdateO P t m k x h = some (v, h')) {y z u : Value} (hy : VR σ ρ m y) (hz : VR σ ρ k z) (hu : VR σ ρ x u) : v = .und ∧ ∃ w', (Instr.mapUpdate t y z u).run P w = .ok () w' ∧ HR σ N ρ h' w' ∧ St ρ h w ρ h' w' := by
  obtain ⟨kt, et, d, u1, u2, hd, e⟩ := onKey_some e hz
  split at e
  · rename_i r
    obtain ⟨l, c, e2, e⟩ := onMap_some e
    obtain ⟨l2, b, e3, e⟩ := bnd2_some.1 e
    rw [force_eq] at e
    obtain ⟨h1, e4, e⟩ := bnd_some.1 e
    cases e
    obtain ⟨p, es, k1, rfl, k2, k3⟩ := map_live hh e2 hy
    refine ⟨rfl, ?_⟩
    rcases putK_ok hd hz hu 0 k3 e3 with ⟨rfl, g1, g2⟩ | ⟨rfl, j, e', g1, g2, g3, g4⟩
    · refine ⟨withObj w p.b (.map (es.push { key := z, val := u, born := c }) (c + 1)), ?_, map_turn hh e2 rfl rfl rfl k1 k2 e4 ⟨_, withObj_at k2, by simpa using g2⟩⟩
      simp [Instr.mapUpdate, run_underlying u1, MapKept.run_getObj_map k2, run_checkKey u2 hd, run_findKey u2 g1, run_setObj_map _ k2, Result.andThen, withObj]
    · have hj : es[j]? = some e' := by simpa using g2
      refine ⟨withObj w p.b (.map (es.modify j fun e => { e with key := z, val := u }) c), ?_, map_turn hh e2 rfl rfl rfl k1 k2 e4 ⟨_, withObj_at k2, by simpa using g4⟩⟩
      have g1 : Instr.findNow d z es.toList 0 = some (some (j, e'.val)) := by simpa using g1
      simp [Instr.mapUpdate, run_underlying u1, MapKept.run_getObj_map k2, run_checkKey u2 hd, run_findKey u2 g1, hj, g3, run_keyThatStays hd, run_setObj_map _ k2, Result.andThen, withObj]
  · cases e

theorem same_key {z : Value} {es : Array MapEntry} {j : Nat} {e : MapEntry} (h1 : es[j]? = some e) (h2 : e.key = z) : (es.modify j fun e => { e with key := z }) = es := by
  apply Array.ext_getElem?
  intro i
  rw [Array.getElem?_modify]
  by_cases hi : j = i
  · subst hi; rw [if_pos rfl, h1, ← h2]; rfl
  · rw [if_neg hi]
theorem withObj_same {b : Nat} {x : Obj} (hb : w.heap[b]? = some x) : withObj w b x = w := by
  have : w.heap.setIfInBounds b x = w.heap := by
    apply Array.ext_getElem?
    intro i
    by_cases hi : i = b
    · subst hi; rw [(heap_set (o' := x) hb).1, hb]
    · exact (heap_set (o' := x) hb).2 i hi
  unfold withObj
  rw [this]

theorem mapEntryO_ok (hh : HR σ N ρ h w) {t : TypeId} {m k : AV} (e : mapEntryO P t m k h = some (v, h')) {y z : Value} (hy : VR σ ρ m y) (hz : VR σ ρ k z) : Gives P σ N ρ h w (Instr.mapEntry t y z) v h' := by
  obtain ⟨kt, et, d, u1, u2, hd, e⟩ := onKey_some e hz
  split at e
  · rename_i r
    obtain ⟨l, c, e2, e⟩ := onMap_some e
    obtain ⟨q, e3, e⟩ := bnd_some.1 e
    obtain ⟨p, es, k1, rfl, k2, k3⟩ := map_live hh e2 hy
    rcases findK_ok hd hz 0 k3 e3 with ⟨rfl, g1⟩ | ⟨j, y', c', b, rfl, g1, g2, g3, g5, g6⟩
    · obtain ⟨zv, e4, e⟩ := bnd_some.1 e
      obtain ⟨l2, b, e5, e⟩ := bnd2_some.1 e
      rw [force_eq] at e
      obtain ⟨h1, e6, e⟩ := bnd_some.1 e
      cases e
      obtain ⟨u, k4, k5⟩ := zeroOf_ok (P := P) (σ := σ) (ρ := ρ) e4
      rcases putK_ok hd hz k4 0 k3 e5 with ⟨rfl, f1, f2⟩ | ⟨rfl, j, e', f1, _⟩
      · obtain ⟨t1, t2⟩ := map_turn (x := .map (es.push { key := z, val := u, born := c }) (c + 1)) hh e2 rfl rfl rfl k1 k2 e6 ⟨_, withObj_at k2, by simpa using f2⟩
        exact ⟨ρ, .tuple #[u, goInt c], _, by simp [Instr.mapEntry, run_underlying u1, MapKept.run_getObj_map k2, run_checkKey u2 hd, run_findKey u2 g1, k5, run_setObj_map _ k2, Result.andThen, withObj], t1, t2, #[u, goInt c], rfl, u, _, rfl, k4, _, _, rfl, rfl, rfl⟩
      · rw [g1] at f1; cases f1
    · cases e
      have hj : es[j]? = some y' := by simpa using g2
      have g1 : Instr.findNow d z es.toList 0 = some (some (j, y'.val)) := by simpa using g1
      refine ⟨ρ, .tuple #[y'.val, goInt b], w, ?_, hh, St.refl _ _ _, #[y'.val, goInt b], rfl, y'.val, _, rfl, g5, _, _, rfl, rfl, rfl⟩
      have k4 := withObj_same k2
      unfold withObj at k4
      simp [Instr.mapEntry, run_underlying u1, MapKept.run_getObj_map k2, run_checkKey u2 hd, run_findKey u2 g1, hj, g3, run_keyThatStays hd, same_key hj g3, run_setObj_map _ k2, Result.andThen, g6, k4]
  · cases e

theorem entryStoreO_ok (hh : HR σ N ρ h w) {t : TypeId} {m k x : AV} (e : entryStoreO m k x h = some (v, h')) {y z u : Value} (hy : VR σ ρ m y) (hz : VR σ ρ k z) (hu : VR σ ρ x u) : v = .und ∧ ∃ w', (Instr.entryStore t y z u).run P w = .ok () w' ∧ HR σ N ρ h' w' ∧ St ρ h w ρ h' w' := by
  unfold entryStoreO at e
  split at e
  · rename_i r n
    obtain ⟨l, c, e2, e⟩ := onMap_some e
    obtain ⟨l2, e3, e⟩ := bnd_some.1 e
    obtain ⟨h1, e4, e⟩ := bnd_some.1 e
    cases e
    obtain ⟨p, es, k1, rfl, k2, k3⟩ := map_live hh e2 hy
    cases hz
    obtain ⟨j, g1, g2⟩ := setB_ok hu k3 e3
    refine ⟨rfl, withObj w p.b (.map (es.modify j fun e => { e with val := u }) c), ?_, map_turn hh e2 rfl rfl rfl k1 k2 e4 ⟨_, withObj_at k2, by simpa using g2⟩⟩
    have g1 : es.findIdx? (fun e => (e.born : Int) == (n : Int)) = some j := by
      obtain ⟨l0⟩ := es
      simpa using g1
    simp [Instr.entryStore, MapKept.run_getObj_map k2, asInt, asIntOf, g1, run_setObj_map _ k2, Result.andThen, withObj]
  · cases e

theorem deleteO_ok (hh : HR σ N ρ h w) {t t2 : TypeId} {m k : AV} (e : deleteO P t m k h = some (v, h')) {y z : Value} (hy : VR σ ρ m y) (hz : VR σ ρ k z) : Gives P σ N ρ h w (Builtin.delete_ #[t, t2] o.type #[y, z]) v h' := by
  obtain ⟨kt, et, d, u1, u2, hd, e⟩ := onKey_some e hz
  split at e
  · cases hy
    cases e
    exact ⟨ρ, .tuple #[], w, by simp [Builtin.delete_, run_underlying u1, run_checkKey u2 hd, Result.andThen], hh, St.refl _ _ _, #[], rfl, rfl⟩
  · rename_i r
    obtain ⟨l, c, e2, e⟩ := onMap_some e
    obtain ⟨l2, e3, e⟩ := bnd_some.1 e
    obtain ⟨h1, e4, e⟩ := bnd_some.1 e
    cases e
    obtain ⟨p, es, k1, rfl, k2, k3⟩ := map_live hh e2 hy
    rcases delK_ok hd hz 0 k3 e3 with ⟨g1, g2⟩ | ⟨j, e', g1, g2, g3⟩
    · obtain ⟨t1, t3⟩ := map_turn (x := .map es c) hh e2 rfl rfl rfl k1 k2 e4 ⟨_, withObj_at k2, g2⟩
      exact ⟨ρ, .tuple #[], _, by simp [Builtin.delete_, run_underlying u1, MapKept.run_getObj_map k2, run_checkKey u2 hd, run_findKey u2 g1, run_setObj_map _ k2, Result.andThen, withObj], t1, t3, #[], rfl, rfl⟩
    · have hj : es[j]? = some e' := by simpa using g2
      have hlt : j < es.size := (Array.getElem?_eq_some_iff.1 hj).1
      obtain ⟨t1, t3⟩ := map_turn (x := .map (es.eraseIdxIfInBounds j) c) hh e2 rfl rfl rfl k1 k2 e4 ⟨_, withObj_at k2, by
        unfold Array.eraseIdxIfInBounds
        rw [dif_pos hlt, Array.toList_eraseIdx]; exact g3⟩
      have g1 : Instr.findNow d z es.toList 0 = some (some (j, e'.val)) := by simpa using g1
      exact ⟨ρ, .tuple #[], _, by simp [Builtin.delete_, run_underlying u1, MapKept.run_getObj_map k2, run_checkKey u2 hd, run_findKey u2 g1, run_setObj_map _ k2, Result.andThen, withObj], t1, t3, #[], rfl, rfl⟩
  · cases e

theorem clearO_ok (hσ : ∀ i, (σ i).oneCell' = true) (hh : HR σ N ρ h w) {t : TypeId} {m : AV} (e : clearO P t m h = some (v, h')) {y : Value} (hy : VR σ ρ m y) : Gives P σ N ρ h w (Builtin.clear_ #[t] o.type #[y]) v h' := by
  obtain ⟨d, u1, e⟩ := bnd_some.1 e
  have u1 : P.underlying t = some d := u1
  split at e
  · cases hy
    cases e
    exact ⟨ρ, .tuple #[], w, by simp [Builtin.clear_, run_underlying u1, Result.andThen], hh, St.refl _ _ _, #[], rfl, rfl⟩
  · cases hy
    cases e
    exact ⟨ρ, .tuple #[], w, by simp [Builtin.clear_, run_underlying u1, Result.andThen], hh, St.refl _ _ _, #[], rfl, rfl⟩
  · rename_i r
    obtain ⟨l, c, e2, e⟩ := onMap_some e
    obtain ⟨h1, e4, e⟩ := bnd_some.1 e
    cases e
    obtain ⟨p, es, k1, rfl, k2, k3⟩ := map_live hh e2 hy
    obtain ⟨t1, t3⟩ := map_turn (x := .map #[] c) hh e2 rfl rfl rfl k1 k2 e4 ⟨_, withObj_at k2, rfl⟩
    exact ⟨ρ, .tuple #[], _, by simp [Builtin.clear_, run_underlying u1, MapKept.run_getObj_map k2, run_setObj_map _ k2, Result.andThen, withObj], t1, t3, #[], rfl, rfl⟩
  · rename_i r q n c g e0
    obtain ⟨p, cap, off, q1, rfl, q2, q3, _⟩ := hy
    cases n with
    | zero => cases e; exact ⟨ρ, .tuple #[], w, by simp [Builtin.clear_, run_underlying u1, Result.andThen], hh, St.refl _ _ _, #[], rfl, rfl⟩
    | succ n =>
      obtain ⟨el, e1, e2⟩ := bnd_some.1 (show bnd (sliceE P t) (fun e => bnd (szOf P e) fun s => bnd (zeroOf P e) fun z => onCellsOf z fun l => ite' (Nat.beq (len l) s) (bnd (storeL r s (rep (n + 1) l) q h) fun h => some (.tup [], h))) = some (v, h') from e)
      obtain ⟨s, e3, e4⟩ := bnd_some.1 e2
      obtain ⟨z, e5, e6⟩ := bnd_some.1 e4
      obtain ⟨l, e7, e8⟩ := onCellsOf_some e6
      obtain ⟨e9, e10⟩ := ite_some.1 e7
      obtain ⟨h1, e11, e12⟩ := bnd_some.1 e10
      cases e12
      rw [len_eq] at e9
      have e9 := Nat.eq_of_beq_eq_true e9
      obtain ⟨zv, z1, z2⟩ := zeroOf_ok (P := P) (σ := σ) (ρ := ρ) e5
      obtain ⟨z3, z4⟩ := e8 σ ρ zv hσ z1
      have hu := sliceE_some e1
      have hsz : zv.cells.size = s := by have := z4.length; simpa [e9] using this
      have fl := rep_fl z4 z3 e9 (n + 1) (z2 := zv.cells) (.inr rfl)
      obtain ⟨w', r1, r2, r3⟩ := storeL_ok (P := P) hσ q1 hh e11 fl
      have hoff : off = p.base + q := q2.resolve_right (by omega)
      subst hoff
      refine ⟨ρ, .tuple #[], w', ?_, r2, r3, #[], rfl, rfl⟩
      simp only [hsz, Array.toList_map, Array.toList_range] at r1
      simp [Builtin.clear_, run_underlying hu, Result.andThen, Builtin.zeroCells, z2, hsz, r1]
  · cases e

theorem rangeO_ok (hh : HR σ N ρ h w) {t : TypeId} {m : AV} (e : rangeO P t m h = some (v, h')) {y : Value} (hy : VR σ ρ m y) : Gives P σ N ρ h w (Instr.range t y) v h' := by
  obtain ⟨⟨kt, et⟩, u0, e0⟩ := bnd_some.1 e
  have u1 := mapKE_some u0
  clear e u0
  split at e0
  · rename_i r
    obtain ⟨l, c, e2, e3⟩ := onMap_some e0
    obtain ⟨h1, e4, n1, n2⟩ := new_some e3
    cases e4
    obtain ⟨p, es, k1, rfl, k2, k3⟩ := map_live hh e2 hy
    have hr : ρ h.nx = none := hh.new _ (Nat.le_refl _)
    obtain ⟨t1, t2⟩ := hh.add (St.refl _ _ _) (r := h.nx) (Nat.le_refl _) hr (row := .iter r c [] c) (h' := h') n2 (by omega) (by omega) (fun q hq => by cases hq) (o := .mapIter (some p.b) c #[] c) (p := ⟨w.heap.size, 0, 0⟩) rfl ⟨rfl, p, upd_sub hr _ _ _ k1, pushed_new w _⟩
    exact ⟨_, _, _, by simp [Instr.range, run_underlying u1, MapKept.run_getObj_map k2, Result.andThen]; rfl, t1, t2, _, upd_same _ _ _, rfl⟩
  · cases e0

theorem iter_live (hh : HR σ N ρ h w) {r m since last : Nat} {seen : List Nat} (e : h.get r = some (.iter m since seen last)) {y : Value} (hy : VR σ ρ (.ptr r 0) y) : ∃ p pm, ρ r = some p ∧ y = .pointer (some ⟨p.b, 0, none⟩) ∧ ρ m = some pm ∧ w.heap[p.b]? = some (.mapIter (some pm.b) since seen.reverse.toArray last) ∧ p.base = 0 := by
  obtain ⟨p, h1, rfl⟩ := hy
  obtain ⟨p', h2, h3, pm, h4, h5⟩ := hh.live r _ e
  rw [h1] at h2; cases h2
  exact ⟨p, pm, h1, by rw [h3], h4, h5, h3⟩
theorem run_getObj_iter {r : Nat} {m : Option Nat} {s c : Nat} {seen : Array Nat} (hb : w.heap[r]? = some (.mapIter m s seen c)) : (getObj r).run P w = .ok (.mapIter m s seen c) w := by
  simp [getObj, Sem.run, hb]

theorem nextO_ok (hh : HR σ N ρ h w) {m : AV} (e : nextO m h = some (v, h')) {y : Value} (hy : VR σ ρ m y) : Gives P σ N ρ h w (Instr.next y false o.type) v h' := by
  obtain ⟨r, i, rfl, e4⟩ := onPtr_some e
  obtain ⟨hi, e5⟩ := ite_some.1 e4
  have hi := Nat.eq_of_beq_eq_true hi
  subst hi
  obtain ⟨mm, since, seen, last, e1, e6⟩ := onIter_some e5
  obtain ⟨l, c, e2, e7⟩ := onMap_some e6
  obtain ⟨hl, e8⟩ := ite_some.1 e7
  have hl := Nat.le_of_ble_eq_true hl
  obtain ⟨hb, e9⟩ := ite_some.1 e8
  clear e e4 e5 e6 e7 e8
  obtain ⟨p, pm, k1, rfl, k2, k3, k4⟩ := iter_live hh e1 hy
  obtain ⟨pm', es, k5, k6, k7, k8⟩ := map_live hh e2 ⟨pm, k2, rfl⟩
  rw [k2] at k5; cases k5
  have below := allBelow_ok k8 hb
  have left := leftE_ok seen k8
  have hleft : (leftOf es seen.reverse.toArray).toList = es.toList.filter fun e => !seen.contains e.born := by
    unfold leftOf
    rw [Array.toList_filter]
    congr 1
    funext e
    congr 1
    rw [Bool.eq_iff_iff]; simp
  rcases run_next_at (P := P) w o.type p.b pm.b since last seen.reverse.toArray es c k3 k7 below hl with ⟨f1, f2⟩ | ⟨x, f1, w1, f2, f3⟩
  · have f1 : (leftOf es seen.reverse.toArray).toList = [] := by rw [Array.eq_empty_of_size_eq_zero f1]
    rw [← hleft, f1] at left
    cases hE : leftE seen l with
    | nil => rw [hE] at e9; cases e9; exact ⟨ρ, .tuple #[.bool false], w, f2, hh, St.refl _ _ _, #[.bool false], rfl, _, _, rfl, rfl, rfl⟩
    | cons y ys => rw [hE] at left; obtain ⟨_, _, g, _⟩ := left; cases g
  · rw [hleft] at f1
    cases hE : leftE seen l with
    | nil => rw [hE] at left; rw [show (es.toList.filter fun e => !seen.contains e.born) = [] from left] at f1; cases f1
    | cons y ys =>
      rw [hE] at e9 left
      cases ys with
      | cons => cases e9
      | nil =>
        obtain ⟨k, q, b⟩ := y
        obtain ⟨z, r', g1, g2, g3, g4, g5⟩ := left
        have g5 : r' = [] := g5
        subst g5
        rw [g1] at f1
        have f1 : x = z := by simpa using f1
        subst f1
        obtain ⟨h1, e3, e10⟩ := bnd_some.1 (show bnd (h.put r (some (.iter mm since (b :: seen) c))) (fun h => some (AV.tup [.bool true, k, q], h)) = some (v, h') from e9)
        cases e10
        have g4 : x.born = b := g4
        have hh1 : HR σ N ρ h w1 := hh.heap (by rcases f2 with rfl | rfl <;> rfl)
        have k31 : w1.heap[p.b]? = some (.mapIter (some pm.b) since seen.reverse.toArray last) := by rcases f2 with rfl | rfl <;> exact k3
        obtain ⟨t1, t2⟩ := map_turn (x := .mapIter (some pm.b) since (seen.reverse.toArray.push x.born) c) hh1 e1 rfl rfl rfl k1 k31 e3 ⟨k4, pm, k2, by rw [withObj_at k31, g4]; simp⟩
        have t2 : St ρ h w ρ h' (withObj w1 p.b (.mapIter (some pm.b) since (seen.reverse.toArray.push x.born) c)) := by
          rcases f2 with rfl | rfl
          · exact t2
          · exact t2.drew
        exact ⟨ρ, _, _, f3, t1, t2, #[.bool true, x.key, x.val], rfl, _, _, rfl, rfl, _, _, rfl, g2, _, _, rfl, g3, rfl⟩

theorem entryO_ok (hh : HR σ N ρ h w) {m : AV} (e : entryO m h = some (v, h')) {y : Value} (hy : VR σ ρ m y) : Gives P σ N ρ h w (Instr.entry y) v h' := by
  obtain ⟨r, i, rfl, e4⟩ := onPtr_some e
  obtain ⟨hi, e5⟩ := ite_some.1 e4
  have hi := Nat.eq_of_beq_eq_true hi
  subst hi
  obtain ⟨mm, since, seen, last, e1, e6⟩ := onIter_some e5
  obtain ⟨l, c, e2, e7⟩ := onMap_some e6
  obtain ⟨hl, e8⟩ := ite_some.1 e7
  have hl := Nat.eq_of_beq_eq_true hl
  subst hl
  clear e e4 e5 e6 e7
  obtain ⟨p, pm, k1, rfl, k2, k3, k4⟩ := iter_live hh e1 hy
  obtain ⟨pm', es, k5, k6, k7, k8⟩ := map_live hh e2 ⟨pm, k2, rfl⟩
  rw [k2] at k5; cases k5
  cases seen with
  | nil => cases e8
  | cons b rest =>
    obtain ⟨k, q, e3, e⟩ := bnd2_some.1 (show bnd2 (findB b l) (fun k v => some (AV.tup [k, v], h)) = some (v, h') from e8)
    cases e
    obtain ⟨x, g1, g2, g3⟩ := findB_ok k8 e3
    have g1 : es.find? (fun e => e.born == b) = some x := by rw [← Array.find?_toList]; exact g1
    have hback : (b :: rest).reverse.toArray.back? = some b := by simp
    exact ⟨ρ, .tuple #[x.key, x.val], w, by simp only [Instr.entry, Sem.run_bind, run_getObj_iter k3, MapKept.run_getObj_map k7, Result.andThen, hback, bne_self_eq_false, Bool.false_eq_true, if_false, g1]; rfl, hh, St.refl _ _ _, #[x.key, x.val], rfl, _, _, rfl, g2, _, _, rfl, g3, rfl⟩

theorem makeMapO_lays (e : h.new (.map [] 0) (fun r h => some (AV.map r, h)) = some (v, h')) : Lays h h' ∧ v = .map h.nx ∧ h'.get h.nx = some (.map [] 0) := by
  obtain ⟨h1, k1, k2, k3⟩ := new_some e
  cases k1
  exact ⟨⟨k2, fun q hq => by rw [k3, if_neg hq], _, by rw [k3, if_pos rfl], rfl⟩, rfl, by rw [k3, if_pos rfl]⟩
theorem op_makeMap_gen {ρ0 : Rho} {h0 hx hx' : H} {w0 : World} (L : Laid σ N ρ h w ρ0 h0 w0 hx hx' h') {t : TypeId} (ho : o.op = .makeMap t none) (e : hx.new (.map [] 0) (fun r h => some (AV.map r, h)) = some (v, hx')) : Lain P σ N o a ρ w ρ0 h0 w0 hx.nx v h' := by
  obtain ⟨_, rfl, k3⟩ := makeMapO_lays e
  obtain ⟨g1, g2⟩ := L.hh.add L.st L.low L.free (row := .map [] 0) (h' := h') (fun q => by
    rw [L.get]
    by_cases hq : q = hx.nx
    · rw [if_pos hq, if_pos hq, hq, k3]
    · rw [if_neg hq, if_neg hq]) L.nx L.lt (fun q hq => by cases hq) (o := .map #[] 0) (p := ⟨w.heap.size, 0, 0⟩) rfl ⟨#[], pushed_new w _, rfl⟩
  exact ⟨_, _, _, by simp [execOp, ho, Instr.makeMap, Result.andThen]; rfl, g1, g2, ⟨_, upd_same _ _ _, rfl⟩, upd_sub L.free _, fun q hq => upd_ne hq⟩
theorem strT_under {t : TypeId} (h : strT P t = true) : P.underlying t = some .string := by
  unfold strT at h
  split at h
  · assumption
  · cases h
theorem indexF_ok {F : Facts} (hF : FactsOk P σ F) {t : TypeId} {x j v : AV} (h : indexF P F t (elemO P t) x j = some v) {y z : Value} (hx : VR σ ρ x y) (hy : VR σ ρ j z) : ∃ u, VR σ ρ v u ∧ ∀ w, (Instr.index t y z).run P w = .ok u w := by
  unfold indexF at h
  split at h
  · rename_i s
    obtain ⟨h1, h2⟩ := ite_some.1 h
    obtain ⟨k, h3, h4⟩ := bnd_some.1 h2
    obtain ⟨b, hb, hk, hv⟩ := hF.idx _ _ _ h4
    have hx : y = σ s := hx
    rw [hb] at hx
    subst hx
    obtain ⟨u, g1, g2⟩ := indexO_ok (P := P) (t := t) (a := .str b.data.toList.length (bytesN b.data.toList)) (j := j) (v := .int .u8 (.ofNat (byteAt (bytesN b.data.toList) k))) (σ := σ) (ρ := ρ) (by
      unfold indexO
      rw [h3]
      show ite' (strT P t) (ite' (Nat.ble (Nat.succ k) b.data.toList.length) (force (byteAt (bytesN b.data.toList) k) fun b => some (AV.int .u8 (.ofNat b)))) = _
      rw [h1, Nat.ble_eq_true_of_le (show Nat.succ k ≤ _ from hk), force_eq]; rfl) ⟨b, rfl, rfl, rfl⟩ hy
    refine ⟨u, ?_, g2⟩
    have g1 : u = .int .u8 (.ofNat (byteAt (bytesN b.data.toList) k)) := g1
    rw [g1, byteAt_eq _ _ hk]
    exact hv ρ
  · exact indexO_ok h hx hy
theorem sliceF_ok {F : Facts} (hF : FactsOk P σ F) {t : TypeId} {x v : AV} {lo hi mx : Option (Option AV)} (e : sliceF P F t x lo hi mx = some v) {y : Value} (hx : VR σ ρ x y) {low high max : Option Value}
    (hl : ∀ d n, bound lo d = some n → Bd low d n) (hh : ∀ d n, bound hi d = some n → Bd high d n) (hm : ∀ d n, bound mx d = some n → Bd max d n) (h0 : hi = none → high = none) (h0' : hi ≠ none → high ≠ none) (hm0 : mx = none → max = none) :
    ∃ u, VR σ ρ v u ∧ ∀ w, (Instr.sliceAt t y low high max).run P w = .ok u w := by
  unfold sliceF at e
  split at e
  · rename_i s
    cases mx with
    | some => cases e
    | none =>
      obtain ⟨h1, e1⟩ := ite_some.1 (show ite' (strT P t) (bnd (bound lo 0) fun l => Option.rec (F.sub s l none) (fun hi => bnd (bound (some hi) 0) fun h => F.sub s l (some h)) hi) = some v from e)
      obtain ⟨l, h2, e2⟩ := bnd_some.1 e1
      have key : ∀ h : Option Nat, F.sub s l h = some v → (∀ b : ByteArray, bound hi b.data.toList.length = some (h.getD b.size)) → ∃ u, VR σ ρ v u ∧ ∀ w, (Instr.sliceAt t y low high max).run P w = .ok u w := fun h e3 hbd => by
        obtain ⟨b, hb, k1, k2, hv⟩ := hF.sub _ _ _ _ e3
        have hx : y = σ s := hx
        rw [hb] at hx
        subst hx
        have hsz : b.size = b.data.toList.length := (Array.length_toList (xs := b.data)).symm
        obtain ⟨u, g1, g2⟩ := sliceO_ok (P := P) (σ := σ) (ρ := ρ) (t := t) (a := .str b.data.toList.length (bytesN b.data.toList)) (v := .str (h.getD b.size - l) (subS (bytesN b.data.toList) l (h.getD b.size))) (lo := lo) (hi := hi) (mx := none) (by
          show ite' (strT P t) (bnd (bound lo 0) fun l => bnd (bound hi b.data.toList.length) fun h => ite' (Nat.ble l h) (ite' (Nat.ble h b.data.toList.length) (force (Nat.sub h l) fun m => force (subS (bytesN b.data.toList) l h) fun z => some (AV.str m z)))) = _
          rw [h1, h2, hbd b]
          show ite' (Nat.ble l (h.getD b.size)) (ite' (Nat.ble (h.getD b.size) b.data.toList.length) (force (Nat.sub (h.getD b.size) l) fun m => force (subS (bytesN b.data.toList) l (h.getD b.size)) fun z => some (AV.str m z))) = _
          rw [Nat.ble_eq_true_of_le k1, Nat.ble_eq_true_of_le (hsz ▸ k2), force_eq, force_eq]; rfl) ⟨b, rfl, rfl, rfl⟩ hl hh hm h0 h0' hm0
        refine ⟨u, ?_, g2⟩
        obtain ⟨c, rfl, c1, c2⟩ := g1
        have el : (b.extract l (h.getD b.size)).data.toList = (b.data.toList.drop l).take (h.getD b.size - l) := by simp
        have : c = b.extract l (h.getD b.size) := by
          have hlist : c.data.toList = (b.extract l (h.getD b.size)).data.toList := by
            refine bytesN_inj ?_ ?_
            · rw [c1, el]; simp; rw [hsz] at k2 ⊢; omega
            · rw [c2, el, subS_eq]
          cases c; cases hbe : b.extract l (h.getD b.size)
          rw [hbe] at hlist
          congr 1
          exact Array.ext' hlist
        rw [this]; exact hv ρ
      cases hi with
      | none => exact key none e2 fun b => by show some b.data.toList.length = some b.size; rw [show b.size = b.data.toList.length from (Array.length_toList (xs := b.data)).symm]
      | some hi =>
        obtain ⟨h, h3, e3⟩ := bnd_some.1 (show bnd (bound (some hi) 0) (fun h => F.sub s l (some h)) = some v from e2)
        exact key (some h) e3 fun b => h3
  · exact sliceO_ok e hx hl hh hm h0 h0' hm0
theorem chanE_some {t e : TypeId} (h : chanE P t = some e) : ∃ k, P.underlying t = some (.chan k e) := by
  obtain ⟨d, h1, h2⟩ := bnd_some.1 h
  split at h2
  · cases h2; exact ⟨_, h1⟩
  · cases h2
theorem makeChanO_lays {t : TypeId} {x : AV} (e : makeChanO P t x h = some (v, h')) : Lays h h' ∧ v = .chan h.nx ∧ ∃ n, natOf x = some n ∧ h'.get h.nx = some (.chan n []) := by
  obtain ⟨el, _, e⟩ := bnd_some.1 e
  obtain ⟨i, _, e⟩ := bnd_some.1 e
  obtain ⟨n, hn, e⟩ := bnd_some.1 e
  obtain ⟨_, e⟩ := ite_some.1 e
  obtain ⟨_, e⟩ := ite_some.1 e
  obtain ⟨h1, k1, k2, k3⟩ := new_some e
  cases k1
  exact ⟨⟨k2, fun q hq => by rw [k3, if_neg hq], _, by rw [k3, if_pos rfl], rfl⟩, rfl, n, hn, by rw [k3, if_pos rfl]⟩
theorem run_makeChan {t el : TypeId} {k : ChanDir} {i : TypeInfo} {n : Nat} {y : Value} (hu : P.underlying t = some (.chan k el)) (hi : P.info? el = some i) (hb : i.bytes ≤ 0x7ffffff) (hn : n ≤ 0xffff) (hy : ∃ kd, y = .int kd (n : Int)) (w : World) : (Instr.makeChan t y).run P w = .ok (.chan (some w.heap.size)) (pushed w (.chan n #[] false 0 0 false)) := by
  obtain ⟨kd, rfl⟩ := hy
  have hti : (typeInfo el).run P w = .ok i w := by simp [typeInfo, hi]
  have h1 : ¬ ((n : Int) < 0 ∨ 9223372036854775807 < (n : Int) ∨ 281474976710544 < (i.bytes : Int) * (n : Int)) := by
    have hp : ((i.bytes * n : Nat) : Int) ≤ ((0x7ffffff * 0xffff : Nat) : Int) := Int.ofNat_le.2 (Nat.mul_le_mul hb hn)
    rw [Int.natCast_mul] at hp
    have h2 : ((0x7ffffff * 0xffff : Nat) : Int) = 8795958738945 := rfl
    rw [h2] at hp
    omega
  simp [Instr.makeChan, asInt, asIntOf, run_underlying hu, hti, Result.andThen]
  rw [if_neg h1]
  rfl
theorem op_makeChan_gen {ρ0 : Rho} {h0 hx hx' : H} {w0 : World} (L : Laid σ N ρ h w ρ0 h0 w0 hx hx' h') {t : TypeId} {y : Operand} (ho : o.op = .makeChan t y) {x : AV} (hx1 : VR σ ρ x (a.eval y)) (e : makeChanO P t x hx = some (v, hx')) : Lain P σ N o a ρ w ρ0 h0 w0 hx.nx v h' := by
  obtain ⟨_, rfl, n, hn, k3⟩ := makeChanO_lays e
  obtain ⟨el, e1, e⟩ := bnd_some.1 e
  obtain ⟨i, e2, e⟩ := bnd_some.1 e
  obtain ⟨n', e3, e⟩ := bnd_some.1 e
  rw [hn] at e3; cases e3
  obtain ⟨e4, e⟩ := ite_some.1 e
  obtain ⟨e5, _⟩ := ite_some.1 e
  obtain ⟨k, hu⟩ := chanE_some e1
  obtain ⟨g1, g2⟩ := L.hh.add L.st L.low L.free (row := .chan n []) (h' := h') (fun q => by
    rw [L.get]
    by_cases hq : q = hx.nx
    · rw [if_pos hq, if_pos hq, hq, k3]
    · rw [if_neg hq, if_neg hq]) L.nx L.lt (fun q hq => by cases hq) (o := .chan n #[] false 0 0 false) (p := ⟨w.heap.size, 0, 0⟩) rfl ⟨#[], 0, 0, pushed_new w _, rfl⟩
  have hv : ∃ kd, a.eval y = .int kd (n : Int) := by
    obtain ⟨kd, rfl⟩ := natOf_some hn
    exact ⟨kd, hx1⟩
  exact ⟨_, _, _, by simp only [execOp, ho]; rw [Sem.run_bind, run_makeChan hu e2 (Nat.le_of_ble_eq_true e4) (Nat.le_of_ble_eq_true e5) hv]; rfl, g1, g2, ⟨_, upd_same _ _ _, rfl⟩, upd_sub L.free _, fun q hq => upd_ne hq⟩
theorem op_makeChan (hh : HR σ N ρ h w) {t : TypeId} {y : Operand} (ho : o.op = .makeChan t y) {x : AV} (hx1 : VR σ ρ x (a.eval y)) (e : makeChanO P t x h = some (v, h')) : Okv P σ N o a ρ h w v h' := (op_makeChan_gen (.self hh (makeChanO_lays e).1) ho hx1 e).okv
theorem op_makeMap (hh : HR σ N ρ h w) {t : TypeId} (ho : o.op = .makeMap t none) (e : h.new (.map [] 0) (fun r h => some (AV.map r, h)) = some (v, h')) : Okv P σ N o a ρ h w v h' := (op_makeMap_gen (.self hh (makeMapO_lays e).1) ho e).okv
end
end Go.Exe
