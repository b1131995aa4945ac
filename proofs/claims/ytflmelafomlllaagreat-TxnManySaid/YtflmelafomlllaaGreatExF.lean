/- Maps. -/
import Derived.Test.YtflmelafomlllaaGreatExE
import Derived.MapKept
import Derived.Maps.RangeRun
import Derived.Orders
import Derived.Tactics
import Derived.Conc.LoneSelect
namespace Go.Exe
open Go Go.MapKept

section
variable {P : Program} {σ : Sig} {N : Nat} {ρ : Rho} {h h' : H} {w w' : World} {o : Oper} {a : Act} {v : AV}

theorem keyT_ok {t : TypeId} {k : AV} (h : keyT P t k = true) {u : Value} (hu : VR σ ρ k u) : ∃ d, P.underlying t = some d ∧ IsKey d u := by
  unfold keyT at h
  split at h
  · rename_i j i n e
    cases hu
    exact ⟨_, e, (kEq_eq h).symm⟩
  · rename_i e
    obtain ⟨s, rfl, _⟩ := hu
    exact ⟨_, e, trivial⟩
  · cases h

theorem eqK_ok {d : TypeDesc} {k b : AV} {r : Bool} (e : eqK k b = some r) {u x : Value} (hd : IsKey d u) (hu : VR σ ρ k u) (hx : VR σ ρ b x) : Instr.sameNow d u x = some r ∧ (r = true → x = u) := by
  unfold eqK at e
  split at e
  · rename_i k x' j y'
    obtain ⟨h1, e⟩ := ite_some.1 e
    cases e
    cases hu; cases hx
    cases kEq_eq h1
    cases d <;> first | (cases hd; done) | skip
    refine ⟨?_, fun h => ?_⟩
    · show (if k = k then some (x' == y') else none) = _
      rw [if_pos rfl, ieq_eq]; rfl
    · rw [ieq_eq] at h
      rw [of_decide_eq_true h]
  · rename_i n x' m y'
    obtain ⟨s, rfl, h1, h2⟩ := hu
    obtain ⟨s', rfl, h3, h4⟩ := hx
    have e : some (strEq n x' m y') = some r := e
    cases e
    subst h1 h2 h3 h4
    cases d <;> first | (cases hd; done) | skip
    have hb : strEq s.data.toList.length (bytesN s.data.toList) s'.data.toList.length (bytesN s'.data.toList) = (s == s') := by
      rw [strEq_eq, Bool.eq_iff_iff, bytes_beq]
      obtain ⟨⟨p⟩⟩ := s
      obtain ⟨⟨q⟩⟩ := s'
      simp
    refine ⟨?_, fun h => ?_⟩
    · rw [hb]; rfl
    · rw [hb] at h
      exact congrArg Value.string ((bytes_beq s s').1 h).symm
  · cases e

section
variable {d : TypeDesc} {k : AV} {u : Value}

theorem findK_ok (hd : IsKey d u) (hu : VR σ ρ k u) : ∀ {l : List (AV × AV × Nat)} {m : List MapEntry} (i : Nat) {q : Option (AV × Nat)}, MR σ ρ l m → findK k l = some q →
    (q = none ∧ Instr.findNow d u m i = some none) ∨ ∃ j y c b, q = some (c, b) ∧ Instr.findNow d u m i = some (some (i + j, y.val)) ∧ m[j]? = some y ∧ y.key = u ∧ VR σ ρ c y.val ∧ y.born = b
  | [], _, i, q, hm, e => by cases hm; cases e; exact .inl ⟨rfl, rfl⟩
  | (b, c, n) :: l, _, i, q, ⟨x, r, h1, h2, h3, h4, h5⟩, e => by
    subst h1
    obtain ⟨t, e1, e⟩ := bnd_some.1 (show bnd (eqK k b) (fun r => Bool.rec (motive := fun _ => Option (Option (AV × Nat))) (findK k l) (some (some (c, n))) r) = some q from e)
    obtain ⟨g1, g2⟩ := eqK_ok e1 hd hu h2
    cases t with
    | true => cases e; exact .inr ⟨0, x, c, n, rfl, by simp [Instr.findNow, g1], rfl, g2 rfl, h3, h4⟩
    | false =>
      rcases findK_ok hd hu (i + 1) h5 e with ⟨k1, k2⟩ | ⟨j, y, c', b', k1, k2, k3, k4, k5, k6⟩
      · exact .inl ⟨k1, by simp [Instr.findNow, g1, k2]⟩
      · exact .inr ⟨j + 1, y, c', b', k1, by simp [Instr.findNow, g1, k2]; omega, by simpa using k3, k4, k5, k6⟩

theorem putK_ok (hd : IsKey d u) (hu : VR σ ρ k u) {y : Value} (hv : VR σ ρ v y) {c : Nat} : ∀ {l : List (AV × AV × Nat)} {m : List MapEntry} (i : Nat) {l' : List (AV × AV × Nat)} {b : Bool}, MR σ ρ l m → putK k v c l = some (l', b) →
    (b = true ∧ Instr.findNow d u m i = some none ∧ MR σ ρ l' (m ++ [{ key := u, val := y, born := c }])) ∨ (b = false ∧ ∃ j e, Instr.findNow d u m i = some (some (i + j, e.val)) ∧ m[j]? = some e ∧ e.key = u ∧ MR σ ρ l' (m.modify j fun e => { e with key := u, val := y }))
  | [], _, i, l', b, hm, e => by cases hm; cases e; exact .inl ⟨rfl, rfl, _, _, rfl, hu, hv, rfl, rfl⟩
  | (b0, c0, n) :: l, _, i, l', b, ⟨x, r, h1, h2, h3, h4, h5⟩, e => by
    subst h1
    obtain ⟨t, e1, e⟩ := bnd_some.1 (show bnd (eqK k b0) (fun r => Bool.rec (motive := fun _ => Option (List (AV × AV × Nat) × Bool)) (bnd2 (putK k v c l) fun l b => some ((b0, c0, n) :: l, b)) (some ((k, v, n) :: l, false)) r) = some (l', b) from e)
    obtain ⟨g1, g2⟩ := eqK_ok e1 hd hu h2
    cases t with
    | true =>
      cases e
      exact .inr ⟨rfl, 0, x, by simp [Instr.findNow, g1], rfl, g2 rfl, { x with key := u, val := y }, r, rfl, hu, hv, h4, h5⟩
    | false =>
      obtain ⟨l2, b2, e2, e⟩ := bnd2_some.1 e
      cases e
      rcases putK_ok hd hu hv (i + 1) h5 e2 with ⟨k1, k2, k3⟩ | ⟨k1, j, e', k2, k3, k4, k5⟩
      · exact .inl ⟨k1, by simp [Instr.findNow, g1, k2], x, _, rfl, h2, h3, h4, k3⟩
      · exact .inr ⟨k1, j + 1, e', by simp [Instr.findNow, g1, k2]; omega, by simpa using k3, k4, x, _, rfl, h2, h3, h4, k5⟩

theorem delK_ok (hd : IsKey d u) (hu : VR σ ρ k u) : ∀ {l : List (AV × AV × Nat)} {m : List MapEntry} (i : Nat) {l' : List (AV × AV × Nat)}, MR σ ρ l m → delK k l = some l' →
    (Instr.findNow d u m i = some none ∧ MR σ ρ l' m) ∨ ∃ j e, Instr.findNow d u m i = some (some (i + j, e.val)) ∧ m[j]? = some e ∧ MR σ ρ l' (m.eraseIdx j)
  | [], _, i, l', hm, e => by cases hm; cases e; exact .inl ⟨rfl, rfl⟩
  | (b0, c0, n) :: l, _, i, l', ⟨x, r, h1, h2, h3, h4, h5⟩, e => by
    subst h1
    obtain ⟨t, e1, e⟩ := bnd_some.1 (show bnd (eqK k b0) (fun r => Bool.rec (motive := fun _ => Option (List (AV × AV × Nat))) (bnd (delK k l) fun l => some ((b0, c0, n) :: l)) (some l) r) = some l' from e)
    obtain ⟨g1, g2⟩ := eqK_ok e1 hd hu h2
    cases t with
    | true => cases e; exact .inr ⟨0, x, by simp [Instr.findNow, g1], rfl, h5⟩
    | false =>
      obtain ⟨l2, e2, e⟩ := bnd_some.1 e
      cases e
      rcases delK_ok hd hu (i + 1) h5 e2 with ⟨k2, k3⟩ | ⟨j, e', k2, k3, k5⟩
      · exact .inl ⟨by simp [Instr.findNow, g1, k2], x, _, rfl, h2, h3, h4, k3⟩
      · exact .inr ⟨j + 1, e', by simp [Instr.findNow, g1, k2]; omega, by simpa using k3, x, _, rfl, h2, h3, h4, k5⟩
end

theorem setB_ok {y : Value} (hv : VR σ ρ v y) {n : Nat} : ∀ {l : List (AV × AV × Nat)} {m : List MapEntry} {l' : List (AV × AV × Nat)}, MR σ ρ l m → setB v n l = some l' →
    ∃ j, m.findIdx? (fun e => (e.born : Int) == (n : Int)) = some j ∧ MR σ ρ l' (m.modify j fun e => { e with val := y })
  | [], _, _, _, e => nomatch e
  | (b0, c0, c) :: l, _, l', ⟨x, r, h1, h2, h3, h4, h5⟩, e => by
    subst h1
    have e : Bool.rec (motive := fun _ => Option (List (AV × AV × Nat))) (bnd (setB v n l) fun l => some ((b0, c0, c) :: l)) (some ((b0, v, c) :: l)) (Nat.beq c n) = some l' := e
    rw [beq_eq] at e
    have h4 : x.born = c := h4
    by_cases hc : c = n
    · rw [decide_eq_true hc] at e
      cases e
      exact ⟨0, by rw [List.findIdx?_cons]; simp [h4, hc], { x with val := y }, r, rfl, h2, hv, h4, h5⟩
    · rw [decide_eq_false hc] at e
      obtain ⟨l2, e2, e⟩ := bnd_some.1 e
      cases e
      obtain ⟨j, k1, k2⟩ := setB_ok hv h5 e2
      refine ⟨j + 1, ?_, x, _, rfl, h2, h3, h4, k2⟩
      rw [List.findIdx?_cons, k1]
      have : ((x.born : Int) == (n : Int)) = false := by rw [h4]; simp; omega
      rw [this]; rfl

theorem findB_ok {n : Nat} : ∀ {l : List (AV × AV × Nat)} {m : List MapEntry} {p q : AV}, MR σ ρ l m → findB n l = some (p, q) → ∃ e, m.find? (fun e => e.born == n) = some e ∧ VR σ ρ p e.key ∧ VR σ ρ q e.val
  | [], _, _, _, _, e => nomatch e
  | (b0, c0, c) :: l, _, p, q, ⟨x, r, h1, h2, h3, h4, h5⟩, e => by
    subst h1
    have e : Bool.rec (motive := fun _ => Option (AV × AV)) (findB n l) (some (b0, c0)) (Nat.beq c n) = some (p, q) := e
    have h4 : x.born = c := h4
    rw [beq_eq] at e
    by_cases hc : c = n
    · rw [decide_eq_true hc] at e
      cases e
      exact ⟨x, by rw [List.find?_cons]; simp [h4, hc], h2, h3⟩
    · rw [decide_eq_false hc] at e
      obtain ⟨y, k1, k2⟩ := findB_ok h5 e
      refine ⟨y, ?_, k2⟩
      rw [List.find?_cons, k1]
      have : (x.born == n) = false := by rw [h4]; simp; omega
      rw [this]

theorem memN_eq (n : Nat) : ∀ l : List Nat, memN l n = l.contains n
  | [] => rfl
  | b :: l => by
    show Bool.rec (motive := fun _ => Bool) (memN l n) true (Nat.beq b n) = _
    rw [memN_eq n l, List.contains_cons, beq_eq]
    by_cases hb : b = n
    · rw [decide_eq_true hb]; simp [hb]
    · rw [decide_eq_false hb]
      have : (n == b) = false := by simp; omega
      rw [this]; rfl
theorem leftE_ok (seen : List Nat) : ∀ {l : List (AV × AV × Nat)} {m : List MapEntry}, MR σ ρ l m → MR σ ρ (leftE seen l) (m.filter fun e => !seen.contains e.born)
  | [], _, hm => by cases hm; rfl
  | (b0, c0, c) :: l, _, ⟨x, r, h1, h2, h3, h4, h5⟩ => by
    subst h1
    have h4 : x.born = c := h4
    show MR σ ρ (Bool.rec (motive := fun _ => List (AV × AV × Nat)) ((b0, c0, c) :: leftE seen l) (leftE seen l) (memN seen c)) _
    rw [memN_eq, List.filter_cons, h4]
    cases seen.contains c with
    | true => exact leftE_ok seen h5
    | false => exact ⟨x, _, rfl, h2, h3, h4, leftE_ok seen h5⟩
theorem allBelow_ok {n : Nat} : ∀ {l : List (AV × AV × Nat)} {m : List MapEntry}, MR σ ρ l m → allBelow n l = true → ∀ e ∈ m, e.born < n
  | [], _, hm, _, e, he => by cases hm; cases he
  | (b0, c0, c) :: l, _, ⟨x, r, h1, h2, h3, h4, h5⟩, hb, e, he => by
    subst h1
    have h4 : x.born = c := h4
    have hb : Bool.rec (motive := fun _ => Bool) false (allBelow n l) (Nat.ble (Nat.succ c) n) = true := hb
    cases hc : Nat.ble (Nat.succ c) n with
    | false => rw [hc] at hb; cases hb
    | true =>
      rw [hc] at hb
      rcases List.mem_cons.1 he with rfl | he
      · have := Nat.le_of_ble_eq_true hc; omega
      · exact allBelow_ok h5 hb e he

theorem mapKE_some {t k e : TypeId} (h : mapKE P t = some (k, e)) : P.underlying t = some (.map k e) := by
  obtain ⟨d, h1, h2⟩ := bnd_some.1 h
  split at h2
  · cases h2; exact h1
  · cases h2
theorem onKey_some {R : Type} {t : TypeId} {k : AV} {f : TypeId → Option R} {x : R} (h : onKey P t k f = some x) {u : Value} (hu : VR σ ρ k u) : ∃ kt e d, P.underlying t = some (.map kt e) ∧ P.underlying kt = some d ∧ IsKey d u ∧ f e = some x := by
  obtain ⟨kt, e, h1, h2⟩ := bnd2_some.1 h
  obtain ⟨h3, h4⟩ := ite_some.1 h2
  obtain ⟨d, h5, h6⟩ := keyT_ok h3 hu
  exact ⟨kt, e, d, mapKE_some h1, h5, h6, h4⟩

/-- A map row's block. -/
theorem map_live (hh : HR σ N ρ h w) {r : Nat} {l : List (AV × AV × Nat)} {c : Nat} (e : h.get r = some (.map l c)) {y : Value} (hy : VR σ ρ (.map r) y) : ∃ p es, ρ r = some p ∧ y = .map (some p.b) ∧ w.heap[p.b]? = some (.map es c) ∧ MR σ ρ l es.toList := by
  obtain ⟨p, h1, rfl⟩ := hy
  obtain ⟨p', h2, es, h3, h4⟩ := hh.live r _ e
  rw [h1] at h2; cases h2
  exact ⟨p, es, h1, rfl, h3, h4⟩

def withObj (w : World) (b : Nat) (x : Obj) : World := { w with heap := w.heap.setIfInBounds b x }
/-- A map row turns. -/
theorem map_turn (hh : HR σ N ρ h w) {r : Nat} {row row' : Row} (e : h.get r = some row) (hw : wrOf row = true) (hrl : relOf row = []) (hrl' : relOf row' = []) {p : Pl} (hp : ρ r = some p) {x0 x : Obj} (hb : w.heap[p.b]? = some x0) (hput : h.put r (some row') = some h') (hrow : RowR σ ρ (withObj w p.b x) p row') : HR σ N ρ h' (withObj w p.b x) ∧ St ρ h w ρ h' (withObj w p.b x) := by
  obtain ⟨k1, k2⟩ := put_some hput
  refine hh.turn hp e hw (fun q => ?_) k1 hrl' ⟨rfl, rfl, rfl⟩ (by simp [withObj]) (fun b hne => (heap_set (o' := x) hb).2 b hne) hrow
  rw [k2, hrl]
  by_cases hq : q = r
  · rw [if_pos hq, if_pos hq]
  · rw [if_neg hq, if_neg hq, if_neg (by simp)]
theorem withObj_at {b : Nat} {x0 x : Obj} (hb : w.heap[b]? = some x0) : (withObj w b x).heap[b]? = some x := (heap_set hb).1

theorem onMap_row {R : Type} {r : Nat} {k : List (AV × AV × Nat) → Nat → Option R} {x : R} (h1 : onMap (h.get r) k = some x) : ∃ l c, h.get r = some (.map l c) ∧ k l c = some x := onMap_some h1

theorem lookupO_ok (hh : HR σ N ρ h w) {t : TypeId} {m k : AV} {ok : Bool} (e : lookupO P t m k ok h = some (v, h')) {y z : Value} (hy : VR σ ρ m y) (hz : VR σ ρ k z) : Gives P σ N ρ h w (Instr.lookup t y z ok) v h' := by
  obtain ⟨kt, et, d, u1, u2, hd, e⟩ := onKey_some e hz
  obtain ⟨q, e1, e⟩ := bnd_some.1 e
  have fin : ∀ es : Array MapEntry, (∀ (r : Option (Nat × Value)) (zv : Value), Instr.findNow d z es.toList 0 = some r → (r = none → ∀ w, (zeroValue et).run P w = .ok zv w) → (Instr.lookup t y z ok).run P w = .ok (if ok then .tuple #[(r.map (·.2)).getD zv, .bool r.isSome] else (r.map (·.2)).getD zv) w) →
      ((q = none ∧ Instr.findNow d z es.toList 0 = some none) ∨ ∃ j y c b, q = some (c, b) ∧ Instr.findNow d z es.toList 0 = some (some (j, y)) ∧ VR σ ρ c y) → Gives P σ N ρ h w (Instr.lookup t y z ok) v h' := fun es hr hq => by
    rcases hq with ⟨rfl, k1⟩ | ⟨j, y', c, b, rfl, k1, k2⟩
    · obtain ⟨zv, e2, e⟩ := bnd_some.1 e
      obtain ⟨u, k3, k4⟩ := zeroOf_ok (P := P) (σ := σ) (ρ := ρ) e2
      have := hr none u k1 fun _ => k4
      cases ok with
      | true => cases e; exact ⟨ρ, _, w, this, hh, St.refl _ _ _, #[u, .bool false], rfl, u, _, rfl, k3, _, _, rfl, rfl, rfl⟩
      | false => cases e; exact ⟨ρ, _, w, this, hh, St.refl _ _ _, k3⟩
    · have := hr (some (j, y')) undef k1 fun h => nomatch h
      cases ok with
      | true => cases e; exact ⟨ρ, _, w, this, hh, St.refl _ _ _, #[y', .bool true], rfl, y', _, rfl, k2, _, _, rfl, rfl, rfl⟩
      | false => cases e; exact ⟨ρ, _, w, this, hh, St.refl _ _ _, k2⟩
  split at e1
  · cases hy
    cases e1
    refine fin #[] (fun r zv g1 g2 => ?_) (.inl ⟨rfl, rfl⟩)
    cases g1
    cases ok <;> simp [Instr.lookup, run_underlying u1, run_checkKey u2 hd, run_findKey u2 (show Instr.findNow d z [] 0 = some none from rfl), g2 rfl, Result.andThen]
  · rename_i r
    obtain ⟨l, c, e2, e1⟩ := onMap_some e1
    obtain ⟨p, es, k1, rfl, k2, k3⟩ := map_live hh e2 hy
    refine fin es (fun r zv g1 g2 => ?_) ?_
    · cases r with
      | none => cases ok <;> simp [Instr.lookup, run_underlying u1, MapKept.run_getObj_map k2, run_checkKey u2 hd, run_findKey u2 g1, g2 rfl, Result.andThen]
      | some r => cases ok <;> simp [Instr.lookup, run_underlying u1, MapKept.run_getObj_map k2, run_checkKey u2 hd, run_findKey u2 g1, Result.andThen]
    · rcases findK_ok hd hz 0 k3 e1 with ⟨g1, g2⟩ | ⟨j, y', c', b, g1, g2, _, _, g5, _⟩
      · exact .inl ⟨g1, g2⟩
      · exact .inr ⟨_, _, _, _, g1, g2, g5⟩
  · cases e1

theorem mapUpdateO_ok (hh : HR σ N ρ h w) {t : TypeId} {m k x : AV} (e : mapUpdateO P t m k x h = some (v, h')) {y z u : Value} (hy : VR σ ρ m y) (hz : VR σ ρ k z) (hu : VR σ ρ x u) : v = .und ∧ ∃ w', (Instr.mapUpdate t y z u).run P w = .ok () w' ∧ HR σ N ρ h' w' ∧ St ρ h w ρ h' w' := by
  obtain ⟨kt, et, d, u1, u2, hd, e⟩ := onKey_some e hz
  split at e
  · rename_i r
    obtain ⟨l, c, e2, e⟩ := onMap_some e
    obtain ⟨l2, b, e3, e⟩ := bnd2_some.1 e
    rw [force_eq] at e
    obtain ⟨h1, e4, e⟩ := bnd_some.1 e
    cases e
    obtain ⟨p, es, k1, rfl, k2, k3⟩ := map_live hh e2 hy
    refine ⟨rfl, ?_⟩
    rcases putK_ok hd hz hu 0 k3 e3 with ⟨rfl, g1, g2⟩ | ⟨rfl, j, e', g1, g2, g3, g4⟩
    · refine ⟨withObj w p.b (.map (es.push { key := z, val := u, born := c }) (c + 1)), ?_, map_turn hh e2 rfl rfl rfl k1 k2 e4 ⟨_, withObj_at k2, by simpa using g2⟩⟩
      simp [Instr.mapUpdate, run_underlying u1, MapKept.run_getObj_map k2, run_checkKey u2 hd, run_findKey u2 g1, run_setObj_map _ k2, Result.andThen, withObj]
    · have hj : es[j]? = some e' := by simpa using g2
      refine ⟨withObj w p.b (.map (es.modify j fun e => { e with key := z, val := u }) c), ?_, map_turn hh e2 rfl rfl rfl k1 k2 e4 ⟨_, withObj_at k2, by simpa using g4⟩⟩
      have g1 : Instr.findNow d z es.toList 0 = some (some (j, e'.val)) := by simpa using g1
      simp [Instr.mapUpdate, run_underlying u1, MapKept.run_getObj_map k2, run_checkKey u2 hd, run_findKey u2 g1, hj, g3, run_keyThatStays hd, run_setObj_map _ k2, Result.andThen, withObj]
  · cases e

theorem same_key {z : Value} {es : Array MapEntry} {j : Nat} {e : MapEntry} (h1 : es[j]? = some e) (h2 : e.key = z) : (es.modify j fun e => { e with key := z }) = es := by
  apply Array.ext_getElem?
  intro i
  rw [Array.getElem?_modify]
  by_cases hi : j = i
  · subst hi; rw [if_pos rfl, h1, ← h2]; rfl
  · rw [if_neg hi]
theorem withObj_same {b : Nat} {x : Obj} (hb : w.heap[b]? = some x) : withObj w b x = w := by
  have : w.heap.setIfInBounds b x = w.heap := by
    apply Array.ext_getElem?
    intro i
    by_cases hi : i = b
    · subst hi; rw [(heap_set (o' := x) hb).1, hb]
    · exact (heap_set (o' := x) hb).2 i hi
  unfold withObj
  rw [this]

theorem mapEntryO_ok (hh : HR σ N ρ h w) {t : TypeId} {m k : AV} (e : mapEntryO P t m k h = some (v, h')) {y z : Value} (hy : VR σ ρ m y) (hz : VR σ ρ k z) : Gives P σ N ρ h w (Instr.mapEntry t y z) v h' := by
  obtain ⟨kt, et, d, u1, u2, hd, e⟩ := onKey_some e hz
  split at e
  · rename_i r
    obtain ⟨l, c, e2, e⟩ := onMap_some e
    obtain ⟨q, e3, e⟩ := bnd_some.1 e
    obtain ⟨p, es, k1, rfl, k2, k3⟩ := map_live hh e2 hy
    rcases findK_ok hd hz 0 k3 e3 with ⟨rfl, g1⟩ | ⟨j, y', c', b, rfl, g1, g2, g3, g5, g6⟩
    · obtain ⟨zv, e4, e⟩ := bnd_some.1 e
      obtain ⟨l2, b, e5, e⟩ := bnd2_some.1 e
      rw [force_eq] at e
      obtain ⟨h1, e6, e⟩ := bnd_some.1 e
      cases e
      obtain ⟨u, k4, k5⟩ := zeroOf_ok (P := P) (σ := σ) (ρ := ρ) e4
      rcases putK_ok hd hz k4 0 k3 e5 with ⟨rfl, f1, f2⟩ | ⟨rfl, j, e', f1, _⟩
      · obtain ⟨t1, t2⟩ := map_turn (x := .map (es.push { key := z, val := u, born := c }) (c + 1)) hh e2 rfl rfl rfl k1 k2 e6 ⟨_, withObj_at k2, by simpa using f2⟩
        exact ⟨ρ, .tuple #[u, goInt c], _, by simp [Instr.mapEntry, run_underlying u1, MapKept.run_getObj_map k2, run_checkKey u2 hd, run_findKey u2 g1, k5, run_setObj_map _ k2, Result.andThen, withObj], t1, t2, #[u, goInt c], rfl, u, _, rfl, k4, _, _, rfl, rfl, rfl⟩
      · rw [g1] at f1; cases f1
    · cases e
      have hj : es[j]? = some y' := by simpa using g2
      have g1 : Instr.findNow d z es.toList 0 = some (some (j, y'.val)) := by simpa using g1
      refine ⟨ρ, .tuple #[y'.val, goInt b], w, ?_, hh, St.refl _ _ _, #[y'.val, goInt b], rfl, y'.val, _, rfl, g5, _, _, rfl, rfl, rfl⟩
      have k4 := withObj_same k2
      unfold withObj at k4
      simp [Instr.mapEntry, run_underlying u1, MapKept.run_getObj_map k2, run_checkKey u2 hd, run_findKey u2 g1, hj, g3, run_keyThatStays hd, same_key hj g3, run_setObj_map _ k2, Result.andThen, g6, k4]
  · cases e

theorem entryStoreO_ok (hh : HR σ N ρ h w) {t : TypeId} {m k x : AV} (e : entryStoreO m k x h = some (v, h')) {y z u : Value} (hy : VR σ ρ m y) (hz : VR σ ρ k z) (hu : VR σ ρ x u) : v = .und ∧ ∃ w', (Instr.entryStore t y z u).run P w = .ok () w' ∧ HR σ N ρ h' w' ∧ St ρ h w ρ h' w' := by
  unfold entryStoreO at e
  split at e
  · rename_i r n
    obtain ⟨l, c, e2, e⟩ := onMap_some e
    obtain ⟨l2, e3, e⟩ := bnd_some.1 e
    obtain ⟨h1, e4, e⟩ := bnd_some.1 e
    cases e
    obtain ⟨p, es, k1, rfl, k2, k3⟩ := map_live hh e2 hy
    cases hz
    obtain ⟨j, g1, g2⟩ := setB_ok hu k3 e3
    refine ⟨rfl, withObj w p.b (.map (es.modify j fun e => { e with val := u }) c), ?_, map_turn hh e2 rfl rfl rfl k1 k2 e4 ⟨_, withObj_at k2, by simpa using g2⟩⟩
    have g1 : es.findIdx? (fun e => (e.born : Int) == (n : Int)) = some j := by
      obtain ⟨l0⟩ := es
      simpa using g1
    simp [Instr.entryStore, MapKept.run_getObj_map k2, asInt, asIntOf, g1, run_setObj_map _ k2, Result.andThen, withObj]
  · cases e

theorem deleteO_ok (hh : HR σ N ρ h w) {t t2 : TypeId} {m k : AV} (e : deleteO P t m k h = some (v, h')) {y z : Value} (hy : VR σ ρ m y) (hz : VR σ ρ k z) : Gives P σ N ρ h w (Builtin.delete_ #[t, t2] o.type #[y, z]) v h' := by
  obtain ⟨kt, et, d, u1, u2, hd, e⟩ := onKey_some e hz
  split at e
  · cases hy
    cases e
    exact ⟨ρ, .tuple #[], w, by simp [Builtin.delete_, run_underlying u1, run_checkKey u2 hd, Result.andThen], hh, St.refl _ _ _, #[], rfl, rfl⟩
  · rename_i r
    obtain ⟨l, c, e2, e⟩ := onMap_some e
    obtain ⟨l2, e3, e⟩ := bnd_some.1 e
    obtain ⟨h1, e4, e⟩ := bnd_some.1 e
    cases e
    obtain ⟨p, es, k1, rfl, k2, k3⟩ := map_live hh e2 hy
    rcases delK_ok hd hz 0 k3 e3 with ⟨g1, g2⟩ | ⟨j, e', g1, g2, g3⟩
    · obtain ⟨t1, t3⟩ := map_turn (x := .map es c) hh e2 rfl rfl rfl k1 k2 e4 ⟨_, withObj_at k2, g2⟩
      exact ⟨ρ, .tuple #[], _, by simp [Builtin.delete_, run_underlying u1, MapKept.run_getObj_map k2, run_checkKey u2 hd, run_findKey u2 g1, run_setObj_map _ k2, Result.andThen, withObj], t1, t3, #[], rfl, rfl⟩
    · have hj : es[j]? = some e' := by simpa using g2
      have hlt : j < es.size := (Array.getElem?_eq_some_iff.1 hj).1
      obtain ⟨t1, t3⟩ := map_turn (x := .map (es.eraseIdxIfInBounds j) c) hh e2 rfl rfl rfl k1 k2 e4 ⟨_, withObj_at k2, by
        unfold Array.eraseIdxIfInBounds
        rw [dif_pos hlt, Array.toList_eraseIdx]; exact g3⟩
      have g1 : Instr.findNow d z es.toList 0 = some (some (j, e'.val)) := by simpa using g1
      exact ⟨ρ, .tuple #[], _, by simp [Builtin.delete_, run_underlying u1, MapKept.run_getObj_map k2, run_checkKey u2 hd, run_findKey u2 g1, run_setObj_map _ k2, Result.andThen, withObj], t1, t3, #[], rfl, rfl⟩
  · cases e

theorem clearO_ok (hσ : ∀ i, (σ i).oneCell' = true) (hh : HR σ N ρ h w) {t : TypeId} {m : AV} (e : clearO P t m h = some (v, h')) {y : Value} (hy : VR σ ρ m y) : Gives P σ N ρ h w (Builtin.clear_ #[t] o.type #[y]) v h' := by
  obtain ⟨d, u1, e⟩ := bnd_some.1 e
  have u1 : P.underlying t = some d := u1
  split at e
  · cases hy
    cases e
    exact ⟨ρ, .tuple #[], w, by simp [Builtin.clear_, run_underlying u1, Result.andThen], hh, St.refl _ _ _, #[], rfl, rfl⟩
  · cases hy
    cases e
    exact ⟨ρ, .tuple #[], w, by simp [Builtin.clear_, run_underlying u1, Result.andThen], hh, St.refl _ _ _, #[], rfl, rfl⟩
  · rename_i r
    obtain ⟨l, c, e2, e⟩ := onMap_some e
    obtain ⟨h1, e4, e⟩ := bnd_some.1 e
    cases e
    obtain ⟨p, es, k1, rfl, k2, k3⟩ := map_live hh e2 hy
    obtain ⟨t1, t3⟩ := map_turn (x := .map #[] c) hh e2 rfl rfl rfl k1 k2 e4 ⟨_, withObj_at k2, rfl⟩
    exact ⟨ρ, .tuple #[], _, by simp [Builtin.clear_, run_underlying u1, MapKept.run_getObj_map k2, run_setObj_map _ k2, Result.andThen, withObj], t1, t3, #[], rfl, rfl⟩
  · rename_i r q n c g e0
    obtain ⟨p, cap, off, q1, rfl, q2, q3, _⟩ := hy
    cases n with
    | zero => cases e; exact ⟨ρ, .tuple #[], w, by simp [Builtin.clear_, run_underlying u1, Result.andThen], hh, St.refl _ _ _, #[], rfl, rfl⟩
    | succ n =>
      obtain ⟨el, e1, e2⟩ := bnd_some.1 (show bnd (sliceE P t) (fun e => bnd (szOf P e) fun s => bnd (zeroOf P e) fun z => onCellsOf z fun l => ite' (Nat.beq (len l) s) (bnd (storeL r s (rep (n + 1) l) q h) fun h => some (.tup [], h))) = some (v, h') from e)
      obtain ⟨s, e3, e4⟩ := bnd_some.1 e2
      obtain ⟨z, e5, e6⟩ := bnd_some.1 e4
      obtain ⟨l, e7, e8⟩ := onCellsOf_some e6
      obtain ⟨e9, e10⟩ := ite_some.1 e7
      obtain ⟨h1, e11, e12⟩ := bnd_some.1 e10
      cases e12
      rw [len_eq] at e9
      have e9 := Nat.eq_of_beq_eq_true e9
      obtain ⟨zv, z1, z2⟩ := zeroOf_ok (P := P) (σ := σ) (ρ := ρ) e5
      obtain ⟨z3, z4⟩ := e8 σ ρ zv hσ z1
      have hu := sliceE_some e1
      have hsz : zv.cells.size = s := by have := z4.length; simpa [e9] using this
      have fl := rep_fl z4 z3 e9 (n + 1) (z2 := zv.cells) (.inr rfl)
      obtain ⟨w', r1, r2, r3⟩ := storeL_ok (P := P) hσ q1 hh e11 fl
      have hoff : off = p.base + q := q2.resolve_right (by omega)
      subst hoff
      refine ⟨ρ, .tuple #[], w', ?_, r2, r3, #[], rfl, rfl⟩
      simp only [hsz, Array.toList_map, Array.toList_range] at r1
      simp [Builtin.clear_, run_underlying hu, Result.andThen, Builtin.zeroCells, z2, hsz, r1]
  · cases e

theorem rangeO_ok (hh : HR σ N ρ h w) {t : TypeId} {m : AV} (e : rangeO P t m h = some (v, h')) {y : Value} (hy : VR σ ρ m y) : Gives P σ N ρ h w (Instr.range t y) v h' := by
  obtain ⟨⟨kt, et⟩, u0, e0⟩ := bnd_some.1 e
  have u1 := mapKE_some u0
  clear e u0
  split at e0
  · rename_i r
    obtain ⟨l, c, e2, e3⟩ := onMap_some e0
    obtain ⟨h1, e4, n1, n2⟩ := new_some e3
    cases e4
    obtain ⟨p, es, k1, rfl, k2, k3⟩ := map_live hh e2 hy
    have hr : ρ h.nx = none := hh.new _ (Nat.le_refl _)
    obtain ⟨t1, t2⟩ := hh.add (St.refl _ _ _) (r := h.nx) (Nat.le_refl _) hr (row := .iter r c [] c) (h' := h') n2 (by omega) (by omega) (fun q hq => by cases hq) (o := .mapIter (some p.b) c #[] c) (p := ⟨w.heap.size, 0, 0⟩) rfl ⟨rfl, p, upd_sub hr _ _ _ k1, pushed_new w _⟩
    exact ⟨_, _, _, by simp [Instr.range, run_underlying u1, MapKept.run_getObj_map k2, Result.andThen]; rfl, t1, t2, _, upd_same _ _ _, rfl⟩
  · cases e0

theorem iter_live (hh : HR σ N ρ h w) {r m since last : Nat} {seen : List Nat} (e : h.get r = some (.iter m since seen last)) {y : Value} (hy : VR σ ρ (.ptr r 0) y) : ∃ p pm, ρ r = some p ∧ y = .pointer (some ⟨p.b, 0, none⟩) ∧ ρ m = some pm ∧ w.heap[p.b]? = some (.mapIter (some pm.b) since seen.reverse.toArray last) ∧ p.base = 0 := by
  obtain ⟨p, h1, rfl⟩ := hy
  obtain ⟨p', h2, h3, pm, h4, h5⟩ := hh.live r _ e
  rw [h1] at h2; cases h2
  exact ⟨p, pm, h1, by rw [h3], h4, h5, h3⟩
theorem run_getObj_iter {r : Nat} {m : Option Nat} {s c : Nat} {seen : Array Nat} (hb : w.heap[r]? = some (.mapIter m s seen c)) : (getObj r).run P w = .ok (.mapIter m s seen c) w := by
  simp [getObj, Sem.run, hb]

theorem nextO_ok (hh : HR σ N ρ h w) {m : AV} (e : nextO m h = some (v, h')) {y : Value} (hy : VR σ ρ m y) : Gives P σ N ρ h w (Instr.next y false o.type) v h' := by
  obtain ⟨r, i, rfl, e4⟩ := onPtr_some e
  obtain ⟨hi, e5⟩ := ite_some.1 e4
  have hi := Nat.eq_of_beq_eq_true hi
  subst hi
  obtain ⟨mm, since, seen, last, e1, e6⟩ := onIter_some e5
  obtain ⟨l, c, e2, e7⟩ := onMap_some e6
  obtain ⟨hl, e8⟩ := ite_some.1 e7
  have hl := Nat.le_of_ble_eq_true hl
  obtain ⟨hb, e9⟩ := ite_some.1 e8
  clear e e4 e5 e6 e7 e8
  obtain ⟨p, pm, k1, rfl, k2, k3, k4⟩ := iter_live hh e1 hy
  obtain ⟨pm', es, k5, k6, k7, k8⟩ := map_live hh e2 ⟨pm, k2, rfl⟩
  rw [k2] at k5; cases k5
  have below := allBelow_ok k8 hb
  have left := leftE_ok seen k8
  have hleft : (leftOf es seen.reverse.toArray).toList = es.toList.filter fun e => !seen.contains e.born := by
    unfold leftOf
    rw [Array.toList_filter]
    congr 1
    funext e
    congr 1
    rw [Bool.eq_iff_iff]; simp
  rcases run_next_at (P := P) w o.type p.b pm.b since last seen.reverse.toArray es c k3 k7 below hl with ⟨f1, f2⟩ | ⟨x, f1, w1, f2, f3⟩
  · have f1 : (leftOf es seen.reverse.toArray).toList = [] := by rw [Array.eq_empty_of_size_eq_zero f1]
    rw [← hleft, f1] at left
    cases hE : leftE seen l with
    | nil => rw [hE] at e9; cases e9; exact ⟨ρ, .tuple #[.bool false], w, f2, hh, St.refl _ _ _, #[.bool false], rfl, _, _, rfl, rfl, rfl⟩
    | cons y ys => rw [hE] at left; obtain ⟨_, _, g, _⟩ := left; cases g
  · rw [hleft] at f1
    cases hE : leftE seen l with
    | nil => rw [hE] at left; rw [show (es.toList.filter fun e => !seen.contains e.born) = [] from left] at f1; cases f1
    | cons y ys =>
      rw [hE] at e9 left
      cases ys with
      | cons => cases e9
      | nil =>
        obtain ⟨k, q, b⟩ := y
        obtain ⟨z, r', g1, g2, g3, g4, g5⟩ := left
        have g5 : r' = [] := g5
        subst g5
        rw [g1] at f1
        have f1 : x = z := by simpa using f1
        subst f1
        obtain ⟨h1, e3, e10⟩ := bnd_some.1 (show bnd (h.put r (some (.iter mm since (b :: seen) c))) (fun h => some (AV.tup [.bool true, k, q], h)) = some (v, h') from e9)
        cases e10
        have g4 : x.born = b := g4
        have hh1 : HR σ N ρ h w1 := hh.heap (by rcases f2 with rfl | rfl <;> rfl)
        have k31 : w1.heap[p.b]? = some (.mapIter (some pm.b) since seen.reverse.toArray last) := by rcases f2 with rfl | rfl <;> exact k3
        obtain ⟨t1, t2⟩ := map_turn (x := .mapIter (some pm.b) since (seen.reverse.toArray.push x.born) c) hh1 e1 rfl rfl rfl k1 k31 e3 ⟨k4, pm, k2, by rw [withObj_at k31, g4]; simp⟩
        have t2 : St ρ h w ρ h' (withObj w1 p.b (.mapIter (some pm.b) since (seen.reverse.toArray.push x.born) c)) := by
          rcases f2 with rfl | rfl
          · exact t2
          · exact t2.drew
        exact ⟨ρ, _, _, f3, t1, t2, #[.bool true, x.key, x.val], rfl, _, _, rfl, rfl, _, _, rfl, g2, _, _, rfl, g3, rfl⟩

theorem entryO_ok (hh : HR σ N ρ h w) {m : AV} (e : entryO m h = some (v, h')) {y : Value} (hy : VR σ ρ m y) : Gives P σ N ρ h w (Instr.entry y) v h' := by
  obtain ⟨r, i, rfl, e4⟩ := onPtr_some e
  obtain ⟨hi, e5⟩ := ite_some.1 e4
  have hi := Nat.eq_of_beq_eq_true hi
  subst hi
  obtain ⟨mm, since, seen, last, e1, e6⟩ := onIter_some e5
  obtain ⟨l, c, e2, e7⟩ := onMap_some e6
  obtain ⟨hl, e8⟩ := ite_some.1 e7
  have hl := Nat.eq_of_beq_eq_true hl
  subst hl
  clear e e4 e5 e6 e7
  obtain ⟨p, pm, k1, rfl, k2, k3, k4⟩ := iter_live hh e1 hy
  obtain ⟨pm', es, k5, k6, k7, k8⟩ := map_live hh e2 ⟨pm, k2, rfl⟩
  rw [k2] at k5; cases k5
  cases seen with
  | nil => cases e8
  | cons b rest =>
    obtain ⟨k, q, e3, e⟩ := bnd2_some.1 (show bnd2 (findB b l) (fun k v => some (AV.tup [k, v], h)) = some (v, h') from e8)
    cases e
    obtain ⟨x, g1, g2, g3⟩ := findB_ok k8 e3
    have g1 : es.find? (fun e => e.born == b) = some x := by rw [← Array.find?_toList]; exact g1
    have hback : (b :: rest).reverse.toArray.back? = some b := by simp
    exact ⟨ρ, .tuple #[x.key, x.val], w, by simp only [Instr.entry, Sem.run_bind, run_getObj_iter k3, MapKept.run_getObj_map k7, Result.andThen, hback, bne_self_eq_false, Bool.false_eq_true, if_false, g1]; rfl, hh, St.refl _ _ _, #[x.key, x.val], rfl, _, _, rfl, g2, _, _, rfl, g3, rfl⟩

theorem makeMapO_lays (e : h.new (.map [] 0) (fun r h => some (AV.map r, h)) = some (v, h')) : Lays h h' ∧ v = .map h.nx ∧ h'.get h.nx = some (.map [] 0) := by
  obtain ⟨h1, k1, k2, k3⟩ := new_some e
  cases k1
  exact ⟨⟨k2, fun q hq => by rw [k3, if_neg hq], _, by rw [k3, if_pos rfl], rfl⟩, rfl, by rw [k3, if_pos rfl]⟩
theorem op_makeMap_gen {ρ0 : Rho} {h0 hx hx' : H} {w0 : World} (L : Laid σ N ρ h w ρ0 h0 w0 hx hx' h') {t : TypeId} (ho : o.op = .makeMap t none) (e : hx.new (.map [] 0) (fun r h => some (AV.map r, h)) = some (v, hx')) : Lain P σ N o a ρ w ρ0 h0 w0 hx.nx v h' := by
  obtain ⟨_, rfl, k3⟩ := makeMapO_lays e
  obtain ⟨g1, g2⟩ := L.hh.add L.st L.low L.free (row := .map [] 0) (h' := h') (fun q => by
    rw [L.get]
    by_cases hq : q = hx.nx
    · rw [if_pos hq, if_pos hq, hq, k3]
    · rw [if_neg hq, if_neg hq]) L.nx L.lt (fun q hq => by cases hq) (o := .map #[] 0) (p := ⟨w.heap.size, 0, 0⟩) rfl ⟨#[], pushed_new w _, rfl⟩
  exact ⟨_, _, _, by simp [execOp, ho, Instr.makeMap, Result.andThen]; rfl, g1, g2, ⟨_, upd_same _ _ _, rfl⟩, upd_sub L.free _, fun q hq => upd_ne hq⟩
theorem strT_under {t : TypeId} (h : strT P t = true) : P.underlying t = some .string := by
  unfold strT at h
  split at h
  · assumption
  · cases h
theorem indexF_ok {F : Facts} (hF : FactsOk P σ F) {t : TypeId} {x j v : AV} (h : indexF P F t (elemO P t) x j = some v) {y z : Value} (hx : VR σ ρ x y) (hy : VR σ ρ j z) : ∃ u, VR σ ρ v u ∧ ∀ w, (Instr.index t y z).run P w = .ok u w := by
  unfold indexF at h
  split at h
  · rename_i s
    obtain ⟨h1, h2⟩ := ite_some.1 h
    obtain ⟨k, h3, h4⟩ := bnd_some.1 h2
    obtain ⟨b, hb, hk, hv⟩ := hF.idx _ _ _ h4
    have hx : y = σ s := hx
    rw [hb] at hx
    subst hx
    obtain ⟨u, g1, g2⟩ := indexO_ok (P := P) (t := t) (a := .str b.data.toList.length (bytesN b.data.toList)) (j := j) (v := .int .u8 (.ofNat (byteAt (bytesN b.data.toList) k))) (σ := σ) (ρ := ρ) (by
      unfold indexO
      rw [h3]
      show ite' (strT P t) (ite' (Nat.ble (Nat.succ k) b.data.toList.length) (force (byteAt (bytesN b.data.toList) k) fun b => some (AV.int .u8 (.ofNat b)))) = _
      rw [h1, Nat.ble_eq_true_of_le (show Nat.succ k ≤ _ from hk), force_eq]; rfl) ⟨b, rfl, rfl, rfl⟩ hy
    refine ⟨u, ?_, g2⟩
    have g1 : u = .int .u8 (.ofNat (byteAt (bytesN b.data.toList) k)) := g1
    rw [g1, byteAt_eq _ _ hk]
    exact hv ρ
  · exact indexO_ok h hx hy
theorem sliceF_ok {F : Facts} (hF : FactsOk P σ F) {t : TypeId} {x v : AV} {lo hi mx : Option (Option AV)} (e : sliceF P F t x lo hi mx = some v) {y : Value} (hx : VR σ ρ x y) {low high max : Option Value}
    (hl : ∀ d n, bound lo d = some n → Bd low d n) (hh : ∀ d n, bound hi d = some n → Bd high d n) (hm : ∀ d n, bound mx d = some n → Bd max d n) (h0 : hi = none → high = none) (h0' : hi ≠ none → high ≠ none) (hm0 : mx = none → max = none) :
    ∃ u, VR σ ρ v u ∧ ∀ w, (Instr.sliceAt t y low high max).run P w = .ok u w := by
  unfold sliceF at e
  split at e
  · rename_i s
    cases mx with
    | some => cases e
    | none =>
      obtain ⟨h1, e1⟩ := ite_some.1 (show ite' (strT P t) (bnd (bound lo 0) fun l => Option.rec (F.sub s l none) (fun hi => bnd (bound (some hi) 0) fun h => F.sub s l (some h)) hi) = some v from e)
      obtain ⟨l, h2, e2⟩ := bnd_some.1 e1
      have key : ∀ h : Option Nat, F.sub s l h = some v → (∀ b : ByteArray, bound hi b.data.toList.length = some (h.getD b.size)) → ∃ u, VR σ ρ v u ∧ ∀ w, (Instr.sliceAt t y low high max).run P w = .ok u w := fun h e3 hbd => by
        obtain ⟨b, hb, k1, k2, hv⟩ := hF.sub _ _ _ _ e3
        have hx : y = σ s := hx
        rw [hb] at hx
        subst hx
        have hsz : b.size = b.data.toList.length := (Array.length_toList (xs := b.data)).symm
        obtain ⟨u, g1, g2⟩ := sliceO_ok (P := P) (σ := σ) (ρ := ρ) (t := t) (a := .str b.data.toList.length (bytesN b.data.toList)) (v := .str (h.getD b.size - l) (subS (bytesN b.data.toList) l (h.getD b.size))) (lo := lo) (hi := hi) (mx := none) (by
          show ite' (strT P t) (bnd (bound lo 0) fun l => bnd (bound hi b.data.toList.length) fun h => ite' (Nat.ble l h) (ite' (Nat.ble h b.data.toList.length) (force (Nat.sub h l) fun m => force (subS (bytesN b.data.toList) l h) fun z => some (AV.str m z)))) = _
          rw [h1, h2, hbd b]
          show ite' (Nat.ble l (h.getD b.size)) (ite' (Nat.ble (h.getD b.size) b.data.toList.length) (force (Nat.sub (h.getD b.size) l) fun m => force (subS (bytesN b.data.toList) l (h.getD b.size)) fun z => some (AV.str m z))) = _
          rw [Nat.ble_eq_true_of_le k1, Nat.ble_eq_true_of_le (hsz ▸ k2), force_eq, force_eq]; rfl) ⟨b, rfl, rfl, rfl⟩ hl hh hm h0 h0' hm0
        refine ⟨u, ?_, g2⟩
        obtain ⟨c, rfl, c1, c2⟩ := g1
        have el : (b.extract l (h.getD b.size)).data.toList = (b.data.toList.drop l).take (h.getD b.size - l) := by simp
        have : c = b.extract l (h.getD b.size) := by
          have hlist : c.data.toList = (b.extract l (h.getD b.size)).data.toList := by
            refine bytesN_inj ?_ ?_
            · rw [c1, el]; simp; rw [hsz] at k2 ⊢; omega
            · rw [c2, el, subS_eq]
          cases c; cases hbe : b.extract l (h.getD b.size)
          rw [hbe] at hlist
          congr 1
          exact Array.ext' hlist
        rw [this]; exact hv ρ
      cases hi with
      | none => exact key none e2 fun b => by show some b.data.toList.length = some b.size; rw [show b.size = b.data.toList.length from (Array.length_toList (xs := b.data)).symm]
      | some hi =>
        obtain ⟨h, h3, e3⟩ := bnd_some.1 (show bnd (bound (some hi) 0) (fun h => F.sub s l (some h)) = some v from e2)
        exact key (some h) e3 fun b => h3
  · exact sliceO_ok e hx hl hh hm h0 h0' hm0
theorem chanE_some {t e : TypeId} (h : chanE P t = some e) : ∃ k, P.underlying t = some (.chan k e) := by
  obtain ⟨d, h1, h2⟩ := bnd_some.1 h
  split at h2
  · cases h2; exact ⟨_, h1⟩
  · cases h2
theorem makeChanO_lays {t : TypeId} {x : AV} (e : makeChanO P t x h = some (v, h')) : Lays h h' ∧ v = .chan h.nx ∧ ∃ n, natOf x = some n ∧ h'.get h.nx = some (.chan n []) := by
  obtain ⟨el, _, e⟩ := bnd_some.1 e
  obtain ⟨i, _, e⟩ := bnd_some.1 e
  obtain ⟨n, hn, e⟩ := bnd_some.1 e
  obtain ⟨_, e⟩ := ite_some.1 e
  obtain ⟨_, e⟩ := ite_some.1 e
  obtain ⟨h1, k1, k2, k3⟩ := new_some e
  cases k1
  exact ⟨⟨k2, fun q hq => by rw [k3, if_neg hq], _, by rw [k3, if_pos rfl], rfl⟩, rfl, n, hn, by rw [k3, if_pos rfl]⟩
theorem run_makeChan {t el : TypeId} {k : ChanDir} {i : TypeInfo} {n : Nat} {y : Value} (hu : P.underlying t = some (.chan k el)) (hi : P.info? el = some i) (hb : i.bytes ≤ 0x7ffffff) (hn : n ≤ 0xffff) (hy : ∃ kd, y = .int kd (n : Int)) (w : World) : (Instr.makeChan t y).run P w = .ok (.chan (some w.heap.size)) (pushed w (.chan n #[] false 0 0 false)) := by
  obtain ⟨kd, rfl⟩ := hy
  have hti : (typeInfo el).run P w = .ok i w := by simp [typeInfo, hi]
  have h1 : ¬ ((n : Int) < 0 ∨ 9223372036854775807 < (n : Int) ∨ 281474976710544 < (i.bytes : Int) * (n : Int)) := by
    have hp : ((i.bytes * n : Nat) : Int) ≤ ((0x7ffffff * 0xffff : Nat) : Int) := Int.ofNat_le.2 (Nat.mul_le_mul hb hn)
    rw [Int.natCast_mul] at hp
    have h2 : ((0x7ffffff * 0xffff : Nat) : Int) = 8795958738945 := rfl
    rw [h2] at hp
    omega
  simp [Instr.makeChan, asInt, asIntOf, run_underlying hu, hti, Result.andThen]
  rw [if_neg h1]
  rfl
theorem op_makeChan_gen {ρ0 : Rho} {h0 hx hx' : H} {w0 : World} (L : Laid σ N ρ h w ρ0 h0 w0 hx hx' h') {t : TypeId} {y : Operand} (ho : o.op = .makeChan t y) {x : AV} (hx1 : VR σ ρ x (a.eval y)) (e : makeChanO P t x hx = some (v, hx')) : Lain P σ N o a ρ w ρ0 h0 w0 hx.nx v h' := by
  obtain ⟨_, rfl, n, hn, k3⟩ := makeChanO_lays e
  obtain ⟨el, e1, e⟩ := bnd_some.1 e
  obtain ⟨i, e2, e⟩ := bnd_some.1 e
  obtain ⟨n', e3, e⟩ := bnd_some.1 e
  rw [hn] at e3; cases e3
  obtain ⟨e4, e⟩ := ite_some.1 e
  obtain ⟨e5, _⟩ := ite_some.1 e
  obtain ⟨k, hu⟩ := chanE_some e1
  obtain ⟨g1, g2⟩ := L.hh.add L.st L.low L.free (row := .chan n []) (h' := h') (fun q => by
    rw [L.get]
    by_cases hq : q = hx.nx
    · rw [if_pos hq, if_pos hq, hq, k3]
    · rw [if_neg hq, if_neg hq]) L.nx L.lt (fun q hq => by cases hq) (o := .chan n #[] false 0 0 false) (p := ⟨w.heap.size, 0, 0⟩) rfl ⟨#[], 0, 0, pushed_new w _, rfl⟩
  have hv : ∃ kd, a.eval y = .int kd (n : Int) := by
    obtain ⟨kd, rfl⟩ := natOf_some hn
    exact ⟨kd, hx1⟩
  exact ⟨_, _, _, by simp only [execOp, ho]; rw [Sem.run_bind, run_makeChan hu e2 (Nat.le_of_ble_eq_true e4) (Nat.le_of_ble_eq_true e5) hv]; rfl, g1, g2, ⟨_, upd_same _ _ _, rfl⟩, upd_sub L.free _, fun q hq => upd_ne hq⟩
theorem op_makeChan (hh : HR σ N ρ h w) {t : TypeId} {y : Operand} (ho : o.op = .makeChan t y) {x : AV} (hx1 : VR σ ρ x (a.eval y)) (e : makeChanO P t x h = some (v, h')) : Okv P σ N o a ρ h w v h' := (op_makeChan_gen (.self hh (makeChanO_lays e).1) ho hx1 e).okv
theorem op_makeMap (hh : HR σ N ρ h w) {t : TypeId} (ho : o.op = .makeMap t none) (e : h.new (.map [] 0) (fun r h => some (AV.map r, h)) = some (v, h')) : Okv P σ N o a ρ h w v h' := (op_makeMap_gen (.self hh (makeMapO_lays e).1) ho e).okv
end
end Go.Exe
/- Slots, calls. -/
namespace Go.Exe
open Go

theorem getT_eq (env : Env) (t : Nat) : getT env t = (env[t / 8]?).bind fun l => l[t % 8]? := by
  show bnd (nth env (Nat.div t 8)) (fun l => nth l (Nat.mod t 8)) = _
  rw [nth_eq]
  show bnd env[t / 8]? _ = _
  cases env[t / 8]? with
  | none => rfl
  | some l => exact nth_eq l _

theorem setT_some {env env' : Env} {t : Nat} {v : AV} (h : setT env t v = some env') : (getT env t).isSome = true ∧ ∀ u, getT env' u = if u = t then some v else getT env u := by
  obtain ⟨l, h1, h⟩ := bnd_some.1 h
  obtain ⟨l', h2, h⟩ := bnd_some.1 h
  rw [nth_eq] at h1
  obtain ⟨k1, rfl⟩ := setN_some h2
  obtain ⟨k2, rfl⟩ := setN_some h
  change env[t / 8]? = some l at h1
  change t % 8 < l.length at k1
  change t / 8 < env.length at k2
  refine ⟨by rw [getT_eq, h1]; simp [k1], fun u => ?_⟩
  rw [getT_eq, getT_eq]
  show ((env.set (t / 8) (l.set (t % 8) v))[u / 8]?.bind fun l => l[u % 8]?) = _
  by_cases hu : u = t
  · subst hu
    rw [if_pos rfl, List.getElem?_set_self (by simpa using k2)]
    show (l.set (u % 8) v)[u % 8]? = some v
    rw [List.getElem?_set_self (by simpa using k1)]
  · rw [if_neg hu]
    by_cases hd : u / 8 = t / 8
    · rw [hd, List.getElem?_set_self (by simpa using k2), h1]
      show (l.set (t % 8) v)[u % 8]? = l[u % 8]?
      rw [List.getElem?_set_ne (by omega)]
    · rw [List.getElem?_set_ne (Ne.symm hd)]

theorem chunk_get : ∀ {f : Nat} {l : List AV} {env : Env}, chunk f l = some env → ∀ t, getT env t = l[t]?
  | 0, l, env, h, t => nomatch h
  | f + 1, [], env, h, t => by cases h; rw [getT_eq]; simp
  | f + 1, x :: l, env, h, t => by
    have h : (Option.rec (some [x :: l]) (fun r => bnd (takeN (x :: l) 8) fun a => bnd (chunk f r) fun e => some (a :: e)) (dropN (x :: l) 8) : Option Env) = some env := h
    cases hd : dropN (x :: l) 8 with
    | none =>
      rw [hd] at h
      cases h
      have hlen : (x :: l).length < 8 := by
        rcases Nat.lt_or_ge (x :: l).length 8 with h | h
        · exact h
        · exfalso
          have : ∀ (m : List AV) (i : Nat), i ≤ m.length → dropN m i ≠ none := by
            intro m
            induction m with
            | nil => intro i hi; cases i with
              | zero => exact fun h => nomatch h
              | succ i => simp at hi
            | cons y m ih => intro i hi; cases i with
              | zero => exact fun h => nomatch h
              | succ i => exact ih i (by simpa using hi)
          exact this _ 8 h hd
      rw [getT_eq]
      rcases Nat.lt_or_ge t 8 with ht | ht
      · rw [show t / 8 = 0 by omega, show t % 8 = t by omega]; rfl
      · rw [List.getElem?_eq_none (by simp; omega), List.getElem?_eq_none (by omega)]; rfl
    | some r =>
      rw [hd] at h
      obtain ⟨a, h1, h2⟩ := bnd_some.1 (show bnd (takeN (x :: l) 8) (fun a => bnd (chunk f r) fun e => some (a :: e)) = some env from h)
      obtain ⟨e, h3, h4⟩ := bnd_some.1 h2
      cases h4
      obtain ⟨g1, rfl⟩ := dropN_some hd
      obtain ⟨g2, rfl⟩ := takeN_some h1
      have ih := chunk_get h3
      rcases Nat.lt_or_ge t 8 with ht | ht
      · rw [getT_eq, show t / 8 = 0 by omega, show t % 8 = t by omega]
        show ((x :: l).take 8)[t]? = _
        rw [List.getElem?_take, if_pos ht]
      · have e1 : getT ((x :: l).take 8 :: e) t = getT e (t - 8) := by
          rw [getT_eq, getT_eq, show t / 8 = (t - 8) / 8 + 1 by omega, List.getElem?_cons_succ, show t % 8 = (t - 8) % 8 by omega]
        rw [e1, ih, List.getElem?_drop, show 8 + (t - 8) = t by omega]

section
variable {P : Program} {σ : Sig} {N : Nat} {ρ : Rho} {h h' : H} {w w' : World} {o : Oper} {a : Act} {v : AV}

theorem mkEnv_ok {args : List AV} {n : Nat} {env : Env} (h : mkEnv args n = some env) {vs : Array Value} (hv : LR σ ρ args vs.toList) : ER σ ρ env (vs ++ Array.replicate (n - vs.size) undef) := by
  obtain ⟨l, h1, h2⟩ := bnd_some.1 h
  rw [app_eq] at h1
  cases h1
  have hg := chunk_get h2
  have hlen := hv.length
  simp only [Array.length_toList] at hlen
  intro t x ht
  rw [hg] at ht
  have hb : blanks (Nat.sub n (len args)) = List.replicate (n - args.length) .und := by
    show rep _ _ = _
    rw [rep_eq, len_eq]; rfl
  rw [hb] at ht
  rcases Nat.lt_or_ge t args.length with hlt | hlt
  · rw [List.getElem?_append_left hlt] at ht
    obtain ⟨u, k1, k2⟩ := hv.get t x ht
    refine ⟨by simp; omega, ?_⟩
    have k1 : vs[t]? = some u := by simpa using k1
    rw [Array.getD_eq_getD_getElem?, Array.getElem?_append_left (by omega), k1]
    exact k2
  · rw [List.getElem?_append_right hlt] at ht
    have hlt2 : t - args.length < n - args.length := by have := (List.getElem?_eq_some_iff.1 ht).1; simpa using this
    rw [List.getElem?_replicate, if_pos hlt2] at ht
    cases ht
    refine ⟨by simp; omega, ?_⟩
    rw [Array.getD_eq_getD_getElem?, Array.getElem?_append_right (by omega), Array.getElem?_replicate, if_pos (by omega)]
    rfl

theorem getD_set_self {tmps : Array Value} {t : Nat} {u : Value} (h : t < tmps.size) : (tmps.setIfInBounds t u).getD t undef = u := by simp [Array.getD_eq_getD_getElem?, h]
theorem getD_set_other {tmps : Array Value} {t q : Nat} {u : Value} (h : q ≠ t) : (tmps.setIfInBounds t u).getD q undef = tmps.getD q undef := by simp [Array.getD_eq_getD_getElem?, Ne.symm h]

theorem ER.put {env env' : Env} (he : ER σ ρ env a.tmps) {d : Option Nat} {x : AV} {u : Value} (hx : VR σ ρ x u) (e : putD d x env = some env') : ER σ ρ env' (a.put d u).tmps := by
  cases d with
  | none => cases e; exact he
  | some t =>
    obtain ⟨k1, k2⟩ := setT_some (show setT env t x = some env' from e)
    obtain ⟨y, hy⟩ := Option.isSome_iff_exists.1 k1
    have ht := (he t y hy).1
    intro q z hq
    rw [k2] at hq
    show q < (a.tmps.setIfInBounds t u).size ∧ VR σ ρ z ((a.tmps.setIfInBounds t u).getD q undef)
    by_cases hqt : q = t
    · subst hqt
      rw [if_pos rfl] at hq
      cases hq
      exact ⟨by simpa using ht, by rw [getD_set_self ht]; exact hx⟩
    · rw [if_neg hqt] at hq
      exact ⟨by simpa using (he q z hq).1, by rw [getD_set_other hqt]; exact (he q z hq).2⟩
theorem put_defers (a : Act) (d : Option Nat) (u : Value) : (a.put d u).defers = a.defers := by cases d <;> rfl

/-- A call's outcome, at an operation. -/
def Cal (P : Program) (σ : Sig) (N : Nat) (ρ : Rho) (h : H) (w : World) (s : Sem Next) (v : AV) (h' : H) : Prop :=
  ∀ (o : Oper) (a : Act) (next : Act → World → Prop) (Q : Exit → Act → World → Prop), (∀ ρ' u w', HR σ N ρ' h' w' → St ρ h w ρ' h' w' → VR σ ρ' v u → next (a.put o.dst u) w') → o.upon P a next Q (s.run P w)

def KOk (P : Program) (σ : Sig) (N : Nat) (K : Known) : Prop := ∀ f g, K f = some g → ∀ args h v h', g args h = some (v, h') → ∀ ρ w (vs : Array Value), HR σ N ρ h w → LR σ ρ args vs.toList → Cal P σ N ρ h w (callFunc f vs) v h'

def RunOk (P : Program) (σ : Sig) (N : Nat) (ih : Run) : Prop := ∀ fn T env h v h', ih fn T env h = some (v, h') → ∀ ρ (a : Act) w (b : Frame) (cs : List Frame), HR σ N ρ h w → ER σ ρ env a.tmps → a.defers = [] →
  ∃ a' w' ρ' T' u, Steps P (lone (b.at a T) cs w) (lone { b.at a' T' with mode := .returning } cs w') ∧ a'.defers = [] ∧ (results fn a'.tmps).run P w' = .ok u w' ∧ HR σ N ρ' h' w' ∧ St ρ h w ρ' h' w' ∧ VR σ ρ' v u

theorem calls_of_run {ih : Run} (hr : RunOk P σ N ih) {f : Nat} {fn : Func} {c : Code} (hf : P.funcs[f]? = some fn) (hb : fn.body = some c) {args : List AV} {env : Env} (he : mkEnv args fn.ntmps = some env) (e : ih fn [.code c] env h = some (v, h')) (hh : HR σ N ρ h w) {vs : Array Value} (hv : LR σ ρ args vs.toList) :
    Calls P f vs w fun e w' => ∃ ρ' u, e = .returned u ∧ HR σ N ρ' h' w' ∧ St ρ h w ρ' h' w' ∧ VR σ ρ' v u := by
  intro cs
  let b : Frame := { (default : Frame) with fn := f, kind := .normal }
  have henter : Frame.enter P f vs .normal = b.at { tmps := vs ++ Array.replicate (fn.ntmps - vs.size) undef, defers := [] } [.code c] := by
    simp [Frame.enter, Frame.at, hf, hb, b]
  obtain ⟨a', w', ρ', T', u, hs, hd, hres, hh', hst, hvr⟩ := hr fn _ env h v h' e ρ { tmps := vs ++ Array.replicate (fn.ntmps - vs.size) undef, defers := [] } w b cs hh (mkEnv_ok he hv) rfl
  rw [← henter] at hs
  exact ⟨.returned u, w', _, ⟨ρ', u, rfl, hh', hst, hvr⟩, hs, rfl, rfl, hd, rfl, fn, hf, hres⟩

theorem enter_ok {K : Known} (hK : KOk P σ N K) {ih : Run} (hr : RunOk P σ N ih) {f : Nat} {args : List AV} (e : enter P K ih f args h = some (v, h')) (hh : HR σ N ρ h w) {vs : Array Value} (hv : LR σ ρ args vs.toList) : Cal P σ N ρ h w (callFunc f vs) v h' := by
  unfold enter at e
  cases hk : K f with
  | some g => rw [hk] at e; exact hK f g hk args h v h' e ρ w vs hh hv
  | none =>
    rw [hk] at e
    cases hf : funcs P f with
    | none => rw [hf] at e; exact nomatch e
    | some fn =>
      rw [hf] at e
      dsimp only at e
      cases hb : fn.body with
      | none => rw [hb] at e; exact nomatch e
      | some c =>
        rw [hb] at e
        dsimp only at e
        cases hn : fn.name == "runtime.NumGoroutine" with
        | true => rw [hn] at e; exact nomatch e
        | false =>
          rw [hn] at e
          obtain ⟨env, h1, h2⟩ := bnd_some.1 (show bnd (mkEnv args fn.ntmps) (fun env => ih fn [.code c] env h) = some (v, h') from e)
          have hf : P.funcs[f]? = some fn := by
            have : nth P.funcs.toList f = some fn := hf
            rw [nth_eq] at this
            simpa using this
          have hcall : (callFunc f vs).run P w = .ok (.enter f vs) w := by
            have hn' : fn.name ≠ "runtime.NumGoroutine" := by simpa using hn
            simp [callFunc, hf, hb, hn']
          intro o a next Q k
          rw [hcall]
          show Calls P f vs w _
          refine (calls_of_run hr hf hb h1 h2 hh hv).mono ?_
          rintro e w' ⟨ρ', u, rfl, k1, k2, k3⟩
          exact k ρ' u w' k1 k2 k3

theorem okv_of_cal {s : Sem Next} (hs : ∀ w, (execOp a.eval o).run P w = s.run P w) (hc : Cal P σ N ρ h w s v h') : Okv P σ N o a ρ h w v h' := fun next Q k => by
  rw [hs]; exact hc o a next Q k

theorem okv_gives {s : Sem Value} (hs : (execOp a.eval o).run P w = (s.run P w).andThen fun x w' => .ok (.value x) w') (hg : Gives P σ N ρ h w s v h') : Okv P σ N o a ρ h w v h' := by
  obtain ⟨ρ', u, w', h1, h2, h3, h4⟩ := hg
  exact okv_val (by rw [hs, h1]; rfl) h2 h3 h4
end
end Go.Exe
/- Every operation. -/
namespace Go.Exe
open Go

section
variable {P : Program} {σ : Sig} {N : Nat} {ρ : Rho} {h h' : H} {w w' : World} {o : Oper} {a : Act} {v : AV}

theorem one_some {α R : Type} {l : List α} {f : α → Option R} {x : R} (h : one l f = some x) : ∃ a, l = [a] ∧ f a = some x := by
  match l, h with
  | [a], h => exact ⟨a, rfl, h⟩
  | [], h => exact nomatch h
  | _ :: _ :: _, h => exact nomatch h
theorem two_some {α R : Type} {l : List α} {f : α → α → Option R} {x : R} (h : two l f = some x) : ∃ a b, l = [a, b] ∧ f a b = some x := by
  match l, h with
  | [], h => exact nomatch h
  | a :: l, h =>
    obtain ⟨b, rfl, h2⟩ := one_some (show one l (f a) = some x from h)
    exact ⟨a, b, rfl, h2⟩
theorem vO_some {x : Option AV} {v : AV} {h h' : H} (e : vO x h = some (v, h')) : x = some v ∧ h' = h := by
  obtain ⟨v', h1, h2⟩ := bnd_some.1 e
  cases h2; exact ⟨h1, rfl⟩
theorem arr1 {α : Type} {l : Array α} {a : α} (h : l.toList = [a]) : l = #[a] := by apply Array.ext'; simpa using h
theorem arr2 {α : Type} {l : Array α} {a b : α} (h : l.toList = [a, b]) : l = #[a, b] := by apply Array.ext'; simpa using h

theorem run_builtin {c : Call} {b : Builtin} (ho : o.op = .call c) (hb : c.callee = .builtin b) (w : World) : (execOp a.eval o).run P w = (builtin b c.argTypes o.type (c.args.map fun | .const _ => true | _ => false) (c.args.map a.eval)).run P w := by
  simp [execOp, ho, resolve, hb, invoke]
  rfl

theorem args1 {env : Env} (hg : Glo P ρ) (he : ER σ ρ env a.tmps) {args : Array Operand} {x : AV} (e : opds P args.toList env = some [x]) : ∃ y, args.map a.eval = #[y] ∧ VR σ ρ x y := by
  obtain ⟨y, r, h1, h2, h3⟩ := opds_ok hg he e
  have h3 : r = [] := h3
  subst h3
  exact ⟨y, arr1 (by simpa using h1), h2⟩
theorem args2 {env : Env} (hg : Glo P ρ) (he : ER σ ρ env a.tmps) {args : Array Operand} {x z : AV} (e : opds P args.toList env = some [x, z]) : ∃ y u, args.map a.eval = #[y, u] ∧ VR σ ρ x y ∧ VR σ ρ z u := by
  obtain ⟨y, r, h1, h2, u, r', h3, h4, h5⟩ := opds_ok hg he e
  have h5 : r' = [] := h5
  subst h5 h3
  exact ⟨y, u, arr2 (by simpa using h1), h2, h4⟩

theorem builtin_ok (hσ : ∀ i, (σ i).oneCell' = true) (hg : Glo P ρ) (hh : HR σ N ρ h w) {env : Env} (he : ER σ ρ env a.tmps) {c : Call} {b : Builtin} (ho : o.op = .call c) (hb : c.callee = .builtin b) {l : List AV} (hl : opds P c.args.toList env = some l) (e : builtinO P b c.argTypes.toList l h = some (v, h')) : Okv P σ N o a ρ h w v h' := by
  have val : ∀ (s : Sem Value), (builtin b c.argTypes o.type (c.args.map fun | .const _ => true | _ => false) (c.args.map a.eval)) = (do pure (.value (← s))) → Gives P σ N ρ h w s v h' → Okv P σ N o a ρ h w v h' := fun s hs hgv => by
    refine okv_gives ?_ hgv
    rw [run_builtin ho hb, hs, Sem.run_bind]
    rfl
  cases b <;> simp only [builtinO] at e <;> first | (cases e; done) | skip
  case append =>
    obtain ⟨t, tx, h1, e⟩ := two_some e
    obtain ⟨x, y, rfl, e⟩ := two_some e
    obtain ⟨vx, vy, h2, h3, h4⟩ := args2 hg he hl
    exact val _ rfl (by rw [arr2 h1, h2]; exact appendO_ok (o := o) hσ hh e h3 h4)
  case cap =>
    obtain ⟨t, h1, e⟩ := one_some e
    obtain ⟨x, rfl, e⟩ := one_some e
    obtain ⟨vx, h2, h3⟩ := args1 hg he hl
    exact val _ rfl (by rw [arr1 h1, h2]; exact capO_ok (o := o) hh e h3)
  case copy =>
    obtain ⟨t, tx, h1, e⟩ := two_some e
    obtain ⟨x, y, rfl, e⟩ := two_some e
    obtain ⟨vx, vy, h2, h3, h4⟩ := args2 hg he hl
    exact val _ rfl (by rw [arr2 h1, h2]; exact copyO_ok (o := o) hσ hh e h3 h4)
  case len =>
    obtain ⟨t, h1, e⟩ := one_some e
    obtain ⟨x, rfl, e⟩ := one_some e
    obtain ⟨vx, h2, h3⟩ := args1 hg he hl
    exact val _ rfl (by rw [arr1 h1, h2]; exact lenO_ok (o := o) hh e h3)
  case delete =>
    obtain ⟨t, tx, h1, e⟩ := two_some e
    obtain ⟨x, y, rfl, e⟩ := two_some e
    obtain ⟨vx, vy, h2, h3, h4⟩ := args2 hg he hl
    exact val _ rfl (by rw [arr2 h1, h2]; exact deleteO_ok (o := o) hh e h3 h4)
  case clear =>
    obtain ⟨t, h1, e⟩ := one_some e
    obtain ⟨x, rfl, e⟩ := one_some e
    obtain ⟨vx, h2, h3⟩ := args1 hg he hl
    exact val _ rfl (by rw [arr1 h1, h2]; exact clearO_ok (o := o) hσ hh e h3)
  case max =>
    cases l with
    | nil => exact nomatch e
    | cons x l =>
      obtain ⟨e1, rfl⟩ := vO_some (show vO (minmax false l x) h = some (v, h') from e)
      obtain ⟨y, r, h1, h2, h3⟩ := opds_ok hg he hl
      obtain ⟨u, k1, k2⟩ := minmax_max (P := P) w e1 h3 h2
      refine val _ rfl ⟨ρ, u, w, ?_, hh, St.refl _ _ _, k1⟩
      have : (c.args.map a.eval).toList = y :: r := by rw [← h1]; simp
      simp only [Builtin.max_, this]
      exact k2
  case min =>
    cases l with
    | nil => exact nomatch e
    | cons x l =>
      obtain ⟨e1, rfl⟩ := vO_some (show vO (minmax true l x) h = some (v, h') from e)
      obtain ⟨y, r, h1, h2, h3⟩ := opds_ok hg he hl
      obtain ⟨u, k1, k2⟩ := minmax_min (P := P) w e1 h3 h2
      refine val _ rfl ⟨ρ, u, w, ?_, hh, St.refl _ _ _, k1⟩
      have : (c.args.map a.eval).toList = y :: r := by rw [← h1]; simp
      simp only [Builtin.min_, this]
      exact k2
  case unsafeSliceData =>
    obtain ⟨x, rfl, e⟩ := one_some e
    obtain ⟨e1, rfl⟩ := vO_some e
    obtain ⟨vx, h2, h3⟩ := args1 hg he hl
    refine val _ rfl ?_
    rw [h2]
    unfold sliceDataO at e1
    split at e1
    · cases e1; cases h3
      exact ⟨ρ, .pointer none, w, rfl, hh, St.refl _ _ _, rfl⟩
    · obtain ⟨k1, e1⟩ := ite_some.1 e1
      cases e1
      have k1 := Nat.le_of_ble_eq_true k1
      obtain ⟨p, cap, off, q1, rfl, q2, q3, _⟩ := h3
      have hc : ¬ cap = 0 := by omega
      have ho := q2.resolve_right hc
      refine ⟨ρ, .pointer (some ⟨p.b, off, none⟩), w, ?_, hh, St.refl _ _ _, p, q1, by rw [ho]⟩
      show Sem.run P (if cap ≠ 0 then (pure (Value.pointer (some ⟨p.b, off, none⟩)) : Sem Value) else _) w = _
      rw [if_pos hc]; rfl
    · cases e1
  case unsafeString =>
    obtain ⟨t, tx, h1, e⟩ := two_some e
    obtain ⟨x, y, rfl, e⟩ := two_some e
    obtain ⟨vx, vy, h2, h3, h4⟩ := args2 hg he hl
    exact val _ rfl (by rw [arr2 h1, h2]; exact unsafeStringO_ok (o := o) hh e h3 h4)

theorem onBool_some {R : Type} {x : Option AV} {p q : Option R} {r : R} (h : onBool x p q = some r) : ∃ b, x = some (.bool b) ∧ (bif b then p else q) = some r := by
  obtain ⟨y, h1, h2⟩ := bnd_some.1 h
  split at h2
  · rename_i b
    exact ⟨b, h1, by cases b <;> exact h2⟩
  · cases h2

theorem callO_ok {K : Known} (hK : KOk P σ N K) {ih : Run} (hr : RunOk P σ N ih) (hσ : ∀ i, (σ i).oneCell' = true) (hg : Glo P ρ) (hh : HR σ N ρ h w) {env : Env} (he : ER σ ρ env a.tmps) {c : Call} (ho : o.op = .call c) (e : callO P K ih c env h = some (v, h')) : Okv P σ N o a ρ h w v h' := by
  unfold callO at e
  cases hf : c.callee with
  | builtin b =>
    rw [hf] at e
    obtain ⟨l, h1, e⟩ := bnd_some.1 e
    exact builtin_ok hσ hg hh he ho hf h1 e
  | value f =>
    rw [hf] at e
    obtain ⟨fv, h1, e1⟩ := bnd_some.1 e
    obtain ⟨l, h2, e2⟩ := bnd_some.1 e1
    unfold callV at e2
    split at e2
    · rename_i g first caps
      obtain ⟨l1, h3, e3⟩ := bnd_some.1 e2
      obtain ⟨l2, h4, e4⟩ := bnd_some.1 e3
      rw [app_eq] at h3 h4
      cases h3; cases h4
      obtain ⟨fs, cs, k1, k2, k3⟩ := opd_ok hg he h1
      have k4 := opds_ok hg he h2
      refine okv_of_cal (s := callFunc g ((fs ++ c.args.map a.eval) ++ cs)) (fun w => ?_) (enter_ok hK hr e4 hh ?_)
      · simp [execOp, ho, resolve, hf, k1, Deferred.ofValue, invoke]
      · have := k2.append (k4.append k3)
        simpa using this
    · cases e2
  | invoke r n => rw [hf] at e; cases (show (none : Out) = some (v, h') from e)

theorem symLen_some {c : Call} {env : Env} {s : Nat} (e : symLen P c env = some s) : ∃ t x, c.callee = .builtin .len ∧ c.argTypes.toList = [t] ∧ c.args.toList = [x] ∧ strT P t = true ∧ opd P x env = some (.sym s) := by
  unfold symLen at e
  split at e
  · rename_i hc
    obtain ⟨t, h1, e1⟩ := one_some e
    obtain ⟨h2, e2⟩ := ite_some.1 e1
    obtain ⟨x, h3, e3⟩ := one_some e2
    obtain ⟨v, h4, e4⟩ := bnd_some.1 e3
    unfold symO at e4
    split at e4
    · cases e4; exact ⟨t, x, hc, h1, h3, h2, h4⟩
    · cases e4
  · cases e
theorem callF_ok {F : Facts} (hF : FactsOk P σ F) {K : Known} (hK : KOk P σ N K) {ih : Run} (hr : RunOk P σ N ih) (hσ : ∀ i, (σ i).oneCell' = true) (hg : Glo P ρ) (hh : HR σ N ρ h w) {env : Env} (he : ER σ ρ env a.tmps) {c : Call} (ho : o.op = .call c) (e : callF P K F ih c env h = some (v, h')) : Okv P σ N o a ρ h w v h' := by
  unfold callF at e
  cases hs : symLen P c env with
  | none => rw [hs] at e; exact callO_ok hK hr hσ hg hh he ho e
  | some s =>
    rw [hs] at e
    obtain ⟨e1, rfl⟩ := vO_some (show vO (F.len s) h = some (v, h') from e)
    obtain ⟨t, x, h1, h2, h3, h4, h5⟩ := symLen_some hs
    obtain ⟨b, hb, hv⟩ := hF.len _ _ e1
    have hx : a.eval x = σ s := opd_ok hg he h5
    rw [hb] at hx
    refine okv_pure (u := .int .i64 (b.size : Int)) ?_ hh (hv ρ)
    rw [run_builtin ho h1, arr1 h2, arr1 h3]
    simp [builtin, Builtin.len_, run_underlying (strT_under h4), hx, goInt, Result.andThen]

theorem opV_ok {F : Facts} (hF : FactsOk P σ F) {K : Known} (hK : KOk P σ N K) {ih : Run} (hr : RunOk P σ N ih) (hσ : ∀ i, (σ i).oneCell' = true) (hN : N = P.globals.size) (hh : HR σ N ρ h w) {env : Env} (he : ER σ ρ env a.tmps) (e : opV P F K ih o.op env h = some (v, h')) : Okv P σ N o a ρ h w v h' := by
  have hg : Glo P ρ := fun g hgl => hh.glob g (hN ▸ hgl)
  cases ho : o.op <;> rw [ho] at e <;> first | (cases (show (none : Out) = some (v, h') from e); done) | skip
  case move x =>
    obtain ⟨e1, rfl⟩ := vO_some (show vO (opd P x env) h = some (v, h') from e)
    exact okv_pure (by simp [execOp, ho]) hh (opd_ok hg he e1)
  case assign x =>
    obtain ⟨e1, rfl⟩ := vO_some (show vO (opd P x env) h = some (v, h') from e)
    exact okv_pure (by simp [execOp, ho]) hh (opd_ok hg he e1)
  case pick c x y =>
    obtain ⟨b, h1, e1⟩ := onBool_some (show onBool (opd P c env) (vO (opd P x env) h) (vO (opd P y env) h) = some (v, h') from e)
    have hc : a.eval c = .bool b := opd_ok hg he h1
    cases b with
    | true =>
      obtain ⟨e2, rfl⟩ := vO_some (show vO (opd P x env) h = some (v, h') from e1)
      exact okv_pure (by simp [execOp, ho, hc, asBool]) hh (opd_ok hg he e2)
    | false =>
      obtain ⟨e2, rfl⟩ := vO_some (show vO (opd P y env) h = some (v, h') from e1)
      exact okv_pure (by simp [execOp, ho, hc, asBool]) hh (opd_ok hg he e2)
  case alloc t => exact op_alloc hh hσ ho e
  case box t x =>
    obtain ⟨y, h1, e1⟩ := bnd_some.1 (show bnd (opd P x env) (fun v => onCellsOf v fun l => force (len l) fun n => newV t n l h) = some (v, h') from e)
    exact op_box hh hσ ho (opd_ok hg he h1) e1
  case build t ps =>
    obtain ⟨l, h1, e1⟩ := bnd_some.1 (show bnd (parts P ps.toList env) (fun l => vO (buildO P t l) h) = some (v, h') from e)
    obtain ⟨e2, rfl⟩ := vO_some e1
    obtain ⟨u, k1, k2⟩ := buildO_ok (P := P) (σ := σ) (ρ := ρ) hσ e2 (qs := ps.map fun (p : Nat × Operand) => (p.1, a.eval p.2)) (by simpa using parts_ok hg he h1)
    exact okv_pure (u := u) (by simp only [execOp, ho, Sem.run_bind]; rw [k2 w]; rfl) hh k1
  case buildSlice t n ps =>
    obtain ⟨l, h1, e1⟩ := bnd_some.1 (show bnd (parts P ps.toList env) (fun l => buildSliceO P t n l h) = some (v, h') from e)
    exact op_buildSlice hh hσ ho (parts_ok hg he h1) e1
  case load t x =>
    obtain ⟨y, h1, e1⟩ := bnd_some.1 (show bnd (opd P x env) (fun a => loadO (szOf P t) (aggOf P t) a h) = some (v, h') from e)
    exact (op_load hh ho (opd_ok hg he h1) e1).1
  case store t x y =>
    obtain ⟨z, h1, e1⟩ := bnd_some.1 (show bnd (opd P x env) (fun a => bnd (opd P y env) fun v => storeO (szOf P t) a v h) = some (v, h') from e)
    obtain ⟨u, h2, e2⟩ := bnd_some.1 e1
    exact op_store hh hσ ho (opd_ok hg he h1) (opd_ok hg he h2) e2
  case nilCheck x =>
    obtain ⟨y, h1, e1⟩ := bnd_some.1 (show bnd (opd P x env) (fun a => vO (nilCheckO a) h) = some (v, h') from e)
    obtain ⟨e2, rfl⟩ := vO_some e1
    obtain ⟨rfl, k1⟩ := nilCheckO_ok (P := P) e2 (opd_ok hg he h1)
    exact okv_pure (k1 o a.eval x ho rfl w) hh (opd_ok hg he h1)
  case binOp b t x y ty =>
    obtain ⟨z, h1, e1⟩ := bnd_some.1 (show bnd (opd P x env) (fun a => bnd (opd P y env) fun c => vO (binO P F b t (isC x || isC y) a c) h) = some (v, h') from e)
    obtain ⟨u, h2, e2⟩ := bnd_some.1 e1
    obtain ⟨e3, rfl⟩ := vO_some e2
    obtain ⟨r, k1, k2⟩ := binO_ok hF e3 (opd_ok hg he h1) (opd_ok hg he h2)
    exact okv_pure (u := r) (by simp only [execOp, ho]; rw [Sem.run_bind, k2 w]; rfl) hh k1
  case unOp b t x =>
    obtain ⟨z, h1, e1⟩ := bnd_some.1 (show bnd (opd P x env) (fun a => vO (unO b a) h) = some (v, h') from e)
    obtain ⟨e3, rfl⟩ := vO_some e1
    obtain ⟨r, k1, k2⟩ := unO_ok (P := P) e3 (opd_ok hg he h1)
    exact okv_pure (u := r) (by simp only [execOp, ho]; rw [Sem.run_bind, k2 w]; rfl) hh k1
  case convert s d x =>
    obtain ⟨z, h1, e1⟩ := bnd_some.1 (show bnd (opd P x env) (fun a => convF P F s d a h) = some (v, h') from e)
    have hz := opd_ok hg he h1
    refine okv_gives (s := convert s d (a.eval x)) (by simp only [execOp, ho]; rw [Sem.run_bind]; rfl) ?_
    unfold convF at e1
    split at e1
    · obtain ⟨e2, rfl⟩ := vO_some e1
      obtain ⟨u, k1, k2⟩ := hF.conv _ _ _ _ e2 ρ
      refine ⟨ρ, u, w, ?_, hh, St.refl _ _ _, k1⟩
      rw [show a.eval x = σ _ from hz]; exact k2 w
    · exact convertO_ok hh e1 hz
  case makeMap t r =>
    cases r with
    | some => cases (show (none : Out) = some (v, h') from e)
    | none => exact op_makeMap hh ho e
  case makeChan t x =>
    obtain ⟨y, h1, e1⟩ := bnd_some.1 (show bnd (opd P x env) (fun a => makeChanO P t a h) = some (v, h') from e)
    exact op_makeChan hh ho (opd_ok hg he h1) e1
  case lookup t m k ok =>
    obtain ⟨y, h1, e1⟩ := bnd_some.1 (show bnd (opd P m env) (fun a => bnd (opd P k env) fun b => lookupO P t a b ok h) = some (v, h') from e)
    obtain ⟨z, h2, e2⟩ := bnd_some.1 e1
    exact okv_gives (s := Instr.lookup t (a.eval m) (a.eval k) ok) (by simp only [execOp, ho]; rw [Sem.run_bind]; rfl) (lookupO_ok hh e2 (opd_ok hg he h1) (opd_ok hg he h2))
  case mapUpdate t m k x =>
    obtain ⟨y, h1, e1⟩ := bnd_some.1 (show bnd (opd P m env) (fun a => bnd (opd P k env) fun b => bnd (opd P x env) fun c => mapUpdateO P t a b c h) = some (v, h') from e)
    obtain ⟨z, h2, e2⟩ := bnd_some.1 e1
    obtain ⟨u, h3, e3⟩ := bnd_some.1 e2
    obtain ⟨rfl, w', k1, k2, k3⟩ := mapUpdateO_ok hh e3 (opd_ok hg he h1) (opd_ok hg he h2) (opd_ok hg he h3)
    exact okv_skip (by simp only [execOp, ho]; rw [Sem.run_bind, k1]; rfl) k2 k3
  case insert t m k x =>
    obtain ⟨y, h1, e1⟩ := bnd_some.1 (show bnd (opd P m env) (fun a => bnd (opd P k env) fun b => bnd (opd P x env) fun c => mapUpdateO P t a b c h) = some (v, h') from e)
    obtain ⟨z, h2, e2⟩ := bnd_some.1 e1
    obtain ⟨u, h3, e3⟩ := bnd_some.1 e2
    obtain ⟨rfl, w', k1, k2, k3⟩ := mapUpdateO_ok hh e3 (opd_ok hg he h1) (opd_ok hg he h2) (opd_ok hg he h3)
    exact okv_skip (by simp only [execOp, ho]; rw [Sem.run_bind, k1]; rfl) k2 k3
  case mapEntry t m k =>
    obtain ⟨y, h1, e1⟩ := bnd_some.1 (show bnd (opd P m env) (fun a => bnd (opd P k env) fun b => mapEntryO P t a b h) = some (v, h') from e)
    obtain ⟨z, h2, e2⟩ := bnd_some.1 e1
    exact okv_gives (s := Instr.mapEntry t (a.eval m) (a.eval k)) (by simp only [execOp, ho]; rw [Sem.run_bind]; rfl) (mapEntryO_ok hh e2 (opd_ok hg he h1) (opd_ok hg he h2))
  case entryStore t m k x =>
    obtain ⟨y, h1, e1⟩ := bnd_some.1 (show bnd (opd P m env) (fun a => bnd (opd P k env) fun b => bnd (opd P x env) fun c => entryStoreO a b c h) = some (v, h') from e)
    obtain ⟨z, h2, e2⟩ := bnd_some.1 e1
    obtain ⟨u, h3, e3⟩ := bnd_some.1 e2
    obtain ⟨rfl, w', k1, k2, k3⟩ := entryStoreO_ok (P := P) (t := t) hh e3 (opd_ok hg he h1) (opd_ok hg he h2) (opd_ok hg he h3)
    exact okv_skip (by simp only [execOp, ho]; rw [Sem.run_bind, k1]; rfl) k2 k3
  case range t x =>
    obtain ⟨y, h1, e1⟩ := bnd_some.1 (show bnd (opd P x env) (fun a => rangeO P t a h) = some (v, h') from e)
    exact okv_gives (s := Instr.range t (a.eval x)) (by simp only [execOp, ho]; rw [Sem.run_bind]; rfl) (rangeO_ok hh e1 (opd_ok hg he h1))
  case next x s =>
    cases s with
    | true => cases (show (none : Out) = some (v, h') from e)
    | false =>
      obtain ⟨y, h1, e1⟩ := bnd_some.1 (show bnd (opd P x env) (fun a => nextO a h) = some (v, h') from e)
      exact okv_gives (s := Instr.next (a.eval x) false o.type) (by simp only [execOp, ho]; rw [Sem.run_bind]; rfl) (nextO_ok hh e1 (opd_ok hg he h1))
  case entry x =>
    obtain ⟨y, h1, e1⟩ := bnd_some.1 (show bnd (opd P x env) (fun a => entryO a h) = some (v, h') from e)
    exact okv_gives (s := Instr.entry (a.eval x)) (by simp only [execOp, ho]; rw [Sem.run_bind]; rfl) (entryO_ok hh e1 (opd_ok hg he h1))
  case makeInterface t x =>
    obtain ⟨z, h1, e1⟩ := bnd_some.1 (show bnd (opd P x env) (fun a => ite' (concT P t) (some (AV.ifc t a, h))) = some (v, h') from e)
    obtain ⟨h2, e2⟩ := ite_some.1 e1
    cases e2
    have hx := opd_ok hg he h1
    refine okv_pure (u := .iface t (a.eval x)) ?_ hh ⟨_, rfl, hx⟩
    unfold concT at h2
    cases hu : P.underlying t with
    | none => rw [hu] at h2; exact nomatch h2
    | some d =>
      rw [hu] at h2
      simp only [execOp, ho, Instr.makeInterface, Sem.run_bind, run_underlying hu, Result.andThen_ok]
      cases d <;> first | rfl | exact nomatch h2
  case makeFunc f x y =>
    obtain ⟨l, h1, e1⟩ := bnd_some.1 (show bnd (opds P x.toList env) (fun l => bnd (opds P y.toList env) fun m => some (AV.fn f l m, h)) = some (v, h') from e)
    obtain ⟨m, h2, e2⟩ := bnd_some.1 e1
    cases e2
    exact okv_pure (u := .func f (x.map a.eval) (y.map a.eval)) (by simp [execOp, ho, Instr.makeFunc]) hh ⟨_, _, rfl, by simpa using opds_ok hg he h1, by simpa using opds_ok hg he h2⟩
  case makeSlice t x y =>
    obtain ⟨z, h1, e1⟩ := bnd_some.1 (show bnd (opd P x env) (fun a => bnd (opd P y env) fun b => makeSliceO P t a b h) = some (v, h') from e)
    obtain ⟨u, h2, e2⟩ := bnd_some.1 e1
    exact op_makeSlice hh hσ ho (opd_ok hg he h1) (opd_ok hg he h2) e2
  case slice t x lo hi mx =>
    obtain ⟨z, h1, e1⟩ := bnd_some.1 (show bnd (opd P x env) (fun a => vO (sliceF P F t a (lo.map fun o => opd P o env) (hi.map fun o => opd P o env) (mx.map fun o => opd P o env)) h) = some (v, h') from e)
    obtain ⟨e3, rfl⟩ := vO_some e1
    obtain ⟨r, k1, k2⟩ := sliceF_ok hF e3 (opd_ok hg he h1) (low := lo.map a.eval) (high := hi.map a.eval) (max := mx.map a.eval) (fun d n e => bound_ok hg he e) (fun d n e => bound_ok hg he e) (fun d n e => bound_ok hg he e) (fun e => by cases hi <;> simp_all) (fun e => by cases hi <;> simp_all) (fun e => by cases mx <;> simp_all)
    exact okv_pure (u := r) (by simp only [execOp, ho]; rw [Sem.run_bind, k2 w]; rfl) hh k1
  case fieldAddr t x f =>
    obtain ⟨z, h1, e1⟩ := bnd_some.1 (show bnd (opd P x env) (fun a => vO (fieldAddrO (fieldO P t f) a) h) = some (v, h') from e)
    obtain ⟨e3, rfl⟩ := vO_some e1
    obtain ⟨r, k1, k2⟩ := fieldAddrO_ok (P := P) e3 (opd_ok hg he h1)
    exact okv_pure (u := r) (by simp only [execOp, ho]; rw [Sem.run_bind, k2 w]; rfl) hh k1
  case field t x f =>
    obtain ⟨z, h1, e1⟩ := bnd_some.1 (show bnd (opd P x env) (fun a => vO (fieldVO (fieldO P t f) a) h) = some (v, h') from e)
    obtain ⟨e3, rfl⟩ := vO_some e1
    obtain ⟨r, k1, k2⟩ := fieldVO_ok (P := P) e3 (opd_ok hg he h1)
    exact okv_pure (u := r) (by simp only [execOp, ho]; rw [Sem.run_bind, k2 w]; rfl) hh k1
  case indexAddr t x i =>
    obtain ⟨z, h1, e1⟩ := bnd_some.1 (show bnd (opd P x env) (fun a => bnd (opd P i env) fun j => vO (indexAddrO (elemO P t) a j) h) = some (v, h') from e)
    obtain ⟨u, h2, e2⟩ := bnd_some.1 e1
    obtain ⟨e3, rfl⟩ := vO_some e2
    obtain ⟨r, k1, k2⟩ := indexAddrO_ok (P := P) e3 (opd_ok hg he h1) (opd_ok hg he h2)
    exact okv_pure (u := r) (by simp only [execOp, ho]; rw [Sem.run_bind, k2 w]; rfl) hh k1
  case index t x i =>
    obtain ⟨z, h1, e1⟩ := bnd_some.1 (show bnd (opd P x env) (fun a => bnd (opd P i env) fun j => vO (indexF P F t (elemO P t) a j) h) = some (v, h') from e)
    obtain ⟨u, h2, e2⟩ := bnd_some.1 e1
    obtain ⟨e3, rfl⟩ := vO_some e2
    obtain ⟨r, k1, k2⟩ := indexF_ok hF e3 (opd_ok hg he h1) (opd_ok hg he h2)
    exact okv_pure (u := r) (by simp only [execOp, ho]; rw [Sem.run_bind, k2 w]; rfl) hh k1
  case extract x i =>
    obtain ⟨z, h1, e1⟩ := bnd_some.1 (show bnd (opd P x env) (fun a => vO (tupO a i) h) = some (v, h') from e)
    obtain ⟨e3, rfl⟩ := vO_some e1
    obtain ⟨r, k1, k2⟩ := tupO_ok (P := P) e3 (opd_ok hg he h1)
    exact okv_pure (u := r) (by simp only [execOp, ho]; rw [Sem.run_bind, k2 w]; rfl) hh k1
  case call c => exact callF_ok hF hK hr hσ hg hh he ho e
end
end Go.Exe
/- Regions in the order of the text, ends, control. -/
namespace Go.Exe
open Go

section
variable {P : Program} {σ : Sig} {N : Nat} {ρ : Rho} {h h' : H} {w w' : World} {o : Oper} {a : Act} {v : AV}

theorem wanted_ok {ops : Array Oper} {env : Env} (he : ER σ ρ env a.tmps) {b : Bool} (e : wantedO (guardT ops.toList o.guard) env = some b) : Region.wanted o (yielded ops a.tmps) = b := by
  obtain ⟨g, h1, h2⟩ := bnd_some.1 e
  unfold Region.wanted
  cases hg : o.guard with
  | none => rw [hg] at h1; cases h1; cases h2; rfl
  | some q =>
    obtain ⟨j, b0⟩ := q
    rw [hg] at h1
    obtain ⟨o', k1, k2⟩ := bnd_some.1 (show bnd (nth ops.toList j) (fun o => bnd o.dst fun t => some (some (t, b0))) = some g from h1)
    obtain ⟨t, k3, k4⟩ := bnd_some.1 k2
    cases k4
    obtain ⟨x, k5, k6⟩ := bnd_some.1 (show bnd (getT env t) (fun v => wanted v b0) = some b from h2)
    rw [nth_eq] at k1
    have k1 : ops[j]? = some o' := by simpa using k1
    obtain ⟨ht, hx⟩ := he t x k5
    have hty : a.tmps[t]? = some (a.tmps.getD t undef) := by simp [Array.getD_eq_getD_getElem?, ht]
    unfold wanted at k6
    split at k6
    · rename_i c
      have hc : a.tmps.getD t undef = .bool c := hx
      have : yielded ops a.tmps j = some c := by unfold yielded; rw [k1]; show (match (o'.dst).bind (a.tmps[·]?) with | some (.bool c) => some c | _ => none) = _; rw [k3]; show (match a.tmps[t]? with | some (.bool c) => some c | _ => none) = _; rw [hty, hc]
      show (yielded ops a.tmps j == some b0) = b
      rw [this]
      cases k6
      cases b0 <;> cases c <;> rfl
    · have hc : a.tmps.getD t undef = undef := hx
      have : yielded ops a.tmps j = none := by unfold yielded; rw [k1]; show (match (o'.dst).bind (a.tmps[·]?) with | some (.bool c) => some c | _ => none) = _; rw [k3]; show (match a.tmps[t]? with | some (.bool c) => some c | _ => none) = _; rw [hty, hc]; rfl
      show (yielded ops a.tmps j == some b0) = b
      rw [this]
      cases k6
      rfl
    · cases k6

/-- Where a region leads. -/
def Reg (σ : Sig) (N : Nat) (ρ : Rho) (h : H) (w : World) (a : Act) (k : Env → H → Out) (r : AV × H) : Exit → Act → World → Prop := fun e a' w' => e = .normal ∧ ∃ ρ' env' h1, k env' h1 = some r ∧ HR σ N ρ' h1 w' ∧ St ρ h w ρ' h1 w' ∧ ER σ ρ' env' a'.tmps ∧ a'.defers = a.defers

theorem region_ok {F : Facts} (hF : FactsOk P σ F) {K : Known} (hK : KOk P σ N K) {ih : Run} (hr : RunOk P σ N ih) (hσ : ∀ i, (σ i).oneCell' = true) (hN : N = P.globals.size) {ops : Array Oper} {k : Env → H → Out} {r : AV × H} {ρ0 : Rho} {h0 : H} {w0 : World} {a0 : Act} :
    ∀ (l : List Oper) (env : Env) (h : H) (ρ : Rho) (a : Act) (w : World), region P F K ih ops.toList l env h k = some r → HR σ N ρ h w → St ρ0 h0 w0 ρ h w → ER σ ρ env a.tmps → a.defers = a0.defers → wpList P ops (Reg σ N ρ0 h0 w0 a0 k r) l a w
  | [], env, h, ρ, a, w, e, hh, st, he, hd => ⟨rfl, ρ, env, h, e, hh, st, he, hd⟩
  | o :: l, env, h, ρ, a, w, e, hh, st, he, hd => by
    obtain ⟨env1, h1, e1, e2⟩ := bnd2_some.1 (show bnd2 (oper P F K ih ops.toList o env h) (fun env h => region P F K ih ops.toList l env h k) = some r from e)
    obtain ⟨b, e3, e4⟩ := bnd_some.1 e1
    have hw := wanted_ok he e3
    unfold wpList
    cases b with
    | false =>
      rw [hw, if_neg (by simp)]
      obtain ⟨env', e5, e6⟩ := bnd_some.1 (show bnd (putD o.dst .und env) (fun env => some (env, h)) = some (env1, h1) from e4)
      cases e6
      exact region_ok hF hK hr hσ hN l env1 h ρ _ w e2 hh st (he.put (x := .und) rfl e5) (by rw [put_defers]; exact hd)
    | true =>
      rw [hw, if_pos rfl]
      obtain ⟨v, h2, e5, e6⟩ := bnd2_some.1 (show bnd2 (opV P F K ih o.op env h) (fun v h => bnd (putD o.dst v env) fun env => some (env, h)) = some (env1, h1) from e4)
      obtain ⟨env', e7, e8⟩ := bnd_some.1 e6
      cases e8
      left
      exact opV_ok hF hK hr hσ hN hh he e5 _ _ fun ρ' u w' k1 k2 k3 => region_ok hF hK hr hσ hN l env1 h1 ρ' _ w' e2 k1 (st.trans k2) ((he.mono k2.rho).put k3 e7) (by rw [put_defers]; exact hd)

/-! ### Ends -/

def rv (tmps : Array Value) : ResultVar → Sem Value
  | .tmp t => pure (tmps.getD t undef)
  | .cell a t => do loadVar t (← asAddr (tmps.getD a undef))

theorem results_eq (fn : Func) (tmps : Array Value) : results fn tmps = (do let vs ← fn.results.mapM (rv tmps); pure (if h : vs.size = 1 then vs[0] else .tuple vs)) := rfl

theorem resO_ok (hh : HR σ N ρ h w) {env : Env} {tmps : Array Value} (he : ER σ ρ env tmps) {r : ResultVar} (e : resO P env h r = some v) : ∃ u, VR σ ρ v u ∧ (rv tmps r).run P w = .ok u w := by
  cases r with
  | tmp t => exact ⟨_, (he t v e).2, by simp [rv]⟩
  | cell t ty =>
    obtain ⟨x, h1, e1⟩ := bnd_some.1 (show bnd (getT env t) (fun a => bnd2 (loadO (szOf P ty) (aggOf P ty) a h) fun v _ => some v) = some v from e)
    obtain ⟨v', h2, e2, e3⟩ := bnd2_some.1 e1
    cases e3
    obtain ⟨_, u, k1, b, i, k2, k3⟩ := loadO_ok (P := P) hh e2 (he t x h1).2
    exact ⟨u, k1, by simp [rv, k2, asAddr, k3]⟩

theorem resL_ok (hh : HR σ N ρ h w) {env : Env} {tmps : Array Value} (he : ER σ ρ env tmps) : ∀ {l : List ResultVar} {vs : List AV}, resL P env h l = some vs → ∃ us, LR σ ρ vs us ∧ (l.mapM (rv tmps)).run P w = .ok us w
  | [], vs, e => by cases e; exact ⟨[], rfl, by simp⟩
  | r :: l, vs, e => by
    obtain ⟨v, h1, e1⟩ := bnd_some.1 (show bnd (resO P env h r) (fun v => bnd (resL P env h l) fun l => some (v :: l)) = some vs from e)
    obtain ⟨vs', h2, e2⟩ := bnd_some.1 e1
    cases e2
    obtain ⟨u, k1, k2⟩ := resO_ok (P := P) hh he h1
    obtain ⟨us, k3, k4⟩ := resL_ok hh he h2
    refine ⟨u :: us, ⟨u, us, rfl, k1, k3⟩, ?_⟩
    rw [List.mapM_cons, Sem.run_bind, k2, Result.andThen_ok, Sem.run_bind, k4]
    simp

theorem fin_ok (hh : HR σ N ρ h w) {env : Env} {tmps : Array Value} (he : ER σ ρ env tmps) {fn : Func} (e : fin P fn env h = some (v, h')) : h' = h ∧ ∃ u, VR σ ρ v u ∧ (results fn tmps).run P w = .ok u w := by
  obtain ⟨l, h1, e1⟩ := bnd_some.1 e
  obtain ⟨us, k1, k2⟩ := resL_ok (P := P) hh he h1
  have run : (results fn tmps).run P w = .ok (if h : us.toArray.size = 1 then us.toArray[0] else .tuple us.toArray) w := by
    rw [results_eq, Sem.run_bind, Array.mapM_eq_mapM_toList, Sem.run_map, k2]
    simp
  have tupcase : us.length ≠ 1 → e1 = e1 → (some (AV.tup l, h) : Out) = some (v, h') → h' = h ∧ ∃ u, VR σ ρ v u ∧ (results fn tmps).run P w = .ok u w := fun hne _ h2 => by
    cases h2
    refine ⟨rfl, .tuple us.toArray, ⟨_, rfl, by simpa using k1⟩, ?_⟩
    rw [run, dif_neg (by simpa using hne)]
  match l, k1, e1, tupcase with
  | [], k1, e1, tupcase =>
    have : us = [] := k1
    exact tupcase (by simp [this]) rfl e1
  | [x], ⟨u, r, q1, q2, q3⟩, e1, _ =>
    have q3 : r = [] := q3
    subst q1 q3
    cases (show some (x, h) = some (v, h') from e1)
    exact ⟨rfl, u, q2, by rw [run]; rfl⟩
  | x :: y :: l, k1, e1, tupcase =>
    have := k1.length
    exact tupcase (by rw [this]; simp) rfl e1
end
end Go.Exe
/- Control. -/
namespace Go.Exe
open Go

/-- Regions that draw their order. -/
def DrawOk (P : Program) (σ : Sig) (N : Nat) (F : Facts) (K : Known) (ih : Run) : Prop :=
  ∀ (id : Nat) (ops : Array Oper) (env : Env) (h : H) (k : Env → H → Out) (r : AV × H) (ρ : Rho) (a : Act) (w : World), drawnX P F K ih ops env h k = some r → HR σ N ρ h w → ER σ ρ env a.tmps → (Code.region id ops true).wp P (Reg σ N ρ h w a k r) a w

section
variable {P : Program} {σ : Sig} {N : Nat}

theorem pstep_inScope' {b : Frame} {a : Act} {k : List Item} {cs : List Frame} {w : World} {c : Code} : step P (lone (b.at a (.inScope c :: k)) cs w) = .next (lone (b.at a k) cs w) :=
  step_lone_go (by simp [stepG, stepG.exec, Frame.at])
theorem pstep_scope' {b : Frame} {a : Act} {k : List Item} {cs : List Frame} {w : World} {c : Code} : step P (lone (b.at a (.code (.scope c) :: k)) cs w) = .next (lone (b.at a (.code c :: .inScope c :: k)) cs w) :=
  step_lone_go (by simp [stepG, stepG.exec, Frame.at])

/-- What a run promises, at one place. -/
def Goes (P : Program) (σ : Sig) (N : Nat) (fn : Func) (T : List Item) (h : H) (v : AV) (h' : H) (ρ : Rho) (a : Act) (w : World) (b : Frame) (cs : List Frame) : Prop :=
  ∃ a' w' ρ' T' u, Steps P (lone (b.at a T) cs w) (lone { b.at a' T' with mode := .returning } cs w') ∧ a'.defers = [] ∧ (results fn a'.tmps).run P w' = .ok u w' ∧ HR σ N ρ' h' w' ∧ St ρ h w ρ' h' w' ∧ VR σ ρ' v u

theorem Goes.head {fn : Func} {T T1 : List Item} {h h' : H} {v : AV} {ρ : Rho} {a : Act} {w : World} {b : Frame} {cs : List Frame} (e : step P (lone (b.at a T) cs w) = .next (lone (b.at a T1) cs w)) (g : Goes P σ N fn T1 h v h' ρ a w b cs) : Goes P σ N fn T h v h' ρ a w b cs := by
  obtain ⟨a', w', ρ', T', u, k1, k2⟩ := g
  exact ⟨a', w', ρ', T', u, .head e k1, k2⟩

theorem Goes.fin {F : List Item} {fn : Func} {h h' : H} {v : AV} {ρ : Rho} {a : Act} {w : World} {b : Frame} {cs : List Frame} {env : Env} (e : step P (lone (b.at a F) cs w) = .next (lone { b.at a F with mode := .returning } cs w)) (hf : Exe.fin P fn env h = some (v, h')) (hh : HR σ N ρ h w) (he : ER σ ρ env a.tmps) (hd : a.defers = []) : Goes P σ N fn F h v h' ρ a w b cs := by
  obtain ⟨rfl, u, k1, k2⟩ := fin_ok (P := P) hh he hf
  exact ⟨a, w, ρ, F, u, .one e, hd, k2, hh, St.refl _ _ _, k1⟩

theorem Goes.region {fn : Func} {ih : Run} (hr : RunOk P σ N ih) {c : Code} {T : List Item} {h h' : H} {v : AV} {ρ : Rho} {a : Act} {w : World} (hd : a.defers = []) (g : c.wp P (Reg σ N ρ h w a (fun env h => ih fn T env h) (v, h')) a w) (b : Frame) (cs : List Frame) : Goes P σ N fn (.code c :: T) h v h' ρ a w b cs := by
  obtain ⟨e, a1, w1, ⟨rfl, ρ1, env1, h1, k1, k2, k3, k4, k5⟩, harr⟩ := g b T cs
  obtain ⟨a', w', ρ', T', u, q1, q2, q3, q4, q5, q6⟩ := hr fn T env1 h1 v h' k1 ρ1 a1 w1 b cs k2 k4 (k5.trans hd)
  exact ⟨a', w', ρ', T', u, Steps.trans harr q1, q2, q3, q4, k3.trans q5, q6⟩

theorem onBool_t {R : Type} {x : Option AV} {p q : Option R} {r : R} (e : onBool x p q = some r) : ∃ b, x = some (.bool b) ∧ (if b then p else q) = some r := by
  obtain ⟨y, h1, h2⟩ := bnd_some.1 e
  subst h1
  split at h2
  · rename_i b
    refine ⟨b, rfl, ?_⟩
    cases b <;> exact h2
  · cases h2

end
end Go.Exe
/- Control: loops over maps in any order, a select with a default. -/
namespace Go.Exe
open Go

section
variable {P : Program} {σ : Sig} {N : Nat} {ρ : Rho} {h h' : H} {w w' : World} {o : Oper} {a : Act} {v : AV}

theorem onBool_tE {R : Type} {x : Option AV} {p q : Option R} {r : R} (e : onBool x p q = some r) : ∃ b, x = some (.bool b) ∧ (match b with | true => p | false => q) = some r := by
  obtain ⟨b, h1, h2⟩ := onBool_t e
  refine ⟨b, h1, ?_⟩
  cases b <;> exact h2

theorem sameL_eq {f : AV → AV → Bool} (hf : ∀ a b, f a b = true → a = b) : ∀ {l m : List AV}, sameL f l m = true → l = m
  | [], [], _ => rfl
  | [], _ :: _, h => nomatch h
  | _ :: _, [], h => nomatch h
  | a :: l, b :: m, h => by
    have h : Bool.rec (motive := fun _ => Bool) false (sameL f l m) (f a b) = true := h
    cases hab : f a b with
    | false => rw [hab] at h; cases h
    | true => rw [hab] at h; rw [hf a b hab, sameL_eq hf h]

theorem sameA_eq : ∀ (n : Nat) (a b : AV), sameA n a b = true → a = b
  | 0, _, _, h => nomatch h
  | n + 1, a, b, h => by
    have ih := sameA_eq n
    have be : ∀ {x y : Nat}, Nat.beq x y = true → x = y := Nat.eq_of_beq_eq_true
    unfold sameA at h
    split at h
    case h_1 => obtain ⟨h1, h2⟩ := both_true h; rw [ieq_eq] at h2; rw [kEq_eq h1, of_decide_eq_true h2]
    case h_2 x y => cases x <;> cases y <;> first | rfl | cases h
    case h_3 n' x m y =>
      cases hnm : Nat.beq n' m with
      | false => unfold strEq at h; rw [hnm] at h; cases h
      | true => unfold strEq at h; rw [hnm] at h; rw [be hnm, be h]
    case h_4 => obtain ⟨h1, h2⟩ := both_true h; rw [be h1, be h2]
    case h_5 => rfl
    case h_6 =>
      obtain ⟨h1, h2⟩ := both_true h
      obtain ⟨h3, h4⟩ := both_true h2
      obtain ⟨h5, h6⟩ := both_true h4
      obtain ⟨h7, h8⟩ := both_true h6
      rw [be h1, be h3, be h5, be h7, be h8]
    case h_7 => rfl
    case h_8 => rw [be h]
    case h_9 => rfl
    case h_10 => rfl
    case h_11 =>
      obtain ⟨h1, h2⟩ := both_true h
      obtain ⟨h3, h4⟩ := both_true h2
      rw [be h1, sameL_eq ih h3, sameL_eq ih h4]
    case h_12 => obtain ⟨h1, h2⟩ := both_true h; rw [be h1, ih _ _ h2]
    case h_13 => rfl
    case h_14 => rw [sameL_eq ih h]
    case h_15 => rw [sameL_eq ih h]
    case h_16 => rw [be h]
    case h_17 => rfl
    case h_18 => cases h

theorem memB_ok (n : Nat) : ∀ {l : List (AV × AV × Nat)} {m : List MapEntry}, MR σ ρ l m → memB n l = false → n ∉ m.map (·.born)
  | [], _, hm, _ => by cases hm; simp
  | (k, c, b) :: l, _, ⟨x, r, h1, h2, h3, h4, h5⟩, h => by
    subst h1
    have h4 : x.born = b := h4
    have h : Bool.rec (motive := fun _ => Bool) (memB n l) true (Nat.beq b n) = false := h
    rw [beq_eq] at h
    by_cases hb : b = n
    · rw [decide_eq_true hb] at h; cases h
    · rw [decide_eq_false hb] at h
      intro hc
      rcases List.mem_cons.1 hc with hc | hc
      · exact hb (by rw [← h4]; exact hc.symm)
      · exact memB_ok n h5 h hc
theorem bornOk_ok {c : Nat} : ∀ {l : List (AV × AV × Nat)} {m : List MapEntry}, MR σ ρ l m → bornOk c l = true → (∀ x ∈ m, x.born < c) ∧ (m.map (·.born)).Nodup
  | [], _, hm, _ => by cases hm; exact ⟨(fun x h => by cases h), List.nodup_nil⟩
  | (k, q, b) :: l, _, ⟨x, r, h1, h2, h3, h4, h5⟩, h => by
    subst h1
    have h4 : x.born = b := h4
    obtain ⟨g1, g2⟩ := both_true (show both (Nat.ble (Nat.succ b) c) (both (not (memB b l)) (bornOk c l)) = true from h)
    obtain ⟨g2, g3⟩ := both_true g2
    obtain ⟨i1, i2⟩ := bornOk_ok h5 g3
    have g1 := Nat.le_of_ble_eq_true g1
    have g2 : memB b l = false := by simpa using g2
    refine ⟨fun y hy => ?_, List.nodup_cons.2 ⟨?_, i2⟩⟩
    · rcases List.mem_cons.1 hy with rfl | hy
      · omega
      · exact i1 y hy
    · show x.born ∉ _
      rw [h4]; exact memB_ok b h5 g2

/-! ### Regions and code that lead on -/

theorem regionE_ok {F : Facts} (hF : FactsOk P σ F) {K : Known} (hK : KOk P σ N K) {ih : Run} (hr : RunOk P σ N ih) (hσ : ∀ i, (σ i).oneCell' = true) (hN : N = P.globals.size) {ops : Array Oper} {env' : Env} {ρ0 : Rho} {h0 : H} {w0 : World} {a0 : Act} :
    ∀ (l : List Oper) (env : Env) (h : H) (ρ : Rho) (a : Act) (w : World), regionE P F K ih ops.toList l env h = some (env', h') → HR σ N ρ h w → St ρ0 h0 w0 ρ h w → ER σ ρ env a.tmps → a.defers = a0.defers →
      wpList P ops (fun e a' w' => e = .normal ∧ ∃ ρ', HR σ N ρ' h' w' ∧ St ρ0 h0 w0 ρ' h' w' ∧ ER σ ρ' env' a'.tmps ∧ a'.defers = a0.defers) l a w
  | [], env, h, ρ, a, w, e, hh, st, he, hd => by cases e; exact ⟨rfl, ρ, hh, st, he, hd⟩
  | o :: l, env, h, ρ, a, w, e, hh, st, he, hd => by
    obtain ⟨env1, h1, e1, e2⟩ := bnd2_some.1 (show bnd2 (oper P F K ih ops.toList o env h) (fun env h => regionE P F K ih ops.toList l env h) = some (env', h') from e)
    obtain ⟨b, e3, e4⟩ := bnd_some.1 e1
    have hw := wanted_ok he e3
    unfold wpList
    cases b with
    | false =>
      rw [hw, if_neg (by simp)]
      obtain ⟨env2, e5, e6⟩ := bnd_some.1 (show bnd (putD o.dst .und env) (fun env => some (env, h)) = some (env1, h1) from e4)
      cases e6
      exact regionE_ok hF hK hr hσ hN l env1 h ρ _ w e2 hh st (he.put (x := .und) rfl e5) (by rw [put_defers]; exact hd)
    | true =>
      rw [hw, if_pos rfl]
      obtain ⟨v, h2, e5, e6⟩ := bnd2_some.1 (show bnd2 (opV P F K ih o.op env h) (fun v h => bnd (putD o.dst v env) fun env => some (env, h)) = some (env1, h1) from e4)
      obtain ⟨env2, e7, e8⟩ := bnd_some.1 e6
      cases e8
      left
      exact opV_ok hF hK hr hσ hN hh he e5 _ _ fun ρ' u w' k1 k2 k3 => regionE_ok hF hK hr hσ hN l env1 h1 ρ' _ w' e2 k1 (st.trans k2) ((he.mono k2.rho).put k3 e7) (by rw [put_defers]; exact hd)

/-- Code that leads on to what stands behind it. -/
def Leads (P : Program) (σ : Sig) (N : Nat) (c : Code) (ρ : Rho) (h : H) (w : World) (a : Act) (env' : Env) (h' : H) : Prop :=
  ∀ (T : List Item) (b : Frame) (cs : List Frame), ∃ a' w' ρ', Steps P (lone (b.at a (.code c :: T)) cs w) (lone (b.at a' T) cs w') ∧ HR σ N ρ' h' w' ∧ St ρ h w ρ' h' w' ∧ ER σ ρ' env' a'.tmps ∧ a'.defers = []

theorem Leads.region {ρ : Rho} {c : Code} {env' : Env} (hd : a.defers = []) (g : c.wp P (fun e a' w' => e = .normal ∧ ∃ ρ', HR σ N ρ' h' w' ∧ St ρ h w ρ' h' w' ∧ ER σ ρ' env' a'.tmps ∧ a'.defers = a.defers) a w) : Leads P σ N c ρ h w a env' h' := by
  intro T b cs
  obtain ⟨e, a1, w1, ⟨rfl, ρ1, k2, k3, k4, k5⟩, harr⟩ := g b T cs
  exact ⟨a1, w1, ρ1, harr, k2, k3, k4, k5.trans hd⟩

/-- The same, where the first step was taken by hand. -/
def Leads' (P : Program) (σ : Sig) (N : Nat) (c : Code) (ρ : Rho) (h : H) (w0 : World) (a : Act) (w : World) (env' : Env) (h' : H) : Prop :=
  ∀ (T : List Item) (b : Frame) (cs : List Frame), ∃ a' w' ρ', Steps P (lone (b.at a (.code c :: T)) cs w) (lone (b.at a' T) cs w') ∧ HR σ N ρ' h' w' ∧ St ρ h w0 ρ' h' w' ∧ ER σ ρ' env' a'.tmps ∧ a'.defers = []
theorem Leads'.region {ρ : Rho} {w0 : World} {c : Code} {env' : Env} (hd : a.defers = []) (g : c.wp P (fun e a' w' => e = .normal ∧ ∃ ρ', HR σ N ρ' h' w' ∧ St ρ h w0 ρ' h' w' ∧ ER σ ρ' env' a'.tmps ∧ a'.defers = a.defers) a w) : Leads' P σ N c ρ h w0 a w env' h' := by
  intro T b cs
  obtain ⟨e, a1, w1, ⟨rfl, ρ1, k2, k3, k4, k5⟩, harr⟩ := g b T cs
  exact ⟨a1, w1, ρ1, harr, k2, k3, k4, k5.trans hd⟩

theorem runB_ok {F : Facts} (hF : FactsOk P σ F) {K : Known} (hK : KOk P σ N K) {ih : Run} (hr : RunOk P σ N ih) (hσ : ∀ i, (σ i).oneCell' = true) (hN : N = P.globals.size) : ∀ (n : Nat) (c : Code) {env env' : Env} {h h' : H}, runB P F K ih n c env h = some (env', h') → ∀ {ρ : Rho} {a : Act} {w : World}, HR σ N ρ h w → ER σ ρ env a.tmps → a.defers = [] → Leads P σ N c ρ h w a env' h'
  | 0, _, _, _, _, _, e => nomatch e
  | n + 1, c, env, env', h, h', e => by
    rename_i ρ a w
    intro hh he hd
    match c, e with
    | .skip, e => cases e; exact fun T b cs => ⟨a, w, ρ, .one step_skip, hh, St.refl _ _ _, he, hd⟩
    | .seq x y, e =>
      obtain ⟨env1, h1, e1, e2⟩ := bnd2_some.1 (show bnd2 (runB P F K ih n x env h) (fun env h => runB P F K ih n y env h) = some (env', h') from e)
      intro T b cs
      obtain ⟨a1, w1, ρ1, s1, k1, k2, k3, k4⟩ := runB_ok hF hK hr hσ hN n x e1 hh he hd (.code y :: T) b cs
      obtain ⟨a2, w2, ρ2, s2, q1, q2, q3, q4⟩ := runB_ok hF hK hr hσ hN n y e2 k1 k3 k4 T b cs
      exact ⟨a2, w2, ρ2, .head step_seq (s1.trans s2), q1, k2.trans q2, q3, q4⟩
    | .cond c x y, e =>
      obtain ⟨t, h1, h2⟩ := onBool_tE (show onBool (opd P c env) (runB P F K ih n x env h) (runB P F K ih n y env h) = some (env', h') from e)
      have hv : a.eval c = .bool t := opd_ok (fun g hgl => hh.glob g (hN ▸ hgl)) he h1
      intro T b cs
      cases t with
      | true =>
        obtain ⟨a1, w1, ρ1, s1, k⟩ := runB_ok hF hK hr hσ hN n x h2 hh he hd T b cs
        exact ⟨a1, w1, ρ1, .head (step_cond hv) s1, k⟩
      | false =>
        obtain ⟨a1, w1, ρ1, s1, k⟩ := runB_ok hF hK hr hσ hN n y h2 hh he hd T b cs
        exact ⟨a1, w1, ρ1, .head (step_cond hv) s1, k⟩
    | .block id x, e =>
      intro T b cs
      obtain ⟨a1, w1, ρ1, s1, k⟩ := runB_ok hF hK hr hσ hN n x (show runB P F K ih n x env h = some (env', h') from e) hh he hd (.inBlock id :: T) b cs
      exact ⟨a1, w1, ρ1, .head step_block (s1.trans (.one step_inBlock)), k⟩
    | .region id ops false, e => exact Leads.region hd (wp_region_list (regionE_ok hF hK hr hσ hN ops.toList env h ρ a w e hh (St.refl _ _ _) he rfl))
    | .region id ops true, e => exact nomatch e
    | .label _, e => exact nomatch e
    | .loop _, e => exact nomatch e
    | .scope _, e => exact nomatch e
    | .exit _, e => exact nomatch e
    | .goto _, e => exact nomatch e
    | .ret, e => exact nomatch e
    | .refuse _, e => exact nomatch e
    | .rangeFunc .., e => exact nomatch e

/-! ### Loops over maps -/

theorem loopOf_some {b : Code} {M : MapLoop} (e : loopOf b = some M) : ∃ i1 i2 i3, b = .seq (.region i1 M.ops1 false) (.seq (.cond M.c .skip (.exit M.e)) M.body) ∧ M.body = .block i2 (.seq (.region i3 M.ops3 false) M.rest) := by
  unfold loopOf at e
  split at e
  · cases e; exact ⟨_, _, _, rfl, rfl⟩
  · cases e
theorem nextOf_some {o : Oper} {t i : Nat} (e : nextOf o = some (t, i)) : o.dst = some t ∧ o.op = .next (.tmp i) false ∧ o.guard = none := by
  unfold nextOf at e
  split at e
  · cases e; exact ⟨rfl, rfl, rfl⟩
  · cases e
theorem entryOf_some {o : Oper} {t i : Nat} (e : entryOf o = some (t, i)) : o.dst = some t ∧ o.op = .entry (.tmp i) ∧ o.guard = none := by
  unfold entryOf at e
  split at e
  · cases e; exact ⟨rfl, rfl, rfl⟩
  · cases e
theorem uncons_some {α : Type} {l : List α} {a : α} {r : List α} (e : uncons l = some (a, r)) : l = a :: r := by
  cases l with
  | nil => cases e
  | cons x y => cases e; rfl
theorem isPtr_some {r : Nat} {x : Option AV} (e : isPtr r x = true) : x = some (.ptr r 0) := by
  unfold isPtr at e
  split at e
  · obtain ⟨h1, h2⟩ := both_true e
    rw [Nat.eq_of_beq_eq_true h1, Nat.eq_of_beq_eq_true h2]
  · cases e
theorem wanted_plain {ops : Array Oper} (hg : o.guard = none) (a : Act) : Region.wanted o (yielded ops a.tmps) = true := by
  unfold Region.wanted; rw [hg]

theorem Tr.get_mapO {α : Type} (f : α → Option α) : ∀ (t : Tr α) (i : Nat), (t.mapO f).get i = bnd (t.get i) f
  | .leaf, _ => rfl
  | .node l v r, i => by
    show (Tr.node (l.mapO f) (bnd v f) (r.mapO f)).get i = _
    rw [Tr.get_node, Tr.get_node]
    split
    · rfl
    · split
      · exact Tr.get_mapO f l _
      · exact Tr.get_mapO f r _
theorem frz_get {q : Nat} {row : Row} (e : h.frz.get q = some row) : ∃ ty sz n t wr rel, h.get q = some (.cells ty sz n t wr rel) ∧ row = .cells ty sz n t false rel := by
  obtain ⟨t, nx⟩ := h
  have e : (t.mapO frzRow).get q = some row := e
  rw [Tr.get_mapO] at e
  obtain ⟨row0, h1, h2⟩ := bnd_some.1 e
  cases row0 with
  | cells ty sz n tr wr rel => cases h2; exact ⟨ty, sz, n, tr, wr, rel, h1, rfl⟩
  | map => cases h2
  | chan => cases h2
  | iter => cases h2
  | cap => cases h2
theorem HR.frz (hh : HR σ N ρ h w) : HR σ N ρ h.frz w := by
  have hn : h.frz.nx = h.nx := by obtain ⟨t, nx⟩ := h; rfl
  refine hh.weak hn fun q row e => ?_
  obtain ⟨ty, sz, n, t, wr, rel, h1, rfl⟩ := frz_get e
  refine ⟨_, h1, fun p ⟨cs, fz, k1, k2, k3, k4⟩ => ⟨cs, fz, k1, k2, ⟨k3.1, fun h => nomatch h⟩, k4⟩, fun h => (nomatch h), fun _ h => h, fun _ h k => absurd h k⟩
theorem frz_owns {b : Nat} : ¬ Owns ρ h.frz b := fun ⟨q, row, p, h1, h2, _⟩ => by
  obtain ⟨_, _, _, _, _, _, _, rfl⟩ := frz_get h1
  cases h2

mutual
/-- What stood under fewer rows stands under them still. -/
theorem VR.back {ρ ρ' : Rho} (s : Sub ρ ρ') : ∀ (a : AV) {u v : Value}, VR σ ρ a u → VR σ ρ' a v → VR σ ρ a v
  | .int _ _, _, _, _, k => k
  | .bool _, _, _, _, k => k
  | .str _ _, _, _, _, k => k
  | .ptr _ _, _, _, ⟨p, h1, _⟩, ⟨p', k1, k2⟩ => by
    have := s _ _ h1; rw [k1] at this; cases this
    exact ⟨_, h1, k2⟩
  | .nilp, _, _, _, k => k
  | .slc _ _ _ _ _, _, _, ⟨p, _, _, h1, _⟩, ⟨p', cap, off, k1, k2⟩ => by
    have := s _ _ h1; rw [k1] at this; cases this
    exact ⟨_, cap, off, h1, k2⟩
  | .nils, _, _, _, k => k
  | .map _, _, _, ⟨p, h1, _⟩, ⟨p', k1, k2⟩ => by
    have := s _ _ h1; rw [k1] at this; cases this
    exact ⟨_, h1, k2⟩
  | .nilm, _, _, _, k => k
  | .chan _, _, _, ⟨p, h1, _⟩, ⟨p', k1, k2⟩ => by
    have := s _ _ h1; rw [k1] at this; cases this
    exact ⟨_, h1, k2⟩
  | .nilc, _, _, _, k => k
  | .fn _ a b, _, _, ⟨_, _, _, h1, h2⟩, ⟨fs, cs, k1, k2, k3⟩ => ⟨fs, cs, k1, LR.back s a h1 k2, LR.back s b h2 k3⟩
  | .nilf, _, _, _, k => k
  | .ifc _ a, _, _, ⟨_, _, h1⟩, ⟨u, k1, k2⟩ => ⟨u, k1, VR.back s a h1 k2⟩
  | .nili, _, _, _, k => k
  | .agg l, _, _, ⟨_, _, h1, _⟩, ⟨cs, k1, k2, k3⟩ => ⟨cs, k1, LR.back s l h1 k2, k3⟩
  | .tup l, _, _, ⟨_, _, h1⟩, ⟨cs, k1, k2⟩ => ⟨cs, k1, LR.back s l h1 k2⟩
  | .sym _, _, _, _, k => k
  | .und, _, _, _, k => k
  | .top, _, _, _, k => k
  | .cel, _, _, _, k => k
theorem LR.back {ρ ρ' : Rho} (s : Sub ρ ρ') : ∀ (l : List AV) {u v : List Value}, LR σ ρ l u → LR σ ρ' l v → LR σ ρ l v
  | [], _, _, _, k => k
  | a :: l, _, _, ⟨_, _, _, h1, h2⟩, ⟨v, r, k1, k2, k3⟩ => ⟨v, r, k1, VR.back s a h1 k2, LR.back s l h2 k3⟩
end

theorem weakA_ok {a b : AV} (e : weakA a b = true) : b = .top ∨ a = b := by
  unfold weakA at e
  split at e
  · exact .inl rfl
  · exact .inr (sameA_eq 4 _ _ e)
theorem sameLw_ok : ∀ {l m : List AV}, sameL weakA l m = true → l.length = m.length ∧ ∀ (i : Nat) (b : AV), m[i]? = some b → ∃ a : AV, l[i]? = some a ∧ (b = AV.top ∨ a = b)
  | [], [], _ => ⟨rfl, fun i b h => by simp at h⟩
  | [], _ :: _, h => nomatch h
  | _ :: _, [], h => nomatch h
  | a :: l, b :: m, h => by
    have h : Bool.rec (motive := fun _ => Bool) false (sameL weakA l m) (weakA a b) = true := h
    cases hab : weakA a b with
    | false => rw [hab] at h; cases h
    | true =>
      rw [hab] at h
      obtain ⟨k1, k2⟩ := sameLw_ok h
      refine ⟨by simp [k1], fun i c hc => ?_⟩
      cases i with
      | zero => simp at hc; subst hc; exact ⟨a, rfl, weakA_ok hab⟩
      | succ i => exact k2 i c (by simpa using hc)
theorem weakE_ok : ∀ {e f : Env}, weakE e f = true → ∀ (i : Nat) (m : List AV), f[i]? = some m → ∃ l, e[i]? = some l ∧ sameL weakA l m = true
  | [], [], _, i, m, h => by simp at h
  | [], _ :: _, h, _, _, _ => nomatch h
  | _ :: _, [], h, _, _, _ => nomatch h
  | a :: l, b :: f, h, i, m, hm => by
    obtain ⟨h1, h2⟩ := both_true (show both (sameL weakA a b) (weakE.sameL' l f) = true from h)
    cases i with
    | zero => simp at hm; subst hm; exact ⟨a, rfl, h1⟩
    | succ i => exact weakE_ok (e := l) (f := f) h2 i m (by simpa using hm)
theorem weakE_get {e f : Env} (h : weakE e f = true) {t : Nat} {b : AV} (hb : getT f t = some b) : ∃ a, getT e t = some a ∧ (b = .top ∨ a = b) := by
  obtain ⟨m, h1, h2⟩ := bnd_some.1 (show bnd (nth f (Nat.div t 8)) (fun l => nth l (Nat.mod t 8)) = some b from hb)
  rw [nth_eq] at h1 h2
  obtain ⟨l, k1, k2⟩ := weakE_ok h _ m h1
  obtain ⟨_, k3⟩ := sameLw_ok k2
  obtain ⟨a, k4, k5⟩ := k3 _ b h2
  refine ⟨a, ?_, k5⟩
  show bnd (nth e (Nat.div t 8)) (fun l => nth l (Nat.mod t 8)) = some a
  rw [nth_eq, k1]
  show nth l (Nat.mod t 8) = some a
  rw [nth_eq]; exact k4
/-- Slots of which less is known. -/
theorem ER.weak {ρ ρ' : Rho} {e f : Env} {tmps tmps0 : Array Value} (s : Sub ρ ρ') (h : weakE e f = true) (h0 : ER σ ρ f tmps0) (he : ER σ ρ' e tmps) : ER σ ρ f tmps := fun t b hb => by
  obtain ⟨a, k1, k2⟩ := weakE_get h hb
  obtain ⟨k3, k4⟩ := he t a k1
  refine ⟨k3, ?_⟩
  rcases k2 with rfl | rfl
  · trivial
  · exact VR.back s _ (h0 t _ hb).2 k4
theorem ER.weak0 {e f : Env} {tmps : Array Value} (h : weakE e f = true) (he : ER σ ρ e tmps) : ER σ ρ f tmps := fun t b hb => by
  obtain ⟨a, k1, k2⟩ := weakE_get h hb
  obtain ⟨k3, k4⟩ := he t a k1
  refine ⟨k3, ?_⟩
  rcases k2 with rfl | rfl
  · trivial
  · exact k4

theorem MR.mem : ∀ {l : List (AV × AV × Nat)} {m : List MapEntry}, MR σ ρ l m → ∀ x, x ∈ m → ∃ k q b, (k, q, b) ∈ l ∧ VR σ ρ k x.key ∧ VR σ ρ q x.val ∧ x.born = b
  | [], _, hm, x, hx => by cases hm; cases hx
  | (k, q, b) :: l, _, ⟨y, r, h1, h2, h3, h4, h5⟩, x, hx => by
    subst h1
    rcases List.mem_cons.1 hx with rfl | hx
    · exact ⟨k, q, b, List.mem_cons_self .., h2, h3, h4⟩
    · obtain ⟨k', q', b', g1, g2⟩ := MR.mem h5 x hx
      exact ⟨k', q', b', List.mem_cons_of_mem _ g1, g2⟩

theorem allRounds_mem {F : Facts} {K : Known} {ih : Run} {M : MapLoop} {r i t1 t3 : Nat} {l1 l3 : List Oper} {hF : H} {env : Env} : ∀ {L : List (AV × AV × Nat)}, allRounds P F K ih M r i t1 t3 l1 l3 hF env L = true → ∀ e, e ∈ L → ∃ env', mapRound P F K ih M r i t1 t3 l1 l3 hF env e = some env' ∧ weakE env' env = true
  | [], _, e, he => by cases he
  | x :: L, h, e, he => by
    have h : Option.rec (motive := fun _ => Bool) false (fun env' => both (weakE env' env) (allRounds P F K ih M r i t1 t3 l1 l3 hF env L)) (mapRound P F K ih M r i t1 t3 l1 l3 hF env x) = true := h
    cases hx : mapRound P F K ih M r i t1 t3 l1 l3 hF env x with
    | none => rw [hx] at h; cases h
    | some env' =>
      rw [hx] at h
      obtain ⟨k1, k2⟩ := both_true (show both (weakE env' env) (allRounds P F K ih M r i t1 t3 l1 l3 hF env L) = true from h)
      rcases List.mem_cons.1 he with rfl | he
      · exact ⟨env', hx, k1⟩
      · exact allRounds_mem k2 e he

theorem left_push {es : Array MapEntry} {S : Array Nat} {e : MapEntry} (he : e ∈ (leftOf es S).toList) : (leftOf es (S.push e.born)).size < (leftOf es S).size := by
  have h1 : (leftOf es (S.push e.born)).toList = (leftOf es S).toList.filter fun x => decide (x.born ≠ e.born) := by
    unfold leftOf
    rw [Array.toList_filter, Array.toList_filter, List.filter_filter]
    congr 1
    funext x
    rw [Bool.eq_iff_iff]
    simp [and_comm]
  rw [← Array.length_toList, ← Array.length_toList, h1]
  exact List.length_filter_lt_length_iff_exists.2 ⟨e, he, by simp⟩

/-- An iterator's block turns: what does not stand there stands. -/
theorem HR.beside {p : Pl} (hh : HR σ N ρ h w) (ne : ∀ q row p', h.get q = some row → ρ q = some p' → p'.b ≠ p.b) (hp : ∀ b, b ≠ p.b → w'.heap[b]? = w.heap[b]?) : HR σ N ρ h w' :=
  { live := fun r row e => let ⟨q, k1, k2⟩ := hh.live r row e; ⟨q, k1, k2.mono (Sub.refl _) (hp _ (ne r row q e k1))⟩, new := hh.new, sep := hh.sep, old := hh.old, rels := hh.rels, glob := hh.glob }

theorem setBlock_at {b : Nat} {x : Obj} (hb : w.heap[b]?.isSome = true) : (ChangeMaps.setBlock w b x).heap[b]? = some x ∧ (∀ i, i ≠ b → (ChangeMaps.setBlock w b x).heap[i]? = w.heap[i]?) ∧ (ChangeMaps.setBlock w b x).heap.size = w.heap.size := by
  obtain ⟨y, hy⟩ := Option.isSome_iff_exists.1 hb
  exact ⟨(MapKept.heap_set (o' := x) hy).1, (MapKept.heap_set (o' := x) hy).2, by simp [ChangeMaps.setBlock]⟩

theorem wp_val {next : Act → World → Prop} {Q : Exit → Act → World → Prop} {u : Value} (e : (execOp a.eval o).run P w = .ok (.value u) w') (h : next (a.put o.dst u) w') : o.wp P a w next Q := by
  unfold Oper.wp
  rw [e]; exact h
theorem eval_tmp {t : Nat} (a : Act) : a.eval (.tmp t) = a.tmps.getD t undef := rfl

/-- A loop over a map, from any place on. -/
theorem mapRun_go {F : Facts} (hF : FactsOk P σ F) {K : Known} (hK : KOk P σ N K) {ih : Run} (hr : RunOk P σ N ih) (hσ : ∀ i, (σ i).oneCell' = true) (hN : N = P.globals.size)
    {fn : Func} {bd : Code} {k k' : List Item} {M : MapLoop} {o1 o3 : Oper} {i t1 t3 r since c : Nat} {l1 l3 : List Oper} {seen : List Nat} {l : List (AV × AV × Nat)} {env0 envx envx' : Env} {hX hx : H} {p pm : Pl} {es : Array MapEntry} {w0 : World}
    (hM : loopOf bd = some M) (h1 : M.ops1.toList = o1 :: l1) (hn : nextOf o1 = some (t1, i)) (h3 : M.ops3.toList = o3 :: l3) (hen : entryOf o3 = some (t3, i))
    (hp : ρ r = some p) (hp0 : p.base = 0) (hne : p.b ≠ pm.b) (hown : Owns ρ h p.b)
    (ne : ∀ q row p', hX.get q = some row → ρ q = some p' → p'.b ≠ p.b)
    (hmr : MR σ ρ l es.toList) (hall : ∀ x ∈ es.toList, x.born < since) (hnd : (es.toList.map (·.born)).Nodup) (hsc : since ≤ c)
    (rounds : allRounds P F K ih M r i t1 t3 l1 l3 hX.frz env0 (leftE seen l) = true) (hptr : getT env0 i = some (.ptr r 0))
    (ex1 : setT env0 t1 (.tup [.bool false]) = some envx) (ex2 : regionE P F K ih M.ops1.toList l1 envx hX = some (envx', hx)) (ex3 : opd P M.c envx' = some (.bool false)) (ex4 : exitTo M.e (.code M.body :: .inLoop bd :: k) = some k') (ex5 : ih fn k' envx' hx = some (v, h')) (bfr : Frame) (cs : List Frame) :
    ∀ (n : Nat) (S : Array Nat) (last : Nat) (a : Act) (w : World), (leftOf es S).size < n → (∀ b, b ∈ seen → b ∈ S) → since ≤ last → w.heap[p.b]? = some (.mapIter (some pm.b) since S last) → w.heap[pm.b]? = some (.map es c) → HR σ N ρ hX w → St ρ h w0 ρ hX w → ER σ ρ env0 a.tmps → a.defers = [] →
      ∃ a' w' ρ' T' u, Steps P (lone (bfr.at a (.code bd :: .inLoop bd :: k)) cs w) (lone { bfr.at a' T' with mode := .returning } cs w') ∧ a'.defers = [] ∧ (results fn a'.tmps).run P w' = .ok u w' ∧ HR σ N ρ' h' w' ∧ St ρ h w0 ρ' h' w' ∧ VR σ ρ' v u
  | 0, _, _, _, _, hs, _, _, _, _, _, _, _, _ => absurd hs (Nat.not_lt_zero _)
  | n + 1, S, last, a, w, hs, hseen, hlast, hit, hmap, hh, st, he, hd => by
    obtain ⟨i1, i2, i3, hbd, hbody⟩ := loopOf_some hM
    obtain ⟨n1, n2, n3⟩ := nextOf_some hn
    obtain ⟨e1, e2, e3⟩ := entryOf_some hen
    have hiv : a.eval (.tmp i) = .pointer (some ⟨p.b, 0, none⟩) := by
      obtain ⟨_, p', k1, k2⟩ := he i _ hptr
      rw [hp] at k1; cases k1
      rw [eval_tmp, k2, hp0]
    have hexec : ∀ {u : Value} {w' : World}, (Instr.next (.pointer (some ⟨p.b, 0, none⟩)) false o1.type).run P w = .ok u w' → (execOp a.eval o1).run P w = .ok (.value u) w' := fun {u w'} e => by
      simp only [execOp, n2]
      rw [hiv, Sem.run_bind, e]; rfl
    have first : ∀ {u : Value} {w' : World} {x : AV} {env1 env2 : Env} {hA h2 : H}, (execOp a.eval o1).run P w = .ok (.value u) w' → VR σ ρ x u → setT env0 t1 x = some env1 → HR σ N ρ hA w' → regionE P F K ih M.ops1.toList l1 env1 hA = some (env2, h2) →
        ∃ a2 w2 ρ2, Steps P (lone (bfr.at a (.code bd :: .inLoop bd :: k)) cs w) (lone (bfr.at a2 (.code (.cond M.c .skip (.exit M.e)) :: .code M.body :: .inLoop bd :: k)) cs w2) ∧ HR σ N ρ2 h2 w2 ∧ St ρ hA w' ρ2 h2 w2 ∧ ER σ ρ2 env2 a2.tmps ∧ a2.defers = [] := fun {u w' x env1 env2 hA h2} g1 g2 g3 g4 g5 => by
      have her := he.put (d := some t1) g2 g3
      have hl : Leads' P σ N (.region i1 M.ops1 false) ρ hA w' a w env2 h2 := Leads'.region hd (wp_region_list (by
        rw [h1]
        unfold wpList
        rw [wanted_plain n3 a, if_pos rfl]
        left
        refine wp_val g1 ?_
        rw [n1]
        exact regionE_ok hF hK hr hσ hN l1 env1 hA ρ _ w' g5 g4 (St.refl _ _ _) her (put_defers ..)))
      obtain ⟨a2, w2, ρ2, s1, q⟩ := hl (.code (.seq (.cond M.c .skip (.exit M.e)) M.body) :: .inLoop bd :: k) bfr cs
      refine ⟨a2, w2, ρ2, ?_, q⟩
      rw [show (Item.code bd :: Item.inLoop bd :: k) = .code (.seq (.region i1 M.ops1 false) (.seq (.cond M.c .skip (.exit M.e)) M.body)) :: .inLoop bd :: k by rw [← hbd]]
      exact .head step_seq (s1.trans (.one step_seq))
    rcases run_next_at (P := P) w o1.type p.b pm.b since last S es c hit hmap hall hlast with ⟨f1, f2⟩ | ⟨x, f1, w1, f2, f3⟩
    · obtain ⟨a2, w2, ρ2, s1, k1, k2, k3, k4⟩ := first (hexec f2) (x := .tup [.bool false]) ⟨#[.bool false], rfl, _, _, rfl, rfl, rfl⟩ ex1 hh ex2
      have hv : a2.eval M.c = .bool false := opd_ok (fun g hgl => k1.glob g (hN ▸ hgl)) k3 ex3
      obtain ⟨a', w', ρ', T', u, q1, q2, q3, q4, q5, q6⟩ := hr fn k' envx' hx v h' ex5 ρ2 a2 w2 bfr cs k1 k3 k4
      exact ⟨a', w', ρ', T', u, s1.trans (.head (step_cond hv) (.head (step_exit ex4) q1)), q2, q3, q4, st.trans (k2.trans q5), q6⟩
    · have hw1 : ∀ b : Nat, w1.heap[b]? = w.heap[b]? := fun b => by rcases f2 with rfl | rfl <;> rfl
      have hw1s : w1.heap.size = w.heap.size := by rcases f2 with rfl | rfl <;> rfl
      have hxe : x ∈ es.toList ∧ x.born ∉ S := by
        unfold leftOf at f1
        rw [Array.toList_filter, List.mem_filter] at f1
        exact ⟨f1.1, by simpa using f1.2⟩
      have left := leftE_ok seen hmr
      obtain ⟨ka, qa, ba, m1, m2, m3, m4⟩ := left.mem x (List.mem_filter.2 ⟨hxe.1, by
        simp only [Bool.not_eq_true', List.contains_eq_mem, decide_eq_false_iff_not]
        exact fun hc => hxe.2 (hseen _ hc)⟩)
      obtain ⟨env', r1, r2⟩ := allRounds_mem rounds _ m1
      obtain ⟨_, r3⟩ := ite_some.1 (show ite' (isPtr r (getT env0 i)) (bnd (setT env0 t1 (.tup [.bool true, ka, qa])) fun env => bnd2 (regionE P F K ih M.ops1.toList l1 env hX.frz) fun env h => onBool (opd P M.c env) (ite' (isPtr r (getT env i)) (bnd (setT env t3 (.tup [ka, qa])) fun env => bnd2 (regionE P F K ih M.ops3.toList l3 env h) fun env h => bnd2 (runB P F K ih 100 M.rest env h) fun env _ => some env)) none) = some env' from r1)
      obtain ⟨env1, r4, r5⟩ := bnd_some.1 r3
      obtain ⟨env2, h2, r6, r7⟩ := bnd2_some.1 r5
      obtain ⟨tc, r8, r9⟩ := onBool_tE r7
      cases tc with
      | false => cases r9
      | true =>
        obtain ⟨r10, r11⟩ := ite_some.1 (show ite' (isPtr r (getT env2 i)) (bnd (setT env2 t3 (.tup [ka, qa])) fun env => bnd2 (regionE P F K ih M.ops3.toList l3 env h2) fun env h => bnd2 (runB P F K ih 100 M.rest env h) fun env _ => some env) = some env' from r9)
        obtain ⟨env3, r12, r13⟩ := bnd_some.1 r11
        obtain ⟨env4, h4, r14, r15⟩ := bnd2_some.1 r13
        obtain ⟨env5, h5, r16, r17⟩ := bnd2_some.1 r15
        cases r17
        have hset := setBlock_at (w := w1) (b := p.b) (x := .mapIter (some pm.b) since (S.push x.born) c) (by rw [hw1, hit]; rfl)
        have hh2 : HR σ N ρ hX (ChangeMaps.setBlock w1 p.b (.mapIter (some pm.b) since (S.push x.born) c)) := hh.beside ne fun b hb => (hset.2.1 b hb).trans (hw1 b)
        obtain ⟨a2, w2, ρ2, s1, k1, k2, k3, k4⟩ := first (hexec f3) (x := .tup [.bool true, ka, qa]) ⟨#[.bool true, x.key, x.val], rfl, _, _, rfl, rfl, _, _, rfl, m2, _, _, rfl, m3, rfl⟩ r4 hh2.frz r6
        have still : ∀ b, b < w.heap.size → w2.heap[b]? = (ChangeMaps.setBlock w1 p.b (.mapIter (some pm.b) since (S.push x.born) c)).heap[b]? := fun b hb => k2.block b (by rw [hset.2.2, hw1s]; exact hb) frz_owns
        have hpl := (Array.getElem?_eq_some_iff.1 hit).1
        have hml := (Array.getElem?_eq_some_iff.1 hmap).1
        have it2 := (still _ hpl).trans hset.1
        have map2 : w2.heap[pm.b]? = some (.map es c) := (still _ hml).trans ((hset.2.1 _ (Ne.symm hne)).trans ((hw1 _).trans hmap))
        have hv : a2.eval M.c = .bool true := opd_ok (fun g hgl => k1.glob g (hN ▸ hgl)) k3 r8
        have hiv2 : a2.eval (.tmp i) = .pointer (some ⟨p.b, 0, none⟩) := by
          obtain ⟨_, p', g1, g2⟩ := k3 i _ (isPtr_some r10)
          rw [k2.rho _ _ hp] at g1; cases g1
          rw [eval_tmp, g2, hp0]
        have hent : (execOp a2.eval o3).run P w2 = .ok (.value (.tuple #[x.key, x.val])) w2 := by
          simp only [execOp, e2]
          rw [hiv2, Sem.run_bind, run_entry_at w2 p.b pm.b since S es c x it2 map2 hxe.1 hnd]; rfl
        have her := k3.put (d := some t3) (x := .tup [ka, qa]) (u := .tuple #[x.key, x.val]) ⟨#[x.key, x.val], rfl, _, _, rfl, VR.mono k2.rho _ m2, _, _, rfl, VR.mono k2.rho _ m3, rfl⟩ r12
        have hl : Leads' P σ N (.region i3 M.ops3 false) ρ2 h2 w2 a2 w2 env4 h4 := Leads'.region k4 (wp_region_list (by
          rw [h3]
          unfold wpList
          rw [wanted_plain e3 a2, if_pos rfl]
          left
          refine wp_val hent ?_
          rw [e1]
          exact regionE_ok hF hK hr hσ hN l3 env3 h2 ρ2 _ w2 r14 k1 (St.refl _ _ _) her (put_defers ..)))
        obtain ⟨a4, w4, ρ4, s4, q1, q2, q3, q4⟩ := hl (.code M.rest :: .inBlock i2 :: .inLoop bd :: k) bfr cs
        obtain ⟨a5, w5, ρ5, s5, u1, u2, u3, u4⟩ := runB_ok hF hK hr hσ hN 100 M.rest r16 q1 q3 q4 (.inBlock i2 :: .inLoop bd :: k) bfr cs
        have all := (k2.trans q2).trans u2
        have still5 : ∀ b, b < w.heap.size → w5.heap[b]? = (ChangeMaps.setBlock w1 p.b (.mapIter (some pm.b) since (S.push x.born) c)).heap[b]? := fun b hb => all.block b (by rw [hset.2.2, hw1s]; exact hb) frz_owns
        have hsz2 : w.heap.size ≤ w5.heap.size := by have := all.size; rw [hset.2.2, hw1s] at this; exact this
        have hh5 : HR σ N ρ hX w5 := { live := fun q row g => let ⟨p', g1, g2⟩ := hh2.live q row g; ⟨p', g1, g2.mono (Sub.refl _) (all.block _ g2.lt frz_owns)⟩, new := hh2.new, sep := hh2.sep, old := hh2.old, rels := hh2.rels, glob := hh2.glob }
        have hos : w1.os = w.os ∧ w1.tape = w.tape ∧ w1.output = w.output := by rcases f2 with rfl | rfl <;> exact ⟨rfl, rfl, rfl⟩
        have st5 : St ρ h w0 ρ hX w5 := ⟨all.os.trans (hos.1.trans st.os), all.tape.trans (hos.2.1.trans st.tape), all.output.trans (hos.2.2.trans st.output), Nat.le_trans st.size hsz2, fun b hb hno => by
            have hbp : b ≠ p.b := fun e => hno (e ▸ hown)
            have hbw := Nat.lt_of_lt_of_le hb st.size
            exact (still5 b hbw).trans ((hset.2.1 b hbp).trans ((hw1 b).trans (st.block b hb hno))), st.rho, fun b hb ho => st.owns b hb ho, st.nx, fun q row p' g1 g2 => st.dom q row p' g1 g2, st.ids, st.rel, st.fresh⟩
        obtain ⟨a', w', ρ', T', u, q5, q6⟩ := mapRun_go hF hK hr hσ hN hM h1 hn h3 hen hp hp0 hne hown ne hmr hall hnd hsc rounds hptr ex1 ex2 ex3 ex4 ex5 bfr cs n (S.push x.born) c a5 w5
          (by have := left_push f1; omega) (fun b hb => Array.mem_push.2 (.inl (hseen b hb))) hsc ((still5 _ hpl).trans hset.1) ((still5 _ hml).trans ((hset.2.1 _ (Ne.symm hne)).trans ((hw1 _).trans hmap))) hh5 st5 (ER.weak (all.rho) r2 he u3) u4
        refine ⟨a', w', ρ', T', u, s1.trans (.head (step_cond hv) (.head step_skip ?_)), q6⟩
        rw [hbody]
        exact .head step_block (.head step_seq (s4.trans (s5.trans (.head step_inBlock (.head step_inLoop q5)))))

theorem sub_st {hX : H} (hn : hX.nx = h.nx) (hs : ∀ q row, hX.get q = some row → h.get q = some row) : St ρ h w ρ hX w :=
  ⟨rfl, rfl, rfl, Nat.le_refl _, fun _ _ _ => rfl, Sub.refl _, fun _ _ ⟨q, row, p, g1, g2⟩ => ⟨q, row, p, hs _ _ g1, g2⟩, by rw [hn]; exact Nat.le_refl _, fun q row p g1 g2 => .inl ⟨row, hs _ _ g1, g2⟩, fun q row g1 => .inl ⟨row, hs _ _ g1⟩, fun q row x g1 g2 => .inr (.inr ⟨q, row, hs _ _ g1, g2⟩), fun _ _ h => h⟩

theorem mapLoop_ok {F : Facts} (hF : FactsOk P σ F) {K : Known} (hK : KOk P σ N K) {ih : Run} (hr : RunOk P σ N ih) (hσ : ∀ i, (σ i).oneCell' = true) (hN : N = P.globals.size) {fn : Func} {bd : Code} {k : List Item} {env : Env} {out : Out} (e : mapLoop P F K ih fn bd k env h = some out) (eo : out = some (v, h')) (hh : HR σ N ρ h w) (he : ER σ ρ env a.tmps) (hd : a.defers = []) (b : Frame) (cs : List Frame) : Goes P σ N fn (.code (.loop bd) :: k) h v h' ρ a w b cs := by
  obtain ⟨M, hM, y1⟩ := bnd_some.1 e
  obtain ⟨o1, l1, h1, y2⟩ := bnd2_some.1 y1
  obtain ⟨t1, i, hn, y3⟩ := bnd2_some.1 y2
  obtain ⟨o3, l3, h3, y4⟩ := bnd2_some.1 y3
  obtain ⟨t3, j, hen, y5⟩ := bnd2_some.1 y4
  obtain ⟨hij, y6⟩ := ite_some.1 y5
  have hij := Nat.eq_of_beq_eq_true hij
  subst hij
  obtain ⟨x, hx, y7⟩ := bnd_some.1 y6
  obtain ⟨r, o, rfl, y8⟩ := onPtr_some y7
  obtain ⟨ho, y9⟩ := ite_some.1 y8
  have ho := Nat.eq_of_beq_eq_true ho
  subst ho
  obtain ⟨m, since, seen, last, g1, y10⟩ := onIter_some y9
  obtain ⟨l, c, g2, y11⟩ := onMap_some y10
  obtain ⟨e1, L, _, y12⟩ := bnd2_some.1 y11
  obtain ⟨_, _, y13⟩ := bnd_some.1 y12
  have y13 := Option.some.inj y13
  clear e y1 y2 y3 y4 y5 y6 y7 y8 y9 y10 y11 y12
  rw [← y13] at eo
  obtain ⟨z1, z2⟩ := ite_some.1 (show ite' (both (Nat.ble since last) (both (Nat.ble since c) (both (allBelow since l) (bornOk c l)))) (bnd (h.put r none) fun hX => bnd (mapRound P F K ih M r i t1 t3 l1 l3 hX.frz env e1) fun env1 =>
    (fun env0 => ite' (both (weakE env env0) (allRounds P F K ih M r i t1 t3 l1 l3 hX.frz env0 (leftE seen l)))
      (ite' (isPtr r (getT env0 i)) (bnd (setT env0 t1 (.tup [.bool false])) fun envx => bnd2 (regionE P F K ih M.ops1.toList l1 envx hX) fun envx hx => onBool (opd P M.c envx) none (bnd (exitTo M.e (.code M.body :: .inLoop bd :: k)) fun k' => ih fn k' envx hx)))) (joinE env env1)) = some (v, h') from eo)
  obtain ⟨c1, z3⟩ := both_true z1
  obtain ⟨c2, z4⟩ := both_true z3
  obtain ⟨c3, c4⟩ := both_true z4
  obtain ⟨hX, p1, z5⟩ := bnd_some.1 z2
  obtain ⟨env1, _, z6⟩ := bnd_some.1 z5
  have z6 := z6
  generalize joinE env env1 = env0 at z6
  obtain ⟨z7, z8⟩ := ite_some.1 (show ite' (both (weakE env env0) (allRounds P F K ih M r i t1 t3 l1 l3 hX.frz env0 (leftE seen l))) (ite' (isPtr r (getT env0 i)) (bnd (setT env0 t1 (.tup [.bool false])) fun envx => bnd2 (regionE P F K ih M.ops1.toList l1 envx hX) fun envx hx => onBool (opd P M.c envx) none (bnd (exitTo M.e (.code M.body :: .inLoop bd :: k)) fun k' => ih fn k' envx hx))) = some (v, h') from z6)
  obtain ⟨q1, q2⟩ := both_true z7
  obtain ⟨q3, z9⟩ := ite_some.1 z8
  obtain ⟨envx, q4, z10⟩ := bnd_some.1 z9
  obtain ⟨envx', hx', q5, z11⟩ := bnd2_some.1 z10
  obtain ⟨tb, q6, z12⟩ := onBool_tE z11
  cases tb with
  | true => cases z12
  | false =>
    obtain ⟨k', q7, q8⟩ := bnd_some.1 z12
    obtain ⟨pn, pg⟩ := put_some p1
    have hsub : ∀ q row, hX.get q = some row → h.get q = some row := fun q row g => by
      rw [pg] at g
      split at g
      · cases g
      · exact g
    have hnr : ∀ q row, hX.get q = some row → q ≠ r := fun q row g hq => by rw [pg, if_pos hq] at g; cases g
    obtain ⟨p, k1, k2, pm, k3, k4⟩ := hh.live r _ g1
    obtain ⟨pm', k5, es, k6, k7⟩ := hh.live m _ g2
    rw [k3] at k5; cases k5
    obtain ⟨b1, b2⟩ := bornOk_ok k7 c4
    have hrm : r ≠ m := fun e => by rw [e, g2] at g1; cases g1
    have hne : p.b ≠ pm.b := hh.sep r m _ _ p pm g1 g2 hrm (fun hc => by cases hc) (fun hc => by cases hc) k1 k3
    obtain ⟨a', w', ρ', T', u, s1, s2⟩ := mapRun_go (P := P) (σ := σ) (N := N) (ρ := ρ) (h := h) hF hK hr hσ hN (seen := seen) hM (uncons_some h1) hn (uncons_some h3) hen k1 k2 hne ⟨r, _, p, g1, rfl, k1, rfl⟩
      (fun q row p' g4 g5 => by
        refine hh.sep q r row _ p' p (hsub _ _ g4) g1 (hnr _ _ g4) (fun hc => ?_) (fun hc => by cases hc) g5 k1
        have := hh.old q r row _ (hsub _ _ g4) hc g1
        cases this)
      k7 (allBelow_ok k7 c3) b2 (Nat.le_of_ble_eq_true c2) q2 (isPtr_some q3) q4 q5 q6 q7 q8 b cs _ seen.reverse.toArray last a w (Nat.lt_succ_self _) (fun x hx => by simpa using hx) (Nat.le_of_ble_eq_true c1) k4 k6
      (hh.weak pn fun q row g => ⟨row, hsub _ _ g, fun _ k => k, id, fun _ k => k, fun _ k1 k2 => absurd k1 k2⟩) (sub_st pn hsub) (he.weak0 q1) hd
    exact ⟨a', w', ρ', T', u, .head step_loop s1, s2⟩

/-! ### A select of one case, with a default -/

theorem selOf_some {o : Oper} {c : SelectCase} (e : selOf o = some c) : o.op = .select #[c] false ∧ o.guard = none := by
  unfold selOf at e
  split at e
  · cases e; exact ⟨rfl, rfl⟩
  · cases e
theorem onChanV_some {R : Type} {x : AV} {k : Nat → Option R} {y : R} (e : onChanV x k = some y) : ∃ r, x = .chan r ∧ k r = some y := by
  unfold onChanV at e
  split at e
  · exact ⟨_, rfl, e⟩
  · cases e
theorem comm_step {o : Oper} {ops : Array Oper} {i : Nat} {rest : List Nat} {b : Frame} {k : List Item} {cs : List Frame} {cases : Array CommCase} (ho : ops[i]? = some o) (hg : o.guard = none) (e : (execOp a.eval o).run P w = .ok (.comm cases false .select) w) :
    ∃ es, stepG P true (Conc.G (b.at a (.inRegion ops (i :: rest) :: k)) cs) w = .comm (Conc.G (b.at a (.inRegion ops (i :: rest) :: k)) cs) cases false .select w es := by
  have hgo := stepG_op (P := P) (b := b) (a := a) (k := k) (cs := cs) (w := w) (rest := rest) ho (wanted_plain hg a)
  have ha : ∃ es, stepG.apply P true (b.at a (.inRegion ops (i :: rest) :: k)) cs none (execOp a.eval o) w = .comm (Conc.G (b.at a (.inRegion ops (i :: rest) :: k)) cs) cases false .select w es := by
    simp only [stepG.apply, Sem.runT_eq, e, if_true]
    exact ⟨_, rfl⟩
  obtain ⟨es, ha⟩ := ha
  exact ⟨es, hgo.trans ha⟩
theorem app_one (l : List AV) (x : AV) : app l [x] = some (l ++ [x]) := app_eq l [x]
theorem LR.snoc {l : List AV} {m : List Value} {x : AV} {u : Value} (h : LR σ ρ l m) (hx : VR σ ρ x u) : LR σ ρ (l ++ [x]) (m ++ [u]) := h.append ⟨u, [], rfl, hx, rfl⟩

theorem selReg_ok {F : Facts} (hF : FactsOk P σ F) {K : Known} (hK : KOk P σ N K) {ih : Run} (hr : RunOk P σ N ih) (hσ : ∀ i, (σ i).oneCell' = true) (hN : N = P.globals.size) {fn : Func} {id : Nat} {ops : Array Oper} {k : List Item} {env : Env} {out : Out} (e : selReg P F K ih fn ops k env h = some out) (eo : out = some (v, h')) (hh : HR σ N ρ h w) (he : ER σ ρ env a.tmps) (hd : a.defers = []) (b : Frame) (cs : List Frame) : Goes P σ N fn (.code (.region id ops false) :: k) h v h' ρ a w b cs := by
  obtain ⟨o, l, h1, y1⟩ := bnd2_some.1 e
  obtain ⟨c, h2, y2⟩ := bnd_some.1 y1
  have y2 := Option.some.inj y2
  clear e y1
  rw [← y2] at eo
  obtain ⟨x, hs, h3, y3⟩ := bnd2_some.1 eo
  obtain ⟨env', h4, y4⟩ := bnd_some.1 y3
  have h1 := uncons_some h1
  obtain ⟨h5, h6⟩ := selOf_some h2
  have hg : Glo P ρ := fun g hgl => hh.glob g (hN ▸ hgl)
  have ho : ops[0]? = some o := by
    have : ops.toList[0]? = some o := by rw [h1]; rfl
    simpa using this
  have hrange : List.range ops.size = 0 :: List.range' 1 l.length := by
    rw [← Array.length_toList, h1, List.range_eq_range']; rfl
  have fin : ∀ u, (b.at a (.inRegion ops (0 :: List.range' 1 l.length) :: k)).finish u = b.at (a.put o.dst u) (.inRegion ops (List.range' 1 l.length) :: k) := fun u => by
    rw [Frame.finish_at, ho]; rfl
  have go : ∀ {u : Value} {w' : World}, step P (Conc.solo (Conc.G (b.at a (.inRegion ops (0 :: List.range' 1 l.length) :: k)) cs) w) = .next (Conc.solo (Conc.G ((b.at a (.inRegion ops (0 :: List.range' 1 l.length) :: k)).finish u) cs) w') → HR σ N ρ hs w' → St ρ h w ρ hs w' → VR σ ρ x u → Goes P σ N fn (.code (.region id ops false) :: k) h v h' ρ a w b cs := fun {u w'} s1 s2 s3 s4 => by
    rw [fin] at s1
    have her := he.put s4 h4
    have hwp := region_ok hF hK hr hσ hN (ops := ops) l env' hs ρ (a.put o.dst u) w' y4 s2 s3 her (put_defers ..)
    rw [← wpOps_eq_wpList l 1 (fun j => by
      have : ops.toList[1 + j]? = l[j]? := by rw [h1, Nat.add_comm]; rfl
      rw [← this]; simp)] at hwp
    obtain ⟨e', a1, w1, ⟨rfl, ρ1, env1, hh1, k1, k2, k3, k4, k5⟩, harr⟩ := wp_ops _ _ _ hwp b k cs
    obtain ⟨a', w2, ρ', T', u', q1, q2, q3, q4, q5, q6⟩ := hr fn k env1 hh1 v h' k1 ρ1 a1 w1 b cs k2 k4 (k5.trans hd)
    refine ⟨a', w2, ρ', T', u', .head step_region ?_, q2, q3, q4, k3.trans q5, q6⟩
    rw [hrange]
    exact .head s1 (Steps.trans harr q1)
  obtain ⟨ch, y5, y6⟩ := bnd_some.1 h3
  obtain ⟨z, y7, y8⟩ := bnd_some.1 y6
  obtain ⟨r, rfl, y9⟩ := onChanV_some y8
  obtain ⟨cap, buf, y10, y11⟩ := onChan_some y9
  obtain ⟨zv, z1, z2⟩ := zeroOf_ok (P := P) (σ := σ) (ρ := ρ) y7
  obtain ⟨p, k1, k2⟩ := opd_ok hg he y5
  obtain ⟨p', k3, bs, ns, nr, k4, k5⟩ := hh.live r _ y10
  rw [k1] at k3; cases k3
  have hbl := k5.length
  cases hsend : c.send with
  | none =>
    rw [hsend] at y11
    have hex : (execOp a.eval o).run P w = .ok (.comm #[Conc.rcase p.b zv] false .select) w := by
      simp [execOp, h5, hsend, z2 w, k2, Conc.rcase, Result.andThen]
    cases buf with
    | nil =>
      cases (show some (AV.tup [.int .i64 (.negSucc 0), .bool false, z], h) = some (x, hs) from y11)
      have hb0 : bs = #[] := by
        apply Array.eq_empty_of_size_eq_zero; simpa using hbl
      subst hb0
      obtain ⟨es, hst⟩ := comm_step (rest := List.range' 1 l.length) (b := b) (k := k) (cs := cs) ho h6 hex
      exact go (Conc.step_lone_select_default hst k4) hh (St.refl _ _ _) ⟨_, rfl, _, _, rfl, rfl, _, _, rfl, rfl, _, _, rfl, z1, rfl⟩
    | cons y rest =>
      obtain ⟨h2', p1, y12⟩ := bnd_some.1 (show bnd (h.put r (some (.chan cap rest))) (fun h => some (AV.tup [.int .i64 (.ofNat 0), .bool true, y], h)) = some (x, hs) from y11)
      cases y12
      obtain ⟨es, hst⟩ := comm_step (rest := List.range' 1 l.length) (b := b) (k := k) (cs := cs) ho h6 hex
      obtain ⟨u, m, m1, m2, m3⟩ := k5
      have hbs : bs.getD 0 undef = u := by
        have : bs.toList[0]? = some u := by rw [m1]; rfl
        have : bs[0]? = some u := by simpa using this
        rw [Array.getD_eq_getD_getElem?, this]; rfl
      have hex2 : (bs.extract 1 bs.size).toList = m := by
        rw [Array.toList_extract, m1]; simp
        have : bs.size = m.length + 1 := by rw [← Array.length_toList, m1]; rfl
        rw [this]; simp
      obtain ⟨t1, t2⟩ := map_turn (x := .chan cap (bs.extract 1 bs.size) false ns (nr + 1) false) hh y10 rfl rfl rfl k1 k4 p1 ⟨_, _, _, withObj_at k4, by rw [hex2]; exact m3⟩
      exact go (Conc.step_lone_select_recv_buf hst k4 (by rw [← Array.length_toList, m1]; simp)) t1 t2 ⟨_, rfl, _, _, rfl, rfl, _, _, rfl, rfl, _, _, rfl, hbs ▸ m2, rfl⟩
  | some y =>
    rw [hsend] at y11
    obtain ⟨xv, y12, y13⟩ := bnd_some.1 (show bnd (opd P y env) (fun v => (Bool.rec (some (.tup [.int .i64 (.negSucc 0), .bool false], h)) (bnd (app buf [v]) fun buf' => bnd (h.put r (some (.chan cap buf'))) fun h => some (.tup [.int .i64 (.ofNat 0), .bool false], h)) (Nat.ble (Nat.succ (len buf)) cap) : Out)) = some (x, hs) from y11)
    have hxv := opd_ok hg he y12
    have hex : (execOp a.eval o).run P w = .ok (.comm #[Conc.scase p.b (a.eval y) zv] false .select) w := by
      simp [execOp, h5, hsend, z2 w, k2, Conc.scase, Result.andThen]
    obtain ⟨es, hst⟩ := comm_step (rest := List.range' 1 l.length) (b := b) (k := k) (cs := cs) ho h6 hex
    cases hroom : Nat.ble (Nat.succ (len buf)) cap with
    | false =>
      rw [hroom] at y13
      cases (show some (AV.tup [.int .i64 (.negSucc 0), .bool false], h) = some (x, hs) from y13)
      have hfull : cap ≤ bs.size := by
        rw [len_eq] at hroom
        have : ¬ buf.length + 1 ≤ cap := fun hc => by rw [Nat.ble_eq_true_of_le hc] at hroom; cases hroom
        have : bs.size = buf.length := by rw [← Array.length_toList]; exact hbl
        omega
      exact go (Conc.step_lone_select_send_full hst k4 hfull) hh (St.refl _ _ _) ⟨_, rfl, _, _, rfl, rfl, _, _, rfl, rfl, rfl⟩
    | true =>
      rw [hroom] at y13
      obtain ⟨buf', y14, y15⟩ := bnd_some.1 (show bnd (app buf [xv]) (fun buf' => bnd (h.put r (some (.chan cap buf'))) fun h => some (AV.tup [.int .i64 (.ofNat 0), .bool false], h)) = some (x, hs) from y13)
      obtain ⟨h2', p1, y16⟩ := bnd_some.1 y15
      cases y16
      rw [app_one] at y14
      cases y14
      have hroom' : bs.size < cap := by
        rw [len_eq] at hroom
        have := Nat.le_of_ble_eq_true hroom
        have : bs.size = buf.length := by rw [← Array.length_toList]; exact hbl
        omega
      obtain ⟨t1, t2⟩ := map_turn (x := .chan cap (bs.push (a.eval y)) false (ns + 1) nr false) hh y10 rfl rfl rfl k1 k4 p1 ⟨_, _, _, withObj_at k4, by rw [Array.toList_push]; exact k5.snoc hxv⟩
      exact go (Conc.step_lone_select_send_room hst k4 hroom') t1 t2 ⟨_, rfl, _, _, rfl, rfl, _, _, rfl, rfl, rfl⟩
end
end Go.Exe
/- Control, whole. -/
namespace Go.Exe
open Go

section
variable {P : Program} {σ : Sig} {N : Nat}

theorem go_ok {F : Facts} (hF : FactsOk P σ F) {K : Known} (hK : KOk P σ N K) {ih : Run} (hr : RunOk P σ N ih) (hD : DrawOk P σ N F K ih) (hσ : ∀ i, (σ i).oneCell' = true) (hN : N = P.globals.size) : RunOk P σ N (go P F K ih) := by
  intro fn T env h v h' e ρ a w b cs hh he hd
  have next : ∀ {T1 : List Item}, ih fn T1 env h = some (v, h') → Goes P σ N fn T1 h v h' ρ a w b cs := fun e => hr fn _ env h v h' e ρ a w b cs hh he hd
  show Goes P σ N fn T h v h' ρ a w b cs
  match T, e with
  | [], e => exact Goes.fin step_end e hh he hd
  | .inBlock _ :: k, e => exact .head step_inBlock (next e)
  | .inScope _ :: k, e => exact .head pstep_inScope' (next e)
  | .inLoop _ :: k, e => exact .head step_inLoop (next e)
  | .inRegion _ _ :: k, e => exact nomatch e
  | .code c :: k, e =>
    have e : goCode P F K ih fn c k env h = some (v, h') := e
    match c, e with
    | .skip, e => exact .head step_skip (next e)
    | .label _, e => exact .head step_label (next e)
    | .seq _ _, e => exact .head step_seq (next e)
    | .cond c x y, e =>
      obtain ⟨t, h1, h2⟩ := onBool_t (show onBool (opd P c env) (ih fn (.code x :: k) env h) (ih fn (.code y :: k) env h) = some (v, h') from e)
      have hv : a.eval c = .bool t := opd_ok (fun g hgl => hh.glob g (hN ▸ hgl)) he h1
      refine .head (step_cond hv) (next ?_)
      cases t <;> exact h2
    | .block _ _, e => exact .head step_block (next e)
    | .loop bd, e =>
      have e : Option.rec (motive := fun _ => Out) (ih fn (.code bd :: .inLoop bd :: k) env h) (fun x => x) (mapLoop P F K ih fn bd k env h) = some (v, h') := e
      cases hm : mapLoop P F K ih fn bd k env h with
      | none => rw [hm] at e; exact .head step_loop (next e)
      | some out => rw [hm] at e; exact mapLoop_ok hF hK hr hσ hN hm e hh he hd b cs
    | .scope _, e => exact .head pstep_scope' (next e)
    | .exit id, e =>
      obtain ⟨k', h1, h2⟩ := bnd_some.1 (show bnd (exitTo id k) (fun k => ih fn k env h) = some (v, h') from e)
      exact .head (step_exit h1) (next h2)
    | .goto l, e =>
      obtain ⟨k', h1, h2⟩ := bnd_some.1 (show bnd (gotoIn l k) (fun k => ih fn k env h) = some (v, h') from e)
      exact .head (step_goto h1) (next h2)
    | .ret, e => exact Goes.fin step_ret e hh he hd
    | .region id ops dr, e =>
      cases dr with
      | false =>
        have e : Option.rec (motive := fun _ => Out) (region P F K ih ops.toList ops.toList env h fun env h => ih fn k env h) (fun x => x) (selReg P F K ih fn ops k env h) = some (v, h') := e
        cases hm : selReg P F K ih fn ops k env h with
        | none => rw [hm] at e; exact Goes.region hr hd (wp_region_list (region_ok hF hK hr hσ hN ops.toList env h ρ a w e hh (St.refl _ _ _) he rfl)) b cs
        | some out => rw [hm] at e; exact selReg_ok hF hK hr hσ hN hm e hh he hd b cs
      | true => exact Goes.region hr hd (hD id ops env h _ _ ρ a w e hh he) b cs
    | .rangeFunc .., e => exact nomatch e
    | .refuse _, e => exact nomatch e

theorem run_ok {F : Facts} (hF : FactsOk P σ F) {K : Known} (hK : KOk P σ N K) (hD : ∀ ih, RunOk P σ N ih → DrawOk P σ N F K ih) (hσ : ∀ i, (σ i).oneCell' = true) (hN : N = P.globals.size) : ∀ n, RunOk P σ N (run P F K n)
  | 0 => fun _ _ _ _ _ _ e => nomatch e
  | n + 1 => go_ok hF hK (run_ok hF hK hD hσ hN n) (hD _ (run_ok hF hK hD hσ hN n)) hσ hN
end
end Go.Exe
