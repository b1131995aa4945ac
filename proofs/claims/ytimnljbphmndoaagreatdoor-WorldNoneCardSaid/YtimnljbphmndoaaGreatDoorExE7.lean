/- A row that turns; bytes seen as a string. -/
import Derived.Test.YtimnljbphmndoaaGreatDoorExE6
namespace Go.Exe
open Go

section
variable {P : Program} {σ : Sig} {N : Nat} {ρ : Rho} {h h' : H} {w w' : World} {o : Oper} {a : Act} {v : AV}

/-- A row that may be written turns in its block. -/
theorem HR.turn (hh : HR σ N ρ h w) {r : Nat} {row row' : Row} {p : Pl} (hp : ρ r = some p) (hr : h.get r = some row) (hw : wrOf row = true) (hg : ∀ q, h'.get q = if q = r then some row' else if q ∈ relOf row then none else h.get q) (hnx : h'.nx = h.nx) (hrel : relOf row' = [])
    (e1 : w'.os = w.os ∧ w'.tape = w.tape ∧ w'.output = w.output) (hsz : w'.heap.size = w.heap.size) (hb : ∀ b, b ≠ p.b → w'.heap[b]? = w.heap[b]?) (hrow : RowR σ ρ w' p row') : HR σ N ρ h' w' ∧ St ρ h w ρ h' w' := by
  have other : ∀ q row0, h'.get q = some row0 → q ≠ r → h.get q = some row0 ∧ q ∉ relOf row := fun q row0 e h2 => by
    rw [hg, if_neg h2] at e
    split at e
    · cases e
    · exact ⟨e, ‹_›⟩
  have apart : ∀ q row0 pq, h'.get q = some row0 → q ≠ r → ρ q = some pq → pq.b ≠ p.b := fun q row0 pq e h2 hpq => by
    obtain ⟨k1, k2⟩ := other q row0 e h2
    have h3 : r ∉ relOf row0 := fun hc => by
      have := hh.old q r row0 row k1 hc hr
      rw [hw] at this; cases this
    exact fun hb => hh.sep r q row row0 p pq hr k1 (Ne.symm h2) k2 h3 hp hpq hb.symm
  have getr : h'.get r = some row' := by rw [hg, if_pos rfl]
  have own : Owns ρ h p.b := ⟨r, row, p, hr, hw, hp, rfl⟩
  constructor
  · refine ⟨fun q row0 e => ?_, fun q hq => hh.new q (by omega), fun q q' row0 row1 pq pq' e1 e2 hqq hr1 hr2 hp1 hp2 => ?_, fun q q' row0 row1 e1 hq e2 => ?_, fun q q' row0 e1 hq => ?_, hh.glob⟩
    · by_cases h2 : q = r
      · subst h2; rw [getr] at e; cases e; exact ⟨p, hp, hrow⟩
      · obtain ⟨k1, _⟩ := other q row0 e h2
        obtain ⟨pq, k3, k4⟩ := hh.live q row0 k1
        exact ⟨pq, k3, k4.mono (Sub.refl _) (hb _ (apart q row0 pq e h2 k3))⟩
    · by_cases h1 : q = r
      · subst h1
        rw [hp] at hp1; cases hp1
        exact Ne.symm (apart q' row1 pq' e2 (Ne.symm hqq) hp2)
      · by_cases h2 : q' = r
        · subst h2
          rw [hp] at hp2; cases hp2
          exact apart q row0 pq e1 h1 hp1
        · exact hh.sep q q' row0 row1 pq pq' (other q row0 e1 h1).1 (other q' row1 e2 h2).1 hqq hr1 hr2 hp1 hp2
    · by_cases h1 : q = r
      · subst h1; rw [getr] at e1; cases e1; rw [hrel] at hq; cases hq
      · have k1 := (other q row0 e1 h1).1
        by_cases h4 : q' = r
        · subst h4
          have := hh.old q q' row0 row k1 hq hr
          rw [hw] at this; cases this
        · exact hh.old q q' row0 row1 k1 hq (other q' row1 e2 h4).1
    · by_cases h1 : q = r
      · subst h1; rw [getr] at e1; cases e1; rw [hrel] at hq; cases hq
      · exact hh.rels q q' row0 (other q row0 e1 h1).1 hq
  · refine ⟨e1.1, e1.2.1, e1.2.2, by rw [hsz]; exact Nat.le_refl _, fun b _ hnb => hb b fun hb' => hnb (hb' ▸ own), Sub.refl _, fun b _ ⟨q, row0, pq, e1, e2, e3, e4⟩ => ?_, by omega, fun q row0 pq e1 e2 => ?_, fun q row0 e1 => ?_, fun q row0 x e1 hx => ?_, fun _ _ h => h⟩
    · by_cases h2 : q = r
      · subst h2; rw [hp] at e3; cases e3; rw [← e4]; exact own
      · exact ⟨q, row0, pq, (other q row0 e1 h2).1, e2, e3, e4⟩
    · by_cases h2 : q = r
      · subst h2; exact .inl ⟨row, hr, e2⟩
      · exact .inl ⟨row0, (other q row0 e1 h2).1, e2⟩
    · by_cases h2 : q = r
      · subst h2; exact .inl ⟨row, hr⟩
      · exact .inl ⟨row0, (other q row0 e1 h2).1⟩
    · by_cases h2 : q = r
      · subst h2; rw [getr] at e1; cases e1; rw [hrel] at hx; cases hx
      · exact .inr (.inr ⟨q, row0, (other q row0 e1 h2).1, hx⟩)

theorem run_loadBytes (b : Nat) : ∀ (bs : List UInt8) (i : Nat) (acc : ByteArray) (w : World), (∀ j x, bs[j]? = some x → w.cell? ⟨b, i + j, none⟩ = some (.int .u8 (x.toNat : Nat))) → (loadBytes ⟨b, i, none⟩ acc bs.length).run P w = .ok ⟨acc.data ++ bs.toArray⟩ w
  | [], i, acc, w, _ => by simp [loadBytes]
  | x :: bs, i, acc, w, h => by
    have h0 := h 0 x rfl
    rw [Nat.add_zero] at h0
    have ih := run_loadBytes b bs (i + 1) (acc.push x) w fun j y e => by
      have := h (j + 1) y (by simpa using e)
      rwa [show i + (j + 1) = i + 1 + j by omega] at this
    have hx : (UInt8.ofNat x.toNat) = x := by simp
    simp only [List.length_cons, loadBytes, Sem.run_bind, run_load, h0, Result.andThen_ok, add_lit, Nat.toUInt8, Int.toNat_natCast, hx, ih]
    simp [ByteArray.push]

theorem pu8T_some {t : TypeId} (h : pu8T P t = true) : ∃ e, P.underlying t = some (.pointer e) ∧ P.underlying e = some (.int .u8) := by
  unfold pu8T at h
  split at h
  · exact ⟨_, ‹_›, u8T_some h⟩
  · cases h

theorem lies_bytes {e u : TypeId} (he : P.underlying e = some (.int .u8)) (hu : P.underlying u = some (.int .u8)) (hs : szOf P e = some 1) {count off n : Nat} (h : off + n ≤ count) : liesAt P P.depth e count off u n = true := by
  have hc : P.cellsOf e = 1 := by
    obtain ⟨i, h1, h2⟩ := bnd_some.1 hs
    have h1 : P.info? e = some i := h1
    have h2 : i.size = 1 := by injection h2
    simp [Program.cellsOf, h1, h2]
  have hd : P.depth = (P.depth - 1) + 1 := by simp only [Program.depth]; omega
  have hlay : sameLayout P P.depth e u = true := by
    rw [hd, sameLayout]
    simp [he, hu]
  have hrow : rowAt P (sameLayout P P.depth · u) P.depth e count off n = true := by
    rw [hd] at hlay ⊢
    rw [rowAt]
    simp [hc, h, hlay, Nat.mod_one]
  rw [hd] at hrow ⊢
  rw [liesAt]
  simp only [← hd] at hrow ⊢
  simp [hrow]

theorem unsafeString_def (pt it ty : TypeId) (a : Addr) (k : IntKind) (n : Int) : Builtin.unsafeString_ #[pt, it] ty #[.pointer (some a), .int k n] = (do
    let n ← asInt (.int k n)
    if n < 0 then runtimePanic (.error "unsafe.String: len out of range")
    if n > IntKind.i64.max then unsupported (.unsafePointer "String: a length above the largest int")
    if n = 0 then pure (.string .empty)
    else if ← variablesAt a (← elemOf pt) n.toNat then do
      let s ← loadBytes a .empty n.toNat
      freeze a n.toNat
      pure (.string s)
    else unsupported (.unsafePointer "String: not so many bytes at ptr")) := rfl

theorem unsafeStringO_ok (hh : HR σ N ρ h w) {t t2 : TypeId} {x1 x2 : AV} (e : unsafeStringO P t x1 x2 h = some (v, h')) {y1 y2 : Value} (hy1 : VR σ ρ x1 y1) (hy2 : VR σ ρ x2 y2) : Gives P σ N ρ h w (Builtin.unsafeString_ #[t, t2] o.type #[y1, y2]) v h' := by
  obtain ⟨k0, e1⟩ := ite_some.1 e
  obtain ⟨r, q, hx1, e2⟩ := onPtr_some e1
  obtain ⟨n, k1, e3⟩ := bnd_some.1 e2
  obtain ⟨k2, e4⟩ := ite_some.1 e3
  obtain ⟨kk, hx2⟩ := natOf_some k1
  subst hx1 hx2
  clear e e1 e2 e3
  have k2 : n ≤ 0xfffffff := Nat.le_of_ble_eq_true k2
  obtain ⟨el, ht, hel⟩ := pu8T_some k0
  obtain ⟨p, hp, rfl⟩ := hy1
  cases hy2
  have hmax : IntKind.i64.max = 9223372036854775807 := rfl
  have hn1 : ¬ ((n : Int) < 0) := by omega
  have hn3 : ¬ (9223372036854775807 : Int) < (n : Int) := by omega
  rw [beq_eq] at e4
  by_cases hn : n = 0
  · subst hn
    rw [decide_eq_true rfl] at e4
    cases e4
    exact ⟨ρ, .string .empty, w, by rw [unsafeString_def]; simp [asInt, asIntOf, hmax], hh, St.refl _ _ _, _, rfl, rfl, rfl⟩
  · rw [decide_eq_false hn] at e4
    obtain ⟨ty, sz, nn, tr, wr, rel, k3, e5⟩ := onCells_some (show (onCells (h.get r) fun e sz nn t wr rel => ite' (Nat.beq sz 1) (ite' wr (ite' (u8T P e) (bnd (szOf P e) fun s1 => ite' (Nat.beq s1 1) (bnd (elems t n q) fun ls => bnd (bytesOf ls) fun y => bnd (H.kills rel h) fun h => bnd (h.put r (some (.cells e sz nn t false []))) fun h => some (.str n y, h)))))) = some (v, h') from e4)
    obtain ⟨k4, e6⟩ := ite_some.1 e5
    obtain ⟨k5, e7⟩ := ite_some.1 e6
    obtain ⟨k6, e8⟩ := ite_some.1 e7
    obtain ⟨s1, k7, e9⟩ := bnd_some.1 e8
    obtain ⟨k8, e10⟩ := ite_some.1 e9
    obtain ⟨ls, k9, e11⟩ := bnd_some.1 e10
    obtain ⟨y, k10, e12⟩ := bnd_some.1 e11
    obtain ⟨h1, k11, e13⟩ := bnd_some.1 e12
    obtain ⟨h2, k12, e14⟩ := bnd_some.1 e13
    clear e4 e5 e6 e7 e8 e9 e10 e11 e12 e13
    have k4 : sz = 1 := Nat.eq_of_beq_eq_true k4
    have k8 : s1 = 1 := Nat.eq_of_beq_eq_true k8
    subst k4 k5 k8
    cases e14
    have he := u8T_some k6
    obtain ⟨p', hp', cs, fz, c1, c2, c3, c4⟩ := hh.live r _ k3
    rw [hp] at hp'; cases hp'
    obtain ⟨g1, g2⟩ := elems_some k9
    obtain ⟨bs, b1, b2, b3⟩ := bytesOf_some k10
    have hlen : ∀ l ∈ ls, l.length = 1 := fun l hl => by
      obtain ⟨j, hj, rfl⟩ := List.mem_iff_getElem.1 hl
      have := g2 j (by omega)
      rw [List.getElem?_eq_getElem hj] at this
      exact (c4 _ _ this).2.1
    have hcell : ∀ j x, bs[j]? = some x → cs[p.base + q + j]? = some (.int .u8 ((x.toNat : Nat) : Int)) := fun j x hx => by
      have hj : j < bs.length := (List.getElem?_eq_some_iff.1 hx).1
      have hjl : j < ls.length := by omega
      have e1 := g2 j (by omega)
      rw [List.getElem?_eq_getElem hjl] at e1
      obtain ⟨_, h3, h4, h5⟩ := c4 _ _ e1
      have e2 := flat_get hlen j _ (List.getElem?_eq_getElem hjl) 0 (by omega)
      rw [Nat.mul_one, Nat.add_zero, b3] at e2
      simp [hx] at e2
      obtain ⟨u, h6, h7⟩ := h5 0 _ e2.symm
      have h7 : u = .int .u8 ((x.toNat : Nat) : Int) := h7
      rw [h7] at h6
      rw [← h6]; congr 1; omega
    have hfit : p.base + q + n ≤ cs.size := by
      have := (Array.getElem?_eq_some_iff.1 (hcell (n - 1) (bs[n - 1]'(by omega)) (List.getElem?_eq_getElem _))).1
      omega
    have hload := run_loadBytes (P := P) p.b bs (p.base + q) .empty w fun j x e => by rw [cell_at c1]; exact hcell j x e
    rw [b1, g1, show (⟨ByteArray.empty.data ++ bs.toArray⟩ : ByteArray) = ⟨bs.toArray⟩ from congrArg ByteArray.mk (show (#[] : Array UInt8) ++ bs.toArray = bs.toArray by simp)] at hload
    have hvar : (variablesAt ⟨p.b, p.base + q, none⟩ el n).run P w = .ok true w := by
      have hsh : w.shape? p.b = some (ty, cs.size) := by simp [World.shape?, c1]
      have hc : P.cellsOf ty = 1 := by
        obtain ⟨i, h1, h2⟩ := bnd_some.1 k7
        have h1 : P.info? ty = some i := h1
        have h2 : i.size = 1 := by injection h2
        simp [Program.cellsOf, h1, h2]
      simp only [variablesAt, Sem.run_bind, run_program, Result.andThen_ok, run_shape, hsh, Sem.run_pure, hc, Nat.div_one]
      rw [lies_bytes he hel k7 hfit]
    have hfreeze : ∃ fz', (w.freeze ⟨p.b, p.base + q, none⟩ n).heap[p.b]? = some (.cells cs ty fz') := by
      obtain ⟨lo, hi⟩ := fz
      have hlt := (Array.getElem?_eq_some_iff.1 c1).1
      have hv := (Array.getElem?_eq_some_iff.1 c1).2
      refine ⟨if lo == hi then (p.base + q, p.base + q + n) else (min lo (p.base + q), max hi (p.base + q + n)), ?_⟩
      simp only [World.freeze, if_neg hn]
      rw [Array.getElem?_modify, c1]
      simp
    obtain ⟨fz', hfz'⟩ := hfreeze
    have hfo : ∀ b, b ≠ p.b → (w.freeze ⟨p.b, p.base + q, none⟩ n).heap[b]? = w.heap[b]? := fun b hb => by
      simp only [World.freeze, if_neg hn]
      rw [Array.getElem?_modify]
      simp [Ne.symm hb]
    have hfs : (w.freeze ⟨p.b, p.base + q, none⟩ n).heap.size = w.heap.size := by simp only [World.freeze, if_neg hn]; simp
    have hfe : (w.freeze ⟨p.b, p.base + q, none⟩ n).os = w.os ∧ (w.freeze ⟨p.b, p.base + q, none⟩ n).tape = w.tape ∧ (w.freeze ⟨p.b, p.base + q, none⟩ n).output = w.output := by simp only [World.freeze, if_neg hn, and_self]
    obtain ⟨a1, a2⟩ := kills_some k11
    obtain ⟨a3, a4⟩ := put_some k12
    obtain ⟨q1, q2⟩ := hh.turn (h' := h') hp k3 rfl (fun x => by rw [a4, a2]; rfl) (by rw [a3, a1]) rfl hfe hfs hfo (row' := .cells ty 1 nn tr false []) ⟨cs, fz', hfz', c2, ⟨c3.1, fun hc => nomatch hc⟩, c4⟩
    refine ⟨ρ, _, _, ?_, q1, q2, ⟨bs.toArray⟩, rfl, by simp [b1, g1], by simpa using b2⟩
    rw [unsafeString_def]
    simp [asInt, asIntOf, hmax, hn1, hn3, hn, elemOf, run_underlying ht, hvar, hload]
end
end Go.Exe
