/- Appends, copies. -/
import Derived.Test.YtimnljbphmndoaaGreatDoorExE2
import Derived.Deep.AppendSrc
import Derived.Laws.AppendOwn
namespace Go.Exe
open Go

section
variable {P : Program} {σ : Sig} {N : Nat} {ρ : Rho} {h h' : H} {w w' : World} {o : Oper} {a : Act} {v : AV}

theorem LR.split : ∀ {l l' : List AV} {m : List Value}, LR σ ρ (l ++ l') m → ∃ m1 m2, m = m1 ++ m2 ∧ LR σ ρ l m1 ∧ LR σ ρ l' m2
  | [], l', m, h => ⟨[], m, rfl, rfl, h⟩
  | x :: l, l', m, ⟨v, r, h1, h2, h3⟩ => by
    obtain ⟨m1, m2, rfl, k2, k3⟩ := LR.split h3
    exact ⟨v :: m1, m2, h1, ⟨v, m1, rfl, h2, k2⟩, k3⟩

theorem storeCells_shift (b : Nat) : ∀ (vs : List Value) (o i j : Nat), storeCells ⟨b, o, none⟩ vs (i + j) = storeCells ⟨b, o + i, none⟩ vs j
  | [], _, _, _ => rfl
  | v :: vs, o, i, j => by
    simp only [storeCells]
    rw [show i + j + 1 = i + (j + 1) by omega, storeCells_shift b vs o i (j + 1), add_lit, add_lit, Nat.add_assoc]
theorem run_storeCells_append (a : Addr) : ∀ (xs ys : List Value) (i : Nat) (w : World), (storeCells a (xs ++ ys) i).run P w = ((storeCells a xs i).run P w).andThen fun _ w' => (storeCells a ys (i + xs.length)).run P w'
  | [], ys, i, w => by simp [storeCells]
  | x :: xs, ys, i, w => by
    simp only [List.cons_append, storeCells, Sem.run_bind, List.length_cons]
    cases h : (Go.store (a.add i) x).run P w with
    | ok u w1 => simp only [Result.andThen_ok]; rw [run_storeCells_append a xs ys (i + 1) w1, show i + 1 + xs.length = i + (xs.length + 1) by omega]
    | halt _ _ => rfl

theorem storeL_ok (hσ : ∀ i, (σ i).oneCell' = true) {r s : Nat} {p : Pl} (hp : ρ r = some p) : ∀ {ls : List (List AV)} {o : Nat} {h h' : H} {w : World} {vs : List Value}, HR σ N ρ h w → storeL r s ls o h = some h' → FL σ ρ s ls vs →
    ∃ w', (storeCells ⟨p.b, p.base + o, none⟩ vs).run P w = .ok () w' ∧ HR σ N ρ h' w' ∧ St ρ h w ρ h' w'
  | [], o, h, h', w, vs, hh, e, hf => by
    cases e
    have : vs = [] := hf.lr
    subst this
    exact ⟨w, rfl, hh, St.refl _ _ _⟩
  | l :: ls, o, h, h', w, vs, hh, e, hf => by
    obtain ⟨h1, k1, e⟩ := bnd_some.1 (show bnd (storeH h r o l) (fun h => force (Nat.add o s) fun o => storeL r s ls o h) = some h' from e)
    rw [force_eq] at e
    have hlr := hf.lr
    rw [List.flatten_cons] at hlr
    obtain ⟨v1, v2, rfl, g1, g2⟩ := hlr.split
    obtain ⟨p', cs, ty, fz, q1, q2, q3, q4, q5, q6, q7, _⟩ := hh.wr hσ k1 (hf.one l (List.mem_cons_self ..)) P g1
    rw [hp] at q1; cases q1
    obtain ⟨w', r1, r2, r3⟩ := storeL_ok hσ hp q6 e ⟨fun x hx => hf.len x (List.mem_cons_of_mem _ hx), fun x hx => hf.one x (List.mem_cons_of_mem _ hx), g2⟩
    refine ⟨w', ?_, r2, q7.trans r3⟩
    have hl1 : v1.length = s := by rw [g1.length]; exact hf.len l (List.mem_cons_self ..)
    rw [run_storeCells_append, q3 _ rfl, Result.andThen_ok, hl1, show (0 + s) = s + 0 by omega, storeCells_shift, Nat.add_assoc]
    exact r1

theorem okE_some {e : TypeId} (h : okE P e = true) : ∃ i z, P.info? e = some i ∧ i.zero = some z ∧ z.cells.size = i.size ∧ i.bytes ≤ 0x7ffffff := by
  unfold okE at h
  split at h
  · rename_i i hi
    simp only [Bool.and_eq_true] at h
    obtain ⟨h1, h2⟩ := h
    split at h1
    · rename_i z hz
      exact ⟨i, z, hi, hz, by simpa using h1, Nat.le_of_ble_eq_true h2⟩
    · cases h1
  · cases h
theorem szOf_info {e : TypeId} {s : Nat} (h : szOf P e = some s) {i : TypeInfo} (hi : P.info? e = some i) : i.size = s := by
  obtain ⟨j, h1, h2⟩ := bnd_some.1 h
  have h1 : P.info? e = some j := h1
  rw [hi] at h1; cases h1; cases h2; rfl
theorem srcT_some {t : TypeId} (h : srcT P t = true) : (∃ e', P.underlying t = some (.slice e')) ∨ P.underlying t = some .string := by
  unfold srcT at h
  split at h
  · exact .inl ⟨_, ‹_›⟩
  · exact .inr ‹_›
  · cases h
theorem lenS_ok {x : AV} {k : Nat} (h : lenS x = some k) {y : Value} (hy : VR σ ρ x y) (w : World) : (Builtin.lenOf y).run P w = .ok k w := by
  unfold lenS at h
  split at h
  · cases h; obtain ⟨s, rfl, rfl, _⟩ := hy
    have e1 : s.size = s.data.toList.length := (Array.length_toList (xs := s.data)).symm
    show Result.ok s.size w = _
    rw [e1]
  · cases h; cases hy; simp [Builtin.lenOf]
  · cases h; obtain ⟨p, cap, off, _, rfl, _⟩ := hy; simp [Builtin.lenOf]
  · cases h

theorem src_ok (hσ : ∀ i, (σ i).oneCell' = true) (hh : HR σ N ρ h w) {tx : TypeId} (hs : srcT P tx = true) {x : AV} {k s : Nat} (hk : lenS x = some k) {ls : List (List AV)} (he : elemsOf s h x k = some ls) {y : Value} (hy : VR σ ρ x y) :
    ls.length = k ∧ ∃ vs, FL σ ρ s ls vs ∧ Src P s tx y k vs w := by
  obtain ⟨h1, vs, h2, h3⟩ := elemsOf_ok (P := P) hh he hy
  exact ⟨h1, vs, h2, srcT_some hs, lenS_ok hk hy, h3 w rfl, h3 w.drew rfl, by rw [h2.length, h1], h2.oneCell hσ⟩

theorem run_append_room' {t tx ty e : TypeId} {i : TypeInfo} (ht : P.underlying t = some (.slice e)) (hi : P.info? e = some i) {b off sLen sCap n : Nat} {x : Value} {news : List Value} (hs : Src P i.size tx x n news w) (hroom : sLen + n ≤ sCap)
    (hst : (storeCells ⟨b, off + sLen * i.size, none⟩ news).run P w = .ok () w') :
    (Builtin.append_ #[t, tx] ty #[.slice (some ⟨b, off, none⟩) sLen sCap, x]).run P w = .ok (.slice (some ⟨b, off, none⟩) (sLen + n) sCap) w' := by
  rcases hs.kind with ⟨e', hk⟩ | hk <;> simp [Builtin.append_, run_underlying ht, run_underlying hk, sizeOf, typeInfo, hi, hs.len, hroom, hs.cells, add_lit, hst]
theorem run_append_zero {t tx ty e : TypeId} {i : TypeInfo} (ht : P.underlying t = some (.slice e)) (hi : P.info? e = some i) {base : Option Addr} {sLen sCap : Nat} {x : Value} {news : List Value} (hs : Src P i.size tx x 0 news w) (hle : sLen ≤ sCap) :
    (Builtin.append_ #[t, tx] ty #[.slice base sLen sCap, x]).run P w = .ok (.slice base sLen sCap) w := by
  have h0 : news = [] := List.eq_nil_of_length_eq_zero (by simpa using hs.newsLen)
  subst h0
  have hst : ∀ b : Addr, (storeCells b []).run P w = .ok () w := fun b => by simp [storeCells]
  cases base <;> rcases hs.kind with ⟨e', hk⟩ | hk <;> simp [Builtin.append_, run_underlying ht, run_underlying hk, sizeOf, typeInfo, hi, hs.len, hs.cells, hst, hle]

/-- Less is known of memory: some rows are forgotten, some may not be written any more. -/
theorem HR.weak (hh : HR σ N ρ h w) {h1 : H} (hn : h1.nx = h.nx) (hs : ∀ q row, h1.get q = some row → ∃ row0, h.get q = some row0 ∧ (∀ p, RowR σ ρ w p row0 → RowR σ ρ w p row) ∧ (wrOf row = true → wrOf row0 = true) ∧ (∀ x, x ∈ relOf row → x ∈ relOf row0) ∧ ∀ x, x ∈ relOf row0 → x ∉ relOf row → h1.get x = none) : HR σ N ρ h1 w where
  live := fun r row e => by
    obtain ⟨row0, k1, k2, _⟩ := hs r row e
    obtain ⟨p, k3, k4⟩ := hh.live r row0 k1
    exact ⟨p, k3, k2 p k4⟩
  new := fun r hr => hh.new r (by rw [hn] at hr; exact hr)
  sep := fun r q row row' p p' e1 e2 hne h1' h2' => by
    obtain ⟨row0, k1, _, _, _, k2⟩ := hs r row e1
    obtain ⟨row1, k3, _, _, _, k4⟩ := hs q row' e2
    refine hh.sep r q row0 row1 p p' k1 k3 hne (fun hc => ?_) (fun hc => ?_)
    · have := k2 q hc h1'; rw [e2] at this; cases this
    · have := k4 r hc h2'; rw [e1] at this; cases this
  old := fun r q row row' e1 hq e2 => by
    obtain ⟨row0, k1, _, _, k2, _⟩ := hs r row e1
    obtain ⟨row1, k3, _, k4, _⟩ := hs q row' e2
    have := hh.old r q row0 row1 k1 (k2 q hq) k3
    cases hw : wrOf row' with
    | false => rfl
    | true => rw [k4 hw] at this; cases this
  rels := fun r q row e1 hq => by
    obtain ⟨row0, k1, _, _, k2, _⟩ := hs r row e1
    exact hh.rels r q row0 k1 (k2 q hq)
  glob := hh.glob

/-- A slice that grows in its place: the old row and the new one share the block. -/
theorem HR.alias (hh : HR σ N ρ h w) {r : Nat} {row : Row} {p : Pl} (hp : ρ r = some p) (hr : h.get r = some row) (hwr : wrOf row = true)
    {cs cs' : Array Value} {ty : TypeId} {fz : Nat × Nat} (_ : w.heap[p.b]? = some (.cells cs ty fz)) {rowo rown : Row} {p' : Pl} (hpb : p'.b = p.b) {h' : H} (hnx : h'.nx = h.nx + 1)
    (hg : ∀ q, h'.get q = if q = h.nx then some rown else if q = r then some rowo else if q ∈ relOf row then none else h.get q)
    (ho : ∀ ρ', Sub ρ ρ' → RowR σ ρ' (w.setRow p.b cs') p rowo) (hn : ∀ ρ', Sub ρ ρ' → RowR σ ρ' (w.setRow p.b cs') p' rown) (hro : relOf rowo = []) (hwo : wrOf rowo = false) (hrn : relOf rown = [r]) :
    HR σ N (upd ρ h.nx p') h' (w.setRow p.b cs') ∧ St ρ h w (upd ρ h.nx p') h' (w.setRow p.b cs') := by
  have hfree := hh.new h.nx (Nat.le_refl _)
  have sub := upd_sub hfree p'
  have hne : r ≠ h.nx := fun e => by rw [e, hfree] at hp; cases hp
  have upn : ∀ q pq, q ≠ h.nx → upd ρ h.nx p' q = some pq → ρ q = some pq := fun q pq hne e => by unfold upd at e; rw [if_neg hne] at e; exact e
  have other : ∀ q row0, h'.get q = some row0 → q ≠ h.nx → q ≠ r → h.get q = some row0 ∧ q ∉ relOf row := fun q row0 e h1 h2 => by
    rw [hg, if_neg h1, if_neg h2] at e
    split at e
    · cases e
    · exact ⟨e, ‹_›⟩
  have apart : ∀ q row0 pq, h'.get q = some row0 → q ≠ h.nx → q ≠ r → ρ q = some pq → pq.b ≠ p.b := fun q row0 pq e h1 h2 hpq => by
    obtain ⟨k1, k2⟩ := other q row0 e h1 h2
    have h3 : r ∉ relOf row0 := fun hc => by
      have := hh.old q r row0 row k1 hc hr
      rw [hwr] at this; cases this
    exact fun hb => hh.sep r q row row0 p pq hr k1 (Ne.symm h2) k2 h3 hp hpq hb.symm
  have getn : h'.get h.nx = some rown := by rw [hg, if_pos rfl]
  have geto : h'.get r = some rowo := by rw [hg, if_neg hne, if_pos rfl]
  constructor
  · refine ⟨fun q row0 e => ?_, fun q hq => ?_, fun q q' row0 row1 pq pq' e1 e2 hqq hr1 hr2 hp1 hp2 => ?_, fun q q' row0 row1 e1 hq e2 => ?_, fun q q' row0 e1 hq => ?_, fun g hgl => let ⟨z, e⟩ := hh.glob g hgl; ⟨z, sub _ _ e⟩⟩
    · by_cases h1 : q = h.nx
      · subst h1; rw [getn] at e; cases e; exact ⟨p', upd_same _ _ _, hn _ sub⟩
      · by_cases h2 : q = r
        · subst h2; rw [geto] at e; cases e; exact ⟨p, sub _ _ hp, ho _ sub⟩
        · obtain ⟨k1, _⟩ := other q row0 e h1 h2
          obtain ⟨pq, k3, k4⟩ := hh.live q row0 k1
          exact ⟨pq, sub _ _ k3, k4.mono sub (setRow_other w p.b pq.b _ (apart q row0 pq e h1 h2 k3))⟩
    · unfold upd; rw [if_neg (by omega)]; exact hh.new q (by omega)
    · have key : ∀ q q' row0 row1 pq pq', h'.get q = some row0 → h'.get q' = some row1 → q ≠ q' → q' ∉ relOf row0 → q ∉ relOf row1 → upd ρ h.nx p' q = some pq → upd ρ h.nx p' q' = some pq' → (q = h.nx ∨ q = r) → pq.b ≠ pq'.b := fun q q' row0 row1 pq pq' e1 e2 hqq hr1 hr2 hp1 hp2 hor => by
        have hpq : pq.b = p.b := by
          rcases hor with rfl | rfl
          · rw [upd_same] at hp1; cases hp1; exact hpb
          · have := upn _ _ hne hp1; rw [hp] at this; cases this; rfl
        have h3 : q' ≠ h.nx := fun h4 => by
          subst h4
          rcases hor with rfl | rfl
          · exact hqq rfl
          · rw [getn] at e2; cases e2; rw [hrn] at hr2; exact hr2 (List.mem_singleton.2 rfl)
        have h4 : q' ≠ r := fun h4 => by
          subst h4
          rcases hor with rfl | rfl
          · rw [getn] at e1; cases e1; rw [hrn] at hr1; exact hr1 (List.mem_singleton.2 rfl)
          · exact hqq rfl
        rw [hpq]
        exact Ne.symm (apart q' row1 pq' e2 h3 h4 (upn _ _ h3 hp2))
      by_cases h1 : q = h.nx ∨ q = r
      · exact key q q' row0 row1 pq pq' e1 e2 hqq hr1 hr2 hp1 hp2 h1
      · by_cases h2 : q' = h.nx ∨ q' = r
        · exact Ne.symm (key q' q row1 row0 pq' pq e2 e1 (Ne.symm hqq) hr2 hr1 hp2 hp1 h2)
        · have a1 : q ≠ h.nx := fun e => h1 (.inl e)
          have a2 : q ≠ r := fun e => h1 (.inr e)
          have b1 : q' ≠ h.nx := fun e => h2 (.inl e)
          have b2 : q' ≠ r := fun e => h2 (.inr e)
          exact hh.sep q q' row0 row1 pq pq' (other q row0 e1 a1 a2).1 (other q' row1 e2 b1 b2).1 hqq hr1 hr2 (upn _ _ a1 hp1) (upn _ _ b1 hp2)
    · by_cases h1 : q = h.nx
      · subst h1; rw [getn] at e1; cases e1
        rw [hrn] at hq
        obtain rfl := List.mem_singleton.1 hq
        rw [geto] at e2; cases e2; exact hwo
      · by_cases h2 : q = r
        · subst h2; rw [geto] at e1; cases e1; rw [hro] at hq; cases hq
        · have k1 := (other q row0 e1 h1 h2).1
          by_cases h3 : q' = h.nx
          · subst h3; exact absurd hfree (hh.rels q _ row0 k1 hq)
          · by_cases h4 : q' = r
            · subst h4
              have := hh.old q q' row0 row k1 hq hr
              rw [hwr] at this; cases this
            · exact hh.old q q' row0 row1 k1 hq (other q' row1 e2 h3 h4).1
    · by_cases h1 : q = h.nx
      · subst h1; rw [getn] at e1; cases e1
        rw [hrn] at hq
        obtain rfl := List.mem_singleton.1 hq
        rw [sub _ _ hp]; exact fun h => nomatch h
      · by_cases h2 : q = r
        · subst h2; rw [geto] at e1; cases e1; rw [hro] at hq; cases hq
        · have := hh.rels q q' row0 (other q row0 e1 h1 h2).1 hq
          cases hx : ρ q' with
          | none => exact absurd hx this
          | some x => rw [sub _ _ hx]; exact fun h => nomatch h
  · have own : Owns ρ h p.b := ⟨r, row, p, hr, hwr, hp, rfl⟩
    refine ⟨rfl, rfl, rfl, by rw [setRow_size]; exact Nat.le_refl _, fun b _ hnb => setRow_other w p.b b cs' fun hb => hnb (hb ▸ own), sub, fun b _ ⟨q, row0, pq, e1, e2, e3, e4⟩ => ?_, by omega, fun q row0 pq e1 e2 => ?_, fun q row0 e1 => ?_, fun q row0 x e1 hx => ?_, fun q h1 h2 => ?_⟩
    · by_cases h1 : q = h.nx
      · subst h1; rw [upd_same] at e3; cases e3; rw [← e4, hpb]; exact own
      · by_cases h2 : q = r
        · subst h2; rw [geto] at e1; cases e1; rw [hwo] at e2; cases e2
        · exact ⟨q, row0, pq, (other q row0 e1 h1 h2).1, e2, upn _ _ h1 e3, e4⟩
    · by_cases h1 : q = h.nx
      · subst h1; rw [upd_same] at e2; cases e2; exact .inr (.inr (hpb ▸ own))
      · by_cases h2 : q = r
        · subst h2; exact .inl ⟨row, hr, upn _ _ h1 e2⟩
        · exact .inl ⟨row0, (other q row0 e1 h1 h2).1, upn _ _ h1 e2⟩
    · by_cases h1 : q = h.nx
      · exact .inr (by omega)
      · by_cases h2 : q = r
        · subst h2; exact .inl ⟨row, hr⟩
        · exact .inl ⟨row0, (other q row0 e1 h1 h2).1⟩
    · by_cases h1 : q = h.nx
      · subst h1; rw [getn] at e1; cases e1
        rw [hrn] at hx
        obtain rfl := List.mem_singleton.1 hx
        exact .inr (.inl ⟨row, hr⟩)
      · by_cases h2 : q = r
        · subst h2; rw [geto] at e1; cases e1; rw [hro] at hx; cases hx
        · exact .inr (.inr ⟨q, row0, (other q row0 e1 h1 h2).1, hx⟩)
    · unfold upd; rw [if_neg (by omega)]; exact h2
end
end Go.Exe
