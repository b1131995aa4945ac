/- The builtin 'append'. -/
import Derived.Test.YtimnljbphmndoaaGreatDoorExE3
namespace Go.Exe
open Go

section
variable {P : Program} {σ : Sig} {N : Nat} {ρ : Rho} {h h' : H} {w w' : World} {o : Oper} {a : Act} {v : AV}

/-- What a builtin that gives a value comes to. -/
def Gives (P : Program) (σ : Sig) (N : Nat) (ρ : Rho) (h : H) (w : World) (s : Sem Value) (v : AV) (h' : H) : Prop :=
  ∃ ρ' u w', s.run P w = .ok u w' ∧ HR σ N ρ' h' w' ∧ St ρ h w ρ' h' w' ∧ VR σ ρ' v u

theorem HR.heap (hh : HR σ N ρ h w) (e : w'.heap = w.heap) : HR σ N ρ h w' :=
  { live := fun r row x => let ⟨p, k1, k2⟩ := hh.live r row x; ⟨p, k1, k2.mono (Sub.refl _) (by rw [e])⟩, new := hh.new, sep := hh.sep, old := hh.old, rels := hh.rels, glob := hh.glob }
theorem St.drew {ρ' : Rho} (st : St ρ h w.drew ρ' h' w') : St ρ h w ρ' h' w' := ⟨st.os, st.tape, st.output, st.size, st.block, st.rho, st.owns, st.nx, st.dom, st.ids, st.rel, st.fresh⟩

theorem zeroCells_size {z : Array Value} {n : Nat} : (Builtin.zeroCells z n).size = n * z.size := size_zeroCells z n

theorem grow_new (hh : HR σ N ρ h w) {t tx e : TypeId} {s : Nat} (ht : P.underlying t = some (.slice e)) (hs : szOf P e = some s) (hok : okE P e = true) {base : Option Addr} {n cap k : Nat} {olds news : List Value} {ol nl : List (List AV)} {y : Value}
    (ho : FL σ ρ s ol olds) (hol : ol.length = n) (hold : (Builtin.firstCells s n (.slice base n cap)).run P w.drew = .ok olds.toArray w.drew) (hn : FL σ ρ s nl news) (hsrc : Src P s tx y k news w) (hnl : nl.length = k) (hlt : cap < n + k) (hm : n + k ≤ 0xfffff)
    (hv : newS e s (n + k) (n + k) (s + 1) (ol ++ nl) h = some (v, h')) : Gives P σ N ρ h w (Builtin.append_ #[t, tx] o.type #[.slice base n cap, y]) v h' := by
  obtain ⟨i, z, hi, hz, hzz, hb⟩ := okE_some hok
  have hsi := szOf_info hs hi
  subst hsi
  have hml : n + k ≤ maxLen := by simp only [maxLen]; omega
  have hge := grownCap_ge w (n + k) cap e
  have hgm := grownCap_le_maxLen w (n + k) cap e hml
  have hbytes : (n + k) * i.bytes ≤ 140737488355328 := Nat.le_trans (Nat.mul_le_mul hm hb) (by decide)
  have hrun := run_append_grow_src (P := P) w t tx o.type e i z ht hi hz base n cap olds hold y k news hsrc hlt (by omega) (growslice_fits hlt hbytes)
  have hf := ho.append hn
  have hlen : (olds ++ news).length = (n + k) * i.size := by rw [hf.length]; simp [hol, hnl]
  obtain ⟨ρ', g1, g2, g3⟩ := newS_ok (cap := grownCap w (n + k) cap e) (w0 := w.drew) (fz := (0, 0)) hh hf (by simp [hol, hnl]) hv rfl ⟨rfl, rfl, rfl⟩ (cs := (olds ++ news).toArray ++ Builtin.zeroCells z.cells (grownCap w (n + k) cap e - (n + k))) (fun j u hu => by
      have hj := (List.getElem?_eq_some_iff.1 hu).1
      rw [Array.getElem?_append_left (by simp at hj ⊢; omega)]
      simpa using hu) hge hge hgm (fun h => nomatch h) (fun s' hs' => by
      cases hs'
      rw [Array.size_append, zeroCells_size, hzz, List.size_toArray, hlen, ← Nat.add_mul, Nat.add_sub_cancel' hge]; exact Nat.le_refl _) (.inl rfl)
  exact ⟨ρ', _, _, hrun, g1, g2, g3⟩

theorem els_sub {cs cs' : Array Value} {base sz n : Nat} {t : Tr (List AV)} (he : Els σ ρ cs base sz n t) (hc : ∀ j, j < base + n * sz → cs'[j]? = cs[j]?) : Els σ ρ cs' base sz n t := fun i l e => by
  obtain ⟨h1, h2, h3, h4⟩ := he i l e
  refine ⟨h1, h2, h3, fun j x hx => ?_⟩
  obtain ⟨u, k1, k2⟩ := h4 j x hx
  have hj : j < sz := by rw [← h2]; exact (List.getElem?_eq_some_iff.1 hx).1
  have : (i + 1) * sz ≤ n * sz := Nat.mul_le_mul_right sz h1
  rw [Nat.add_mul, Nat.one_mul] at this
  exact ⟨u, by rw [hc _ (by omega)]; exact k1, k2⟩

/-- An append for which there may be room. -/
theorem growO_ok (hσ : ∀ i, (σ i).oneCell' = true) (hh : HR σ N ρ h w) {t tx e : TypeId} {s : Nat} (ht : P.underlying t = some (.slice e)) (hs : szOf P e = some s) (hok : okE P e = true) {r q n c g k : Nat} {ls : List (List AV)} {news : List Value} {x y : Value}
    (hx : VR σ ρ (.slc r q n c g) x) (hn : FL σ ρ s ls news) (hsrc : Src P s tx y k news w) (hnl : ls.length = k) (_ : k ≠ 0) (hm : n + k ≤ 0xfffff) (hc : ¬ n + k ≤ c)
    (hv : growO e s (n + k) r q n g (.slc r q n c g) ls h = some (v, h')) : Gives P σ N ρ h w (Builtin.append_ #[t, tx] o.type #[x, y]) v h' := by
  cases g with
  | zero =>
    obtain ⟨old, k1, hv⟩ := bnd_some.1 (show bnd (elemsOf s h (.slc r q n c 0) n) (fun old => bnd (app old ls) fun al => newS e s (n + k) (n + k) (Nat.succ s) al h) = some (v, h') from hv)
    rw [app_eq] at hv
    obtain ⟨k2, vs, k3, k4⟩ := elemsOf_ok (P := P) hh k1 hx
    obtain ⟨p, cap, off, h1, rfl, h2, h3, h4, h5, h6, h7⟩ := hx
    exact grow_new hh ht hs hok k3 k2 (k4 w.drew rfl) hn hsrc hnl (by rw [h6 rfl]; omega) hm hv
  | succ g =>
    obtain ⟨k0, v0⟩ := ite_some.1 (show ite' (Nat.beq g s) (ite' (Nat.ble 1 s) (onCells (h.get r) fun e' sz nn tr wr rel => ite' (Nat.beq e' e) (ite' (Nat.beq sz s) (ite' wr (ite' (Nat.beq (Nat.add q (Nat.mul n s)) (Nat.mul nn s)) (bnd (Bool.rec (bnd (elemsOf s h (.slc r q n c (g + 1)) n) fun old => bnd (app old ls) fun al => lay al 0 .leaf) (lay ls n tr) (Nat.beq q 0)) fun tr' =>
    bnd (H.kills rel h) fun h => bnd (h.put r (some (.cells e' sz nn tr false []))) fun h => h.new (.cells e s (n + k) tr' true [r]) fun r' h => some (.slc r' 0 (n + k) (n + k) (Nat.succ s), h))))))) = some (v, h') from hv)
    clear hv
    obtain rfl : g = s := Nat.eq_of_beq_eq_true k0
    obtain ⟨k1', v1⟩ := ite_some.1 v0
    have hs1 : 1 ≤ g := Nat.le_of_ble_eq_true k1'
    obtain ⟨e', sz, nn, tr, wr, rel, k1, v2⟩ := onCells_some v1
    obtain ⟨ke', v2'⟩ := ite_some.1 v2
    have ke : e' = e := Nat.eq_of_beq_eq_true ke'
    obtain ⟨k2', v3⟩ := ite_some.1 v2'
    have k2 : sz = g := Nat.eq_of_beq_eq_true k2'
    obtain ⟨k3, v4⟩ := ite_some.1 v3
    obtain ⟨k4', v5⟩ := ite_some.1 v4
    have k4 : q + n * g = nn * g := Nat.eq_of_beq_eq_true k4'
    obtain ⟨tr', k5, v6⟩ := bnd_some.1 v5
    obtain ⟨h1, k6, v7⟩ := bnd_some.1 v6
    obtain ⟨h2, k7, v8⟩ := bnd_some.1 v7
    obtain ⟨h3, v9, k8, k9⟩ := new_some v8
    clear v0 v1 v2 v2' ke' v3 v4 v5 v6 v7 v8 k0 k1' k2' k4'
    cases v9
    subst k2 k3 ke
    obtain ⟨a1, a2⟩ := kills_some k6
    obtain ⟨a3, a4⟩ := put_some k7
    obtain ⟨p, p1, cs, fz, p2, p3, p4, p5⟩ := hh.live r _ k1
    obtain ⟨p', cap, off, q1, rfl, q2, q3, q4, q5, q6, q7⟩ := hx
    rw [p1] at q1; cases q1
    have q7 := q7 sz rfl
    have hns : n * sz ≤ cap * sz := Nat.mul_le_mul_right _ q3
    -- what the new row's elements are
    obtain ⟨i, z, hi, hz, hzz, hb⟩ := okE_some hok
    have hsi := szOf_info hs hi
    -- the old cells
    have hcell : ∀ j, j < n * sz → ∃ u, cs[off + j]? = some u := fun j hj => ⟨cs[off + j]'(by omega), Array.getElem?_eq_getElem _⟩
    let olds : List Value := (List.range (n * sz)).map fun j => (cs[off + j]?).getD undef
    have holds : ∀ (j : Nat) (u : Value), olds[j]? = some u → cs[off + j]? = some u := fun j u hu => by
      have hj : j < n * sz := by have := (List.getElem?_eq_some_iff.1 hu).1; simpa [olds] using this
      obtain ⟨u', hu'⟩ := hcell j hj
      simp [olds, hj, hu'] at hu
      rw [hu', hu]
    have hol : olds.length = n * sz := by simp [olds]
    have hnewl : news.length = k * sz := by rw [hn.length, hnl]
    have hoff : n = 0 ∨ off = p.base + q := by
      rcases q2 with h | h
      · exact .inr h
      · exact .inl (by omega)
    -- the new row's elements, wherever their cells lie
    have hels : ∀ (cs2 : Array Value) (base2 : Nat), (∀ j u, olds[j]? = some u → cs2[base2 + j]? = some u) → (∀ j u, news[j]? = some u → cs2[base2 + n * sz + j]? = some u) → Els σ ρ cs2 base2 sz (n + k) tr' := fun cs2 base2 ho hne => by
      rw [beq_eq] at k5
      by_cases hq : q = 0
      · subst hq
        rw [decide_eq_true rfl] at k5
        have gl := lay_get (show lay ls n tr = some tr' from k5)
        intro i l hil
        rw [gl] at hil
        by_cases hin : n ≤ i ∧ i < n + ls.length
        · rw [if_pos hin] at hil
          have hmem : l ∈ ls := List.mem_of_getElem? hil
          refine ⟨by omega, hn.len l hmem, hn.one l hmem, fun j x hx => ?_⟩
          have hj : j < sz := by rw [← hn.len l hmem]; exact (List.getElem?_eq_some_iff.1 hx).1
          have e1 := flat_get hn.len (i - n) l hil j hj
          rw [hx] at e1
          obtain ⟨u, g1, g2⟩ := hn.lr.get _ _ e1
          refine ⟨u, by rw [← hne _ _ g1]; congr 1; rw [Nat.sub_mul]; have : n * sz ≤ i * sz := Nat.mul_le_mul_right _ hin.1; omega, g2⟩
        · rw [if_neg hin] at hil
          obtain ⟨g1, g2, g3, g4⟩ := p5 i l hil
          have hnn : n = nn := Nat.eq_of_mul_eq_mul_right (show 0 < sz by omega) (by omega)
          have hin2 : i < n := by omega
          refine ⟨by omega, g2, g3, fun j x hx => ?_⟩
          · have hj : j < sz := by rw [← g2]; exact (List.getElem?_eq_some_iff.1 hx).1
            obtain ⟨u, g5, g6⟩ := g4 j x hx
            have hjn : i * sz + j < n * sz := by
              have : (i + 1) * sz ≤ n * sz := Nat.mul_le_mul_right sz hin2
              rw [Nat.add_mul, Nat.one_mul] at this; omega
            have ho1 : off = p.base + 0 := hoff.resolve_left (by omega)
            refine ⟨u, ?_, g6⟩
            rw [Nat.add_assoc]
            refine ho _ _ ?_
            obtain ⟨u', hu'⟩ := hcell _ hjn
            have e2 : cs[off + (i * sz + j)]? = some u := by rw [ho1, Nat.add_zero, ← Nat.add_assoc]; exact g5
            simp [olds, hjn, e2]
      · rw [decide_eq_false hq] at k5
        obtain ⟨old, b1, b2⟩ := bnd_some.1 (show bnd (elemsOf sz h (.slc r q n c (sz + 1)) n) (fun old => bnd (app old ls) fun al => lay al 0 .leaf) = some tr' from k5)
        rw [app_eq] at b2
        obtain ⟨c1, vs, c2, c3⟩ := elemsOf_ok (P := P) hh b1 (y := .slice (some ⟨p.b, off, none⟩) n cap) ⟨p, cap, off, p1, rfl, q2, q3, q4, q5, q6, fun s' hs' => by cases hs'; exact q7⟩
        have c4 := run_firstCells_some (P := P) w sz n ⟨p.b, off, none⟩ n cap olds hol (fun j u hu => by rw [add_lit, cell_at p2]; exact holds j u hu)
        have c5 : vs = olds := by
          have := (c3 w rfl).symm.trans c4
          injection this with e1 _
          simpa using e1
        subst c5
        refine (c2.append hn).els (fun j u hu => ?_) (by simp [c1, hnl]) (fun i l hil => lay0_get (show lay (old ++ ls) 0 .leaf = some tr' from b2) i l hil)
        rcases Nat.lt_or_ge j olds.length with hj | hj
        · rw [List.getElem?_append_left hj] at hu; exact ho j u hu
        · rw [List.getElem?_append_right hj] at hu
          rw [← hne _ _ hu]; congr 1; omega
    have hnx1 : h1.nx = h.nx := a1
    have hnx2 : h2.nx = h.nx := a3.trans a1
    have get3 : ∀ x, h'.get x = if x = h.nx then some (.cells e' sz (n + k) tr' true [r]) else if x = r then some (.cells e' sz nn tr false []) else if x ∈ rel then none else h.get x := fun x => by
      rw [k9, hnx2, a4, a2]
    by_cases hroom : n + k ≤ cap
    · -- in its place
      have ho1 : off = p.base + q := q2.resolve_right (by omega)
      have hcap : (n + k) * sz ≤ cap * sz := Nat.mul_le_mul_right _ hroom
      have halign : off % sz = 0 := by
        rw [ho1]
        have h1 : (q + n * sz) % sz = 0 := by rw [k4]; exact Nat.mul_mod_left _ _
        rw [Nat.add_mul_mod_self_right] at h1
        rw [Nat.add_mod, p4.1, h1]; simp
      rw [Nat.add_mul] at hcap
      have hfit : off + n * sz + news.length ≤ cs.size := by omega
      have hst := run_storeCells_ovr P p.b (off + n * sz) e' fz news 0 cs w p2 (p4.2 rfl) (by omega) (hn.oneCell hσ)
      rw [Nat.add_zero] at hst
      have hrun := run_append_room' (P := P) (t := t) (tx := tx) (ty := o.type) ht hi (b := p.b) (off := off) (sLen := n) (sCap := cap) (n := k) (x := y) (news := news) (w := w) (by rw [hsi]; exact hsrc) hroom (by rw [hsi]; exact hst)
      have og := ovr_get (cs := cs) (o := off + n * sz) (vs := news) hfit
      have osz := ovr_size (cs := cs) (o := off + n * sz) (vs := news) hfit
      have hh' := hh.alias (cs' := ovr cs (off + n * sz) news) (rowo := .cells e' sz nn tr false []) (rown := .cells e' sz (n + k) tr' true [r]) (p' := ⟨p.b, off, p.size⟩) p1 k1 rfl p2 rfl (by rw [k8, hnx2]) get3
        (fun ρ' hs => ⟨_, fz, setRow_heap w p.b cs _ e' fz p2, by rw [osz, p3], ⟨p4.1, fun hc => nomatch hc⟩, els_sub (p5.mono hs) fun j hj => by rw [og, if_neg (by omega)]⟩)
        (fun ρ' hs => ⟨_, fz, setRow_heap w p.b cs _ e' fz p2, by rw [osz, p3], ⟨halign, fun _ => by rw [osz]; exact p4.2 rfl⟩, (hels (ovr cs (off + n * sz) news) off (fun j u hu => by
            have hj : j < olds.length := (List.getElem?_eq_some_iff.1 hu).1
            rw [og, if_neg (by omega)]; exact holds j u hu) (fun j u hu => by
            have hj : j < news.length := (List.getElem?_eq_some_iff.1 hu).1
            rw [og, if_pos (by omega), show off + n * sz + j - (off + n * sz) = j by omega]; exact hu)).mono hs⟩) rfl rfl rfl
      exact ⟨_, _, _, hrun, hh'.1, hh'.2, ⟨p.b, off, p.size⟩, cap, off, by rw [hnx2]; exact upd_same _ _ _, rfl, .inl rfl, hroom, hroom, q5, (fun h => nomatch h), fun s' hs' => by cases hs'; exact q7⟩
    · -- in a new one
      have hml : n + k ≤ maxLen := by simp only [maxLen]; omega
      have hge := grownCap_ge w (n + k) cap e'
      have hgm := grownCap_le_maxLen w (n + k) cap e' hml
      have hbytes : (n + k) * i.bytes ≤ 140737488355328 := Nat.le_trans (Nat.mul_le_mul hm hb) (by decide)
      have hold := run_firstCells_some (P := P) w.drew sz n ⟨p.b, off, none⟩ n cap olds hol (fun j u hu => by rw [add_lit]; show w.cell? _ = _; rw [cell_at p2]; exact holds j u hu)
      have hrun := run_append_grow_src (P := P) w t tx o.type e' i z ht hi hz (some ⟨p.b, off, none⟩) n cap olds (by rw [hsi]; exact hold) y k news (by rw [hsi]; exact hsrc) (by omega) (by omega) (growslice_fits (by omega) hbytes)
      have hrr : r ∉ rel := fun hc => by have := hh.old r r _ _ k1 hc k1; cases this
      have get2 : ∀ x, h2.get x = if x = r then some (.cells e' sz nn tr false []) else if x ∈ rel then none else h.get x := fun x => by rw [a4, a2]
      have was : ∀ x row, h2.get x = some row → x ≠ r → h.get x = some row := fun x row e1 hne => by
        rw [get2, if_neg hne] at e1
        split at e1
        · cases e1
        · exact e1
      have hw2 : HR σ N ρ h2 w := hh.weak hnx2 fun x row e1 => by
        by_cases hx : x = r
        · subst hx
          rw [get2, if_pos rfl] at e1
          cases e1
          refine ⟨_, k1, fun pp ⟨cs, fz, b1, b2, b4, b3⟩ => ⟨cs, fz, b1, b2, ⟨b4.1, fun hc => nomatch hc⟩, b3⟩, (fun hc => nomatch hc), (fun y hy => nomatch hy), fun y hy _ => ?_⟩
          have hyr : y ≠ x := fun e => hrr (e ▸ hy)
          rw [get2, if_neg hyr, if_pos (show y ∈ rel from hy)]
        · exact ⟨row, was x row e1 hx, fun _ k => k, id, fun _ k => k, fun y hy hny => absurd hy hny⟩
      have st2 : St ρ h w ρ h2 w := ⟨rfl, rfl, rfl, Nat.le_refl _, fun _ _ _ => rfl, Sub.refl _, fun b _ ⟨x, row, px, e1, e2, e3, e4⟩ => by
          by_cases hx : x = r
          · subst hx; rw [get2, if_pos rfl] at e1; cases e1; cases e2
          · exact ⟨x, row, px, was x row e1 hx, e2, e3, e4⟩, by rw [hnx2]; exact Nat.le_refl _, fun x row px e1 e2 => by
          by_cases hx : x = r
          · subst hx; exact .inl ⟨_, k1, e2⟩
          · exact .inl ⟨row, was x row e1 hx, e2⟩, fun x row e1 => by
          by_cases hx : x = r
          · subst hx; exact .inl ⟨_, k1⟩
          · exact .inl ⟨row, was x row e1 hx⟩, fun x row y e1 e2 => by
          by_cases hx : x = r
          · subst hx; rw [get2, if_pos rfl] at e1; cases e1; cases e2
          · exact .inr (.inr ⟨x, row, was x row e1 hx, e2⟩), fun _ _ h => h⟩
      have hlen : (olds ++ news).length = (n + k) * sz := by rw [List.length_append, hol, hnewl, Nat.add_mul]
      have hfree := hh.new h.nx (Nat.le_refl _)
      let big : Array Value := (olds ++ news).toArray ++ Builtin.zeroCells z.cells (grownCap w (n + k) cap e' - (n + k))
      have hbig : big.size = grownCap w (n + k) cap e' * sz := by
        show ((olds ++ news).toArray ++ Builtin.zeroCells z.cells (grownCap w (n + k) cap e' - (n + k))).size = _
        rw [Array.size_append, zeroCells_size, hzz, hsi, List.size_toArray, hlen, ← Nat.add_mul, Nat.add_sub_cancel' hge]
      have hgetb : ∀ (j : Nat) (u : Value), (olds ++ news)[j]? = some u → big[j]? = some u := fun j u hu => by
        have hj := (List.getElem?_eq_some_iff.1 hu).1
        show ((olds ++ news).toArray ++ _)[j]? = _
        rw [Array.getElem?_append_left (by simpa using hj)]
        simpa using hu
      have hh3 := (hw2.heap (w' := w.drew) rfl).add (St.refl _ _ _) (by rw [hnx2]; exact Nat.le_refl _) (h' := h') (r := h.nx) (row := .cells e' sz (n + k) tr' true [r]) (o := .cells big e') (p := ⟨w.heap.size, 0, big.size⟩) hfree (fun x => by rw [get3, get2]) (by rw [hnx2, k8, hnx2]; omega) (by rw [k8, hnx2]; omega)
        (fun x hx => by
          obtain rfl := List.mem_singleton.1 hx
          exact ⟨_, by rw [get2, if_pos rfl], rfl⟩) rfl
        ⟨big, (0, 0), pushed_new w.drew _, rfl, ⟨Nat.zero_mod _, fun _ => .inl rfl⟩, (hels big 0 (fun j u hu => by
            rw [Nat.zero_add]
            have hj : j < olds.length := (List.getElem?_eq_some_iff.1 hu).1
            exact hgetb j u (by rw [List.getElem?_append_left hj]; exact hu)) (fun j u hu => by
            rw [Nat.zero_add]
            refine hgetb _ u ?_
            rw [List.getElem?_append_right (by omega), show n * sz + j - olds.length = j by omega]; exact hu)).mono (upd_sub hfree _)⟩
      refine ⟨_, _, _, hrun, hh3.1, st2.trans hh3.2.drew, ⟨w.heap.size, 0, big.size⟩, grownCap w (n + k) cap e', 0, by rw [hnx2]; exact upd_same _ _ _, rfl, .inl rfl, hge, hge, hgm, (fun h => nomatch h), fun s' hs' => ?_⟩
      cases hs'
      rw [Nat.zero_add]
      show _ ≤ big.size
      rw [hbig]; exact Nat.le_refl _

theorem appendO_ok (hσ : ∀ i, (σ i).oneCell' = true) (hh : HR σ N ρ h w) {t tx : TypeId} {x y : AV} (hv : appendO P t tx x y h = some (v, h')) {vx vy : Value} (hx : VR σ ρ x vx) (hy : VR σ ρ y vy) : Gives P σ N ρ h w (Builtin.append_ #[t, tx] o.type #[vx, vy]) v h' := by
  obtain ⟨k1, v1⟩ := ite_some.1 hv
  obtain ⟨e, k2, v2⟩ := bnd_some.1 v1
  obtain ⟨s, k3, v3⟩ := bnd_some.1 v2
  obtain ⟨k4, v4⟩ := ite_some.1 v3
  obtain ⟨k, k5, v5⟩ := bnd_some.1 v4
  obtain ⟨ls, k6, v6⟩ := bnd_some.1 v5
  clear hv v1 v2 v3 v4 v5
  have hu := sliceE_some k2
  obtain ⟨i, z, hi, hz, hzz, hb⟩ := okE_some k4
  have hsi := szOf_info k3 hi
  obtain ⟨g1, news, g2, g3⟩ := src_ok (P := P) hσ hh k1 k5 k6 hy
  split at v6
  · cases hx
    rw [beq_eq] at v6
    by_cases hk : k = 0
    · subst hk
      rw [decide_eq_true rfl] at v6
      cases v6
      exact ⟨ρ, _, w, run_append_zero (P := P) hu hi (by rw [hsi]; exact g3) (Nat.le_refl _), hh, St.refl _ _ _, rfl⟩
    · rw [decide_eq_false hk] at v6
      obtain ⟨k7, v7⟩ := ite_some.1 (show ite' (Nat.ble k 0xfffff) (newS e s k k (Nat.succ s) ls h) = some (v, h') from v6)
      exact grow_new (o := o) (n := 0) (cap := 0) (ol := []) (olds := []) hh hu k3 k4 (FL.nil s) rfl (run_firstCells_none (P := P) w.drew s 0 0 0) g2 g3 g1 (by omega) (by have := Nat.le_of_ble_eq_true k7; omega) (by rw [Nat.zero_add]; exact v7)
  · rename_i r q n c g
    rw [beq_eq] at v6
    by_cases hk : k = 0
    · subst hk
      rw [decide_eq_true rfl] at v6
      cases v6
      obtain ⟨p, cap, off, h1, rfl, h2, h3, h4⟩ := hx
      exact ⟨ρ, _, w, run_append_zero (P := P) hu hi (by rw [hsi]; exact g3) h3, hh, St.refl _ _ _, p, cap, off, h1, rfl, h2, h3, h4⟩
    · rw [decide_eq_false hk] at v6
      replace v6 : (force (Nat.add n k) fun m => ite' (Nat.ble m 0xfffff) (Bool.rec (growO e s m r q n g (.slc r q n c g) ls h) (bnd (storeL r s ls (Nat.add q (Nat.mul n s)) h) fun h => some (.slc r q m c g, h)) (Nat.ble m c))) = some (v, h') := v6
      rw [force_eq] at v6
      obtain ⟨k7, v7⟩ := ite_some.1 v6
      have k7 : n + k ≤ 0xfffff := Nat.le_of_ble_eq_true k7
      rw [ble_eq] at v7
      by_cases hr : n + k ≤ c
      · rw [show decide (Nat.add n k ≤ c) = true from decide_eq_true hr] at v7
        obtain ⟨h1, k8, v8⟩ := bnd_some.1 (show bnd (storeL r s ls (Nat.add q (Nat.mul n s)) h) (fun h => some (AV.slc r q (n + k) c g, h)) = some (v, h') from v7)
        cases v8
        obtain ⟨p, cap, off, q1, rfl, q2, q3, q4, q5, q6, q7⟩ := hx
        have ho : off = p.base + q := q2.resolve_right (by omega)
        obtain ⟨w', r1, r2, r3⟩ := storeL_ok (P := P) hσ q1 hh k8 g2
        refine ⟨ρ, _, w', run_append_room' (P := P) hu hi (by rw [hsi]; exact g3) (by omega) ?_, r2, r3, p, cap, off, q1, rfl, q2, by omega, q4, q5, q6, q7⟩
        rw [hsi, ho]
        have : p.base + q + n * s = p.base + Nat.add q (Nat.mul n s) := Nat.add_assoc _ _ _
        rw [this]; exact r1
      · rw [show decide (Nat.add n k ≤ c) = false from decide_eq_false hr] at v7
        exact growO_ok (o := o) hσ hh hu k3 k4 hx g2 g3 g1 hk k7 hr v7
  · cases v6

theorem copyO_ok (hσ : ∀ i, (σ i).oneCell' = true) (hh : HR σ N ρ h w) {t tx : TypeId} {x y : AV} (hv : copyO P t x y h = some (v, h')) {vx vy : Value} (hx : VR σ ρ x vx) (hy : VR σ ρ y vy) : Gives P σ N ρ h w (Builtin.copy_ #[t, tx] o.type #[vx, vy]) v h' := by
  obtain ⟨e, k2, v2⟩ := bnd_some.1 hv
  obtain ⟨s, k3, v3⟩ := bnd_some.1 v2
  obtain ⟨k, k5, v5⟩ := bnd_some.1 v3
  obtain ⟨n, k6, v6⟩ := bnd_some.1 v5
  rw [force_eq] at v6
  obtain ⟨ls, k7, v7⟩ := bnd_some.1 v6
  have hu := sliceE_some k2
  have hm : (Bool.rec n k (Nat.ble k n) : Nat) = Nat.min k n := by
    rw [ble_eq]
    by_cases hkn : k ≤ n
    · rw [decide_eq_true hkn]; exact (Nat.min_eq_left hkn).symm
    · rw [decide_eq_false hkn]; exact (Nat.min_eq_right (show n ≤ k by omega)).symm
  rw [hm] at k7 v7
  obtain ⟨g1, vs, g2, g3⟩ := elemsOf_ok (P := P) hh k7 hy
  have hl := lenS_ok (P := P) k5 hy
  have hfc := g3 w rfl
  split at v7
  · obtain ⟨h1, k8, v8⟩ := bnd_some.1 v7
    cases v8
    cases k6
    obtain ⟨p, cap, off, q1, rfl, q2, q3, q4, q5, q6, q7⟩ := hx
    obtain ⟨w', r1, r2, r3⟩ := storeL_ok (P := P) hσ q1 hh k8 g2
    refine ⟨ρ, _, w', ?_, r2, r3, rfl⟩
    have hst : (storeCells ⟨p.b, off, none⟩ vs).run P w = .ok () w' := by
      rcases q2 with rfl | h0
      · exact r1
      · have hvs : vs = [] := by
          have : ls.length = 0 := by
            rw [g1]
            exact Nat.le_zero.1 (Nat.le_trans (Nat.min_le_right _ _) (by omega))
          exact List.eq_nil_of_length_eq_zero (by rw [g2.length, this]; simp)
        subst hvs
        exact r1
    simp only [Builtin.copy_, Array.size, List.getElem?_toArray]
    simp [run_underlying hu, hl, run_sz k3, hfc, hst, goInt]
  · cases v7
    cases k6
    cases hx
    have e0 : Nat.min k 0 = 0 := Nat.min_zero k
    rw [e0] at hfc ⊢
    refine ⟨ρ, .int .i64 0, w, ?_, hh, St.refl _ _ _, rfl⟩
    simp only [Builtin.copy_, Array.size, List.getElem?_toArray]
    simp [run_underlying hu, hl, run_sz k3, hfc, goInt]
  · cases v7
end
end Go.Exe
