/- Elements as lists; new slices. -/
import Derived.Test.YtimnljbphmndoaaGreatDoorExE1
namespace Go.Exe
open Go

section
variable {P : Program} {σ : Sig} {N : Nat} {ρ : Rho} {h h' : H} {w w' : World} {o : Oper} {a : Act} {v : AV}

theorem flat_get {α : Type} {s : Nat} : ∀ {ls : List (List α)}, (∀ l ∈ ls, l.length = s) → ∀ (i : Nat) (l : List α), ls[i]? = some l → ∀ j, j < s → ls.flatten[i * s + j]? = l[j]?
  | [], _, i, l, e, _, _ => by simp at e
  | x :: ls, h, 0, l, e, j, hj => by
    simp at e; subst e
    rw [List.flatten_cons, Nat.zero_mul, Nat.zero_add, List.getElem?_append_left (by rw [h x (List.mem_cons_self ..)]; exact hj)]
  | x :: ls, h, i + 1, l, e, j, hj => by
    have hx := h x (List.mem_cons_self ..)
    rw [List.flatten_cons, List.getElem?_append_right (by rw [hx, Nat.add_mul]; omega), hx, show (i + 1) * s + j - s = i * s + j by rw [Nat.add_mul]; omega]
    exact flat_get (fun l hl => h l (List.mem_cons_of_mem _ hl)) i l (by simpa using e) j hj
theorem flat_length {α : Type} {s : Nat} : ∀ {ls : List (List α)}, (∀ l ∈ ls, l.length = s) → ls.flatten.length = ls.length * s
  | [], _ => by simp
  | x :: ls, h => by
    rw [List.flatten_cons, List.length_append, h x (List.mem_cons_self ..), flat_length (fun l hl => h l (List.mem_cons_of_mem _ hl)), List.length_cons, Nat.add_mul]; omega

/-- Elements of s cells each, and their cells one behind the other. -/
structure FL (σ : Sig) (ρ : Rho) (s : Nat) (ls : List (List AV)) (vs : List Value) : Prop where
  len : ∀ l ∈ ls, l.length = s
  one : ∀ l ∈ ls, l.all cellB = true
  lr : LR σ ρ ls.flatten vs

theorem FL.mono {ρ' : Rho} (hs : Sub ρ ρ') {s : Nat} {ls : List (List AV)} {vs : List Value} (h : FL σ ρ s ls vs) : FL σ ρ' s ls vs := ⟨h.len, h.one, LR.mono hs _ h.lr⟩
theorem FL.length {s : Nat} {ls : List (List AV)} {vs : List Value} (h : FL σ ρ s ls vs) : vs.length = ls.length * s := by rw [h.lr.length, flat_length h.len]
theorem FL.append {s : Nat} {ls ms : List (List AV)} {vs us : List Value} (h : FL σ ρ s ls vs) (k : FL σ ρ s ms us) : FL σ ρ s (ls ++ ms) (vs ++ us) :=
  ⟨fun l hl => (List.mem_append.1 hl).elim (h.len l) (k.len l), fun l hl => (List.mem_append.1 hl).elim (h.one l) (k.one l), by rw [List.flatten_append]; exact h.lr.append k.lr⟩
theorem FL.nil (s : Nat) : FL σ ρ s [] [] := ⟨fun l h => by simp at h, fun l h => by simp at h, rfl⟩
theorem FL.oneCell (hσ : ∀ i, (σ i).oneCell' = true) {s : Nat} {ls : List (List AV)} {vs : List Value} (h : FL σ ρ s ls vs) : ∀ u ∈ vs, u.oneCell' = true := fun u hu => by
  obtain ⟨j, hj, rfl⟩ := List.mem_iff_getElem.1 hu
  have hl := h.lr.length
  obtain ⟨x, h1, h2⟩ := h.lr.get j (ls.flatten[j]'(by omega)) (List.getElem?_eq_getElem _)
  rw [List.getElem?_eq_getElem hj] at h1
  cases h1
  obtain ⟨l, hl1, hl2⟩ := List.mem_flatten.1 (List.getElem_mem (show j < ls.flatten.length by omega))
  exact VR.one hσ (List.all_eq_true.1 (h.one l hl1) _ hl2) h2

/-- They lie in cells from a place on. -/
theorem FL.els {s : Nat} {ls : List (List AV)} {vs : List Value} (h : FL σ ρ s ls vs) {cs : Array Value} {base : Nat} (hc : ∀ j u, vs[j]? = some u → cs[base + j]? = some u) {t : Tr (List AV)} {n : Nat} (hn : ls.length ≤ n) (ht : ∀ i l, t.get i = some l → ls[i]? = some l) : Els σ ρ cs base s n t := fun i l e => by
  have hi := ht i l e
  have hlt := (List.getElem?_eq_some_iff.1 hi).1
  have hmem : l ∈ ls := List.mem_of_getElem? hi
  refine ⟨by omega, h.len l hmem, h.one l hmem, fun j x hx => ?_⟩
  have hj : j < s := by rw [← h.len l hmem]; exact (List.getElem?_eq_some_iff.1 hx).1
  have e1 := flat_get h.len i l hi j hj
  rw [hx] at e1
  obtain ⟨u, h1, h2⟩ := h.lr.get _ _ e1
  exact ⟨u, by rw [Nat.add_assoc]; exact hc _ _ h1, h2⟩

theorem lay_get : ∀ {ls : List (List AV)} {i : Nat} {t t' : Tr (List AV)}, lay ls i t = some t' → ∀ j, t'.get j = if i ≤ j ∧ j < i + ls.length then ls[j - i]? else t.get j
  | [], i, t, t', h, j => by cases h; rw [if_neg (by simp only [List.length_nil]; omega)]
  | l :: ls, i, t, t', h, j => by
    obtain ⟨t1, h1, h⟩ := bnd_some.1 (show bnd (t.set (some l) 30 i) (fun t => force (Nat.succ i) fun j => lay ls j t) = some t' from h)
    rw [force_eq] at h
    rw [lay_get h, Tr.get_set h1]
    simp only [List.length_cons]
    by_cases hj : j = i
    · subst hj; rw [if_neg (by omega), if_pos rfl, if_pos (by omega)]; simp
    · rw [if_neg hj]
      by_cases hj2 : i.succ ≤ j ∧ j < i.succ + ls.length
      · rw [if_pos hj2, if_pos (by omega), show j - i = (j - i.succ) + 1 by omega, List.getElem?_cons_succ]
      · rw [if_neg hj2, if_neg (by omega)]
theorem lay0_get {ls : List (List AV)} {t' : Tr (List AV)} (h : lay ls 0 .leaf = some t') (i : Nat) (l : List AV) (e : t'.get i = some l) : ls[i]? = some l := by
  rw [lay_get h] at e
  by_cases hi : 0 ≤ i ∧ i < 0 + ls.length
  · rw [if_pos hi] at e; simpa using e
  · rw [if_neg hi] at e; simp at e

theorem elems_some : ∀ {k i : Nat} {t : Tr (List AV)} {ls : List (List AV)}, elems t k i = some ls → ls.length = k ∧ ∀ j, j < k → t.get (i + j) = ls[j]?
  | 0, i, t, ls, h => by cases h; exact ⟨rfl, fun j hj => absurd hj (Nat.not_lt_zero _)⟩
  | k + 1, i, t, ls, h => by
    obtain ⟨l, h1, h⟩ := bnd_some.1 (show bnd (t.get i) (fun l => force (Nat.succ i) fun j => bnd (elems t k j) fun ls => some (l :: ls)) = some ls from h)
    rw [force_eq] at h
    obtain ⟨ls', h2, h⟩ := bnd_some.1 h
    cases h
    obtain ⟨k1, k2⟩ := elems_some h2
    refine ⟨by simp [k1], fun j hj => ?_⟩
    cases j with
    | zero => simpa using h1
    | succ j => rw [List.getElem?_cons_succ, ← k2 j (by omega)]; congr 1; omega

theorem part_some {s : Nat} : ∀ {f : Nat} {l : List AV} {ls : List (List AV)}, part s f l = some ls → ls.length = f ∧ ls.flatten = l ∧ ∀ x ∈ ls, x.length = s
  | 0, l, ls, h => by
    cases l with
    | nil => cases h; exact ⟨rfl, rfl, fun x hx => by simp at hx⟩
    | cons => exact nomatch h
  | f + 1, l, ls, h => by
    obtain ⟨p, h1, h⟩ := bnd_some.1 (show bnd (takeN l s) (fun a => bnd (dropN l s) fun r => bnd (part s f r) fun e => some (a :: e)) = some ls from h)
    obtain ⟨r, h2, h⟩ := bnd_some.1 h
    obtain ⟨e, h3, h⟩ := bnd_some.1 h
    cases h
    obtain ⟨g1, rfl⟩ := takeN_some h1
    obtain ⟨g2, rfl⟩ := dropN_some h2
    obtain ⟨k1, k2, k3⟩ := part_some h3
    exact ⟨by simp [k1], by rw [List.flatten_cons, k2, List.take_append_drop], fun x hx => (List.mem_cons.1 hx).elim (fun e => by rw [e]; simp; omega) (k3 x)⟩

theorem bytesL_flat : ∀ (n : Nat) (l : List UInt8), n ≤ l.length → (bytesL n (bytesN l)).flatten = (l.take n).map fun b => AV.int .u8 (b.toNat : Nat)
  | 0, l, _ => by rw [show bytesL 0 (bytesN l) = [] from rfl]; simp
  | n + 1, [], h => by simp at h
  | n + 1, b :: l, h => by
    have hb : b.toNat < 256 := b.toNat_lt
    have e1 : Nat.land (bytesN (b :: l)) 255 = b.toNat := by
      show (bytesN (b :: l)) &&& 255 = _
      rw [show (255 : Nat) = 2 ^ 8 - 1 from rfl, Nat.and_two_pow_sub_one_eq_mod, bytesN_cons]; omega
    have e2 : Nat.shiftRight (bytesN (b :: l)) 8 = bytesN l := by
      show (bytesN (b :: l)) >>> 8 = _
      rw [Nat.shiftRight_eq_div_pow, bytesN_cons]; omega
    show (([AV.int .u8 (.ofNat (Nat.land (bytesN (b :: l)) 255))] :: bytesL n (Nat.shiftRight (bytesN (b :: l)) 8)).flatten) = _
    rw [e1, e2, List.flatten_cons, bytesL_flat n l (by simpa using h)]
    rfl
theorem bytesL_mem : ∀ (n x : Nat), ∀ l ∈ bytesL n x, ∃ b : Nat, l = [AV.int .u8 (.ofNat b)]
  | 0, x, l, h => by rw [show bytesL 0 x = [] from rfl] at h; simp at h
  | n + 1, x, l, h => by
    rcases List.mem_cons.1 (show l ∈ [AV.int .u8 (.ofNat (Nat.land x 255))] :: bytesL n (Nat.shiftRight x 8) from h) with rfl | h
    · exact ⟨_, rfl⟩
    · exact bytesL_mem n _ l h
theorem bytesL_length : ∀ (n x : Nat), (bytesL n x).length = n
  | 0, _ => rfl
  | n + 1, x => congrArg Nat.succ (bytesL_length n (Nat.shiftRight x 8))

theorem bytesL_fl (l : List UInt8) {n : Nat} (hn : n ≤ l.length) : FL σ ρ 1 (bytesL n (bytesN l)) ((l.take n).map fun b => Value.int .u8 (b.toNat : Nat)) where
  len := fun x hx => by obtain ⟨b, rfl⟩ := bytesL_mem _ _ x hx; rfl
  one := fun x hx => by obtain ⟨b, rfl⟩ := bytesL_mem _ _ x hx; rfl
  lr := by
    rw [bytesL_flat n l hn]
    refine LR.mk (by simp) fun i x u e1 e2 => ?_
    simp only [List.getElem?_map, Option.map_eq_some_iff] at e1 e2
    obtain ⟨b, hb, rfl⟩ := e1
    obtain ⟨b', hb', rfl⟩ := e2
    rw [hb] at hb'; cases hb'
    rfl

/-- The elements of a slice or a string, as the code finds them. -/
theorem elemsOf_ok (hh : HR σ N ρ h w) {s n : Nat} {x : AV} {ls : List (List AV)} (e : elemsOf s h x n = some ls) {y : Value} (hy : VR σ ρ x y) :
    ls.length = n ∧ ∃ vs, FL σ ρ s ls vs ∧ ∀ w', w'.heap = w.heap → (Builtin.firstCells s n y).run P w' = .ok vs.toArray w' := by
  unfold elemsOf at e
  split at e
  · obtain ⟨h1, e⟩ := ite_some.1 e
    obtain ⟨h2, e⟩ := ite_some.1 e
    cases e
    obtain ⟨b, rfl, rfl, rfl⟩ := hy
    have h1 := Nat.eq_of_beq_eq_true h1
    subst h1
    have h2 := Nat.le_of_ble_eq_true h2
    refine ⟨bytesL_length _ _, _, bytesL_fl b.data.toList h2, fun w' _ => ?_⟩
    simp only [Builtin.firstCells, Sem.run_pure]
    congr 1
    apply Array.ext'
    simp
  · obtain ⟨h1, e⟩ := ite_some.1 e
    cases e
    obtain rfl : n = 0 := Nat.eq_of_beq_eq_true h1
    cases hy
    exact ⟨rfl, [], FL.nil s, fun w' _ => by simp [Builtin.firstCells]⟩
  · rename_i r o m c g
    rw [beq_eq] at e
    obtain ⟨p, cap, off, h1, rfl, h2, h3, h4, h5, h6, h7⟩ := hy
    by_cases hn : n = 0
    · subst hn
      rw [decide_eq_true rfl] at e
      cases e
      exact ⟨rfl, [], FL.nil s, fun w' _ => by simp [Builtin.firstCells, loadCells, loadCellsFrom]⟩
    · rw [decide_eq_false hn] at e
      obtain ⟨k1, e⟩ := ite_some.1 (show ite' (Nat.ble n m) _ = some ls from e)
      have k1 := Nat.le_of_ble_eq_true k1
      obtain ⟨ty, sz, nn, t, wr, rel, k2, e⟩ := onCells_some e
      obtain ⟨p', k3, cs, fz, k4, k5, k6, k7⟩ := hh.live r _ k2
      rw [h1] at k3; cases k3
      obtain rfl : off = p.base + o := h2.resolve_right (by omega)
      have fin : ∀ vs : List Value, FL σ ρ s ls vs → ls.length = n → (∀ j u, vs[j]? = some u → cs[p.base + o + j]? = some u) → ls.length = n ∧ ∃ vs, FL σ ρ s ls vs ∧ ∀ w', w'.heap = w.heap → (Builtin.firstCells s n (.slice (some ⟨p.b, p.base + o, none⟩) m cap)).run P w' = .ok vs.toArray w' := fun vs hf hl hv => by
        refine ⟨hl, vs, hf, fun w' hw => run_firstCells_some (P := P) w' s n _ m cap vs (by rw [hf.length, hl]) fun j u hu => ?_⟩
        rw [add_lit, cell_at (by rw [hw]; exact k4)]
        exact hv j u hu
      rw [beq_eq sz s] at e
      by_cases hsz : sz = s
      · subst hsz
        rw [decide_eq_true rfl] at e
        obtain ⟨g1, e⟩ := ite_some.1 (show ite' (Nat.beq (Nat.mod o sz) 0) (elems t n (Nat.div o sz)) = some ls from e)
        obtain ⟨g2, g3⟩ := elems_some e
        have g1 : o % sz = 0 := Nat.eq_of_beq_eq_true g1
        have hdm := dm o sz
        have hseg : ∀ j (hj : j < ls.length), ls[j].length = sz ∧ Seg σ ρ cs (p.base + (o / sz + j) * sz) ls[j] := fun j hj => by
          have := g3 j (by omega)
          rw [List.getElem?_eq_getElem hj] at this
          obtain ⟨_, q1, q2⟩ := k7 _ _ this
          exact ⟨q1, q2⟩
        have hlen : ∀ l ∈ ls, l.length = sz := fun l hl => by obtain ⟨j, hj, rfl⟩ := List.mem_iff_getElem.1 hl; exact (hseg j hj).1
        have hfl := flat_length hlen
        have key : ∀ j, j < ls.flatten.length → ∃ u, cs[p.base + o + j]? = some u ∧ ∀ x, ls.flatten[j]? = some x → VR σ ρ x u := fun j hj => by
          rcases Nat.eq_zero_or_pos sz with h0 | h0
          · rw [hfl, h0, Nat.mul_zero] at hj; exact absurd hj (Nat.not_lt_zero _)
          · have hd : j / sz < ls.length := (Nat.div_lt_iff_lt_mul h0).2 (by rw [← hfl]; exact hj)
            have hm : j % sz < sz := Nat.mod_lt _ h0
            obtain ⟨q1, q2⟩ := hseg _ hd
            obtain ⟨u, q3, q4⟩ := q2.2 (j % sz) (ls[j / sz]'hd)[j % sz] (List.getElem?_eq_getElem (by rw [q1]; exact hm))
            have ej := dm j sz
            refine ⟨u, by rw [← q3]; congr 1; rw [Nat.add_mul]; omega, fun x hx => ?_⟩
            have := flat_get hlen (j / sz) _ (List.getElem?_eq_getElem hd) (j % sz) hm
            rw [ej, hx, List.getElem?_eq_getElem (by rw [q1]; exact hm)] at this
            cases this; exact q4
        refine fin ((List.range ls.flatten.length).map fun j => (cs[p.base + o + j]?).getD undef) ⟨hlen, fun l hl => ?_, LR.mk (by simp) fun j x u hx hu => ?_⟩ g2 fun j u hu => ?_
        · obtain ⟨j, hj, rfl⟩ := List.mem_iff_getElem.1 hl; exact (hseg j hj).2.1
        · have hj : j < ls.flatten.length := (List.getElem?_eq_some_iff.1 hx).1
          obtain ⟨u', q1, q2⟩ := key j hj
          rw [List.getElem?_map, List.getElem?_range hj, Option.map_some, q1] at hu
          cases hu; exact q2 x hx
        · have hj : j < ls.flatten.length := by have := (List.getElem?_eq_some_iff.1 hu).1; simpa using this
          obtain ⟨u', q1, q2⟩ := key j hj
          rw [List.getElem?_map, List.getElem?_range hj, Option.map_some, q1] at hu
          cases hu; exact q1
      · rw [decide_eq_false hsz] at e
        obtain ⟨l, g1, e⟩ := bnd_some.1 (show bnd (loadR t sz o (Nat.mul n s)) (fun l => part s n l) = some ls from e)
        obtain ⟨q1, q2, vs, q3, q4⟩ := loadR_ok k7 g1
        obtain ⟨g2, g3, g4⟩ := part_some e
        refine fin vs ⟨g4, fun x hx => List.all_eq_true.2 fun y hy => List.all_eq_true.1 q1 y ?_, by rw [g3]; exact q3⟩ g2 q4
        rw [← g3]; exact List.mem_flatten.2 ⟨x, hx, hy⟩
  · cases e

/-- A new slice. -/
theorem newS_ok (hh : HR σ N ρ h w) {e : TypeId} {sz n m g : Nat} {ls : List (List AV)} {vs : List Value} (hf : FL σ ρ sz ls vs) (hm : ls.length ≤ m) (hv : newS e sz n m g ls h = some (v, h')) {w0 : World} (h0 : w0.heap = w.heap) (h1 : w0.os = w.os ∧ w0.tape = w.tape ∧ w0.output = w.output)
    {cs : Array Value} (hc : ∀ (j : Nat) (u : Value), vs[j]? = some u → cs[j]? = some u) {cap : Nat} (hcap : n ≤ cap) (hcm : m ≤ cap) (hml : cap ≤ maxLen) (hg0 : g = 0 → cap = m) (hg1 : ∀ s, g = s + 1 → cap * s ≤ cs.size) {fz : Nat × Nat} (hfz : fz.1 = fz.2 ∨ cs.size ≤ fz.1) :
    ∃ ρ', HR σ N ρ' h' (pushed w0 (.cells cs e fz)) ∧ St ρ h w ρ' h' (pushed w0 (.cells cs e fz)) ∧ VR σ ρ' v (.slice (some ⟨w0.heap.size, 0, none⟩) n cap) := by
  obtain ⟨t, k1, hv⟩ := bnd_some.1 hv
  obtain ⟨h1', k2, k3, k4⟩ := new_some hv
  cases k2
  have hr := hh.new h.nx (Nat.le_refl _)
  have hh0 : HR σ N ρ h w0 := { live := fun r row e => let ⟨p, a, b⟩ := hh.live r row e; ⟨p, a, b.mono (Sub.refl _) (by rw [h0])⟩, new := hh.new, sep := hh.sep, old := hh.old, rels := hh.rels, glob := hh.glob }
  obtain ⟨g1, g2⟩ := new_cells hh0 (St.refl _ _ _) (Nat.le_refl _) hr (hf.els (cs := cs) (base := 0) (fun j u hu => by rw [Nat.zero_add]; exact hc j u hu) hm (fun i l e => lay0_get k1 i l e)) (e := e) k4 (by omega) (by omega) hfz
  refine ⟨_, g1, ?_, ⟨_, cap, 0, upd_same _ _ _, rfl, .inl rfl, hcap, hcm, hml, hg0, fun s hs => by rw [Nat.zero_add]; exact hg1 s hs⟩⟩
  exact { os := g2.os.trans h1.1, tape := g2.tape.trans h1.2.1, output := g2.output.trans h1.2.2, size := by have := g2.size; rw [h0] at this; exact this, block := fun b hb hn => (g2.block b (by rw [h0]; exact hb) hn).trans (by rw [h0]), rho := g2.rho, owns := fun b hb ho => g2.owns b (by rw [h0]; exact hb) ho, nx := g2.nx, dom := fun q row p e1 e2 => by have := g2.dom q row p e1 e2; rwa [h0] at this, ids := g2.ids, rel := g2.rel, fresh := g2.fresh }
theorem newS_lays {e : TypeId} {sz n m g : Nat} {ls : List (List AV)} (hv : newS e sz n m g ls h = some (v, h')) : Lays h h' ∧ v = .slc h.nx 0 n m g ∧ ∃ t, lay ls 0 .leaf = some t ∧ h'.get h.nx = some (.cells e sz m t true []) := by
  obtain ⟨t, k1, hv⟩ := bnd_some.1 hv
  obtain ⟨h1', k2, k3, k4⟩ := new_some hv
  cases k2
  exact ⟨⟨k3, fun q hq => by rw [k4, if_neg hq], _, by rw [k4, if_pos rfl], rfl⟩, rfl, t, k1, by rw [k4, if_pos rfl]⟩

theorem newS_gen {ρ0 : Rho} {h0 hx hx' : H} {w0 : World} (L : Laid σ N ρ h w ρ0 h0 w0 hx hx' h') {e : TypeId} {sz n m : Nat} {ls : List (List AV)} {cs : Array Value} (hf : FL σ ρ sz ls cs.toList) (hm : ls.length ≤ m) (hv : newS e sz n m 0 ls hx = some (v, hx')) (hcap : n ≤ m) (hml : m ≤ maxLen)
    (run : (execOp a.eval o).run P w = .ok (.value (.slice (some ⟨w.heap.size, 0, none⟩) n m)) (pushed w (.cells cs e))) : Lain P σ N o a ρ w ρ0 h0 w0 hx.nx v h' := by
  obtain ⟨_, rfl, t, k1, k3⟩ := newS_lays hv
  obtain ⟨g1, g2⟩ := new_cells L.hh L.st L.low L.free (hf.els (cs := cs) (base := 0) (fun j u hu => by rw [Nat.zero_add]; simpa using hu) hm (fun i l e => lay0_get k1 i l e)) (e := e) (h' := h') (fun q => by
    rw [L.get]
    by_cases hq : q = hx.nx
    · rw [if_pos hq, if_pos hq, hq, k3]
    · rw [if_neg hq, if_neg hq]) L.nx L.lt (fz := (0, 0)) (.inl rfl)
  exact ⟨_, _, _, run, g1, g2, ⟨_, m, 0, upd_same _ _ _, rfl, .inl rfl, hcap, Nat.le_refl _, hml, fun _ => rfl, fun s hs => nomatch hs⟩, upd_sub L.free _, fun q hq => upd_ne hq⟩
end
end Go.Exe
