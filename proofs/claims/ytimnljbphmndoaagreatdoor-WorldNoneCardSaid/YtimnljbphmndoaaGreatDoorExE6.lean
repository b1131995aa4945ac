/- Conversions, small builtins. -/
import Derived.Test.YtimnljbphmndoaaGreatDoorExE5
import Derived.Laws.LoneSync
import Derived.Lib.Builder
namespace Go.Exe
open Go

section
variable {P : Program} {σ : Sig} {N : Nat} {ρ : Rho} {h h' : H} {w w' : World} {o : Oper} {a : Act} {v : AV}

theorem byteOf_some {x : AV} {b : Nat} (h : byteOf x = some b) : x = .int .u8 (b : Int) ∧ b < 256 := by
  unfold byteOf at h
  split at h
  · obtain ⟨h1, h⟩ := ite_some.1 h
    cases h
    have := Nat.le_of_ble_eq_true h1
    exact ⟨rfl, by omega⟩
  · cases h

/-- Elements that are bytes. -/
theorem bytesOf_some : ∀ {ls : List (List AV)} {x : Nat}, bytesOf ls = some x → ∃ bs : List UInt8, bs.length = ls.length ∧ bytesN bs = x ∧ ls.flatten = bs.map fun b => AV.int .u8 (b.toNat : Nat)
  | [], x, h => by cases h; exact ⟨[], rfl, rfl, rfl⟩
  | l :: ls, x, h => by
    match l, h with
    | [], h => exact nomatch h
    | _ :: _ :: _, h => exact nomatch h
    | [y], h =>
      obtain ⟨b, h1, h⟩ := bnd_some.1 (show bnd (byteOf y) (fun b => bnd (bytesOf ls) fun n => force (Nat.add b (Nat.shiftLeft n 8)) fun n => some n) = some x from h)
      obtain ⟨n, h2, h⟩ := bnd_some.1 h
      rw [force_eq] at h
      cases h
      obtain ⟨rfl, hb⟩ := byteOf_some h1
      obtain ⟨bs, k1, k2, k3⟩ := bytesOf_some h2
      have hbt : (UInt8.ofNat b).toNat = b := by simp; omega
      refine ⟨UInt8.ofNat b :: bs, by simp [k1], ?_, ?_⟩
      · rw [bytesN_cons, hbt, k2]
        show b + 256 * n = b + n <<< 8
        rw [Nat.shiftLeft_eq]; omega
      · rw [List.flatten_cons, k3, List.map_cons, hbt]; rfl

theorem foldl_push : ∀ (l : List Int) (s : ByteArray), l.foldl (fun r n => r.push (UInt8.ofNat n.toNat)) s = ⟨s.data ++ (l.map fun a => UInt8.ofNat a.toNat).toArray⟩
  | [], s => by simp
  | a :: l, s => by
    rw [List.foldl_cons, foldl_push l]
    simp [ByteArray.push]

theorem bytes_vals {ls : List (List AV)} {bs : List UInt8} (h : ls.flatten = bs.map fun b => AV.int .u8 (b.toNat : Nat)) {vs : List Value} (hl : LR σ ρ ls.flatten vs) : vs = bs.map fun b => Value.int .u8 (b.toNat : Nat) := by
  rw [h] at hl
  have hlen := hl.length
  apply List.ext_getElem?
  intro j
  rcases Nat.lt_or_ge j bs.length with hj | hj
  · obtain ⟨u, h1, h2⟩ := hl.get j (.int .u8 ((bs[j].toNat : Nat) : Int)) (by simp [hj])
    rw [h1]
    have h2 : u = .int .u8 ((bs[j].toNat : Nat) : Int) := h2
    simp [hj, h2]
  · rw [List.getElem?_eq_none (by simp at hlen; omega), List.getElem?_eq_none (by simpa using hj)]

theorem u8T_some {t : TypeId} (h : u8T P t = true) : P.underlying t = some (.int .u8) := by
  unfold u8T at h
  split at h
  · assumption
  · cases h
theorem bytesT_some {d : TypeDesc} (h : bytesT P d = true) : ∃ e, d = .slice e ∧ P.underlying e = some (.int .u8) := by
  unfold bytesT at h
  split at h
  · exact ⟨_, rfl, u8T_some h⟩
  · cases h

theorem run_stringToBytes (w : World) (e : TypeId) (b : ByteArray) : ∃ fz : Nat × Nat, grownCap w b.size 0 e ≤ fz.1 ∧
    (Conv.stringToBytes e b).run P w = .ok (.slice (some ⟨w.heap.size, 0, none⟩) b.size (grownCap w b.size 0 e)) (w.drew.alloc (.cells (b.data.map (fun x => Value.int .u8 x.toNat) ++ Array.replicate (grownCap w b.size 0 e - b.size) (.int .u8 0)) e fz)) := by
  have hsz : b.data.size = b.size := rfl
  have hge := grownCap_ge w b.size 0 e
  unfold Conv.stringToBytes
  simp only [Sem.run_bind, run_choose_drew, Question.forced, Bool.false_eq_true, if_false, Result.andThen_ok]
  rw [show (Question.appendCap b.size 0 e).cut (w.tape w.drawn (.appendCap b.size 0 e)) = grownCap w b.size 0 e from rfl]
  have key : ∀ (w : World) (cs : Array Value), (w.alloc (.cells cs e)).freeze ⟨w.heap.size, cs.size, none⟩ 1 = w.alloc (.cells cs e (cs.size, cs.size + 1)) := fun w cs => by
    simp only [World.freeze, World.alloc, Nat.one_ne_zero, if_false]
    congr 1
    apply Array.ext
    · simp
    · intro i h1 h2
      rw [Array.getElem_modify]
      by_cases hi : i = w.heap.size
      · subst hi; simp
      · have : i < w.heap.size := by simp at h2; omega
        simp [Array.getElem_push_lt this, Ne.symm hi]
  refine ⟨(grownCap w b.size 0 e, grownCap w b.size 0 e + 1), Nat.le_refl _, ?_⟩
  have hcs : (b.data.map (fun x => Value.int .u8 x.toNat) ++ Array.replicate (grownCap w b.size 0 e - b.size) (Value.int .u8 0)).size = grownCap w b.size 0 e := by simp; omega
  have := key w.drew (b.data.map (fun x => Value.int .u8 x.toNat) ++ Array.replicate (grownCap w b.size 0 e - b.size) (Value.int .u8 0))
  rw [hcs] at this
  generalize hcc : (b.data.map (fun x => Value.int .u8 x.toNat) ++ Array.replicate (grownCap w b.size 0 e - b.size) (Value.int .u8 0)) = cs at *
  have hsh : (w.drew.alloc (.cells cs e)).shape? w.heap.size = some (e, grownCap w b.size 0 e) := by
    have := (MapKept.heap_alloc w.drew (.cells cs e)).1
    simp only [World.shape?]
    rw [show w.heap.size = w.drew.heap.size from rfl, this]
    simp [hcs]
  simp [newRow, markStringish, hsh]
  exact this

theorem row_same {fits : TypeId → Bool} {e : TypeId} {sz : Nat} (hc : P.cellsOf e = sz) {r : Nat} (hr : r < sz) : ∀ {d : Nat}, rowAt P fits d e 1 r 1 = true → ∀ {count off : Nat}, off % sz = r → off / sz + 1 ≤ count → rowAt P fits d e count off 1 = true
  | 0, h, _, _, _, _ => nomatch h
  | d + 1, h, count, off, ho, hk => by
    rw [rowAt] at h ⊢
    have h0 : ¬ sz = 0 := by omega
    have h1 : r / sz = 0 := Nat.div_eq_of_lt hr
    have h2 : r % sz = r := Nat.mod_eq_of_lt hr
    have h3 : off / sz < count := by omega
    simp only [hc, h0, if_false, h1, h2, ho] at h ⊢
    simp only [h3, hk, decide_true, Nat.zero_add, Nat.le_refl, Nat.zero_lt_one, Bool.true_and, Bool.and_true] at h ⊢
    exact h
theorem lies_same {e u : TypeId} {sz : Nat} (hc : P.cellsOf e = sz) {r : Nat} (hr : r < sz) (hl : rowAt P (sameLayout P P.depth · u) P.depth e 1 r 1 = true) {count off : Nat} (ho : off % sz = r) (h : off / sz + 1 ≤ count) : liesAt P P.depth e count off u 1 = true := by
  have hrow := row_same hc hr hl ho h
  have hd : P.depth = (P.depth - 1) + 1 := by simp only [Program.depth]; omega
  rw [hd] at hrow ⊢
  rw [liesAt]
  simp only [← hd] at hrow ⊢
  simp [hrow]

theorem toUnsafeO_ok (hh : HR σ N ρ h w) {s t : TypeId} {ds : TypeDesc} (us : P.underlying s = some ds) (ut : P.underlying t = some .unsafePointer) {x : AV} (e : toUnsafeO P ds x h = some (v, h')) {y : Value} (hy : VR σ ρ x y) : Gives P σ N ρ h w (convert s t y) v h' := by
  obtain ⟨u, h1, e⟩ := bnd_some.1 e
  obtain ⟨n, h2, e⟩ := bnd_some.1 e
  obtain ⟨h3, e9⟩ := ite_some.1 e
  have h3 := Nat.le_of_ble_eq_true h3
  have hds : ds = .pointer u := by
    unfold ptrT at h1
    split at h1
    · cases h1; rfl
    · cases h1
  subst hds
  split at e9
  · cases e9; cases hy
    exact ⟨ρ, _, w, by simp [convert, run_underlying us, run_underlying ut, Conv.unsafePointer], hh, St.refl _ _ _, rfl⟩
  · rename_i r o
    obtain ⟨l, h4, e8⟩ := bnd_some.1 e9
    cases e8
    obtain ⟨_, h5, p, h6, vs, h7, h8⟩ := loadH_ok hh h4
    obtain ⟨p', h9, rfl⟩ := hy
    rw [h6] at h9; cases h9
    have hl := h7.length
    obtain ⟨c, hc⟩ : ∃ c, vs[0]? = some c := ⟨vs[0]'(by omega), List.getElem?_eq_getElem _⟩
    obtain ⟨i, g1, g2⟩ := bnd_some.1 h2
    have g1 : P.info? u = some i := g1
    have g2 : i.size = n := by injection g2
    have hz : ¬ i.size = 0 := by omega
    refine ⟨ρ, _, w, run_convert_to_unsafe us ut (by rw [g1]; simp [hz]) (h8 0 c hc), hh, St.refl _ _ _, p, h6, rfl⟩
  · cases e9

theorem fromUnsafeO_ok (hh : HR σ N ρ h w) {s t u : TypeId} {ds : TypeDesc} (us : P.underlying s = some ds) (ut : P.underlying t = some (.pointer u)) {x : AV} (e : fromUnsafeO P ds u x h = some (v, h')) {y : Value} (hy : VR σ ρ x y) : Gives P σ N ρ h w (convert s t y) v h' := by
  obtain ⟨h1, e9⟩ := ite_some.1 e
  have hds : ds = .unsafePointer := by
    unfold isUns at h1
    split at h1
    · rfl
    · cases h1
  subst hds
  split at e9
  · cases e9; cases hy
    exact ⟨ρ, _, w, by simp [convert, run_underlying us, run_underlying ut, Conv.unsafePointer], hh, St.refl _ _ _, rfl⟩
  · rename_i r o
    obtain ⟨el, sz, n, tr, wr, rel, h2, e⟩ := onCells_some e9
    obtain ⟨s1, h3, e⟩ := bnd_some.1 e
    obtain ⟨h4, e⟩ := ite_some.1 e
    obtain ⟨h5, e⟩ := ite_some.1 e
    obtain ⟨l, h7, e⟩ := bnd_some.1 e
    obtain ⟨s2, h8, e⟩ := bnd_some.1 e
    obtain ⟨h9, e⟩ := ite_some.1 e
    cases e
    have h4 : s1 = sz := Nat.eq_of_beq_eq_true h4
    have h5 := Nat.le_of_ble_eq_true h5
    subst h4
    obtain ⟨p, g1, cs, fz, g2, _, g4, g5⟩ := hh.live r _ h2
    obtain ⟨p', g6, rfl⟩ := hy
    rw [g1] at g6; cases g6
    obtain ⟨_, k1, k2⟩ := g5 _ _ (show tr.get (o / s1) = some l from h7)
    obtain ⟨j, i1, _⟩ := bnd_some.1 h8
    have i1 : P.info? u = some j := i1
    obtain ⟨j2, i2, i3⟩ := bnd_some.1 h3
    have i2 : P.info? el = some j2 := i2
    have i3 : j2.size = s1 := by injection i3
    have hc : P.cellsOf el = s1 := by simp [Program.cellsOf, i2, i3]
    have hdm := dm o s1
    obtain ⟨c, hc1, _⟩ := k2.2 (s1 - 1) (l[s1 - 1]'(by omega)) (List.getElem?_eq_getElem _)
    have hlt := (Array.getElem?_eq_some_iff.1 hc1).1
    have hoff : (p.base + o) % s1 = o % s1 := by rw [Nat.add_mod, g4.1, Nat.zero_add, Nat.mod_mod]
    have hfit : (p.base + o) / s1 + 1 ≤ cs.size / s1 := by
      rw [Nat.le_div_iff_mul_le (by omega), Nat.add_mul, Nat.one_mul]
      have h1 := dm (p.base + o) s1
      rw [hoff] at h1
      omega
    have hsh : w.shape? p.b = some (el, cs.size) := by simp [World.shape?, g2]
    refine ⟨ρ, _, w, Lib.run_from_unsafe w ⟨p.b, p.base + o, none⟩ us ut i1 hsh (by rw [hc]; exact lies_same hc (Nat.mod_lt _ h5) h9 hoff hfit), hh, St.refl _ _ _, p, g1, rfl⟩
  · cases e9

theorem convertO_ok (hh : HR σ N ρ h w) {s t : TypeId} {x : AV} (e : convertO P s t x h = some (v, h')) {y : Value} (hy : VR σ ρ x y) : Gives P σ N ρ h w (convert s t y) v h' := by
  unfold convertO at e
  cases hs : undOf P s with
  | none => rw [hs] at e; exact nomatch e
  | some ds =>
    rw [hs] at e
    cases ht : undOf P t with
    | none => rw [ht] at e; exact nomatch e
    | some d =>
      rw [ht] at e
      have us := und_some hs
      have ut := und_some ht
      dsimp only at e
      split at e
      · split at e
        · obtain ⟨v', h1, h2⟩ := bnd_some.1 e
          rw [mkI_eq] at h1
          cases h1; cases h2; cases hy
          exact ⟨ρ, _, w, by simp [convert, run_underlying us, run_underlying ut, Conv.intToInt], hh, St.refl _ _ _, rfl⟩
        · cases e
      · split at e
        · cases e
          obtain ⟨b, rfl, h1, h2⟩ := hy
          exact ⟨ρ, _, w, by simp [convert, run_underlying us, run_underlying ut], hh, St.refl _ _ _, b, rfl, h1, h2⟩
        · obtain ⟨h1, e⟩ := ite_some.1 e
          cases e; cases hy
          obtain ⟨el, rfl, h2⟩ := bytesT_some h1
          exact ⟨ρ, .string .empty, w, by simp [convert, run_underlying us, run_underlying ut, run_underlying h2, Conv.bytesToString], hh, St.refl _ _ _, _, rfl, rfl, rfl⟩
        · rename_i r q n c g
          obtain ⟨h1, e1⟩ := ite_some.1 e
          obtain ⟨ls, h2, e2⟩ := bnd_some.1 e1
          obtain ⟨x, h3, e3⟩ := bnd_some.1 e2
          cases e3
          obtain ⟨el, rfl, h4⟩ := bytesT_some h1
          obtain ⟨k1, vs, k2, k3⟩ := elemsOf_ok (P := P) hh h2 hy
          obtain ⟨bs, b1, b2, b3⟩ := bytesOf_some h3
          have hv := bytes_vals b3 k2.lr
          have hfc := k3 w rfl
          obtain ⟨p, cap, off, q1, rfl, q2⟩ := hy
          have hload : (loadCells ⟨p.b, off, none⟩ n).run P w = .ok ((bs.map fun b => ((b.toNat : Nat) : Int)).map (Value.int .u8)).toArray w := by
            have : (Builtin.firstCells 1 n (.slice (some ⟨p.b, off, none⟩) n cap)).run P w = (loadCells ⟨p.b, off, none⟩ n).run P w := by simp [Builtin.firstCells]
            rw [← this, hfc, hv, List.map_map]; rfl
          have hrun := run_bytesToString (P := P) w ⟨p.b, off, none⟩ n cap (bs.map fun b => ((b.toNat : Nat) : Int)) hload
          rw [foldl_push] at hrun
          have hdata : ((bs.map fun b => ((b.toNat : Nat) : Int)).map fun a => UInt8.ofNat a.toNat) = bs := by
            rw [List.map_map]
            have : ((fun a : Int => UInt8.ofNat a.toNat) ∘ fun b : UInt8 => ((b.toNat : Nat) : Int)) = id := by funext b; simp
            rw [this, List.map_id]
          rw [hdata] at hrun
          refine ⟨ρ, _, w, by simp [convert, run_underlying us, run_underlying ut, run_underlying h4, hrun]; rfl, hh, St.refl _ _ _, _, rfl, ?_, ?_⟩
          · simp [b1, k1]
          · simpa using b2
        · cases e
      · rename_i el
        split at e
        · rename_i n x
          obtain ⟨h1, e1⟩ := ite_some.1 e
          obtain ⟨h2, e2⟩ := ite_some.1 e1
          have h4 := u8T_some h1
          have h2 := Nat.le_of_ble_eq_true h2
          obtain ⟨b, rfl, rfl, rfl⟩ := hy
          obtain ⟨fz, f1, hrun⟩ := run_stringToBytes (P := P) w el b
          have hbs : b.size = b.data.toList.length := (Array.length_toList (xs := b.data)).symm
          have hge := grownCap_ge w b.size 0 el
          have hml := grownCap_le_maxLen w b.size 0 el (by simp only [maxLen]; omega)
          have hcs : (b.data.map (fun x => Value.int .u8 x.toNat) ++ Array.replicate (grownCap w b.size 0 el - b.size) (Value.int .u8 0)).size = grownCap w b.size 0 el := by
            simp; have : b.data.size = b.size := rfl; omega
          have hfl := bytesL_fl (σ := σ) (ρ := ρ) b.data.toList (Nat.le_refl _)
          obtain ⟨ρ', g1, g2, g3⟩ := newS_ok (cap := grownCap w b.size 0 el) (w0 := w.drew) (fz := fz) hh hfl (by rw [bytesL_length]; exact Nat.le_refl _) e2 rfl ⟨rfl, rfl, rfl⟩ (cs := b.data.map (fun x => Value.int .u8 x.toNat) ++ Array.replicate (grownCap w b.size 0 el - b.size) (.int .u8 0)) (fun j u hu => by
            have hj : j < b.data.toList.length := by have := (List.getElem?_eq_some_iff.1 hu).1; simpa using this
            rw [Array.getElem?_append_left (by simpa using hj)]
            rw [List.take_length] at hu
            simpa using hu) (by omega) (by omega) hml (fun hg => nomatch hg) (fun s hs => by cases hs; rw [hcs]; omega) (.inr (by rw [hcs]; exact f1))
          refine ⟨ρ', _, _, ?_, g1, g2, g3⟩
          rw [show b.data.toList.length = b.size from hbs.symm]
          simp only [convert, Sem.run_bind, run_underlying us, run_underlying ut, Result.andThen_ok, run_underlying h4, hrun]
          rfl
        · cases e
      · exact toUnsafeO_ok hh us ut e hy
      · exact fromUnsafeO_ok hh us ut e hy
      · cases e

theorem lenO_ok (hh : HR σ N ρ h w) {t : TypeId} {x : AV} (e : lenO P t x h = some (v, h')) {y : Value} (hy : VR σ ρ x y) : Gives P σ N ρ h w (Builtin.len_ #[t] o.type #[y]) v h' := by
  unfold lenO at e
  cases ht : undOf P t with
  | none => rw [ht] at e; exact nomatch e
  | some d =>
    rw [ht] at e
    have ut := und_some ht
    dsimp only at e
    split at e
    · cases e
      exact ⟨ρ, _, w, by simp [Builtin.len_, run_underlying ut, goInt], hh, St.refl _ _ _, rfl⟩
    · split at e
      · cases e
        obtain ⟨b, rfl, rfl, h2⟩ := hy
        have hbs : b.size = b.data.toList.length := (Array.length_toList (xs := b.data)).symm
        refine ⟨ρ, .int .i64 (b.size : Int), w, by simp [Builtin.len_, run_underlying ut, goInt], hh, St.refl _ _ _, ?_⟩
        rw [hbs]; rfl
      · cases e
    · split at e
      · cases e; cases hy
        exact ⟨ρ, _, w, by simp [Builtin.len_, run_underlying ut, goInt], hh, St.refl _ _ _, rfl⟩
      · cases e
        obtain ⟨p, cap, off, h1, rfl, h2⟩ := hy
        exact ⟨ρ, _, w, by simp [Builtin.len_, run_underlying ut, goInt], hh, St.refl _ _ _, rfl⟩
      · cases e
    · split at e
      · cases e; cases hy
        exact ⟨ρ, _, w, by simp [Builtin.len_, run_underlying ut, goInt], hh, St.refl _ _ _, rfl⟩
      · obtain ⟨l, c, h1, e1⟩ := onMap_some e
        rw [force_eq] at e1
        cases e1
        obtain ⟨p, h2, es, h3, h4⟩ := hh.live _ _ h1
        obtain ⟨p', h5, rfl⟩ := hy
        rw [h2] at h5; cases h5
        have hlen : es.size = l.length := by
          have : ∀ (l : List (AV × AV × Nat)) (m : List MapEntry), MR σ ρ l m → m.length = l.length := by
            intro l
            induction l with
            | nil => intro m h; cases h; rfl
            | cons x l ih => intro m ⟨y, r, k1, _, _, _, k2⟩; rw [k1]; simp [ih r k2]
          simpa using this l es.toList h4
        refine ⟨ρ, .int .i64 (es.size : Int), w, by simp [Builtin.len_, run_underlying ut, goInt, MapKept.run_getObj_map h3], hh, St.refl _ _ _, ?_⟩
        rw [len_eq, hlen]; rfl
      · cases e
    · split at e
      · cases e; cases hy
        exact ⟨ρ, _, w, by simp [Builtin.len_, run_underlying ut, goInt], hh, St.refl _ _ _, rfl⟩
      · obtain ⟨n, l, h1, e1⟩ := onChan_some e
        rw [force_eq] at e1
        cases e1
        obtain ⟨p, h2, bs, s, r, h3, h4⟩ := hh.live _ _ h1
        obtain ⟨p', h5, rfl⟩ := hy
        rw [h2] at h5; cases h5
        have hlen : bs.size = l.length := by simpa using h4.length
        have hg : (getObj p.b).run P w = .ok (.chan n bs false s r false) w := by simp [getObj, Sem.run, h3]
        refine ⟨ρ, .int .i64 (bs.size : Int), w, by simp [Builtin.len_, run_underlying ut, goInt, hg], hh, St.refl _ _ _, ?_⟩
        rw [len_eq, hlen]; rfl
      · cases e
    · cases e

theorem capO_ok (hh : HR σ N ρ h w) {t : TypeId} {x : AV} (e : capO P t x h = some (v, h')) {y : Value} (hy : VR σ ρ x y) : Gives P σ N ρ h w (Builtin.cap_ #[t] o.type #[y]) v h' := by
  obtain ⟨el, h1, e⟩ := bnd_some.1 e
  have ut := sliceE_some h1
  split at e
  · cases e; cases hy
    exact ⟨ρ, _, w, by simp [Builtin.cap_, run_underlying ut, goInt], hh, St.refl _ _ _, rfl⟩
  · cases e
    obtain ⟨p, cap, off, h1, rfl, h2, h3, h4, h5, h6, h7⟩ := hy
    refine ⟨ρ, .int .i64 (cap : Int), w, by simp [Builtin.cap_, run_underlying ut, goInt], hh, St.refl _ _ _, ?_⟩
    rw [h6 rfl]; rfl
  · cases e

theorem minmax_max (w : World) : ∀ {l : List AV} {x v : AV}, minmax false l x = some v → ∀ {m : List Value} {y : Value}, LR σ ρ l m → VR σ ρ x y → ∃ u, VR σ ρ v u ∧ (m.foldlM Builtin.max2 y).run P w = .ok u w
  | [], x, v, e, m, y, hm, hy => by cases e; cases hm; exact ⟨y, hy, by simp⟩
  | b :: l, x, v, e, m, y, ⟨u, r, h1, h2, h3⟩, hy => by
    subst h1
    match x, b, e, hy, h2 with
    | .int k i, .int j n, e, hy, h2 =>
      cases hy; cases h2
      obtain ⟨hk, e⟩ := ite_some.1 (show ite' (kEq k j) (Bool.rec (minmax false l (.int k i)) (minmax false l (.int k n)) (ile i n)) = some v from e)
      rw [ile_eq] at e
      rw [List.foldlM_cons]
      by_cases hin : i ≤ n
      · rw [decide_eq_true hin] at e
        obtain ⟨u, k1, k2⟩ := minmax_max w (show minmax false l (.int k n) = some v from e) h3 (show VR σ ρ (.int k n) (.int k n) from rfl)
        refine ⟨u, k1, ?_⟩
        have : (if n > i then n else i) = n := by split <;> omega
        simp only [Builtin.max2, this, Sem.run_bind, Sem.run_pure, Result.andThen_ok, k2]
      · rw [decide_eq_false hin] at e
        obtain ⟨u, k1, k2⟩ := minmax_max w (show minmax false l (.int k i) = some v from e) h3 (show VR σ ρ (.int k i) (.int k i) from rfl)
        refine ⟨u, k1, ?_⟩
        have : (if n > i then n else i) = i := by split <;> omega
        simp only [Builtin.max2, this, Sem.run_bind, Sem.run_pure, Result.andThen_ok, k2]
theorem minmax_min (w : World) : ∀ {l : List AV} {x v : AV}, minmax true l x = some v → ∀ {m : List Value} {y : Value}, LR σ ρ l m → VR σ ρ x y → ∃ u, VR σ ρ v u ∧ (m.foldlM Builtin.min2 y).run P w = .ok u w
  | [], x, v, e, m, y, hm, hy => by cases e; cases hm; exact ⟨y, hy, by simp⟩
  | b :: l, x, v, e, m, y, ⟨u, r, h1, h2, h3⟩, hy => by
    subst h1
    match x, b, e, hy, h2 with
    | .int k i, .int j n, e, hy, h2 =>
      cases hy; cases h2
      obtain ⟨hk, e⟩ := ite_some.1 (show ite' (kEq k j) (Bool.rec (minmax true l (.int k n)) (minmax true l (.int k i)) (ile i n)) = some v from e)
      rw [ile_eq] at e
      rw [List.foldlM_cons]
      by_cases hin : i ≤ n
      · rw [decide_eq_true hin] at e
        obtain ⟨u, k1, k2⟩ := minmax_min w (show minmax true l (.int k i) = some v from e) h3 (show VR σ ρ (.int k i) (.int k i) from rfl)
        refine ⟨u, k1, ?_⟩
        have : (if n < i then n else i) = i := by split <;> omega
        simp only [Builtin.min2, this, Sem.run_bind, Sem.run_pure, Result.andThen_ok, k2]
      · rw [decide_eq_false hin] at e
        obtain ⟨u, k1, k2⟩ := minmax_min w (show minmax true l (.int k n) = some v from e) h3 (show VR σ ρ (.int k n) (.int k n) from rfl)
        refine ⟨u, k1, ?_⟩
        have : (if n < i then n else i) = n := by split <;> omega
        simp only [Builtin.min2, this, Sem.run_bind, Sem.run_pure, Result.andThen_ok, k2]
end
end Go.Exe
