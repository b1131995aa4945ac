/- Maps' keys, sorted: what the library's functions give, by its contracts. -/
import Derived.Test.YtflmelafomlllaaGreatExH
import Derived.Lib.SlKeysI
import Derived.Maps.Own
import Derived.Laws.AppendOwn
namespace Go.Exe
open Go Go.RowKit Go.Maps Go.MapKept

section
variable {P : Program} {σ : Sig} {N : Nat} {ρ : Rho} {h h' : H} {w w' : World} {v : AV}

/-- A new row in a block that is new. -/
theorem HR.grown (hh : HR σ N ρ h w) (bl : Below w.heap.size w w') {row : Row} (hg : ∀ q, h'.get q = if q = h.nx then some row else h.get q) (hn : h'.nx = h.nx + 1) (hrl : relOf row = []) {p : Pl} (hp : w.heap.size ≤ p.b) (hrow : RowR σ (upd ρ h.nx p) w' p row) : HR σ N (upd ρ h.nx p) h' w' ∧ St ρ h w (upd ρ h.nx p) h' w' := by
  have hr : ρ h.nx = none := hh.new _ (Nat.le_refl _)
  have sub := upd_sub hr p
  have was : ∀ q row0, h'.get q = some row0 → q ≠ h.nx → h.get q = some row0 := fun q row0 hq hne => by rw [hg, if_neg hne] at hq; exact hq
  have isr : ∀ row0, h'.get h.nx = some row0 → row0 = row := fun row0 hq => by rw [hg, if_pos rfl] at hq; cases hq; rfl
  have upn : ∀ q pq, q ≠ h.nx → upd ρ h.nx p q = some pq → ρ q = some pq := fun q pq hne e => by unfold upd at e; rw [if_neg hne] at e; exact e
  have blk : ∀ q row0 pq, h.get q = some row0 → ρ q = some pq → pq.b ≠ p.b := fun q row0 pq h1 h2 => by
    obtain ⟨p0, h3, h4⟩ := hh.live q row0 h1
    rw [h2] at h3; cases h3
    have := h4.lt
    omega
  have norel : ∀ q, q ∉ relOf row := fun q hq => by rw [hrl] at hq; cases hq
  constructor
  · refine ⟨fun q row0 hq => ?_, fun q hq => ?_, fun q q' row0 row1 pq pq' h1 h2 hne hr1 hr2 hp1 hp2 => ?_, fun q q' row0 row1 h1 h2 h3 => ?_, fun q q' row0 h1 h2 => ?_, fun g hg => let ⟨z, e⟩ := hh.glob g hg; ⟨z, sub _ _ e⟩⟩
    · by_cases hne : q = h.nx
      · subst hne; cases isr _ hq; exact ⟨p, upd_same _ _ _, hrow⟩
      · obtain ⟨pq, h1, h2⟩ := hh.live q row0 (was q row0 hq hne)
        exact ⟨pq, sub _ _ h1, h2.mono sub (bl.block _ h2.lt)⟩
    · unfold upd; rw [if_neg (by omega)]; exact hh.new q (by omega)
    · by_cases e1 : q = h.nx
      · subst e1
        rw [upd_same] at hp1; cases hp1
        exact Ne.symm (blk q' row1 pq' (was _ _ h2 (Ne.symm hne)) (upn q' pq' (Ne.symm hne) hp2))
      · by_cases e2 : q' = h.nx
        · subst e2
          rw [upd_same] at hp2; cases hp2
          exact blk q row0 pq (was _ _ h1 e1) (upn q pq e1 hp1)
        · exact hh.sep q q' row0 row1 pq pq' (was _ _ h1 e1) (was _ _ h2 e2) hne hr1 hr2 (upn _ _ e1 hp1) (upn _ _ e2 hp2)
    · by_cases e1 : q = h.nx
      · subst e1; cases isr _ h1; exact absurd h2 (norel _)
      · by_cases e2 : q' = h.nx
        · subst e2; exact absurd hr (hh.rels q _ row0 (was _ _ h1 e1) h2)
        · exact hh.old q q' row0 row1 (was _ _ h1 e1) h2 (was _ _ h3 e2)
    · by_cases e1 : q = h.nx
      · subst e1; cases isr _ h1; exact absurd h2 (norel _)
      · have := hh.rels q q' row0 (was _ _ h1 e1) h2
        cases hq : ρ q' with
        | none => exact absurd hq this
        | some x => rw [sub _ _ hq]; exact fun h => nomatch h
  · refine ⟨bl.os, bl.tape, bl.output, bl.size, fun b hb _ => bl.block b hb, sub, fun b hb ⟨q, row0, pq, h1, h2, h3, h4⟩ => ?_, by omega, fun q row0 pq h1 h2 => ?_, fun q row0 h1 => ?_, fun q row0 x h1 h2 => ?_, fun q h1 h2 => ?_⟩
    · by_cases e1 : q = h.nx
      · subst e1; rw [upd_same] at h3; cases h3; omega
      · exact ⟨q, row0, pq, was _ _ h1 e1, h2, upn _ _ e1 h3, h4⟩
    · by_cases e1 : q = h.nx
      · subst e1; rw [upd_same] at h2; cases h2; exact .inr (.inl hp)
      · exact .inl ⟨row0, was _ _ h1 e1, upn _ _ e1 h2⟩
    · by_cases e1 : q = h.nx
      · subst e1; exact .inr (Nat.le_refl _)
      · exact .inl ⟨row0, was _ _ h1 e1⟩
    · by_cases e1 : q = h.nx
      · subst e1; cases isr _ h1; exact absurd h2 (norel _)
      · exact .inr (.inr ⟨q, row0, was _ _ h1 e1, h2⟩)
    · unfold upd; rw [if_neg (by omega)]; exact h2

theorem onI64_some {R : Type} {k : AV} {f : Int → Option R} {x : R} (h : onI64 k f = some x) : ∃ n, k = .int .i64 n ∧ f n = some x := by
  unfold onI64 at h
  split at h
  · exact ⟨_, rfl, h⟩
  · cases h
theorem intK_ok : ∀ {l : List (AV × AV × Nat)} {m : List MapEntry} {ks : List Int}, MR σ ρ l m → intK l = some ks → m.map (·.key) = ks.map encZ ∧ ∀ n ∈ ks, inR .i64 n = true
  | [], _, _, hm, e => by cases hm; cases e; exact ⟨rfl, fun n hn => by cases hn⟩
  | (k, c, b) :: l, _, ks, ⟨x, r, h1, h2, h3, h4, h5⟩, e => by
    subst h1
    obtain ⟨n, rfl, e0⟩ := onI64_some (show onI64 k (fun n => ite' (inR .i64 n) (bnd (intK l) fun l => some (n :: l))) = some ks from e)
    obtain ⟨e1, e2⟩ := ite_some.1 e0
    obtain ⟨ks', e3, e4⟩ := bnd_some.1 e2
    cases e4
    obtain ⟨g1, g2⟩ := intK_ok h5 e3
    refine ⟨?_, fun n' hn => ?_⟩
    · rw [List.map_cons, List.map_cons, g1, show x.key = encZ n from h2]
    · rcases List.mem_cons.1 hn with rfl | hn
      · exact e1
      · exact g2 n' hn

theorem freshI_ok (n : Int) : ∀ {l : List Int}, freshI n l = true → n ∉ l
  | [], _ => by simp
  | m :: l, h => by
    have h : Bool.rec (motive := fun _ => Bool) (freshI n l) false (ieq n m) = true := h
    rw [ieq_eq] at h
    by_cases hm : n = m
    · rw [decide_eq_true hm] at h; cases h
    · rw [decide_eq_false hm] at h
      intro hc
      rcases List.mem_cons.1 hc with hc | hc
      · exact hm hc
      · exact freshI_ok n h hc
theorem diffI_ok : ∀ {l : List Int}, diffI l = true → l.Nodup
  | [], _ => List.nodup_nil
  | n :: l, h => by
    have h : Bool.rec (motive := fun _ => Bool) false (diffI l) (freshI n l) = true := h
    cases hf : freshI n l with
    | false => rw [hf] at h; cases h
    | true => rw [hf] at h; exact List.nodup_cons.2 ⟨freshI_ok n hf, diffI_ok h⟩

theorem insI_perm (n : Int) : ∀ l, (insI n l).Perm (n :: l)
  | [] => List.Perm.refl _
  | m :: l => by
    show List.Perm (Bool.rec (motive := fun _ => List Int) (m :: insI n l) (n :: m :: l) (ile n m)) _
    cases ile n m with
    | true => exact List.Perm.refl _
    | false => exact ((insI_perm n l).cons m).trans (.swap n m l)
theorem insI_sorted (n : Int) : ∀ {l : List Int}, l.Pairwise (· ≤ ·) → (insI n l).Pairwise (· ≤ ·)
  | [], _ => List.pairwise_singleton _ _
  | m :: l, h => by
    show List.Pairwise _ (Bool.rec (motive := fun _ => List Int) (m :: insI n l) (n :: m :: l) (ile n m))
    obtain ⟨h1, h2⟩ := List.pairwise_cons.1 h
    rw [ile_eq]
    by_cases hle : n ≤ m
    · rw [decide_eq_true hle]
      refine List.pairwise_cons.2 ⟨fun a ha => ?_, h⟩
      rcases List.mem_cons.1 ha with rfl | ha
      · exact hle
      · exact Int.le_trans hle (h1 a ha)
    · rw [decide_eq_false hle]
      refine List.pairwise_cons.2 ⟨fun a ha => ?_, insI_sorted n h2⟩
      rcases List.mem_cons.1 ((insI_perm n l).mem_iff.1 ha) with rfl | ha
      · omega
      · exact h1 a ha
theorem sortI_perm : ∀ l, (sortI l).Perm l
  | [] => List.Perm.refl _
  | n :: l => (insI_perm n (sortI l)).trans ((sortI_perm l).cons n)
theorem sortI_sorted : ∀ l, (sortI l).Pairwise (· ≤ ·)
  | [] => List.Pairwise.nil
  | n :: l => insI_sorted n (sortI_sorted l)
theorem sortI_eq {ss ks : List Int} (h : ss.Perm ks) : ss.mergeSort (fun x y => decide (x ≤ y)) = sortI ks := by
  have tr : ∀ a b c : Int, leI a b = true → leI b c = true → leI a c = true := fun a b c h1 h2 => by simp only [leI, decide_eq_true_eq] at *; exact Int.le_trans h1 h2
  have to : ∀ a b : Int, (leI a b || leI b a) = true := fun a b => by simp only [leI, Bool.or_eq_true, decide_eq_true_eq]; exact Int.le_total a b
  refine List.Perm.eq_of_pairwise (le := fun a b : Int => a ≤ b) (fun a b _ _ h1 h2 => Int.le_antisymm h1 h2) ?_ (sortI_sorted ks) (((List.mergeSort_perm ss leI).trans h).trans (sortI_perm ks).symm)
  exact (List.pairwise_mergeSort tr to ss).imp fun h => by simpa [leI] using h

theorem cellsI_fl : ∀ l : List Int, FL σ ρ 1 (cellsI l) (l.map encZ)
  | [] => FL.nil 1
  | n :: l => ⟨fun x hx => by
      rcases List.mem_cons.1 hx with rfl | hx
      · rfl
      · exact (cellsI_fl l).len x hx, fun x hx => by
      rcases List.mem_cons.1 hx with rfl | hx
      · rfl
      · exact (cellsI_fl l).one x hx, _, _, rfl, rfl, (cellsI_fl l).lr⟩
theorem cellsI_length : ∀ l : List Int, (cellsI l).length = l.length
  | [] => rfl
  | _ :: l => congrArg Nat.succ (cellsI_length l)

/-- What 'maps.Keys' gives, known to the machine. -/
theorem kok1_keys {f clo : Nat} {t : TypeId} {fn : Func} {c : Code} (hf : P.funcs[f]? = some fn) (hb : fn.body = some c) (hn : (fn.name == "runtime.NumGoroutine") = false)
    (hc : ∀ b W, Calls P f #[.map (some b)] W fun e w' => e = .returned (.func (.func clo) #[] #[.pointer (some ⟨W.heap.size, 0, none⟩)]) ∧ w' = W.alloc (.cells #[.map (some b)] t)) : KOk1 P σ N f (keysO clo) := by
  intro args h v h' e ρ w vs hh hv
  obtain ⟨a, rfl, e0⟩ := one_some e
  clear e
  split at e0
  · rename_i r
    obtain ⟨h1, e1, n1, n2⟩ := new_some e0
    cases e1
    obtain ⟨u, r', q1, q2, q3⟩ := hv
    have q3 : r' = [] := q3
    subst q3
    obtain ⟨pm, k1, rfl⟩ := q2
    have hvs : vs = #[.map (some pm.b)] := by apply Array.ext'; rw [q1]
    subst hvs
    have hcall : (callFunc f #[.map (some pm.b)]).run P w = .ok (.enter f #[.map (some pm.b)]) w := by
      have hn' : fn.name ≠ "runtime.NumGoroutine" := by simpa using hn
      simp [callFunc, hf, hb, hn']
    intro o a next Q k
    rw [hcall]
    show Calls P f _ w _
    refine (hc pm.b w).mono ?_
    rintro e w' ⟨rfl, rfl⟩
    have hr : ρ h.nx = none := hh.new _ (Nat.le_refl _)
    obtain ⟨t1, t2⟩ := hh.add (St.refl _ _ _) (r := h.nx) (Nat.le_refl _) hr (row := .cap (.map r)) (h' := h') n2 (by omega) (by omega) (fun q hq => by cases hq) (o := .cells #[.map (some pm.b)] t) (p := ⟨w.heap.size, 0, 0⟩) rfl ⟨rfl, _, _, _, pushed_new w _, pm, upd_sub hr _ _ _ k1, rfl⟩
    exact k _ _ _ t1 t2 ⟨#[], #[.pointer (some ⟨w.heap.size, 0, none⟩)], rfl, rfl, _, _, rfl, ⟨_, upd_same _ _ _, rfl⟩, rfl⟩
  · cases e0

/-- What 'slices.Sorted' gives of it. -/
theorem kok1_sorted {f clo e0 : Nat} (he : P.underlying e0 = some (.int .i64)) {fn : Func} {c : Code} (hf : P.funcs[f]? = some fn) (hb : fn.body = some c) (hn : (fn.name == "runtime.NumGoroutine") = false)
    (hc : ∀ (Bm b nn : Nat) (D0 : DataW Unit) (R : Value → Option (DataW Unit × List MemPlace)) (w : World), Bm < w.heap.size → w.cell? ⟨Bm, 0, none⟩ = some (.map (some b)) → w.ownsMap P e0 R b nn D0 → Maps.size D0 ≤ maxLen → Maps.size D0 * 8 ≤ 140737488355328 →
      Calls P f #[.func (.func clo) #[] #[.pointer (some ⟨Bm, 0, none⟩)]] w fun e w' => ∃ (v : Value) (ss : List Int), e = .returned v ∧ ss.Perm (intKeys D0) ∧ w'.ownsRow w.heap.size e0 1 v ss.length ((ss.mergeSort (fun x y => decide (x ≤ y))).map encZ) ∧ (v = .slice none 0 0 ↔ ss = []) ∧ Below w.heap.size w w') : KOk1 P σ N f (sortedO clo e0) := by
  intro args h v h' e ρ w vs hh hv
  obtain ⟨a, rfl, e00⟩ := one_some e
  clear e
  have e := e00
  clear e00
  split at e
  · rename_i g nb
    obtain ⟨eg, ea⟩ := ite_some.1 e
    clear e
    have eg := Nat.eq_of_beq_eq_true eg
    subst eg
    obtain ⟨m, e1, eb⟩ := onCap_some ea
    clear ea
    split at eb
    · rename_i r
      obtain ⟨l, ck, e2, e7⟩ := onMap_some eb
      obtain ⟨ks, e3, e8⟩ := bnd_some.1 e7
      obtain ⟨e4, e9⟩ := ite_some.1 e8
      obtain ⟨e5, e10⟩ := ite_some.1 e9
      obtain ⟨e6, e⟩ := ite_some.1 e10
      clear eb e7 e8 e9 e10
      obtain ⟨u, r', q1, q2, q3⟩ := hv
      have q3 : r' = [] := q3
      subst q3
      obtain ⟨fs, cs, rfl, q4, q5⟩ := q2
      obtain ⟨pv, rr, q6, ⟨p, k1, rfl⟩, q7⟩ := q5
      have q7 : rr = [] := q7
      subst q7
      obtain ⟨p', k2, k3, u, ty, fz, k4, pm, k5, rfl⟩ := hh.live nb _ e1
      rw [k1] at k2; cases k2
      have hfs : fs = #[] := by apply Array.ext'; exact q4
      have hcs : cs = #[.pointer (some ⟨p.b, 0, none⟩)] := by apply Array.ext'; rw [q6, k3]
      have hvs : vs = #[.func (.func g) #[] #[.pointer (some ⟨p.b, 0, none⟩)]] := by apply Array.ext'; rw [q1, hfs, hcs]
      subst hvs
      obtain ⟨pm', es, j1, j2, j3, j4⟩ := map_live hh e2 (y := .map (some pm.b)) ⟨pm, k5, rfl⟩
      rw [k5] at j1; cases j1
      obtain ⟨x1, x2⟩ := intK_ok j4 e3
      obtain ⟨b1, b2⟩ := bornOk_ok j4 e5
      have nd := diffI_ok e4
      rw [len_eq] at e6
      have e6 := Nat.le_of_ble_eq_true e6
      have hsz : es.size = ks.length := by
        have := congrArg List.length x1
        simpa using this
      let R : Value → Option (DataW Unit × List MemPlace) := fun _ => some (.nil, [])
      have rd1 : ∀ x ∈ es.toList, ∃ n, x.key = encZ n ∧ WideElems.rd P e0 R x = some (.int .i64 n, .nil) := fun x hx => by
        have hk : x.key ∈ ks.map encZ := by rw [← x1]; exact List.mem_map_of_mem hx
        obtain ⟨n, hn1, hn2⟩ := List.mem_map.1 hk
        refine ⟨n, hn2.symm, ?_⟩
        have hr := x2 n hn1
        have hw : (Lit.int .i64 n).wf = true := by
          unfold inR at hr
          cases n with
          | ofNat a => have := Nat.le_of_ble_eq_true hr; simp [Lit.wf, IntKind.min, IntKind.max, IntKind.bits, IntKind.signed]; omega
          | negSucc a => have := Nat.le_of_ble_eq_true hr; simp [Lit.wf, IntKind.min, IntKind.max, IntKind.bits, IntKind.signed]; omega
        simp [WideElems.rd, keyOf, he, mapKey, ← hn2, hw, R]
      have fit : WideElems.Fit P e0 R es ck := ⟨by rw [hsz]; simp only [maxLen]; omega, ⟨b1, b2, by rw [x1]; exact List.Pairwise.map _ (fun a b hab hc => hab (encZ_inj hc)) nd⟩, fun x hx => let ⟨n, _, h2⟩ := rd1 x hx; ⟨_, h2⟩⟩
      have own : w.ownsMap P e0 R pm.b es.size (.map ((es.toList.map (WideElems.rg P e0 R)).foldr DataW.insert [])) := ⟨es, ck, j3, fit, Nat.le_refl _, rfl⟩
      have perm : (intKeys (.map ((es.toList.map (WideElems.rg P e0 R)).foldr DataW.insert []))).Perm ks := by
        have h1 := (WideShapes.sorted_perm (es.toList.map (WideElems.rg P e0 R))).map fun p => intOf p.1
        refine h1.trans ?_
        have : (es.toList.map (WideElems.rg P e0 R)).map (fun p => intOf p.1) = ks := by
          have h2 : ((es.toList.map (WideElems.rg P e0 R)).map fun p => intOf p.1).map encZ = ks.map encZ := by
            rw [← x1, List.map_map, List.map_map]
            refine List.map_congr_left fun x hx => ?_
            obtain ⟨n, g1, g2⟩ := rd1 x hx
            simp [WideElems.rg, g2, intOf, g1]
          exact (List.map_inj_right fun a b h => encZ_inj h).1 h2
        rw [this]
      have size : Maps.size (.map ((es.toList.map (WideElems.rg P e0 R)).foldr DataW.insert []) : DataW Unit) = ks.length := by
        rw [Maps.size_eq, (WideShapes.sorted_perm _).length_eq]; simp [hsz]
      have hcall : ∀ vs, (callFunc f vs).run P w = .ok (.enter f vs) w := fun vs => by
        have hn' : fn.name ≠ "runtime.NumGoroutine" := by simpa using hn
        simp [callFunc, hf, hb, hn']
      have hcell : w.cell? ⟨p.b, 0, none⟩ = some (.map (some pm.b)) := by simp [World.cell?, k4]
      have call := hc p.b pm.b es.size _ R w (Array.getElem?_eq_some_iff.1 k4).1 hcell own (by rw [size]; simp only [maxLen]; omega) (by rw [size]; omega)
      intro o a next Q k
      rw [hcall]
      show Calls P f _ w _
      refine call.mono ?_
      rintro ex w' ⟨vv, ss, rfl, s1, s2, s3, s4⟩
      have s1 := s1.trans perm
      rw [sortI_eq s1] at s2
      cases ks with
      | nil =>
        cases e
        have hss : ss = [] := List.eq_nil_of_length_eq_zero (by rw [s1.length_eq]; rfl)
        obtain ⟨t1, t2⟩ := hh.below s4
        exact k ρ _ w' t1 t2 (s3.2 hss)
      | cons n ks =>
        have e : force (len (n :: ks)) (fun n' => newS e0 1 n' n' 2 (cellsI (sortI (n :: ks))) h) = some (v, h') := e
        rw [force_eq, len_eq] at e
        have hlen : ss.length = (n :: ks).length := s1.length_eq
        obtain ⟨s5, s6⟩ := s2
        rcases s6 with ⟨_, hz⟩ | ⟨g0, cap, cur, rfl, hg0, hg1, c1, c2, c3, c4⟩
        · rw [hlen] at hz; simp at hz
        · have lays := newS_lays e
          obtain ⟨⟨l1, l2, _⟩, rfl, t, l3, l4⟩ := lays
          have fl := cellsI_fl (σ := σ) (ρ := upd ρ h.nx ⟨g0, 0, cur.size⟩) (sortI (n :: ks))
          have hsl : (sortI (n :: ks)).length = (n :: ks).length := (sortI_perm _).length_eq
          have els : Els σ (upd ρ h.nx ⟨g0, 0, cur.size⟩) cur 0 1 (n :: ks).length t := fl.els (base := 0) (fun j u hj => by
            rw [Nat.zero_add]
            rw [← c4, Nat.mul_one, List.getElem?_take] at hj
            split at hj
            · simpa using hj
            · cases hj) (by rw [cellsI_length, hsl]; exact Nat.le_refl _) (fun i l hi => lay0_get l3 i l hi)
          obtain ⟨t1, t2⟩ := hh.grown s4 (row := .cells e0 1 (n :: ks).length t true []) (h' := h') (fun q => by
            by_cases hq : q = h.nx
            · rw [if_pos hq, hq, l4]
            · rw [if_neg hq]; exact l2 q hq) l1 rfl (p := ⟨g0, 0, cur.size⟩) hg0 ⟨cur, (0, 0), hg1, rfl, ⟨Nat.zero_mod _, fun _ => .inl rfl⟩, els⟩
          refine k _ _ w' t1 t2 ⟨⟨g0, 0, cur.size⟩, cap, 0, upd_same _ _ _, by rw [hlen], .inl rfl, by rw [← hlen]; exact c1, by rw [← hlen]; exact c1, c2, (fun h => nomatch h), fun s hs => ?_⟩
          have : s = 1 := by omega
          subst this
          show 0 + cap * 1 ≤ cur.size
          rw [c3]; omega
    · cases eb
  · cases e
end
end Go.Exe
