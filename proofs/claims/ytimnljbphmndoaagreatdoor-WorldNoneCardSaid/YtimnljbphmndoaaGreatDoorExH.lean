/- The top: calls of closed functions. -/
import Derived.Test.YtimnljbphmndoaaGreatDoorExG7
import Derived.Laws.Externs
import Derived.Lib.Bytealg
namespace Go.Exe
open Go Go.RowKit

section
variable {P : Program} {σ : Sig} {N : Nat} {ρ : Rho} {h h' : H} {w w' : World} {v : AV}

theorem find_congr {α : Type} {p q : α → Bool} : ∀ {l : List α}, (∀ x ∈ l, p x = q x) → l.find? p = l.find? q
  | [], _ => rfl
  | a :: l, h => by
    rw [List.find?_cons, List.find?_cons, h a (List.mem_cons_self ..), find_congr fun x hx => h x (List.mem_cons_of_mem _ hx)]

theorem idxByte_ok (b : Nat) : ∀ (l : List UInt8) (i : Nat), idxByte b l.length (bytesN l) i = match (List.range l.length).find? fun j => decide (l[j]?.map (·.toNat) = some b) with
    | some j => Int.ofNat (i + j)
    | none => -1
  | [], i => rfl
  | c :: l, i => by
    have hc : c.toNat < 256 := c.toNat_lt
    have e1 : Nat.land (bytesN (c :: l)) 255 = c.toNat := by
      show (bytesN (c :: l)) &&& 255 = _
      rw [show (255 : Nat) = 2 ^ 8 - 1 from rfl, Nat.and_two_pow_sub_one_eq_mod, bytesN_cons]; omega
    have e2 : Nat.shiftRight (bytesN (c :: l)) 8 = bytesN l := by
      show (bytesN (c :: l)) >>> 8 = _
      rw [Nat.shiftRight_eq_div_pow, bytesN_cons]; omega
    show Bool.rec (motive := fun _ => Int) (idxByte b l.length (Nat.shiftRight (bytesN (c :: l)) 8) (Nat.succ i)) (.ofNat i) (Nat.beq (Nat.land (bytesN (c :: l)) 255) b) = _
    rw [e1, e2, beq_eq, idxByte_ok b l, List.length_cons, List.range_succ_eq_map, List.find?_cons, List.find?_map]
    by_cases h : c.toNat = b
    · have h' : decide (((c :: l)[0]?.map (·.toNat)) = some b) = true := by simp [h]
      rw [decide_eq_true h, h']; rfl
    · have h' : decide (((c :: l)[0]?.map (·.toNat)) = some b) = false := by simp [h]
      rw [decide_eq_false h, h']
      have hf : ((fun j => decide ((c :: l)[j]?.map (·.toNat) = some b)) ∘ Nat.succ) = fun j => decide (l[j]?.map (·.toNat) = some b) := by
        funext j; simp
      rw [hf]
      cases (List.range l.length).find? fun j => decide (l[j]?.map (·.toNat) = some b) with
      | none => rfl
      | some j => show Int.ofNat _ = Int.ofNat _; congr 1; omega

theorem firstIdx_ok (s : ByteArray) (b : Nat) (hb : b < 256) : firstIdx s (Int.toNat (b : Int)).toUInt8 = idxByte b s.data.toList.length (bytesN s.data.toList) 0 := by
  rw [idxByte_ok]
  unfold firstIdx
  have hs : s.size = s.data.toList.length := (Array.length_toList (xs := s.data)).symm
  have e : (List.range s.size).find? (fun i => s[i]! == (Int.toNat (b : Int)).toUInt8) = (List.range s.data.toList.length).find? fun j => decide (s.data.toList[j]?.map (·.toNat) = some b) := by
    rw [hs]
    refine find_congr fun i hi => ?_
    have hi : i < s.size := by rw [hs]; exact List.mem_range.1 hi
    have hi2 : i < s.data.size := hi
    have e1 : s[i]! = s.data[i] := by rw [getElem!_pos s i hi]; rfl
    have e3 : s.data.toList[i]? = some s.data[i] := by simp
    rw [e1, e3]
    have hu : ((Int.toNat (b : Int)).toUInt8).toNat = b := by
      simp only [Int.toNat_natCast, Nat.toUInt8, UInt8.toNat_ofNat']; omega
    show decide _ = decide _
    refine decide_eq_decide.2 ⟨fun h => by rw [h]; exact congrArg some hu, fun h => ?_⟩
    have h : s.data[i].toNat = b := by simpa using h
    apply UInt8.toNat_inj.1
    rw [h, hu]
  rw [e]
  cases (List.range s.data.toList.length).find? fun j => decide (s.data.toList[j]?.map (·.toNat) = some b) with
  | none => rfl
  | some j => show Int.ofNat j = Int.ofNat (0 + j); rw [Nat.zero_add]

theorem kok_none : KOk P σ N (fun _ => none) := fun _ _ e => nomatch e
/-- A known function does what is known of it. -/
def KOk1 (P : Program) (σ : Sig) (N : Nat) (f : Nat) (g : List AV → H → Out) : Prop := ∀ args h v h', g args h = some (v, h') → ∀ ρ w (vs : Array Value), HR σ N ρ h w → LR σ ρ args vs.toList → Cal P σ N ρ h w (callFunc f vs) v h'
theorem kok_list : ∀ {l : List (Nat × (List AV → H → Out))}, (∀ i g, (i, g) ∈ l → KOk1 P σ N i g) → KOk P σ N (kn l)
  | [], _ => fun _ _ e => nomatch e
  | (i, g0) :: l, hl => fun f g e => by
    have e : Bool.rec (motive := fun _ => Option (List AV → H → Out)) (kn l f) (some g0) (Nat.beq f i) = some g := e
    rw [beq_eq] at e
    by_cases hf : f = i
    · subst hf; rw [decide_eq_true rfl] at e; cases e; exact hl _ _ (List.mem_cons_self ..)
    · rw [decide_eq_false hf] at e; exact kok_list (fun i g h => hl i g (List.mem_cons_of_mem _ h)) f g e

/-- A string and a byte. -/
theorem str_byte {a c : AV} {ρ : Rho} {vs : Array Value} (hv : LR σ ρ [a, c] vs.toList) {n x b : Nat} (ha : a = .str n x) (hb : byteOf c = some b) : ∃ s : ByteArray, vs = #[.string s, .int .u8 (b : Int)] ∧ s.data.toList.length = n ∧ bytesN s.data.toList = x ∧ b < 256 := by
  subst ha
  obtain ⟨s, r, q1, q2, u, r2, q3, q4, q5⟩ := hv
  have q5 : r2 = [] := q5
  subst q5 q3
  obtain ⟨s, rfl, h1, h2⟩ := q2
  unfold byteOf at hb
  split at hb
  · obtain ⟨hle, hb⟩ := ite_some.1 hb
    cases hb
    have hle := Nat.le_of_ble_eq_true hle
    cases q4
    exact ⟨s, by apply Array.ext'; rw [q1]; rfl, h1, h2, by omega⟩
  · cases hb

/-- The first place of a byte. -/
theorem kok1_index {f0 : Nat} {fn : Func} (hf : P.funcs[f0]? = some fn) (hname : (fn.name == "runtime.NumGoroutine") = false) (hb : fn.body.isNone = true) (hn : Extern.findNext fn = none) (he : Extern.find fn = some Extern.BytealgIndexByte.indexByte) : KOk1 P σ N f0 idxByteO := by
  intro args h v h' e1 ρ w vs hh hv
  obtain ⟨a, c, rfl, e1⟩ := two_some e1
  obtain ⟨n, x, rfl⟩ : ∃ n x, a = .str n x := by
    cases a <;> first | exact ⟨_, _, rfl⟩ | (exact nomatch e1)
  obtain ⟨b, hb1, e1⟩ := bnd_some.1 (show bnd (byteOf c) (fun b => forceI (idxByte b n x 0) fun i => (some (.int .i64 i, h) : Out)) = some (v, h') from e1)
  rw [forceI_eq] at e1
  cases e1
  obtain ⟨s, rfl, rfl, rfl, hlt⟩ := str_byte hv rfl hb1
  intro o a next Q k
  rw [run_callFunc_extern hf hname hb hn he, run_indexByte_string, Result.andThen_ok]
  refine k ρ _ w hh (St.refl _ _ _) ?_
  rw [firstIdx_ok s b hlt]; rfl

theorem cntB_ok (b : Nat) (hb : b < 256) : ∀ (l : List UInt8) (a : Nat), cntB b l.length (bytesN l) a = a + l.count (Nat.toUInt8 b)
  | [], _ => rfl
  | c :: l, a => by
    have hc : c.toNat < 256 := c.toNat_lt
    have e1 : Nat.land (bytesN (c :: l)) 255 = c.toNat := by
      show (bytesN (c :: l)) &&& 255 = _
      rw [show (255 : Nat) = 2 ^ 8 - 1 from rfl, Nat.and_two_pow_sub_one_eq_mod, bytesN_cons]; omega
    have e2 : Nat.shiftRight (bytesN (c :: l)) 8 = bytesN l := by
      show (bytesN (c :: l)) >>> 8 = _
      rw [Nat.shiftRight_eq_div_pow, bytesN_cons]; omega
    have hu : (Nat.toUInt8 b).toNat = b := by
      simp only [Nat.toUInt8, UInt8.toNat_ofNat']; omega
    show Bool.rec (motive := fun _ => Nat) (cntB b l.length (Nat.shiftRight (bytesN (c :: l)) 8) a) (cntB b l.length (Nat.shiftRight (bytesN (c :: l)) 8) (Nat.succ a)) (Nat.beq (Nat.land (bytesN (c :: l)) 255) b) = _
    rw [e1, e2, beq_eq, List.count_cons]
    by_cases h : c.toNat = b
    · have hcb : c = Nat.toUInt8 b := UInt8.toNat_inj.1 (by rw [hu, h])
      have hbb : (c == Nat.toUInt8 b) = true := by rw [hcb]; simp
      rw [decide_eq_true h, if_pos hbb]
      show cntB b l.length (bytesN l) (Nat.succ a) = _
      rw [cntB_ok b hb l]; omega
    · have hbb : ¬ (c == Nat.toUInt8 b) = true := fun hc' => h (by
        have : c = Nat.toUInt8 b := by simpa using hc'
        rw [this, hu])
      rw [decide_eq_false h, if_neg hbb]
      show cntB b l.length (bytesN l) a = _
      rw [cntB_ok b hb l]; rfl

/-- How often a byte stands in a string. -/
theorem kok1_count {f0 : Nat} {fn : Func} (hf : P.funcs[f0]? = some fn) (hname : (fn.name == "runtime.NumGoroutine") = false) (hb : fn.body.isNone = true) (hn : Extern.findNext fn = none) (he : Extern.find fn = some Extern.BytealgCount.count) : KOk1 P σ N f0 countO := by
  intro args h v h' e1 ρ w vs hh hv
  obtain ⟨a, c, rfl, e1⟩ := two_some e1
  obtain ⟨n, x, rfl⟩ : ∃ n x, a = .str n x := by
    cases a <;> first | exact ⟨_, _, rfl⟩ | (exact nomatch e1)
  obtain ⟨b, hb1, e1⟩ := bnd_some.1 (show bnd (byteOf c) (fun b => force (cntB b n x 0) fun i => (some (.int .i64 (.ofNat i), h) : Out)) = some (v, h') from e1)
  rw [force_eq] at e1
  cases e1
  obtain ⟨s, rfl, rfl, rfl, hlt⟩ := str_byte hv rfl hb1
  intro o a next Q k
  rw [run_callFunc_extern hf hname hb hn he, Lib.run_countString, Result.andThen_ok]
  refine k ρ _ w hh (St.refl _ _ _) ?_
  rw [cntB_ok b hlt, Nat.zero_add]; rfl

/-- The value that is handed in. -/
theorem kok1_same {f0 : Nat} {fn : Func} (hf : P.funcs[f0]? = some fn) (hname : (fn.name == "runtime.NumGoroutine") = false) (hb : fn.body.isNone = true) (hn : Extern.findNext fn = none) (he : Extern.find fn = some Extern.AbiNoEscape.same) : KOk1 P σ N f0 sameO := by
  intro args h v h' e1 ρ w vs hh hv
  cases args with
  | nil => cases e1
  | cons a args =>
    cases args with
    | cons => cases e1
    | nil =>
      cases (show some (a, h) = some (v, h') from e1)
      obtain ⟨u, r, q1, q2, q3⟩ := hv
      have q3 : r = [] := q3
      subst q3
      have : vs = #[u] := by apply Array.ext'; rw [q1]
      subst this
      intro o a next Q k
      rw [run_callFunc_extern hf hname hb hn he]
      exact k ρ u w hh (St.refl _ _ _) q2

/-- The one function without a body that is known: the first place of a byte. -/
theorem kok_index {f0 : Nat} {fn : Func} (hf : P.funcs[f0]? = some fn) (hname : (fn.name == "runtime.NumGoroutine") = false) (hb : fn.body.isNone = true) (hn : Extern.findNext fn = none) (he : Extern.find fn = some Extern.BytealgIndexByte.indexByte) : KOk P σ N (fun f => Bool.rec none (some idxByteO) (Nat.beq f f0)) := by
  have := kok_list (l := [(f0, idxByteO)]) fun i g h => by
    cases List.mem_singleton.1 h
    exact kok1_index (P := P) (σ := σ) (N := N) hf hname hb hn he
  exact this

theorem calls_enter {F : Facts} {K : Known} (hF : FactsOk P σ F) (hK : KOk P σ N K) (hσ : ∀ i, (σ i).oneCell' = true) (hN : N = P.globals.size) {n f : Nat} (hKf : K f = none) {args : List AV} (e : call P F K n f args h = some (v, h')) (hh : HR σ N ρ h w) {vs : Array Value} (hv : LR σ ρ args vs.toList) :
    Calls P f vs w fun e w' => ∃ ρ' u, e = .returned u ∧ HR σ N ρ' h' w' ∧ St ρ h w ρ' h' w' ∧ VR σ ρ' v u := by
  have hr := runs_ok hF hK hσ hN n
  unfold call enter at e
  rw [hKf] at e
  cases hf : funcs P f with
  | none => rw [hf] at e; exact nomatch e
  | some fn =>
    rw [hf] at e
    dsimp only at e
    cases hb : fn.body with
    | none => rw [hb] at e; exact nomatch e
    | some c =>
      rw [hb] at e
      dsimp only at e
      cases hn : fn.name == "runtime.NumGoroutine" with
      | true => rw [hn] at e; exact nomatch e
      | false =>
        rw [hn] at e
        obtain ⟨env, h1, h2⟩ := bnd_some.1 (show bnd (mkEnv args fn.ntmps) (fun env => run P F K n fn [.code c] env h) = some (v, h') from e)
        have hf : P.funcs[f]? = some fn := by
          have : nth P.funcs.toList f = some fn := hf
          rw [nth_eq] at this
          simpa using this
        exact calls_of_run hr hf hb h1 h2 hh hv

theorem isT_some {o : Out} (e : isT o = true) : ∃ h, o = some (.bool true, h) := by
  unfold isT at e
  cases o with
  | none => cases e
  | some q =>
    obtain ⟨v, h⟩ := q
    have e : boolOf v = true := e
    unfold boolOf at e
    split at e
    · subst e; exact ⟨h, rfl⟩
    · cases e

/-- Memory that none may write at first: a call that gives true does so, and leaves all that was there. -/
theorem top {F : Facts} {K : Known} (hF : FactsOk P σ F) (hK : KOk P σ N K) (hσ : ∀ i, (σ i).oneCell' = true) (hN : N = P.globals.size) {n f : Nat} (hKf : K f = none) {args : List AV} (e : isT (call P F K n f args h) = true) (hh : HR σ N ρ h w) (hro : ∀ r row, h.get r = some row → wrOf row = false) {vs : Array Value} (hv : LR σ ρ args vs.toList) :
    Calls P f vs w fun e w' => e = .returned (.bool true) ∧ w.keptBut w' (fun _ => False) ∧ Below w.heap.size w w' := by
  obtain ⟨h', e⟩ := isT_some e
  refine (calls_enter hF hK hσ hN hKf e hh hv).mono ?_
  rintro e w' ⟨ρ', u, rfl, h1, h2, h3⟩
  have hb : Below w.heap.size w w' := ⟨h2.os, h2.tape, h2.output, h2.size, fun k hk => h2.block k hk fun ⟨r, row, p, g1, g2, _⟩ => by rw [hro r row g1] at g2; cases g2⟩
  exact ⟨by rw [show u = .bool true from h3], hb.frame _, hb⟩

/-- Where the globals stand at first. -/
def rho0 (N : Nat) (w : World) : Rho := fun r => if r < N then some ⟨r, 0, match w.heap[r]? with
  | some (.cells cs _ _) => cs.size
  | _ => 0⟩ else none

theorem HR.start {h : H} (hn : N ≤ h.nx) (rows : ∀ r row, h.get r = some row → r < N ∧ ∃ e sz n t cs fz, row = .cells e sz n t false [] ∧ w.heap[r]? = some (.cells cs e fz) ∧ Els σ (rho0 N w) cs 0 sz n t) : HR σ N (rho0 N w) h w := by
  have pl : ∀ r, r < N → ∃ z, rho0 N w r = some ⟨r, 0, z⟩ := fun r hr => ⟨_, if_pos hr⟩
  have rel : ∀ r row, h.get r = some row → relOf row = [] := fun r row e => by
    obtain ⟨_, _, _, _, _, _, _, rfl, _⟩ := rows r row e; rfl
  refine ⟨fun r row e => ?_, fun r hr => if_neg (by omega), fun r q row row' p p' e1 e2 hne _ _ h1 h2 => ?_, fun r q row row' e1 hq => ?_, fun r q row e1 hq => ?_, pl⟩
  · obtain ⟨hr, e, sz, n, t, cs, fz, rfl, h1, h2⟩ := rows r row e
    refine ⟨_, if_pos hr, cs, fz, h1, ?_, ⟨Nat.zero_mod _, fun h => nomatch h⟩, h2⟩
    show cs.size = match w.heap[r]? with
      | some (.cells cs _ _) => cs.size
      | _ => 0
    rw [h1]
  · obtain ⟨z, k1⟩ := pl r (rows r row e1).1
    obtain ⟨z', k2⟩ := pl q (rows q row' e2).1
    rw [k1] at h1; rw [k2] at h2
    cases h1; cases h2
    exact hne
  · rw [rel r row e1] at hq; cases hq
  · rw [rel r row e1] at hq; cases hq


theorem glob2_get {e0 e1 : Nat} {a0 a1 : AV} {nx r : Nat} {row : Row} (e : (glob2 e0 e1 a0 a1 nx).get r = some row) : (r = 0 ∧ row = .cells e0 1 1 (.node .leaf (some [a0]) .leaf) false []) ∨ (r = 1 ∧ row = .cells e1 1 1 (.node .leaf (some [a1]) .leaf) false []) := by
  have e : (Tr.node (.node .leaf (some (.cells e1 1 1 (.node .leaf (some [a1]) .leaf) false [])) .leaf) (some (Row.cells e0 1 1 (.node .leaf (some [a0]) .leaf) false [])) .leaf).get r = some row := e
  rw [Tr.get_node] at e
  split at e
  · cases e; exact .inl ⟨‹_›, rfl⟩
  · split at e
    · rw [Tr.get_node] at e
      split at e
      · cases e; exact .inr ⟨by omega, rfl⟩
      · split at e <;> cases e
    · cases e

theorem HR.start2 {e0 e1 nx : Nat} {a0 a1 : AV} {u0 u1 : Value} (hN : 2 ≤ N) (hn : N ≤ nx) (c0 : cellB a0 = true) (c1 : cellB a1 = true) (h0 : ∀ ρ, VR σ ρ a0 u0) (h1 : ∀ ρ, VR σ ρ a1 u1) {fz0 fz1 : Nat × Nat} (w0 : w.heap[0]? = some (.cells #[u0] e0 fz0)) (w1 : w.heap[1]? = some (.cells #[u1] e1 fz1)) : HR σ N (rho0 N w) (glob2 e0 e1 a0 a1 nx) w ∧ ∀ r row, (glob2 e0 e1 a0 a1 nx).get r = some row → wrOf row = false := by
  refine ⟨HR.start hn fun r row e => ?_, fun r row e => ?_⟩
  · rcases glob2_get e with ⟨rfl, rfl⟩ | ⟨rfl, rfl⟩
    · exact ⟨by omega, _, _, _, _, _, _, rfl, w0, els_one (l := [a0]) (cs := #[u0]) ⟨_, _, rfl, h0 _, rfl⟩ (by simp [c0])⟩
    · exact ⟨by omega, _, _, _, _, _, _, rfl, w1, els_one (l := [a1]) (cs := #[u1]) ⟨_, _, rfl, h1 _, rfl⟩ (by simp [c1])⟩
  · rcases glob2_get e with ⟨rfl, rfl⟩ | ⟨rfl, rfl⟩ <;> rfl

theorem globs_get {nx : Nat} : ∀ {l : List (Nat × Nat × AV)} {r : Nat} {row : Row}, (globs nx l).get r = some row → ∃ e a, (r, e, a) ∈ l ∧ row = .cells e 1 1 (.node .leaf (some [a]) .leaf) false []
  | [], _, _, h => nomatch h
  | (i, e, a) :: l, r, row, h => by
    have h : H.get (Option.rec (globs nx l) (fun h => h) ((globs nx l).put i (some (.cells e 1 1 (.node .leaf (some [a]) .leaf) false [])))) r = some row := h
    have old : (globs nx l).get r = some row → ∃ e' a', (r, e', a') ∈ (i, e, a) :: l ∧ row = .cells e' 1 1 (.node .leaf (some [a']) .leaf) false [] := fun h => by
      obtain ⟨e', a', h1, h2⟩ := globs_get h
      exact ⟨e', a', List.mem_cons_of_mem _ h1, h2⟩
    cases hp : (globs nx l).put i (some (.cells e 1 1 (.node .leaf (some [a]) .leaf) false [])) with
    | none => rw [hp] at h; exact old h
    | some h1 =>
      rw [hp] at h
      have h : h1.get r = some row := h
      rw [(put_some hp).2] at h
      by_cases hr : r = i
      · subst hr; rw [if_pos rfl] at h; cases h; exact ⟨e, a, List.mem_cons_self .., rfl⟩
      · rw [if_neg hr] at h; exact old h
theorem globs_nx (nx : Nat) : ∀ l : List (Nat × Nat × AV), (globs nx l).nx = nx
  | [] => rfl
  | (i, e, a) :: l => by
    show H.nx (Option.rec (globs nx l) (fun h => h) ((globs nx l).put i (some (.cells e 1 1 (.node .leaf (some [a]) .leaf) false [])))) = nx
    cases hp : (globs nx l).put i (some (.cells e 1 1 (.node .leaf (some [a]) .leaf) false [])) with
    | none => exact globs_nx nx l
    | some h1 => exact (put_some hp).1.trans (globs_nx nx l)

theorem HR.starts {nx : Nat} (hn : N ≤ nx) {l : List (Nat × Nat × AV)} (hl : ∀ r e a, (r, e, a) ∈ l → r < N ∧ cellB a = true ∧ ∃ u fz, (∀ ρ, VR σ ρ a u) ∧ w.heap[r]? = some (.cells #[u] e fz)) : HR σ N (rho0 N w) (globs nx l) w ∧ ∀ r row, (globs nx l).get r = some row → wrOf row = false := by
  refine ⟨HR.start (by rw [globs_nx]; exact hn) fun r row h => ?_, fun r row h => ?_⟩
  · obtain ⟨e, a, h1, rfl⟩ := globs_get h
    obtain ⟨k1, k2, u, fz, k3, k4⟩ := hl r e a h1
    exact ⟨k1, _, _, _, _, _, _, rfl, k4, els_one (l := [a]) (cs := #[u]) ⟨_, _, rfl, k3 _, rfl⟩ (by simp [k2])⟩
  · obtain ⟨e, a, h1, rfl⟩ := globs_get h; rfl

/-- No memory at all. -/
theorem HR.start0 {nx : Nat} (hn : N ≤ nx) : HR σ N (rho0 N w) ⟨.leaf, nx⟩ w ∧ ∀ r row, (⟨.leaf, nx⟩ : H).get r = some row → wrOf row = false :=
  ⟨HR.start hn (fun _ _ e => nomatch e), fun _ _ e => nomatch e⟩

theorem facts_none : FactsOk P σ { bin := fun _ _ _ => none, conv := fun _ _ _ => none } where
  bin := fun _ _ _ _ h => nomatch h
  conv := fun _ _ _ _ h => nomatch h
end
end Go.Exe
