/- The top: calls of closed functions. -/
import Derived.Test.YtflmelafomlllaaGreatExJ
import Derived.Laws.Externs
import Derived.Lib.Bytealg
import Derived.WalkKit
import Derived.ProofKit
import Derived.OpenShut
import Derived.Lib.MakeNoZero
namespace Go.Exe
open Go Go.RowKit

section
variable {P : Program} {σ : Sig} {N : Nat} {ρ : Rho} {h h' : H} {w w' : World} {v : AV}

theorem find_congr {α : Type} {p q : α → Bool} : ∀ {l : List α}, (∀ x ∈ l, p x = q x) → l.find? p = l.find? q
  | [], _ => rfl
  | a :: l, h => by
    rw [List.find?_cons, List.find?_cons, h a (List.mem_cons_self ..), find_congr fun x hx => h x (List.mem_cons_of_mem _ hx)]

theorem idxByte_ok (b : Nat) : ∀ (l : List UInt8) (i : Nat), idxByte b l.length (bytesN l) i = match (List.range l.length).find? fun j => decide (l[j]?.map (·.toNat) = some b) with
    | some j => Int.ofNat (i + j)
    | none => -1
  | [], i => rfl
  | c :: l, i => by
    have hc : c.toNat < 256 := c.toNat_lt
    have e1 : Nat.land (bytesN (c :: l)) 255 = c.toNat := by
      show (bytesN (c :: l)) &&& 255 = _
      rw [show (255 : Nat) = 2 ^ 8 - 1 from rfl, Nat.and_two_pow_sub_one_eq_mod, bytesN_cons]; omega
    have e2 : Nat.shiftRight (bytesN (c :: l)) 8 = bytesN l := by
      show (bytesN (c :: l)) >>> 8 = _
      rw [Nat.shiftRight_eq_div_pow, bytesN_cons]; omega
    show Bool.rec (motive := fun _ => Int) (idxByte b l.length (Nat.shiftRight (bytesN (c :: l)) 8) (Nat.succ i)) (.ofNat i) (Nat.beq (Nat.land (bytesN (c :: l)) 255) b) = _
    rw [e1, e2, beq_eq, idxByte_ok b l, List.length_cons, List.range_succ_eq_map, List.find?_cons, List.find?_map]
    by_cases h : c.toNat = b
    · have h' : decide (((c :: l)[0]?.map (·.toNat)) = some b) = true := by simp [h]
      rw [decide_eq_true h, h']; rfl
    · have h' : decide (((c :: l)[0]?.map (·.toNat)) = some b) = false := by simp [h]
      rw [decide_eq_false h, h']
      have hf : ((fun j => decide ((c :: l)[j]?.map (·.toNat) = some b)) ∘ Nat.succ) = fun j => decide (l[j]?.map (·.toNat) = some b) := by
        funext j; simp
      rw [hf]
      cases (List.range l.length).find? fun j => decide (l[j]?.map (·.toNat) = some b) with
      | none => rfl
      | some j => show Int.ofNat _ = Int.ofNat _; congr 1; omega

theorem firstIdx_ok (s : ByteArray) (b : Nat) (hb : b < 256) : firstIdx s (Int.toNat (b : Int)).toUInt8 = idxByte b s.data.toList.length (bytesN s.data.toList) 0 := by
  rw [idxByte_ok]
  unfold firstIdx
  have hs : s.size = s.data.toList.length := (Array.length_toList (xs := s.data)).symm
  have e : (List.range s.size).find? (fun i => s[i]! == (Int.toNat (b : Int)).toUInt8) = (List.range s.data.toList.length).find? fun j => decide (s.data.toList[j]?.map (·.toNat) = some b) := by
    rw [hs]
    refine find_congr fun i hi => ?_
    have hi : i < s.size := by rw [hs]; exact List.mem_range.1 hi
    have hi2 : i < s.data.size := hi
    have e1 : s[i]! = s.data[i] := by rw [getElem!_pos s i hi]; rfl
    have e3 : s.data.toList[i]? = some s.data[i] := by simp
    rw [e1, e3]
    have hu : ((Int.toNat (b : Int)).toUInt8).toNat = b := by
      simp only [Int.toNat_natCast, Nat.toUInt8, UInt8.toNat_ofNat']; omega
    show decide _ = decide _
    refine decide_eq_decide.2 ⟨fun h => by rw [h]; exact congrArg some hu, fun h => ?_⟩
    have h : s.data[i].toNat = b := by simpa using h
    apply UInt8.toNat_inj.1
    rw [h, hu]
  rw [e]
  cases (List.range s.data.toList.length).find? fun j => decide (s.data.toList[j]?.map (·.toNat) = some b) with
  | none => rfl
  | some j => show Int.ofNat j = Int.ofNat (0 + j); rw [Nat.zero_add]

theorem kok_none : KOk P σ N (fun _ => none) := fun _ _ e => nomatch e
/-- A known function does what is known of it. -/
def KOk1 (P : Program) (σ : Sig) (N : Nat) (f : Nat) (g : List AV → H → Out) : Prop := ∀ args h v h', g args h = some (v, h') → ∀ ρ w (vs : Array Value), HR σ N ρ h w → LR σ ρ args vs.toList → Cal P σ N ρ h w (callFunc f vs) v h'
theorem kok_list : ∀ {l : List (Nat × (List AV → H → Out))}, (∀ i g, (i, g) ∈ l → KOk1 P σ N i g) → KOk P σ N (kn l)
  | [], _ => fun _ _ e => nomatch e
  | (i, g0) :: l, hl => fun f g e => by
    have e : Bool.rec (motive := fun _ => Option (List AV → H → Out)) (kn l f) (some g0) (Nat.beq f i) = some g := e
    rw [beq_eq] at e
    by_cases hf : f = i
    · subst hf; rw [decide_eq_true rfl] at e; cases e; exact hl _ _ (List.mem_cons_self ..)
    · rw [decide_eq_false hf] at e; exact kok_list (fun i g h => hl i g (List.mem_cons_of_mem _ h)) f g e

/-- A string and a byte. -/
theorem str_byte {a c : AV} {ρ : Rho} {vs : Array Value} (hv : LR σ ρ [a, c] vs.toList) {n x b : Nat} (ha : a = .str n x) (hb : byteOf c = some b) : ∃ s : ByteArray, vs = #[.string s, .int .u8 (b : Int)] ∧ s.data.toList.length = n ∧ bytesN s.data.toList = x ∧ b < 256 := by
  subst ha
  obtain ⟨s, r, q1, q2, u, r2, q3, q4, q5⟩ := hv
  have q5 : r2 = [] := q5
  subst q5 q3
  obtain ⟨s, rfl, h1, h2⟩ := q2
  unfold byteOf at hb
  split at hb
  · obtain ⟨hle, hb⟩ := ite_some.1 hb
    cases hb
    have hle := Nat.le_of_ble_eq_true hle
    cases q4
    exact ⟨s, by apply Array.ext'; rw [q1]; rfl, h1, h2, by omega⟩
  · cases hb

/-- The first place of a byte. -/
theorem kok1_index {f0 : Nat} {fn : Func} (hf : P.funcs[f0]? = some fn) (hname : (fn.name == "runtime.NumGoroutine") = false) (hb : fn.body.isNone = true) (hn : Extern.findNext fn = none) (he : Extern.find fn = some Extern.BytealgIndexByte.indexByte) : KOk1 P σ N f0 idxByteO := by
  intro args h v h' e1 ρ w vs hh hv
  obtain ⟨a, c, rfl, e1⟩ := two_some e1
  obtain ⟨n, x, rfl⟩ : ∃ n x, a = .str n x := by
    cases a <;> first | exact ⟨_, _, rfl⟩ | (exact nomatch e1)
  obtain ⟨b, hb1, e1⟩ := bnd_some.1 (show bnd (byteOf c) (fun b => forceI (idxByte b n x 0) fun i => (some (.int .i64 i, h) : Out)) = some (v, h') from e1)
  rw [forceI_eq] at e1
  cases e1
  obtain ⟨s, rfl, rfl, rfl, hlt⟩ := str_byte hv rfl hb1
  intro o a next Q k
  rw [run_callFunc_extern hf hname hb hn he, run_indexByte_string, Result.andThen_ok]
  refine k ρ _ w hh (St.refl _ _ _) ?_
  rw [firstIdx_ok s b hlt]; rfl

theorem cntB_ok (b : Nat) (hb : b < 256) : ∀ (l : List UInt8) (a : Nat), cntB b l.length (bytesN l) a = a + l.count (Nat.toUInt8 b)
  | [], _ => rfl
  | c :: l, a => by
    have hc : c.toNat < 256 := c.toNat_lt
    have e1 : Nat.land (bytesN (c :: l)) 255 = c.toNat := by
      show (bytesN (c :: l)) &&& 255 = _
      rw [show (255 : Nat) = 2 ^ 8 - 1 from rfl, Nat.and_two_pow_sub_one_eq_mod, bytesN_cons]; omega
    have e2 : Nat.shiftRight (bytesN (c :: l)) 8 = bytesN l := by
      show (bytesN (c :: l)) >>> 8 = _
      rw [Nat.shiftRight_eq_div_pow, bytesN_cons]; omega
    have hu : (Nat.toUInt8 b).toNat = b := by
      simp only [Nat.toUInt8, UInt8.toNat_ofNat']; omega
    show Bool.rec (motive := fun _ => Nat) (cntB b l.length (Nat.shiftRight (bytesN (c :: l)) 8) a) (cntB b l.length (Nat.shiftRight (bytesN (c :: l)) 8) (Nat.succ a)) (Nat.beq (Nat.land (bytesN (c :: l)) 255) b) = _
    rw [e1, e2, beq_eq, List.count_cons]
    by_cases h : c.toNat = b
    · have hcb : c = Nat.toUInt8 b := UInt8.toNat_inj.1 (by rw [hu, h])
      have hbb : (c == Nat.toUInt8 b) = true := by rw [hcb]; simp
      rw [decide_eq_true h, if_pos hbb]
      show cntB b l.length (bytesN l) (Nat.succ a) = _
      rw [cntB_ok b hb l]; omega
    · have hbb : ¬ (c == Nat.toUInt8 b) = true := fun hc' => h (by
        have : c = Nat.toUInt8 b := by simpa using hc'
        rw [this, hu])
      rw [decide_eq_false h, if_neg hbb]
      show cntB b l.length (bytesN l) a = _
      rw [cntB_ok b hb l]; rfl

/-- How often a byte stands in a string. -/
theorem kok1_count {f0 : Nat} {fn : Func} (hf : P.funcs[f0]? = some fn) (hname : (fn.name == "runtime.NumGoroutine") = false) (hb : fn.body.isNone = true) (hn : Extern.findNext fn = none) (he : Extern.find fn = some Extern.BytealgCount.count) : KOk1 P σ N f0 countO := by
  intro args h v h' e1 ρ w vs hh hv
  obtain ⟨a, c, rfl, e1⟩ := two_some e1
  obtain ⟨n, x, rfl⟩ : ∃ n x, a = .str n x := by
    cases a <;> first | exact ⟨_, _, rfl⟩ | (exact nomatch e1)
  obtain ⟨b, hb1, e1⟩ := bnd_some.1 (show bnd (byteOf c) (fun b => force (cntB b n x 0) fun i => (some (.int .i64 (.ofNat i), h) : Out)) = some (v, h') from e1)
  rw [force_eq] at e1
  cases e1
  obtain ⟨s, rfl, rfl, rfl, hlt⟩ := str_byte hv rfl hb1
  intro o a next Q k
  rw [run_callFunc_extern hf hname hb hn he, Lib.run_countString, Result.andThen_ok]
  refine k ρ _ w hh (St.refl _ _ _) ?_
  rw [cntB_ok b hlt, Nat.zero_add]; rfl

/-- The value that is handed in. -/
theorem kok1_same {f0 : Nat} {fn : Func} (hf : P.funcs[f0]? = some fn) (hname : (fn.name == "runtime.NumGoroutine") = false) (hb : fn.body.isNone = true) (hn : Extern.findNext fn = none) (he : Extern.find fn = some Extern.AbiNoEscape.same) : KOk1 P σ N f0 sameO := by
  intro args h v h' e1 ρ w vs hh hv
  cases args with
  | nil => cases e1
  | cons a args =>
    cases args with
    | cons => cases e1
    | nil =>
      cases (show some (a, h) = some (v, h') from e1)
      obtain ⟨u, r, q1, q2, q3⟩ := hv
      have q3 : r = [] := q3
      subst q3
      have : vs = #[u] := by apply Array.ext'; rw [q1]
      subst this
      intro o a next Q k
      rw [run_callFunc_extern hf hname hb hn he]
      exact k ρ u w hh (St.refl _ _ _) q2

/-- The one function without a body that is known: the first place of a byte. -/
theorem kok_index {f0 : Nat} {fn : Func} (hf : P.funcs[f0]? = some fn) (hname : (fn.name == "runtime.NumGoroutine") = false) (hb : fn.body.isNone = true) (hn : Extern.findNext fn = none) (he : Extern.find fn = some Extern.BytealgIndexByte.indexByte) : KOk P σ N (fun f => Bool.rec none (some idxByteO) (Nat.beq f f0)) := by
  have := kok_list (l := [(f0, idxByteO)]) fun i g h => by
    cases List.mem_singleton.1 h
    exact kok1_index (P := P) (σ := σ) (N := N) hf hname hb hn he
  exact this

theorem calls_enter {F : Facts} {K : Known} (hF : FactsOk P σ F) (hK : KOk P σ N K) (hσ : ∀ i, (σ i).oneCell' = true) (hN : N = P.globals.size) {n f : Nat} (hKf : K f = none) {args : List AV} (e : call P F K n f args h = some (v, h')) (hh : HR σ N ρ h w) {vs : Array Value} (hv : LR σ ρ args vs.toList) :
    Calls P f vs w fun e w' => ∃ ρ' u, e = .returned u ∧ HR σ N ρ' h' w' ∧ St ρ h w ρ' h' w' ∧ VR σ ρ' v u := by
  have hr := runs_ok hF hK hσ hN n
  unfold call enter at e
  rw [hKf] at e
  cases hf : funcs P f with
  | none => rw [hf] at e; exact nomatch e
  | some fn =>
    rw [hf] at e
    dsimp only at e
    cases hb : fn.body with
    | none => rw [hb] at e; exact nomatch e
    | some c =>
      rw [hb] at e
      dsimp only at e
      cases hn : fn.name == "runtime.NumGoroutine" with
      | true => rw [hn] at e; exact nomatch e
      | false =>
        rw [hn] at e
        obtain ⟨env, h1, h2⟩ := bnd_some.1 (show bnd (mkEnv args fn.ntmps) (fun env => run P F K n fn [.code c] env h) = some (v, h') from e)
        have hf : P.funcs[f]? = some fn := by
          have : nth P.funcs.toList f = some fn := hf
          rw [nth_eq] at this
          simpa using this
        exact calls_of_run hr hf hb h1 h2 hh hv

theorem isT_some {o : Out} (e : isT o = true) : ∃ h, o = some (.bool true, h) := by
  unfold isT at e
  cases o with
  | none => cases e
  | some q =>
    obtain ⟨v, h⟩ := q
    have e : boolOf v = true := e
    unfold boolOf at e
    split at e
    · subst e; exact ⟨h, rfl⟩
    · cases e

/-- Memory that none may write at first: a call that gives true does so, and leaves all that was there. -/
theorem top {F : Facts} {K : Known} (hF : FactsOk P σ F) (hK : KOk P σ N K) (hσ : ∀ i, (σ i).oneCell' = true) (hN : N = P.globals.size) {n f : Nat} (hKf : K f = none) {args : List AV} (e : isT (call P F K n f args h) = true) (hh : HR σ N ρ h w) (hro : ∀ r row, h.get r = some row → wrOf row = false) {vs : Array Value} (hv : LR σ ρ args vs.toList) :
    Calls P f vs w fun e w' => e = .returned (.bool true) ∧ w.keptBut w' (fun _ => False) ∧ Below w.heap.size w w' := by
  obtain ⟨h', e⟩ := isT_some e
  refine (calls_enter hF hK hσ hN hKf e hh hv).mono ?_
  rintro e w' ⟨ρ', u, rfl, h1, h2, h3⟩
  have hb : Below w.heap.size w w' := ⟨h2.os, h2.tape, h2.output, h2.size, fun k hk => h2.block k hk fun ⟨r, row, p, g1, g2, _⟩ => by rw [hro r row g1] at g2; cases g2⟩
  exact ⟨by rw [show u = .bool true from h3], hb.frame _, hb⟩

/-- Where the globals stand at first. -/
def rho0 (N : Nat) (w : World) : Rho := fun r => if r < N then some ⟨r, 0, match w.heap[r]? with
  | some (.cells cs _ _) => cs.size
  | _ => 0⟩ else none

theorem HR.start {h : H} (hn : N ≤ h.nx) (rows : ∀ r row, h.get r = some row → r < N ∧ ∃ e sz n t cs fz, row = .cells e sz n t false [] ∧ w.heap[r]? = some (.cells cs e fz) ∧ Els σ (rho0 N w) cs 0 sz n t) : HR σ N (rho0 N w) h w := by
  have pl : ∀ r, r < N → ∃ z, rho0 N w r = some ⟨r, 0, z⟩ := fun r hr => ⟨_, if_pos hr⟩
  have rel : ∀ r row, h.get r = some row → relOf row = [] := fun r row e => by
    obtain ⟨_, _, _, _, _, _, _, rfl, _⟩ := rows r row e; rfl
  refine ⟨fun r row e => ?_, fun r hr => if_neg (by omega), fun r q row row' p p' e1 e2 hne _ _ h1 h2 => ?_, fun r q row row' e1 hq => ?_, fun r q row e1 hq => ?_, pl⟩
  · obtain ⟨hr, e, sz, n, t, cs, fz, rfl, h1, h2⟩ := rows r row e
    refine ⟨_, if_pos hr, cs, fz, h1, ?_, ⟨Nat.zero_mod _, fun h => nomatch h⟩, h2⟩
    show cs.size = match w.heap[r]? with
      | some (.cells cs _ _) => cs.size
      | _ => 0
    rw [h1]
  · obtain ⟨z, k1⟩ := pl r (rows r row e1).1
    obtain ⟨z', k2⟩ := pl q (rows q row' e2).1
    rw [k1] at h1; rw [k2] at h2
    cases h1; cases h2
    exact hne
  · rw [rel r row e1] at hq; cases hq
  · rw [rel r row e1] at hq; cases hq


theorem glob2_get {e0 e1 : Nat} {a0 a1 : AV} {nx r : Nat} {row : Row} (e : (glob2 e0 e1 a0 a1 nx).get r = some row) : (r = 0 ∧ row = .cells e0 1 1 (.node .leaf (some [a0]) .leaf) false []) ∨ (r = 1 ∧ row = .cells e1 1 1 (.node .leaf (some [a1]) .leaf) false []) := by
  have e : (Tr.node (.node .leaf (some (.cells e1 1 1 (.node .leaf (some [a1]) .leaf) false [])) .leaf) (some (Row.cells e0 1 1 (.node .leaf (some [a0]) .leaf) false [])) .leaf).get r = some row := e
  rw [Tr.get_node] at e
  split at e
  · cases e; exact .inl ⟨‹_›, rfl⟩
  · split at e
    · rw [Tr.get_node] at e
      split at e
      · cases e; exact .inr ⟨by omega, rfl⟩
      · split at e <;> cases e
    · cases e

theorem HR.start2 {e0 e1 nx : Nat} {a0 a1 : AV} {u0 u1 : Value} (hN : 2 ≤ N) (hn : N ≤ nx) (c0 : cellB a0 = true) (c1 : cellB a1 = true) (h0 : ∀ ρ, VR σ ρ a0 u0) (h1 : ∀ ρ, VR σ ρ a1 u1) {fz0 fz1 : Nat × Nat} (w0 : w.heap[0]? = some (.cells #[u0] e0 fz0)) (w1 : w.heap[1]? = some (.cells #[u1] e1 fz1)) : HR σ N (rho0 N w) (glob2 e0 e1 a0 a1 nx) w ∧ ∀ r row, (glob2 e0 e1 a0 a1 nx).get r = some row → wrOf row = false := by
  refine ⟨HR.start hn fun r row e => ?_, fun r row e => ?_⟩
  · rcases glob2_get e with ⟨rfl, rfl⟩ | ⟨rfl, rfl⟩
    · exact ⟨by omega, _, _, _, _, _, _, rfl, w0, els_one (l := [a0]) (cs := #[u0]) ⟨_, _, rfl, h0 _, rfl⟩ (by simp [c0])⟩
    · exact ⟨by omega, _, _, _, _, _, _, rfl, w1, els_one (l := [a1]) (cs := #[u1]) ⟨_, _, rfl, h1 _, rfl⟩ (by simp [c1])⟩
  · rcases glob2_get e with ⟨rfl, rfl⟩ | ⟨rfl, rfl⟩ <;> rfl

theorem globs_get {nx : Nat} : ∀ {l : List (Nat × Nat × AV)} {r : Nat} {row : Row}, (globs nx l).get r = some row → ∃ e a, (r, e, a) ∈ l ∧ row = .cells e 1 1 (.node .leaf (some [a]) .leaf) false []
  | [], _, _, h => nomatch h
  | (i, e, a) :: l, r, row, h => by
    have h : H.get (Option.rec (globs nx l) (fun h => h) ((globs nx l).put i (some (.cells e 1 1 (.node .leaf (some [a]) .leaf) false [])))) r = some row := h
    have old : (globs nx l).get r = some row → ∃ e' a', (r, e', a') ∈ (i, e, a) :: l ∧ row = .cells e' 1 1 (.node .leaf (some [a']) .leaf) false [] := fun h => by
      obtain ⟨e', a', h1, h2⟩ := globs_get h
      exact ⟨e', a', List.mem_cons_of_mem _ h1, h2⟩
    cases hp : (globs nx l).put i (some (.cells e 1 1 (.node .leaf (some [a]) .leaf) false [])) with
    | none => rw [hp] at h; exact old h
    | some h1 =>
      rw [hp] at h
      have h : h1.get r = some row := h
      rw [(put_some hp).2] at h
      by_cases hr : r = i
      · subst hr; rw [if_pos rfl] at h; cases h; exact ⟨e, a, List.mem_cons_self .., rfl⟩
      · rw [if_neg hr] at h; exact old h
theorem globs_nx (nx : Nat) : ∀ l : List (Nat × Nat × AV), (globs nx l).nx = nx
  | [] => rfl
  | (i, e, a) :: l => by
    show H.nx (Option.rec (globs nx l) (fun h => h) ((globs nx l).put i (some (.cells e 1 1 (.node .leaf (some [a]) .leaf) false [])))) = nx
    cases hp : (globs nx l).put i (some (.cells e 1 1 (.node .leaf (some [a]) .leaf) false [])) with
    | none => exact globs_nx nx l
    | some h1 => exact (put_some hp).1.trans (globs_nx nx l)

theorem HR.starts {nx : Nat} (hn : N ≤ nx) {l : List (Nat × Nat × AV)} (hl : ∀ r e a, (r, e, a) ∈ l → r < N ∧ cellB a = true ∧ ∃ u fz, (∀ ρ, VR σ ρ a u) ∧ w.heap[r]? = some (.cells #[u] e fz)) : HR σ N (rho0 N w) (globs nx l) w ∧ ∀ r row, (globs nx l).get r = some row → wrOf row = false := by
  refine ⟨HR.start (by rw [globs_nx]; exact hn) fun r row h => ?_, fun r row h => ?_⟩
  · obtain ⟨e, a, h1, rfl⟩ := globs_get h
    obtain ⟨k1, k2, u, fz, k3, k4⟩ := hl r e a h1
    exact ⟨k1, _, _, _, _, _, _, rfl, k4, els_one (l := [a]) (cs := #[u]) ⟨_, _, rfl, k3 _, rfl⟩ (by simp [k2])⟩
  · obtain ⟨e, a, h1, rfl⟩ := globs_get h; rfl

/-- No memory at all. -/
theorem HR.start0 {nx : Nat} (hn : N ≤ nx) : HR σ N (rho0 N w) ⟨.leaf, nx⟩ w ∧ ∀ r row, (⟨.leaf, nx⟩ : H).get r = some row → wrOf row = false :=
  ⟨HR.start hn (fun _ _ e => nomatch e), fun _ _ e => nomatch e⟩

theorem facts_none : FactsOk P σ { bin := fun _ _ _ => none, conv := fun _ _ _ => none } where
  bin := fun _ _ _ _ h => nomatch h
  conv := fun _ _ _ _ h => nomatch h
end
end Go.Exe
/- Calls that were run elsewhere: what they give is known, memory stays. -/
namespace Go.Exe
open Go Go.RowKit

/-- No rows in it. -/
def flatB : Nat → AV → Bool
  | 0, _ => false
  | n + 1, a => match a with
    | .agg l => l.all (flatB n)
    | .tup l => l.all (flatB n)
    | .ifc _ a => flatB n a
    | .ptr _ _ | .slc _ _ _ _ _ | .map _ | .chan _ | .fn _ _ _ => false
    | _ => true

/-- What a call is known to give; '.top': something. -/
noncomputable def coarse1 (a b : AV) : Bool := match b with
  | .top => true
  | b => sameA 6 a b
noncomputable def coarse (a b : AV) : Bool := match a, b with
  | .tup l, .tup m => sameL coarse1 l m
  | a, b => sameA 6 a b
noncomputable def gives (o : Out) (v : AV) : Bool := Option.rec false (fun q => Prod.rec (fun u _ => coarse u v) q) o

/-- A global's row that none may write, of one cell. -/
noncomputable def hasG (N : Nat) (h : H) (g : List (Nat × AV)) : Bool := List.rec true (fun p _ ih => Prod.rec (fun r a => both (both (Nat.blt r N) (both (flatB 3 a) (cellB a))) (Option.rec false (fun _ => ih) (onCells (h.get r) fun _ sz _ t wr _ => ite' (Nat.beq sz 1) (ite' (not wr) (bnd (t.get 0) fun l => List.rec none (fun b m _ => List.rec (ite' (sameA 3 b a) (some ())) (fun _ _ _ => none) m) l))))) p) g
noncomputable def pureO (N : Nat) (g : List (Nat × AV)) (tab : List (List AV × AV)) (args : List AV) (h : H) : Out := List.rec none (fun p _ ih => Prod.rec (fun l v => Bool.rec ih (ite' (hasG N h g) (some (v, h))) (sameL (sameA 6) l args)) p) tab

section
variable {P : Program} {σ : Sig} {N : Nat} {ρ ρ' : Rho} {h h' : H} {w w' : World} {v : AV}

mutual
theorem VR.flat : ∀ (n : Nat) (a : AV) {u : Value}, flatB n a = true → VR σ ρ a u → VR σ ρ' a u
  | 0, _, _, h, _ => nomatch h
  | n + 1, .agg l, _, h, ⟨cs, k1, k2, k3⟩ => ⟨cs, k1, LR.flat n l (show l.all (flatB n) = true from h) k2, k3⟩
  | n + 1, .tup l, _, h, ⟨cs, k1, k2⟩ => ⟨cs, k1, LR.flat n l (show l.all (flatB n) = true from h) k2⟩
  | n + 1, .ifc _ a, _, h, ⟨u, k1, k2⟩ => ⟨u, k1, VR.flat n a (show flatB n a = true from h) k2⟩
  | _ + 1, .ptr _ _, _, h, _ => nomatch h
  | _ + 1, .slc _ _ _ _ _, _, h, _ => nomatch h
  | _ + 1, .map _, _, h, _ => nomatch h
  | _ + 1, .chan _, _, h, _ => nomatch h
  | _ + 1, .fn _ _ _, _, h, _ => nomatch h
  | _ + 1, .int _ _, _, _, k => k
  | _ + 1, .bool _, _, _, k => k
  | _ + 1, .str _ _, _, _, k => k
  | _ + 1, .nilp, _, _, k => k
  | _ + 1, .nils, _, _, k => k
  | _ + 1, .nilm, _, _, k => k
  | _ + 1, .nilc, _, _, k => k
  | _ + 1, .nilf, _, _, k => k
  | _ + 1, .nili, _, _, k => k
  | _ + 1, .sym _, _, _, k => k
  | _ + 1, .und, _, _, k => k
  | _ + 1, .top, _, _, k => k
  | _ + 1, .cel, _, _, k => k
theorem LR.flat : ∀ (n : Nat) (l : List AV) {m : List Value}, l.all (flatB n) = true → LR σ ρ l m → LR σ ρ' l m
  | _, [], _, _, k => k
  | n, a :: l, _, h, ⟨u, r, k1, k2, k3⟩ => by
    rw [List.all_cons, Bool.and_eq_true] at h
    exact ⟨u, r, k1, VR.flat n a h.1 k2, LR.flat n l h.2 k3⟩
end

theorem coarse1_ok {a b : AV} (h : coarse1 a b = true) {u : Value} (hv : VR σ ρ a u) : VR σ ρ b u := by
  unfold coarse1 at h
  split at h
  · trivial
  · rw [← sameA_eq 6 _ _ h]; exact hv
theorem coarseL_ok : ∀ {l m : List AV} {vs : List Value}, sameL coarse1 l m = true → LR σ ρ l vs → LR σ ρ m vs
  | [], [], _, _, k => k
  | [], _ :: _, _, h, _ => nomatch h
  | _ :: _, [], _, h, _ => nomatch h
  | a :: l, b :: m, _, h, ⟨u, r, k1, k2, k3⟩ => by
    have h : Bool.rec (motive := fun _ => Bool) false (sameL coarse1 l m) (coarse1 a b) = true := h
    cases hab : coarse1 a b with
    | false => rw [hab] at h; cases h
    | true => rw [hab] at h; exact ⟨u, r, k1, coarse1_ok hab k2, coarseL_ok h k3⟩
theorem coarse_ok {a b : AV} (h : coarse a b = true) {u : Value} (hv : VR σ ρ a u) : VR σ ρ b u := by
  unfold coarse at h
  split at h
  · obtain ⟨cs, k1, k2⟩ := hv
    exact ⟨cs, k1, coarseL_ok h k2⟩
  · rw [← sameA_eq 6 _ _ h]; exact hv
theorem gives_some {o : Out} {v : AV} (e : gives o v = true) : ∃ u h, o = some (u, h) ∧ coarse u v = true := by
  unfold gives at e
  cases o with
  | none => cases e
  | some q => obtain ⟨u, h⟩ := q; exact ⟨u, h, rfl, e⟩

/-- A world in which all that was there stands. -/
theorem HR.below (hh : HR σ N ρ h w) (b : Below w.heap.size w w') : HR σ N ρ h w' ∧ St ρ h w ρ h w' :=
  ⟨{ live := fun r row e => let ⟨p, k1, k2⟩ := hh.live r row e; ⟨p, k1, k2.mono (Sub.refl _) (b.block _ k2.lt)⟩, new := hh.new, sep := hh.sep, old := hh.old, rels := hh.rels, glob := hh.glob },
   ⟨b.os, b.tape, b.output, b.size, fun k hk _ => b.block k hk, Sub.refl _, fun _ _ h => h, Nat.le_refl _, fun _ row _ h k => .inl ⟨row, h, k⟩, fun _ row h => .inl ⟨row, h⟩, fun q row _ h k => .inr (.inr ⟨q, row, h, k⟩), fun _ _ h => h⟩⟩

theorem cal_of_calls {f : Nat} {fn : Func} {c : Code} {vs : Array Value} (hf : P.funcs[f]? = some fn) (hb : fn.body = some c) (hn : (fn.name == "runtime.NumGoroutine") = false) (hh : HR σ N ρ h w) (hc : Calls P f vs w fun e w' => ∃ u, e = .returned u ∧ (∀ ρ', VR σ ρ' v u) ∧ Below w.heap.size w w') : Cal P σ N ρ h w (callFunc f vs) v h := by
  have hcall : (callFunc f vs).run P w = .ok (.enter f vs) w := by
    have hn' : fn.name ≠ "runtime.NumGoroutine" := by simpa using hn
    simp [callFunc, hf, hb, hn']
  intro o a next Q k
  rw [hcall]
  show Calls P f vs w _
  refine hc.mono ?_
  rintro e w' ⟨u, rfl, k1, k2⟩
  obtain ⟨g1, g2⟩ := hh.below k2
  exact k ρ u w' g1 g2 (k1 ρ)

theorem onCells_row {R : Type} {row : Option Row} {k : TypeId → Nat → Nat → Tr (List AV) → Bool → List Nat → Option R} {x : R} (h : onCells row k = some x) : ∃ e sz n t wr rel, row = some (.cells e sz n t wr rel) ∧ k e sz n t wr rel = some x := onCells_some h

theorem hasG_ok (hh : HR σ N ρ h w) : ∀ {g : List (Nat × AV)}, hasG N h g = true → ∀ r a, (r, a) ∈ g → r < N ∧ cellB a = true ∧ ∃ e cs fz u, w.heap[r]? = some (.cells cs e fz) ∧ cs[0]? = some u ∧ ∀ ρ', VR σ ρ' a u
  | [], _, _, _, hm => nomatch hm
  | (r0, a0) :: g, hg, r, a, hm => by
    obtain ⟨g1, g2⟩ := both_true (show both (both (Nat.blt r0 N) (both (flatB 3 a0) (cellB a0))) (Option.rec (motive := fun _ => Bool) false (fun _ => hasG N h g) (onCells (h.get r0) fun _ sz _ t wr _ => ite' (Nat.beq sz 1) (ite' (not wr) (bnd (t.get 0) fun l => List.rec none (fun b m _ => List.rec (ite' (sameA 3 b a0) (some ())) (fun _ _ _ => none) m) l)))) = true from hg)
    obtain ⟨g3, g4⟩ := both_true g1
    obtain ⟨g4, g5⟩ := both_true g4
    cases hx : (onCells (h.get r0) fun _ sz _ t wr _ => ite' (Nat.beq sz 1) (ite' (not wr) (bnd (t.get 0) fun l => List.rec none (fun b m _ => List.rec (ite' (sameA 3 b a0) (some ())) (fun _ _ _ => none) m) l)) : Option Unit) with
    | none => rw [hx] at g2; cases g2
    | some x =>
      rw [hx] at g2
      rcases List.mem_cons.1 hm with hm | hm
      · cases hm
        obtain ⟨e, sz, n, t, wr, rel, h1, hx⟩ := onCells_some hx
        obtain ⟨h2, hx⟩ := ite_some.1 hx
        obtain ⟨_, hx⟩ := ite_some.1 hx
        obtain ⟨l, h3, hx⟩ := bnd_some.1 hx
        have h2 := Nat.eq_of_beq_eq_true h2
        subst h2
        cases l with
        | nil => cases hx
        | cons b m =>
          cases m with
          | cons => cases hx
          | nil =>
            obtain ⟨h4, _⟩ := ite_some.1 (show ite' (sameA 3 b a0) (some ()) = some x from hx)
            have h4 := sameA_eq 3 _ _ h4
            subst h4
            have hr : r0 < N := Nat.lt_of_succ_le (Nat.le_of_ble_eq_true g3)
            obtain ⟨p, k1, cs, fz, k2, k3, _, k4⟩ := hh.live r0 _ h1
            obtain ⟨z, k5⟩ := hh.glob r0 hr
            rw [k1] at k5; cases k5
            obtain ⟨_, _, _, k6⟩ := k4 0 [b] h3
            obtain ⟨u, k7, k8⟩ := k6 0 b rfl
            exact ⟨hr, g5, e, cs, fz, u, k2, by simpa using k7, fun ρ' => VR.flat 3 _ g4 k8⟩
      · exact hasG_ok hh g2 r a hm

/-- The globals alone. -/
noncomputable def gmem (nx : Nat) (es : Nat → Nat) (g : List (Nat × AV)) : H := globs nx (g.map fun p => (p.1, es p.1, p.2))

theorem gmem_start (hh : HR σ N ρ h w) {g : List (Nat × AV)} (hg : hasG N h g = true) {nx : Nat} (hn : N ≤ nx) : ∃ es, HR σ N (rho0 N w) (gmem nx es g) w ∧ ∀ r row, (gmem nx es g).get r = some row → wrOf row = false := by
  let es : Nat → Nat := fun r => match w.heap[r]? with
    | some (.cells _ e _) => e
    | _ => 0
  refine ⟨es, HR.start (by unfold gmem; rw [globs_nx]; exact hn) fun r row e => ?_, fun r row e => ?_⟩
  · obtain ⟨e0, a, h1, rfl⟩ := globs_get e
    obtain ⟨⟨r', a'⟩, h2, h3⟩ := List.mem_map.1 h1
    cases h3
    obtain ⟨k1, k2, e1, cs, fz, u, k3, k4, k5⟩ := hasG_ok hh hg r' a' h2
    have he : es r' = e1 := by show (match w.heap[r']? with | some (.cells _ e _) => e | _ => 0) = e1; rw [k3]
    refine ⟨k1, _, _, _, _, cs, fz, rfl, by rw [k3]; rw [he], fun i l e => ?_⟩
    rw [Tr.get_node] at e
    by_cases hi : i = 0
    · subst hi
      rw [if_pos rfl] at e
      cases e
      refine ⟨Nat.one_pos, rfl, by simp [k2], fun j b hb => ?_⟩
      cases j with
      | zero => cases hb; exact ⟨u, by simpa using k4, k5 _⟩
      | succ j => simp at hb
    · rw [if_neg hi] at e
      split at e <;> simp at e
  · obtain ⟨e0, a, h1, rfl⟩ := globs_get e; rfl

theorem sameL6_eq {l m : List AV} (h : sameL (sameA 6) l m = true) : l = m := sameL_eq (fun a b h => sameA_eq 6 a b h) h

theorem pureO_some {g : List (Nat × AV)} {args : List AV} : ∀ {tab : List (List AV × AV)}, pureO N g tab args h = some (v, h') → (args, v) ∈ tab ∧ hasG N h g = true ∧ h' = h
  | [], e => nomatch e
  | (l, u) :: tab, e => by
    have e : Bool.rec (motive := fun _ => Out) (pureO N g tab args h) (ite' (hasG N h g) (some (u, h))) (sameL (sameA 6) l args) = some (v, h') := e
    cases hl : sameL (sameA 6) l args with
    | false =>
      rw [hl] at e
      obtain ⟨k1, k2⟩ := pureO_some e
      exact ⟨List.mem_cons_of_mem _ k1, k2⟩
    | true =>
      rw [hl] at e
      obtain ⟨k1, e⟩ := ite_some.1 e
      cases e
      rw [sameL6_eq hl]
      exact ⟨List.mem_cons_self .., k1, rfl⟩

/-- A function that was run at some arguments, over the globals alone. -/
theorem kok1_pure {F : Facts} {K : Known} (hF : FactsOk P σ F) (hK : KOk P σ N K) (hσ : ∀ i, (σ i).oneCell' = true) (hN : N = P.globals.size) {n f : Nat} (hKf : K f = none) {nx : Nat} (hn : N ≤ nx) {g : List (Nat × AV)} {tab : List (List AV × AV)} {fn : Func} {c : Code} (hf : P.funcs[f]? = some fn) (hb : fn.body = some c) (hnm : (fn.name == "runtime.NumGoroutine") = false)
    (flat : (tab.all fun p => p.1.all (flatB 6) && flatB 6 p.2) = true) (ev : ∀ args v, (args, v) ∈ tab → ∀ es, gives (call P F K n f args (gmem nx es g)) v = true) : KOk1 P σ N f (pureO N g tab) := by
  intro args h v h' e ρ w vs hh hv
  obtain ⟨k1, k2, rfl⟩ := pureO_some e
  obtain ⟨es, k3, k4⟩ := gmem_start hh k2 hn
  obtain ⟨u, h1, k5, k6⟩ := gives_some (ev args v k1 es)
  have fl := List.all_eq_true.1 flat _ k1
  rw [Bool.and_eq_true] at fl
  refine cal_of_calls hf hb hnm hh ((calls_enter hF hK hσ hN hKf k5 k3 (LR.flat 6 args fl.1 hv)).mono ?_)
  rintro e w' ⟨ρ', u', rfl, q1, q2, q3⟩
  refine ⟨u', rfl, fun ρ'' => VR.flat 6 v fl.2 (coarse_ok k6 q3), q2.os, q2.tape, q2.output, q2.size, fun k hk => q2.block k hk fun ⟨r, row, p, g1, g2, _⟩ => by rw [k4 r row g1] at g2; cases g2⟩
end
end Go.Exe
/- Arguments that stay open: their cells are '.sym's. -/
namespace Go.Exe
open Go

theorem cell_one {P : Program} {w : World} {r : Reach} {base : Nat} {t : TypeId} {v : Value} (h : Cell.okWide P w r base t v) : v.oneCell' = true := by
  unfold Cell.okWide at h
  split at h <;> first | rfl | skip
  unfold Cell.ok at h
  split at h <;> first | rfl | exact h.elim

theorem okWide_agg {P : Program} {w : World} {r : Reach} {base : Nat} {t : TypeId} {v : Value} (ha : aggOf P t = some true) (h : Value.okWide P w r base t v) : ∃ cs, v = .agg cs ∧ cs.size = P.cellsOf t ∧ ∀ x ∈ cs.toList, x.oneCell' = true := by
  have rows : (∃ cs, v = .agg cs ∧ cs.size = P.cellsOf t ∧ Row.okWide P w r base t cs) → ∃ cs, v = .agg cs ∧ cs.size = P.cellsOf t ∧ ∀ x ∈ cs.toList, x.oneCell' = true := fun ⟨cs, h1, h2, ts, _, _, h3⟩ => ⟨cs, h1, h2, fun x hx => by
    obtain ⟨i, hi⟩ := List.getElem?_of_mem hx
    obtain ⟨u, _, h4⟩ := h3 i x (by simpa using hi)
    exact cell_one h4⟩
  obtain ⟨d, h1, h2⟩ := bnd_some.1 ha
  have h1 : P.underlying t = some d := h1
  unfold Value.okWide at h
  rw [h1] at h
  cases d <;> first | exact rows h | (cases h2; done)
theorem okWide_cell {P : Program} {w : World} {r : Reach} {base : Nat} {t : TypeId} {v : Value} (ha : aggOf P t = some false) (h : Value.okWide P w r base t v) : v.oneCell' = true := by
  obtain ⟨d, h1, h2⟩ := bnd_some.1 ha
  have h1 : P.underlying t = some d := h1
  unfold Value.okWide at h
  rw [h1] at h
  cases d <;> first | exact cell_one h | (cases h2; done)

/-- What stands at each open place. -/
def sigL (l : List Value) : Sig := fun i => l.getD i (.bool false)
theorem sigL_one {l : List Value} (h : ∀ x ∈ l, x.oneCell' = true) : ∀ i, (sigL l i).oneCell' = true := fun i => by
  unfold sigL
  rw [List.getD_eq_getElem?_getD]
  cases hi : l[i]? with
  | none => rfl
  | some x => exact h x (List.mem_of_getElem? hi)

noncomputable def symL (n : Nat) : Nat → List AV := Nat.rec (fun _ => []) (fun _ ih a => .sym a :: ih (Nat.succ a)) n
theorem symL_ok {σ : Sig} {ρ : Rho} : ∀ {n : Nat} {cs : List Value} {a : Nat}, cs.length = n → (∀ j x, cs[j]? = some x → σ (a + j) = x) → LR σ ρ (symL n a) cs
  | 0, cs, a, h, _ => List.eq_nil_of_length_eq_zero h
  | n + 1, [], a, h, _ => by simp at h
  | n + 1, x :: cs, a, h, k => ⟨x, cs, rfl, (k 0 x rfl).symm, symL_ok (n := n) (a := a + 1) (by simpa using h) fun j y hj => by
      have := k (j + 1) y (by simpa using hj)
      rw [← this]; congr 1; omega⟩
theorem symL_cell : ∀ (n a : Nat), (symL n a).all cellB = true
  | 0, _ => rfl
  | n + 1, a => symL_cell n (a + 1)
theorem sigL_at {l pre cs post : List Value} (h : l = pre ++ cs ++ post) {j : Nat} {x : Value} (hj : cs[j]? = some x) {a : Nat} (ha : pre.length = a) : sigL l (a + j) = x := by
  subst h ha
  unfold sigL
  have hlt : j < cs.length := (List.getElem?_eq_some_iff.1 hj).1
  rw [List.getD_eq_getElem?_getD, List.append_assoc, List.getElem?_append_right (by omega), show pre.length + j - pre.length = j by omega, List.getElem?_append_left hlt, hj]
  rfl
theorem agg_sym {ρ : Rho} {l pre post : List Value} {cs : Array Value} (h : l = pre ++ cs.toList ++ post) {n a : Nat} (hn : cs.size = n) (ha : pre.length = a) : VR (sigL l) ρ (.agg (symL n a)) (.agg cs) :=
  ⟨cs, rfl, symL_ok (by simpa using hn) fun _ _ hj => sigL_at h hj ha, symL_cell n a⟩
theorem one_sym {ρ : Rho} {l pre post : List Value} {v : Value} (h : l = pre ++ [v] ++ post) {a : Nat} (ha : pre.length = a) : VR (sigL l) ρ (.sym a) v := by
  have := sigL_at h (j := 0) (x := v) rfl ha
  exact this.symm
end Go.Exe
/- Open strings: the first place of a byte. -/
namespace Go.Exe
open Go

/-- 'IndexByteString', at an open string too: byte b0 stands first at n in what is open at s0. -/
noncomputable def idxSymO (s0 b0 : Nat) (n : Int) (args : List AV) (h : H) : Out := two args fun a b => match a with
  | .sym s => ite' (Nat.beq s s0) (bnd (byteOf b) fun b => ite' (Nat.beq b b0) (some (.int .i64 n, h)))
  | .str l x => bnd (byteOf b) fun b => forceI (idxByte b l x 0) fun i => some (.int .i64 i, h)
  | _ => none

section
variable {P : Program} {σ : Sig} {N : Nat}
theorem kok1_indexSym {f0 : Nat} {fn : Func} (hf : P.funcs[f0]? = some fn) (hname : (fn.name == "runtime.NumGoroutine") = false) (hb : fn.body.isNone = true) (hn : Extern.findNext fn = none) (he : Extern.find fn = some Extern.BytealgIndexByte.indexByte) {s0 b0 : Nat} {n : Int} {sb : ByteArray} (hs : σ s0 = .string sb) (hi : firstIdx sb (Int.toNat (b0 : Int)).toUInt8 = n) : KOk1 P σ N f0 (idxSymO s0 b0 n) := by
  intro args h v h' e1 ρ w vs hh hv
  obtain ⟨a, c, rfl, e2⟩ := two_some e1
  cases a <;> first | (cases (show (none : Out) = some (v, h') from e2); done) | skip
  case str l x => exact kok1_index (P := P) (σ := σ) (N := N) hf hname hb hn he [.str l x, c] h v h' e1 ρ w vs hh hv
  case sym s =>
    obtain ⟨g1, e3⟩ := ite_some.1 (show ite' (Nat.beq s s0) (bnd (byteOf c) fun b => ite' (Nat.beq b b0) (some (AV.int .i64 n, h))) = some (v, h') from e2)
    obtain ⟨b, g2, e4⟩ := bnd_some.1 e3
    obtain ⟨g3, e5⟩ := ite_some.1 e4
    cases e5
    have g1 := Nat.eq_of_beq_eq_true g1
    have g3 := Nat.eq_of_beq_eq_true g3
    subst g1 g3
    obtain ⟨rfl, _⟩ := byteOf_some g2
    obtain ⟨u, r, q1, q2, u2, r2, q3, q4, q5⟩ := hv
    have q5 : r2 = [] := q5
    have q2 : u = σ s := q2
    have q4 : u2 = .int .u8 (b : Int) := q4
    subst q5 q3 q4 q2
    have hvs : vs = #[.string sb, .int .u8 (b : Int)] := by apply Array.ext'; rw [q1, hs]
    subst hvs
    intro o a next Q k
    rw [run_callFunc_extern hf hname hb hn he, run_indexByte_string, Result.andThen_ok]
    refine k ρ _ w hh (St.refl _ _ _) ?_
    rw [hi]; rfl

/-- A string's first newline, where what comes ahead has none. -/
theorem firstIdx_cut {a b : ByteArray} {c : UInt8} (ha : ∀ i (h : i < a.data.toList.length), a.data.toList[i] ≠ c) {s : ByteArray} (hs : s.data.toList = a.data.toList ++ c :: b.data.toList) : firstIdx s c = a.size := by
  have hsz : ∀ x : ByteArray, x.size = x.data.toList.length := fun x => (Array.length_toList (xs := x.data)).symm
  unfold firstIdx
  have hlen : s.size = a.data.toList.length + (b.data.toList.length + 1) := by rw [hsz, hs]; simp
  have hget : ∀ i, i < s.size → s[i]! = (s.data.toList[i]?).getD default := fun i hi => by
    rw [getElem!_pos s i hi]
    have hi2 : i < s.data.size := hi
    have : s.data.toList[i]? = some s.data[i] := by simp
    rw [this]; rfl
  have hf : (List.range s.size).find? (fun i => s[i]! == c) = some a.data.toList.length := by
    rw [List.find?_range_eq_some]
    refine ⟨?_, by rw [List.mem_range]; omega, fun j hj => ?_⟩
    · rw [hget _ (by omega), hs, List.getElem?_append_right (Nat.le_refl _)]; simp
    · have hj' : j < a.data.toList.length := hj
      rw [hget _ (by omega), hs, List.getElem?_append_left hj', List.getElem?_eq_getElem hj']
      simpa using ha j hj'
  rw [hf, hsz a]
end
end Go.Exe
/- 'bytealg.MakeNoZero': bytes of which nothing is known. -/
namespace Go.Exe
open Go

theorem digits_one : ∀ (n t : Nat) (acc : Array Value), (∀ x ∈ acc.toList, x.oneCell' = true) → ∀ x ∈ (Extern.BytealgMakeNoZero.digits n t acc).toList, x.oneCell' = true
  | 0, _, _, h => h
  | n + 1, t, acc, h => by
    rw [Extern.BytealgMakeNoZero.digits]
    refine digits_one n _ _ fun x hx => ?_
    rw [Array.toList_push, List.mem_append, List.mem_singleton] at hx
    rcases hx with hx | rfl
    · exact h x hx
    · rfl

section
variable {P : Program} {σ : Sig} {N : Nat}
theorem run_mnz (w : World) (ps : Array TypeId) (t e : TypeId) (ht : P.underlying t = some (.slice e)) (n : Nat) (hn : n ≤ 281474976710656) :
    ∃ cs : Array Value, (Extern.BytealgMakeNoZero.makeNoZero ps #[t] #[.int .i64 n]).run P w = .ok (.slice (some ⟨w.heap.size, 0, none⟩) n cs.size) (w.drew.drew.alloc (.cells cs e)) ∧ n ≤ cs.size ∧ (n ≤ maxLen → cs.size ≤ maxLen) ∧ ∀ x ∈ cs.toList, x.oneCell' = true := by
  have hdef : Extern.BytealgMakeNoZero.makeNoZero ps #[t] #[.int .i64 n] =
      (do
        let .slice elem ← underlying t | stuck "bytealg.MakeNoZero: slice type expected"
        if (n : Int) < 0 || (n : Int) > 2 ^ 48 then runtimePanic (.error "makeslice: len out of range")
        let cap ← choose (.appendCap (n : Int).toNat 0 elem)
        askRoom cap
        let bytes ← choose (.extern "internal/bytealg.MakeNoZero.bytes" 0)
        let a ← newRow elem (Extern.BytealgMakeNoZero.digits cap bytes #[])
        pure (.slice (some a) (n : Int).toNat cap)) := rfl
  refine ⟨Extern.BytealgMakeNoZero.digits (grownCap w n 0 e) ((Question.extern "internal/bytealg.MakeNoZero.bytes" 0).cut (w.tape (w.drawn + 1) (.extern "internal/bytealg.MakeNoZero.bytes" 0))) #[], ?_, ?_, ?_, ?_⟩
  · rw [hdef]
    have h1 : ¬ (n : Int) < 0 := by omega
    have h2 : ¬ (281474976710656 : Int) < (n : Int) := by omega
    simp [run_underlying ht, h1, h2, Question.forced, newRow, Lib.size_digits, grownCap]
  · rw [Lib.size_digits]
    simpa using grownCap_ge w n 0 e
  · intro hm
    rw [Lib.size_digits]
    simpa using grownCap_le_maxLen w n 0 e hm
  · exact digits_one _ _ _ fun x hx => by simp at hx

theorem kok1_mnz {f0 : Nat} {fn : Func} {ps : Array TypeId} {t e : TypeId} (hf : P.funcs[f0]? = some fn) (hname : (fn.name == "runtime.NumGoroutine") = false) (hb : fn.body.isNone = true) (hn : Extern.findNext fn = none) (he : Extern.find fn = some (Extern.BytealgMakeNoZero.makeNoZero ps #[t])) (ht : P.underlying t = some (.slice e)) : KOk1 P σ N f0 (makeNoZeroO e) := by
  intro args h v h' e1 ρ w vs hh hv
  obtain ⟨a, rfl, e2⟩ := one_some e1
  obtain ⟨n, h1, e3⟩ := bnd_some.1 e2
  obtain ⟨h2, e4⟩ := ite_some.1 e3
  obtain ⟨h3, e5⟩ := ite_some.1 e4
  clear e1 e2 e3 e4
  obtain ⟨k, rfl⟩ := natOf_some h1
  have hk : k = .i64 := by cases k <;> first | rfl | (cases h2; done)
  subst hk
  have h3 := Nat.le_of_ble_eq_true h3
  obtain ⟨u, r, q1, q2, q3⟩ := hv
  have q3 : r = [] := q3
  have q2 : u = .int .i64 (n : Int) := q2
  subst q3 q2
  have hvs : vs = #[.int .i64 (n : Int)] := by apply Array.ext'; rw [q1]
  subst hvs
  obtain ⟨cs, g1, g2, g3, g4⟩ := run_mnz (P := P) w ps t e ht n (by omega)
  intro o ac next Q kk
  rw [run_callFunc_extern hf hname hb hn he, g1, Result.andThen_ok]
  obtain ⟨⟨l1, l2, _⟩, rfl, tr, l3, l4⟩ := newS_lays e5
  have hr : ρ h.nx = none := hh.new _ (Nat.le_refl _)
  have hmax := g3 (by simp only [maxLen]; omega)
  have hh2 : HR σ N ρ h w.drew.drew := (hh.heap (w' := w.drew) rfl).heap (w' := w.drew.drew) rfl
  have els : Els σ ρ cs 0 1 n tr := fun i l hi => by
    have hi2 := lay0_get l3 i l hi
    rw [rep_eq] at hi2
    have hin : i < n := by
      have := (List.getElem?_eq_some_iff.1 hi2).1
      simpa using this
    have hl : l = [.cel] := by
      rw [List.getElem?_replicate, if_pos hin] at hi2
      exact (Option.some.inj hi2).symm
    subst hl
    refine ⟨hin, rfl, rfl, fun j b hb => ?_⟩
    cases j with
    | zero =>
      cases hb
      have hlt : i < cs.size := by omega
      exact ⟨cs[i], by simp [hlt], g4 _ (by simp)⟩
    | succ j => simp at hb
  obtain ⟨t1, t2⟩ := new_cells hh2 (St.refl _ _ _) (r := h.nx) (Nat.le_refl _) hr els (e := e) (h' := h') (fun q => by
    by_cases hq : q = h.nx
    · rw [if_pos hq, hq, l4]
    · rw [if_neg hq]; exact l2 q hq) (by omega) (by omega) (fz := (0, 0)) (.inl rfl)
  refine kk _ _ _ t1 t2.drew.drew ⟨⟨w.heap.size, 0, cs.size⟩, cs.size, 0, upd_same _ _ _, rfl, .inl rfl, g2, g2, hmax, (fun h => nomatch h), fun s hs => ?_⟩
  have : s = 1 := by omega
  subst this
  show 0 + cs.size * 1 ≤ cs.size
  omega
end
end Go.Exe
