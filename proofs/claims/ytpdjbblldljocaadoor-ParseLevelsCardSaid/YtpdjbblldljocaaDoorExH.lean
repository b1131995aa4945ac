/- The top: calls of closed functions. -/
import Derived.Test.YtpdjbblldljocaaDoorExG7
import Derived.Laws.Externs
namespace Go.Exe
open Go Go.RowKit

section
variable {P : Program} {σ : Sig} {N : Nat} {ρ : Rho} {h h' : H} {w w' : World} {v : AV}

theorem find_congr {α : Type} {p q : α → Bool} : ∀ {l : List α}, (∀ x ∈ l, p x = q x) → l.find? p = l.find? q
  | [], _ => rfl
  | a :: l, h => by
    rw [List.find?_cons, List.find?_cons, h a (List.mem_cons_self ..), find_congr fun x hx => h x (List.mem_cons_of_mem _ hx)]

theorem idxByte_ok (b : Nat) : ∀ (l : List UInt8) (i : Nat), idxByte b l.length (bytesN l) i = match (List.range l.length).find? fun j => decide (l[j]?.map (·.toNat) = some b) with
    | some j => Int.ofNat (i + j)
    | none => -1
  | [], i => rfl
  | c :: l, i => by
    have hc : c.toNat < 256 := c.toNat_lt
    have e1 : Nat.land (bytesN (c :: l)) 255 = c.toNat := by
      show (bytesN (c :: l)) &&& 255 = _
      rw [show (255 : Nat) = 2 ^ 8 - 1 from rfl, Nat.and_two_pow_sub_one_eq_mod, bytesN_cons]; omega
    have e2 : Nat.shiftRight (bytesN (c :: l)) 8 = bytesN l := by
      show (bytesN (c :: l)) >>> 8 = _
      rw [Nat.shiftRight_eq_div_pow, bytesN_cons]; omega
    show Bool.rec (motive := fun _ => Int) (idxByte b l.length (Nat.shiftRight (bytesN (c :: l)) 8) (Nat.succ i)) (.ofNat i) (Nat.beq (Nat.land (bytesN (c :: l)) 255) b) = _
    rw [e1, e2, beq_eq, idxByte_ok b l, List.length_cons, List.range_succ_eq_map, List.find?_cons, List.find?_map]
    by_cases h : c.toNat = b
    · have h' : decide (((c :: l)[0]?.map (·.toNat)) = some b) = true := by simp [h]
      rw [decide_eq_true h, h']; rfl
    · have h' : decide (((c :: l)[0]?.map (·.toNat)) = some b) = false := by simp [h]
      rw [decide_eq_false h, h']
      have hf : ((fun j => decide ((c :: l)[j]?.map (·.toNat) = some b)) ∘ Nat.succ) = fun j => decide (l[j]?.map (·.toNat) = some b) := by
        funext j; simp
      rw [hf]
      cases (List.range l.length).find? fun j => decide (l[j]?.map (·.toNat) = some b) with
      | none => rfl
      | some j => show Int.ofNat _ = Int.ofNat _; congr 1; omega

theorem firstIdx_ok (s : ByteArray) (b : Nat) (hb : b < 256) : firstIdx s (Int.toNat (b : Int)).toUInt8 = idxByte b s.data.toList.length (bytesN s.data.toList) 0 := by
  rw [idxByte_ok]
  unfold firstIdx
  have hs : s.size = s.data.toList.length := (Array.length_toList (xs := s.data)).symm
  have e : (List.range s.size).find? (fun i => s[i]! == (Int.toNat (b : Int)).toUInt8) = (List.range s.data.toList.length).find? fun j => decide (s.data.toList[j]?.map (·.toNat) = some b) := by
    rw [hs]
    refine find_congr fun i hi => ?_
    have hi : i < s.size := by rw [hs]; exact List.mem_range.1 hi
    have hi2 : i < s.data.size := hi
    have e1 : s[i]! = s.data[i] := by rw [getElem!_pos s i hi]; rfl
    have e3 : s.data.toList[i]? = some s.data[i] := by simp
    rw [e1, e3]
    have hu : ((Int.toNat (b : Int)).toUInt8).toNat = b := by
      simp only [Int.toNat_natCast, Nat.toUInt8, UInt8.toNat_ofNat']; omega
    show decide _ = decide _
    refine decide_eq_decide.2 ⟨fun h => by rw [h]; exact congrArg some hu, fun h => ?_⟩
    have h : s.data[i].toNat = b := by simpa using h
    apply UInt8.toNat_inj.1
    rw [h, hu]
  rw [e]
  cases (List.range s.data.toList.length).find? fun j => decide (s.data.toList[j]?.map (·.toNat) = some b) with
  | none => rfl
  | some j => show Int.ofNat j = Int.ofNat (0 + j); rw [Nat.zero_add]

theorem kok_none : KOk P σ N (fun _ => none) := fun _ _ e => nomatch e
/-- The one function without a body that is known: the first place of a byte. -/
theorem kok_index {f0 : Nat} {fn : Func} (hf : P.funcs[f0]? = some fn) (hname : (fn.name == "runtime.NumGoroutine") = false) (hb : fn.body.isNone = true) (hn : Extern.findNext fn = none) (he : Extern.find fn = some Extern.BytealgIndexByte.indexByte) : KOk P σ N (fun f => Bool.rec none (some idxByteO) (Nat.beq f f0)) := by
  intro f g e args h v h' e1 ρ w vs hh hv
  have e : Bool.rec (motive := fun _ => Option (List AV → H → Out)) none (some idxByteO) (Nat.beq f f0) = some g := e
  rw [beq_eq] at e
  by_cases hff : f = f0
  · subst hff
    rw [decide_eq_true rfl] at e
    cases e
    unfold idxByteO two at e1
    cases args with
    | nil => cases e1
    | cons a args =>
      cases args with
      | nil => cases e1
      | cons c args =>
        cases args with
        | cons d args => cases e1
        | nil =>
          obtain ⟨n, x, rfl⟩ : ∃ n x, a = .str n x := by
            cases a <;> first | exact ⟨_, _, rfl⟩ | (exact nomatch e1)
          · obtain ⟨b, hb1, e1⟩ := bnd_some.1 (show bnd (byteOf c) (fun b => forceI (idxByte b n x 0) fun i => (some (.int .i64 i, h) : Out)) = some (v, h') from e1)
            rw [forceI_eq] at e1
            cases e1
            obtain ⟨s, r, q1, q2, u, r2, q3, q4, q5⟩ := hv
            have q5 : r2 = [] := q5
            subst q5 q3
            obtain ⟨s, rfl, rfl, rfl⟩ := q2
            unfold byteOf at hb1
            split at hb1
            · obtain ⟨hle, hb1⟩ := ite_some.1 hb1
              cases hb1
              have hle := Nat.le_of_ble_eq_true hle
              cases q4
              have : vs = #[.string s, .int .u8 (b : Int)] := by apply Array.ext'; rw [q1]; rfl
              subst this
              intro o a next Q k
              rw [run_callFunc_extern hf hname hb hn he, run_indexByte_string, Result.andThen_ok]
              refine k ρ _ w hh (St.refl _ _ _) ?_
              rw [firstIdx_ok s b (by omega)]; rfl
            · cases hb1
  · rw [decide_eq_false hff] at e; cases e

theorem calls_enter {F : Facts} {K : Known} (hF : FactsOk P σ F) (hK : KOk P σ N K) (hσ : ∀ i, (σ i).oneCell' = true) (hN : N = P.globals.size) {n f : Nat} (hKf : K f = none) {args : List AV} (e : call P F K n f args h = some (v, h')) (hh : HR σ N ρ h w) {vs : Array Value} (hv : LR σ ρ args vs.toList) :
    Calls P f vs w fun e w' => ∃ ρ' u, e = .returned u ∧ HR σ N ρ' h' w' ∧ St ρ h w ρ' h' w' ∧ VR σ ρ' v u := by
  have hr := runs_ok hF hK hσ hN n
  unfold call enter at e
  rw [hKf] at e
  cases hf : funcs P f with
  | none => rw [hf] at e; exact nomatch e
  | some fn =>
    rw [hf] at e
    dsimp only at e
    cases hb : fn.body with
    | none => rw [hb] at e; exact nomatch e
    | some c =>
      rw [hb] at e
      dsimp only at e
      cases hn : fn.name == "runtime.NumGoroutine" with
      | true => rw [hn] at e; exact nomatch e
      | false =>
        rw [hn] at e
        obtain ⟨env, h1, h2⟩ := bnd_some.1 (show bnd (mkEnv args fn.ntmps) (fun env => run P F K n fn [.code c] env h) = some (v, h') from e)
        have hf : P.funcs[f]? = some fn := by
          have : nth P.funcs.toList f = some fn := hf
          rw [nth_eq] at this
          simpa using this
        exact calls_of_run hr hf hb h1 h2 hh hv

theorem isT_some {o : Out} (e : isT o = true) : ∃ h, o = some (.bool true, h) := by
  unfold isT at e
  cases o with
  | none => cases e
  | some q =>
    obtain ⟨v, h⟩ := q
    have e : boolOf v = true := e
    unfold boolOf at e
    split at e
    · subst e; exact ⟨h, rfl⟩
    · cases e

/-- Memory that none may write at first: a call that gives true does so, and leaves all that was there. -/
theorem top {F : Facts} {K : Known} (hF : FactsOk P σ F) (hK : KOk P σ N K) (hσ : ∀ i, (σ i).oneCell' = true) (hN : N = P.globals.size) {n f : Nat} (hKf : K f = none) {args : List AV} (e : isT (call P F K n f args h) = true) (hh : HR σ N ρ h w) (hro : ∀ r row, h.get r = some row → wrOf row = false) {vs : Array Value} (hv : LR σ ρ args vs.toList) :
    Calls P f vs w fun e w' => e = .returned (.bool true) ∧ w.keptBut w' (fun _ => False) ∧ Below w.heap.size w w' := by
  obtain ⟨h', e⟩ := isT_some e
  refine (calls_enter hF hK hσ hN hKf e hh hv).mono ?_
  rintro e w' ⟨ρ', u, rfl, h1, h2, h3⟩
  have hb : Below w.heap.size w w' := ⟨h2.os, h2.tape, h2.output, h2.size, fun k hk => h2.block k hk fun ⟨r, row, p, g1, g2, _⟩ => by rw [hro r row g1] at g2; cases g2⟩
  exact ⟨by rw [show u = .bool true from h3], hb.frame _, hb⟩

/-- Where the globals stand at first. -/
def rho0 (N : Nat) (w : World) : Rho := fun r => if r < N then some ⟨r, 0, match w.heap[r]? with
  | some (.cells cs _ _) => cs.size
  | _ => 0⟩ else none

theorem HR.start {h : H} (hn : N ≤ h.nx) (rows : ∀ r row, h.get r = some row → r < N ∧ ∃ e sz n t cs fz, row = .cells e sz n t false [] ∧ w.heap[r]? = some (.cells cs e fz) ∧ Els σ (rho0 N w) cs 0 sz n t) : HR σ N (rho0 N w) h w := by
  have pl : ∀ r, r < N → ∃ z, rho0 N w r = some ⟨r, 0, z⟩ := fun r hr => ⟨_, if_pos hr⟩
  have rel : ∀ r row, h.get r = some row → relOf row = [] := fun r row e => by
    obtain ⟨_, _, _, _, _, _, _, rfl, _⟩ := rows r row e; rfl
  refine ⟨fun r row e => ?_, fun r hr => if_neg (by omega), fun r q row row' p p' e1 e2 hne _ _ h1 h2 => ?_, fun r q row row' e1 hq => ?_, fun r q row e1 hq => ?_, pl⟩
  · obtain ⟨hr, e, sz, n, t, cs, fz, rfl, h1, h2⟩ := rows r row e
    refine ⟨_, if_pos hr, cs, fz, h1, ?_, (fun h => nomatch h), h2⟩
    show cs.size = match w.heap[r]? with
      | some (.cells cs _ _) => cs.size
      | _ => 0
    rw [h1]
  · obtain ⟨z, k1⟩ := pl r (rows r row e1).1
    obtain ⟨z', k2⟩ := pl q (rows q row' e2).1
    rw [k1] at h1; rw [k2] at h2
    cases h1; cases h2
    exact hne
  · rw [rel r row e1] at hq; cases hq
  · rw [rel r row e1] at hq; cases hq


theorem glob2_get {e0 e1 : Nat} {a0 a1 : AV} {nx r : Nat} {row : Row} (e : (glob2 e0 e1 a0 a1 nx).get r = some row) : (r = 0 ∧ row = .cells e0 1 1 (.node .leaf (some [a0]) .leaf) false []) ∨ (r = 1 ∧ row = .cells e1 1 1 (.node .leaf (some [a1]) .leaf) false []) := by
  have e : (Tr.node (.node .leaf (some (.cells e1 1 1 (.node .leaf (some [a1]) .leaf) false [])) .leaf) (some (Row.cells e0 1 1 (.node .leaf (some [a0]) .leaf) false [])) .leaf).get r = some row := e
  rw [Tr.get_node] at e
  split at e
  · cases e; exact .inl ⟨‹_›, rfl⟩
  · split at e
    · rw [Tr.get_node] at e
      split at e
      · cases e; exact .inr ⟨by omega, rfl⟩
      · split at e <;> cases e
    · cases e

theorem HR.start2 {e0 e1 nx : Nat} {a0 a1 : AV} {u0 u1 : Value} (hN : 2 ≤ N) (hn : N ≤ nx) (c0 : cellB a0 = true) (c1 : cellB a1 = true) (h0 : ∀ ρ, VR σ ρ a0 u0) (h1 : ∀ ρ, VR σ ρ a1 u1) {fz0 fz1 : Nat × Nat} (w0 : w.heap[0]? = some (.cells #[u0] e0 fz0)) (w1 : w.heap[1]? = some (.cells #[u1] e1 fz1)) : HR σ N (rho0 N w) (glob2 e0 e1 a0 a1 nx) w ∧ ∀ r row, (glob2 e0 e1 a0 a1 nx).get r = some row → wrOf row = false := by
  refine ⟨HR.start hn fun r row e => ?_, fun r row e => ?_⟩
  · rcases glob2_get e with ⟨rfl, rfl⟩ | ⟨rfl, rfl⟩
    · exact ⟨by omega, _, _, _, _, _, _, rfl, w0, els_one (l := [a0]) (cs := #[u0]) ⟨_, _, rfl, h0 _, rfl⟩ (by simp [c0])⟩
    · exact ⟨by omega, _, _, _, _, _, _, rfl, w1, els_one (l := [a1]) (cs := #[u1]) ⟨_, _, rfl, h1 _, rfl⟩ (by simp [c1])⟩
  · rcases glob2_get e with ⟨rfl, rfl⟩ | ⟨rfl, rfl⟩ <;> rfl

/-- No memory at all. -/
theorem HR.start0 {nx : Nat} (hn : N ≤ nx) : HR σ N (rho0 N w) ⟨.leaf, nx⟩ w ∧ ∀ r row, (⟨.leaf, nx⟩ : H).get r = some row → wrOf row = false :=
  ⟨HR.start hn (fun _ _ e => nomatch e), fun _ _ e => nomatch e⟩

theorem facts_none : FactsOk P σ (fun _ _ _ => none) := fun _ _ _ _ h => nomatch h
end
end Go.Exe
