/- Two functions of the library, by the shelf's contracts: strconv.ParseInt at base 10 and 64 bits, and the search of a byte. -/
import Derived.Test.YteaghbcenjhjhaaDoorShelf
import Derived.Test.YteaghbcenjhjhaaDoorPodK
import Derived.Lib.SmallJoins
namespace Go.Proofs.YteaghbcenjhjhaaDoor
open Go Go.Pod Go.Proofs

/-- A contract of the library, over no rows. -/
theorem fc_of_below {P : Program} {f : FuncId} {l : List D} {d : D} (h : ∀ (vs : Array Value) (w : World), Gl (fun _ => none) w → (∀ X : Nat → Prop, ∀ ρ : Hnd, VRs (cx X ρ w) l vs → Calls P f vs w fun e w' => ∃ v, e = .returned v ∧ RowKit.Below w.heap.size w w' ∧ (Drawing → w.drawn ≤ w'.drawn) ∧ ∀ x : Cx, (VR x d).v v)) : FC P f l [] d [] := by
  intro X ρ vs w hh hv
  refine (h vs w hh.gl.none X ρ hv).mono ?_
  rintro e w' ⟨v, rfl, hb, hd, hx⟩
  have st : Step Full ρ w ρ w' := {
    os := hb.os, tape := hb.tape, output := hb.output, drawn := hd, size := hb.size
    block := fun b hlt _ => hb.block b hlt
    rho := fun _ _ => .inr (.inr rfl)
    owns := fun _ ho => .inl ho }
  exact ⟨v, ρ, rfl, hh.beside st fun b hlt => hb.block b hlt, st.mono fun _ _ => trivial, hx _⟩

/-- A byte's place in a string. -/
def F_internal_stringslite_IndexByte (s : ByteArray) (c : Int) : Option Int := some (Lib.indexByte s.data.toList c.toNat.toUInt8)

theorem fc_internal_stringslite_IndexByte (s : ByteArray) (c : Int) {r : Int} (h : F_internal_stringslite_IndexByte s c = some r) : FC Tryd.prog 47 [.str s, .int .u8 c] [] (.int .i64 r) [] := by
  cases h
  refine fc_of_below fun vs w _ X ρ hv => ?_
  obtain ⟨hs, hv⟩ := hv
  have h0 := (hv 0 _ rfl).1
  have h1 := (hv 1 _ rfl).1
  obtain rfl : vs = #[.string s, .int .u8 c] := by
    obtain ⟨l⟩ := vs
    match l, hs with
    | [a, b], _ => simp at h0 h1; rw [h0, h1]
  refine (Any.stringslite_IndexByte Tryd.lays217 s c w).mono ?_
  rintro e w' ⟨rfl, rfl⟩
  exact ⟨_, rfl, RowKit.Below.refl _ _, fun _ => Nat.le_refl _, fun x => ⟨rfl, rfl⟩⟩

/-- A number, and whether there is no error. -/
def pint (s : ByteArray) : Int × Bool := match Lib.parseIntB 64 s.data.toList with
  | .ok v => (v, true)
  | .range => (Lib.intSat 64 s.data.toList, false)
  | _ => (0, false)

def F_strconv_ParseInt (s : ByteArray) (b c : Int) : Option (Int × Bool) := if b = 10 ∧ c = 64 ∧ s.size ≤ 281474976710656 then some (pint s) else none

theorem fc_strconv_ParseInt (s : ByteArray) (b c : Int) {r : Int × Bool} (h : F_strconv_ParseInt s b c = some r) : FC Tryd.prog 37 [.str s, .int .i64 b, .int .i64 c] [] (.tup (.cons (.int .i64 r.1) (.cons (.err r.2) .nil))) [] := by
  unfold F_strconv_ParseInt at h
  split at h
  · rename_i hc
    obtain ⟨rfl, rfl, hz⟩ := hc
    cases h
    refine fc_of_below fun vs w hg X ρ hv => ?_
    obtain ⟨hs, hv⟩ := hv
    have h0 := (hv 0 _ rfl).1
    have h1 := (hv 1 _ rfl).1
    have h2 := (hv 2 _ rfl).1
    obtain rfl : vs = #[.string s, .int .i64 10, .int .i64 64] := by
      obtain ⟨l⟩ := vs
      match l, hs with
      | [a, b, c], _ => simp at h0 h1 h2; rw [h0, h1, h2]
    have hdr : ∀ w' : World, Drawing → w.drawn ≤ w'.drawn := fun _ h => h.elim
    have hgl : ∀ q, q ∈ Glob → ∃ t p, w.cell? ⟨q.1, 0, none⟩ = some (.iface t p) := fun q hq => by
      obtain ⟨_, cs, e, fz, k1, k2⟩ := hg q hq
      have k3 : ∃ t p, cs[0]? = some (.iface t p) := by
        simp only [Glob, List.mem_cons, List.not_mem_nil, or_false] at hq
        rcases hq with rfl | rfl <;> exact k2
      obtain ⟨t, p, k3⟩ := k3
      exact ⟨t, p, by simp only [World.cell?, k1]; exact k3⟩
    have key : ∀ (n : Int) (v : Value) (b : Bool), (if b then v = .nilIface else ∃ t u, v = .iface t u) → v.oneCell' = true → ∀ x : Cx, (VR x (.tup (.cons (.int .i64 n) (.cons (.err b) .nil)))).v (.tuple #[.int .i64 n, v]) := fun n v b hv ho x =>
      ⟨_, rfl, ⟨_, rfl, rfl, rfl⟩, ⟨_, rfl, hv, ho⟩, rfl⟩
    unfold pint
    cases hp : Lib.parseIntB 64 s.data.toList
    case ok v =>
      refine (Any.strconv_ParseInt_10_at64_ok Tryd.laysC174 s (by omega) v hp w).mono ?_
      rintro e w' ⟨rfl, hw⟩
      refine ⟨_, rfl, ?_, hdr _, key _ _ true rfl rfl⟩
      rcases hw with rfl | ⟨t, rfl⟩
      · exact RowKit.Below.refl _ _
      · exact Joins.below_bytesWorld _ _ _ _ (Nat.le_refl _)
    case range =>
      obtain ⟨t, p, hv0⟩ := hgl (1, _) (List.mem_cons_of_mem _ (List.mem_cons_self ..))
      refine (Any.strconv_ParseInt_10_at64_range Tryd.laysC174 s hz hp _ w hv0 (.inr ⟨t, p, rfl⟩)).mono ?_
      rintro e w' ⟨N, rfl, _, _, hb⟩
      exact ⟨_, rfl, hb, hdr _, key _ _ false ⟨_, _, rfl⟩ rfl⟩
    case _ =>
      obtain ⟨t, p, hv0⟩ := hgl (0, _) (List.mem_cons_self ..)
      refine (Any.strconv_ParseInt_10_at64_syntax Tryd.laysC174 s hz hp _ w hv0 (.inr ⟨t, p, rfl⟩)).mono ?_
      rintro e w' ⟨N, rfl, _, _, hb⟩
      exact ⟨_, rfl, hb, hdr _, key _ _ false ⟨_, _, rfl⟩ rfl⟩
  · cases h

end Go.Proofs.YteaghbcenjhjhaaDoor
