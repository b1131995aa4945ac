/- 'ShellWrong': the statement's card, proved. -/
import Derived.Test.YtofdeeojhiccmaaGreatDoorCards
import Derived.Test.YtofdeeojhiccmaaGreatDoorTie
import Derived.WalkKit
import Derived.ProofKit
import Derived.OpenShut
import Derived.ChangeMaps5
import Derived.Lay
import Derived.Stop.LaidErr
import Derived.MakeChecks
import Derived.Test.YtofdeeojhiccmaaGreatDoorExR
import Derived.Test.YtofdeeojhiccmaaGreatDoorExL
import Derived.Test.YtofdeeojhiccmaaGreatDoorSheN0
import Derived.Test.YtofdeeojhiccmaaGreatDoorSheN1
import Derived.Test.YtofdeeojhiccmaaGreatDoorSheN2
import Derived.Test.YtofdeeojhiccmaaGreatDoorSheN3
import Derived.Test.YtofdeeojhiccmaaGreatDoorSheJ0
import Derived.Test.YtofdeeojhiccmaaGreatDoorSheJ1
import Derived.Test.YtofdeeojhiccmaaGreatDoorSheJ2
import Derived.Test.YtofdeeojhiccmaaGreatDoorSheJ3
import Derived.Test.YtofdeeojhiccmaaGreatDoorSheW
import Derived.Test.YtofdeeojhiccmaaGreatDoorSheWLoad
import Derived.Test.YtofdeeojhiccmaaGreatDoorSheWEval
import Derived.Test.YtofdeeojhiccmaaGreatDoorSheWRun
namespace Go.Proofs.YtofdeeojhiccmaaGreatDoor
open Go Go.ChangeShapes Go.WideShapes Go.ChangeAt Go.RowKit
namespace shellWrong
theorem own : ownKnob Tryz.prog.godebug = none := by kernel_rfl
theorem laid : laidOutB Tryz.prog = true := by kernel_rfl

def nl : ByteArray := ⟨#[10]⟩
/-- What stands at each open place. -/
def sg (wb rb : ByteArray) (a b : Addr) : Exe.Sig := fun i =>
  if i = 0 then .string wb else if i = 1 then .string rb else if i = 52 then .int .i64 (wb.size : Int) else if i = 53 then .int .i64 (rb.size : Int) else if i = 54 then .string (wb ++ nl) else if i = 55 then .string (wb ++ nl ++ rb)
  else if i = 100 then .pointer (some a) else if i = 101 then .pointer (some b) else (match wb.data.toList[i - 2]? with
    | some c => .int .u8 (c.toNat : Int)
    | none => .bool false)
theorem sg_one (wb rb : ByteArray) (a b : Addr) : ∀ i, (sg wb rb a b i).oneCell' = true := fun i => by
  unfold sg
  repeat' split
  all_goals rfl
theorem sg_byte {wb rb : ByteArray} {a b : Addr} {i : Nat} (hi : i < wb.data.toList.length) (hi50 : i < 50) : sg wb rb a b (2 + i) = .int .u8 (wb.data.toList[i].toNat : Int) := by
  unfold sg
  rw [if_neg (by omega), if_neg (by omega), if_neg (by omega), if_neg (by omega), if_neg (by omega), if_neg (by omega), if_neg (by omega), if_neg (by omega), show 2 + i - 2 = i by omega, List.getElem?_eq_getElem hi]

theorem start {σ : Exe.Sig} {w : World} {a b : Addr} (ha : σ 100 = .pointer (some a)) (hb : σ 101 = .pointer (some b)) {e0 e1 : TypeId} {fz0 fz1 : Nat × Nat} (h0 : w.heap[2]? = some (.cells #[.iface 487 (.pointer (some a))] e0 fz0)) (h1 : w.heap[3]? = some (.cells #[.iface 487 (.pointer (some b))] e1 fz1)) :
    ∃ es, Exe.HR σ 8 (Exe.rho0 8 w) (Exe.gmem 100 es Exe.She.G) w ∧ ∀ r row, (Exe.gmem 100 es Exe.She.G).get r = some row → Exe.wrOf row = false := by
  refine ⟨fun r => if r = 2 then e0 else e1, ?_⟩
  unfold Exe.gmem
  refine Exe.HR.starts (by decide) fun r e c h => ?_
  simp only [Exe.She.G, List.map_cons, List.map_nil, List.mem_cons, List.not_mem_nil, or_false, Prod.mk.injEq] at h
  rcases h with ⟨rfl, rfl, rfl⟩ | ⟨rfl, rfl, rfl⟩
  · exact ⟨by decide, rfl, _, fz0, fun ρ => ⟨_, rfl, ha.symm⟩, h0⟩
  · exact ⟨by decide, rfl, _, fz1, fun ρ => ⟨_, rfl, hb.symm⟩, h1⟩

set_option maxRecDepth 100000 in
theorem string_of {W : World} {base : Nat} {v : Value} (h : Value.okWide Tryz.prog W .any base 9 v) : ∃ s : ByteArray, v = .string s := by
  unfold Value.okWide at h
  rw [Tryz.underlying9] at h
  unfold Cell.okWide at h
  rw [Tryz.underlying9] at h
  unfold Cell.ok at h
  rw [Tryz.underlying9] at h
  cases v <;> simp at h
  exact ⟨_, rfl⟩

noncomputable def str (s : ByteArray) : Exe.AV := .str s.data.toList.length (Exe.bytesN s.data.toList)
theorem str_vr {σ : Exe.Sig} {ρ : Exe.Rho} (s : ByteArray) : Exe.VR σ ρ (str s) (.string s) := ⟨s, rfl, rfl, rfl⟩
theorem ba_ext : ∀ {x y : ByteArray}, x.data.toList = y.data.toList → x = y
  | ⟨_⟩, ⟨_⟩, h => congrArg ByteArray.mk (Array.ext' h)
theorem ba_extract (s : ByteArray) (l h : Nat) : (s.extract l h).data.toList = (s.data.toList.drop l).take (h - l) := by simp
theorem str_uniq {σ : Exe.Sig} {ρ : Exe.Rho} {n x : Nat} {u : Value} (h : Exe.VR σ ρ (.str n x) u) {s : ByteArray} (h1 : s.data.toList.length = n) (h2 : Exe.bytesN s.data.toList = x) : u = .string s := by
  obtain ⟨c, rfl, c1, c2⟩ := h
  exact congrArg Value.string (ba_ext (Exe.bytesN_inj (by rw [c1, h1]) (by rw [c2, h2])))
theorem size_len (s : ByteArray) : s.size = s.data.toList.length := (Array.length_toList (xs := s.data)).symm

abbrev NF : Exe.Facts := { bin := fun _ _ _ => none, conv := fun _ _ _ => none }
/-- A fact about a number. -/
theorem gt_fact {σ : Exe.Sig} {ρ : Exe.Rho} {t : TypeId} {p q : Operand} {m k : Nat} {r : Bool} (h : decide (k < m) = r) : ∃ u, Exe.VR σ ρ (.bool r) u ∧ ∀ w, (do eqGuard .gtr t p q (.int .i64 (m : Int)) (.int .i64 (k : Int)); binOp .gtr t (.int .i64 (m : Int)) (.int .i64 (k : Int)) : Sem Value).run Tryz.prog w = .ok u w :=
  Exe.binO_ok (P := Tryz.prog) (σ := σ) (ρ := ρ) (F := NF) Exe.facts_none (op := .gtr) (t := t) (p := p) (q := q) (v := .bool r) (a := .int .i64 (.ofNat m)) (b := .int .i64 (.ofNat k)) (by
    show Exe.iOp .gtr .i64 .i64 (.ofNat m) (.ofNat k) = _
    show Exe.ite' true (Exe.bo (not (Exe.ile (.ofNat m) (.ofNat k)))) = _
    rw [Exe.ile_eq, ← h]
    have : (!decide ((Int.ofNat m) ≤ Int.ofNat k)) = decide (k < m) := by
      rw [← decide_not]; exact decide_eq_decide.2 (by show ¬ ((m : Int) ≤ (k : Int)) ↔ _; omega)
    rw [this]; cases decide (k < m) <;> rfl) rfl rfl
theorem lt_fact {σ : Exe.Sig} {ρ : Exe.Rho} {t : TypeId} {p q : Operand} {m k : Nat} (h : m < k) : ∃ u, Exe.VR σ ρ (.bool true) u ∧ ∀ w, (do eqGuard .lss t p q (.int .i64 (m : Int)) (.int .i64 (k : Int)); binOp .lss t (.int .i64 (m : Int)) (.int .i64 (k : Int)) : Sem Value).run Tryz.prog w = .ok u w :=
  Exe.binO_ok (P := Tryz.prog) (σ := σ) (ρ := ρ) (F := NF) Exe.facts_none (op := .lss) (t := t) (p := p) (q := q) (a := .int .i64 (.ofNat m)) (b := .int .i64 (.ofNat k)) (by
    show Exe.iOp .lss .i64 .i64 (.ofNat m) (.ofNat k) = _
    show Exe.ite' true (Exe.bo (not (Exe.ile (.ofNat k) (.ofNat m)))) = _
    rw [Exe.ile_eq]
    have : (!decide ((Int.ofNat k) ≤ Int.ofNat m)) = true := by
      rw [← decide_not]; exact decide_eq_true (by show ¬ ((k : Int) ≤ (m : Int)); omega)
    rw [this]; rfl) rfl rfl
theorem eq_fact {σ : Exe.Sig} {ρ : Exe.Rho} {t : TypeId} {p q : Operand} {m : Nat} {r : Bool} (h : decide (m = 10) = r) : ∃ u, Exe.VR σ ρ (.bool r) u ∧ ∀ w, (do eqGuard .eql t p q (.int .u8 (m : Int)) (.int .u8 (10 : Int)); binOp .eql t (.int .u8 (m : Int)) (.int .u8 (10 : Int)) : Sem Value).run Tryz.prog w = .ok u w :=
  Exe.binO_ok (P := Tryz.prog) (σ := σ) (ρ := ρ) (F := NF) Exe.facts_none (op := .eql) (t := t) (p := p) (q := q) (v := .bool r) (a := .int .u8 (.ofNat m)) (b := .int .u8 (.ofNat 10)) (by
    show Exe.iOp .eql .u8 .u8 (.ofNat m) (.ofNat 10) = _
    show Exe.ite' true (Exe.bo (Exe.ieq (.ofNat m) (.ofNat 10))) = _
    rw [Exe.ieq_eq, ← h]
    have : decide (Int.ofNat m = Int.ofNat 10) = decide (m = 10) := decide_eq_decide.2 (by show (m : Int) = ((10 : Nat) : Int) ↔ _; omega)
    rw [this]; cases decide (m = 10) <;> rfl) rfl rfl

theorem fact_N {n : Nat} {z : Bool} {op : BinOp} {c d v : Exe.AV} (e : (Exe.She.FN n z).bin op c d = some v) :
    (op = .gtr ∧ c = .sym 53 ∧ d = .int .i64 ((200 : Nat) : Int) ∧ v = .bool false) ∨ (op = .eql ∧ ∃ i, i < n ∧ c = .sym (2 + i) ∧ d = .int .u8 (10 : Int) ∧ v = .bool false) ∨ (op = .eql ∧ c = .sym 0 ∧ ∃ l x, Exe.She.isWord l x = true ∧ d = .str l x ∧ v = .bool false) ∨
    (op = .add ∧ c = .sym 0 ∧ d = .str 1 10 ∧ v = .sym 54) ∨ (op = .add ∧ c = .sym 54 ∧ d = .sym 1 ∧ v = .sym 55) ∨ (op = .eql ∧ c = .str 1 10 ∧ d = .sym 55 ∧ v = .bool z) := by
  unfold Exe.She.FN at e
  dsimp only at e
  split at e
  · obtain ⟨h1, e1⟩ := Exe.ite_some.1 e
    obtain ⟨h2, e2⟩ := Exe.ite_some.1 e1
    clear e e1
    rw [Exe.ieq_eq] at h2
    have h1 := Nat.eq_of_beq_eq_true h1
    have h2 := of_decide_eq_true h2
    subst h1 h2
    cases e2
    exact .inl ⟨rfl, rfl, rfl, rfl⟩
  · rename_i s m
    obtain ⟨h1, e1⟩ := Exe.ite_some.1 e
    obtain ⟨h2, e2⟩ := Exe.ite_some.1 e1
    obtain ⟨h3, e3⟩ := Exe.ite_some.1 e2
    clear e e1 e2
    rw [Exe.ieq_eq] at h3
    have h1 := Nat.le_of_ble_eq_true h1
    have h2 : s + 1 ≤ 2 + n := Nat.le_of_ble_eq_true h2
    have h3 := of_decide_eq_true h3
    subst h3
    cases e3
    exact .inr (.inl ⟨rfl, s - 2, by omega, by congr 1; omega, rfl, rfl⟩)
  · rename_i s l x
    obtain ⟨h1, e1⟩ := Exe.ite_some.1 e
    obtain ⟨h2, e2⟩ := Exe.ite_some.1 e1
    clear e e1
    have h1 := Nat.eq_of_beq_eq_true h1
    subst h1
    cases e2
    exact .inr (.inr (.inl ⟨rfl, rfl, l, x, h2, rfl, rfl⟩))
  · rename_i l x s
    obtain ⟨h1, e1⟩ := Exe.ite_some.1 e
    obtain ⟨h2, e2⟩ := Exe.ite_some.1 e1
    clear e e1
    have h1 : l = 1 ∧ x = 10 := by
      have h1 : (Bool.rec false (Nat.beq x 10) (Nat.beq l 1) : Bool) = true := h1
      cases hl : Nat.beq l 1 with
      | false => rw [hl] at h1; cases h1
      | true => rw [hl] at h1; exact ⟨Nat.eq_of_beq_eq_true hl, Nat.eq_of_beq_eq_true h1⟩
    have h2 := Nat.eq_of_beq_eq_true h2
    obtain ⟨rfl, rfl⟩ := h1
    subst h2
    cases e2
    exact .inr (.inr (.inr (.inr (.inr ⟨rfl, rfl, rfl, rfl⟩))))
  · rename_i s l x
    obtain ⟨h1, e1⟩ := Exe.ite_some.1 e
    obtain ⟨h2, e2⟩ := Exe.ite_some.1 e1
    clear e e1
    have h1 := Nat.eq_of_beq_eq_true h1
    have h2 : l = 1 ∧ x = 10 := by
      have h2 : (Bool.rec false (Nat.beq x 10) (Nat.beq l 1) : Bool) = true := h2
      cases hl : Nat.beq l 1 with
      | false => rw [hl] at h2; cases h2
      | true => rw [hl] at h2; exact ⟨Nat.eq_of_beq_eq_true hl, Nat.eq_of_beq_eq_true h2⟩
    obtain ⟨rfl, rfl⟩ := h2
    subst h1
    cases e2
    exact .inr (.inr (.inr (.inl ⟨rfl, rfl, rfl, rfl⟩)))
  · rename_i s t
    obtain ⟨h1, e1⟩ := Exe.ite_some.1 e
    obtain ⟨h2, e2⟩ := Exe.ite_some.1 e1
    clear e e1
    have h1 := Nat.eq_of_beq_eq_true h1
    have h2 := Nat.eq_of_beq_eq_true h2
    subst h1 h2
    cases e2
    exact .inr (.inr (.inr (.inr (.inl ⟨rfl, rfl, rfl, rfl⟩))))
  · cases e

/-- A sum of strings. -/
theorem add_fact {σ : Exe.Sig} {ρ : Exe.Rho} {t : TypeId} {p q : Operand} (x y : ByteArray) (hl : x.size + y.size ≤ 0xffffffff) : ∀ w, (do eqGuard .add t p q (.string x) (.string y); binOp .add t (.string x) (.string y) : Sem Value).run Tryz.prog w = .ok (.string (x ++ y)) w := by
  obtain ⟨u, hu, run⟩ := Exe.binO_ok (P := Tryz.prog) (σ := σ) (ρ := ρ) (F := NF) Exe.facts_none (op := .add) (t := t) (p := p) (q := q) (x := .string x) (y := .string y) (a := str x) (b := str y) (v := .str (x.data.toList.length + y.data.toList.length) (Exe.bytesN x.data.toList + (Exe.bytesN y.data.toList <<< (8 * x.data.toList.length)))) (by
    show Exe.sOp .add x.data.toList.length (Exe.bytesN x.data.toList) y.data.toList.length (Exe.bytesN y.data.toList) = _
    show Exe.force (Nat.add x.data.toList.length y.data.toList.length) (fun l => Exe.ite' (Nat.ble l 0xffffffff) (Exe.force (Nat.add (Exe.bytesN x.data.toList) (Nat.shiftLeft (Exe.bytesN y.data.toList) (Nat.mul 8 x.data.toList.length))) fun z => some (Exe.AV.str l z))) = _
    rw [Exe.force_eq, Nat.ble_eq_true_of_le (show Nat.add x.data.toList.length y.data.toList.length ≤ 0xffffffff by rw [size_len, size_len] at hl; exact hl), Exe.force_eq]; rfl) (str_vr x) (str_vr y)
  have hd : (x ++ y).data.toList = x.data.toList ++ y.data.toList := by simp
  have : u = .string (x ++ y) := str_uniq hu (by rw [hd, List.length_append]) (by rw [hd, Exe.bytesN_append, Nat.shiftLeft_eq, Exe.pow8, Nat.mul_comm])
  rw [← this]; exact run

theorem facts_N {wb rb : ByteArray} {a b : Addr} {n : Nat} {z : Bool} (hz : Exe.strEq 1 10 (wb ++ nl ++ rb).data.toList.length (Exe.bytesN (wb ++ nl ++ rb).data.toList) = z) (hn : wb.size = n) (hn50 : n ≤ 50) (hr : rb.size ≤ 200) (hno : ∀ i (h : i < wb.data.toList.length), wb.data.toList[i] ≠ 10) (hw : ∀ l x, Exe.She.isWord l x = true → Exe.strEq wb.data.toList.length (Exe.bytesN wb.data.toList) l x = false) : Exe.FactsOk Tryz.prog (sg wb rb a b) (Exe.She.FN n z) where
  bin := by
    intro op c d v e ρ t p q u u' hc hd
    have hlen := size_len wb
    rcases fact_N e with ⟨rfl, rfl, rfl, rfl⟩ | ⟨rfl, i, hi, rfl, rfl, rfl⟩ | ⟨rfl, rfl, l, x, hx, rfl, rfl⟩ | ⟨rfl, rfl, rfl, rfl⟩ | ⟨rfl, rfl, rfl, rfl⟩ | ⟨rfl, rfl, rfl, rfl⟩
    · have hc : u = .int .i64 (rb.size : Int) := hc
      cases hc; cases hd
      exact gt_fact (decide_eq_false (by omega))
    · have hi' : i < wb.data.toList.length := by omega
      have hc : u = sg wb rb a b (2 + i) := hc
      rw [sg_byte hi' (by omega)] at hc
      cases hc; cases hd
      refine eq_fact (decide_eq_false fun h => hno i hi' ?_)
      exact UInt8.toNat_inj.1 h
    · have hc : u = .string wb := hc
      cases hc
      exact Exe.binO_ok (P := Tryz.prog) (σ := sg wb rb a b) (ρ := ρ) (F := NF) Exe.facts_none (op := .eql) (t := t) (p := p) (q := q) (a := str wb) (b := .str l x) (by
        show Exe.bo (Exe.strEq wb.data.toList.length (Exe.bytesN wb.data.toList) l x) = _
        rw [hw l x hx]; rfl) (str_vr wb) hd
    · have hc : u = .string wb := hc
      cases hc
      have hd : u' = .string nl := str_uniq hd rfl rfl
      cases hd
      exact ⟨_, rfl, add_fact (σ := sg wb rb a b) (ρ := ρ) wb nl (by show wb.size + 1 ≤ _; omega)⟩
    · have hc : u = .string (wb ++ nl) := hc
      have hd : u' = .string rb := hd
      cases hc; cases hd
      exact ⟨_, rfl, add_fact (σ := sg wb rb a b) (ρ := ρ) (wb ++ nl) rb (by rw [ByteArray.size_append]; show wb.size + 1 + rb.size ≤ _; omega)⟩
    · have hd : u' = .string (wb ++ nl ++ rb) := hd
      cases hd
      exact Exe.binO_ok (P := Tryz.prog) (σ := sg wb rb a b) (ρ := ρ) (F := NF) Exe.facts_none (op := .eql) (t := t) (p := p) (q := q) (a := .str 1 10) (b := str (wb ++ nl ++ rb)) (by
        show Exe.bo (Exe.strEq 1 10 (wb ++ nl ++ rb).data.toList.length (Exe.bytesN (wb ++ nl ++ rb).data.toList)) = _
        rw [hz]; cases z <;> rfl) hc (str_vr _)
  conv := fun _ _ _ _ e => nomatch e
  len := by
    intro s v e
    have e : (Bool.rec (Exe.ite' (Nat.beq s 1) (some (.sym 53))) (some (.int .i64 (.ofNat n))) (Nat.beq s 0) : Option Exe.AV) = some v := e
    rw [Exe.beq_eq s 0] at e
    by_cases h : s = 0
    · rw [decide_eq_true h] at e; cases e; subst h
      exact ⟨wb, rfl, fun ρ => by show Value.int .i64 (wb.size : Int) = .int .i64 (.ofNat n); rw [hn]; rfl⟩
    · rw [decide_eq_false h] at e
      obtain ⟨h1, e1⟩ := Exe.ite_some.1 (show Exe.ite' (Nat.beq s 1) (some (Exe.AV.sym 53)) = some v from e)
      have h1 := Nat.eq_of_beq_eq_true h1
      cases e1; subst h1
      exact ⟨rb, rfl, fun ρ => rfl⟩
  idx := by
    intro s i v e
    obtain ⟨h1, e1⟩ := Exe.ite_some.1 (show Exe.ite' (Nat.beq s 0) (Exe.ite' (Nat.ble (Nat.succ i) n) (Exe.force (Nat.add 2 i) fun j => some (Exe.AV.sym j))) = some v from e)
    obtain ⟨h2, e2⟩ := Exe.ite_some.1 e1
    rw [Exe.force_eq] at e2
    have h1 := Nat.eq_of_beq_eq_true h1
    have h2 : i + 1 ≤ n := Nat.le_of_ble_eq_true h2
    cases e2; subst h1
    have hi : i < wb.data.toList.length := by rw [← size_len]; omega
    exact ⟨wb, rfl, hi, fun ρ => (sg_byte hi (by omega)).symm⟩
  sub := by
    intro s l h v e
    obtain ⟨h1, e1⟩ := Exe.ite_some.1 (show Exe.ite' (Nat.beq s 55) (Option.rec (Exe.ite' (Nat.beq l (Nat.succ n)) (some (Exe.AV.sym 1))) (fun h => Exe.ite' (Nat.beq l 0) (Exe.ite' (Nat.beq h n) (some (Exe.AV.sym 0)))) h) = some v from e)
    have h1 := Nat.eq_of_beq_eq_true h1
    subst h1
    have hsz : (wb ++ nl ++ rb).size = n + 1 + rb.size := by rw [ByteArray.size_append, ByteArray.size_append, hn]; rfl
    have hd : (wb ++ nl ++ rb).data.toList = wb.data.toList ++ (10 :: rb.data.toList) := by simp [nl]
    have hw1 : wb.data.toList.length = n := by rw [← size_len, hn]
    cases h with
    | none =>
      obtain ⟨h2, e2⟩ := Exe.ite_some.1 (show Exe.ite' (Nat.beq l (Nat.succ n)) (some (Exe.AV.sym 1)) = some v from e1)
      have h2 : l = n + 1 := Nat.eq_of_beq_eq_true h2
      cases e2; subst h2
      refine ⟨wb ++ nl ++ rb, rfl, by show n + 1 ≤ (wb ++ nl ++ rb).size; omega, Nat.le_refl _, fun ρ => ?_⟩
      show Value.string ((wb ++ nl ++ rb).extract (n + 1) (wb ++ nl ++ rb).size) = .string rb
      refine congrArg Value.string (ba_ext ?_)
      rw [ba_extract, hd, hsz, show wb.data.toList ++ (10 :: rb.data.toList) = (wb.data.toList ++ [10]) ++ rb.data.toList by simp, List.drop_left' (by simp [hw1]), List.take_of_length_le (by rw [← size_len]; omega)]
    | some h =>
      obtain ⟨h2, e2⟩ := Exe.ite_some.1 (show Exe.ite' (Nat.beq l 0) (Exe.ite' (Nat.beq h n) (some (Exe.AV.sym 0))) = some v from e1)
      obtain ⟨h3, e3⟩ := Exe.ite_some.1 e2
      have h2 := Nat.eq_of_beq_eq_true h2
      have h3 := Nat.eq_of_beq_eq_true h3
      cases e3; subst h2 h3
      refine ⟨wb ++ nl ++ rb, rfl, Nat.zero_le _, by show h ≤ (wb ++ nl ++ rb).size; omega, fun ρ => ?_⟩
      show Value.string ((wb ++ nl ++ rb).extract 0 h) = .string wb
      refine congrArg Value.string (ba_ext ?_)
      rw [ba_extract, hd, List.drop_zero, Nat.sub_zero, List.take_left' hw1]

theorem fact_J {j : Nat} {op : BinOp} {c d v : Exe.AV} (e : (Exe.She.FJ j).bin op c d = some v) :
    (op = .gtr ∧ c = .sym 52 ∧ d = .int .i64 ((50 : Nat) : Int) ∧ v = .bool false) ∨ (op = .gtr ∧ c = .sym 53 ∧ d = .int .i64 ((200 : Nat) : Int) ∧ v = .bool false) ∨ (op = .lss ∧ d = .sym 52 ∧ ∃ i : Nat, i ≤ j ∧ c = .int .i64 (i : Int) ∧ v = .bool true) ∨
    (op = .eql ∧ d = .int .u8 (10 : Int) ∧ ∃ i : Nat, i ≤ j ∧ c = .sym (2 + i) ∧ v = .bool (decide (i = j))) := by
  unfold Exe.She.FJ at e
  dsimp only at e
  split at e
  · rename_i s m
    rw [Exe.beq_eq s 52] at e
    by_cases h : s = 52
    · rw [decide_eq_true h] at e
      obtain ⟨h2, e2⟩ := Exe.ite_some.1 (show Exe.ite' (Exe.ieq m 50) (some (Exe.AV.bool false)) = some v from e)
      clear e
      rw [Exe.ieq_eq] at h2
      have h2 := of_decide_eq_true h2
      subst h h2
      cases e2
      exact .inl ⟨rfl, rfl, rfl, rfl⟩
    · rw [decide_eq_false h] at e
      obtain ⟨h1, e1⟩ := Exe.ite_some.1 (show Exe.ite' (Nat.beq s 53) (Exe.ite' (Exe.ieq m 200) (some (Exe.AV.bool false))) = some v from e)
      obtain ⟨h2, e2⟩ := Exe.ite_some.1 e1
      clear e e1
      rw [Exe.ieq_eq] at h2
      have h1 := Nat.eq_of_beq_eq_true h1
      have h2 := of_decide_eq_true h2
      subst h1 h2
      cases e2
      exact .inr (.inl ⟨rfl, rfl, rfl, rfl⟩)
  · rename_i i s
    obtain ⟨h1, e1⟩ := Exe.ite_some.1 e
    obtain ⟨h2, e2⟩ := Exe.ite_some.1 e1
    obtain ⟨h3, e3⟩ := Exe.ite_some.1 e2
    clear e e1 e2
    rw [Exe.ile_eq] at h2 h3
    have h1 := Nat.eq_of_beq_eq_true h1
    have h2 := of_decide_eq_true h2
    have h3 : i ≤ (j : Int) := of_decide_eq_true h3
    subst h1
    cases e3
    obtain ⟨k, rfl⟩ : ∃ k : Nat, i = k := ⟨i.toNat, by omega⟩
    exact .inr (.inr (.inl ⟨rfl, rfl, k, by omega, rfl, rfl⟩))
  · rename_i s m
    obtain ⟨h1, e1⟩ := Exe.ite_some.1 e
    obtain ⟨h2, e2⟩ := Exe.ite_some.1 e1
    obtain ⟨h3, e3⟩ := Exe.ite_some.1 e2
    clear e e1 e2
    rw [Exe.ieq_eq] at h3
    have h1 := Nat.le_of_ble_eq_true h1
    have h2 : s ≤ 2 + j := Nat.le_of_ble_eq_true h2
    have h3 := of_decide_eq_true h3
    subst h3
    cases e3
    refine .inr (.inr (.inr ⟨rfl, rfl, s - 2, by omega, by congr 1; omega, ?_⟩))
    rw [Exe.beq_eq]
    congr 1
    exact decide_eq_decide.2 (by show s = 2 + j ↔ _; omega)
  · cases e

theorem facts_J {wb rb : ByteArray} {a b : Addr} {j : Nat} (hj : j < wb.data.toList.length) (hn50 : wb.size ≤ 50) (hr : rb.size ≤ 200) (hat : wb.data.toList[j] = 10) (hno : ∀ i (h : i < wb.data.toList.length), i < j → wb.data.toList[i] ≠ 10) : Exe.FactsOk Tryz.prog (sg wb rb a b) (Exe.She.FJ j) where
  bin := by
    intro op c d v e ρ t p q u u' hc hd
    have hlen := size_len wb
    rcases fact_J e with ⟨rfl, rfl, rfl, rfl⟩ | ⟨rfl, rfl, rfl, rfl⟩ | ⟨rfl, rfl, i, hi, rfl, rfl⟩ | ⟨rfl, rfl, i, hi, rfl, rfl⟩
    · have hc : u = .int .i64 (wb.size : Int) := hc
      cases hc; cases hd
      exact gt_fact (decide_eq_false (by omega))
    · have hc : u = .int .i64 (rb.size : Int) := hc
      cases hc; cases hd
      exact gt_fact (decide_eq_false (by omega))
    · have hd : u' = .int .i64 (wb.size : Int) := hd
      cases hc; cases hd
      exact lt_fact (by omega)
    · have hi' : i < wb.data.toList.length := by omega
      have hc : u = sg wb rb a b (2 + i) := hc
      rw [sg_byte hi' (by omega)] at hc
      cases hc; cases hd
      refine eq_fact (decide_eq_decide.2 ⟨fun h => ?_, fun h => ?_⟩)
      · rcases Nat.lt_or_ge i j with hij | hij
        · exact absurd (UInt8.toNat_inj.1 h) (hno i hi' hij)
        · omega
      · subst h; rw [hat]; rfl
  conv := fun _ _ _ _ e => nomatch e
  len := by
    intro s v e
    have e : (Bool.rec (Exe.ite' (Nat.beq s 1) (some (.sym 53))) (some (.sym 52)) (Nat.beq s 0) : Option Exe.AV) = some v := e
    rw [Exe.beq_eq s 0] at e
    by_cases h : s = 0
    · rw [decide_eq_true h] at e; cases e; subst h
      exact ⟨wb, rfl, fun ρ => rfl⟩
    · rw [decide_eq_false h] at e
      obtain ⟨h1, e1⟩ := Exe.ite_some.1 (show Exe.ite' (Nat.beq s 1) (some (Exe.AV.sym 53)) = some v from e)
      have h1 := Nat.eq_of_beq_eq_true h1
      cases e1; subst h1
      exact ⟨rb, rfl, fun ρ => rfl⟩
  idx := by
    intro s i v e
    obtain ⟨h1, e1⟩ := Exe.ite_some.1 (show Exe.ite' (Nat.beq s 0) (Exe.ite' (Nat.ble i j) (Exe.force (Nat.add 2 i) fun j => some (Exe.AV.sym j))) = some v from e)
    obtain ⟨h2, e2⟩ := Exe.ite_some.1 e1
    rw [Exe.force_eq] at e2
    have h1 := Nat.eq_of_beq_eq_true h1
    have h2 := Nat.le_of_ble_eq_true h2
    cases e2; subst h1
    have hi : i < wb.data.toList.length := by omega
    have := size_len wb
    exact ⟨wb, rfl, hi, fun ρ => (sg_byte hi (by omega)).symm⟩

theorem fact_L {bb : Bool} {op : BinOp} {c d v : Exe.AV} (e : (Exe.She.FL bb).bin op c d = some v) :
    (op = .gtr ∧ c = .sym 52 ∧ d = .int .i64 ((50 : Nat) : Int) ∧ v = .bool (!bb)) ∨ (bb = true ∧ op = .gtr ∧ c = .sym 53 ∧ d = .int .i64 ((200 : Nat) : Int) ∧ v = .bool true) := by
  unfold Exe.She.FL at e
  dsimp only at e
  split at e
  · rename_i s m
    rw [Exe.beq_eq s 52] at e
    by_cases h : s = 52
    · rw [decide_eq_true h] at e
      obtain ⟨h2, e2⟩ := Exe.ite_some.1 (show Exe.ite' (Exe.ieq m 50) (some (Exe.AV.bool (not bb))) = some v from e)
      clear e
      rw [Exe.ieq_eq] at h2
      have h2 := of_decide_eq_true h2
      subst h h2
      cases e2
      exact .inl ⟨rfl, rfl, rfl, rfl⟩
    · rw [decide_eq_false h] at e
      obtain ⟨h0, e0⟩ := Exe.ite_some.1 (show Exe.ite' bb (Exe.ite' (Nat.beq s 53) (Exe.ite' (Exe.ieq m 200) (some (Exe.AV.bool true)))) = some v from e)
      obtain ⟨h1, e1⟩ := Exe.ite_some.1 e0
      obtain ⟨h2, e2⟩ := Exe.ite_some.1 e1
      clear e e0 e1
      rw [Exe.ieq_eq] at h2
      have h1 := Nat.eq_of_beq_eq_true h1
      have h2 := of_decide_eq_true h2
      subst h1 h2
      cases e2
      exact .inr ⟨h0, rfl, rfl, rfl, rfl⟩
  · cases e
theorem facts_L {wb rb : ByteArray} {a b : Addr} {bb : Bool} (hw : decide (50 < wb.size) = !bb) (hr : bb = true → 200 < rb.size) : Exe.FactsOk Tryz.prog (sg wb rb a b) (Exe.She.FL bb) where
  bin := by
    intro op c d v e ρ t p q u u' hc hd
    rcases fact_L e with ⟨rfl, rfl, rfl, rfl⟩ | ⟨hb, rfl, rfl, rfl, rfl⟩
    · have hc : u = .int .i64 (wb.size : Int) := hc
      cases hc; cases hd
      exact gt_fact hw
    · have hc : u = .int .i64 (rb.size : Int) := hc
      cases hc; cases hd
      exact gt_fact (decide_eq_true (hr hb))
  conv := fun _ _ _ _ e => nomatch e
  len := by
    intro s v e
    have e : (Bool.rec (Exe.ite' (Nat.beq s 1) (some (.sym 53))) (some (.sym 52)) (Nat.beq s 0) : Option Exe.AV) = some v := e
    rw [Exe.beq_eq s 0] at e
    by_cases h : s = 0
    · rw [decide_eq_true h] at e; cases e; subst h
      exact ⟨wb, rfl, fun ρ => rfl⟩
    · rw [decide_eq_false h] at e
      obtain ⟨h1, e1⟩ := Exe.ite_some.1 (show Exe.ite' (Nat.beq s 1) (some (Exe.AV.sym 53)) = some v from e)
      have h1 := Nat.eq_of_beq_eq_true h1
      cases e1; subst h1
      exact ⟨rb, rfl, fun ρ => rfl⟩
theorem facts_W {wb rb : ByteArray} {a b : Addr} (hr : rb.size ≤ 200) : Exe.FactsOk Tryz.prog (sg wb rb a b) Exe.She.FW where
  bin := by
    intro op c d v e ρ t p q u u' hc hd
    unfold Exe.She.FW at e
    dsimp only at e
    split at e
    · obtain ⟨h1, e1⟩ := Exe.ite_some.1 e
      obtain ⟨h2, e2⟩ := Exe.ite_some.1 e1
      clear e e1
      rw [Exe.ieq_eq] at h2
      have h1 := Nat.eq_of_beq_eq_true h1
      have h2 := of_decide_eq_true h2
      subst h1 h2
      cases e2
      have hc : u = .int .i64 (rb.size : Int) := hc
      cases hc; cases hd
      exact gt_fact (m := rb.size) (k := 200) (decide_eq_false (by omega))
    · cases e
  conv := fun _ _ _ _ e => nomatch e
  len := by
    intro s v e
    obtain ⟨h1, e1⟩ := Exe.ite_some.1 (show Exe.ite' (Nat.beq s 1) (some (Exe.AV.sym 53)) = some v from e)
    have h1 := Nat.eq_of_beq_eq_true h1
    cases e1; subst h1
    exact ⟨rb, rfl, fun ρ => rfl⟩

theorem strEq_some {n x m y : Nat} (h : Exe.strEq n x m y = true) : n = m ∧ x = y := by
  have h : (Bool.rec false (Nat.beq x y) (Nat.beq n m) : Bool) = true := h
  cases hl : Nat.beq n m with
  | false => rw [hl] at h; cases h
  | true => rw [hl] at h; exact ⟨Nat.eq_of_beq_eq_true hl, Nat.eq_of_beq_eq_true h⟩
theorem isWord_some {l x : Nat} (h : Exe.She.isWord l x = true) : (l = 4 ∧ x = 1684107116) ∨ (l = 4 ∧ x = 1818326629) ∨ (l = 3 ∧ x = 7239026) := by
  have h : (Bool.rec (Bool.rec (Exe.strEq l x 3 7239026) true (Exe.strEq l x 4 1818326629)) true (Exe.strEq l x 4 1684107116) : Bool) = true := h
  cases h1 : Exe.strEq l x 4 1684107116 with
  | true => exact .inl (strEq_some h1)
  | false =>
    rw [h1] at h
    cases h2 : Exe.strEq l x 4 1818326629 with
    | true => exact .inr (.inl (strEq_some h2))
    | false => rw [h2] at h; exact .inr (.inr (strEq_some h))

theorem evN (n : Nat) (hn : n < 51) (es : Nat → Nat) : Exe.isT (Exe.She.law (Exe.She.FN n false) (Exe.She.K1 n) (.sym 0) es) = true := by
  match n, hn with
  | 0, _ => exact Exe.She.noline0 es
  | 1, _ => exact Exe.She.noline1 es
  | 2, _ => exact Exe.She.noline2 es
  | 3, _ => exact Exe.She.noline3 es
  | 4, _ => exact Exe.She.noline4 es
  | 5, _ => exact Exe.She.noline5 es
  | 6, _ => exact Exe.She.noline6 es
  | 7, _ => exact Exe.She.noline7 es
  | 8, _ => exact Exe.She.noline8 es
  | 9, _ => exact Exe.She.noline9 es
  | 10, _ => exact Exe.She.noline10 es
  | 11, _ => exact Exe.She.noline11 es
  | 12, _ => exact Exe.She.noline12 es
  | 13, _ => exact Exe.She.noline13 es
  | 14, _ => exact Exe.She.noline14 es
  | 15, _ => exact Exe.She.noline15 es
  | 16, _ => exact Exe.She.noline16 es
  | 17, _ => exact Exe.She.noline17 es
  | 18, _ => exact Exe.She.noline18 es
  | 19, _ => exact Exe.She.noline19 es
  | 20, _ => exact Exe.She.noline20 es
  | 21, _ => exact Exe.She.noline21 es
  | 22, _ => exact Exe.She.noline22 es
  | 23, _ => exact Exe.She.noline23 es
  | 24, _ => exact Exe.She.noline24 es
  | 25, _ => exact Exe.She.noline25 es
  | 26, _ => exact Exe.She.noline26 es
  | 27, _ => exact Exe.She.noline27 es
  | 28, _ => exact Exe.She.noline28 es
  | 29, _ => exact Exe.She.noline29 es
  | 30, _ => exact Exe.She.noline30 es
  | 31, _ => exact Exe.She.noline31 es
  | 32, _ => exact Exe.She.noline32 es
  | 33, _ => exact Exe.She.noline33 es
  | 34, _ => exact Exe.She.noline34 es
  | 35, _ => exact Exe.She.noline35 es
  | 36, _ => exact Exe.She.noline36 es
  | 37, _ => exact Exe.She.noline37 es
  | 38, _ => exact Exe.She.noline38 es
  | 39, _ => exact Exe.She.noline39 es
  | 40, _ => exact Exe.She.noline40 es
  | 41, _ => exact Exe.She.noline41 es
  | 42, _ => exact Exe.She.noline42 es
  | 43, _ => exact Exe.She.noline43 es
  | 44, _ => exact Exe.She.noline44 es
  | 45, _ => exact Exe.She.noline45 es
  | 46, _ => exact Exe.She.noline46 es
  | 47, _ => exact Exe.She.noline47 es
  | 48, _ => exact Exe.She.noline48 es
  | 49, _ => exact Exe.She.noline49 es
  | 50, _ => exact Exe.She.noline50 es
  | n + 51, h => omega
theorem evJ (j : Nat) (hj : j < 50) (es : Nat → Nat) : Exe.isT (Exe.She.law (Exe.She.FJ j) Exe.She.K2 (.sym 0) es) = true := by
  match j, hj with
  | 0, _ => exact Exe.She.line0 es
  | 1, _ => exact Exe.She.line1 es
  | 2, _ => exact Exe.She.line2 es
  | 3, _ => exact Exe.She.line3 es
  | 4, _ => exact Exe.She.line4 es
  | 5, _ => exact Exe.She.line5 es
  | 6, _ => exact Exe.She.line6 es
  | 7, _ => exact Exe.She.line7 es
  | 8, _ => exact Exe.She.line8 es
  | 9, _ => exact Exe.She.line9 es
  | 10, _ => exact Exe.She.line10 es
  | 11, _ => exact Exe.She.line11 es
  | 12, _ => exact Exe.She.line12 es
  | 13, _ => exact Exe.She.line13 es
  | 14, _ => exact Exe.She.line14 es
  | 15, _ => exact Exe.She.line15 es
  | 16, _ => exact Exe.She.line16 es
  | 17, _ => exact Exe.She.line17 es
  | 18, _ => exact Exe.She.line18 es
  | 19, _ => exact Exe.She.line19 es
  | 20, _ => exact Exe.She.line20 es
  | 21, _ => exact Exe.She.line21 es
  | 22, _ => exact Exe.She.line22 es
  | 23, _ => exact Exe.She.line23 es
  | 24, _ => exact Exe.She.line24 es
  | 25, _ => exact Exe.She.line25 es
  | 26, _ => exact Exe.She.line26 es
  | 27, _ => exact Exe.She.line27 es
  | 28, _ => exact Exe.She.line28 es
  | 29, _ => exact Exe.She.line29 es
  | 30, _ => exact Exe.She.line30 es
  | 31, _ => exact Exe.She.line31 es
  | 32, _ => exact Exe.She.line32 es
  | 33, _ => exact Exe.She.line33 es
  | 34, _ => exact Exe.She.line34 es
  | 35, _ => exact Exe.She.line35 es
  | 36, _ => exact Exe.She.line36 es
  | 37, _ => exact Exe.She.line37 es
  | 38, _ => exact Exe.She.line38 es
  | 39, _ => exact Exe.She.line39 es
  | 40, _ => exact Exe.She.line40 es
  | 41, _ => exact Exe.She.line41 es
  | 42, _ => exact Exe.She.line42 es
  | 43, _ => exact Exe.She.line43 es
  | 44, _ => exact Exe.She.line44 es
  | 45, _ => exact Exe.She.line45 es
  | 46, _ => exact Exe.She.line46 es
  | 47, _ => exact Exe.She.line47 es
  | 48, _ => exact Exe.She.line48 es
  | 49, _ => exact Exe.She.line49 es
  | n + 50, h => omega

set_option maxRecDepth 100000 in
theorem mnz {σ : Exe.Sig} {N : Nat} : Exe.KOk1 Tryz.prog σ N 173 (Exe.makeNoZeroO 5) := by
  refine Exe.kok1_mnz (ps := #[3]) (t := 57) (e := 5) Tryz.func173 ?_ ?_ ?_ ?_ ?_
  · kernel_rfl
  · kernel_rfl
  · kernel_rfl
  · kernel_rfl
  · exact Tryz.underlying57
set_option maxRecDepth 100000 in
theorem same {σ : Exe.Sig} {N : Nat} : Exe.KOk1 Tryz.prog σ N 67 Exe.sameO := by
  refine Exe.kok1_same Tryz.func67 ?_ ?_ ?_ ?_ <;> kernel_rfl
set_option maxRecDepth 100000 in
theorem cnt {σ : Exe.Sig} {N : Nat} : Exe.KOk1 Tryz.prog σ N 243 Exe.countO := by
  refine Exe.kok1_count Tryz.func243 ?_ ?_ ?_ ?_ <;> kernel_rfl
set_option maxRecDepth 100000 in
theorem idx {σ : Exe.Sig} {N : Nat} : Exe.KOk1 Tryz.prog σ N 90 Exe.idxByteO := by
  refine Exe.kok1_index Tryz.func90 ?_ ?_ ?_ ?_ <;> kernel_rfl
set_option maxRecDepth 100000 in
theorem idxs {σ : Exe.Sig} {N : Nat} {s0 b0 : Nat} {n : Int} {sb : ByteArray} (hs : σ s0 = .string sb) (hi : firstIdx sb (Int.toNat (b0 : Int)).toUInt8 = n) : Exe.KOk1 Tryz.prog σ N 90 (Exe.idxSymO s0 b0 n) := by
  refine Exe.kok1_indexSym Tryz.func90 ?_ ?_ ?_ ?_ hs hi <;> kernel_rfl

set_option maxRecDepth 100000 in
theorem known0 {σ : Exe.Sig} {N : Nat} : Exe.KOk Tryz.prog σ N Exe.She.K0 :=
  Exe.kok_list fun i g h => by
    simp only [List.mem_cons, List.not_mem_nil, or_false, Prod.mk.injEq] at h
    rcases h with ⟨rfl, rfl⟩ | ⟨rfl, rfl⟩ | ⟨rfl, rfl⟩ | ⟨rfl, rfl⟩
    · exact idx
    · exact cnt
    · exact same
    · exact mnz
set_option maxRecDepth 100000 in
theorem known2 {σ : Exe.Sig} (hσ : ∀ i, (σ i).oneCell' = true) : Exe.KOk Tryz.prog σ 8 Exe.She.K2 :=
  Exe.kok_list fun i g h => by
    simp only [List.mem_cons, List.not_mem_nil, or_false, Prod.mk.injEq] at h
    rcases h with ⟨rfl, rfl⟩ | ⟨rfl, rfl⟩ | ⟨rfl, rfl⟩ | ⟨rfl, rfl⟩ | ⟨rfl, rfl⟩
    · exact idx
    · exact cnt
    · exact same
    · exact mnz
    · exact Exe.kok1_pure (F := Exe.She.F0) (K := Exe.She.K0) Exe.facts_none known0 hσ (by kernel_rfl) (n := 100000) (by kernel_rfl) (nx := 100) (by decide) Tryz.func4 rfl (by kernel_rfl) (by kernel_rfl) fun args v h es => by
        cases List.mem_singleton.1 h
        exact Exe.She.ans es
set_option maxRecDepth 100000 in
theorem known1 {wb rb : ByteArray} {a b : Addr} {n : Nat} (hn : wb.size = n) (hno : ∀ i (h : i < wb.data.toList.length), wb.data.toList[i] ≠ 10) : Exe.KOk Tryz.prog (sg wb rb a b) 8 (Exe.She.K1 n) :=
  Exe.kok_list fun i g h => by
    simp only [List.mem_cons, List.not_mem_nil, or_false, Prod.mk.injEq] at h
    rcases h with ⟨rfl, rfl⟩ | ⟨rfl, rfl⟩ | ⟨rfl, rfl⟩ | ⟨rfl, rfl⟩ | ⟨rfl, rfl⟩
    · refine idxs (sb := wb ++ nl ++ rb) rfl ?_
      exact (Exe.firstIdx_cut (a := wb) (b := rb) (c := 10) hno (by simp [nl])).trans (by rw [hn]; rfl)
    · exact cnt
    · exact same
    · exact mnz
    · exact Exe.kok1_pure (F := Exe.She.F0) (K := Exe.She.K0) Exe.facts_none known0 (sg_one wb rb a b) (by kernel_rfl) (n := 100000) (by kernel_rfl) (nx := 100) (by decide) Tryz.func4 rfl (by kernel_rfl) (by kernel_rfl) fun args v h es => by
        cases List.mem_singleton.1 h
        exact Exe.She.ans es

theorem rowErr (u : TypeId) (h : Tryz.prog.typeName? 3 u = some "*errors.errorString") : u = 487 :=
  typeName_ptr_named (nm := "errors.errorString") (by kernel_rfl) (by kernel_rfl) (by decide) u (by simpa using h)

theorem cells_of_var {W : World} {n : String} {g : Nat} {cs : Array Value} (hg : Tryz.prog.globalNamed n = some g) (h : W.var? Tryz.prog n = some cs) : ∃ e fz, W.heap[g]? = some (.cells cs e fz) := by
  unfold World.var? at h
  rw [hg, Option.bind_some] at h
  split at h
  · rename_i cs' e fz hc
    cases h
    exact ⟨e, fz, hc⟩
  · cases h

theorem glob_of {W : World} (hL : laidMetH Tryz.prog Rows.shellWrongRow.laid W) : ∃ (a b : Addr) (e0 e1 : TypeId) (fz0 fz1 : Nat × Nat), W.heap[2]? = some (.cells #[.iface 487 (.pointer (some a))] e0 fz0) ∧ W.heap[3]? = some (.cells #[.iface 487 (.pointer (some b))] e1 fz1) := by
  have hp : laidMet Tryz.prog Rows.shellWrongRow.laid W := (Go.MakeChecks.laidMetH_plain Tryz.prog Rows.shellWrongRow.laid W (by kernel_rfl)) ▸ hL
  have h1 := hp.tail.tail.tail.tail
  have h2 := h1.tail
  have gR : Tryz.prog.globalNamed "strconv.ErrRange" = some 3 := by kernel_rfl
  have gS : Tryz.prog.globalNamed "strconv.ErrSyntax" = some 2 := by kernel_rfl
  obtain ⟨a1, s1, hv1, _⟩ := laid_sentinel h1 gR (ti := 63) (by kernel_rfl) Tryz.underlying63 rowErr Tryz.underlying487 Tryz.underlying489 rfl rfl Tryz.underlying9 (by kernel_rfl) (by kernel_rfl)
  obtain ⟨a0, s0, hv0, _⟩ := laid_sentinel h2 gS (ti := 63) (by kernel_rfl) Tryz.underlying63 rowErr Tryz.underlying487 Tryz.underlying489 rfl rfl Tryz.underlying9 (by kernel_rfl) (by kernel_rfl)
  obtain ⟨e0, fz0, k0⟩ := cells_of_var gS hv0
  obtain ⟨e1, fz1, k1⟩ := cells_of_var gR hv1
  exact ⟨a0, a1, e0, e1, fz0, fz1, k0, k1⟩

set_option maxRecDepth 100000 in
theorem walk {base : Nat} (W : World) (v0 : Value) (h0 : Value.okWide Tryz.prog W .any base 9 v0) (v1 : Value) (h1 : Value.okWide Tryz.prog W .any base 9 v1) (hG : ∃ (a b : Addr) (e0 e1 : TypeId) (fz0 fz1 : Nat × Nat), W.heap[2]? = some (.cells #[.iface 487 (.pointer (some a))] e0 fz0) ∧ W.heap[3]? = some (.cells #[.iface 487 (.pointer (some b))] e1 fz1)) : Calls Tryz.prog 3 #[v0, v1] W fun e w' => e = .returned (.bool true) ∧ W.keptBut w' (fun _ => False) ∧ Below W.heap.size W w' := by
  obtain ⟨a, b, e0, e1, fz0, fz1, hg0, hg1⟩ := hG
  obtain ⟨wb, rfl⟩ := string_of h0
  obtain ⟨rb, rfl⟩ := string_of h1
  obtain ⟨es, hs, hro⟩ := start (σ := sg wb rb a b) rfl rfl hg0 hg1
  have go : ∀ {F : Exe.Facts} {K : Exe.Known} {word : Exe.AV}, Exe.FactsOk Tryz.prog (sg wb rb a b) F → Exe.KOk Tryz.prog (sg wb rb a b) 8 K → K 3 = none → (∀ ρ, Exe.VR (sg wb rb a b) ρ word (.string wb)) → Exe.isT (Exe.She.law F K word es) = true → Calls Tryz.prog 3 #[.string wb, .string rb] W fun e w' => e = .returned (.bool true) ∧ W.keptBut w' (fun _ => False) ∧ Below W.heap.size W w' := fun hF hK hKf hw e => by
    unfold Exe.She.law at e
    exact Exe.top hF hK (sg_one wb rb a b) (by kernel_rfl) hKf e hs hro (vs := #[.string wb, .string rb]) ⟨_, _, rfl, hw _, _, _, rfl, rfl, rfl⟩
  have hlen := size_len wb
  by_cases l1 : 50 < wb.size
  · exact go (word := .sym 0) (facts_L (bb := false) (decide_eq_true l1) (fun h => by cases h)) (known2 (sg_one wb rb a b)) (by kernel_rfl) (fun _ => rfl) (Exe.She.long_false es)
  by_cases l2 : 200 < rb.size
  · exact go (word := .sym 0) (facts_L (bb := true) (decide_eq_false l1) (fun _ => l2)) (known2 (sg_one wb rb a b)) (by kernel_rfl) (fun _ => rfl) (Exe.She.long_true es)
  by_cases hno : ∀ i (h : i < wb.data.toList.length), wb.data.toList[i] ≠ 10
  · by_cases hw : ∀ l x, Exe.She.isWord l x = true → Exe.strEq wb.data.toList.length (Exe.bytesN wb.data.toList) l x = false
    · cases hz : Exe.strEq 1 10 (wb ++ nl ++ rb).data.toList.length (Exe.bytesN (wb ++ nl ++ rb).data.toList) with
      | false => exact go (word := .sym 0) (facts_N hz rfl (by omega) (by omega) hno hw) (known1 rfl hno) (by kernel_rfl) (fun _ => rfl) (evN wb.size (by omega) es)
      | true =>
        have h0 : wb.size = 0 := by
          have h1 := (strEq_some hz).1
          rw [← size_len, ByteArray.size_append, ByteArray.size_append] at h1
          have h2 : nl.size = 1 := rfl
          omega
        exact go (word := .sym 0) (facts_N hz h0 (by omega) (by omega) hno hw) (known1 h0 hno) (by kernel_rfl) (fun _ => rfl) (Exe.She.noline_z es)
    · obtain ⟨l, hl⟩ := Classical.not_forall.1 hw
      obtain ⟨x, hx⟩ := Classical.not_forall.1 hl
      obtain ⟨w1, w2⟩ := Classical.not_imp.1 hx
      obtain ⟨q1, q2⟩ := strEq_some (by simpa using w2)
      rcases isWord_some w1 with ⟨rfl, rfl⟩ | ⟨rfl, rfl⟩ | ⟨rfl, rfl⟩
      · exact go (word := .str 4 1684107116) (facts_W (by omega)) (known2 (sg_one wb rb a b)) (by kernel_rfl) (fun _ => ⟨wb, rfl, q1, q2⟩) (Exe.She.word_load es)
      · exact go (word := .str 4 1818326629) (facts_W (by omega)) (known2 (sg_one wb rb a b)) (by kernel_rfl) (fun _ => ⟨wb, rfl, q1, q2⟩) (Exe.She.word_eval es)
      · exact go (word := .str 3 7239026) (facts_W (by omega)) (known2 (sg_one wb rb a b)) (by kernel_rfl) (fun _ => ⟨wb, rfl, q1, q2⟩) (Exe.She.word_run es)
  · obtain ⟨i, hi⟩ := Classical.not_forall.1 hno
    obtain ⟨hi, hx⟩ := Classical.not_forall.1 hi
    have hx : wb.data.toList[i] = 10 := Classical.not_not.1 hx
    have hj : wb.data.toList.findIdx (· == 10) < wb.data.toList.length := List.findIdx_lt_length.2 ⟨_, List.getElem_mem hi, by rw [hx]; rfl⟩
    have hat : wb.data.toList[wb.data.toList.findIdx (· == 10)] = 10 := by simpa using List.findIdx_getElem (w := hj)
    exact go (word := .sym 0) (facts_J hj (by omega) (by omega) hat fun k hk hkj hc => by
      have := List.not_of_lt_findIdx hkj
      rw [hc] at this
      exact absurd this (by decide)) (known2 (sg_one wb rb a b)) (by kernel_rfl) (fun _ => rfl) (evJ _ (by omega) es)

set_option maxRecDepth 100000 in
theorem lifted (os : Os) (started : os.Started) (H : Type) (enc : TypeId × Value → H) :
    ReturnsInHanded {} Tryz.checked os 3 .any (fun w args => (Rows.shellWrongSpec.pre enc Tryz.prog Tryz.f3 [] false w args ∧ laidMetH Tryz.prog Rows.shellWrongRow.laid w) ∧ sizedMet enc Tryz.prog Tryz.f3 (OpenSpec.ofChange Rows.shellWrongSpec) false w args)
      (Rows.shellWrongSpec.post enc Tryz.prog Tryz.f3 false true false false) := by
  refine returnsInHanded_of_change_and (C := Tryz.checked) (X := fun w _ => laidMetH Tryz.prog Rows.shellWrongRow.laid w) (fun _ _ _ hh h => h.of_heap hh) own started (by kernel_rfl) Tryz.func3
    (ChangeSpec.witness_shaped (enc := enc) (C := Tryz.checked) (os := os) (X := fun w _ => laidMetH Tryz.prog Rows.shellWrongRow.laid w) false (World.laidAll Tryz.prog os Rows.shellWrongRow.laid) #[(.string "".toUTF8), (.string "".toUTF8)] 8 (World.laidAll_os _ _ _) (World.shaped_of_ZipB (by kernel_rfl) (by kernel_rfl)) (by kernel_rfl) (by kernel_rfl) (by kernel_rfl)
      (by rw [MakeChecks.laidMetH_plain _ _ _ (by kernel_rfl)]; exact laidMet_laidAll _ (by kernel_rfl) (by kernel_rfl))) ?_
  intro W base args ds gs before hval0 hW _ _ hL _
  have hval : ∀ (j : Nat) t v, Tryz.f3.params[j]? = some t → args[j]? = some v → Value.okWide Tryz.prog W .any base t v := hval0
  have hW' := hW
  obtain ⟨p, q, hA0, hV, rfl, _, _⟩ := hW
  have hA : DataW.TrodAll enc Tryz.prog W 0 (fun _ => true) true Tryz.f3.params.toList args.toList ds p := hA0
  have hT := hA
  rw [Tryz.params3] at hA hval
  obtain ⟨v0, vs0, d0, ds0, p0, q0, hargs, rfl, rfl, h0, r0⟩ := trodAll_cons hA
  obtain ⟨v1, vs1, d1, ds1, p1, q1, rfl, rfl, rfl, h1, r1⟩ := trodAll_cons r0
  obtain ⟨rfl, rfl, rfl⟩ := trodAll_nil r1
  obtain rfl : args = #[v0, v1] := by cases args; simp_all
  obtain ⟨rfl, rfl⟩ := trodVars_none hV
  refine (walk W v0 (hval 0 9 v0 rfl rfl) v1 (hval 1 9 v1 rfl rfl) (glob_of hL)).mono fun e W' ⟨he, hk, hb⟩ => ?_
  subst he
  have hlt := hW'.lt
  exact ⟨_, rfl, Exe.post_of_below (pv := []) hW' (fun _ _ _ => trodAll_cons_mk (shut_bool Tryz.underlying4 _) trodAll_mk0) (fun sp hs => Exe.trodAll_stays laid hb (by kernel_rfl) hT (fun x hx => hlt x (by simpa using hx)) (fun x hx => hs x (by simpa using hx))) (fun _ _ => rfl) rfl
    hk hb (ok_one (by kernel_rfl) rfl (okWide_bool_mk Tryz.underlying4 _))⟩

theorem jf_laid : laidOutB Tryz.pinned.checked.prog = true := by kernel_rfl
theorem jf_rowed : mapsRowed Tryz.pinned.checked.prog = true := by kernel_rfl
theorem jf_inPlace : (Rows.shellWrongRow.inPlace == Tryz.pinned.checked.prog.inPlace 3) = true := by kernel_rfl
theorem jf_unfollowed : (Rows.shellWrongRow.unfollowed == Tryz.pinned.checked.prog.unfollowed 3) = true := by kernel_rfl
theorem jf_recurses : (Rows.shellWrongRow.recurses == Tryz.pinned.checked.prog.recurses 3) = true := by kernel_rfl
theorem jf_named : (Rows.shellWrongRow.named == Tryz.pinned.checked.prog.varsNamed 3) = true := by kernel_rfl
theorem jf : joinedFacts Tryz.pinned.checked.prog 3 Tryz.f3 Rows.shellWrongSpec Rows.shellWrongRow = true := by
  simp only [joinedFacts, jf_laid, jf_rowed, jf_inPlace, jf_unfollowed, jf_recurses, jf_named, Bool.and_true]
  kernel_rfl
theorem said : Rows.ShellWrongSaid :=
  OpenClaim.holds_of_wide 3 Tryz.f3 rfl rfl rfl rfl rfl rfl rfl ⟨rfl, rfl, rfl, rfl, rfl⟩ rfl rfl rfl rfl rfl (by kernel_rfl) Tryz.func3 jf
    (of_decide_eq_true (by kernel_rfl)) (by unfold Func.isWrapper; first | (rw [if_pos (by decide +kernel)]; kernel_rfl) | (rw [if_neg (by decide +kernel)]; exact ⟨rfl, rfl⟩))
    (fun os started H enc _ => lifted os started H enc)

theorem plain (f : FuncId) (fn : Func) (hf : Tryz.pinned.checked.prog.funcNamed "podesta/podestalaw27.ShellWrong" = some f) (hfn : Tryz.pinned.checked.prog.funcs[f]? = some fn) :
    true = Tryz.pinned.checked.prog.looks [] ∧ ∀ (j : Nat) t, fn.params[j]? = some t → Tryz.pinned.checked.prog.wantsStandIn t = false := by
  obtain rfl : f = 3 := Option.some.inj ((show Tryz.prog.funcNamed "podesta/podestalaw27.ShellWrong" = some 3 by kernel_rfl).symm.trans hf) |>.symm
  obtain rfl : fn = Tryz.f3 := (Option.some.inj (Tryz.func3.symm.trans hfn)).symm
  refine ⟨by kernel_rfl, fun j t ht => ?_⟩
  rw [Tryz.params3] at ht
  have hm : t ∈ [9, 9] := by simpa using Array.mem_of_getElem? ht
  have hall : ([9, 9].all fun u => !Tryz.prog.wantsStandIn u) = true := by kernel_rfl
  exact (show Tryz.prog.wantsStandIn t = false by simpa using List.all_eq_true.1 hall t hm)

theorem no_goes {P : Program} (h : (P.funcs.toList.all fun f => !f.goes) = true) (f : FuncId) : P.goes f = false := by
  have h1 : ∀ x ∈ P.funcs, x.goes = false := fun x hx => by simpa using List.all_eq_true.1 h x (by simpa using hx)
  unfold Program.goes
  rw [Bool.or_eq_false_iff]
  constructor
  · rw [Bool.eq_false_iff]
    intro hc
    simp only [List.any_eq_true, Option.any_eq_true] at hc
    obtain ⟨g, _, x, hx, hg⟩ := hc
    rw [h1 x (Array.mem_of_getElem? hx)] at hg
    cases hg
  · have : P.funcs.any Func.goes = false := by
      rw [Bool.eq_false_iff]
      intro hc
      rw [Array.any_eq_true'] at hc
      obtain ⟨x, hx, hg⟩ := hc
      rw [h1 x hx] at hg
      cases hg
    rw [this, Bool.and_false]
theorem goes_none {P : Program} (h : (P.funcs.toList.all fun f => !f.goes) = true) {c : OpenClaim} (e : c.start = .entering) : false = c.goesBy P := by
  unfold OpenClaim.goesBy Program.goesAt Program.goesFrom
  rw [e]
  have : ∀ x : Option FuncId, x.any P.goes = false := fun x => by
    cases x with
    | none => rfl
    | some f => exact no_goes h f
  rw [this]
  rfl
theorem all_still : (Tryz.pinned.checked.prog.funcs.toList.all fun f => !f.goes) = true := by kernel_rfl
theorem goes : false = Rows.shellWrongRow.goesBy Tryz.pinned.checked.prog := goes_none all_still rfl

theorem card : Rows.ShellWrongCardSaid :=
  Claim7.holds_tied_plain_at .later [] _ _ _ _ said (fun _ h => by cases h) (by kernel_rfl) (fun _ h => by cases h) shellWrong_row_tie rfl ⟨rfl, rfl⟩ (by kernel_rfl) rfl plain goes
end shellWrong
end Go.Proofs.YtofdeeojhiccmaaGreatDoor
