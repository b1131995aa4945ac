/- 'ParseNames': the functions that are known; the walk. -/
import Derived.Test.YteaghbcenjhjhaaDoorNamC
namespace Go.Proofs.YteaghbcenjhjhaaDoor
open Go
namespace parseNames
open Go.Exe (Sig Rho AV H HR VR LR)
open Go.Exe.Nam

set_option maxRecDepth 100000 in
theorem glob_hr {σ : Sig} {ρ : Rho} {h : H} {w : World} (hh : HR σ 6 ρ h w) (hg : Exe.hasG 6 h G = true) : ∀ q, q ∈ Pod.Glob → ∃ cs e fz, w.heap[q.1]? = some (.cells cs e fz) ∧ q.2 cs := by
  have row : ∀ (r : Nat) (a : AV), (r, AV.ifc 84 a) ∈ G → ∃ cs e fz, w.heap[r]? = some (.cells cs e fz) ∧ ∃ t p, cs[0]? = some (.iface t p) := fun r a hm => by
    obtain ⟨_, _, e, cs, fz, u, h1, h2, h3⟩ := Exe.hasG_ok hh hg r _ hm
    obtain ⟨p, rfl, _⟩ := h3 ρ
    exact ⟨cs, e, fz, h1, _, _, h2⟩
  intro q hq
  simp only [Pod.Glob, List.mem_cons, List.not_mem_nil, or_false] at hq
  rcases hq with rfl | rfl
  · exact row 0 (.sym 100) (List.mem_cons_self ..)
  · exact row 1 (.sym 101) (List.mem_cons_of_mem _ (List.mem_cons_self ..))

set_option maxRecDepth 100000 in
theorem cal_bool {σ : Sig} {ρ : Rho} {h : H} {w : World} {f : Nat} {fn : Func} {c : Code} {r : Bool} {d : Pod.D} {u : Value} (fc : Pod.FC Tryd.prog f [d] [] (.bool r) []) (hf : Tryd.prog.funcs[f]? = some fn) (hb : fn.body = some c) (hn : (fn.name == "runtime.NumGoroutine") = false) (hh : HR σ 6 ρ h w) (hg : Exe.hasG 6 h G = true) (hv : ∀ x, (Pod.VR x d).v u) : Exe.Cal Tryd.prog σ 6 ρ h w (callFunc f #[u]) (.bool r) h :=
  Exe.cal_of_calls hf hb hn hh ((Pod.calls_of_fc fc rfl w (fun _ => False) (fun _ h => h.elim) (vs := #[u]) ⟨rfl, fun i d' e => by
    match i, e with
    | 0, e => cases e; exact hv _⟩ (glob_hr hh hg)).mono fun e w' ⟨h1, _, h2⟩ => ⟨_, h1, fun _ => rfl, h2⟩)

set_option maxRecDepth 100000 in
theorem one_arg {σ : Sig} {ρ : Rho} {a : AV} {vs : Array Value} (hv : LR σ ρ [a] vs.toList) : ∃ u, vs = #[u] ∧ VR σ ρ a u := by
  obtain ⟨u, r, q1, q2, q3⟩ := hv
  have q3 : r = [] := q3
  subst q3
  exact ⟨u, by apply Array.ext'; rw [q1], q2⟩

set_option maxRecDepth 100000 in
theorem first_byte {W : List UInt8} (h : 0 < W.length) : Exe.bytesN W % 256 = W[0].toNat := by
  cases W with
  | nil => simp at h
  | cons c l =>
    have := c.toNat_lt
    rw [Exe.bytesN_cons]
    show (c.toNat + 256 * Exe.bytesN l) % 256 = c.toNat
    omega

set_option maxRecDepth 100000 in
set_option maxHeartbeats 4000000 in
theorem kok_let {σ : Sig} {W : List UInt8} (hw : Word σ W) (hf : Free W) (h0 : 0 < W.length) : Exe.KOk1 Tryd.prog σ 6 23 letO := by
  intro args h v h' e ρ w vs hh hv
  obtain ⟨a, rfl, e1⟩ := Exe.one_some e
  obtain ⟨hg, e2⟩ := Exe.ite_some.1 e1
  obtain ⟨u, rfl, hu⟩ := one_arg hv
  have key : ∀ c : Nat, c < 256 → u = .int .u8 (c : Int) → Exe.Cal Tryd.prog σ 6 ρ h w (callFunc 23 #[u]) (.bool (letN c)) h := fun c hc hu => by
    subst hu
    have := cal_bool (fc_lex_letter (c : Int) (lex_letter _)) Tryd.func23 rfl (by kernel_rfl) hh hg (u := .int .u8 (c : Int)) fun _ => ⟨rfl, rfl⟩
    rw [(letN_eq hc).1] at this; exact this
  split at e2
  · rename_i c
    obtain ⟨hc, e3⟩ := Exe.ite_some.1 e2
    cases e3
    exact key c (Nat.lt_succ_of_le (Nat.le_of_ble_eq_true hc)) hu
  · rename_i j
    obtain ⟨hj, e3⟩ := Exe.ite_some.1 e2
    cases e3
    have hj := Nat.eq_of_beq_eq_true hj
    subst hj
    have hb := hw.byte 0 h0
    have hu : u = σ 200 := hu
    rw [hb] at hu
    have := key _ (W[0].toNat_lt) hu
    rw [← first_byte h0, hf.first] at this
    exact this
  · cases e2

set_option maxRecDepth 100000 in
set_option maxHeartbeats 4000000 in
theorem kok_wc {σ : Sig} {W : List UInt8} (hw : Word σ W) (hf : Free W) : Exe.KOk1 Tryd.prog σ 6 24 (wcO W.length) := by
  intro args h v h' e ρ w vs hh hv
  obtain ⟨a, rfl, e1⟩ := Exe.one_some e
  obtain ⟨hg, e2⟩ := Exe.ite_some.1 e1
  obtain ⟨u, rfl, hu⟩ := one_arg hv
  have key : ∀ c : Nat, c < 256 → u = .int .u8 (c : Int) → Exe.Cal Tryd.prog σ 6 ρ h w (callFunc 24 #[u]) (.bool (letN c || digN c)) h := fun c hc hu => by
    subst hu
    have := cal_bool (fc_lex_next_1 (c : Int) (lex_next1 _)) Tryd.func24 rfl (by kernel_rfl) hh hg (u := .int .u8 (c : Int)) fun _ => ⟨rfl, rfl⟩
    rw [(letN_eq hc).1, (letN_eq hc).2] at this; exact this
  split at e2
  · rename_i c
    obtain ⟨hc, e3⟩ := Exe.ite_some.1 e2
    cases e3
    exact key c (Nat.lt_succ_of_le (Nat.le_of_ble_eq_true hc)) hu
  · rename_i j
    obtain ⟨hj, e3⟩ := Exe.ite_some.1 e2
    obtain ⟨hj2, e4⟩ := Exe.ite_some.1 e3
    cases e4
    have hj := Nat.le_of_ble_eq_true hj
    have hj2 := Nat.lt_of_succ_le (Nat.le_of_ble_eq_true hj2)
    have hi : j - 200 < W.length := by omega
    have hb := hw.byte (j - 200) hi
    rw [show 200 + (j - 200) = j by omega] at hb
    have hu : u = σ j := hu
    rw [hb] at hu
    have := key _ (W[j - 200].toNat_lt) hu
    rw [hf.all _ (List.getElem_mem hi)] at this
    exact this
  · cases e2

set_option maxRecDepth 100000 in
/-- What a function says of a text. -/
theorem kok_at {σ : Sig} {f : Nat} {fn : Func} {c : Code} (hfn : Tryd.prog.funcs[f]? = some fn) (hb : fn.body = some c) (hn : (fn.name == "runtime.NumGoroutine") = false) {s : ByteArray} (h0 : σ 0 = .string s) {g : ByteArray → Bool} {P : ByteArray → Prop} (fc : ∀ b : ByteArray, P b → Pod.FC Tryd.prog f [.str b] [] (.bool (g b)) []) {v : Bool} (hs : P s) (hv : g s = v) {l : List (Nat × Nat)} (hl : ∀ q, q ∈ l → ∃ b : ByteArray, b.data.toList.length = q.1 ∧ Exe.bytesN b.data.toList = q.2 ∧ P b ∧ g b = true) : Exe.KOk1 Tryd.prog σ 6 f (atO v l) := by
  intro args h v' h' e ρ w vs hh hv'
  obtain ⟨a, rfl, e1⟩ := Exe.one_some e
  obtain ⟨hg, e2⟩ := Exe.ite_some.1 e1
  obtain ⟨u, rfl, hu⟩ := one_arg hv'
  have key : ∀ b : ByteArray, P b → u = .string b → Exe.Cal Tryd.prog σ 6 ρ h w (callFunc f #[u]) (.bool (g b)) h := fun b hp hu => by
    subst hu
    exact cal_bool (fc b hp) hfn hb hn hh hg fun _ => ⟨rfl, rfl⟩
  split at e2
  · rename_i j
    obtain ⟨hj, e3⟩ := Exe.ite_some.1 e2
    cases e3
    have hj := Nat.eq_of_beq_eq_true hj
    subst hj
    have hu : u = σ 0 := hu
    rw [h0] at hu
    have := key s hs hu
    rw [hv] at this; exact this
  · rename_i n x
    obtain ⟨hq, e3⟩ := Exe.ite_some.1 e2
    cases e3
    obtain ⟨q, hq1, hq2⟩ := List.any_eq_true.1 hq
    rw [Bool.and_eq_true] at hq2
    obtain ⟨b, b1, b2, b3, b4⟩ := hl q hq1
    have hu2 : u = .string b := str_uniq hu (b1.trans (Nat.eq_of_beq_eq_true hq2.1)) (b2.trans (Nat.eq_of_beq_eq_true hq2.2))
    have := key b b3 hu2
    rw [b4] at this; exact this
  · cases e2

set_option maxRecDepth 100000 in
set_option maxHeartbeats 4000000 in
theorem kok_ref {σ : Sig} {s : ByteArray} (h0 : σ 0 = .string s) (hs : s.size ≤ 9223372036854775807) {v : Bool} (hv : wd s = v) : Exe.KOk1 Tryd.prog σ 6 4 (atO v []) :=
  kok_at Tryd.func4 rfl (by kernel_rfl) h0 (g := wd) (P := fun b => b.size ≤ 9223372036854775807) (fun b hb => fc_ref15_Word (b.size + 1) b (ref_word (Nat.lt_succ_self _) hb)) hs hv fun q hq => by cases hq
set_option maxRecDepth 100000 in
set_option maxHeartbeats 4000000 in
theorem kok_word {σ : Sig} {s : ByteArray} (h0 : σ 0 = .string s) (hs : s.size ≤ 100000) (hv : wd s = true) : Exe.KOk1 Tryd.prog σ 6 26 (atO true [(3, 7496054), (2, 28271)]) :=
  kok_at Tryd.func26 rfl (by kernel_rfl) h0 (g := wd) (P := fun b => b.size ≤ 100000) (fun b hb => fc_lex_Word (b.size + 1) b (lex_word (Nat.lt_succ_self _) hb)) hs hv fun q hq => by
    simp only [List.mem_cons, List.not_mem_nil, or_false] at hq
    rcases hq with rfl | rfl
    · exact ⟨⟨#[118, 97, 114]⟩, rfl, by kernel_rfl, by decide, by kernel_rfl⟩
    · exact ⟨⟨#[111, 110]⟩, rfl, by kernel_rfl, by decide, by kernel_rfl⟩
set_option maxRecDepth 100000 in
set_option maxHeartbeats 4000000 in
theorem kok_digits {σ : Sig} {s : ByteArray} (h0 : σ 0 = .string s) (hs : s.size ≤ 100000) (hv : wd s = true) : Exe.KOk1 Tryd.prog σ 6 27 (atO false [(1, 49)]) :=
  kok_at Tryd.func27 rfl (by kernel_rfl) h0 (g := dg) (P := fun b => b.size ≤ 100000) (fun b hb => fc_lex_Digits (b.size + 1) b (lex_digits (Nat.lt_succ_self _) hb)) hs (by have := not_both s; rw [hv] at this; simpa using this) fun q hq => by
    simp only [List.mem_cons, List.not_mem_nil, or_false] at hq
    subst hq
    exact ⟨⟨#[49]⟩, rfl, by kernel_rfl, by decide, by kernel_rfl⟩
set_option maxRecDepth 100000 in
set_option maxHeartbeats 4000000 in
theorem idx {σ : Sig} {N : Nat} : Exe.KOk1 Tryd.prog σ N 59 Exe.idxByteO := by
  refine Exe.kok1_index Tryd.func59 ?_ ?_ ?_ ?_ <;> kernel_rfl
set_option maxRecDepth 100000 in
theorem known0 {σ : Sig} {N : Nat} : Exe.KOk Tryd.prog σ N K0 :=
  Exe.kok_list fun i g h => by
    cases List.mem_singleton.1 h
    exact idx
set_option maxRecDepth 100000 in
set_option maxHeartbeats 4000000 in
theorem pure1 {σ : Sig} (hσ : ∀ i, (σ i).oneCell' = true) : Exe.KOk1 Tryd.prog σ 6 5 (Exe.pureO 6 G [([], .bool true)]) := by
  refine Exe.kok1_pure (F := F0) (K := K0) Exe.facts_none known0 hσ ?_ (n := 100000) ?_ (nx := 400) (by decide) Tryd.func5 rfl ?_ ?_ fun args v h es => ?_
  · kernel_rfl
  · kernel_rfl
  · kernel_rfl
  · kernel_rfl
  · cases List.mem_singleton.1 h
    exact ans es
set_option maxRecDepth 100000 in
theorem known1 {σ : Sig} (hσ : ∀ i, (σ i).oneCell' = true) {s : ByteArray} (hw : Word σ s.data.toList) (hf : Free s.data.toList) (hs : wd s = true) : Exe.KOk Tryd.prog σ 6 (K1 s.data.toList.length) := by
  have h0 : σ 0 = .string s := by rw [word0 hw, mkS_of]
  have hsz : s.size ≤ 32 := by rw [size_len]; exact hw.le
  have hpos : 0 < s.data.toList.length := by
    unfold wd at hs
    simp only [Bool.and_eq_true, decide_eq_true_iff] at hs
    have := hs.1.1
    rw [size_len] at this; omega
  refine Exe.kok_list fun i g h => ?_
  simp only [List.mem_cons, List.not_mem_nil, or_false, Prod.mk.injEq] at h
  rcases h with ⟨rfl, rfl⟩ | ⟨rfl, rfl⟩ | ⟨rfl, rfl⟩ | ⟨rfl, rfl⟩ | ⟨rfl, rfl⟩ | ⟨rfl, rfl⟩ | ⟨rfl, rfl⟩
  · exact idx
  · exact kok_ref h0 (by omega) hs
  · exact pure1 hσ
  · exact kok_let hw hf hpos
  · exact kok_wc hw hf
  · exact kok_word h0 (by omega) hs
  · exact kok_digits h0 (by omega) hs
set_option maxRecDepth 100000 in
theorem known2 {σ : Sig} (hσ : ∀ i, (σ i).oneCell' = true) : Exe.KOk Tryd.prog σ 6 K2 := by
  refine Exe.kok_list fun i g h => ?_
  simp only [List.mem_cons, List.not_mem_nil, or_false, Prod.mk.injEq] at h
  rcases h with ⟨rfl, rfl⟩ | ⟨rfl, rfl⟩
  · exact idx
  · exact pure1 hσ
set_option maxRecDepth 100000 in
theorem known3 {σ : Sig} (hσ : ∀ i, (σ i).oneCell' = true) {s : ByteArray} (h0 : σ 0 = .string s) (hsz : s.size ≤ 9223372036854775807) (hs : wd s = false) : Exe.KOk Tryd.prog σ 6 K3 := by
  refine Exe.kok_list fun i g h => ?_
  simp only [List.mem_cons, List.not_mem_nil, or_false, Prod.mk.injEq] at h
  rcases h with ⟨rfl, rfl⟩ | ⟨rfl, rfl⟩ | ⟨rfl, rfl⟩
  · exact idx
  · exact kok_ref h0 hsz hs
  · exact pure1 hσ
end parseNames
end Go.Proofs.YteaghbcenjhjhaaDoor
