/- slices.Insert of one element (32 cells), as a contract over rows. -/
import Derived.Test.YtbggcjkpjmnbaaaGreatPodK
import Derived.Test.YtbggcjkpjmnbaaaGreatProg
import Derived.Shelf.RegionOpenPlain
import Derived.WalkKit
import Derived.Lib.Walk
import Derived.Lib.SliceRun
import Derived.Lib.AppendZeros
import Derived.Lib.Overlaps
import Derived.Lib.AppendZerosOnto
import Derived.Laws.NewBlocks
import Derived.Laws.Externs
import Derived.Laws.IdiomCopy
namespace Go.Pod
open Go Go.RowKit Go.Lib Go.Shelf Go.Proofs

/-- Two slices in two blocks, the second of which is plain memory. -/
theorem run_overlaps_apart2 {P : Program} (w : World) (tS tR e : TypeId) (ht : P.underlying tS = some (.slice e)) (size : Nat) (hz : ∀ w, (Go.sizeOf e).run P w = .ok size w)
    (a b : Addr) (la ca lb cb : Nat) (hne : a.block ≠ b.block) (tA tB : TypeId) (kA kB : Nat)
    (hsa : w.shape? a.block = some (tA, kA)) (hsb : w.shape? b.block = some (tB, kB)) (hkB : kB ≠ 0) (hkA : kA ≠ 0)
    (hfb : w.frozen? b = false) (hfe : w.frozen? { block := b.block, off := kB } = false) :
    (Extern.SlicesOverlaps.overlaps #[tS, tS] #[tR] #[.slice (some a) la ca, .slice (some b) lb cb]).run P w = .ok (.bool false) w := by
  have hnb : (a.block != b.block) = true := by simpa using hne
  have hnb' : (a.block == b.block) = false := by simpa using hne
  change Sem.run P (α := Value) (do
    let some t := (#[tS, tS] : Array TypeId)[0]? | stuck "slices.overlaps: no parameter types"
    let .slice elem ← underlying t | stuck "slices.overlaps: slice type expected"
    let size ← sizeOf elem
    match (some a : Option Addr), (some b : Option Addr) with
    | some a, some b =>
      if la = 0 ∨ lb = 0 ∨ size = 0 then pure (Value.bool false)
      else if a.block != b.block && (← frozen a) && (← frozen b) then unsupported .addressObserved
      else do
        if a.block != b.block then do
          noView a; noView b
          if ← mayBeOne a b then return Value.bool ((← choose (.extern "sameAddr.stringBytes" 2)) == 1)
        pure (Value.bool (a.block == b.block && a.off < b.off + lb * size && b.off < a.off + la * size))
    | _, _ => pure (Value.bool false)) w = _
  by_cases h0 : la = 0 ∨ lb = 0 ∨ size = 0
  · simp [run_underlying ht, hz, h0]
  · cases kB with
    | zero => exact absurd rfl hkB
    | succ kB =>
     cases kA with
     | zero => exact absurd rfl hkA
     | succ kA =>
      cases hfa : w.frozen? a <;> cases hfa2 : w.frozen? { block := a.block, off := kA + 1 } <;>
      simp [run_underlying ht, hz, h0, hnb, hnb', frozen, noView, viewAt, mayBeOne, stringish, shape, Sem.run, hsa, hsb, hfb, hfe, hfa, hfa2]

theorem run_copy_cellsK {P : Program} (w : World) (dT sT ty elem : TypeId) (b o dLen dCap : Nat) (a : Addr) (sLen sCap k : Nat) (cs : List Value)
    (hu : P.underlying dT = some (.slice elem)) (hs : (P.info? elem).map (·.size) = some k) (hn : cs.length = Nat.min sLen dLen * k)
    (hsrc : ∀ j v, cs[j]? = some v → w.cell? (a.add j) = some v) (hc : ∀ j, j < cs.length → (w.cell? ⟨b, o + j, none⟩).isSome = true) (hf : ∀ j, j < cs.length → w.frozen? ⟨b, o + j, none⟩ = false) (h1 : ∀ v ∈ cs, v.oneCell' = true) :
    (Builtin.copy_ #[dT, sT] ty #[.slice (some ⟨b, o, none⟩) dLen dCap, .slice (some a) sLen sCap]).run P w = .ok (goInt (Nat.min sLen dLen)) (w.setCells b o cs) := by
  have hl := run_loadCells_list (P := P) w a cs hsrc
  have hst := run_storeCells_cells (P := P) b o cs 0 w (by simpa using hc) (by simpa using hf) h1
  cases hq : P.info? elem with
  | none => simp [hq] at hs
  | some i =>
    have hi : i.size = k := by simpa [hq] using hs
    simp [Builtin.copy_, run_underlying hu, Builtin.lenOf, Builtin.firstCells, sizeOf, typeInfo, hq, hi, ← hn, hl, hst]
theorem setCells_some (b : Nat) (vs : List Value) (o : Nat) (w : World) (h : ∀ j, j < vs.length → (w.cell? ⟨b, o + j, none⟩).isSome = true) (k : Nat) (hk : (w.cell? ⟨b, k, none⟩).isSome = true) : ((w.setCells b o vs).cell? ⟨b, k, none⟩).isSome = true := by
  by_cases hin : o ≤ k ∧ k < o + vs.length
  · have := World.cell?_setCells_in b vs o w h (k - o) (by omega)
    rw [show o + (k - o) = k by omega] at this
    rw [this]; rfl
  · rw [World.cell?_setCells_out b vs o w ⟨b, k, none⟩ (fun _ _ => by show k < o ∨ o + vs.length ≤ k; omega)]
    exact hk

theorem wp_copy_runK {P : Program} (w : World) {o : Oper} {a : Act} {K : Act → World → Prop} {Q : Exit → Act → World → Prop} (d s : Operand) (t t' : TypeId)
    (ho : o.op = .call { callee := .builtin .copy, args := #[d, s], argTypes := #[t, t'] }) (v u : Value) (hd : a.eval d = v) (hs : a.eval s = u) {v' : Value} {w' : World}
    (hr : (Builtin.copy_ #[t, t'] o.type #[v, u]).run P w = .ok v' w') (h : K (a.put o.dst v') w') : o.wp P a w K Q := by
  unfold Oper.wp execOp
  simp only [ho, resolve, invoke, builtin, Sem.run_bind, Sem.run_pure, Result.andThen_ok, List.map_toArray, List.map_cons, List.map_nil, hd, hs, hr]
  exact h

theorem wpList_copy_runK {P : Program} (w : World) {ops : Array Oper} {rest : List Oper} {o : Oper} {a : Act} {Q : Exit → Act → World → Prop} (hgd : o.guard = none) (d s : Operand) (t t' : TypeId)
    (ho : o.op = .call { callee := .builtin .copy, args := #[d, s], argTypes := #[t, t'] }) (v u : Value) (hd : a.eval d = v) (hs : a.eval s = u) {v' : Value} {w' : World}
    (hr : (Builtin.copy_ #[t, t'] o.type #[v, u]).run P w = .ok v' w') (h : wpList P ops Q rest (a.put o.dst v') w') : wpList P ops Q (o :: rest) a w :=
  wpList_plain hgd fun _ hK => wp_copy_runK w d s t t' ho v u hd hs hr (hK _ _ h)

theorem step_copy_runK {P : Program} {ops : Array Oper} {o : Oper} {a : Act} {w : World} {K : Act → World → Prop} {Q : Exit → Act → World → Prop} {E : Prop}
    (hg : o.guard = none) (d x : Operand) (dT sT : TypeId) (hop : o.op = Op.call { callee := Callee.builtin Builtin.copy, args := #[d, x], argTypes := #[dT, sT] })
    (v u : Value) (hd : a.eval d = v) (hx : a.eval x = u) {v' : Value} {w' : World} (hr : (Builtin.copy_ #[dT, sT] o.type #[v, u]).run P w = .ok v' w') (hK : K (a.put o.dst v') w') :
    if Region.wanted o (yielded ops a.tmps) = true then Oper.wp P o a w K Q else E := by
  have hw : Region.wanted o (yielded ops a.tmps) = true := by simp [Region.wanted, hg]
  rw [if_pos hw]
  unfold Oper.wp
  simp [execOp, hop, resolve, invoke, builtin, hd, hx, hr, Result.andThen]
  exact hK

set_option maxHeartbeats 4000000 in
set_option maxRecDepth 100000 in
theorem insert_shift (b n c i vb voff vc : Nat) (cs vs : List Value) (w : World) (hi : i < n) (hroom : n + 1 ≤ c) (hc63 : c ≤ 9223372036854775807) (hvb : vb ≠ b)
    (hcl : cs.length = n * 32) (hvl : vs.length = 32)
    (hcs : ∀ j v, cs[j]? = some v → w.cell? ⟨b, j, none⟩ = some v) (hsp : ∀ j, j < (n + 1) * 32 → (w.cell? ⟨b, j, none⟩).isSome = true) (hfz : ∀ j, j < (n + 1) * 32 → w.frozen? ⟨b, j, none⟩ = false)
    (hvs : ∀ j v, vs[j]? = some v → w.cell? ⟨vb, voff + j, none⟩ = some v) (h1c : ∀ v ∈ cs, v.oneCell' = true) (h1v : ∀ v ∈ vs, v.oneCell' = true)
    (tA tB : TypeId) (kA kB : Nat) (hsa : w.shape? vb = some (tA, kA)) (hsb : w.shape? b = some (tB, kB)) (hkA : kA ≠ 0) (hkB : kB ≠ 0) (hfe : w.frozen? ⟨b, kB, none⟩ = false) :
    Calls Tryz.prog 114 #[.slice (some ⟨b, 0, none⟩) n c, .int .i64 i, .slice (some ⟨vb, voff, none⟩) 1 vc] w fun e w' =>
      e = .returned (.slice (some ⟨b, 0, none⟩) (n + 1) c) ∧ w' = (w.drew.setCells b ((i + 1) * 32) (cs.drop (i * 32))).setCells b (i * 32) vs := by
  have hz2 : ¬ ((i : Int) = (n : Int)) := by omega
  have hsz : (Tryz.prog.info? 52).map (·.size) = some 32 := by kernel_rfl
  have hov : ∀ lb cb, (callFunc 121 #[.slice (some ⟨vb, voff, none⟩) 1 vc, .slice (some ⟨b, (i + 1) * 32, none⟩) lb cb]).run Tryz.prog w = .ok (.value (.bool false)) w := fun lb cb => by
    rw [run_callFunc_extern Tryz.func121 (by kernel_rfl) (by kernel_rfl) (by kernel_rfl) (e := Extern.SlicesOverlaps.overlaps #[28, 28] #[4]) (by kernel_rfl),
      run_overlaps_apart2 w 28 4 52 Tryz.underlying28 32 Tryz.sizeOf52 ⟨vb, voff, none⟩ ⟨b, (i + 1) * 32, none⟩ 1 vc lb cb hvb tA tB kA kB hsa hsb hkB hkA (hfz _ (by omega)) hfe]
    rfl
  have hdl : (cs.drop (i * 32)).length = (n - i) * 32 := by rw [List.length_drop, hcl]; omega
  have mixed : Tryz.prog.follows .mixedOrders = true := by kernel_rfl
  have hw1 : IntKind.i64.wrap ((i : Int) + (1 : Int)) = (i : Int) + (1 : Int) := by rw [IntKind.wrap_i64]; omega
  have hw2 : IntKind.i64.wrap ((n : Int) + (1 : Int)) = (n : Int) + (1 : Int) := by rw [IntKind.wrap_i64]; omega
  have hb1 : (0 : Int) ≤ (i : Int) + (1 : Int) := by omega
  have hin : i ≤ n := by omega
  have htn : ((i : Int) + (1 : Int)).toNat = i + 1 := by omega
  have htn2 : ((n : Int) + (1 : Int)).toNat = n + 1 := by omega
  have hb2 : ¬ (c = i + 1) := by omega
  have hb3 : (i : Int) ≤ (n : Int) + (1 : Int) := by omega
  have hb4 : ¬ (c = i) := by omega
  have hb5 : ¬ ((c : Int) < (n : Int) + 1) := by omega
  have hcp1 : ∀ ty dc sc, (Builtin.copy_ #[28, 28] ty #[.slice (some ⟨b, (i + 1) * 32, none⟩) (n - i) dc, .slice (some ⟨b, i * 32, none⟩) (n + 1 - i) sc]).run Tryz.prog w.drew = .ok (goInt ((n - i : Nat) : Int)) (w.drew.setCells b ((i + 1) * 32) (cs.drop (i * 32))) := fun ty dc sc => by
    have := run_copy_cellsK (P := Tryz.prog) w.drew 28 28 ty 52 b ((i + 1) * 32) (n - i) dc ⟨b, i * 32, none⟩ (n + 1 - i) sc 32 (cs.drop (i * 32)) Tryz.underlying28 hsz (by rw [hdl]; simp only [Nat.min_def]; split <;> omega)
      (fun j v hj => by rw [Addr.add_lit]; exact hcs (i * 32 + j) v (by rwa [List.getElem?_drop] at hj))
      (fun j hj => hsp _ (by rw [hdl] at hj; omega)) (fun j hj => hfz _ (by rw [hdl] at hj; omega)) (fun v hv => h1c v (List.mem_of_mem_drop hv))
    rwa [show Nat.min (n + 1 - i) (n - i) = n - i by simp only [Nat.min_def]; split <;> omega] at this
  obtain ⟨W1, hW1⟩ : ∃ W1, W1 = w.drew.setCells b ((i + 1) * 32) (cs.drop (i * 32)) := ⟨_, rfl⟩
  have hsp1 : ∀ k, k < (n + 1) * 32 → (W1.cell? ⟨b, k, none⟩).isSome = true := fun k hk => by
    rw [hW1]
    exact setCells_some b (cs.drop (i * 32)) ((i + 1) * 32) w.drew (fun j hj => hsp _ (by rw [hdl] at hj; omega)) _ (hsp k hk)
  have hcp2 : ∀ (W : World), (∀ x, W.cell? x = W1.cell? x) → (∀ x, W.frozen? x = W1.frozen? x) → ∀ ty dc, (Builtin.copy_ #[28, 28] ty #[.slice (some ⟨b, i * 32, none⟩) (n + 1 - i) dc, .slice (some ⟨vb, voff, none⟩) 1 vc]).run Tryz.prog W = .ok (goInt 1) (W.setCells b (i * 32) vs) := fun W hWc hWf ty dc => by
    have := run_copy_cellsK (P := Tryz.prog) W 28 28 ty 52 b (i * 32) (n + 1 - i) dc ⟨vb, voff, none⟩ 1 vc 32 vs Tryz.underlying28 hsz (by rw [hvl]; simp only [Nat.min_def]; split <;> omega)
      (fun j v hj => by
        rw [Addr.add_lit, hWc, hW1, World.cell?_setCells_out b _ _ _ _ (fun h _ => absurd h hvb)]
        exact hvs j v hj)
      (fun j hj => by rw [hWc]; exact hsp1 _ (by rw [hvl] at hj; omega)) (fun j hj => by rw [hWf, hW1, World.frozen?_setCells]; exact hfz _ (by rw [hvl] at hj; omega)) h1v
    rwa [show Nat.min 1 (n + 1 - i) = 1 by simp only [Nat.min_def]; split <;> omega] at this
  rw [← hW1] at hcp1
  go_enter Tryz.func114, Tryz.ntmps114
  go_wp2_with (simp only [hov])
  go_region_law_o (refine step_copy_runK rfl _ _ 28 28 rfl _ _ (by simp [Act.eval, Act.put]) (by simp [Act.eval, Act.put]) (hcp1 _ _ _) ?_)
  go_wp2_with (at_builtin; refine wpList_copy_runK _ rfl _ _ 28 28 rfl _ _ rfl rfl (hcp2 _ (fun _ => rfl) (fun _ => rfl) _ _) ?_)
  go_ret
  first | exact ⟨rfl, rfl⟩ | exact ⟨rfl, by rw [hW1]⟩

set_option maxHeartbeats 4000000 in
set_option maxRecDepth 100000 in
theorem insert_grow (b n c i vb voff vc : Nat) (cs vs : List Value) (w : World) (hi : i < n) (hnc : n ≤ c) (hroom : c < n + 1) (hbig : (n + 1) * 272 ≤ 140737488355328)
    (hcl : cs.length = n * 32) (hvl : vs.length = 32)
    (hcs : ∀ j v, cs[j]? = some v → w.cell? ⟨b, j, none⟩ = some v)
    (hvs : ∀ j v, vs[j]? = some v → w.cell? ⟨vb, voff + j, none⟩ = some v) (h1c : ∀ v ∈ cs, v.oneCell' = true) (h1v : ∀ v ∈ vs, v.oneCell' = true)
    (q : TypeInfo) (z : Value) (hq : Tryz.prog.info? 52 = some q) (hz0 : q.zero = some z) (hqs : q.size = 32) (hqb : q.bytes = 272) (hzc : z.cells.size = 32) :
    Calls Tryz.prog 114 #[.slice (some ⟨b, 0, none⟩) n c, .int .i64 i, .slice (some ⟨vb, voff, none⟩) 1 vc] w fun e w' =>
      ∃ G, n + 1 ≤ G ∧ G ≤ maxLen ∧ e = .returned (.slice (some ⟨w.heap.size, 0, none⟩) (n + 1) G) ∧
      w' = (((w.alloc (.cells ((cs.take (i * 32)).toArray ++ Builtin.zeroCells z.cells (n + 1 - i) ++ Builtin.zeroCells z.cells (G - (n + 1))) 52)).drew.setCells w.heap.size (i * 32) vs).drew).setCells w.heap.size ((i + 1) * 32) (cs.drop (i * 32)) := by
  have hz2 : ¬ ((i : Int) = (n : Int)) := by omega
  have hsz : (Tryz.prog.info? 52).map (·.size) = some 32 := by rw [hq]; simp [hqs]
  have mixed : Tryz.prog.follows .mixedOrders = true := by kernel_rfl
  have hw1 : IntKind.i64.wrap ((i : Int) + (1 : Int)) = (i : Int) + (1 : Int) := by rw [IntKind.wrap_i64]; omega
  have hw2 : IntKind.i64.wrap ((n : Int) + (1 : Int)) = (n : Int) + (1 : Int) := by rw [IntKind.wrap_i64]; omega
  have hw3 : IntKind.i64.wrap (((n : Int) + (1 : Int)) - (i : Int)) = (n : Int) + (1 : Int) - (i : Int) := by rw [IntKind.wrap_i64]; omega
  have hb1 : (0 : Int) ≤ (i : Int) + (1 : Int) := by omega
  have hin : i ≤ n := by omega
  have htn : ((i : Int) + (1 : Int)).toNat = i + 1 := by omega
  have hz3 : (c : Int) < (n : Int) + (1 : Int) := by omega
  have hlt0 : 0 < n * 32 := by omega
  have hbw : b < w.heap.size := block_lt_of_cell (hcs 0 _ (List.getElem?_eq_getElem (by omega)))
  have hvw : vb < w.heap.size := block_lt_of_cell (hvs 0 _ (List.getElem?_eq_getElem (by omega)))
  have hkk : (n : Int) + (1 : Int) - (i : Int) = ((n + 1 - i : Nat) : Int) := by omega
  have hik : i + (n + 1 - i) = n + 1 := by omega
  have hold : (Builtin.firstCells q.size i (.slice (some ⟨b, 0, none⟩) i c)).run Tryz.prog w.drew = .ok (cs.take (i * 32)).toArray w.drew := by
    rw [hqs]
    exact run_firstCells_some w.drew 32 i ⟨b, 0, none⟩ i c (cs.take (i * 32)) (by rw [List.length_take]; omega) (fun j v hj => by
      rw [Addr.add_lit, Nat.zero_add]
      rw [List.getElem?_take] at hj
      split at hj
      · exact hcs j v hj
      · cases hj)
  have hrz : ∀ ty, (Builtin.append_ #[28, 3] ty #[.slice (some ⟨b, 0, none⟩) i c, .int .i64 ((n : Int) + (1 : Int) - (i : Int))]).run Tryz.prog w =
      .ok (.slice (some ⟨w.heap.size, 0, none⟩) (n + 1) (grownCap w (n + 1) c 52)) (w.drew.alloc (.cells ((cs.take (i * 32)).toArray ++ Builtin.zeroCells z.cells (n + 1 - i) ++ Builtin.zeroCells z.cells (grownCap w (n + 1) c 52 - (n + 1))) 52)) := fun ty => by
    have h := Lib.run_append_grow_zeros w 28 3 ty 52 q z .i64 .i64 Tryz.underlying28 Tryz.underlying3 hq hz0 (some ⟨b, 0, none⟩) i c (cs.take (i * 32)) hold (n + 1 - i) (by omega) (by omega) (by omega) (by omega) (by rw [hqb]; omega) (by rw [hqb, hik]; exact growslice_fits hroom hbig)
    rw [hik] at h
    rw [hkk]
    exact h
  obtain ⟨G, hG⟩ : ∃ G, G = grownCap w (n + 1) c 52 := ⟨_, rfl⟩
  obtain ⟨ROW, hROW⟩ : ∃ ROW : Array Value, ROW = (cs.take (i * 32)).toArray ++ Builtin.zeroCells z.cells (n + 1 - i) ++ Builtin.zeroCells z.cells (G - (n + 1)) := ⟨_, rfl⟩
  rw [← hG] at hrz
  have hGn : n + 1 ≤ G := by rw [hG]; exact grownCap_ge w _ _ _
  have hGm : G ≤ maxLen := by
    have := grownCap_le_maxLen w (n + 1) c 52 (by unfold maxLen; omega)
    rwa [← hG] at this
  rw [← hROW] at hrz
  have hRl : (n + 1) * 32 ≤ ROW.size := by
    rw [hROW]
    simp only [size_zeroCells, Array.size_append, List.size_toArray, List.length_take, hcl, hzc]
    omega
  obtain ⟨W1, hW1⟩ : ∃ W1, W1 = w.drew.alloc (.cells ROW 52) := ⟨_, rfl⟩
  rw [← hW1] at hrz
  have hN : ∀ j, j < (n + 1) * 32 → (W1.cell? ⟨w.heap.size, j, none⟩).isSome = true := fun j hj => by
    rw [hW1, World.cell?_alloc_at (w := w.drew) ROW _ w.heap.size j rfl, Array.getElem?_eq_getElem (by omega)]; rfl
  have hNf : ∀ j, W1.frozen? ⟨w.heap.size, j, none⟩ = false := fun j => by rw [hW1]; exact World.frozen?_alloc_at (w := w.drew) ROW _ w.heap.size j rfl
  have hOb : ∀ j v, w.cell? ⟨b, j, none⟩ = some v → W1.cell? ⟨b, j, none⟩ = some v := fun j v h => by rw [hW1, World.cell?_alloc_past (w := w.drew) _ b j hbw]; exact h
  have hOv : ∀ j v, w.cell? ⟨vb, j, none⟩ = some v → W1.cell? ⟨vb, j, none⟩ = some v := fun j v h => by rw [hW1, World.cell?_alloc_past (w := w.drew) _ vb j hvw]; exact h
  have hcpA : ∀ (W : World), (∀ x, W.cell? x = W1.cell? x) → (∀ x, W.frozen? x = W1.frozen? x) → ∀ ty dc, (Builtin.copy_ #[28, 28] ty #[.slice (some ⟨w.heap.size, i * 32, none⟩) (n + 1 - i) dc, .slice (some ⟨vb, voff, none⟩) 1 vc]).run Tryz.prog W = .ok (goInt 1) (W.setCells w.heap.size (i * 32) vs) := fun W hWc hWf ty dc => by
    have := run_copy_cellsK (P := Tryz.prog) W 28 28 ty 52 w.heap.size (i * 32) (n + 1 - i) dc ⟨vb, voff, none⟩ 1 vc 32 vs Tryz.underlying28 hsz (by rw [hvl]; simp only [Nat.min_def]; split <;> omega)
      (fun j v hj => by rw [Addr.add_lit, hWc]; exact hOv _ v (hvs j v hj))
      (fun j hj => by rw [hWc]; exact hN _ (by omega)) (fun j hj => by rw [hWf]; exact hNf _) h1v
    rwa [show Nat.min 1 (n + 1 - i) = 1 by simp only [Nat.min_def]; split <;> omega] at this
  have hG63 : G ≤ 9223372036854775807 := by unfold maxLen at hGm; omega
  have hGi : ¬ (G = i) := by omega
  have hGim : ¬ (G = i + 1) := by omega
  have hci : ¬ (c = i) := by omega
  have hbN : b ≠ w.heap.size := by omega
  have hdl : (cs.drop (i * 32)).length = (n - i) * 32 := by rw [List.length_drop, hcl]; omega
  have hcpB : ∀ (W : World), (∀ x, W.cell? x = (W1.setCells w.heap.size (i * 32) vs).cell? x) → (∀ x, W.frozen? x = (W1.setCells w.heap.size (i * 32) vs).frozen? x) → ∀ ty dc sc, (Builtin.copy_ #[28, 28] ty #[.slice (some ⟨w.heap.size, (i + 1) * 32, none⟩) (n + 1 - (i + 1)) dc, .slice (some ⟨b, i * 32, none⟩) (n - i) sc]).run Tryz.prog W = .ok (goInt ((n - i : Nat) : Int)) (W.setCells w.heap.size ((i + 1) * 32) (cs.drop (i * 32))) := fun W hWc hWf ty dc sc => by
    have := run_copy_cellsK (P := Tryz.prog) W 28 28 ty 52 w.heap.size ((i + 1) * 32) (n + 1 - (i + 1)) dc ⟨b, i * 32, none⟩ (n - i) sc 32 (cs.drop (i * 32)) Tryz.underlying28 hsz (by rw [hdl]; simp only [Nat.min_def]; split <;> omega)
      (fun j v hj => by
        rw [Addr.add_lit, hWc, World.cell?_setCells_out _ _ _ _ _ (fun h _ => absurd h hbN)]
        exact hOb _ v (hcs (i * 32 + j) v (by rwa [List.getElem?_drop] at hj)))
      (fun j hj => by rw [hWc]; exact setCells_some _ _ _ _ (fun t ht => hN _ (by omega)) _ (hN _ (by omega)))
      (fun j hj => by rw [hWf, World.frozen?_setCells]; exact hNf _) (fun v hv => h1c v (List.mem_of_mem_drop hv))
    rwa [show Nat.min (n - i) (n + 1 - (i + 1)) = n - i by simp only [Nat.min_def]; split <;> omega] at this
  subst hW1
  have hE1 : ∀ x, ((w.alloc (.cells ROW 52)).drew).cell? x = (w.drew.alloc (.cells ROW 52)).cell? x := fun x => rfl
  have hE2 : ∀ x, ((w.alloc (.cells ROW 52)).drew).frozen? x = (w.drew.alloc (.cells ROW 52)).frozen? x := fun x => rfl
  have hF1 : ∀ x, (((w.alloc (.cells ROW 52)).drew.setCells w.heap.size (i * 32) vs).drew).cell? x = ((w.drew.alloc (.cells ROW 52)).setCells w.heap.size (i * 32) vs).cell? x := fun x => rfl
  have hF2 : ∀ x, (((w.alloc (.cells ROW 52)).drew.setCells w.heap.size (i * 32) vs).drew).frozen? x = ((w.drew.alloc (.cells ROW 52)).setCells w.heap.size (i * 32) vs).frozen? x := fun x => rfl
  have hb3 : (i : Int) ≤ (n : Int) := by omega
  have hres : Calls Tryz.prog 114 #[.slice (some ⟨b, 0, none⟩) n c, .int .i64 i, .slice (some ⟨vb, voff, none⟩) 1 vc] w fun e w' =>
      e = .returned (.slice (some ⟨w.heap.size, 0, none⟩) (n + 1) G) ∧ w' = (((w.alloc (.cells ROW 52)).drew.setCells w.heap.size (i * 32) vs).drew).setCells w.heap.size ((i + 1) * 32) (cs.drop (i * 32)) := by
    clear hkk hik hold hROW hG hRl
    go_enter Tryz.func114, Tryz.ntmps114
    go_wp2_with (first
      | (at_builtin; refine Lib.wpList_append_run _ rfl _ _ _ _ rfl _ _ rfl rfl _ _ (hrz _) ?_)
      | (at_builtin; refine wpList_copy_runK _ rfl _ _ 28 28 rfl _ _ rfl rfl (hcpA _ hE1 hE2 _ _) ?_)
      | (at_builtin; refine wpList_copy_runK _ rfl _ _ 28 28 rfl _ _ rfl rfl (hcpB _ (fun _ => rfl) (fun _ => rfl) _ _ _) ?_))
    go_region_law_o (refine step_copy_runK rfl _ _ 28 28 rfl (.slice (some ⟨w.heap.size, (i + 1) * 32, none⟩) (n + 1 - (i + 1)) (G - (i + 1))) (.slice (some ⟨b, i * 32, none⟩) (n - i) (c - i)) (by simp [Act.eval, Act.put]) (by simp [Act.eval, Act.put]) (hcpB _ hF1 hF2 3 (G - (i + 1)) (c - i)) ?_)
    go_wp2
    go_ret
    exact ⟨rfl, rfl⟩
  exact hres.mono fun e w' ⟨h1, h2⟩ => ⟨G, hGn, hGm, h1, by rw [h2, hROW]⟩

def insD (f : Nat → D) (i : Nat) (v : D) : Nat → D := fun k => if k < i then f k else if k = i then v else f (k - 1)

theorem ins_cat {f g : Nat → D} {n : Nat} : CatOk (.arr n 32 f) (.arr 1 32 g) (.arr (n + 1) 32 (insD f n (g 0))) := by
  refine ⟨by simp only [D.size]; omega, fun x L o h1 h2 k hk => ?_⟩
  unfold insD
  by_cases hlt : k < n
  · rw [if_pos hlt]; exact h1 k hlt
  · have hk' : k = n := by omega
    subst hk'
    rw [if_neg hlt, if_pos rfl]
    have := h2 0 (by omega)
    simpa [D.size] using this

theorem ins_m {x : Cx} {f : Nat → D} {n i : Nat} {v : D} {L L' V : Look} {o : Nat} (hi : i ≤ n) (hv : v.size = 32) (h : (VR x (.arr n 32 f)).m L 0) (hvm : (VR x v).m V o)
    (h0 : ∀ j, j < 32 → L' (i * 32 + j) = V (o + j)) (h1 : ∀ j, j < i * 32 → L' j = L j) (h2 : ∀ j, i * 32 ≤ j → j < n * 32 → L' (j + 32) = L j) : (VR x (.arr (n + 1) 32 (insD f i v))).m L' 0 := by
  intro k hk
  unfold insD
  by_cases hlt : k < i
  · rw [if_pos hlt]
    obtain ⟨q1, q2⟩ := h k (by omega)
    refine ⟨q1, VR_look _ (fun j hj => ?_) q2⟩
    rw [q1] at hj
    rw [h1 _ (by omega)]
  · rw [if_neg hlt]
    by_cases he : k = i
    · subst he
      rw [if_pos rfl]
      refine ⟨hv, VR_look _ (fun j hj => ?_) hvm⟩
      rw [hv] at hj
      rw [Nat.zero_add]; exact h0 j hj
    · rw [if_neg he]
      obtain ⟨q1, q2⟩ := h (k - 1) (by omega)
      refine ⟨q1, VR_look _ (fun j hj => ?_) q2⟩
      rw [q1] at hj
      have e1 : 0 + k * 32 + j = (0 + (k - 1) * 32 + j) + 32 := by omega
      rw [e1]
      exact h2 _ (by omega) (by omega)

noncomputable def T_insert : List Item := norm 200 [.code (Tryz.f114.body.getD .skip)]

/-- At the end: the model's append. -/
theorem insert_end (n : Nat) (f g : Nat → D) (room : RoomOk (n + 1) 272) (hn : ∀ i, i < n → (f i).In (fun _ => False)) (hg : ∀ i, i < 1 → (g i).In (fun _ => False)) :
    FC Tryz.prog 114 [.own 0, .int .i64 (n : Int), .lit 1 32 g] [some (.seq 52 n 32 (.arr n 32 f))] (.own 1) [none, some (.seq 52 (n + 1) 32 (.arr (n + 1) 32 (insD f n (g 0))))] := by

  refine fc_of_runs (fn := Tryz.f114) (c := Tryz.f114.body.getD .skip) (by kernel_rfl) (by kernel_rfl) ?_
  have hi : HIn (Bel 1) [some (Row.seq 52 n 32 (.arr n 32 f))] := And.intro (fun i hi => D.In_mono (fun _ h => h.elim) _ (hn i hi)) trivial
  refine runs_to (ts := [0, 1, 2]) (T' := T_insert) (env' := [(0, (D.own 0)), (1, (D.int .i64 (n : Int))), (2, .lit 1 32 g)]) (h2 := [some (.seq 52 n 32 (.arr n 32 f))]) (by kernel_rfl) (by kernel_rfl) (And.intro (.inr rfl) trivial) (Nat.le_refl _) hi (And.intro (bel_of rfl) (And.intro trivial (And.intro (fun i hi => D.In_mono (fun _ h => h.elim) _ (hg i hi)) trivial))) ?_
  refine runs_regions 4 [([], [0, 1, 2]), ([], [0, 1, 2]), ([], [0, 1, 2, 7]), ([], [0, 1, 2, 16])] (z := ([(0 ≤ (n : Int) ∧ (n : Int) ≤ ((n : Nat) : Int) ∧ ((n : Nat) : Int) ≤ ((n : Nat) : Int))], [(0, (D.own 0)), (1, (D.int .i64 (n : Int))), (2, .lit 1 32 g), (16, (D.bool (((1 : Nat) : Int) == (0 : Int))))], [some (.seq 52 n 32 (.arr n 32 f))])) rfl (by kernel_rfl) (And.intro ⟨by omega, by omega, by omega⟩ trivial) ?_
  refine runs_if (b := (((1 : Nat) : Int) == (0 : Int))) (by kernel_rfl) (fun hb => absurd hb (by decide)) (fun _ => ?_)
  refine runs_regions 2 [([], [0, 1, 2, 8]), ([], [0, 2, 22])] (z := ([], [(0, (D.own 0)), (2, .lit 1 32 g), (22, (D.bool ((n : Int) == ((n : Nat) : Int))))], [some (.seq 52 n 32 (.arr n 32 f))])) rfl (by kernel_rfl) trivial ?_
  refine runs_if (b := ((n : Int) == ((n : Nat) : Int))) (by kernel_rfl) (fun _ => ?_) (fun hb => absurd hb (by simp))
  refine runs_regions 1 [([(.d (.arr (n + 1) 32 (insD f n (g 0))))], [6])] (z := ([RoomOk (n + 1) 272, CatOk (.arr n 32 f) (.arr 1 32 g) (.arr (n + 1) 32 (insD f n (g 0)))], [(6, (D.own 1))], [none, some (.seq 52 (n + 1) 32 (.arr (n + 1) 32 (insD f n (g 0))))])) rfl (by kernel_rfl) (And.intro room (And.intro ins_cat trivial)) ?_
  refine runs_ret (h2 := [none, some (.seq 52 (n + 1) 32 (.arr (n + 1) 32 (insD f n (g 0))))]) (by kernel_rfl) (And.intro (.inr rfl) (And.intro (.inr rfl) trivial)) (Nat.le_of_ble_eq_true rfl) (And.intro (fun i hi => ?_) trivial) (bel_of rfl)
  unfold insD
  split
  · exact D.In_mono (fun _ h => h.elim) _ (hn i (by omega))
  · split
    · exact D.In_mono (fun _ h => h.elim) _ (hg 0 (by omega))
    · exact D.In_mono (fun _ h => h.elim) _ (hn (i - 1) (by omega))

theorem cel_drew {w : World} {b : Nat} {cs : Array Value} {e : TypeId} (h : Cel w b cs e) : Cel w.drew b cs e := h.to rfl

theorem drew_setCells (w : World) (b o : Nat) (vs : List Value) : (w.drew.setCells b o vs).heap = (w.setCells b o vs).heap := by
  induction vs generalizing w o with
  | nil => rfl
  | cons v vs ih => exact ih (w.setCell ⟨b, o, none⟩ v) (o + 1)

theorem grow_world (w : World) (ROW : Array Value) (e : TypeId) (vs us : List Value) (o o' : Nat) (hv : o + vs.length ≤ ROW.size) (hu : o' + us.length ≤ ROW.size) :
    ∃ w', w' = (((w.alloc (.cells ROW e)).drew.setCells w.heap.size o vs).drew).setCells w.heap.size o' us ∧ w'.os = w.os ∧ w'.tape = w.tape ∧ w'.output = w.output ∧ w.drawn ≤ w'.drawn ∧ w.heap.size ≤ w'.heap.size ∧ (∀ k, k < w.heap.size → w'.heap[k]? = w.heap[k]?) ∧
      ∃ c1 c2 : Array Value, Cel w' w.heap.size c2 e ∧ c1.size = ROW.size ∧ c2.size = ROW.size ∧ (∀ j, j < vs.length → c1[o + j]? = vs[j]?) ∧ (∀ j, (j < o ∨ o + vs.length ≤ j) → c1[j]? = ROW[j]?) ∧
        (∀ j, j < us.length → c2[o' + j]? = us[j]?) ∧ (∀ j, (j < o' ∨ o' + us.length ≤ j) → c2[j]? = c1[j]?) := by
  have c0 : Cel ((w.alloc (.cells ROW e)).drew) w.heap.size ROW e := .mk0 (MapKept.heap_alloc w _).1
  obtain ⟨c1, s1, s2, s3, s4⟩ := setCells_row w.heap.size e vs o _ ROW c0 hv
  obtain ⟨o1, o2, o3, o4⟩ := setCells_os w.heap.size vs o ((w.alloc (.cells ROW e)).drew)
  have od := setCells_drawn w.heap.size vs o ((w.alloc (.cells ROW e)).drew)
  have oo := fun (k : Nat) (hk : k ≠ w.heap.size) => setCells_other w.heap.size hk vs o ((w.alloc (.cells ROW e)).drew)
  obtain ⟨W1, hW⟩ : ∃ W1, W1 = (w.alloc (.cells ROW e)).drew.setCells w.heap.size o vs := ⟨_, rfl⟩
  rw [← hW] at s1 o1 o2 o3 o4 od oo
  rw [← hW]
  obtain ⟨c2, t1, t2, t3, t4⟩ := setCells_row w.heap.size e us o' W1.drew c1 (cel_drew s1) (by omega)
  obtain ⟨p1, p2, p3, p4⟩ := setCells_os w.heap.size us o' W1.drew
  have pd := setCells_drawn w.heap.size us o' W1.drew
  refine ⟨_, rfl, p1.trans o1, p2.trans o2, p3.trans o3, ?_, ?_, fun k hk => ?_, c1, c2, t1, s2, t2.trans s2, s3, s4, t3, t4⟩
  · rw [pd]
    refine Nat.le_trans ?_ (Nat.le_succ _)
    rw [od]
    exact Nat.le_succ _
  · rw [p4]
    show w.heap.size ≤ W1.heap.size
    rw [o4]
    rw [show (w.alloc (.cells ROW e)).drew.heap = w.heap.push (.cells ROW e) from rfl, Array.size_push]
    exact Nat.le_succ _
  · have hne : k ≠ w.heap.size := by omega
    rw [setCells_other _ hne]
    exact (oo k hne).trans (RowKit.Below.heap_alloc w _ k hk)

set_option maxHeartbeats 2000000 in
theorem fc_insert (n i : Nat) (f g : Nat → D) (hi : i ≤ n) (room : RoomOk (n + 1) 272) (hn : ∀ i, i < n → (f i).In (fun _ => False)) (hg : ∀ i, i < 1 → (g i).In (fun _ => False)) :
    FC Tryz.prog 114 [.own 0, .int .i64 (i : Int), .lit 1 32 g] [some (.seq 52 n 32 (.arr n 32 f))] (.own 1) [none, some (.seq 52 (n + 1) 32 (.arr (n + 1) 32 (insD f i (g 0))))] := by
  by_cases hin : i = n
  · subst hin; exact insert_end i f g room hn hg
  have hlt : i < n := by omega
  intro X ρ vs w hh hv
  obtain ⟨hz, hv⟩ := hv
  obtain ⟨u, k1, k2, k3⟩ := hh.live 0 _ rfl
  have a0 := hv 0 _ rfl
  have a1 := hv 1 _ rfl
  have a2 := hv 2 _ rfl
  obtain ⟨⟨o, h1, h2⟩, _⟩ := a0
  have hvu := h2 u (Option.some.inj (h1.symm.trans k1))
  obtain ⟨a1, _⟩ := a1
  obtain ⟨a2, _⟩ := a2
  rcases k3 with ⟨rfl, hn0, _⟩ | ⟨b, cap, cur, rfl, hbk, hncap, hcapm, hcur, hmem⟩
  · omega
  replace hbk : Cel w b cur 52 := hbk
  replace hvu := hvu.resolve_right (by simp)
  rcases a2 with ⟨_, h0⟩ | ⟨vb, vo, vc, a2, _, _, hnav, hvlt, hel⟩
  · omega
  obtain ⟨g1, g2⟩ := hel 0 (by omega)
  rw [Nat.zero_mul, Nat.add_zero] at g2
  have hvb : vb ≠ b := fun e => hnav (.inr ⟨0, _, k1, by rw [e]; rfl⟩)
  have hargs : vs = #[.slice (some ⟨b, 0, none⟩) n cap, .int .i64 i, .slice (some ⟨vb, vo, none⟩) 1 vc] := by
    apply Array.ext
    · simpa using hz
    · intro j hj1 hj2
      have e : ∀ k (hk : k < vs.size), vs.getD k undef = vs[k] := fun k hk => by simp [Array.getD, hk]
      match j, hj2 with
      | 0, _ => rw [e 0 hj1] at hvu; simpa using hvu
      | 1, _ => rw [e 1 hj1] at a1; simpa using a1
      | 2, _ => rw [e 2 hj1] at a2; simpa using a2
  subst hargs
  have hcm : cap ≤ 9223372036854775807 := by unfold maxLen at hcapm; omega
  have hmd : (VR (cx X ρ w) (.arr n 32 f)).m (memL w b) 0 := VR_look _ (fun i _ => look_heap hbk _) hmem
  have hcs : ∀ j v, (listOf (memL w b) 0 (n * 32))[j]? = some v → w.cell? ⟨b, j, none⟩ = some v := fun j v hj => by
    have hlt : j < n * 32 := by have := getElem?_lt hj; simpa [listOf] using this
    have := listOf_get hmd j hlt
    simp only [D.size, Nat.zero_add] at this
    rw [this] at hj; exact hj
  have hcl : (listOf (memL w b) 0 (n * 32)).length = n * 32 := by simp [listOf]
  have hcso : ∀ v ∈ listOf (memL w b) 0 (n * 32), v.oneCell' = true := listOf_one hmd
  have hvl : (listOf (memL w vb) vo 32).length = 32 := by simp [listOf]
  have hvget : ∀ j, j < 32 → (listOf (memL w vb) vo 32)[j]? = memL w vb (vo + j) := fun j hj => by
    have := listOf_get g2 j (by rw [g1]; exact hj)
    rwa [g1] at this
  have hvs : ∀ j v, (listOf (memL w vb) vo 32)[j]? = some v → w.cell? ⟨vb, vo + j, none⟩ = some v := fun j v hj => by
    have hlt : j < 32 := by have := getElem?_lt hj; simpa [listOf] using this
    rw [hvget j hlt] at hj; exact hj
  have hvo : ∀ v ∈ listOf (memL w vb) vo 32, v.oneCell' = true := fun v hv => listOf_one g2 v (by rw [g1]; exact hv)
  have hgm : ∀ y, (cx X ρ w).le y → (VR y (g 0)).m (memL w vb) vo := fun y hle => (VR_le hle _).m _ _ g2
  by_cases hroom : n + 1 ≤ cap
  · -- in place
    have hc32 : (n + 1) * 32 ≤ cur.size := Nat.le_trans (Nat.mul_le_mul_right _ hroom) hcur
    obtain ⟨fz, hfz1, hfz2⟩ := hbk
    have hsb : w.shape? b = some (52, cur.size) := by simp [World.shape?, hfz1]
    have hbk : Cel w b cur 52 := ⟨fz, hfz1, hfz2⟩
    have hfe : w.frozen? ⟨b, cur.size, none⟩ = false := by
      rcases hfz2 with e | ⟨_, e⟩
      · simp only [World.frozen?, hfz1]
        rw [← e]
        simp
      · cases e
    obtain ⟨tA, kA, hsa, hkA⟩ : ∃ tA kA, w.shape? vb = some (tA, kA) ∧ kA ≠ 0 := by
      obtain ⟨v0, e0⟩ : ∃ v0, (listOf (memL w vb) vo 32)[0]? = some v0 := ⟨_, List.getElem?_eq_getElem (by omega)⟩
      have hc := hvs 0 v0 e0
      unfold World.cell? at hc
      split at hc
      · rename_i c e fz' hh'
        refine ⟨e, c.size, by simp [World.shape?, hh'], fun h0 => ?_⟩
        rw [if_neg (by simp)] at hc
        have := (Array.getElem?_eq_some_iff.1 hc).1
        omega
      · cases hc
    refine (insert_shift b n cap i vb vo vc _ _ w hlt hroom hcm hvb hcl hvl hcs (fun j hj => by rw [hbk.cell]; simp; omega) (fun j hj => hbk.fz (by omega)) hvs hcso hvo tA 52 kA cur.size hsa hsb hkA (by omega) hfe).mono ?_
    rintro e w' ⟨rfl, rfl⟩
    have hdl : ((listOf (memL w b) 0 (n * 32)).drop (i * 32)).length = (n - i) * 32 := by rw [List.length_drop, hcl]; omega
    obtain ⟨c1, s1, s2, s3, s4⟩ := setCells_row b 52 ((listOf (memL w b) 0 (n * 32)).drop (i * 32)) ((i + 1) * 32) w.drew cur (cel_drew hbk) (by rw [hdl]; omega)
    obtain ⟨c2, t1, t2, t3, t4⟩ := setCells_row b 52 (listOf (memL w vb) vo 32) (i * 32) _ c1 s1 (by rw [hvl]; omega)
    obtain ⟨o1, o2, o3, o4⟩ := setCells_os b ((listOf (memL w b) 0 (n * 32)).drop (i * 32)) ((i + 1) * 32) w.drew
    obtain ⟨p1, p2, p3, p4⟩ := setCells_os b (listOf (memL w vb) vo 32) (i * 32) (w.drew.setCells b ((i + 1) * 32) ((listOf (memL w b) 0 (n * 32)).drop (i * 32)))
    have hdr : w.drawn ≤ ((w.drew.setCells b ((i + 1) * 32) ((listOf (memL w b) 0 (n * 32)).drop (i * 32))).setCells b (i * 32) (listOf (memL w vb) vo 32)).drawn := by
      rw [setCells_drawn, setCells_drawn]; exact Nat.le_succ _
    have st := hh.move (r := 0) (v := .slice (some ⟨b, 0, none⟩) (n + 1) cap) (row := .seq 52 (n + 1) 32 (.arr (n + 1) 32 (insD f i (g 0)))) (Nat.succ_pos 0) k1 (p1.trans o1) (p2.trans o2) (p3.trans o3) hdr (Nat.le_of_eq (p4.trans o4).symm)
      (fun k _ hk => by
        have hkb : k ≠ b := fun e => hk (by rw [e]; rfl)
        rw [setCells_other b hkb, setCells_other b hkb]; rfl)
      (fun b' e => .inl (by cases e; rfl)) fun y hle hw => ⟨rfl, .inr ⟨b, cap, c2, rfl, by rw [hw]; exact t1, hroom, hcapm, by rw [t2, s2]; exact hcur,
        ins_m hi g1 ((VR_le hle _).m _ _ hmem) (hgm y hle)
          (fun j hj => by show c2[i * 32 + j]? = _; rw [t3 j (by rw [hvl]; exact hj)]; exact hvget j hj)
          (fun j hj => by show c2[j]? = _; rw [t4 j (.inl hj)]; exact s4 j (.inl (by omega)))
          (fun j hj1 hj2 => by
            show c2[j + 32]? = _
            rw [t4 _ (.inr (by rw [hvl]; omega)), show j + 32 = (i + 1) * 32 + (j - i * 32) by omega, s3 _ (by rw [hdl]; omega), List.getElem?_drop, show i * 32 + (j - i * 32) = j by omega]
            have := listOf_get hmd j hj2
            simp only [D.size, Nat.zero_add] at this
            rw [this]; exact look_heap hbk j)⟩⟩
    exact ⟨_, _, rfl, st.2, st.1.mono (fun _ _ => trivial), ⟨_, hset_self (hset ρ 0 none) 1 (some (.slice (some ⟨b, 0, none⟩) (n + 1) cap)), fun u e => .inl (by cases e; rfl)⟩, rfl⟩
  · -- a new row
    obtain ⟨q, z, hq, hz0, hzc, hqp⟩ : ∃ q z, Tryz.prog.info? 52 = some q ∧ q.zero = some z ∧ z.cells.size = 32 ∧ (q.size = 32 ∧ q.bytes = 272) := by
      obtain ⟨i, z, j1, j2, j3, j4, j5⟩ := elemOk_spec (P := Tryz.prog) (e := 52) (q := (32, 272)) (by kernel_rfl)
      simp only [Prod.mk.injEq] at j5
      exact ⟨i, z, j1, j2, j3.trans j5.1.symm, j5.1.symm, j5.2.symm⟩
    refine (insert_grow b n cap i vb vo vc _ _ w hlt hncap (by omega) room.2 hcl hvl hcs hvs hcso hvo q z hq hz0 hqp.1 hqp.2 hzc).mono ?_
    rintro e w' ⟨G, hG, hGm, rfl, rfl⟩
    obtain ⟨ROW, hROW⟩ : ∃ R : Array Value, R = ((listOf (memL w b) 0 (n * 32)).take (i * 32)).toArray ++ Builtin.zeroCells z.cells (n + 1 - i) ++ Builtin.zeroCells z.cells (G - (n + 1)) := ⟨_, rfl⟩
    rw [← hROW]
    have htl : ((listOf (memL w b) 0 (n * 32)).take (i * 32)).length = i * 32 := by rw [List.length_take, hcl]; omega
    have hRs : ROW.size = G * 32 := by
      rw [hROW]
      simp only [size_zeroCells, Array.size_append, List.size_toArray, htl, hzc]
      omega
    have hRt : ∀ j, j < i * 32 → ROW[j]? = memL w b j := fun j hj => by
      rw [hROW, Array.append_assoc, Array.getElem?_append_left (by simp only [List.size_toArray, htl]; exact hj), List.getElem?_toArray, List.getElem?_take_of_lt hj]
      have := listOf_get hmd j (by show j < n * 32; omega)
      simpa [D.size] using this
    have hdl : ((listOf (memL w b) 0 (n * 32)).drop (i * 32)).length = (n - i) * 32 := by rw [List.length_drop, hcl]; omega
    obtain ⟨w', hw', q1, q2, q3, q4, q5, q6, c1, c2, t1, s2, t2, s3, s4, t3, t4⟩ := grow_world w ROW 52 (listOf (memL w vb) vo 32) ((listOf (memL w b) 0 (n * 32)).drop (i * 32)) (i * 32) ((i + 1) * 32) (by rw [hvl]; omega) (by rw [hdl]; omega)
    rw [← hw']
    have st := hh.move (r := 0) (v := .slice (some ⟨w.heap.size, 0, none⟩) (n + 1) G) (row := .seq 52 (n + 1) 32 (.arr (n + 1) 32 (insD f i (g 0)))) (Nat.succ_pos 0) k1 q1 q2 q3 q4 q5
      (fun k hk _ => q6 k hk)
      (fun b' e => by cases e; exact .inr (Nat.le_refl _)) fun y hle hw => ⟨rfl, .inr ⟨w.heap.size, G, c2, rfl, by rw [hw]; exact t1, hG, hGm, by rw [t2, hRs]; exact Nat.le_refl _,
        ins_m hi g1 ((VR_le hle _).m _ _ hmem) (hgm y hle)
          (fun j hj => by show c2[i * 32 + j]? = _; rw [t4 _ (.inl (by omega)), s3 j (by rw [hvl]; exact hj)]; exact hvget j hj)
          (fun j hj => by show c2[j]? = _; rw [t4 j (.inl (by omega)), s4 j (.inl hj), hRt j hj]; exact look_heap hbk j)
          (fun j hj1 hj2 => by
            show c2[j + 32]? = _
            rw [show j + 32 = (i + 1) * 32 + (j - i * 32) by omega, t3 _ (by rw [hdl]; omega), List.getElem?_drop, show i * 32 + (j - i * 32) = j by omega]
            have := listOf_get hmd j hj2
            simp only [D.size, Nat.zero_add] at this
            rw [this]; exact look_heap hbk j)⟩⟩
    exact ⟨_, _, rfl, st.2, st.1.mono (fun _ _ => trivial), ⟨_, hset_self (hset ρ 0 none) 1 (some (.slice (some ⟨w.heap.size, 0, none⟩) (n + 1) G)), fun u e => .inl (by cases e; rfl)⟩, rfl⟩

end Go.Pod
