/- 'slices.Sorted(maps.Keys(live))', by the shelf's contracts, known to the machine. -/
import Derived.Test.YtimnljbphmndoaaGreatDoorWorShelf
import Derived.Test.YtimnljbphmndoaaGreatDoorWorA
import Derived.Test.YtimnljbphmndoaaGreatDoorExQ
import Derived.CallsIn
namespace Go.Proofs
open Go Go.RowKit Go.Maps Go.Sort Go.Shelf

theorem Tryz.sortsA (m : Nat) : AnyZI.SortsIn Tryz.prog Tryz.sortedA_ren Fence.wide m :=
  ⟨fun blk off cap ss W hH hblk hsz => callsIn_wide.2 (AnyM.slices_Sort_int Tryz.sortA blk off cap ss W hH hblk hsz),
   fun p cap W => callsIn_wide.2 (AnyM.slices_Sort_int_none Tryz.sortA p cap W)⟩

theorem Tryz.keysCall (b : Nat) (W : World) : Calls Tryz.prog 70 #[.map (some b)] W fun e w' => e = .returned (.func (.func 103) #[] #[.pointer (some ⟨W.heap.size, 0, none⟩)]) ∧ w' = W.alloc (.cells #[.map (some b)] 135) :=
  (callsIn_wide (n := 5)).1 (AnyZI.keys_in Tryz.keysA Fence.wide 5 trivial rfl (some b) W)

theorem Tryz.sortedCall (Bm b nn : Nat) (D0 : DataW Unit) (R : Value → Option (DataW Unit × List MemPlace)) (w : World) (hBm : Bm < w.heap.size) (hm : w.cell? ⟨Bm, 0, none⟩ = some (.map (some b))) (hown : w.ownsMap Tryz.prog 3 R b nn D0) (hmax : Maps.size D0 ≤ maxLen) (hbytes : Maps.size D0 * 8 ≤ 140737488355328) :
    Calls Tryz.prog 65 #[.func (.func 103) #[] #[.pointer (some ⟨Bm, 0, none⟩)]] w fun e w' => ∃ (v : Value) (ss : List Int), e = .returned v ∧ ss.Perm (intKeys D0) ∧ w'.ownsRow w.heap.size 3 1 v ss.length ((ss.mergeSort (fun x y => decide (x ≤ y))).map encZ) ∧ (v = .slice none 0 0 ↔ ss = []) ∧ Below w.heap.size w w' := by
  have hseq : SeqGives Fence.wide 2 Tryz.prog 103 #[.pointer (some ⟨Bm, 0, none⟩)] encZ (fun ss => ss.Perm (intKeys D0)) (Maps.size D0) w :=
    AnyZI.keys_gives (ρ := Tryz.keysA_ren) { Tryz.keysA with } Fence.wide _ trivial rfl (by omega) Bm b nn D0 _ hBm hm hown
  exact (callsIn_wide (n := 5)).1 (AnyZI.sorted_in Tryz.sortedA Fence.wide 5 trivial trivial trivial trivial rfl (by omega) (Tryz.sortsA _) (enters_of Tryz.func97 (by kernel_rfl) rfl) 103 #[.pointer (some ⟨Bm, 0, none⟩)] trivial (enters_of Tryz.func103 (by kernel_rfl) rfl) _ _ hmax hbytes _ hseq)
end Go.Proofs
namespace Go.Exe.Wor
open Go Go.Exe Go.Proofs
set_option maxRecDepth 100000 in
set_option maxHeartbeats 4000000 in
theorem idx {σ : Sig} {N : Nat} : KOk1 Tryz.prog σ N 369 idxByteO := by
  refine kok1_index Tryz.func369 ?_ ?_ ?_ ?_ <;> kernel_rfl
set_option maxRecDepth 100000 in
theorem keys {σ : Sig} {N : Nat} : KOk1 Tryz.prog σ N 70 (keysO 103) := kok1_keys Tryz.func70 rfl (by kernel_rfl) Tryz.keysCall
set_option maxRecDepth 100000 in
theorem sorted {σ : Sig} {N : Nat} : KOk1 Tryz.prog σ N 65 (sortedO 103 3) := kok1_sorted Tryz.underlying3 Tryz.func65 rfl (by kernel_rfl) Tryz.sortedCall
set_option maxRecDepth 100000 in
theorem known0 {σ : Sig} {N : Nat} : KOk Tryz.prog σ N K0 :=
  kok_list fun i g h => by
    simp only [List.mem_cons, List.not_mem_nil, or_false, Prod.mk.injEq] at h
    rcases h with ⟨rfl, rfl⟩ | ⟨rfl, rfl⟩ | ⟨rfl, rfl⟩
    · exact idx
    · exact keys
    · exact sorted
set_option maxRecDepth 100000 in
theorem pure1 {σ : Sig} (hσ : ∀ i, (σ i).oneCell' = true) : KOk1 Tryz.prog σ 6 5 (pureO 6 G [([], .bool true)]) := by
  refine kok1_pure (F := F0) (K := K0) facts_none known0 hσ ?_ (n := 100000) ?_ (nx := 100) (by decide) Tryz.func5 rfl ?_ ?_ fun args v h es => ?_
  · kernel_rfl
  · kernel_rfl
  · kernel_rfl
  · kernel_rfl
  · cases List.mem_singleton.1 h
    exact ans es
set_option maxRecDepth 100000 in
theorem known1 {σ : Sig} (hσ : ∀ i, (σ i).oneCell' = true) : KOk Tryz.prog σ 6 K1 :=
  kok_list fun i g h => by
    simp only [List.mem_cons, List.not_mem_nil, or_false, Prod.mk.injEq] at h
    rcases h with ⟨rfl, rfl⟩ | ⟨rfl, rfl⟩ | ⟨rfl, rfl⟩ | ⟨rfl, rfl⟩
    · exact idx
    · exact keys
    · exact sorted
    · exact pure1 hσ
/-- The globals at first, and what stays open. -/
theorem start {l : List Value} (hn : l.length ≤ 100) {w : World} {a b : Addr} {e0 e1 : TypeId} {fz0 fz1 : Nat × Nat} (h0 : w.heap[0]? = some (.cells #[.iface 463 (.pointer (some a))] e0 fz0)) (h1 : w.heap[1]? = some (.cells #[.iface 463 (.pointer (some b))] e1 fz1)) :
    ∃ es σ, σ = sigL (l ++ (List.replicate (100 - l.length) (.bool false) ++ [.pointer (some a), .pointer (some b)])) ∧ HR σ 6 (rho0 6 w) (gmem 100 es G) w ∧ ∀ r row, (gmem 100 es G).get r = some row → wrOf row = false := by
  refine ⟨fun r => if r = 0 then e0 else e1, _, rfl, ?_⟩
  have len : (l ++ List.replicate (100 - l.length) (Value.bool false)).length = 100 := by simp; omega
  have s0 : ∀ ρ, VR (sigL (l ++ (List.replicate (100 - l.length) (.bool false) ++ [.pointer (some a), .pointer (some b)]))) ρ (.sym 100) (.pointer (some a)) := fun ρ => one_sym (pre := l ++ List.replicate (100 - l.length) (.bool false)) (post := [.pointer (some b)]) (by simp) len
  have s1 : ∀ ρ, VR (sigL (l ++ (List.replicate (100 - l.length) (.bool false) ++ [.pointer (some a), .pointer (some b)]))) ρ (.sym 101) (.pointer (some b)) := fun ρ => one_sym (pre := l ++ List.replicate (100 - l.length) (.bool false) ++ [.pointer (some a)]) (post := []) (by simp) (by rw [List.length_append, len]; rfl)
  unfold gmem
  refine HR.starts (by decide) fun r e c h => ?_
  simp only [G, List.map_cons, List.map_nil, List.mem_cons, List.not_mem_nil, or_false, Prod.mk.injEq] at h
  rcases h with ⟨rfl, rfl, rfl⟩ | ⟨rfl, rfl, rfl⟩
  · exact ⟨by decide, rfl, _, fz0, fun ρ => ⟨_, rfl, s0 ρ⟩, h0⟩
  · exact ⟨by decide, rfl, _, fz1, fun ρ => ⟨_, rfl, s1 ρ⟩, h1⟩
end Go.Exe.Wor
