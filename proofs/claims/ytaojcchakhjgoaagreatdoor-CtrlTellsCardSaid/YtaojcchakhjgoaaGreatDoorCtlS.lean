/- 'slices.Sorted(maps.Keys(apps))', by the shelf's contracts, known to the machine. -/
import Derived.Test.YtaojcchakhjgoaaGreatDoorCtlShelf
import Derived.Test.YtaojcchakhjgoaaGreatDoorCtlA
import Derived.Test.YtaojcchakhjgoaaGreatDoorExQ
import Derived.CallsIn
namespace Go.Proofs
open Go Go.RowKit Go.Maps Go.Sort Go.Shelf

theorem Tryz.sortsA (m : Nat) : AnyZI.SortsIn Tryz.prog Tryz.sortedA_ren Fence.wide m :=
  ⟨fun blk off cap ss W hH hblk hsz => callsIn_wide.2 (AnyM.slices_Sort_int Tryz.sortA blk off cap ss W hH hblk hsz),
   fun p cap W => callsIn_wide.2 (AnyM.slices_Sort_int_none Tryz.sortA p cap W)⟩

theorem Tryz.keysCall (b : Nat) (W : World) : Calls Tryz.prog 50 #[.map (some b)] W fun e w' => e = .returned (.func (.func 95) #[] #[.pointer (some ⟨W.heap.size, 0, none⟩)]) ∧ w' = W.alloc (.cells #[.map (some b)] 89) :=
  (callsIn_wide (n := 5)).1 (AnyZI.keys_in Tryz.keysA Fence.wide 5 trivial rfl (some b) W)

theorem Tryz.sortedCall (Bm b nn : Nat) (D0 : DataW Unit) (R : Value → Option (DataW Unit × List MemPlace)) (w : World) (hBm : Bm < w.heap.size) (hm : w.cell? ⟨Bm, 0, none⟩ = some (.map (some b))) (hown : w.ownsMap Tryz.prog 3 R b nn D0) (hmax : Maps.size D0 ≤ maxLen) (hbytes : Maps.size D0 * 8 ≤ 140737488355328) :
    Calls Tryz.prog 49 #[.func (.func 95) #[] #[.pointer (some ⟨Bm, 0, none⟩)]] w fun e w' => ∃ (v : Value) (ss : List Int), e = .returned v ∧ ss.Perm (intKeys D0) ∧ w'.ownsRow w.heap.size 3 1 v ss.length ((ss.mergeSort (fun x y => decide (x ≤ y))).map encZ) ∧ (v = .slice none 0 0 ↔ ss = []) ∧ Below w.heap.size w w' := by
  have hseq : SeqGives Fence.wide 2 Tryz.prog 95 #[.pointer (some ⟨Bm, 0, none⟩)] encZ (fun ss => ss.Perm (intKeys D0)) (Maps.size D0) w :=
    AnyZI.keys_gives (ρ := Tryz.keysA_ren) { Tryz.keysA with } Fence.wide _ trivial rfl (by omega) Bm b nn D0 _ hBm hm hown
  exact (callsIn_wide (n := 5)).1 (AnyZI.sorted_in Tryz.sortedA Fence.wide 5 trivial trivial trivial trivial rfl (by omega) (Tryz.sortsA _) (enters_of Tryz.func94 (by kernel_rfl) rfl) 95 #[.pointer (some ⟨Bm, 0, none⟩)] trivial (enters_of Tryz.func95 (by kernel_rfl) rfl) _ _ hmax hbytes _ hseq)
end Go.Proofs
namespace Go.Exe.Ctl
open Go Go.Exe Go.Proofs
noncomputable def K2 : Known := kn [(266, idxByteO), (16, pureO 6 G [([], .bool true)]), (50, keysO 95), (49, sortedO 95 3)]
set_option maxRecDepth 100000 in
theorem known2 {σ : Sig} (hσ : ∀ i, (σ i).oneCell' = true) : KOk Tryz.prog σ 6 K2 :=
  kok_list fun i g h => by
    simp only [List.mem_cons, List.not_mem_nil, or_false, Prod.mk.injEq] at h
    rcases h with ⟨rfl, rfl⟩ | ⟨rfl, rfl⟩ | ⟨rfl, rfl⟩ | ⟨rfl, rfl⟩
    · exact kok1_index Tryz.func266 (by kernel_rfl) (by kernel_rfl) (by kernel_rfl) (by kernel_rfl)
    · exact kok1_pure (F := F0) (K := K0) facts_none known0 hσ (by kernel_rfl) (n := 100000) (by kernel_rfl) (nx := 100) (by decide) Tryz.func16 rfl (by kernel_rfl) (by kernel_rfl) fun args v h es => by
        cases List.mem_singleton.1 h
        exact ans es
    · exact kok1_keys Tryz.func50 rfl (by kernel_rfl) Tryz.keysCall
    · exact kok1_sorted Tryz.underlying3 Tryz.func49 rfl (by kernel_rfl) Tryz.sortedCall
end Go.Exe.Ctl
