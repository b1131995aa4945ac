/- 'slices.Sorted(maps.Keys(live))', by the shelf's contracts, known to the machine. -/
import Derived.Test.YtflmelafomlllaaGreatTxmShelf
import Derived.Test.YtflmelafomlllaaGreatTxmE0
import Derived.Test.YtflmelafomlllaaGreatTxmE1
import Derived.Test.YtflmelafomlllaaGreatTxmJ0a
import Derived.Test.YtflmelafomlllaaGreatTxmJ1a
import Derived.Test.YtflmelafomlllaaGreatTxmJ2a
import Derived.Test.YtflmelafomlllaaGreatTxmJ3a
import Derived.Test.YtflmelafomlllaaGreatTxmJ4a
import Derived.Test.YtflmelafomlllaaGreatTxmJ4b
import Derived.Test.YtflmelafomlllaaGreatTxmJ5a
import Derived.Test.YtflmelafomlllaaGreatTxmJ5b
import Derived.Test.YtflmelafomlllaaGreatTxmJ6a
import Derived.Test.YtflmelafomlllaaGreatTxmJ6b
import Derived.Test.YtflmelafomlllaaGreatTxmJ6c
import Derived.Test.YtflmelafomlllaaGreatTxmJ7a
import Derived.Test.YtflmelafomlllaaGreatTxmJ7b
import Derived.Test.YtflmelafomlllaaGreatTxmJ7c
import Derived.Test.YtflmelafomlllaaGreatTxmJ8a
import Derived.Test.YtflmelafomlllaaGreatTxmJ8b
import Derived.Test.YtflmelafomlllaaGreatTxmJ8c
import Derived.Test.YtflmelafomlllaaGreatTxmJ8d
import Derived.Test.YtflmelafomlllaaGreatTxmR
import Derived.Test.YtflmelafomlllaaGreatTxmP
import Derived.Test.YtflmelafomlllaaGreatTxmA
import Derived.Test.YtflmelafomlllaaGreatExQ
import Derived.CallsIn
namespace Go.Proofs
open Go Go.RowKit Go.Maps Go.Sort Go.Shelf

theorem Tryz.sortsA (m : Nat) : AnyZI.SortsIn Tryz.prog Tryz.sortedA_ren Fence.wide m :=
  ⟨fun blk off cap ss W hH hblk hsz => callsIn_wide.2 (AnyM.slices_Sort_int Tryz.sortA blk off cap ss W hH hblk hsz),
   fun p cap W => callsIn_wide.2 (AnyM.slices_Sort_int_none Tryz.sortA p cap W)⟩

theorem Tryz.keysCall (b : Nat) (W : World) : Calls Tryz.prog 23 #[.map (some b)] W fun e w' => e = .returned (.func (.func 54) #[] #[.pointer (some ⟨W.heap.size, 0, none⟩)]) ∧ w' = W.alloc (.cells #[.map (some b)] 47) :=
  (callsIn_wide (n := 5)).1 (AnyZI.keys_in Tryz.keysA Fence.wide 5 trivial rfl (some b) W)

theorem Tryz.sortedCall (Bm b nn : Nat) (D0 : DataW Unit) (R : Value → Option (DataW Unit × List MemPlace)) (w : World) (hBm : Bm < w.heap.size) (hm : w.cell? ⟨Bm, 0, none⟩ = some (.map (some b))) (hown : w.ownsMap Tryz.prog 3 R b nn D0) (hmax : Maps.size D0 ≤ maxLen) (hbytes : Maps.size D0 * 8 ≤ 140737488355328) :
    Calls Tryz.prog 22 #[.func (.func 54) #[] #[.pointer (some ⟨Bm, 0, none⟩)]] w fun e w' => ∃ (v : Value) (ss : List Int), e = .returned v ∧ ss.Perm (intKeys D0) ∧ w'.ownsRow w.heap.size 3 1 v ss.length ((ss.mergeSort (fun x y => decide (x ≤ y))).map encZ) ∧ (v = .slice none 0 0 ↔ ss = []) ∧ Below w.heap.size w w' := by
  have hseq : SeqGives Fence.wide 2 Tryz.prog 54 #[.pointer (some ⟨Bm, 0, none⟩)] encZ (fun ss => ss.Perm (intKeys D0)) (Maps.size D0) w :=
    AnyZI.keys_gives (ρ := Tryz.keysA_ren) { Tryz.keysA with } Fence.wide _ trivial rfl (by omega) Bm b nn D0 _ hBm hm hown
  exact (callsIn_wide (n := 5)).1 (AnyZI.sorted_in Tryz.sortedA Fence.wide 5 trivial trivial trivial trivial rfl (by omega) (Tryz.sortsA _) (enters_of Tryz.func45 (by kernel_rfl) rfl) 54 #[.pointer (some ⟨Bm, 0, none⟩)] trivial (enters_of Tryz.func54 (by kernel_rfl) rfl) _ _ hmax hbytes _ hseq)
end Go.Proofs
namespace Go.Exe.Txm
open Go Go.Exe Go.Proofs
set_option maxRecDepth 100000
theorem keys {σ : Sig} {N : Nat} : KOk1 Tryz.prog σ N 23 (keysO 54) := kok1_keys Tryz.func23 rfl (by kernel_rfl) Tryz.keysCall
set_option maxRecDepth 100000 in
theorem sorted {σ : Sig} {N : Nat} : KOk1 Tryz.prog σ N 22 (sortedO 54 3) := kok1_sorted Tryz.underlying3 Tryz.func22 rfl (by kernel_rfl) Tryz.sortedCall
theorem known0 {σ : Sig} {N : Nat} : KOk Tryz.prog σ N (kn L0) :=
  kok_list fun i g h => by
    simp only [L0, List.mem_cons, List.not_mem_nil, or_false, Prod.mk.injEq] at h
    rcases h with ⟨rfl, rfl⟩ | ⟨rfl, rfl⟩
    · exact sorted
    · exact keys
theorem memo {σ : Sig} (hσ : ∀ i, (σ i).oneCell' = true) {f : Nat} (tab : List Ent) (ev : ∀ e ∈ tab, did f e = true) : KOk1 Tryz.prog σ Tryz.prog.globals.size f (memoO tab) :=
  kok1_memo (F := F0) (K := kn L0) facts_none known0 hσ rfl tab ev
theorem known55 {σ : Sig} (hσ : ∀ i, (σ i).oneCell' = true) {t a : List Ent} (ht : ∀ e ∈ t, did 116 e = true) (ha : ∀ e ∈ a, did 117 e = true) : KOk Tryz.prog σ Tryz.prog.globals.size (kn (L55 t a)) :=
  kok_list fun i g h => by
    simp only [L55, List.mem_cons, List.not_mem_nil, or_false, Prod.mk.injEq] at h
    rcases h with ⟨rfl, rfl⟩ | ⟨rfl, rfl⟩ | ⟨rfl, rfl⟩ | ⟨rfl, rfl⟩
    · exact memo hσ _ ht
    · exact memo hσ _ ha
    · exact sorted
    · exact keys
theorem memo55 {σ : Sig} (hσ : ∀ i, (σ i).oneCell' = true) {t a : List Ent} (ht : ∀ e ∈ t, did 116 e = true) (ha : ∀ e ∈ a, did 117 e = true) {tab : List Ent} (ev : ∀ e ∈ tab, did55 t a e = true) : KOk1 Tryz.prog σ Tryz.prog.globals.size 55 (memoO tab) :=
  kok1_memo (F := F0) (K := kn (L55 t a)) facts_none (known55 hσ ht ha) hσ rfl tab ev
theorem known9 {σ : Sig} {t : List Ent} (h5 : KOk1 Tryz.prog σ Tryz.prog.globals.size 55 (memoO t)) : KOk Tryz.prog σ Tryz.prog.globals.size (kn (L9 t)) :=
  kok_list fun i g h => by
    simp only [L9, List.mem_cons, List.not_mem_nil, or_false, Prod.mk.injEq] at h
    rcases h with ⟨rfl, rfl⟩ | ⟨rfl, rfl⟩ | ⟨rfl, rfl⟩
    · exact h5
    · exact sorted
    · exact keys
theorem memo9 {σ : Sig} (hσ : ∀ i, (σ i).oneCell' = true) {t : List Ent} (h5 : KOk1 Tryz.prog σ Tryz.prog.globals.size 55 (memoO t)) {e : Ent} (he : did9 t e = true) : KOk1 Tryz.prog σ Tryz.prog.globals.size 24 (memoO [e]) :=
  kok1_memo (F := F0) (K := kn (L9 t)) facts_none (known9 h5) hσ rfl [e] fun x hx => by
    cases List.mem_singleton.1 hx
    exact he
theorem memo_app {σ : Sig} {N f : Nat} {a : Ent} {b : List Ent} (ha : KOk1 Tryz.prog σ N f (memoO [a])) (hb : KOk1 Tryz.prog σ N f (memoO b)) : KOk1 Tryz.prog σ N f (memoO (a :: b)) := by
  intro args h v h' e
  obtain ⟨x, y, z, w⟩ := a
  have e' : Bool.rec (motive := fun _ => Out) (memoO b args h) (some (z, w)) (both (sameG (sameA 6) args x) (subH y h)) = some (v, h') := e
  cases hq : both (sameG (sameA 6) args x) (subH y h) with
  | false => rw [hq] at e'; exact hb args h v h' e'
  | true =>
    rw [hq] at e'
    refine ha args h v h' ?_
    show Bool.rec (motive := fun _ => Out) none (some (z, w)) (both (sameG (sameA 6) args x) (subH y h)) = some (v, h')
    rw [hq]; exact e'
theorem memo_nil {σ : Sig} {N f : Nat} : KOk1 Tryz.prog σ N f (memoO []) := fun _ _ _ _ e => nomatch e
theorem all5 : ∀ e ∈ tab5, did 5 e = true := fun e h => by
  simp only [tab5, List.mem_cons, List.not_mem_nil, or_false] at h
  rcases h with rfl | rfl | rfl | rfl | rfl | rfl | rfl | rfl | rfl | rfl | rfl
  · exact r5_0
  · exact r5_1
  · exact r5_2
  · exact r5_3
  · exact r5_4
  · exact r5_5
  · exact r5_6
  · exact r5_7
  · exact r5_8
  · exact r5_9
  · exact r5_10
theorem all116_0 : ∀ e ∈ tab116_0, did 116 e = true := fun e h => by cases h
theorem all117_0 : ∀ e ∈ tab117_0, did 117 e = true := fun e h => by cases h
theorem all55_0 : ∀ e ∈ tab55_0, did55 tab116_0 tab117_0 e = true := fun e h => by cases h
theorem all116_1 : ∀ e ∈ tab116_1, did 116 e = true := fun e h => by
  simp only [tab116_1, List.mem_cons, List.not_mem_nil, or_false] at h
  subst h
  exact r116_1_0
theorem all117_1 : ∀ e ∈ tab117_1, did 117 e = true := fun e h => by
  simp only [tab117_1, List.mem_cons, List.not_mem_nil, or_false] at h
  subst h
  exact r117_1_0
theorem all55_1 : ∀ e ∈ tab55_1, did55 tab116_1 tab117_1 e = true := fun e h => by
  simp only [tab55_1, List.mem_cons, List.not_mem_nil, or_false] at h
  subst h
  exact r55_1_0
theorem all116_2 : ∀ e ∈ tab116_2, did 116 e = true := fun e h => by
  simp only [tab116_2, List.mem_cons, List.not_mem_nil, or_false] at h
  rcases h with rfl | rfl
  · exact r116_2_0
  · exact r116_2_1
theorem all117_2 : ∀ e ∈ tab117_2, did 117 e = true := fun e h => by
  simp only [tab117_2, List.mem_cons, List.not_mem_nil, or_false] at h
  rcases h with rfl | rfl
  · exact r117_2_0
  · exact r117_2_1
theorem all55_2 : ∀ e ∈ tab55_2, did55 tab116_2 tab117_2 e = true := fun e h => by
  simp only [tab55_2, List.mem_cons, List.not_mem_nil, or_false] at h
  rcases h with rfl | rfl
  · exact r55_2_0
  · exact r55_2_1
theorem all116_3 : ∀ e ∈ tab116_3, did 116 e = true := fun e h => by
  simp only [tab116_3, List.mem_cons, List.not_mem_nil, or_false] at h
  rcases h with rfl | rfl | rfl
  · exact r116_3_0
  · exact r116_3_1
  · exact r116_3_2
theorem all117_3 : ∀ e ∈ tab117_3, did 117 e = true := fun e h => by
  simp only [tab117_3, List.mem_cons, List.not_mem_nil, or_false] at h
  rcases h with rfl | rfl | rfl
  · exact r117_3_0
  · exact r117_3_1
  · exact r117_3_2
theorem all55_3 : ∀ e ∈ tab55_3, did55 tab116_3 tab117_3 e = true := fun e h => by
  simp only [tab55_3, List.mem_cons, List.not_mem_nil, or_false] at h
  rcases h with rfl | rfl | rfl
  · exact r55_3_0
  · exact r55_3_1
  · exact r55_3_2
theorem all116_4 : ∀ e ∈ tab116_4, did 116 e = true := fun e h => by
  simp only [tab116_4, List.mem_cons, List.not_mem_nil, or_false] at h
  rcases h with rfl | rfl | rfl | rfl
  · exact r116_4_0
  · exact r116_4_1
  · exact r116_4_2
  · exact r116_4_3
theorem all117_4 : ∀ e ∈ tab117_4, did 117 e = true := fun e h => by
  simp only [tab117_4, List.mem_cons, List.not_mem_nil, or_false] at h
  rcases h with rfl | rfl | rfl | rfl
  · exact r117_4_0
  · exact r117_4_1
  · exact r117_4_2
  · exact r117_4_3
theorem all55_4 : ∀ e ∈ tab55_4, did55 tab116_4 tab117_4 e = true := fun e h => by
  simp only [tab55_4, List.mem_cons, List.not_mem_nil, or_false] at h
  rcases h with rfl | rfl | rfl | rfl
  · exact r55_4_0
  · exact r55_4_1
  · exact r55_4_2
  · exact r55_4_3
theorem all116_5 : ∀ e ∈ tab116_5, did 116 e = true := fun e h => by
  simp only [tab116_5, List.mem_cons, List.not_mem_nil, or_false] at h
  rcases h with rfl | rfl | rfl | rfl | rfl
  · exact r116_5_0
  · exact r116_5_1
  · exact r116_5_2
  · exact r116_5_3
  · exact r116_5_4
theorem all117_5 : ∀ e ∈ tab117_5, did 117 e = true := fun e h => by
  simp only [tab117_5, List.mem_cons, List.not_mem_nil, or_false] at h
  rcases h with rfl | rfl | rfl | rfl | rfl
  · exact r117_5_0
  · exact r117_5_1
  · exact r117_5_2
  · exact r117_5_3
  · exact r117_5_4
theorem all55_5 : ∀ e ∈ tab55_5, did55 tab116_5 tab117_5 e = true := fun e h => by
  simp only [tab55_5, List.mem_cons, List.not_mem_nil, or_false] at h
  rcases h with rfl | rfl | rfl | rfl | rfl
  · exact r55_5_0
  · exact r55_5_1
  · exact r55_5_2
  · exact r55_5_3
  · exact r55_5_4
theorem all116_6 : ∀ e ∈ tab116_6, did 116 e = true := fun e h => by
  simp only [tab116_6, List.mem_cons, List.not_mem_nil, or_false] at h
  rcases h with rfl | rfl | rfl | rfl | rfl | rfl
  · exact r116_6_0
  · exact r116_6_1
  · exact r116_6_2
  · exact r116_6_3
  · exact r116_6_4
  · exact r116_6_5
theorem all117_6 : ∀ e ∈ tab117_6, did 117 e = true := fun e h => by
  simp only [tab117_6, List.mem_cons, List.not_mem_nil, or_false] at h
  rcases h with rfl | rfl | rfl | rfl | rfl | rfl
  · exact r117_6_0
  · exact r117_6_1
  · exact r117_6_2
  · exact r117_6_3
  · exact r117_6_4
  · exact r117_6_5
theorem all55_6 : ∀ e ∈ tab55_6, did55 tab116_6 tab117_6 e = true := fun e h => by
  simp only [tab55_6, List.mem_cons, List.not_mem_nil, or_false] at h
  rcases h with rfl | rfl | rfl | rfl | rfl | rfl
  · exact r55_6_0
  · exact r55_6_1
  · exact r55_6_2
  · exact r55_6_3
  · exact r55_6_4
  · exact r55_6_5
theorem all116_7 : ∀ e ∈ tab116_7, did 116 e = true := fun e h => by
  simp only [tab116_7, List.mem_cons, List.not_mem_nil, or_false] at h
  rcases h with rfl | rfl | rfl | rfl | rfl | rfl | rfl
  · exact r116_7_0
  · exact r116_7_1
  · exact r116_7_2
  · exact r116_7_3
  · exact r116_7_4
  · exact r116_7_5
  · exact r116_7_6
theorem all117_7 : ∀ e ∈ tab117_7, did 117 e = true := fun e h => by
  simp only [tab117_7, List.mem_cons, List.not_mem_nil, or_false] at h
  rcases h with rfl | rfl | rfl | rfl | rfl | rfl | rfl
  · exact r117_7_0
  · exact r117_7_1
  · exact r117_7_2
  · exact r117_7_3
  · exact r117_7_4
  · exact r117_7_5
  · exact r117_7_6
theorem all55_7 : ∀ e ∈ tab55_7, did55 tab116_7 tab117_7 e = true := fun e h => by
  simp only [tab55_7, List.mem_cons, List.not_mem_nil, or_false] at h
  rcases h with rfl | rfl | rfl | rfl | rfl | rfl | rfl
  · exact r55_7_0
  · exact r55_7_1
  · exact r55_7_2
  · exact r55_7_3
  · exact r55_7_4
  · exact r55_7_5
  · exact r55_7_6
theorem all116_8 : ∀ e ∈ tab116_8, did 116 e = true := fun e h => by
  simp only [tab116_8, List.mem_cons, List.not_mem_nil, or_false] at h
  rcases h with rfl | rfl | rfl | rfl | rfl | rfl | rfl | rfl
  · exact r116_8_0
  · exact r116_8_1
  · exact r116_8_2
  · exact r116_8_3
  · exact r116_8_4
  · exact r116_8_5
  · exact r116_8_6
  · exact r116_8_7
theorem all117_8 : ∀ e ∈ tab117_8, did 117 e = true := fun e h => by
  simp only [tab117_8, List.mem_cons, List.not_mem_nil, or_false] at h
  rcases h with rfl | rfl | rfl | rfl | rfl | rfl | rfl | rfl
  · exact r117_8_0
  · exact r117_8_1
  · exact r117_8_2
  · exact r117_8_3
  · exact r117_8_4
  · exact r117_8_5
  · exact r117_8_6
  · exact r117_8_7
theorem all55_8 : ∀ e ∈ tab55_8, did55 tab116_8 tab117_8 e = true := fun e h => by
  simp only [tab55_8, List.mem_cons, List.not_mem_nil, or_false] at h
  rcases h with rfl | rfl | rfl | rfl | rfl | rfl | rfl | rfl
  · exact r55_8_0
  · exact r55_8_1
  · exact r55_8_2
  · exact r55_8_3
  · exact r55_8_4
  · exact r55_8_5
  · exact r55_8_6
  · exact r55_8_7
theorem shadows {σ : Sig} (hσ : ∀ i, (σ i).oneCell' = true) : KOk1 Tryz.prog σ Tryz.prog.globals.size 24 (memoO tab9) :=
  memo_app (memo9 hσ (memo55 hσ all116_0 all117_0 all55_0) r9_0) (memo_app (memo9 hσ (memo55 hσ all116_1 all117_1 all55_1) r9_1) (memo_app (memo9 hσ (memo55 hσ all116_2 all117_2 all55_2) r9_2) (memo_app (memo9 hσ (memo55 hσ all116_3 all117_3 all55_3) r9_3) (memo_app (memo9 hσ (memo55 hσ all116_4 all117_4 all55_4) r9_4) (memo_app (memo9 hσ (memo55 hσ all116_5 all117_5 all55_5) r9_5) (memo_app (memo9 hσ (memo55 hσ all116_6 all117_6 all55_6) r9_6) (memo_app (memo9 hσ (memo55 hσ all116_7 all117_7 all55_7) r9_7) (memo_app (memo9 hσ (memo55 hσ all116_8 all117_8 all55_8) r9_8) memo_nil))))))))
set_option maxRecDepth 100000 in
theorem pure1 {σ : Sig} (hσ : ∀ i, (σ i).oneCell' = true) : KOk1 Tryz.prog σ Tryz.prog.globals.size 6 (pureO Tryz.prog.globals.size [] [([], .bool true)]) := by
  refine kok1_pure (F := F0) (K := kn L0) facts_none known0 hσ rfl (n := 100000) rfl (nx := 100) (Nat.le_of_ble_eq_true (by kernel_rfl)) Tryz.func6 rfl ?_ ?_ fun args v h es => ?_
  · kernel_rfl
  · kernel_rfl
  · cases List.mem_singleton.1 h
    exact ans es
theorem known1 {σ : Sig} (hσ : ∀ i, (σ i).oneCell' = true) : KOk Tryz.prog σ Tryz.prog.globals.size (kn L1) :=
  kok_list fun i g h => by
    simp only [L1, List.mem_cons, List.not_mem_nil, or_false, Prod.mk.injEq] at h
    rcases h with ⟨rfl, rfl⟩ | ⟨rfl, rfl⟩ | ⟨rfl, rfl⟩ | ⟨rfl, rfl⟩ | ⟨rfl, rfl⟩
    · exact memo hσ _ all5
    · exact shadows hσ
    · exact pure1 hσ
    · exact sorted
    · exact keys
theorem ev (i : Nat) (hi : i < 12) : isT (many i) = true := by
  match i, hi with
  | 0, _ => exact many0
  | 1, _ => exact many1
  | 2, _ => exact many2
  | 3, _ => exact many3
  | 4, _ => exact many4
  | 5, _ => exact many5
  | 6, _ => exact many6
  | 7, _ => exact many7
  | 8, _ => exact many8
  | 9, _ => exact many9
  | 10, _ => exact many10
  | 11, _ => exact many11
  | i + 12, h => omega
end Go.Exe.Txm
