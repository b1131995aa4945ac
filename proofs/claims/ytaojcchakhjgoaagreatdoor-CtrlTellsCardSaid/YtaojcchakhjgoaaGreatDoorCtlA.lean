/- Layer 24's laws: what the kernel's runs share. 'answers' is run once. -/
import Derived.Test.YtaojcchakhjgoaaGreatDoorProg
import Derived.Test.YtaojcchakhjgoaaGreatDoorExO
namespace Go.Exe.Ctl
open Go Go.Exe Go.Proofs
noncomputable def F0 : Facts := ⟨fun _ _ _ => none, fun _ _ _ => none⟩
noncomputable def G : List (Nat × AV) := [(0, .ifc 339 (.sym 100)), (1, .ifc 339 (.sym 101))]
noncomputable def K0 : Known := kn [(266, idxByteO)]
noncomputable def K1 : Known := kn [(266, idxByteO), (16, pureO 6 G [([], .bool true)])]
theorem ans (es : Nat → Nat) : gives (call Tryz.prog F0 K0 100000 16 [] (gmem 100 es G)) (.bool true) = true := by kernel_rfl

set_option maxRecDepth 100000 in
theorem known0 {σ : Sig} {N : Nat} : KOk Tryz.prog σ N K0 :=
  kok_list fun i g h => by
    cases List.mem_singleton.1 h
    exact kok1_index Tryz.func266 (by kernel_rfl) (by kernel_rfl) (by kernel_rfl) (by kernel_rfl)
set_option maxRecDepth 100000 in
theorem known1 {σ : Sig} (hσ : ∀ i, (σ i).oneCell' = true) : KOk Tryz.prog σ 6 K1 :=
  kok_list fun i g h => by
    simp only [List.mem_cons, List.not_mem_nil, or_false, Prod.mk.injEq] at h
    rcases h with ⟨rfl, rfl⟩ | ⟨rfl, rfl⟩
    · exact kok1_index Tryz.func266 (by kernel_rfl) (by kernel_rfl) (by kernel_rfl) (by kernel_rfl)
    · exact kok1_pure (F := F0) (K := K0) facts_none known0 hσ (by kernel_rfl) (n := 100000) (by kernel_rfl) (nx := 100) (by decide) Tryz.func16 rfl (by kernel_rfl) (by kernel_rfl) fun args v h es => by
        cases List.mem_singleton.1 h
        exact ans es

/-- The globals at first, and what stays open. -/
theorem start {l : List Value} (hn : l.length ≤ 100) {w : World} {a b : Addr} {e0 e1 : TypeId} {fz0 fz1 : Nat × Nat} (h0 : w.heap[0]? = some (.cells #[.iface 339 (.pointer (some a))] e0 fz0)) (h1 : w.heap[1]? = some (.cells #[.iface 339 (.pointer (some b))] e1 fz1)) :
    ∃ es σ, σ = sigL (l ++ (List.replicate (100 - l.length) (.bool false) ++ [.pointer (some a), .pointer (some b)])) ∧ HR σ 6 (rho0 6 w) (gmem 100 es G) w ∧ ∀ r row, (gmem 100 es G).get r = some row → wrOf row = false := by
  refine ⟨fun r => if r = 0 then e0 else e1, _, rfl, ?_⟩
  have len : (l ++ List.replicate (100 - l.length) (Value.bool false)).length = 100 := by simp; omega
  have s0 : ∀ ρ, VR (sigL (l ++ (List.replicate (100 - l.length) (.bool false) ++ [.pointer (some a), .pointer (some b)]))) ρ (.sym 100) (.pointer (some a)) := fun ρ => one_sym (pre := l ++ List.replicate (100 - l.length) (.bool false)) (post := [.pointer (some b)]) (by simp) len
  have s1 : ∀ ρ, VR (sigL (l ++ (List.replicate (100 - l.length) (.bool false) ++ [.pointer (some a), .pointer (some b)]))) ρ (.sym 101) (.pointer (some b)) := fun ρ => one_sym (pre := l ++ List.replicate (100 - l.length) (.bool false) ++ [.pointer (some a)]) (post := []) (by simp) (by rw [List.length_append, len]; rfl)
  unfold gmem
  refine HR.starts (by decide) fun r e c h => ?_
  simp only [G, List.map_cons, List.map_nil, List.mem_cons, List.not_mem_nil, or_false, Prod.mk.injEq] at h
  rcases h with ⟨rfl, rfl, rfl⟩ | ⟨rfl, rfl, rfl⟩
  · exact ⟨by decide, rfl, _, fz0, fun ρ => ⟨_, rfl, s0 ρ⟩, h0⟩
  · exact ⟨by decide, rfl, _, fz1, fun ρ => ⟨_, rfl, s1 ρ⟩, h1⟩
end Go.Exe.Ctl
