/- 'CtrlTells': what is known of the law's numbers. -/
import Derived.Test.YtaojcchakhjgoaaGreatDoorCtlS
namespace Go.Exe.Ctl
open Go Go.Exe Go.Proofs
noncomputable def bitV (b : Bool) : Option AV := some (.int .u8 (.ofNat (Bool.rec 0 1 b)))
/-- The bits; who owns the rule: o, or none of 1, 2, 3 if o is 0. -/
noncomputable def FT (b1 b2 b3 : Bool) (o : Nat) : Facts := ⟨fun op x y => match op, x, y with
  | .shr, .sym s, .int .u64 (.ofNat i) => ite' (Nat.beq s 0) (ite' (Nat.ble i 3) (force (Nat.add 102 i) fun j => some (.sym j)))
  | .and, .sym s, .int .u8 (.ofNat m) => ite' (Nat.beq m 1) (Bool.rec (Bool.rec (ite' (Nat.beq s 105) (bitV b3)) (bitV b2) (Nat.beq s 104)) (bitV b1) (Nat.beq s 103))
  | .eql, .sym s, .int .i64 n => ite' (Nat.beq s 1) (ite' (ile 1 n) (ite' (ile n 3) (some (.bool (ieq n (.ofNat o))))))
  | _, _, _ => none, fun _ _ _ => none⟩
noncomputable def tells (b1 b2 b3 : Bool) (o : Nat) (es : Nat → Nat) : Out := call Tryz.prog (FT b1 b2 b3 o) K2 100000 5 [.sym 0, .sym 1, .agg (symL 12 2)] (gmem 100 es G)

/-- The globals at first, and what stays open; three places more. -/
theorem start2 {l : List Value} (hn : l.length ≤ 100) {w : World} {a b : Addr} (t : List Value) {e0 e1 : TypeId} {fz0 fz1 : Nat × Nat} (h0 : w.heap[0]? = some (.cells #[.iface 339 (.pointer (some a))] e0 fz0)) (h1 : w.heap[1]? = some (.cells #[.iface 339 (.pointer (some b))] e1 fz1)) :
    ∃ es σ, σ = sigL (l ++ (List.replicate (100 - l.length) (.bool false) ++ .pointer (some a) :: .pointer (some b) :: t)) ∧ HR σ 6 (rho0 6 w) (gmem 100 es G) w ∧ ∀ r row, (gmem 100 es G).get r = some row → wrOf row = false := by
  refine ⟨fun r => if r = 0 then e0 else e1, _, rfl, ?_⟩
  have len : (l ++ List.replicate (100 - l.length) (Value.bool false)).length = 100 := by simp; omega
  have s0 : ∀ ρ, VR (sigL (l ++ (List.replicate (100 - l.length) (.bool false) ++ .pointer (some a) :: .pointer (some b) :: t))) ρ (.sym 100) (.pointer (some a)) := fun ρ => one_sym (pre := l ++ List.replicate (100 - l.length) (.bool false)) (post := .pointer (some b) :: t) (by simp) len
  have s1 : ∀ ρ, VR (sigL (l ++ (List.replicate (100 - l.length) (.bool false) ++ .pointer (some a) :: .pointer (some b) :: t))) ρ (.sym 101) (.pointer (some b)) := fun ρ => one_sym (pre := l ++ List.replicate (100 - l.length) (.bool false) ++ [.pointer (some a)]) (post := t) (by simp) (by rw [List.length_append, len]; rfl)
  unfold gmem
  refine HR.starts (by decide) fun r e c h => ?_
  simp only [G, List.map_cons, List.map_nil, List.mem_cons, List.not_mem_nil, or_false, Prod.mk.injEq] at h
  rcases h with ⟨rfl, rfl, rfl⟩ | ⟨rfl, rfl, rfl⟩
  · exact ⟨by decide, rfl, _, fz0, fun ρ => ⟨_, rfl, s0 ρ⟩, h0⟩
  · exact ⟨by decide, rfl, _, fz1, fun ρ => ⟨_, rfl, s1 ρ⟩, h1⟩
end Go.Exe.Ctl
