/- Control. -/
import Derived.Test.YtimnljbphmndoaaGreatDoorExF3
namespace Go.Exe
open Go

/-- Regions that draw their order. -/
def DrawOk (P : Program) (σ : Sig) (N : Nat) (F : Facts) (K : Known) (ih : Run) : Prop :=
  ∀ (id : Nat) (ops : Array Oper) (env : Env) (h : H) (k : Env → H → Out) (r : AV × H) (ρ : Rho) (a : Act) (w : World), drawn P F K ih ops.toList env h k = some r → HR σ N ρ h w → ER σ ρ env a.tmps → (Code.region id ops true).wp P (Reg σ N ρ h w a k r) a w

section
variable {P : Program} {σ : Sig} {N : Nat}

theorem pstep_inScope' {b : Frame} {a : Act} {k : List Item} {cs : List Frame} {w : World} {c : Code} : step P (lone (b.at a (.inScope c :: k)) cs w) = .next (lone (b.at a k) cs w) :=
  step_lone_go (by simp [stepG, stepG.exec, Frame.at])
theorem pstep_scope' {b : Frame} {a : Act} {k : List Item} {cs : List Frame} {w : World} {c : Code} : step P (lone (b.at a (.code (.scope c) :: k)) cs w) = .next (lone (b.at a (.code c :: .inScope c :: k)) cs w) :=
  step_lone_go (by simp [stepG, stepG.exec, Frame.at])

/-- What a run promises, at one place. -/
def Goes (P : Program) (σ : Sig) (N : Nat) (fn : Func) (T : List Item) (h : H) (v : AV) (h' : H) (ρ : Rho) (a : Act) (w : World) (b : Frame) (cs : List Frame) : Prop :=
  ∃ a' w' ρ' T' u, Steps P (lone (b.at a T) cs w) (lone { b.at a' T' with mode := .returning } cs w') ∧ a'.defers = [] ∧ (results fn a'.tmps).run P w' = .ok u w' ∧ HR σ N ρ' h' w' ∧ St ρ h w ρ' h' w' ∧ VR σ ρ' v u

theorem Goes.head {fn : Func} {T T1 : List Item} {h h' : H} {v : AV} {ρ : Rho} {a : Act} {w : World} {b : Frame} {cs : List Frame} (e : step P (lone (b.at a T) cs w) = .next (lone (b.at a T1) cs w)) (g : Goes P σ N fn T1 h v h' ρ a w b cs) : Goes P σ N fn T h v h' ρ a w b cs := by
  obtain ⟨a', w', ρ', T', u, k1, k2⟩ := g
  exact ⟨a', w', ρ', T', u, .head e k1, k2⟩

theorem Goes.fin {F : List Item} {fn : Func} {h h' : H} {v : AV} {ρ : Rho} {a : Act} {w : World} {b : Frame} {cs : List Frame} {env : Env} (e : step P (lone (b.at a F) cs w) = .next (lone { b.at a F with mode := .returning } cs w)) (hf : Exe.fin P fn env h = some (v, h')) (hh : HR σ N ρ h w) (he : ER σ ρ env a.tmps) (hd : a.defers = []) : Goes P σ N fn F h v h' ρ a w b cs := by
  obtain ⟨rfl, u, k1, k2⟩ := fin_ok (P := P) hh he hf
  exact ⟨a, w, ρ, F, u, .one e, hd, k2, hh, St.refl _ _ _, k1⟩

theorem Goes.region {fn : Func} {ih : Run} (hr : RunOk P σ N ih) {c : Code} {T : List Item} {h h' : H} {v : AV} {ρ : Rho} {a : Act} {w : World} (hd : a.defers = []) (g : c.wp P (Reg σ N ρ h w a (fun env h => ih fn T env h) (v, h')) a w) (b : Frame) (cs : List Frame) : Goes P σ N fn (.code c :: T) h v h' ρ a w b cs := by
  obtain ⟨e, a1, w1, ⟨rfl, ρ1, env1, h1, k1, k2, k3, k4, k5⟩, harr⟩ := g b T cs
  obtain ⟨a', w', ρ', T', u, q1, q2, q3, q4, q5, q6⟩ := hr fn T env1 h1 v h' k1 ρ1 a1 w1 b cs k2 k4 (k5.trans hd)
  exact ⟨a', w', ρ', T', u, Steps.trans harr q1, q2, q3, q4, k3.trans q5, q6⟩

theorem onBool_t {R : Type} {x : Option AV} {p q : Option R} {r : R} (e : onBool x p q = some r) : ∃ b, x = some (.bool b) ∧ (if b then p else q) = some r := by
  obtain ⟨y, h1, h2⟩ := bnd_some.1 e
  subst h1
  split at h2
  · rename_i b
    refine ⟨b, rfl, ?_⟩
    cases b <;> exact h2
  · cases h2

end
end Go.Exe
