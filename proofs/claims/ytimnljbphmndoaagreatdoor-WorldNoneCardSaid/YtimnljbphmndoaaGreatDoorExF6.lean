/- Control, whole. -/
import Derived.Test.YtimnljbphmndoaaGreatDoorExF5
namespace Go.Exe
open Go

section
variable {P : Program} {σ : Sig} {N : Nat}

theorem go_ok {F : Facts} (hF : FactsOk P σ F) {K : Known} (hK : KOk P σ N K) {ih : Run} (hr : RunOk P σ N ih) (hD : DrawOk P σ N F K ih) (hσ : ∀ i, (σ i).oneCell' = true) (hN : N = P.globals.size) : RunOk P σ N (go P F K ih) := by
  intro fn T env h v h' e ρ a w b cs hh he hd
  have next : ∀ {T1 : List Item}, ih fn T1 env h = some (v, h') → Goes P σ N fn T1 h v h' ρ a w b cs := fun e => hr fn _ env h v h' e ρ a w b cs hh he hd
  show Goes P σ N fn T h v h' ρ a w b cs
  match T, e with
  | [], e => exact Goes.fin step_end e hh he hd
  | .inBlock _ :: k, e => exact .head step_inBlock (next e)
  | .inScope _ :: k, e => exact .head pstep_inScope' (next e)
  | .inLoop _ :: k, e => exact .head step_inLoop (next e)
  | .inRegion _ _ :: k, e => exact nomatch e
  | .code c :: k, e =>
    have e : goCode P F K ih fn c k env h = some (v, h') := e
    match c, e with
    | .skip, e => exact .head step_skip (next e)
    | .label _, e => exact .head step_label (next e)
    | .seq _ _, e => exact .head step_seq (next e)
    | .cond c x y, e =>
      obtain ⟨t, h1, h2⟩ := onBool_t (show onBool (opd P c env) (ih fn (.code x :: k) env h) (ih fn (.code y :: k) env h) = some (v, h') from e)
      have hv : a.eval c = .bool t := opd_ok (fun g hgl => hh.glob g (hN ▸ hgl)) he h1
      refine .head (step_cond hv) (next ?_)
      cases t <;> exact h2
    | .block _ _, e => exact .head step_block (next e)
    | .loop bd, e =>
      have e : Option.rec (motive := fun _ => Out) (ih fn (.code bd :: .inLoop bd :: k) env h) (fun x => x) (mapLoop P F K ih fn bd k env h) = some (v, h') := e
      cases hm : mapLoop P F K ih fn bd k env h with
      | none => rw [hm] at e; exact .head step_loop (next e)
      | some out => rw [hm] at e; exact mapLoop_ok hF hK hr hσ hN hm e hh he hd b cs
    | .scope _, e => exact .head pstep_scope' (next e)
    | .exit id, e =>
      obtain ⟨k', h1, h2⟩ := bnd_some.1 (show bnd (exitTo id k) (fun k => ih fn k env h) = some (v, h') from e)
      exact .head (step_exit h1) (next h2)
    | .goto l, e =>
      obtain ⟨k', h1, h2⟩ := bnd_some.1 (show bnd (gotoIn l k) (fun k => ih fn k env h) = some (v, h') from e)
      exact .head (step_goto h1) (next h2)
    | .ret, e => exact Goes.fin step_ret e hh he hd
    | .region id ops dr, e =>
      cases dr with
      | false =>
        have e : Option.rec (motive := fun _ => Out) (region P F K ih ops.toList ops.toList env h fun env h => ih fn k env h) (fun x => x) (selReg P F K ih fn ops k env h) = some (v, h') := e
        cases hm : selReg P F K ih fn ops k env h with
        | none => rw [hm] at e; exact Goes.region hr hd (wp_region_list (region_ok hF hK hr hσ hN ops.toList env h ρ a w e hh (St.refl _ _ _) he rfl)) b cs
        | some out => rw [hm] at e; exact selReg_ok hF hK hr hσ hN hm e hh he hd b cs
      | true => exact Goes.region hr hd (hD id ops env h _ _ ρ a w e hh he) b cs
    | .rangeFunc .., e => exact nomatch e
    | .refuse _, e => exact nomatch e

theorem run_ok {F : Facts} (hF : FactsOk P σ F) {K : Known} (hK : KOk P σ N K) (hD : ∀ ih, RunOk P σ N ih → DrawOk P σ N F K ih) (hσ : ∀ i, (σ i).oneCell' = true) (hN : N = P.globals.size) : ∀ n, RunOk P σ N (run P F K n)
  | 0 => fun _ _ _ _ _ _ e => nomatch e
  | n + 1 => go_ok hF hK (run_ok hF hK hD hσ hN n) (hD _ (run_ok hF hK hD hσ hN n)) hσ hN
end
end Go.Exe
