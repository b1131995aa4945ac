/-
  No cell of these rows narrows 'for every input' (looked for: loops, veiled, ifaces, maps, wideKeys, modest, calm, conditions, laid).
  DERIVED. THE GIVEN ROWS OF THIS SEAT. 3 by the template 'for every input the law returns true; each argument reads behind the call as it read before'; 0 by the template 'total and deterministic' (their statements: YtbggcjkpjmnbaaaGreatTotals.lean).
  GIVEN WITH THE SEED: the statements are not yours to turn. If you find one false, say at which input.
  Laid BY PROGRAM, IN A SANDBOX (cutbox-rows.mjs): the forced cells as the released guide's own fill.sh prints them over the translation 1d06fb262a91f772… (all of the seat's roots in one cut). By AI agents, Wed Nov 11 2026. No macro, syntax, notation, axiom, sorry.
-/
import Derived.Test.YtbggcjkpjmnbaaaGreatChecked
import GoSem.Claim
import GoSem.ClaimJoined
import GoSem.ClaimMapViews
import Derived.JoinedTies
import Derived.KernelRfl
namespace Go.Proofs.YtbggcjkpjmnbaaaGreat
/- THE CELL 'sum', in the pinned program and in every row, IS THE sha256 OF THE DUMP (.gsa) THAT YtbggcjkpjmnbaaaGreatProg.lean LOADS. Nothing in Lean hashes anything: it is a label: what it is worth is what the hold of that sum in a sandbox is worth. -/
noncomputable def Tryz.pinned : Pinned := { name := "ytbggcjkpjmnbaaagreat", sum := "1d06fb262a91f77218a5fe22b6714ad55b21f66425db2102206e2ffa9452e5dc", checked := Tryz.checked }
namespace Rows
def none {H : Type} : Left H := { results := [], args := [] }

/-- 'podestalaw22.ShadowBack': WHATEVER THE INPUT: true; the input reads as it did. -/
def shadowBackSpec : ChangeSpec := { name := "shadowBack", fn := fun _ => fun
  | [d1, d2, d3] => { results := [.lit (.bool true)], args := [d1, d2, d3] }
  | _ => none }
def shadowBackRow : OpenClaim := { program := "ytbggcjkpjmnbaaagreat", sum := "1d06fb262a91f77218a5fe22b6714ad55b21f66425db2102206e2ffa9452e5dc", func := "podesta/podestalaw22.ShadowBack", spec := "shadowBack", inPlace := ["slices.overlaps[podesta/api.Rule]"], unfollowed := true, recurses := true, apart := false }
def ShadowBackSaid : Prop := shadowBackRow.holds Tryz.pinned (OpenSpec.ofChange shadowBackSpec)

/-- ITS FALSE NEIGHBOUR: 'it returns false'. Refute it at one input. -/
def shadowBackWrong : ChangeSpec := { name := "shadowBack", fn := fun _ => fun
  | [d1, d2, d3] => { results := [.lit (.bool false)], args := [d1, d2, d3] }
  | _ => none }
def ShadowBackWrongFalsely : Prop := shadowBackRow.holds Tryz.pinned (OpenSpec.ofChange shadowBackWrong)

/-- 'podestalaw22.ShadowSteps': WHATEVER THE INPUT: true; the input reads as it did. -/
def shadowStepsSpec : ChangeSpec := { name := "shadowSteps", fn := fun _ => fun
  | [d] => { results := [.lit (.bool true)], args := [d] }
  | _ => none }
def shadowStepsRow : OpenClaim := { program := "ytbggcjkpjmnbaaagreat", sum := "1d06fb262a91f77218a5fe22b6714ad55b21f66425db2102206e2ffa9452e5dc", func := "podesta/podestalaw22.ShadowSteps", spec := "shadowSteps", inPlace := ["slices.overlaps[podesta/api.Rule]"], unfollowed := true, recurses := true, apart := false }
def ShadowStepsSaid : Prop := shadowStepsRow.holds Tryz.pinned (OpenSpec.ofChange shadowStepsSpec)

/-- ITS FALSE NEIGHBOUR: 'it returns false'. Refute it at one input. -/
def shadowStepsWrong : ChangeSpec := { name := "shadowSteps", fn := fun _ => fun
  | [d] => { results := [.lit (.bool false)], args := [d] }
  | _ => none }
def ShadowStepsWrongFalsely : Prop := shadowStepsRow.holds Tryz.pinned (OpenSpec.ofChange shadowStepsWrong)

/-- 'podestalaw22.ShadowPlays': WHATEVER THE INPUT: true; the input reads as it did. -/
def shadowPlaysSpec : ChangeSpec := { name := "shadowPlays", fn := fun _ => fun
  | [d1, d2] => { results := [.lit (.bool true)], args := [d1, d2] }
  | _ => none }
def shadowPlaysRow : OpenClaim := { program := "ytbggcjkpjmnbaaagreat", sum := "1d06fb262a91f77218a5fe22b6714ad55b21f66425db2102206e2ffa9452e5dc", func := "podesta/podestalaw22.ShadowPlays", spec := "shadowPlays", inPlace := ["slices.overlaps[podesta/api.Rule]"], unfollowed := true, recurses := true, apart := false }
def ShadowPlaysSaid : Prop := shadowPlaysRow.holds Tryz.pinned (OpenSpec.ofChange shadowPlaysSpec)

/-- ITS FALSE NEIGHBOUR: 'it returns false'. Refute it at one input. -/
def shadowPlaysWrong : ChangeSpec := { name := "shadowPlays", fn := fun _ => fun
  | [d1, d2] => { results := [.lit (.bool false)], args := [d1, d2] }
  | _ => none }
def ShadowPlaysWrongFalsely : Prop := shadowPlaysRow.holds Tryz.pinned (OpenSpec.ofChange shadowPlaysWrong)

/- THE SECOND FORM. 'bulk': how many values and letters a reading holds, each counted each time it is reached (what is shared counts as often as it is met; a slice's spare places count too). A statement '..UptoSaid' is the law's where the arguments, and the package variables that the reading takes, are together of bulk at most 1048576: NARROWER than '..Said'. Prove '..Said' where nothing that the law and all that it calls make is longer than what came in: it says more and counts as full. Else prove '..UptoSaid'. A law counts once. -/
mutual
def uptoBulk {H : Type} : DataW H → Nat
  | .lit (.string bytes) => bytes.length + 1
  | .lit _ => 1
  | .nil => 1
  | .ptr d => uptoBulk d + 1
  | .slice elems spare => uptoBulkAll elems + uptoBulkAll spare + 1
  | .agg parts => uptoBulkAll parts + 1
  | .iface _ d => uptoBulk d + 1
  | .map entries => uptoBulkEntries entries + 1
  | .held _ => 1
def uptoBulkAll {H : Type} : List (DataW H) → Nat
  | [] => 0
  | d :: r => uptoBulk d + uptoBulkAll r
def uptoBulkEntries {H : Type} : List (Lit × DataW H) → Nat
  | [] => 0
  | x :: r => uptoBulkEntry x + uptoBulkEntries r
def uptoBulkEntry {H : Type} : Lit × DataW H → Nat
  | (.string bytes, d) => bytes.length + uptoBulk d + 1
  | (_, d) => uptoBulk d + 1
 end
def uptoSmall : (H : Type) → List (DataW H) → Bool := fun _ ds => decide (uptoBulkAll ds ≤ 1048576)
def OpenSpec.upto (s : _root_.Go.ChangeSpec) : _root_.Go.OpenSpec := { _root_.Go.OpenSpec.ofChange s with cond := some uptoSmall }

/-- 'podestalaw22.ShadowBack', WHERE WHAT IT READS IS OF BULK AT MOST 1048576: true; the input reads as it did. -/
def shadowBackUptoRow : OpenClaim := { program := "ytbggcjkpjmnbaaagreat", sum := "1d06fb262a91f77218a5fe22b6714ad55b21f66425db2102206e2ffa9452e5dc", func := "podesta/podestalaw22.ShadowBack", spec := "shadowBack", inPlace := ["slices.overlaps[podesta/api.Rule]"], unfollowed := true, recurses := true, apart := false, narrowed := true }
def ShadowBackUptoSaid : Prop := shadowBackUptoRow.holds Tryz.pinned (OpenSpec.upto shadowBackSpec)

/-- 'podestalaw22.ShadowSteps', WHERE WHAT IT READS IS OF BULK AT MOST 1048576: true; the input reads as it did. -/
def shadowStepsUptoRow : OpenClaim := { program := "ytbggcjkpjmnbaaagreat", sum := "1d06fb262a91f77218a5fe22b6714ad55b21f66425db2102206e2ffa9452e5dc", func := "podesta/podestalaw22.ShadowSteps", spec := "shadowSteps", inPlace := ["slices.overlaps[podesta/api.Rule]"], unfollowed := true, recurses := true, apart := false, narrowed := true }
def ShadowStepsUptoSaid : Prop := shadowStepsUptoRow.holds Tryz.pinned (OpenSpec.upto shadowStepsSpec)

/-- 'podestalaw22.ShadowPlays', WHERE WHAT IT READS IS OF BULK AT MOST 1048576: true; the input reads as it did. -/
def shadowPlaysUptoRow : OpenClaim := { program := "ytbggcjkpjmnbaaagreat", sum := "1d06fb262a91f77218a5fe22b6714ad55b21f66425db2102206e2ffa9452e5dc", func := "podesta/podestalaw22.ShadowPlays", spec := "shadowPlays", inPlace := ["slices.overlaps[podesta/api.Rule]"], unfollowed := true, recurses := true, apart := false, narrowed := true }
def ShadowPlaysUptoSaid : Prop := shadowPlaysUptoRow.holds Tryz.pinned (OpenSpec.upto shadowPlaysSpec)

end Rows
end Go.Proofs.YtbggcjkpjmnbaaaGreat
