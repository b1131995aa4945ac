/-
  No cell of these rows narrows 'for every input' (looked for: loops, veiled, ifaces, maps, wideKeys, modest, calm, conditions, laid).
  DERIVED. THE GIVEN ROWS OF THIS SEAT. 3 by the template 'for every input the law returns true; each argument reads behind the call as it read before'; 0 by the template 'total and deterministic' (their statements: YtffkolbogcpjjaaTotals.lean).
  GIVEN WITH THE SEED: the statements are not yours to turn. If you find one false, say at which input.
  Laid BY PROGRAM, IN A SANDBOX (cutbox-rows.mjs): the forced cells as the released guide's own fill.sh prints them over the translation 71eaffb0546268a8… (all of the seat's roots in one cut). By AI agents, Wed Nov 11 2026. No macro, syntax, notation, axiom, sorry.
-/
import Derived.Test.YtffkolbogcpjjaaChecked
import GoSem.Claim
import GoSem.ClaimJoined
import GoSem.ClaimMapViews
import Derived.JoinedTies
import Derived.KernelRfl
namespace Go.Proofs.Ytffkolbogcpjjaa
/- THE CELL 'sum', in the pinned program and in every row, IS THE sha256 OF THE DUMP (.gsa) THAT YtffkolbogcpjjaaProg.lean LOADS. Nothing in Lean hashes anything: it is a label: what it is worth is what the hold of that sum in a sandbox is worth. -/
noncomputable def Try.pinned : Pinned := { name := "ytffkolbogcpjjaa", sum := "71eaffb0546268a8ecd0f2a8d20276ab8091645879273f7b9bc0d27f86e0b2fc", checked := Try.checked }
namespace Rows
def none {H : Type} : Left H := { results := [], args := [] }

/-- 'podestalaw19.RegionTouch': WHATEVER THE INPUT: true; the input reads as it did. -/
def regionTouchSpec : ChangeSpec := { name := "regionTouch", fn := fun _ => fun
  | [d1, d2, d3, d4] => { results := [.lit (.bool true)], args := [d1, d2, d3, d4] }
  | _ => none }
def regionTouchRow : OpenClaim := { program := "ytffkolbogcpjjaa", sum := "71eaffb0546268a8ecd0f2a8d20276ab8091645879273f7b9bc0d27f86e0b2fc", func := "podesta/podestalaw19.RegionTouch", spec := "regionTouch", unfollowed := true, recurses := true, apart := false }
def RegionTouchSaid : Prop := regionTouchRow.holds Try.pinned (OpenSpec.ofChange regionTouchSpec)

/-- ITS FALSE NEIGHBOUR: 'it returns false'. Refute it at one input. -/
def regionTouchWrong : ChangeSpec := { name := "regionTouch", fn := fun _ => fun
  | [d1, d2, d3, d4] => { results := [.lit (.bool false)], args := [d1, d2, d3, d4] }
  | _ => none }
def RegionTouchWrongFalsely : Prop := regionTouchRow.holds Try.pinned (OpenSpec.ofChange regionTouchWrong)

/-- 'podestalaw19.RegionHolds': WHATEVER THE INPUT: true; the input reads as it did. -/
def regionHoldsSpec : ChangeSpec := { name := "regionHolds", fn := fun _ => fun
  | [d1, d2] => { results := [.lit (.bool true)], args := [d1, d2] }
  | _ => none }
def regionHoldsRow : OpenClaim := { program := "ytffkolbogcpjjaa", sum := "71eaffb0546268a8ecd0f2a8d20276ab8091645879273f7b9bc0d27f86e0b2fc", func := "podesta/podestalaw19.RegionHolds", spec := "regionHolds", unfollowed := true, recurses := true, apart := false }
def RegionHoldsSaid : Prop := regionHoldsRow.holds Try.pinned (OpenSpec.ofChange regionHoldsSpec)

/-- ITS FALSE NEIGHBOUR: 'it returns false'. Refute it at one input. -/
def regionHoldsWrong : ChangeSpec := { name := "regionHolds", fn := fun _ => fun
  | [d1, d2] => { results := [.lit (.bool false)], args := [d1, d2] }
  | _ => none }
def RegionHoldsWrongFalsely : Prop := regionHoldsRow.holds Try.pinned (OpenSpec.ofChange regionHoldsWrong)

/-- 'podestalaw19.RegionOf': WHATEVER THE INPUT: true; the input reads as it did. -/
def regionOfSpec : ChangeSpec := { name := "regionOf", fn := fun _ => fun
  | [d1, d2] => { results := [.lit (.bool true)], args := [d1, d2] }
  | _ => none }
def regionOfRow : OpenClaim := { program := "ytffkolbogcpjjaa", sum := "71eaffb0546268a8ecd0f2a8d20276ab8091645879273f7b9bc0d27f86e0b2fc", func := "podesta/podestalaw19.RegionOf", spec := "regionOf", unfollowed := true, recurses := true, apart := false }
def RegionOfSaid : Prop := regionOfRow.holds Try.pinned (OpenSpec.ofChange regionOfSpec)

/-- ITS FALSE NEIGHBOUR: 'it returns false'. Refute it at one input. -/
def regionOfWrong : ChangeSpec := { name := "regionOf", fn := fun _ => fun
  | [d1, d2] => { results := [.lit (.bool false)], args := [d1, d2] }
  | _ => none }
def RegionOfWrongFalsely : Prop := regionOfRow.holds Try.pinned (OpenSpec.ofChange regionOfWrong)

/- THE SECOND FORM. 'bulk': how many values and letters a reading holds, each counted each time it is reached (what is shared counts as often as it is met; a slice's spare places count too). A statement '..UptoSaid' is the law's where the arguments, and the package variables that the reading takes, are together of bulk at most 1048576: NARROWER than '..Said'. Prove '..Said' where nothing that the law and all that it calls make is longer than what came in: it says more and counts as full. Else prove '..UptoSaid'. A law counts once. -/
mutual
def uptoBulk {H : Type} : DataW H → Nat
  | .lit (.string bytes) => bytes.length + 1
  | .lit _ => 1
  | .nil => 1
  | .ptr d => uptoBulk d + 1
  | .slice elems spare => uptoBulkAll elems + uptoBulkAll spare + 1
  | .agg parts => uptoBulkAll parts + 1
  | .iface _ d => uptoBulk d + 1
  | .map entries => uptoBulkEntries entries + 1
  | .held _ => 1
def uptoBulkAll {H : Type} : List (DataW H) → Nat
  | [] => 0
  | d :: r => uptoBulk d + uptoBulkAll r
def uptoBulkEntries {H : Type} : List (Lit × DataW H) → Nat
  | [] => 0
  | x :: r => uptoBulkEntry x + uptoBulkEntries r
def uptoBulkEntry {H : Type} : Lit × DataW H → Nat
  | (.string bytes, d) => bytes.length + uptoBulk d + 1
  | (_, d) => uptoBulk d + 1
 end
def uptoSmall : (H : Type) → List (DataW H) → Bool := fun _ ds => decide (uptoBulkAll ds ≤ 1048576)
def OpenSpec.upto (s : _root_.Go.ChangeSpec) : _root_.Go.OpenSpec := { _root_.Go.OpenSpec.ofChange s with cond := some uptoSmall }

/-- 'podestalaw19.RegionTouch', WHERE WHAT IT READS IS OF BULK AT MOST 1048576: true; the input reads as it did. -/
def regionTouchUptoRow : OpenClaim := { program := "ytffkolbogcpjjaa", sum := "71eaffb0546268a8ecd0f2a8d20276ab8091645879273f7b9bc0d27f86e0b2fc", func := "podesta/podestalaw19.RegionTouch", spec := "regionTouch", unfollowed := true, recurses := true, apart := false, narrowed := true }
def RegionTouchUptoSaid : Prop := regionTouchUptoRow.holds Try.pinned (OpenSpec.upto regionTouchSpec)

/-- 'podestalaw19.RegionHolds', WHERE WHAT IT READS IS OF BULK AT MOST 1048576: true; the input reads as it did. -/
def regionHoldsUptoRow : OpenClaim := { program := "ytffkolbogcpjjaa", sum := "71eaffb0546268a8ecd0f2a8d20276ab8091645879273f7b9bc0d27f86e0b2fc", func := "podesta/podestalaw19.RegionHolds", spec := "regionHolds", unfollowed := true, recurses := true, apart := false, narrowed := true }
def RegionHoldsUptoSaid : Prop := regionHoldsUptoRow.holds Try.pinned (OpenSpec.upto regionHoldsSpec)

/-- 'podestalaw19.RegionOf', WHERE WHAT IT READS IS OF BULK AT MOST 1048576: true; the input reads as it did. -/
def regionOfUptoRow : OpenClaim := { program := "ytffkolbogcpjjaa", sum := "71eaffb0546268a8ecd0f2a8d20276ab8091645879273f7b9bc0d27f86e0b2fc", func := "podesta/podestalaw19.RegionOf", spec := "regionOf", unfollowed := true, recurses := true, apart := false, narrowed := true }
def RegionOfUptoSaid : Prop := regionOfUptoRow.holds Try.pinned (OpenSpec.upto regionOfSpec)

end Rows
end Go.Proofs.Ytffkolbogcpjjaa
