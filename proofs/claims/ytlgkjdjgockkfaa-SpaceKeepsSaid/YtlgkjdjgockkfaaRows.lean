/-
  No cell of these rows narrows 'for every input' (looked for: loops, veiled, ifaces, maps, wideKeys, modest, calm, conditions, laid).
  DERIVED. THE GIVEN ROWS OF THIS SEAT. 7 by the template 'for every input the law returns true; each argument reads behind the call as it read before'; 0 by the template 'total and deterministic' (their statements: YtlgkjdjgockkfaaTotals.lean).
  GIVEN WITH THE SEED: the statements are not yours to turn. If you find one false, say at which input.
  Laid BY PROGRAM, IN A SANDBOX (cutbox-rows.mjs): the forced cells as the released guide's own fill.sh prints them over the translation a9b1988ad1471891… (all of the seat's roots in one cut). By AI agents, Wed Nov 11 2026. No macro, syntax, notation, axiom, sorry.
-/
import Derived.Test.YtlgkjdjgockkfaaChecked
import GoSem.Claim
import GoSem.ClaimJoined
import GoSem.ClaimMapViews
import Derived.JoinedTies
import Derived.KernelRfl
namespace Go.Proofs.Ytlgkjdjgockkfaa
/- THE CELL 'sum', in the pinned program and in every row, IS THE sha256 OF THE DUMP (.gsa) THAT YtlgkjdjgockkfaaProg.lean LOADS. Nothing in Lean hashes anything: it is a label: what it is worth is what the hold of that sum in a sandbox is worth. -/
noncomputable def Try.pinned : Pinned := { name := "ytlgkjdjgockkfaa", sum := "a9b1988ad14718911eb35cb6aff50fef624db491ad9c206626c57842677ddffa", checked := Try.checked }
namespace Rows
def none {H : Type} : Left H := { results := [], args := [] }

/-- 'podestalaw10.FrameNone': WHATEVER THE INPUT: true; the input reads as it did. -/
def frameNoneSpec : ChangeSpec := { name := "frameNone", fn := fun _ => fun
  | [d] => { results := [.lit (.bool true)], args := [d] }
  | _ => none }
def frameNoneRow : OpenClaim := { program := "ytlgkjdjgockkfaa", sum := "a9b1988ad14718911eb35cb6aff50fef624db491ad9c206626c57842677ddffa", func := "podesta/podestalaw10.FrameNone", spec := "frameNone", apart := false }
def FrameNoneSaid : Prop := frameNoneRow.holds Try.pinned (OpenSpec.ofChange frameNoneSpec)

/-- ITS FALSE NEIGHBOUR: 'it returns false'. Refute it at one input. -/
def frameNoneWrong : ChangeSpec := { name := "frameNone", fn := fun _ => fun
  | [d] => { results := [.lit (.bool false)], args := [d] }
  | _ => none }
def FrameNoneWrongFalsely : Prop := frameNoneRow.holds Try.pinned (OpenSpec.ofChange frameNoneWrong)

/-- 'podestalaw10.FrameWraps': WHATEVER THE INPUT: true; the input reads as it did. -/
def frameWrapsSpec : ChangeSpec := { name := "frameWraps", fn := fun _ => fun
  | [d] => { results := [.lit (.bool true)], args := [d] }
  | _ => none }
def frameWrapsRow : OpenClaim := { program := "ytlgkjdjgockkfaa", sum := "a9b1988ad14718911eb35cb6aff50fef624db491ad9c206626c57842677ddffa", func := "podesta/podestalaw10.FrameWraps", spec := "frameWraps", apart := false }
def FrameWrapsSaid : Prop := frameWrapsRow.holds Try.pinned (OpenSpec.ofChange frameWrapsSpec)

/-- ITS FALSE NEIGHBOUR: 'it returns false'. Refute it at one input. -/
def frameWrapsWrong : ChangeSpec := { name := "frameWraps", fn := fun _ => fun
  | [d] => { results := [.lit (.bool false)], args := [d] }
  | _ => none }
def FrameWrapsWrongFalsely : Prop := frameWrapsRow.holds Try.pinned (OpenSpec.ofChange frameWrapsWrong)

/-- 'podestalaw10.FrameList': WHATEVER THE INPUT: true; the input reads as it did. -/
def frameListSpec : ChangeSpec := { name := "frameList", fn := fun _ => fun
  | [d] => { results := [.lit (.bool true)], args := [d] }
  | _ => none }
def frameListRow : OpenClaim := { program := "ytlgkjdjgockkfaa", sum := "a9b1988ad14718911eb35cb6aff50fef624db491ad9c206626c57842677ddffa", func := "podesta/podestalaw10.FrameList", spec := "frameList", apart := false }
def FrameListSaid : Prop := frameListRow.holds Try.pinned (OpenSpec.ofChange frameListSpec)

/-- ITS FALSE NEIGHBOUR: 'it returns false'. Refute it at one input. -/
def frameListWrong : ChangeSpec := { name := "frameList", fn := fun _ => fun
  | [d] => { results := [.lit (.bool false)], args := [d] }
  | _ => none }
def FrameListWrongFalsely : Prop := frameListRow.holds Try.pinned (OpenSpec.ofChange frameListWrong)

/-- 'podestalaw03.SpaceIs': WHATEVER THE INPUT: true; the input reads as it did. -/
def spaceIsSpec : ChangeSpec := { name := "spaceIs", fn := fun _ => fun
  | [d1, d2] => { results := [.lit (.bool true)], args := [d1, d2] }
  | _ => none }
def spaceIsRow : OpenClaim := { program := "ytlgkjdjgockkfaa", sum := "a9b1988ad14718911eb35cb6aff50fef624db491ad9c206626c57842677ddffa", func := "podesta/podestalaw03.SpaceIs", spec := "spaceIs", unfollowed := true, recurses := true, apart := false }
def SpaceIsSaid : Prop := spaceIsRow.holds Try.pinned (OpenSpec.ofChange spaceIsSpec)

/-- ITS FALSE NEIGHBOUR: 'it returns false'. Refute it at one input. -/
def spaceIsWrong : ChangeSpec := { name := "spaceIs", fn := fun _ => fun
  | [d1, d2] => { results := [.lit (.bool false)], args := [d1, d2] }
  | _ => none }
def SpaceIsWrongFalsely : Prop := spaceIsRow.holds Try.pinned (OpenSpec.ofChange spaceIsWrong)

/-- 'podestalaw03.SpaceAll': WHATEVER THE INPUT: true; the input reads as it did. -/
def spaceAllSpec : ChangeSpec := { name := "spaceAll", fn := fun _ => fun
  | [d] => { results := [.lit (.bool true)], args := [d] }
  | _ => none }
def spaceAllRow : OpenClaim := { program := "ytlgkjdjgockkfaa", sum := "a9b1988ad14718911eb35cb6aff50fef624db491ad9c206626c57842677ddffa", func := "podesta/podestalaw03.SpaceAll", spec := "spaceAll", unfollowed := true, recurses := true, apart := false }
def SpaceAllSaid : Prop := spaceAllRow.holds Try.pinned (OpenSpec.ofChange spaceAllSpec)

/-- ITS FALSE NEIGHBOUR: 'it returns false'. Refute it at one input. -/
def spaceAllWrong : ChangeSpec := { name := "spaceAll", fn := fun _ => fun
  | [d] => { results := [.lit (.bool false)], args := [d] }
  | _ => none }
def SpaceAllWrongFalsely : Prop := spaceAllRow.holds Try.pinned (OpenSpec.ofChange spaceAllWrong)

/-- 'podestalaw03.SpaceKeeps': WHATEVER THE INPUT: true; the input reads as it did. -/
def spaceKeepsSpec : ChangeSpec := { name := "spaceKeeps", fn := fun _ => fun
  | [d1, d2] => { results := [.lit (.bool true)], args := [d1, d2] }
  | _ => none }
def spaceKeepsRow : OpenClaim := { program := "ytlgkjdjgockkfaa", sum := "a9b1988ad14718911eb35cb6aff50fef624db491ad9c206626c57842677ddffa", func := "podesta/podestalaw03.SpaceKeeps", spec := "spaceKeeps", unfollowed := true, recurses := true, apart := false }
def SpaceKeepsSaid : Prop := spaceKeepsRow.holds Try.pinned (OpenSpec.ofChange spaceKeepsSpec)

/-- ITS FALSE NEIGHBOUR: 'it returns false'. Refute it at one input. -/
def spaceKeepsWrong : ChangeSpec := { name := "spaceKeeps", fn := fun _ => fun
  | [d1, d2] => { results := [.lit (.bool false)], args := [d1, d2] }
  | _ => none }
def SpaceKeepsWrongFalsely : Prop := spaceKeepsRow.holds Try.pinned (OpenSpec.ofChange spaceKeepsWrong)

/-- 'podestalaw03.SpaceLaws': WHATEVER THE INPUT: true; the input reads as it did. -/
def spaceLawsSpec : ChangeSpec := { name := "spaceLaws", fn := fun _ => fun
  | [d1, d2] => { results := [.lit (.bool true)], args := [d1, d2] }
  | _ => none }
def spaceLawsRow : OpenClaim := { program := "ytlgkjdjgockkfaa", sum := "a9b1988ad14718911eb35cb6aff50fef624db491ad9c206626c57842677ddffa", func := "podesta/podestalaw03.SpaceLaws", spec := "spaceLaws", unfollowed := true, recurses := true, apart := false }
def SpaceLawsSaid : Prop := spaceLawsRow.holds Try.pinned (OpenSpec.ofChange spaceLawsSpec)

/-- ITS FALSE NEIGHBOUR: 'it returns false'. Refute it at one input. -/
def spaceLawsWrong : ChangeSpec := { name := "spaceLaws", fn := fun _ => fun
  | [d1, d2] => { results := [.lit (.bool false)], args := [d1, d2] }
  | _ => none }
def SpaceLawsWrongFalsely : Prop := spaceLawsRow.holds Try.pinned (OpenSpec.ofChange spaceLawsWrong)

/- THE SECOND FORM. 'bulk': how many values and letters a reading holds, each counted each time it is reached (what is shared counts as often as it is met; a slice's spare places count too). A statement '..UptoSaid' is the law's where the arguments, and the package variables that the reading takes, are together of bulk at most 1048576: NARROWER than '..Said'. Prove '..Said' where nothing that the law and all that it calls make is longer than what came in: it says more and counts as full. Else prove '..UptoSaid'. A law counts once. -/
mutual
def uptoBulk {H : Type} : DataW H → Nat
  | .lit (.string bytes) => bytes.length + 1
  | .lit _ => 1
  | .nil => 1
  | .ptr d => uptoBulk d + 1
  | .slice elems spare => uptoBulkAll elems + uptoBulkAll spare + 1
  | .agg parts => uptoBulkAll parts + 1
  | .iface _ d => uptoBulk d + 1
  | .map entries => uptoBulkEntries entries + 1
  | .held _ => 1
def uptoBulkAll {H : Type} : List (DataW H) → Nat
  | [] => 0
  | d :: r => uptoBulk d + uptoBulkAll r
def uptoBulkEntries {H : Type} : List (Lit × DataW H) → Nat
  | [] => 0
  | x :: r => uptoBulkEntry x + uptoBulkEntries r
def uptoBulkEntry {H : Type} : Lit × DataW H → Nat
  | (.string bytes, d) => bytes.length + uptoBulk d + 1
  | (_, d) => uptoBulk d + 1
 end
def uptoSmall : (H : Type) → List (DataW H) → Bool := fun _ ds => decide (uptoBulkAll ds ≤ 1048576)
def OpenSpec.upto (s : _root_.Go.ChangeSpec) : _root_.Go.OpenSpec := { _root_.Go.OpenSpec.ofChange s with cond := some uptoSmall }

/-- 'podestalaw10.FrameNone', WHERE WHAT IT READS IS OF BULK AT MOST 1048576: true; the input reads as it did. -/
def frameNoneUptoRow : OpenClaim := { program := "ytlgkjdjgockkfaa", sum := "a9b1988ad14718911eb35cb6aff50fef624db491ad9c206626c57842677ddffa", func := "podesta/podestalaw10.FrameNone", spec := "frameNone", apart := false, narrowed := true }
def FrameNoneUptoSaid : Prop := frameNoneUptoRow.holds Try.pinned (OpenSpec.upto frameNoneSpec)

/-- 'podestalaw10.FrameWraps', WHERE WHAT IT READS IS OF BULK AT MOST 1048576: true; the input reads as it did. -/
def frameWrapsUptoRow : OpenClaim := { program := "ytlgkjdjgockkfaa", sum := "a9b1988ad14718911eb35cb6aff50fef624db491ad9c206626c57842677ddffa", func := "podesta/podestalaw10.FrameWraps", spec := "frameWraps", apart := false, narrowed := true }
def FrameWrapsUptoSaid : Prop := frameWrapsUptoRow.holds Try.pinned (OpenSpec.upto frameWrapsSpec)

/-- 'podestalaw10.FrameList', WHERE WHAT IT READS IS OF BULK AT MOST 1048576: true; the input reads as it did. -/
def frameListUptoRow : OpenClaim := { program := "ytlgkjdjgockkfaa", sum := "a9b1988ad14718911eb35cb6aff50fef624db491ad9c206626c57842677ddffa", func := "podesta/podestalaw10.FrameList", spec := "frameList", apart := false, narrowed := true }
def FrameListUptoSaid : Prop := frameListUptoRow.holds Try.pinned (OpenSpec.upto frameListSpec)

/-- 'podestalaw03.SpaceIs', WHERE WHAT IT READS IS OF BULK AT MOST 1048576: true; the input reads as it did. -/
def spaceIsUptoRow : OpenClaim := { program := "ytlgkjdjgockkfaa", sum := "a9b1988ad14718911eb35cb6aff50fef624db491ad9c206626c57842677ddffa", func := "podesta/podestalaw03.SpaceIs", spec := "spaceIs", unfollowed := true, recurses := true, apart := false, narrowed := true }
def SpaceIsUptoSaid : Prop := spaceIsUptoRow.holds Try.pinned (OpenSpec.upto spaceIsSpec)

/-- 'podestalaw03.SpaceAll', WHERE WHAT IT READS IS OF BULK AT MOST 1048576: true; the input reads as it did. -/
def spaceAllUptoRow : OpenClaim := { program := "ytlgkjdjgockkfaa", sum := "a9b1988ad14718911eb35cb6aff50fef624db491ad9c206626c57842677ddffa", func := "podesta/podestalaw03.SpaceAll", spec := "spaceAll", unfollowed := true, recurses := true, apart := false, narrowed := true }
def SpaceAllUptoSaid : Prop := spaceAllUptoRow.holds Try.pinned (OpenSpec.upto spaceAllSpec)

/-- 'podestalaw03.SpaceKeeps', WHERE WHAT IT READS IS OF BULK AT MOST 1048576: true; the input reads as it did. -/
def spaceKeepsUptoRow : OpenClaim := { program := "ytlgkjdjgockkfaa", sum := "a9b1988ad14718911eb35cb6aff50fef624db491ad9c206626c57842677ddffa", func := "podesta/podestalaw03.SpaceKeeps", spec := "spaceKeeps", unfollowed := true, recurses := true, apart := false, narrowed := true }
def SpaceKeepsUptoSaid : Prop := spaceKeepsUptoRow.holds Try.pinned (OpenSpec.upto spaceKeepsSpec)

/-- 'podestalaw03.SpaceLaws', WHERE WHAT IT READS IS OF BULK AT MOST 1048576: true; the input reads as it did. -/
def spaceLawsUptoRow : OpenClaim := { program := "ytlgkjdjgockkfaa", sum := "a9b1988ad14718911eb35cb6aff50fef624db491ad9c206626c57842677ddffa", func := "podesta/podestalaw03.SpaceLaws", spec := "spaceLaws", unfollowed := true, recurses := true, apart := false, narrowed := true }
def SpaceLawsUptoSaid : Prop := spaceLawsUptoRow.holds Try.pinned (OpenSpec.upto spaceLawsSpec)

end Rows
end Go.Proofs.Ytlgkjdjgockkfaa
