/-
  No cell of these rows narrows 'for every input' (looked for: loops, veiled, ifaces, maps, wideKeys, modest, calm, conditions, laid).
  DERIVED. THE GIVEN ROWS OF THIS SEAT. 12 by the template 'for every input the law returns true; each argument reads behind the call as it read before'; 0 by the template 'total and deterministic' (their statements: YtfhimlhpjbjfgaaTotals.lean).
  GIVEN WITH THE SEED: the statements are not yours to turn. If you find one false, say at which input.
  Laid BY PROGRAM, IN A SANDBOX (cutbox-rows.mjs): the forced cells as the released guide's own fill.sh prints them over the translation 46bf102a3f23e012… (all of the seat's roots in one cut). By AI agents, Wed Nov 11 2026. No macro, syntax, notation, axiom, sorry.
-/
import Derived.Test.YtfhimlhpjbjfgaaChecked
import GoSem.Claim
import GoSem.ClaimJoined
import GoSem.ClaimMapViews
import Derived.JoinedTies
import Derived.KernelRfl
namespace Go.Proofs.Ytfhimlhpjbjfgaa
/- THE CELL 'sum', in the pinned program and in every row, IS THE sha256 OF THE DUMP (.gsa) THAT YtfhimlhpjbjfgaaProg.lean LOADS. Nothing in Lean hashes anything: it is a label: what it is worth is what the hold of that sum in a sandbox is worth. -/
noncomputable def Try.pinned : Pinned := { name := "ytfhimlhpjbjfgaa", sum := "46bf102a3f23e0129c6c135516f5bbc8c47b886ffd24f546f7f08a610dfc5272", checked := Try.checked }
namespace Rows
def none {H : Type} : Left H := { results := [], args := [] }

/-- 'podestalaw01.HeadMasks': WHATEVER THE INPUT: true; the input reads as it did. -/
def headMasksSpec : ChangeSpec := { name := "headMasks", fn := fun _ => fun
  | [d1, d2] => { results := [.lit (.bool true)], args := [d1, d2] }
  | _ => none }
def headMasksRow : OpenClaim := { program := "ytfhimlhpjbjfgaa", sum := "46bf102a3f23e0129c6c135516f5bbc8c47b886ffd24f546f7f08a610dfc5272", func := "podesta/podestalaw01.HeadMasks", spec := "headMasks", apart := false }
def HeadMasksSaid : Prop := headMasksRow.holds Try.pinned (OpenSpec.ofChange headMasksSpec)

/-- ITS FALSE NEIGHBOUR: 'it returns false'. Refute it at one input. -/
def headMasksWrong : ChangeSpec := { name := "headMasks", fn := fun _ => fun
  | [d1, d2] => { results := [.lit (.bool false)], args := [d1, d2] }
  | _ => none }
def HeadMasksWrongFalsely : Prop := headMasksRow.holds Try.pinned (OpenSpec.ofChange headMasksWrong)

/-- 'podestalaw01.HeadMaskSums': WHATEVER THE INPUT: true; the input reads as it did. -/
def headMaskSumsSpec : ChangeSpec := { name := "headMaskSums", fn := fun _ => fun
  | [d1, d2] => { results := [.lit (.bool true)], args := [d1, d2] }
  | _ => none }
def headMaskSumsRow : OpenClaim := { program := "ytfhimlhpjbjfgaa", sum := "46bf102a3f23e0129c6c135516f5bbc8c47b886ffd24f546f7f08a610dfc5272", func := "podesta/podestalaw01.HeadMaskSums", spec := "headMaskSums", apart := false }
def HeadMaskSumsSaid : Prop := headMaskSumsRow.holds Try.pinned (OpenSpec.ofChange headMaskSumsSpec)

/-- ITS FALSE NEIGHBOUR: 'it returns false'. Refute it at one input. -/
def headMaskSumsWrong : ChangeSpec := { name := "headMaskSums", fn := fun _ => fun
  | [d1, d2] => { results := [.lit (.bool false)], args := [d1, d2] }
  | _ => none }
def HeadMaskSumsWrongFalsely : Prop := headMaskSumsRow.holds Try.pinned (OpenSpec.ofChange headMaskSumsWrong)

/-- 'podestalaw01.HeadTwice': WHATEVER THE INPUT: true; the input reads as it did. -/
def headTwiceSpec : ChangeSpec := { name := "headTwice", fn := fun _ => fun
  | [d1, d2, d3, d4, d5] => { results := [.lit (.bool true)], args := [d1, d2, d3, d4, d5] }
  | _ => none }
def headTwiceRow : OpenClaim := { program := "ytfhimlhpjbjfgaa", sum := "46bf102a3f23e0129c6c135516f5bbc8c47b886ffd24f546f7f08a610dfc5272", func := "podesta/podestalaw01.HeadTwice", spec := "headTwice", apart := false }
def HeadTwiceSaid : Prop := headTwiceRow.holds Try.pinned (OpenSpec.ofChange headTwiceSpec)

/-- ITS FALSE NEIGHBOUR: 'it returns false'. Refute it at one input. -/
def headTwiceWrong : ChangeSpec := { name := "headTwice", fn := fun _ => fun
  | [d1, d2, d3, d4, d5] => { results := [.lit (.bool false)], args := [d1, d2, d3, d4, d5] }
  | _ => none }
def HeadTwiceWrongFalsely : Prop := headTwiceRow.holds Try.pinned (OpenSpec.ofChange headTwiceWrong)

/-- 'podestalaw01.HeadFields': WHATEVER THE INPUT: true; the input reads as it did. -/
def headFieldsSpec : ChangeSpec := { name := "headFields", fn := fun _ => fun
  | [d1, d2] => { results := [.lit (.bool true)], args := [d1, d2] }
  | _ => none }
def headFieldsRow : OpenClaim := { program := "ytfhimlhpjbjfgaa", sum := "46bf102a3f23e0129c6c135516f5bbc8c47b886ffd24f546f7f08a610dfc5272", func := "podesta/podestalaw01.HeadFields", spec := "headFields", unfollowed := true, recurses := true, apart := false }
def HeadFieldsSaid : Prop := headFieldsRow.holds Try.pinned (OpenSpec.ofChange headFieldsSpec)

/-- ITS FALSE NEIGHBOUR: 'it returns false'. Refute it at one input. -/
def headFieldsWrong : ChangeSpec := { name := "headFields", fn := fun _ => fun
  | [d1, d2] => { results := [.lit (.bool false)], args := [d1, d2] }
  | _ => none }
def HeadFieldsWrongFalsely : Prop := headFieldsRow.holds Try.pinned (OpenSpec.ofChange headFieldsWrong)

/-- 'podestalaw01.HeadSets': WHATEVER THE INPUT: true; the input reads as it did. -/
def headSetsSpec : ChangeSpec := { name := "headSets", fn := fun _ => fun
  | [d1, d2, d3] => { results := [.lit (.bool true)], args := [d1, d2, d3] }
  | _ => none }
def headSetsRow : OpenClaim := { program := "ytfhimlhpjbjfgaa", sum := "46bf102a3f23e0129c6c135516f5bbc8c47b886ffd24f546f7f08a610dfc5272", func := "podesta/podestalaw01.HeadSets", spec := "headSets", apart := false }
def HeadSetsSaid : Prop := headSetsRow.holds Try.pinned (OpenSpec.ofChange headSetsSpec)

/-- ITS FALSE NEIGHBOUR: 'it returns false'. Refute it at one input. -/
def headSetsWrong : ChangeSpec := { name := "headSets", fn := fun _ => fun
  | [d1, d2, d3] => { results := [.lit (.bool false)], args := [d1, d2, d3] }
  | _ => none }
def HeadSetsWrongFalsely : Prop := headSetsRow.holds Try.pinned (OpenSpec.ofChange headSetsWrong)

/-- 'podestalaw01.HeadOrder': WHATEVER THE INPUT: true; the input reads as it did. -/
def headOrderSpec : ChangeSpec := { name := "headOrder", fn := fun _ => fun
  | [d1, d2, d3] => { results := [.lit (.bool true)], args := [d1, d2, d3] }
  | _ => none }
def headOrderRow : OpenClaim := { program := "ytfhimlhpjbjfgaa", sum := "46bf102a3f23e0129c6c135516f5bbc8c47b886ffd24f546f7f08a610dfc5272", func := "podesta/podestalaw01.HeadOrder", spec := "headOrder", unfollowed := true, recurses := true, apart := false }
def HeadOrderSaid : Prop := headOrderRow.holds Try.pinned (OpenSpec.ofChange headOrderSpec)

/-- ITS FALSE NEIGHBOUR: 'it returns false'. Refute it at one input. -/
def headOrderWrong : ChangeSpec := { name := "headOrder", fn := fun _ => fun
  | [d1, d2, d3] => { results := [.lit (.bool false)], args := [d1, d2, d3] }
  | _ => none }
def HeadOrderWrongFalsely : Prop := headOrderRow.holds Try.pinned (OpenSpec.ofChange headOrderWrong)

/-- 'podestalaw02.CubeMakes': WHATEVER THE INPUT: true; the input reads as it did. -/
def cubeMakesSpec : ChangeSpec := { name := "cubeMakes", fn := fun _ => fun
  | [d1, d2, d3, d4, d5] => { results := [.lit (.bool true)], args := [d1, d2, d3, d4, d5] }
  | _ => none }
def cubeMakesRow : OpenClaim := { program := "ytfhimlhpjbjfgaa", sum := "46bf102a3f23e0129c6c135516f5bbc8c47b886ffd24f546f7f08a610dfc5272", func := "podesta/podestalaw02.CubeMakes", spec := "cubeMakes", apart := false }
def CubeMakesSaid : Prop := cubeMakesRow.holds Try.pinned (OpenSpec.ofChange cubeMakesSpec)

/-- ITS FALSE NEIGHBOUR: 'it returns false'. Refute it at one input. -/
def cubeMakesWrong : ChangeSpec := { name := "cubeMakes", fn := fun _ => fun
  | [d1, d2, d3, d4, d5] => { results := [.lit (.bool false)], args := [d1, d2, d3, d4, d5] }
  | _ => none }
def CubeMakesWrongFalsely : Prop := cubeMakesRow.holds Try.pinned (OpenSpec.ofChange cubeMakesWrong)

/-- 'podestalaw02.CubeThree': WHATEVER THE INPUT: true; the input reads as it did. -/
def cubeThreeSpec : ChangeSpec := { name := "cubeThree", fn := fun _ => fun
  | [d1, d2, d3] => { results := [.lit (.bool true)], args := [d1, d2, d3] }
  | _ => none }
def cubeThreeRow : OpenClaim := { program := "ytfhimlhpjbjfgaa", sum := "46bf102a3f23e0129c6c135516f5bbc8c47b886ffd24f546f7f08a610dfc5272", func := "podesta/podestalaw02.CubeThree", spec := "cubeThree", apart := false }
def CubeThreeSaid : Prop := cubeThreeRow.holds Try.pinned (OpenSpec.ofChange cubeThreeSpec)

/-- ITS FALSE NEIGHBOUR: 'it returns false'. Refute it at one input. -/
def cubeThreeWrong : ChangeSpec := { name := "cubeThree", fn := fun _ => fun
  | [d1, d2, d3] => { results := [.lit (.bool false)], args := [d1, d2, d3] }
  | _ => none }
def CubeThreeWrongFalsely : Prop := cubeThreeRow.holds Try.pinned (OpenSpec.ofChange cubeThreeWrong)

/-- 'podestalaw02.CubeNear': WHATEVER THE INPUT: true; the input reads as it did. -/
def cubeNearSpec : ChangeSpec := { name := "cubeNear", fn := fun _ => fun
  | [d1, d2, d3, d4] => { results := [.lit (.bool true)], args := [d1, d2, d3, d4] }
  | _ => none }
def cubeNearRow : OpenClaim := { program := "ytfhimlhpjbjfgaa", sum := "46bf102a3f23e0129c6c135516f5bbc8c47b886ffd24f546f7f08a610dfc5272", func := "podesta/podestalaw02.CubeNear", spec := "cubeNear", apart := false }
def CubeNearSaid : Prop := cubeNearRow.holds Try.pinned (OpenSpec.ofChange cubeNearSpec)

/-- ITS FALSE NEIGHBOUR: 'it returns false'. Refute it at one input. -/
def cubeNearWrong : ChangeSpec := { name := "cubeNear", fn := fun _ => fun
  | [d1, d2, d3, d4] => { results := [.lit (.bool false)], args := [d1, d2, d3, d4] }
  | _ => none }
def CubeNearWrongFalsely : Prop := cubeNearRow.holds Try.pinned (OpenSpec.ofChange cubeNearWrong)

/-- 'podestalaw02.CubeSets': WHATEVER THE INPUT: true; the input reads as it did. -/
def cubeSetsSpec : ChangeSpec := { name := "cubeSets", fn := fun _ => fun
  | [d1, d2, d3] => { results := [.lit (.bool true)], args := [d1, d2, d3] }
  | _ => none }
def cubeSetsRow : OpenClaim := { program := "ytfhimlhpjbjfgaa", sum := "46bf102a3f23e0129c6c135516f5bbc8c47b886ffd24f546f7f08a610dfc5272", func := "podesta/podestalaw02.CubeSets", spec := "cubeSets", apart := false }
def CubeSetsSaid : Prop := cubeSetsRow.holds Try.pinned (OpenSpec.ofChange cubeSetsSpec)

/-- ITS FALSE NEIGHBOUR: 'it returns false'. Refute it at one input. -/
def cubeSetsWrong : ChangeSpec := { name := "cubeSets", fn := fun _ => fun
  | [d1, d2, d3] => { results := [.lit (.bool false)], args := [d1, d2, d3] }
  | _ => none }
def CubeSetsWrongFalsely : Prop := cubeSetsRow.holds Try.pinned (OpenSpec.ofChange cubeSetsWrong)

/-- 'podestalaw02.CubeParts': WHATEVER THE INPUT: true; the input reads as it did. -/
def cubePartsSpec : ChangeSpec := { name := "cubeParts", fn := fun _ => fun
  | [d1, d2] => { results := [.lit (.bool true)], args := [d1, d2] }
  | _ => none }
def cubePartsRow : OpenClaim := { program := "ytfhimlhpjbjfgaa", sum := "46bf102a3f23e0129c6c135516f5bbc8c47b886ffd24f546f7f08a610dfc5272", func := "podesta/podestalaw02.CubeParts", spec := "cubeParts", apart := false }
def CubePartsSaid : Prop := cubePartsRow.holds Try.pinned (OpenSpec.ofChange cubePartsSpec)

/-- ITS FALSE NEIGHBOUR: 'it returns false'. Refute it at one input. -/
def cubePartsWrong : ChangeSpec := { name := "cubeParts", fn := fun _ => fun
  | [d1, d2] => { results := [.lit (.bool false)], args := [d1, d2] }
  | _ => none }
def CubePartsWrongFalsely : Prop := cubePartsRow.holds Try.pinned (OpenSpec.ofChange cubePartsWrong)

/-- 'podestalaw02.CubeOrder': WHATEVER THE INPUT: true; the input reads as it did. -/
def cubeOrderSpec : ChangeSpec := { name := "cubeOrder", fn := fun _ => fun
  | [d1, d2] => { results := [.lit (.bool true)], args := [d1, d2] }
  | _ => none }
def cubeOrderRow : OpenClaim := { program := "ytfhimlhpjbjfgaa", sum := "46bf102a3f23e0129c6c135516f5bbc8c47b886ffd24f546f7f08a610dfc5272", func := "podesta/podestalaw02.CubeOrder", spec := "cubeOrder", unfollowed := true, recurses := true, apart := false }
def CubeOrderSaid : Prop := cubeOrderRow.holds Try.pinned (OpenSpec.ofChange cubeOrderSpec)

/-- ITS FALSE NEIGHBOUR: 'it returns false'. Refute it at one input. -/
def cubeOrderWrong : ChangeSpec := { name := "cubeOrder", fn := fun _ => fun
  | [d1, d2] => { results := [.lit (.bool false)], args := [d1, d2] }
  | _ => none }
def CubeOrderWrongFalsely : Prop := cubeOrderRow.holds Try.pinned (OpenSpec.ofChange cubeOrderWrong)

/- THE SECOND FORM. 'bulk': how many values and letters a reading holds, each counted each time it is reached (what is shared counts as often as it is met; a slice's spare places count too). A statement '..UptoSaid' is the law's where the arguments, and the package variables that the reading takes, are together of bulk at most 1048576: NARROWER than '..Said'. Prove '..Said' where nothing that the law and all that it calls make is longer than what came in: it says more and counts as full. Else prove '..UptoSaid'. A law counts once. -/
mutual
def uptoBulk {H : Type} : DataW H → Nat
  | .lit (.string bytes) => bytes.length + 1
  | .lit _ => 1
  | .nil => 1
  | .ptr d => uptoBulk d + 1
  | .slice elems spare => uptoBulkAll elems + uptoBulkAll spare + 1
  | .agg parts => uptoBulkAll parts + 1
  | .iface _ d => uptoBulk d + 1
  | .map entries => uptoBulkEntries entries + 1
  | .held _ => 1
def uptoBulkAll {H : Type} : List (DataW H) → Nat
  | [] => 0
  | d :: r => uptoBulk d + uptoBulkAll r
def uptoBulkEntries {H : Type} : List (Lit × DataW H) → Nat
  | [] => 0
  | x :: r => uptoBulkEntry x + uptoBulkEntries r
def uptoBulkEntry {H : Type} : Lit × DataW H → Nat
  | (.string bytes, d) => bytes.length + uptoBulk d + 1
  | (_, d) => uptoBulk d + 1
 end
def uptoSmall : (H : Type) → List (DataW H) → Bool := fun _ ds => decide (uptoBulkAll ds ≤ 1048576)
def OpenSpec.upto (s : _root_.Go.ChangeSpec) : _root_.Go.OpenSpec := { _root_.Go.OpenSpec.ofChange s with cond := some uptoSmall }

/-- 'podestalaw01.HeadMasks', WHERE WHAT IT READS IS OF BULK AT MOST 1048576: true; the input reads as it did. -/
def headMasksUptoRow : OpenClaim := { program := "ytfhimlhpjbjfgaa", sum := "46bf102a3f23e0129c6c135516f5bbc8c47b886ffd24f546f7f08a610dfc5272", func := "podesta/podestalaw01.HeadMasks", spec := "headMasks", apart := false, narrowed := true }
def HeadMasksUptoSaid : Prop := headMasksUptoRow.holds Try.pinned (OpenSpec.upto headMasksSpec)

/-- 'podestalaw01.HeadMaskSums', WHERE WHAT IT READS IS OF BULK AT MOST 1048576: true; the input reads as it did. -/
def headMaskSumsUptoRow : OpenClaim := { program := "ytfhimlhpjbjfgaa", sum := "46bf102a3f23e0129c6c135516f5bbc8c47b886ffd24f546f7f08a610dfc5272", func := "podesta/podestalaw01.HeadMaskSums", spec := "headMaskSums", apart := false, narrowed := true }
def HeadMaskSumsUptoSaid : Prop := headMaskSumsUptoRow.holds Try.pinned (OpenSpec.upto headMaskSumsSpec)

/-- 'podestalaw01.HeadTwice', WHERE WHAT IT READS IS OF BULK AT MOST 1048576: true; the input reads as it did. -/
def headTwiceUptoRow : OpenClaim := { program := "ytfhimlhpjbjfgaa", sum := "46bf102a3f23e0129c6c135516f5bbc8c47b886ffd24f546f7f08a610dfc5272", func := "podesta/podestalaw01.HeadTwice", spec := "headTwice", apart := false, narrowed := true }
def HeadTwiceUptoSaid : Prop := headTwiceUptoRow.holds Try.pinned (OpenSpec.upto headTwiceSpec)

/-- 'podestalaw01.HeadFields', WHERE WHAT IT READS IS OF BULK AT MOST 1048576: true; the input reads as it did. -/
def headFieldsUptoRow : OpenClaim := { program := "ytfhimlhpjbjfgaa", sum := "46bf102a3f23e0129c6c135516f5bbc8c47b886ffd24f546f7f08a610dfc5272", func := "podesta/podestalaw01.HeadFields", spec := "headFields", unfollowed := true, recurses := true, apart := false, narrowed := true }
def HeadFieldsUptoSaid : Prop := headFieldsUptoRow.holds Try.pinned (OpenSpec.upto headFieldsSpec)

/-- 'podestalaw01.HeadSets', WHERE WHAT IT READS IS OF BULK AT MOST 1048576: true; the input reads as it did. -/
def headSetsUptoRow : OpenClaim := { program := "ytfhimlhpjbjfgaa", sum := "46bf102a3f23e0129c6c135516f5bbc8c47b886ffd24f546f7f08a610dfc5272", func := "podesta/podestalaw01.HeadSets", spec := "headSets", apart := false, narrowed := true }
def HeadSetsUptoSaid : Prop := headSetsUptoRow.holds Try.pinned (OpenSpec.upto headSetsSpec)

/-- 'podestalaw01.HeadOrder', WHERE WHAT IT READS IS OF BULK AT MOST 1048576: true; the input reads as it did. -/
def headOrderUptoRow : OpenClaim := { program := "ytfhimlhpjbjfgaa", sum := "46bf102a3f23e0129c6c135516f5bbc8c47b886ffd24f546f7f08a610dfc5272", func := "podesta/podestalaw01.HeadOrder", spec := "headOrder", unfollowed := true, recurses := true, apart := false, narrowed := true }
def HeadOrderUptoSaid : Prop := headOrderUptoRow.holds Try.pinned (OpenSpec.upto headOrderSpec)

/-- 'podestalaw02.CubeMakes', WHERE WHAT IT READS IS OF BULK AT MOST 1048576: true; the input reads as it did. -/
def cubeMakesUptoRow : OpenClaim := { program := "ytfhimlhpjbjfgaa", sum := "46bf102a3f23e0129c6c135516f5bbc8c47b886ffd24f546f7f08a610dfc5272", func := "podesta/podestalaw02.CubeMakes", spec := "cubeMakes", apart := false, narrowed := true }
def CubeMakesUptoSaid : Prop := cubeMakesUptoRow.holds Try.pinned (OpenSpec.upto cubeMakesSpec)

/-- 'podestalaw02.CubeThree', WHERE WHAT IT READS IS OF BULK AT MOST 1048576: true; the input reads as it did. -/
def cubeThreeUptoRow : OpenClaim := { program := "ytfhimlhpjbjfgaa", sum := "46bf102a3f23e0129c6c135516f5bbc8c47b886ffd24f546f7f08a610dfc5272", func := "podesta/podestalaw02.CubeThree", spec := "cubeThree", apart := false, narrowed := true }
def CubeThreeUptoSaid : Prop := cubeThreeUptoRow.holds Try.pinned (OpenSpec.upto cubeThreeSpec)

/-- 'podestalaw02.CubeNear', WHERE WHAT IT READS IS OF BULK AT MOST 1048576: true; the input reads as it did. -/
def cubeNearUptoRow : OpenClaim := { program := "ytfhimlhpjbjfgaa", sum := "46bf102a3f23e0129c6c135516f5bbc8c47b886ffd24f546f7f08a610dfc5272", func := "podesta/podestalaw02.CubeNear", spec := "cubeNear", apart := false, narrowed := true }
def CubeNearUptoSaid : Prop := cubeNearUptoRow.holds Try.pinned (OpenSpec.upto cubeNearSpec)

/-- 'podestalaw02.CubeSets', WHERE WHAT IT READS IS OF BULK AT MOST 1048576: true; the input reads as it did. -/
def cubeSetsUptoRow : OpenClaim := { program := "ytfhimlhpjbjfgaa", sum := "46bf102a3f23e0129c6c135516f5bbc8c47b886ffd24f546f7f08a610dfc5272", func := "podesta/podestalaw02.CubeSets", spec := "cubeSets", apart := false, narrowed := true }
def CubeSetsUptoSaid : Prop := cubeSetsUptoRow.holds Try.pinned (OpenSpec.upto cubeSetsSpec)

/-- 'podestalaw02.CubeParts', WHERE WHAT IT READS IS OF BULK AT MOST 1048576: true; the input reads as it did. -/
def cubePartsUptoRow : OpenClaim := { program := "ytfhimlhpjbjfgaa", sum := "46bf102a3f23e0129c6c135516f5bbc8c47b886ffd24f546f7f08a610dfc5272", func := "podesta/podestalaw02.CubeParts", spec := "cubeParts", apart := false, narrowed := true }
def CubePartsUptoSaid : Prop := cubePartsUptoRow.holds Try.pinned (OpenSpec.upto cubePartsSpec)

/-- 'podestalaw02.CubeOrder', WHERE WHAT IT READS IS OF BULK AT MOST 1048576: true; the input reads as it did. -/
def cubeOrderUptoRow : OpenClaim := { program := "ytfhimlhpjbjfgaa", sum := "46bf102a3f23e0129c6c135516f5bbc8c47b886ffd24f546f7f08a610dfc5272", func := "podesta/podestalaw02.CubeOrder", spec := "cubeOrder", unfollowed := true, recurses := true, apart := false, narrowed := true }
def CubeOrderUptoSaid : Prop := cubeOrderUptoRow.holds Try.pinned (OpenSpec.upto cubeOrderSpec)

end Rows
end Go.Proofs.Ytfhimlhpjbjfgaa
