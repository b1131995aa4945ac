/- 'WorldNone': what the kernel's runs share; 'answers' is run once. -/
import Derived.Test.YtimnljbphmndoaaGreatDoorProg
import Derived.Test.YtimnljbphmndoaaGreatDoorExQ
namespace Go.Exe.Wor
open Go Go.Exe Go.Proofs
noncomputable def F0 : Facts := { bin := fun _ _ _ => none, conv := fun _ _ _ => none }
noncomputable def G : List (Nat × AV) := [(0, .ifc 463 (.sym 100)), (1, .ifc 463 (.sym 101))]
noncomputable def K0 : Known := kn [(369, idxByteO), (70, keysO 103), (65, sortedO 103 3)]
noncomputable def K1 : Known := kn [(369, idxByteO), (70, keysO 103), (65, sortedO 103 3), (5, pureO 6 G [([], .bool true)])]
theorem ans (es : Nat → Nat) : gives (call Tryz.prog F0 K0 100000 5 [] (gmem 100 es G)) (.bool true) = true := by kernel_rfl
end Go.Exe.Wor
