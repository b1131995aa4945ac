/- What is known of variables that nobody writes: none here. -/
import Derived.WalkKit
namespace Go.Pod
open Go

/-- Variables that nobody writes: the block, what its cells hold. -/
def Glob : List (Nat × (Array Value → Prop)) := []

/-- Of which elements' blocks one cell behind the end may be marked (none here: no bytes of a text). -/
def MarkedB : Nat → Bool := fun _ => false

/-- Is it told that draws are never taken back? -/
def Drawing : Prop := True

end Go.Pod
