/- What is known of variables that nobody writes: none here. -/
import Derived.WalkKit
namespace Go.Pod
open Go

/-- Variables that nobody writes: the block, what its cells hold. -/
def Glob : List (Nat × (Array Value → Prop)) := []

/-- Of which elements' blocks one cell behind the end may be marked (those of bytes). -/
def MarkedB : Nat → Bool := fun e => Nat.beq e 5

/-- Is it told that draws are never taken back? -/
def Drawing : Prop := True

end Go.Pod
