/- What is known of variables that nobody writes: strconv's two errors. -/
import Derived.WalkKit
namespace Go.Pod
open Go

/-- Variables that nobody writes: the block, what its cells hold. -/
def Glob : List (Nat × (Array Value → Prop)) := [(0, fun cs => ∃ t p, cs[0]? = some (.iface t p)), (1, fun cs => ∃ t p, cs[0]? = some (.iface t p))]

/-- Is it told that draws are never taken back? -/
def Drawing : Prop := False

end Go.Pod
