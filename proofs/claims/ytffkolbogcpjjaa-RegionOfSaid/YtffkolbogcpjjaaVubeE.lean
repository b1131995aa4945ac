/- Cubes as plain functions: 'CubeMakes'. -/
import Derived.Test.YtffkolbogcpjjaaVubeD
namespace Go.Proofs.Ytffkolbogcpjjaa
open Go Go.Pod Go.Proofs

/-! ### The reference's masks and setting -/

/-! ### The law -/

end Go.Proofs.Ytffkolbogcpjjaa
