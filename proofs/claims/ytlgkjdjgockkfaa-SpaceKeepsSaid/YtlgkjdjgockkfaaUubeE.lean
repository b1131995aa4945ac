/- Cubes as plain functions: 'CubeMakes'. -/
import Derived.Test.YtlgkjdjgockkfaaUubeD
namespace Go.Proofs.Ytlgkjdjgockkfaa
open Go Go.Pod Go.Proofs

/-! ### The reference's masks and setting -/

/-! ### The law -/

end Go.Proofs.Ytlgkjdjgockkfaa
