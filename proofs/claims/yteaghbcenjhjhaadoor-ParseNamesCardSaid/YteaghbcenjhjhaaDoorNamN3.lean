/- 'ParseNames': the kernel's runs, words of 25 bytes on. -/
import Derived.Test.YteaghbcenjhjhaaDoorNamB
namespace Go.Exe.Nam
open Go Go.Exe Go.Proofs
theorem name25 (es : Nat → Nat) : isT (name 25 es) = true := by kernel_rfl
theorem name26 (es : Nat → Nat) : isT (name 26 es) = true := by kernel_rfl
theorem name27 (es : Nat → Nat) : isT (name 27 es) = true := by kernel_rfl
theorem name28 (es : Nat → Nat) : isT (name 28 es) = true := by kernel_rfl
theorem name29 (es : Nat → Nat) : isT (name 29 es) = true := by kernel_rfl
theorem name30 (es : Nat → Nat) : isT (name 30 es) = true := by kernel_rfl
theorem name31 (es : Nat → Nat) : isT (name 31 es) = true := by kernel_rfl
theorem name32 (es : Nat → Nat) : isT (name 32 es) = true := by kernel_rfl
end Go.Exe.Nam
