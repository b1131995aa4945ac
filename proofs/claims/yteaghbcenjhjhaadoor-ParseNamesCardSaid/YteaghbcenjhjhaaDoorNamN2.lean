/- 'ParseNames': the kernel's runs, words of 17 bytes on. -/
import Derived.Test.YteaghbcenjhjhaaDoorNamB
namespace Go.Exe.Nam
open Go Go.Exe Go.Proofs
theorem name17 (es : Nat → Nat) : isT (name 17 es) = true := by kernel_rfl
theorem name18 (es : Nat → Nat) : isT (name 18 es) = true := by kernel_rfl
theorem name19 (es : Nat → Nat) : isT (name 19 es) = true := by kernel_rfl
theorem name20 (es : Nat → Nat) : isT (name 20 es) = true := by kernel_rfl
theorem name21 (es : Nat → Nat) : isT (name 21 es) = true := by kernel_rfl
theorem name22 (es : Nat → Nat) : isT (name 22 es) = true := by kernel_rfl
theorem name23 (es : Nat → Nat) : isT (name 23 es) = true := by kernel_rfl
theorem name24 (es : Nat → Nat) : isT (name 24 es) = true := by kernel_rfl
end Go.Exe.Nam
