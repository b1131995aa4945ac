/- 'ParseNames': the kernel's runs, words of 9 bytes on. -/
import Derived.Test.YteaghbcenjhjhaaDoorNamB
namespace Go.Exe.Nam
open Go Go.Exe Go.Proofs
theorem name9 (es : Nat → Nat) : isT (name 9 es) = true := by kernel_rfl
theorem name10 (es : Nat → Nat) : isT (name 10 es) = true := by kernel_rfl
theorem name11 (es : Nat → Nat) : isT (name 11 es) = true := by kernel_rfl
theorem name12 (es : Nat → Nat) : isT (name 12 es) = true := by kernel_rfl
theorem name13 (es : Nat → Nat) : isT (name 13 es) = true := by kernel_rfl
theorem name14 (es : Nat → Nat) : isT (name 14 es) = true := by kernel_rfl
theorem name15 (es : Nat → Nat) : isT (name 15 es) = true := by kernel_rfl
theorem name16 (es : Nat → Nat) : isT (name 16 es) = true := by kernel_rfl
end Go.Exe.Nam
