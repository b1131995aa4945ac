/- 'ParseNames': the kernel's runs, words of 1 bytes on. -/
import Derived.Test.YteaghbcenjhjhaaDoorNamB
namespace Go.Exe.Nam
open Go Go.Exe Go.Proofs
theorem name1 (es : Nat → Nat) : isT (name 1 es) = true := by kernel_rfl
theorem name2 (es : Nat → Nat) : isT (name 2 es) = true := by kernel_rfl
theorem name3 (es : Nat → Nat) : isT (name 3 es) = true := by kernel_rfl
theorem name4 (es : Nat → Nat) : isT (name 4 es) = true := by kernel_rfl
theorem name5 (es : Nat → Nat) : isT (name 5 es) = true := by kernel_rfl
theorem name6 (es : Nat → Nat) : isT (name 6 es) = true := by kernel_rfl
theorem name7 (es : Nat → Nat) : isT (name 7 es) = true := by kernel_rfl
theorem name8 (es : Nat → Nat) : isT (name 8 es) = true := by kernel_rfl
end Go.Exe.Nam
