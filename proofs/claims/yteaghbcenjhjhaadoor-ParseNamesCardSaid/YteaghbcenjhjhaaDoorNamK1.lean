/- 'ParseNames': the kernel's runs, words that stand for something. -/
import Derived.Test.YteaghbcenjhjhaaDoorNamB
namespace Go.Exe.Nam
open Go Go.Exe Go.Proofs
theorem keep9 (es : Nat → Nat) : isT (keep 4 1869181552 es) = true := by kernel_rfl
theorem keep10 (es : Nat → Nat) : isT (keep 4 1701602409 es) = true := by kernel_rfl
theorem keep11 (es : Nat → Nat) : isT (keep 4 1685217640 es) = true := by kernel_rfl
theorem keep12 (es : Nat → Nat) : isT (keep 5 461229090915 es) = true := by kernel_rfl
theorem keep13 (es : Nat → Nat) : isT (keep 2 28516 es) = true := by kernel_rfl
theorem keep14 (es : Nat → Nat) : isT (keep 4 1886351972 es) = true := by kernel_rfl
theorem keep15 (es : Nat → Nat) : isT (keep 3 7632239 es) = true := by kernel_rfl
theorem keep16 (es : Nat → Nat) : isT (keep 3 7628147 es) = true := by kernel_rfl
theorem keep17 (es : Nat → Nat) : isT (keep 4 1819043188 es) = true := by kernel_rfl
end Go.Exe.Nam
