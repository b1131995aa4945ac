/- 'ParseNames': the kernel's runs, words that stand for something. -/
import Derived.Test.YteaghbcenjhjhaaDoorNamB
namespace Go.Exe.Nam
open Go Go.Exe Go.Proofs
theorem keep0 (es : Nat → Nat) : isT (keep 3 7496054 es) = true := by kernel_rfl
theorem keep1 (es : Nat → Nat) : isT (keep 2 28271 es) = true := by kernel_rfl
theorem keep2 (es : Nat → Nat) : isT (keep 2 26217 es) = true := by kernel_rfl
theorem keep3 (es : Nat → Nat) : isT (keep 4 1702063205 es) = true := by kernel_rfl
theorem keep4 (es : Nat → Nat) : isT (keep 5 435610544247 es) = true := by kernel_rfl
theorem keep5 (es : Nat → Nat) : isT (keep 5 500136108641 es) = true := by kernel_rfl
theorem keep6 (es : Nat → Nat) : isT (keep 3 6579297 es) = true := by kernel_rfl
theorem keep7 (es : Nat → Nat) : isT (keep 3 7103844 es) = true := by kernel_rfl
theorem keep8 (es : Nat → Nat) : isT (keep 3 6582125 es) = true := by kernel_rfl
end Go.Exe.Nam
