/-
  DERIVED: THE SHELF's CONTRACTS AT THIS DUMP, IN PLAIN WORDS (tools/lay-plain.mjs out of 'R22zShelf.lean', which tools/lay-shelf.mjs wrote): THE SAME DECLARATIONS UNDER THE SAME NAMES: 'import', 'namespace', 'open', 'def', 'theorem' AND NOTHING ELSE: no command of the shelf's: FOR A HAND-IN. Each laying: the table of numbers ('.._ren') and one theorem, a field a fact of the dump's own or the kernel's comparison; each contract: ONE APPLICATION.
-/
import Derived.Ground.NamesProg
import Derived.Shelf.Lays
import Derived.Test.YtbggcjkpjmnbaaaGreatProg
namespace Go.Proofs
open Go.Shelf
def Tryz.lays189_ren : Go.Shelf.Ren := ⟨fun | 189 => 28 | 125 => 45 | 257 => 44 | 128 => 62 | 129 => 63 | 294 => 53 | 295 => 54 | 296 => 55 | 297 => 56 | 298 => 57 | 299 => 58 | 216 => 59 | 300 => 60 | 301 => 61 | 328 => 76 | 329 => 77 | 330 => 78 | 331 => 79 | 332 => 80 | 215 => 81 | 343 => 102 | n => n, fun | 28 => 33 | 3 => 3 | 46 => 100 | 0 => 0 | 51 => 115 | 53 => 45 | 4 => 4 | 183 => 107 | 182 => 106 | 131 => 112 | 5 => 5 | 9 => 9 | 218 => 124 | 222 => 128 | 228 => 139 | 229 => 140 | n => n, fun | n => n⟩
theorem Tryz.lays189 : Go.Proofs.Lays.n189 Tryz.prog Tryz.lays189_ren := {
  mixed := by kernel_rfl
  f125 := Tryz.func45.trans (congrArg some (by kernel_rfl))
  f128 := Tryz.func62.trans (congrArg some (by kernel_rfl))
  f129 := Tryz.func63.trans (congrArg some (by kernel_rfl))
  f189 := Tryz.func28.trans (congrArg some (by kernel_rfl))
  f215 := Tryz.func81.trans (congrArg some (by kernel_rfl))
  f216 := Tryz.func59.trans (congrArg some (by kernel_rfl))
  f257 := Tryz.func44.trans (congrArg some (by kernel_rfl))
  f294 := Tryz.func53.trans (congrArg some (by kernel_rfl))
  f295 := Tryz.func54.trans (congrArg some (by kernel_rfl))
  f296 := Tryz.func55.trans (congrArg some (by kernel_rfl))
  f297 := Tryz.func56.trans (congrArg some (by kernel_rfl))
  f298 := Tryz.func57.trans (congrArg some (by kernel_rfl))
  f299 := Tryz.func58.trans (congrArg some (by kernel_rfl))
  f300 := Tryz.func60.trans (congrArg some (by kernel_rfl))
  f301 := Tryz.func61.trans (congrArg some (by kernel_rfl))
  f328 := Tryz.func76.trans (congrArg some (by kernel_rfl))
  f329 := Tryz.func77.trans (congrArg some (by kernel_rfl))
  f330 := Tryz.func78.trans (congrArg some (by kernel_rfl))
  f331 := Tryz.func79.trans (congrArg some (by kernel_rfl))
  f332 := Tryz.func80.trans (congrArg some (by kernel_rfl))
  f343 := Tryz.func102.trans (congrArg some (by kernel_rfl))
  t0 := Tryz.underlying0
  a0 := Tryz.isAgg0
  z0 := Tryz.sizeOf0
  v0 := Tryz.zeroValue0
  t3 := Tryz.underlying3
  a3 := Tryz.isAgg3
  z3 := Tryz.sizeOf3
  v3 := Tryz.zeroValue3
  t4 := Tryz.underlying4
  a4 := Tryz.isAgg4
  z4 := Tryz.sizeOf4
  v4 := Tryz.zeroValue4
  t5 := Tryz.underlying5
  a5 := Tryz.isAgg5
  z5 := Tryz.sizeOf5
  v5 := Tryz.zeroValue5
  t9 := Tryz.underlying9
  a9 := Tryz.isAgg9
  z9 := Tryz.sizeOf9
  v9 := Tryz.zeroValue9
  t28 := Tryz.underlying33
  a28 := Tryz.isAgg33
  z28 := Tryz.sizeOf33
  v28 := Tryz.zeroValue33
  t46 := Tryz.underlying100
  a46 := Tryz.isAgg100
  z46 := Tryz.sizeOf100
  v46 := Tryz.zeroValue100
  t51 := Tryz.underlying115
  a51 := Tryz.isAgg115
  z51 := Tryz.sizeOf115
  v51 := Tryz.zeroValue115
  t53 := Tryz.underlying45
  a53 := Tryz.isAgg45
  z53 := Tryz.sizeOf45
  v53 := Tryz.zeroValue45
  t131 := Tryz.underlying112
  a131 := Tryz.isAgg112
  z131 := Tryz.sizeOf112
  v131 := Tryz.zeroValue112
  t182 := Tryz.underlying106
  a182 := Tryz.isAgg106
  z182 := Tryz.sizeOf106
  v182 := Tryz.zeroValue106
  t183 := Tryz.underlying107
  a183 := Tryz.isAgg107
  z183 := Tryz.sizeOf107
  v183 := Tryz.zeroValue107
  t218 := Tryz.underlying124
  a218 := Tryz.isAgg124
  z218 := Tryz.sizeOf124
  v218 := Tryz.zeroValue124
  t222 := Tryz.underlying128
  a222 := Tryz.isAgg128
  z222 := Tryz.sizeOf128
  v222 := Tryz.zeroValue128
  t228 := Tryz.underlying139
  a228 := Tryz.isAgg139
  z228 := Tryz.sizeOf139
  v228 := Tryz.zeroValue139
  t229 := Tryz.underlying140
  a229 := Tryz.isAgg140
  z229 := Tryz.sizeOf140
  v229 := Tryz.zeroValue140 }
end Go.Proofs
