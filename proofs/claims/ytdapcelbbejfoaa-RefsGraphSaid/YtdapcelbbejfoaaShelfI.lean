/-
  DERIVED: THE SHELF's CONTRACTS AT THIS DUMP, IN PLAIN WORDS (tools/lay-plain.mjs out of 'YtdapcelbbejfoaaShelfI.lean', which tools/lay-shelf.mjs wrote): THE SAME DECLARATIONS UNDER THE SAME NAMES: 'import', 'namespace', 'open', 'def', 'theorem' AND NOTHING ELSE: no command of the shelf's: FOR A HAND-IN. Each laying: the table of numbers ('.._ren') and one theorem, a field a fact of the dump's own or the kernel's comparison; each contract: ONE APPLICATION.
-/
import Derived.Shelf.Slices.In.SortAlone
import Derived.Shelf.Slices.In.SortNone
import Derived.Test.YtdapcelbbejfoaaProg
namespace Go.Proofs
open Go.Shelf
def Try.laysSortI_ren : Go.Shelf.Ren := ⟨fun | 189 => 57 | 125 => 90 | 257 => 89 | 128 => 114 | 129 => 115 | 294 => 105 | 295 => 106 | 296 => 107 | 297 => 108 | 298 => 109 | 299 => 110 | 216 => 111 | 300 => 112 | 301 => 113 | 328 => 121 | 329 => 122 | 330 => 123 | 331 => 124 | 332 => 125 | 215 => 126 | 343 => 137 | n => n, fun | 28 => 52 | 3 => 3 | 46 => 145 | 0 => 0 | 51 => 163 | 53 => 165 | 4 => 4 | 183 => 156 | 182 => 155 | 131 => 110 | 5 => 5 | 9 => 9 | 218 => 170 | 222 => 174 | 228 => 184 | 229 => 65 | n => n, fun | n => n⟩
theorem Try.laysSortI : Go.Proofs.Lays.n189 Try.prog Try.laysSortI_ren := {
  mixed := by kernel_rfl
  f125 := Try.func90.trans (congrArg some (by kernel_rfl))
  f128 := Try.func114.trans (congrArg some (by kernel_rfl))
  f129 := Try.func115.trans (congrArg some (by kernel_rfl))
  f189 := Try.func57.trans (congrArg some (by kernel_rfl))
  f215 := Try.func126.trans (congrArg some (by kernel_rfl))
  f216 := Try.func111.trans (congrArg some (by kernel_rfl))
  f257 := Try.func89.trans (congrArg some (by kernel_rfl))
  f294 := Try.func105.trans (congrArg some (by kernel_rfl))
  f295 := Try.func106.trans (congrArg some (by kernel_rfl))
  f296 := Try.func107.trans (congrArg some (by kernel_rfl))
  f297 := Try.func108.trans (congrArg some (by kernel_rfl))
  f298 := Try.func109.trans (congrArg some (by kernel_rfl))
  f299 := Try.func110.trans (congrArg some (by kernel_rfl))
  f300 := Try.func112.trans (congrArg some (by kernel_rfl))
  f301 := Try.func113.trans (congrArg some (by kernel_rfl))
  f328 := Try.func121.trans (congrArg some (by kernel_rfl))
  f329 := Try.func122.trans (congrArg some (by kernel_rfl))
  f330 := Try.func123.trans (congrArg some (by kernel_rfl))
  f331 := Try.func124.trans (congrArg some (by kernel_rfl))
  f332 := Try.func125.trans (congrArg some (by kernel_rfl))
  f343 := Try.func137.trans (congrArg some (by kernel_rfl))
  t0 := Try.underlying0
  a0 := Try.isAgg0
  z0 := Try.sizeOf0
  v0 := Try.zeroValue0
  t3 := Try.underlying3
  a3 := Try.isAgg3
  z3 := Try.sizeOf3
  v3 := Try.zeroValue3
  t4 := Try.underlying4
  a4 := Try.isAgg4
  z4 := Try.sizeOf4
  v4 := Try.zeroValue4
  t5 := Try.underlying5
  a5 := Try.isAgg5
  z5 := Try.sizeOf5
  v5 := Try.zeroValue5
  t9 := Try.underlying9
  a9 := Try.isAgg9
  z9 := Try.sizeOf9
  v9 := Try.zeroValue9
  t28 := Try.underlying52
  a28 := Try.isAgg52
  z28 := Try.sizeOf52
  v28 := Try.zeroValue52
  t46 := Try.underlying145
  a46 := Try.isAgg145
  z46 := Try.sizeOf145
  v46 := Try.zeroValue145
  t51 := Try.underlying163
  a51 := Try.isAgg163
  z51 := Try.sizeOf163
  v51 := Try.zeroValue163
  t53 := Try.underlying165
  a53 := Try.isAgg165
  z53 := Try.sizeOf165
  v53 := Try.zeroValue165
  t131 := Try.underlying110
  a131 := Try.isAgg110
  z131 := Try.sizeOf110
  v131 := Try.zeroValue110
  t182 := Try.underlying155
  a182 := Try.isAgg155
  z182 := Try.sizeOf155
  v182 := Try.zeroValue155
  t183 := Try.underlying156
  a183 := Try.isAgg156
  z183 := Try.sizeOf156
  v183 := Try.zeroValue156
  t218 := Try.underlying170
  a218 := Try.isAgg170
  z218 := Try.sizeOf170
  v218 := Try.zeroValue170
  t222 := Try.underlying174
  a222 := Try.isAgg174
  z222 := Try.sizeOf174
  v222 := Try.zeroValue174
  t228 := Try.underlying184
  a228 := Try.isAgg184
  z228 := Try.sizeOf184
  v228 := Try.zeroValue184
  t229 := Try.underlying65
  a229 := Try.isAgg65
  z229 := Try.sizeOf65
  v229 := Try.zeroValue65 }
end Go.Proofs
