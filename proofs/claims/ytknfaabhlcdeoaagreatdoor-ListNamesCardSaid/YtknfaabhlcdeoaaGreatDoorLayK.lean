/-
  DERIVED: THE SHELF's CONTRACTS AT THIS DUMP, IN PLAIN WORDS (tools/lay-plain.mjs out of 'TryzLayK.lean', which tools/lay-shelf.mjs wrote): THE SAME DECLARATIONS UNDER THE SAME NAMES: 'import', 'namespace', 'open', 'def', 'theorem' AND NOTHING ELSE: no command of the shelf's: FOR A HAND-IN. Each laying: the table of numbers ('.._ren') and one theorem, a field a fact of the dump's own or the kernel's comparison; each contract: ONE APPLICATION.
-/
import Derived.Test.YtknfaabhlcdeoaaGreatDoorProg
import Derived.Shelf.SlGeneric
import Derived.Shelf.SlIter.Stops
import Derived.Ground.GgzProg
import Derived.Shelf.Sort.Plain
import Derived.Shelf.Slices.In.SortNone
import Derived.Ground.NamesProg
namespace Go.Proofs
open Go.Shelf
def Tryz.keysS_ren : Go.Shelf.Ren := ⟨fun | 7 => 56 | 10 => 109 | n => n, fun | 23 => 97 | 26 => 9 | 3 => 4 | 28 => 99 | 0 => 0 | 27 => 98 | 33 => 25 | 4 => 4 | n => n, fun | n => n⟩
theorem Tryz.keysS : Go.Proofs.SlLaysZ.n7 Tryz.prog Tryz.keysS_ren := {
  mixed := by kernel_rfl
  f7 := ⟨Tryz.f56.name, by decide, Tryz.func56.trans (congrArg some (by kernel_rfl))⟩
  f10 := ⟨Tryz.f109.name, by decide, Tryz.func109.trans (congrArg some (by kernel_rfl))⟩
  t0 := Tryz.underlying0
  a0 := Tryz.isAgg0
  z0 := Tryz.sizeOf0
  v0 := Tryz.zeroValue0
  t4 := Tryz.underlying4
  a4 := Tryz.isAgg4
  z4 := Tryz.sizeOf4
  v4 := Tryz.zeroValue4
  t23 := Tryz.underlying97
  a23 := Tryz.isAgg97
  z23 := Tryz.sizeOf97
  v23 := Tryz.zeroValue97
  t26 := Tryz.underlying9
  a26 := Tryz.isAgg9
  z26 := Tryz.sizeOf9
  v26 := Tryz.zeroValue9
  t27 := Tryz.underlying98
  a27 := Tryz.isAgg98
  z27 := Tryz.sizeOf98
  v27 := Tryz.zeroValue98
  t28 := Tryz.underlying99
  a28 := Tryz.isAgg99
  z28 := Tryz.sizeOf99
  v28 := Tryz.zeroValue99
  t33 := Tryz.underlying25
  a33 := Tryz.isAgg25
  z33 := Tryz.sizeOf25
  v33 := Tryz.zeroValue25 }
def Tryz.lays190_ren : Go.Shelf.Ren := ⟨fun | 190 => 59 | 125 => 111 | 258 => 110 | 128 => 171 | 129 => 172 | 302 => 162 | 303 => 163 | 304 => 164 | 305 => 165 | 306 => 166 | 307 => 167 | 308 => 168 | 309 => 169 | 310 => 170 | 333 => 214 | 329 => 215 | 330 => 216 | 334 => 217 | 335 => 218 | 336 => 219 | 344 => 246 | n => n, fun | 31 => 27 | 9 => 9 | 3 => 3 | 46 => 168 | 0 => 0 | 51 => 45 | 53 => 220 | 4 => 4 | 183 => 213 | 182 => 212 | 131 => 146 | 5 => 5 | 218 => 257 | 222 => 261 | 228 => 283 | 229 => 125 | n => n, fun | n => n⟩
theorem Tryz.lays190 : Go.Proofs.Lays.n190 Tryz.prog Tryz.lays190_ren := {
  mixed := by kernel_rfl
  f125 := Tryz.func111.trans (congrArg some (by kernel_rfl))
  f128 := Tryz.func171.trans (congrArg some (by kernel_rfl))
  f129 := Tryz.func172.trans (congrArg some (by kernel_rfl))
  f190 := Tryz.func59.trans (congrArg some (by kernel_rfl))
  f258 := Tryz.func110.trans (congrArg some (by kernel_rfl))
  f302 := Tryz.func162.trans (congrArg some (by kernel_rfl))
  f303 := Tryz.func163.trans (congrArg some (by kernel_rfl))
  f304 := Tryz.func164.trans (congrArg some (by kernel_rfl))
  f305 := Tryz.func165.trans (congrArg some (by kernel_rfl))
  f306 := Tryz.func166.trans (congrArg some (by kernel_rfl))
  f307 := Tryz.func167.trans (congrArg some (by kernel_rfl))
  f308 := Tryz.func168.trans (congrArg some (by kernel_rfl))
  f309 := Tryz.func169.trans (congrArg some (by kernel_rfl))
  f310 := Tryz.func170.trans (congrArg some (by kernel_rfl))
  f329 := Tryz.func215.trans (congrArg some (by kernel_rfl))
  f330 := Tryz.func216.trans (congrArg some (by kernel_rfl))
  f333 := Tryz.func214.trans (congrArg some (by kernel_rfl))
  f334 := Tryz.func217.trans (congrArg some (by kernel_rfl))
  f335 := Tryz.func218.trans (congrArg some (by kernel_rfl))
  f336 := Tryz.func219.trans (congrArg some (by kernel_rfl))
  f344 := Tryz.func246.trans (congrArg some (by kernel_rfl))
  t0 := Tryz.underlying0
  a0 := Tryz.isAgg0
  z0 := Tryz.sizeOf0
  v0 := Tryz.zeroValue0
  t3 := Tryz.underlying3
  a3 := Tryz.isAgg3
  z3 := Tryz.sizeOf3
  v3 := Tryz.zeroValue3
  t4 := Tryz.underlying4
  a4 := Tryz.isAgg4
  z4 := Tryz.sizeOf4
  v4 := Tryz.zeroValue4
  t5 := Tryz.underlying5
  a5 := Tryz.isAgg5
  z5 := Tryz.sizeOf5
  v5 := Tryz.zeroValue5
  t9 := Tryz.underlying9
  a9 := Tryz.isAgg9
  z9 := Tryz.sizeOf9
  v9 := Tryz.zeroValue9
  t31 := Tryz.underlying27
  a31 := Tryz.isAgg27
  z31 := Tryz.sizeOf27
  v31 := Tryz.zeroValue27
  t46 := Tryz.underlying168
  a46 := Tryz.isAgg168
  z46 := Tryz.sizeOf168
  v46 := Tryz.zeroValue168
  t51 := Tryz.underlying45
  a51 := Tryz.isAgg45
  z51 := Tryz.sizeOf45
  v51 := Tryz.zeroValue45
  t53 := Tryz.underlying220
  a53 := Tryz.isAgg220
  z53 := Tryz.sizeOf220
  v53 := Tryz.zeroValue220
  t131 := Tryz.underlying146
  a131 := Tryz.isAgg146
  z131 := Tryz.sizeOf146
  v131 := Tryz.zeroValue146
  t182 := Tryz.underlying212
  a182 := Tryz.isAgg212
  z182 := Tryz.sizeOf212
  v182 := Tryz.zeroValue212
  t183 := Tryz.underlying213
  a183 := Tryz.isAgg213
  z183 := Tryz.sizeOf213
  v183 := Tryz.zeroValue213
  t218 := Tryz.underlying257
  a218 := Tryz.isAgg257
  z218 := Tryz.sizeOf257
  v218 := Tryz.zeroValue257
  t222 := Tryz.underlying261
  a222 := Tryz.isAgg261
  z222 := Tryz.sizeOf261
  v222 := Tryz.zeroValue261
  t228 := Tryz.underlying283
  a228 := Tryz.isAgg283
  z228 := Tryz.sizeOf283
  v228 := Tryz.zeroValue283
  t229 := Tryz.underlying125
  a229 := Tryz.isAgg125
  z229 := Tryz.sizeOf125
  v229 := Tryz.zeroValue125 }
end Go.Proofs
