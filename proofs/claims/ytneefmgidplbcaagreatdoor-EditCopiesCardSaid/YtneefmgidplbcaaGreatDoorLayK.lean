/-
  DERIVED: THE SHELF's CONTRACTS AT THIS DUMP, IN PLAIN WORDS (tools/lay-plain.mjs out of 'TryzLayK.lean', which tools/lay-shelf.mjs wrote): THE SAME DECLARATIONS UNDER THE SAME NAMES: 'import', 'namespace', 'open', 'def', 'theorem' AND NOTHING ELSE: no command of the shelf's: FOR A HAND-IN. Each laying: the table of numbers ('.._ren') and one theorem, a field a fact of the dump's own or the kernel's comparison; each contract: ONE APPLICATION.
-/
import Derived.Test.YtneefmgidplbcaaGreatDoorProg
import Derived.Shelf.SlGeneric
import Derived.Shelf.SlIter.Stops
import Derived.Ground.GgzProg
import Derived.Shelf.Sort.Plain
import Derived.Shelf.Slices.In.SortNone
import Derived.Ground.NamesProg
namespace Go.Proofs
open Go.Shelf
def Tryz.keysS_ren : Go.Shelf.Ren := ⟨fun | 7 => 169 | 10 => 209 | n => n, fun | 23 => 114 | 26 => 9 | 3 => 4 | 28 => 175 | 0 => 0 | 27 => 174 | 33 => 154 | 4 => 4 | n => n, fun | n => n⟩
theorem Tryz.keysS : Go.Proofs.SlLaysZ.n7 Tryz.prog Tryz.keysS_ren := {
  mixed := by kernel_rfl
  f7 := ⟨Tryz.f169.name, by decide, Tryz.func169.trans (congrArg some (by kernel_rfl))⟩
  f10 := ⟨Tryz.f209.name, by decide, Tryz.func209.trans (congrArg some (by kernel_rfl))⟩
  t0 := Tryz.underlying0
  a0 := Tryz.isAgg0
  z0 := Tryz.sizeOf0
  v0 := Tryz.zeroValue0
  t4 := Tryz.underlying4
  a4 := Tryz.isAgg4
  z4 := Tryz.sizeOf4
  v4 := Tryz.zeroValue4
  t23 := Tryz.underlying114
  a23 := Tryz.isAgg114
  z23 := Tryz.sizeOf114
  v23 := Tryz.zeroValue114
  t26 := Tryz.underlying9
  a26 := Tryz.isAgg9
  z26 := Tryz.sizeOf9
  v26 := Tryz.zeroValue9
  t27 := Tryz.underlying174
  a27 := Tryz.isAgg174
  z27 := Tryz.sizeOf174
  v27 := Tryz.zeroValue174
  t28 := Tryz.underlying175
  a28 := Tryz.isAgg175
  z28 := Tryz.sizeOf175
  v28 := Tryz.zeroValue175
  t33 := Tryz.underlying154
  a33 := Tryz.isAgg154
  z33 := Tryz.sizeOf154
  v33 := Tryz.zeroValue154 }
def Tryz.lays190_ren : Go.Shelf.Ren := ⟨fun | 190 => 170 | 125 => 128 | 258 => 210 | 128 => 166 | 129 => 167 | 302 => 229 | 303 => 230 | 304 => 231 | 305 => 232 | 306 => 233 | 307 => 234 | 308 => 235 | 309 => 236 | 310 => 237 | 333 => 247 | 329 => 204 | 330 => 205 | 334 => 248 | 335 => 249 | 336 => 250 | 344 => 254 | n => n, fun | 31 => 29 | 9 => 9 | 3 => 3 | 46 => 195 | 0 => 0 | 51 => 42 | 53 => 227 | 4 => 4 | 183 => 219 | 182 => 218 | 131 => 119 | 5 => 5 | 218 => 254 | 222 => 258 | 228 => 272 | 229 => 98 | n => n, fun | n => n⟩
theorem Tryz.lays190 : Go.Proofs.Lays.n190 Tryz.prog Tryz.lays190_ren := {
  mixed := by kernel_rfl
  f125 := Tryz.func128.trans (congrArg some (by kernel_rfl))
  f128 := Tryz.func166.trans (congrArg some (by kernel_rfl))
  f129 := Tryz.func167.trans (congrArg some (by kernel_rfl))
  f190 := Tryz.func170.trans (congrArg some (by kernel_rfl))
  f258 := Tryz.func210.trans (congrArg some (by kernel_rfl))
  f302 := Tryz.func229.trans (congrArg some (by kernel_rfl))
  f303 := Tryz.func230.trans (congrArg some (by kernel_rfl))
  f304 := Tryz.func231.trans (congrArg some (by kernel_rfl))
  f305 := Tryz.func232.trans (congrArg some (by kernel_rfl))
  f306 := Tryz.func233.trans (congrArg some (by kernel_rfl))
  f307 := Tryz.func234.trans (congrArg some (by kernel_rfl))
  f308 := Tryz.func235.trans (congrArg some (by kernel_rfl))
  f309 := Tryz.func236.trans (congrArg some (by kernel_rfl))
  f310 := Tryz.func237.trans (congrArg some (by kernel_rfl))
  f329 := Tryz.func204.trans (congrArg some (by kernel_rfl))
  f330 := Tryz.func205.trans (congrArg some (by kernel_rfl))
  f333 := Tryz.func247.trans (congrArg some (by kernel_rfl))
  f334 := Tryz.func248.trans (congrArg some (by kernel_rfl))
  f335 := Tryz.func249.trans (congrArg some (by kernel_rfl))
  f336 := Tryz.func250.trans (congrArg some (by kernel_rfl))
  f344 := Tryz.func254.trans (congrArg some (by kernel_rfl))
  t0 := Tryz.underlying0
  a0 := Tryz.isAgg0
  z0 := Tryz.sizeOf0
  v0 := Tryz.zeroValue0
  t3 := Tryz.underlying3
  a3 := Tryz.isAgg3
  z3 := Tryz.sizeOf3
  v3 := Tryz.zeroValue3
  t4 := Tryz.underlying4
  a4 := Tryz.isAgg4
  z4 := Tryz.sizeOf4
  v4 := Tryz.zeroValue4
  t5 := Tryz.underlying5
  a5 := Tryz.isAgg5
  z5 := Tryz.sizeOf5
  v5 := Tryz.zeroValue5
  t9 := Tryz.underlying9
  a9 := Tryz.isAgg9
  z9 := Tryz.sizeOf9
  v9 := Tryz.zeroValue9
  t31 := Tryz.underlying29
  a31 := Tryz.isAgg29
  z31 := Tryz.sizeOf29
  v31 := Tryz.zeroValue29
  t46 := Tryz.underlying195
  a46 := Tryz.isAgg195
  z46 := Tryz.sizeOf195
  v46 := Tryz.zeroValue195
  t51 := Tryz.underlying42
  a51 := Tryz.isAgg42
  z51 := Tryz.sizeOf42
  v51 := Tryz.zeroValue42
  t53 := Tryz.underlying227
  a53 := Tryz.isAgg227
  z53 := Tryz.sizeOf227
  v53 := Tryz.zeroValue227
  t131 := Tryz.underlying119
  a131 := Tryz.isAgg119
  z131 := Tryz.sizeOf119
  v131 := Tryz.zeroValue119
  t182 := Tryz.underlying218
  a182 := Tryz.isAgg218
  z182 := Tryz.sizeOf218
  v182 := Tryz.zeroValue218
  t183 := Tryz.underlying219
  a183 := Tryz.isAgg219
  z183 := Tryz.sizeOf219
  v183 := Tryz.zeroValue219
  t218 := Tryz.underlying254
  a218 := Tryz.isAgg254
  z218 := Tryz.sizeOf254
  v218 := Tryz.zeroValue254
  t222 := Tryz.underlying258
  a222 := Tryz.isAgg258
  z222 := Tryz.sizeOf258
  v222 := Tryz.zeroValue258
  t228 := Tryz.underlying272
  a228 := Tryz.isAgg272
  z228 := Tryz.sizeOf272
  v228 := Tryz.zeroValue272
  t229 := Tryz.underlying98
  a229 := Tryz.isAgg98
  z229 := Tryz.sizeOf98
  v229 := Tryz.zeroValue98 }
end Go.Proofs
