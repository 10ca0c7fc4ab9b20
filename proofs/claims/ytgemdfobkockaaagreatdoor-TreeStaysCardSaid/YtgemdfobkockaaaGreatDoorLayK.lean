/-
  DERIVED: THE SHELF's CONTRACTS AT THIS DUMP, IN PLAIN WORDS (tools/lay-plain.mjs out of 'TryzLayK.lean', which tools/lay-shelf.mjs wrote): THE SAME DECLARATIONS UNDER THE SAME NAMES: 'import', 'namespace', 'open', 'def', 'theorem' AND NOTHING ELSE: no command of the shelf's: FOR A HAND-IN. Each laying: the table of numbers ('.._ren') and one theorem, a field a fact of the dump's own or the kernel's comparison; each contract: ONE APPLICATION.
-/
import Derived.Test.YtgemdfobkockaaaGreatDoorProg
import Derived.Shelf.SlGeneric
import Derived.Shelf.SlIter.Stops
import Derived.Ground.GgzProg
import Derived.Shelf.Sort.Plain
import Derived.Shelf.Slices.In.SortNone
import Derived.Ground.NamesProg
namespace Go.Proofs
open Go.Shelf
def Tryz.keysS_ren : Go.Shelf.Ren := ⟨fun | 7 => 53 | 10 => 97 | n => n, fun | 23 => 94 | 26 => 9 | 3 => 4 | 28 => 96 | 0 => 0 | 27 => 95 | 33 => 38 | 4 => 4 | n => n, fun | n => n⟩
theorem Tryz.keysS : Go.Proofs.SlLaysZ.n7 Tryz.prog Tryz.keysS_ren := {
  mixed := by kernel_rfl
  f7 := ⟨Tryz.f53.name, by decide, Tryz.func53.trans (congrArg some (by kernel_rfl))⟩
  f10 := ⟨Tryz.f97.name, by decide, Tryz.func97.trans (congrArg some (by kernel_rfl))⟩
  t0 := Tryz.underlying0
  a0 := Tryz.isAgg0
  z0 := Tryz.sizeOf0
  v0 := Tryz.zeroValue0
  t4 := Tryz.underlying4
  a4 := Tryz.isAgg4
  z4 := Tryz.sizeOf4
  v4 := Tryz.zeroValue4
  t23 := Tryz.underlying94
  a23 := Tryz.isAgg94
  z23 := Tryz.sizeOf94
  v23 := Tryz.zeroValue94
  t26 := Tryz.underlying9
  a26 := Tryz.isAgg9
  z26 := Tryz.sizeOf9
  v26 := Tryz.zeroValue9
  t27 := Tryz.underlying95
  a27 := Tryz.isAgg95
  z27 := Tryz.sizeOf95
  v27 := Tryz.zeroValue95
  t28 := Tryz.underlying96
  a28 := Tryz.isAgg96
  z28 := Tryz.sizeOf96
  v28 := Tryz.zeroValue96
  t33 := Tryz.underlying38
  a33 := Tryz.isAgg38
  z33 := Tryz.sizeOf38
  v33 := Tryz.zeroValue38 }
def Tryz.lays190_ren : Go.Shelf.Ren := ⟨fun | 190 => 56 | 125 => 99 | 258 => 98 | 128 => 148 | 129 => 149 | 302 => 139 | 303 => 140 | 304 => 141 | 305 => 142 | 306 => 143 | 307 => 144 | 308 => 145 | 309 => 146 | 310 => 147 | 333 => 188 | 329 => 189 | 330 => 190 | 334 => 191 | 335 => 192 | 336 => 193 | 344 => 222 | n => n, fun | 31 => 25 | 9 => 9 | 3 => 3 | 46 => 147 | 0 => 0 | 51 => 50 | 53 => 199 | 4 => 4 | 183 => 192 | 182 => 191 | 131 => 185 | 5 => 5 | 218 => 239 | 222 => 243 | 228 => 265 | 229 => 126 | n => n, fun | n => n⟩
theorem Tryz.lays190 : Go.Proofs.Lays.n190 Tryz.prog Tryz.lays190_ren := {
  mixed := by kernel_rfl
  f125 := Tryz.func99.trans (congrArg some (by kernel_rfl))
  f128 := Tryz.func148.trans (congrArg some (by kernel_rfl))
  f129 := Tryz.func149.trans (congrArg some (by kernel_rfl))
  f190 := Tryz.func56.trans (congrArg some (by kernel_rfl))
  f258 := Tryz.func98.trans (congrArg some (by kernel_rfl))
  f302 := Tryz.func139.trans (congrArg some (by kernel_rfl))
  f303 := Tryz.func140.trans (congrArg some (by kernel_rfl))
  f304 := Tryz.func141.trans (congrArg some (by kernel_rfl))
  f305 := Tryz.func142.trans (congrArg some (by kernel_rfl))
  f306 := Tryz.func143.trans (congrArg some (by kernel_rfl))
  f307 := Tryz.func144.trans (congrArg some (by kernel_rfl))
  f308 := Tryz.func145.trans (congrArg some (by kernel_rfl))
  f309 := Tryz.func146.trans (congrArg some (by kernel_rfl))
  f310 := Tryz.func147.trans (congrArg some (by kernel_rfl))
  f329 := Tryz.func189.trans (congrArg some (by kernel_rfl))
  f330 := Tryz.func190.trans (congrArg some (by kernel_rfl))
  f333 := Tryz.func188.trans (congrArg some (by kernel_rfl))
  f334 := Tryz.func191.trans (congrArg some (by kernel_rfl))
  f335 := Tryz.func192.trans (congrArg some (by kernel_rfl))
  f336 := Tryz.func193.trans (congrArg some (by kernel_rfl))
  f344 := Tryz.func222.trans (congrArg some (by kernel_rfl))
  t0 := Tryz.underlying0
  a0 := Tryz.isAgg0
  z0 := Tryz.sizeOf0
  v0 := Tryz.zeroValue0
  t3 := Tryz.underlying3
  a3 := Tryz.isAgg3
  z3 := Tryz.sizeOf3
  v3 := Tryz.zeroValue3
  t4 := Tryz.underlying4
  a4 := Tryz.isAgg4
  z4 := Tryz.sizeOf4
  v4 := Tryz.zeroValue4
  t5 := Tryz.underlying5
  a5 := Tryz.isAgg5
  z5 := Tryz.sizeOf5
  v5 := Tryz.zeroValue5
  t9 := Tryz.underlying9
  a9 := Tryz.isAgg9
  z9 := Tryz.sizeOf9
  v9 := Tryz.zeroValue9
  t31 := Tryz.underlying25
  a31 := Tryz.isAgg25
  z31 := Tryz.sizeOf25
  v31 := Tryz.zeroValue25
  t46 := Tryz.underlying147
  a46 := Tryz.isAgg147
  z46 := Tryz.sizeOf147
  v46 := Tryz.zeroValue147
  t51 := Tryz.underlying50
  a51 := Tryz.isAgg50
  z51 := Tryz.sizeOf50
  v51 := Tryz.zeroValue50
  t53 := Tryz.underlying199
  a53 := Tryz.isAgg199
  z53 := Tryz.sizeOf199
  v53 := Tryz.zeroValue199
  t131 := Tryz.underlying185
  a131 := Tryz.isAgg185
  z131 := Tryz.sizeOf185
  v131 := Tryz.zeroValue185
  t182 := Tryz.underlying191
  a182 := Tryz.isAgg191
  z182 := Tryz.sizeOf191
  v182 := Tryz.zeroValue191
  t183 := Tryz.underlying192
  a183 := Tryz.isAgg192
  z183 := Tryz.sizeOf192
  v183 := Tryz.zeroValue192
  t218 := Tryz.underlying239
  a218 := Tryz.isAgg239
  z218 := Tryz.sizeOf239
  v218 := Tryz.zeroValue239
  t222 := Tryz.underlying243
  a222 := Tryz.isAgg243
  z222 := Tryz.sizeOf243
  v222 := Tryz.zeroValue243
  t228 := Tryz.underlying265
  a228 := Tryz.isAgg265
  z228 := Tryz.sizeOf265
  v228 := Tryz.zeroValue265
  t229 := Tryz.underlying126
  a229 := Tryz.isAgg126
  z229 := Tryz.sizeOf126
  v229 := Tryz.zeroValue126 }
end Go.Proofs
