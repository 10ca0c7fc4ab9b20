/-
  DERIVED: THE SHELF's CONTRACTS AT THIS DUMP, IN PLAIN WORDS (tools/lay-plain.mjs out of 'TryzIter.lean', which tools/lay-shelf.mjs wrote): THE SAME DECLARATIONS UNDER THE SAME NAMES: 'import', 'namespace', 'open', 'def', 'theorem' AND NOTHING ELSE: no command of the shelf's: FOR A HAND-IN. Each laying: the table of numbers ('.._ren') and one theorem, a field a fact of the dump's own or the kernel's comparison; each contract: ONE APPLICATION.
-/
import Derived.Test.YtknfaabhlcdeoaaGreatDoorProg
import Derived.Shelf.SlGeneric
import Derived.Shelf.SlIterI.Nil
import Derived.Shelf.Sort.Plain
import Derived.Shelf.Slices.In.SortNone
import Derived.Ground.GgzProg
import Derived.Ground.NamesProg
namespace Go.Proofs
open Go.Shelf
def Tryz.keysA_ren : Go.Shelf.Ren := ⟨fun | 7 => 68 | 10 => 121 | n => n, fun | 23 => 106 | 26 => 3 | 3 => 116 | 28 => 121 | 0 => 0 | 27 => 120 | 33 => 188 | 4 => 4 | n => n, fun | n => n⟩
theorem Tryz.keysA : Go.Proofs.SlLaysZI.n7 Tryz.prog Tryz.keysA_ren := {
  mixed := by kernel_rfl
  f7 := ⟨Tryz.f68.name, by decide, Tryz.func68.trans (congrArg some (by kernel_rfl))⟩
  f10 := ⟨Tryz.f121.name, by decide, Tryz.func121.trans (congrArg some (by kernel_rfl))⟩
  t0 := Tryz.underlying0
  a0 := Tryz.isAgg0
  z0 := Tryz.sizeOf0
  v0 := Tryz.zeroValue0
  t4 := Tryz.underlying4
  a4 := Tryz.isAgg4
  z4 := Tryz.sizeOf4
  v4 := Tryz.zeroValue4
  t23 := Tryz.underlying106
  a23 := Tryz.isAgg106
  z23 := Tryz.sizeOf106
  v23 := Tryz.zeroValue106
  t26 := Tryz.underlying3
  a26 := Tryz.isAgg3
  z26 := Tryz.sizeOf3
  v26 := Tryz.zeroValue3
  t27 := Tryz.underlying120
  a27 := Tryz.isAgg120
  z27 := Tryz.sizeOf120
  v27 := Tryz.zeroValue120
  t28 := Tryz.underlying121
  a28 := Tryz.isAgg121
  z28 := Tryz.sizeOf121
  v28 := Tryz.zeroValue121
  t33 := Tryz.underlying188
  a33 := Tryz.isAgg188
  z33 := Tryz.sizeOf188
  v33 := Tryz.zeroValue188 }
def Tryz.sortedA_ren : Go.Shelf.Ren := ⟨fun | 6 => 67 | 8 => 119 | 9 => 120 | 11 => 178 | 13 => 111 | 12 => 179 | 23 => 171 | 24 => 172 | 14 => 220 | 15 => 221 | 16 => 222 | 17 => 223 | 18 => 224 | 19 => 225 | 20 => 226 | 21 => 227 | 22 => 228 | 25 => 247 | 26 => 215 | 27 => 216 | 28 => 248 | 29 => 249 | 30 => 250 | 31 => 260 | n => n, fun | 26 => 3 | 28 => 121 | 24 => 55 | 0 => 0 | 3 => 3 | 37 => 168 | 48 => 45 | 50 => 220 | 4 => 4 | 40 => 213 | 39 => 212 | 45 => 146 | 5 => 5 | 9 => 9 | 51 => 257 | 55 => 261 | 57 => 283 | 58 => 125 | 33 => 188 | n => n, fun | n => n⟩
theorem Tryz.sortedA : Go.Proofs.SlLaysZI.n6 Tryz.prog Tryz.sortedA_ren := {
  mixed := by kernel_rfl
  f6 := ⟨Tryz.f67.name, by decide, Tryz.func67.trans (congrArg some (by kernel_rfl))⟩
  f8 := ⟨Tryz.f119.name, by decide, Tryz.func119.trans (congrArg some (by kernel_rfl))⟩
  f11 := ⟨Tryz.f178.name, by decide, Tryz.func178.trans (congrArg some (by kernel_rfl))⟩
  t0 := Tryz.underlying0
  a0 := Tryz.isAgg0
  z0 := Tryz.sizeOf0
  v0 := Tryz.zeroValue0
  t24 := Tryz.underlying55
  a24 := Tryz.isAgg55
  z24 := Tryz.sizeOf55
  v24 := Tryz.zeroValue55
  t26 := Tryz.underlying3
  a26 := Tryz.isAgg3
  z26 := Tryz.sizeOf3
  v26 := Tryz.zeroValue3
  t28 := Tryz.underlying121
  a28 := Tryz.isAgg121
  z28 := Tryz.sizeOf121
  v28 := Tryz.zeroValue121
  i26 := by kernel_rfl }
def Tryz.lays189_ren : Go.Shelf.Ren := ⟨fun | 189 => 120 | 125 => 111 | 257 => 179 | 128 => 171 | 129 => 172 | 294 => 220 | 295 => 221 | 296 => 222 | 297 => 223 | 298 => 224 | 299 => 225 | 216 => 226 | 300 => 227 | 301 => 228 | 328 => 247 | 329 => 215 | 330 => 216 | 331 => 248 | 332 => 249 | 215 => 250 | 343 => 260 | n => n, fun | 28 => 55 | 3 => 3 | 46 => 168 | 0 => 0 | 51 => 45 | 53 => 220 | 4 => 4 | 183 => 213 | 182 => 212 | 131 => 146 | 5 => 5 | 9 => 9 | 218 => 257 | 222 => 261 | 228 => 283 | 229 => 125 | n => n, fun | n => n⟩
theorem Tryz.lays189 : Go.Proofs.Lays.n189 Tryz.prog Tryz.lays189_ren := {
  mixed := by kernel_rfl
  f125 := Tryz.func111.trans (congrArg some (by kernel_rfl))
  f128 := Tryz.func171.trans (congrArg some (by kernel_rfl))
  f129 := Tryz.func172.trans (congrArg some (by kernel_rfl))
  f189 := Tryz.func120.trans (congrArg some (by kernel_rfl))
  f215 := Tryz.func250.trans (congrArg some (by kernel_rfl))
  f216 := Tryz.func226.trans (congrArg some (by kernel_rfl))
  f257 := Tryz.func179.trans (congrArg some (by kernel_rfl))
  f294 := Tryz.func220.trans (congrArg some (by kernel_rfl))
  f295 := Tryz.func221.trans (congrArg some (by kernel_rfl))
  f296 := Tryz.func222.trans (congrArg some (by kernel_rfl))
  f297 := Tryz.func223.trans (congrArg some (by kernel_rfl))
  f298 := Tryz.func224.trans (congrArg some (by kernel_rfl))
  f299 := Tryz.func225.trans (congrArg some (by kernel_rfl))
  f300 := Tryz.func227.trans (congrArg some (by kernel_rfl))
  f301 := Tryz.func228.trans (congrArg some (by kernel_rfl))
  f328 := Tryz.func247.trans (congrArg some (by kernel_rfl))
  f329 := Tryz.func215.trans (congrArg some (by kernel_rfl))
  f330 := Tryz.func216.trans (congrArg some (by kernel_rfl))
  f331 := Tryz.func248.trans (congrArg some (by kernel_rfl))
  f332 := Tryz.func249.trans (congrArg some (by kernel_rfl))
  f343 := Tryz.func260.trans (congrArg some (by kernel_rfl))
  t0 := Tryz.underlying0
  a0 := Tryz.isAgg0
  z0 := Tryz.sizeOf0
  v0 := Tryz.zeroValue0
  t3 := Tryz.underlying3
  a3 := Tryz.isAgg3
  z3 := Tryz.sizeOf3
  v3 := Tryz.zeroValue3
  t4 := Tryz.underlying4
  a4 := Tryz.isAgg4
  z4 := Tryz.sizeOf4
  v4 := Tryz.zeroValue4
  t5 := Tryz.underlying5
  a5 := Tryz.isAgg5
  z5 := Tryz.sizeOf5
  v5 := Tryz.zeroValue5
  t9 := Tryz.underlying9
  a9 := Tryz.isAgg9
  z9 := Tryz.sizeOf9
  v9 := Tryz.zeroValue9
  t28 := Tryz.underlying55
  a28 := Tryz.isAgg55
  z28 := Tryz.sizeOf55
  v28 := Tryz.zeroValue55
  t46 := Tryz.underlying168
  a46 := Tryz.isAgg168
  z46 := Tryz.sizeOf168
  v46 := Tryz.zeroValue168
  t51 := Tryz.underlying45
  a51 := Tryz.isAgg45
  z51 := Tryz.sizeOf45
  v51 := Tryz.zeroValue45
  t53 := Tryz.underlying220
  a53 := Tryz.isAgg220
  z53 := Tryz.sizeOf220
  v53 := Tryz.zeroValue220
  t131 := Tryz.underlying146
  a131 := Tryz.isAgg146
  z131 := Tryz.sizeOf146
  v131 := Tryz.zeroValue146
  t182 := Tryz.underlying212
  a182 := Tryz.isAgg212
  z182 := Tryz.sizeOf212
  v182 := Tryz.zeroValue212
  t183 := Tryz.underlying213
  a183 := Tryz.isAgg213
  z183 := Tryz.sizeOf213
  v183 := Tryz.zeroValue213
  t218 := Tryz.underlying257
  a218 := Tryz.isAgg257
  z218 := Tryz.sizeOf257
  v218 := Tryz.zeroValue257
  t222 := Tryz.underlying261
  a222 := Tryz.isAgg261
  z222 := Tryz.sizeOf261
  v222 := Tryz.zeroValue261
  t228 := Tryz.underlying283
  a228 := Tryz.isAgg283
  z228 := Tryz.sizeOf283
  v228 := Tryz.zeroValue283
  t229 := Tryz.underlying125
  a229 := Tryz.isAgg125
  z229 := Tryz.sizeOf125
  v229 := Tryz.zeroValue125 }
end Go.Proofs
