/-
  DERIVED: THE SHELF's CONTRACTS AT THIS DUMP, IN PLAIN WORDS (tools/lay-plain.mjs out of 'TryzLayB.lean', which tools/lay-shelf.mjs wrote): THE SAME DECLARATIONS UNDER THE SAME NAMES: 'import', 'namespace', 'open', 'def', 'theorem' AND NOTHING ELSE: no command of the shelf's: FOR A HAND-IN. Each laying: the table of numbers ('.._ren') and one theorem, a field a fact of the dump's own or the kernel's comparison; each contract: ONE APPLICATION.
-/
import Derived.Test.YtknfaabhlcdeoaaGreatDoorProg
import Derived.Shelf.SlGeneric
import Derived.Shelf.SlicesQ.IndexFunc
import Derived.Shelf.SlSortCmp.WholeK
import Derived.Shelf.SlSortCmp.NoneTotal
import Derived.Shelf.SlicesE.Clone
import Derived.Ground.SlgfProg
import Derived.Ground.SlsfProg
import Derived.Ground.SlgnProg
namespace Go.Proofs
open Go.Shelf
def Tryz.idxE_ren : Go.Shelf.Ren := ⟨fun | 6 => 153 | n => n, fun | 22 => 34 | 23 => 33 | 25 => 144 | 3 => 3 | 0 => 0 | 4 => 4 | n => n, fun | n => n⟩
theorem Tryz.idxE : Go.Proofs.SlLaysH0.n6 Tryz.prog Tryz.idxE_ren := {
  mixed := by kernel_rfl
  f6 := ⟨Tryz.f153.name, by decide, Tryz.func153.trans (congrArg some (by kernel_rfl))⟩
  t0 := Tryz.underlying0
  a0 := Tryz.isAgg0
  z0 := Tryz.sizeOf0
  v0 := Tryz.zeroValue0
  t3 := Tryz.underlying3
  a3 := Tryz.isAgg3
  z3 := Tryz.sizeOf3
  v3 := Tryz.zeroValue3
  t4 := Tryz.underlying4
  a4 := Tryz.isAgg4
  z4 := Tryz.sizeOf4
  v4 := Tryz.zeroValue4
  t22 := Tryz.underlying34
  a22 := Tryz.isAgg34
  z22 := Tryz.sizeOf34
  v22 := Tryz.zeroValue34
  t25 := Tryz.underlying144
  a25 := Tryz.isAgg144
  z25 := Tryz.sizeOf144
  v25 := Tryz.zeroValue144 }
def Tryz.sortE_ren : Go.Shelf.Ren := ⟨fun | 6 => 77 | 15 => 111 | 14 => 127 | 28 => 171 | 29 => 172 | 20 => 188 | 21 => 189 | 22 => 190 | 23 => 191 | 24 => 192 | 25 => 193 | 26 => 194 | 27 => 195 | 46 => 236 | 47 => 215 | 48 => 216 | 49 => 237 | 50 => 238 | 57 => 256 | n => n, fun | 22 => 34 | 24 => 33 | 25 => 135 | 3 => 3 | 39 => 168 | 0 => 0 | 53 => 45 | 55 => 220 | 4 => 4 | 46 => 213 | 45 => 212 | 50 => 146 | 5 => 5 | 9 => 9 | 66 => 257 | 70 => 261 | 76 => 283 | 77 => 125 | n => n, fun | n => n⟩
theorem Tryz.sortE : Go.Proofs.SlLaysF0.n6 Tryz.prog Tryz.sortE_ren := {
  mixed := by kernel_rfl
  f6 := ⟨Tryz.f77.name, by decide, Tryz.func77.trans (congrArg some (by kernel_rfl))⟩
  f14 := ⟨Tryz.f127.name, by decide, Tryz.func127.trans (congrArg some (by kernel_rfl))⟩
  f15 := Tryz.func111.trans (congrArg some (by kernel_rfl))
  f20 := ⟨Tryz.f188.name, by decide, Tryz.func188.trans (congrArg some (by kernel_rfl))⟩
  f21 := ⟨Tryz.f189.name, by decide, Tryz.func189.trans (congrArg some (by kernel_rfl))⟩
  f22 := ⟨Tryz.f190.name, by decide, Tryz.func190.trans (congrArg some (by kernel_rfl))⟩
  f23 := ⟨Tryz.f191.name, by decide, Tryz.func191.trans (congrArg some (by kernel_rfl))⟩
  f24 := ⟨Tryz.f192.name, by decide, Tryz.func192.trans (congrArg some (by kernel_rfl))⟩
  f25 := ⟨Tryz.f193.name, by decide, Tryz.func193.trans (congrArg some (by kernel_rfl))⟩
  f26 := ⟨Tryz.f194.name, by decide, Tryz.func194.trans (congrArg some (by kernel_rfl))⟩
  f27 := ⟨Tryz.f195.name, by decide, Tryz.func195.trans (congrArg some (by kernel_rfl))⟩
  f28 := Tryz.func171.trans (congrArg some (by kernel_rfl))
  f29 := Tryz.func172.trans (congrArg some (by kernel_rfl))
  f46 := ⟨Tryz.f236.name, by decide, Tryz.func236.trans (congrArg some (by kernel_rfl))⟩
  f47 := Tryz.func215.trans (congrArg some (by kernel_rfl))
  f48 := Tryz.func216.trans (congrArg some (by kernel_rfl))
  f49 := ⟨Tryz.f237.name, by decide, Tryz.func237.trans (congrArg some (by kernel_rfl))⟩
  f50 := ⟨Tryz.f238.name, by decide, Tryz.func238.trans (congrArg some (by kernel_rfl))⟩
  f57 := ⟨Tryz.f256.name, by decide, Tryz.func256.trans (congrArg some (by kernel_rfl))⟩
  t0 := Tryz.underlying0
  a0 := Tryz.isAgg0
  z0 := Tryz.sizeOf0
  v0 := Tryz.zeroValue0
  t3 := Tryz.underlying3
  a3 := Tryz.isAgg3
  z3 := Tryz.sizeOf3
  v3 := Tryz.zeroValue3
  t4 := Tryz.underlying4
  a4 := Tryz.isAgg4
  z4 := Tryz.sizeOf4
  v4 := Tryz.zeroValue4
  t5 := Tryz.underlying5
  a5 := Tryz.isAgg5
  z5 := Tryz.sizeOf5
  v5 := Tryz.zeroValue5
  t9 := Tryz.underlying9
  a9 := Tryz.isAgg9
  z9 := Tryz.sizeOf9
  v9 := Tryz.zeroValue9
  t22 := Tryz.underlying34
  a22 := Tryz.isAgg34
  z22 := Tryz.sizeOf34
  v22 := Tryz.zeroValue34
  t25 := Tryz.underlying135
  a25 := Tryz.isAgg135
  z25 := Tryz.sizeOf135
  v25 := Tryz.zeroValue135
  t39 := Tryz.underlying168
  a39 := Tryz.isAgg168
  z39 := Tryz.sizeOf168
  v39 := Tryz.zeroValue168
  t45 := Tryz.underlying212
  a45 := Tryz.isAgg212
  z45 := Tryz.sizeOf212
  v45 := Tryz.zeroValue212
  t46 := Tryz.underlying213
  a46 := Tryz.isAgg213
  z46 := Tryz.sizeOf213
  v46 := Tryz.zeroValue213
  t50 := Tryz.underlying146
  a50 := Tryz.isAgg146
  z50 := Tryz.sizeOf146
  v50 := Tryz.zeroValue146
  t53 := Tryz.underlying45
  a53 := Tryz.isAgg45
  z53 := Tryz.sizeOf45
  v53 := Tryz.zeroValue45
  t55 := Tryz.underlying220
  a55 := Tryz.isAgg220
  z55 := Tryz.sizeOf220
  v55 := Tryz.zeroValue220
  t66 := Tryz.underlying257
  a66 := Tryz.isAgg257
  z66 := Tryz.sizeOf257
  v66 := Tryz.zeroValue257
  t70 := Tryz.underlying261
  a70 := Tryz.isAgg261
  z70 := Tryz.sizeOf261
  v70 := Tryz.zeroValue261
  t76 := Tryz.underlying283
  a76 := Tryz.isAgg283
  z76 := Tryz.sizeOf283
  v76 := Tryz.zeroValue283
  t77 := Tryz.underlying125
  a77 := Tryz.isAgg125
  z77 := Tryz.sizeOf125
  v77 := Tryz.zeroValue125 }
def Tryz.cloneE_ren : Go.Shelf.Ren := ⟨fun | 41 => 84 | n => n, fun | 22 => 34 | 23 => 33 | 4 => 4 | n => n, fun | n => n⟩
theorem Tryz.cloneE : Go.Proofs.SlLaysE0.n41 Tryz.prog Tryz.cloneE_ren := {
  mixed := by kernel_rfl
  f41 := ⟨Tryz.f84.name, by decide, Tryz.func84.trans (congrArg some (by kernel_rfl))⟩
  t4 := Tryz.underlying4
  a4 := Tryz.isAgg4
  z4 := Tryz.sizeOf4
  v4 := Tryz.zeroValue4
  t22 := Tryz.underlying34
  a22 := Tryz.isAgg34
  z22 := Tryz.sizeOf34
  v22 := Tryz.zeroValue34 }
end Go.Proofs
