/-
  DERIVED: THE SHELF's CONTRACTS AT THIS DUMP, IN PLAIN WORDS (tools/lay-plain.mjs out of 'YtaggjclaehigjaaShelf.lean', which tools/lay-shelf.mjs wrote): THE SAME DECLARATIONS UNDER THE SAME NAMES: 'import', 'namespace', 'open', 'def', 'theorem' AND NOTHING ELSE: no command of the shelf's: FOR A HAND-IN. Each laying: the table of numbers ('.._ren') and one theorem, a field a fact of the dump's own or the kernel's comparison; each contract: ONE APPLICATION.
-/
import Derived.Shelf.SlSortCmp.WholeK
import Derived.Ground.SlsfProg
import Derived.Test.YtaggjclaehigjaaProg
namespace Go.Proofs
open Go.Shelf
def Ytaggjclaehigjaa.sortPairs_ren : Go.Shelf.Ren := ⟨fun | 6 => 126 | 15 => 132 | 14 => 131 | 28 => 142 | 29 => 143 | 20 => 134 | 21 => 135 | 22 => 136 | 23 => 137 | 24 => 138 | 25 => 139 | 26 => 140 | 27 => 141 | 46 => 145 | 47 => 146 | 48 => 147 | 49 => 148 | 50 => 149 | 57 => 150 | n => n, fun | 22 => 128 | 24 => 131 | 25 => 172 | 3 => 3 | 39 => 193 | 0 => 0 | 53 => 202 | 55 => 204 | 4 => 4 | 46 => 196 | 45 => 195 | 50 => 47 | 5 => 5 | 9 => 9 | 66 => 205 | 70 => 209 | 76 => 211 | 77 => 212 | n => n, fun | n => n⟩
theorem Ytaggjclaehigjaa.sortPairs : Go.Proofs.SlLaysF0.n6 Try.prog Ytaggjclaehigjaa.sortPairs_ren := {
  mixed := by kernel_rfl
  f6 := ⟨Try.f126.name, by decide, Try.func126.trans (congrArg some (by kernel_rfl))⟩
  f14 := ⟨Try.f131.name, by decide, Try.func131.trans (congrArg some (by kernel_rfl))⟩
  f15 := Try.func132.trans (congrArg some (by kernel_rfl))
  f20 := ⟨Try.f134.name, by decide, Try.func134.trans (congrArg some (by kernel_rfl))⟩
  f21 := ⟨Try.f135.name, by decide, Try.func135.trans (congrArg some (by kernel_rfl))⟩
  f22 := ⟨Try.f136.name, by decide, Try.func136.trans (congrArg some (by kernel_rfl))⟩
  f23 := ⟨Try.f137.name, by decide, Try.func137.trans (congrArg some (by kernel_rfl))⟩
  f24 := ⟨Try.f138.name, by decide, Try.func138.trans (congrArg some (by kernel_rfl))⟩
  f25 := ⟨Try.f139.name, by decide, Try.func139.trans (congrArg some (by kernel_rfl))⟩
  f26 := ⟨Try.f140.name, by decide, Try.func140.trans (congrArg some (by kernel_rfl))⟩
  f27 := ⟨Try.f141.name, by decide, Try.func141.trans (congrArg some (by kernel_rfl))⟩
  f28 := Try.func142.trans (congrArg some (by kernel_rfl))
  f29 := Try.func143.trans (congrArg some (by kernel_rfl))
  f46 := ⟨Try.f145.name, by decide, Try.func145.trans (congrArg some (by kernel_rfl))⟩
  f47 := Try.func146.trans (congrArg some (by kernel_rfl))
  f48 := Try.func147.trans (congrArg some (by kernel_rfl))
  f49 := ⟨Try.f148.name, by decide, Try.func148.trans (congrArg some (by kernel_rfl))⟩
  f50 := ⟨Try.f149.name, by decide, Try.func149.trans (congrArg some (by kernel_rfl))⟩
  f57 := ⟨Try.f150.name, by decide, Try.func150.trans (congrArg some (by kernel_rfl))⟩
  t0 := Try.underlying0
  a0 := Try.isAgg0
  z0 := Try.sizeOf0
  v0 := Try.zeroValue0
  t3 := Try.underlying3
  a3 := Try.isAgg3
  z3 := Try.sizeOf3
  v3 := Try.zeroValue3
  t4 := Try.underlying4
  a4 := Try.isAgg4
  z4 := Try.sizeOf4
  v4 := Try.zeroValue4
  t5 := Try.underlying5
  a5 := Try.isAgg5
  z5 := Try.sizeOf5
  v5 := Try.zeroValue5
  t9 := Try.underlying9
  a9 := Try.isAgg9
  z9 := Try.sizeOf9
  v9 := Try.zeroValue9
  t22 := Try.underlying128
  a22 := Try.isAgg128
  z22 := Try.sizeOf128
  v22 := Try.zeroValue128
  t25 := Try.underlying172
  a25 := Try.isAgg172
  z25 := Try.sizeOf172
  v25 := Try.zeroValue172
  t39 := Try.underlying193
  a39 := Try.isAgg193
  z39 := Try.sizeOf193
  v39 := Try.zeroValue193
  t45 := Try.underlying195
  a45 := Try.isAgg195
  z45 := Try.sizeOf195
  v45 := Try.zeroValue195
  t46 := Try.underlying196
  a46 := Try.isAgg196
  z46 := Try.sizeOf196
  v46 := Try.zeroValue196
  t50 := Try.underlying47
  a50 := Try.isAgg47
  z50 := Try.sizeOf47
  v50 := Try.zeroValue47
  t53 := Try.underlying202
  a53 := Try.isAgg202
  z53 := Try.sizeOf202
  v53 := Try.zeroValue202
  t55 := Try.underlying204
  a55 := Try.isAgg204
  z55 := Try.sizeOf204
  v55 := Try.zeroValue204
  t66 := Try.underlying205
  a66 := Try.isAgg205
  z66 := Try.sizeOf205
  v66 := Try.zeroValue205
  t70 := Try.underlying209
  a70 := Try.isAgg209
  z70 := Try.sizeOf209
  v70 := Try.zeroValue209
  t76 := Try.underlying211
  a76 := Try.isAgg211
  z76 := Try.sizeOf211
  v76 := Try.zeroValue211
  t77 := Try.underlying212
  a77 := Try.isAgg212
  z77 := Try.sizeOf212
  v77 := Try.zeroValue212 }
end Go.Proofs
