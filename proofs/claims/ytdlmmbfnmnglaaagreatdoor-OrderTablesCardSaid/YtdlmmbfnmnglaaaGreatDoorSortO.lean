/-
  DERIVED: THE SHELF's CONTRACTS AT THIS DUMP, IN PLAIN WORDS (tools/lay-plain.mjs out of 'TryzSortO.lean', which tools/lay-shelf.mjs wrote): THE SAME DECLARATIONS UNDER THE SAME NAMES: 'import', 'namespace', 'open', 'def', 'theorem' AND NOTHING ELSE: no command of the shelf's: FOR A HAND-IN. Each laying: the table of numbers ('.._ren') and one theorem, a field a fact of the dump's own or the kernel's comparison; each contract: ONE APPLICATION.
-/
import Derived.Shelf.SlSortCmp.WholeK
import Derived.Ground.SlsfProg
import Derived.Shelf.SlGeneric
import Derived.Test.YtdlmmbfnmnglaaaGreatDoorProg
namespace Go.Proofs
open Go.Shelf
def Tryz.sortOst_ren : Go.Shelf.Ren := ⟨fun | 6 => 99 | 15 => 126 | 14 => 128 | 28 => 164 | 29 => 165 | 20 => 166 | 21 => 167 | 22 => 168 | 23 => 169 | 24 => 170 | 25 => 171 | 26 => 172 | 27 => 173 | 46 => 204 | 47 => 200 | 48 => 201 | 49 => 205 | 50 => 206 | 57 => 227 | n => n, fun | 22 => 97 | 24 => 45 | 25 => 86 | 3 => 3 | 39 => 158 | 0 => 0 | 53 => 202 | 55 => 204 | 4 => 4 | 46 => 196 | 45 => 195 | 50 => 122 | 5 => 5 | 9 => 9 | 66 => 233 | 70 => 237 | 76 => 259 | 77 => 260 | n => n, fun | n => n⟩
theorem Tryz.sortOst : Go.Proofs.SlLaysF0.n6 Tryz.prog Tryz.sortOst_ren := {
  mixed := by kernel_rfl
  f6 := ⟨Tryz.f99.name, by decide, Tryz.func99.trans (congrArg some (by kernel_rfl))⟩
  f14 := ⟨Tryz.f128.name, by decide, Tryz.func128.trans (congrArg some (by kernel_rfl))⟩
  f15 := Tryz.func126.trans (congrArg some (by kernel_rfl))
  f20 := ⟨Tryz.f166.name, by decide, Tryz.func166.trans (congrArg some (by kernel_rfl))⟩
  f21 := ⟨Tryz.f167.name, by decide, Tryz.func167.trans (congrArg some (by kernel_rfl))⟩
  f22 := ⟨Tryz.f168.name, by decide, Tryz.func168.trans (congrArg some (by kernel_rfl))⟩
  f23 := ⟨Tryz.f169.name, by decide, Tryz.func169.trans (congrArg some (by kernel_rfl))⟩
  f24 := ⟨Tryz.f170.name, by decide, Tryz.func170.trans (congrArg some (by kernel_rfl))⟩
  f25 := ⟨Tryz.f171.name, by decide, Tryz.func171.trans (congrArg some (by kernel_rfl))⟩
  f26 := ⟨Tryz.f172.name, by decide, Tryz.func172.trans (congrArg some (by kernel_rfl))⟩
  f27 := ⟨Tryz.f173.name, by decide, Tryz.func173.trans (congrArg some (by kernel_rfl))⟩
  f28 := Tryz.func164.trans (congrArg some (by kernel_rfl))
  f29 := Tryz.func165.trans (congrArg some (by kernel_rfl))
  f46 := ⟨Tryz.f204.name, by decide, Tryz.func204.trans (congrArg some (by kernel_rfl))⟩
  f47 := Tryz.func200.trans (congrArg some (by kernel_rfl))
  f48 := Tryz.func201.trans (congrArg some (by kernel_rfl))
  f49 := ⟨Tryz.f205.name, by decide, Tryz.func205.trans (congrArg some (by kernel_rfl))⟩
  f50 := ⟨Tryz.f206.name, by decide, Tryz.func206.trans (congrArg some (by kernel_rfl))⟩
  f57 := ⟨Tryz.f227.name, by decide, Tryz.func227.trans (congrArg some (by kernel_rfl))⟩
  t0 := Tryz.underlying0
  a0 := Tryz.isAgg0
  z0 := Tryz.sizeOf0
  v0 := Tryz.zeroValue0
  t3 := Tryz.underlying3
  a3 := Tryz.isAgg3
  z3 := Tryz.sizeOf3
  v3 := Tryz.zeroValue3
  t4 := Tryz.underlying4
  a4 := Tryz.isAgg4
  z4 := Tryz.sizeOf4
  v4 := Tryz.zeroValue4
  t5 := Tryz.underlying5
  a5 := Tryz.isAgg5
  z5 := Tryz.sizeOf5
  v5 := Tryz.zeroValue5
  t9 := Tryz.underlying9
  a9 := Tryz.isAgg9
  z9 := Tryz.sizeOf9
  v9 := Tryz.zeroValue9
  t22 := Tryz.underlying97
  a22 := Tryz.isAgg97
  z22 := Tryz.sizeOf97
  v22 := Tryz.zeroValue97
  t25 := Tryz.underlying86
  a25 := Tryz.isAgg86
  z25 := Tryz.sizeOf86
  v25 := Tryz.zeroValue86
  t39 := Tryz.underlying158
  a39 := Tryz.isAgg158
  z39 := Tryz.sizeOf158
  v39 := Tryz.zeroValue158
  t45 := Tryz.underlying195
  a45 := Tryz.isAgg195
  z45 := Tryz.sizeOf195
  v45 := Tryz.zeroValue195
  t46 := Tryz.underlying196
  a46 := Tryz.isAgg196
  z46 := Tryz.sizeOf196
  v46 := Tryz.zeroValue196
  t50 := Tryz.underlying122
  a50 := Tryz.isAgg122
  z50 := Tryz.sizeOf122
  v50 := Tryz.zeroValue122
  t53 := Tryz.underlying202
  a53 := Tryz.isAgg202
  z53 := Tryz.sizeOf202
  v53 := Tryz.zeroValue202
  t55 := Tryz.underlying204
  a55 := Tryz.isAgg204
  z55 := Tryz.sizeOf204
  v55 := Tryz.zeroValue204
  t66 := Tryz.underlying233
  a66 := Tryz.isAgg233
  z66 := Tryz.sizeOf233
  v66 := Tryz.zeroValue233
  t70 := Tryz.underlying237
  a70 := Tryz.isAgg237
  z70 := Tryz.sizeOf237
  v70 := Tryz.zeroValue237
  t76 := Tryz.underlying259
  a76 := Tryz.isAgg259
  z76 := Tryz.sizeOf259
  v76 := Tryz.zeroValue259
  t77 := Tryz.underlying260
  a77 := Tryz.isAgg260
  z77 := Tryz.sizeOf260
  v77 := Tryz.zeroValue260 }
end Go.Proofs
