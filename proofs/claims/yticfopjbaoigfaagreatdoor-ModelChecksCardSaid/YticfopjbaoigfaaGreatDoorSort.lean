/-
  DERIVED: THE SHELF's CONTRACTS AT THIS DUMP, IN PLAIN WORDS (tools/lay-plain.mjs out of 'TryzSort.lean', which tools/lay-shelf.mjs wrote): THE SAME DECLARATIONS UNDER THE SAME NAMES: 'import', 'namespace', 'open', 'def', 'theorem' AND NOTHING ELSE: no command of the shelf's: FOR A HAND-IN. Each laying: the table of numbers ('.._ren') and one theorem, a field a fact of the dump's own or the kernel's comparison; each contract: ONE APPLICATION.
-/
import Derived.Shelf.SlSortCmp.WholeK
import Derived.Ground.SlsfProg
import Derived.Shelf.SlGeneric
import Derived.Test.YticfopjbaoigfaaGreatDoorProg
namespace Go.Proofs
open Go.Shelf
def Tryz.sortOtc_ren : Go.Shelf.Ren := ⟨fun | 6 => 62 | 15 => 96 | 14 => 95 | 28 => 134 | 29 => 135 | 20 => 126 | 21 => 127 | 22 => 128 | 23 => 129 | 24 => 130 | 25 => 131 | 26 => 132 | 27 => 133 | 46 => 164 | 47 => 165 | 48 => 166 | 49 => 167 | 50 => 168 | 57 => 185 | n => n, fun | 22 => 22 | 24 => 62 | 25 => 68 | 3 => 3 | 39 => 127 | 0 => 0 | 53 => 161 | 55 => 146 | 4 => 4 | 46 => 154 | 45 => 153 | 50 => 158 | 5 => 5 | 9 => 9 | 66 => 190 | 70 => 194 | 76 => 206 | 77 => 207 | n => n, fun | n => n⟩
theorem Tryz.sortOtc : Go.Proofs.SlLaysF0.n6 Tryz.prog Tryz.sortOtc_ren := {
  mixed := by kernel_rfl
  f6 := ⟨Tryz.f62.name, by decide, Tryz.func62.trans (congrArg some (by kernel_rfl))⟩
  f14 := ⟨Tryz.f95.name, by decide, Tryz.func95.trans (congrArg some (by kernel_rfl))⟩
  f15 := Tryz.func96.trans (congrArg some (by kernel_rfl))
  f20 := ⟨Tryz.f126.name, by decide, Tryz.func126.trans (congrArg some (by kernel_rfl))⟩
  f21 := ⟨Tryz.f127.name, by decide, Tryz.func127.trans (congrArg some (by kernel_rfl))⟩
  f22 := ⟨Tryz.f128.name, by decide, Tryz.func128.trans (congrArg some (by kernel_rfl))⟩
  f23 := ⟨Tryz.f129.name, by decide, Tryz.func129.trans (congrArg some (by kernel_rfl))⟩
  f24 := ⟨Tryz.f130.name, by decide, Tryz.func130.trans (congrArg some (by kernel_rfl))⟩
  f25 := ⟨Tryz.f131.name, by decide, Tryz.func131.trans (congrArg some (by kernel_rfl))⟩
  f26 := ⟨Tryz.f132.name, by decide, Tryz.func132.trans (congrArg some (by kernel_rfl))⟩
  f27 := ⟨Tryz.f133.name, by decide, Tryz.func133.trans (congrArg some (by kernel_rfl))⟩
  f28 := Tryz.func134.trans (congrArg some (by kernel_rfl))
  f29 := Tryz.func135.trans (congrArg some (by kernel_rfl))
  f46 := ⟨Tryz.f164.name, by decide, Tryz.func164.trans (congrArg some (by kernel_rfl))⟩
  f47 := Tryz.func165.trans (congrArg some (by kernel_rfl))
  f48 := Tryz.func166.trans (congrArg some (by kernel_rfl))
  f49 := ⟨Tryz.f167.name, by decide, Tryz.func167.trans (congrArg some (by kernel_rfl))⟩
  f50 := ⟨Tryz.f168.name, by decide, Tryz.func168.trans (congrArg some (by kernel_rfl))⟩
  f57 := ⟨Tryz.f185.name, by decide, Tryz.func185.trans (congrArg some (by kernel_rfl))⟩
  t0 := Tryz.underlying0
  a0 := Tryz.isAgg0
  z0 := Tryz.sizeOf0
  v0 := Tryz.zeroValue0
  t3 := Tryz.underlying3
  a3 := Tryz.isAgg3
  z3 := Tryz.sizeOf3
  v3 := Tryz.zeroValue3
  t4 := Tryz.underlying4
  a4 := Tryz.isAgg4
  z4 := Tryz.sizeOf4
  v4 := Tryz.zeroValue4
  t5 := Tryz.underlying5
  a5 := Tryz.isAgg5
  z5 := Tryz.sizeOf5
  v5 := Tryz.zeroValue5
  t9 := Tryz.underlying9
  a9 := Tryz.isAgg9
  z9 := Tryz.sizeOf9
  v9 := Tryz.zeroValue9
  t22 := Tryz.underlying22
  a22 := Tryz.isAgg22
  z22 := Tryz.sizeOf22
  v22 := Tryz.zeroValue22
  t25 := Tryz.underlying68
  a25 := Tryz.isAgg68
  z25 := Tryz.sizeOf68
  v25 := Tryz.zeroValue68
  t39 := Tryz.underlying127
  a39 := Tryz.isAgg127
  z39 := Tryz.sizeOf127
  v39 := Tryz.zeroValue127
  t45 := Tryz.underlying153
  a45 := Tryz.isAgg153
  z45 := Tryz.sizeOf153
  v45 := Tryz.zeroValue153
  t46 := Tryz.underlying154
  a46 := Tryz.isAgg154
  z46 := Tryz.sizeOf154
  v46 := Tryz.zeroValue154
  t50 := Tryz.underlying158
  a50 := Tryz.isAgg158
  z50 := Tryz.sizeOf158
  v50 := Tryz.zeroValue158
  t53 := Tryz.underlying161
  a53 := Tryz.isAgg161
  z53 := Tryz.sizeOf161
  v53 := Tryz.zeroValue161
  t55 := Tryz.underlying146
  a55 := Tryz.isAgg146
  z55 := Tryz.sizeOf146
  v55 := Tryz.zeroValue146
  t66 := Tryz.underlying190
  a66 := Tryz.isAgg190
  z66 := Tryz.sizeOf190
  v66 := Tryz.zeroValue190
  t70 := Tryz.underlying194
  a70 := Tryz.isAgg194
  z70 := Tryz.sizeOf194
  v70 := Tryz.zeroValue194
  t76 := Tryz.underlying206
  a76 := Tryz.isAgg206
  z76 := Tryz.sizeOf206
  v76 := Tryz.zeroValue206
  t77 := Tryz.underlying207
  a77 := Tryz.isAgg207
  z77 := Tryz.sizeOf207
  v77 := Tryz.zeroValue207 }
end Go.Proofs
