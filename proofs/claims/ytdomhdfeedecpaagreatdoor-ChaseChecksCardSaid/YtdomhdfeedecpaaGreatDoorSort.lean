/-
  DERIVED: THE SHELF's CONTRACTS AT THIS DUMP, IN PLAIN WORDS (tools/lay-plain.mjs out of 'TryzSort.lean', which tools/lay-shelf.mjs wrote): THE SAME DECLARATIONS UNDER THE SAME NAMES: 'import', 'namespace', 'open', 'def', 'theorem' AND NOTHING ELSE: no command of the shelf's: FOR A HAND-IN. Each laying: the table of numbers ('.._ren') and one theorem, a field a fact of the dump's own or the kernel's comparison; each contract: ONE APPLICATION.
-/
import Derived.Shelf.SlSortCmp.WholeK
import Derived.Ground.SlsfProg
import Derived.Shelf.SlGeneric
import Derived.Test.YtdomhdfeedecpaaGreatDoorProg
namespace Go.Proofs
open Go.Shelf
def Tryz.sortOtc_ren : Go.Shelf.Ren := ⟨fun | 6 => 121 | 15 => 106 | 14 => 155 | 28 => 130 | 29 => 131 | 20 => 179 | 21 => 180 | 22 => 181 | 23 => 182 | 24 => 183 | 25 => 184 | 26 => 185 | 27 => 186 | 46 => 195 | 47 => 157 | 48 => 158 | 49 => 196 | 50 => 197 | 57 => 202 | n => n, fun | 22 => 36 | 24 => 40 | 25 => 127 | 3 => 3 | 39 => 131 | 0 => 0 | 53 => 160 | 55 => 162 | 4 => 4 | 46 => 154 | 45 => 153 | 50 => 103 | 5 => 5 | 9 => 9 | 66 => 183 | 70 => 187 | 76 => 211 | 77 => 212 | n => n, fun | n => n⟩
theorem Tryz.sortOtc : Go.Proofs.SlLaysF0.n6 Tryz.prog Tryz.sortOtc_ren := {
  mixed := by kernel_rfl
  f6 := ⟨Tryz.f121.name, by decide, Tryz.func121.trans (congrArg some (by kernel_rfl))⟩
  f14 := ⟨Tryz.f155.name, by decide, Tryz.func155.trans (congrArg some (by kernel_rfl))⟩
  f15 := Tryz.func106.trans (congrArg some (by kernel_rfl))
  f20 := ⟨Tryz.f179.name, by decide, Tryz.func179.trans (congrArg some (by kernel_rfl))⟩
  f21 := ⟨Tryz.f180.name, by decide, Tryz.func180.trans (congrArg some (by kernel_rfl))⟩
  f22 := ⟨Tryz.f181.name, by decide, Tryz.func181.trans (congrArg some (by kernel_rfl))⟩
  f23 := ⟨Tryz.f182.name, by decide, Tryz.func182.trans (congrArg some (by kernel_rfl))⟩
  f24 := ⟨Tryz.f183.name, by decide, Tryz.func183.trans (congrArg some (by kernel_rfl))⟩
  f25 := ⟨Tryz.f184.name, by decide, Tryz.func184.trans (congrArg some (by kernel_rfl))⟩
  f26 := ⟨Tryz.f185.name, by decide, Tryz.func185.trans (congrArg some (by kernel_rfl))⟩
  f27 := ⟨Tryz.f186.name, by decide, Tryz.func186.trans (congrArg some (by kernel_rfl))⟩
  f28 := Tryz.func130.trans (congrArg some (by kernel_rfl))
  f29 := Tryz.func131.trans (congrArg some (by kernel_rfl))
  f46 := ⟨Tryz.f195.name, by decide, Tryz.func195.trans (congrArg some (by kernel_rfl))⟩
  f47 := Tryz.func157.trans (congrArg some (by kernel_rfl))
  f48 := Tryz.func158.trans (congrArg some (by kernel_rfl))
  f49 := ⟨Tryz.f196.name, by decide, Tryz.func196.trans (congrArg some (by kernel_rfl))⟩
  f50 := ⟨Tryz.f197.name, by decide, Tryz.func197.trans (congrArg some (by kernel_rfl))⟩
  f57 := ⟨Tryz.f202.name, by decide, Tryz.func202.trans (congrArg some (by kernel_rfl))⟩
  t0 := Tryz.underlying0
  a0 := Tryz.isAgg0
  z0 := Tryz.sizeOf0
  v0 := Tryz.zeroValue0
  t3 := Tryz.underlying3
  a3 := Tryz.isAgg3
  z3 := Tryz.sizeOf3
  v3 := Tryz.zeroValue3
  t4 := Tryz.underlying4
  a4 := Tryz.isAgg4
  z4 := Tryz.sizeOf4
  v4 := Tryz.zeroValue4
  t5 := Tryz.underlying5
  a5 := Tryz.isAgg5
  z5 := Tryz.sizeOf5
  v5 := Tryz.zeroValue5
  t9 := Tryz.underlying9
  a9 := Tryz.isAgg9
  z9 := Tryz.sizeOf9
  v9 := Tryz.zeroValue9
  t22 := Tryz.underlying36
  a22 := Tryz.isAgg36
  z22 := Tryz.sizeOf36
  v22 := Tryz.zeroValue36
  t25 := Tryz.underlying127
  a25 := Tryz.isAgg127
  z25 := Tryz.sizeOf127
  v25 := Tryz.zeroValue127
  t39 := Tryz.underlying131
  a39 := Tryz.isAgg131
  z39 := Tryz.sizeOf131
  v39 := Tryz.zeroValue131
  t45 := Tryz.underlying153
  a45 := Tryz.isAgg153
  z45 := Tryz.sizeOf153
  v45 := Tryz.zeroValue153
  t46 := Tryz.underlying154
  a46 := Tryz.isAgg154
  z46 := Tryz.sizeOf154
  v46 := Tryz.zeroValue154
  t50 := Tryz.underlying103
  a50 := Tryz.isAgg103
  z50 := Tryz.sizeOf103
  v50 := Tryz.zeroValue103
  t53 := Tryz.underlying160
  a53 := Tryz.isAgg160
  z53 := Tryz.sizeOf160
  v53 := Tryz.zeroValue160
  t55 := Tryz.underlying162
  a55 := Tryz.isAgg162
  z55 := Tryz.sizeOf162
  v55 := Tryz.zeroValue162
  t66 := Tryz.underlying183
  a66 := Tryz.isAgg183
  z66 := Tryz.sizeOf183
  v66 := Tryz.zeroValue183
  t70 := Tryz.underlying187
  a70 := Tryz.isAgg187
  z70 := Tryz.sizeOf187
  v70 := Tryz.zeroValue187
  t76 := Tryz.underlying211
  a76 := Tryz.isAgg211
  z76 := Tryz.sizeOf211
  v76 := Tryz.zeroValue211
  t77 := Tryz.underlying212
  a77 := Tryz.isAgg212
  z77 := Tryz.sizeOf212
  v77 := Tryz.zeroValue212 }
end Go.Proofs
