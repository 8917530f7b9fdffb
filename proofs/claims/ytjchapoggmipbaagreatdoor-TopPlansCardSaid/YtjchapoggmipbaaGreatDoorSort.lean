/-
  DERIVED: THE SHELF's CONTRACTS AT THIS DUMP, IN PLAIN WORDS (tools/lay-plain.mjs out of 'TryzSort.lean', which tools/lay-shelf.mjs wrote): THE SAME DECLARATIONS UNDER THE SAME NAMES: 'import', 'namespace', 'open', 'def', 'theorem' AND NOTHING ELSE: no command of the shelf's: FOR A HAND-IN. Each laying: the table of numbers ('.._ren') and one theorem, a field a fact of the dump's own or the kernel's comparison; each contract: ONE APPLICATION.
-/
import Derived.Shelf.SlSortCmp.WholeK
import Derived.Ground.SlsfProg
import Derived.Shelf.SlGeneric
import Derived.Test.YtjchapoggmipbaaGreatDoorProg
namespace Go.Proofs
open Go.Shelf
def Tryz.sortOtc_ren : Go.Shelf.Ren := ⟨fun | 6 => 134 | 15 => 154 | 14 => 153 | 28 => 171 | 29 => 159 | 20 => 163 | 21 => 164 | 22 => 165 | 23 => 166 | 24 => 167 | 25 => 168 | 26 => 169 | 27 => 170 | 46 => 176 | 47 => 177 | 48 => 178 | 49 => 179 | 50 => 180 | 57 => 181 | n => n, fun | 22 => 32 | 24 => 82 | 25 => 130 | 3 => 3 | 39 => 179 | 0 => 0 | 53 => 198 | 55 => 188 | 4 => 4 | 46 => 232 | 45 => 231 | 50 => 236 | 5 => 5 | 9 => 9 | 66 => 240 | 70 => 244 | 76 => 248 | 77 => 249 | n => n, fun | n => n⟩
theorem Tryz.sortOtc : Go.Proofs.SlLaysF0.n6 Tryz.prog Tryz.sortOtc_ren := {
  mixed := by kernel_rfl
  f6 := ⟨Tryz.f134.name, by decide, Tryz.func134.trans (congrArg some (by kernel_rfl))⟩
  f14 := ⟨Tryz.f153.name, by decide, Tryz.func153.trans (congrArg some (by kernel_rfl))⟩
  f15 := Tryz.func154.trans (congrArg some (by kernel_rfl))
  f20 := ⟨Tryz.f163.name, by decide, Tryz.func163.trans (congrArg some (by kernel_rfl))⟩
  f21 := ⟨Tryz.f164.name, by decide, Tryz.func164.trans (congrArg some (by kernel_rfl))⟩
  f22 := ⟨Tryz.f165.name, by decide, Tryz.func165.trans (congrArg some (by kernel_rfl))⟩
  f23 := ⟨Tryz.f166.name, by decide, Tryz.func166.trans (congrArg some (by kernel_rfl))⟩
  f24 := ⟨Tryz.f167.name, by decide, Tryz.func167.trans (congrArg some (by kernel_rfl))⟩
  f25 := ⟨Tryz.f168.name, by decide, Tryz.func168.trans (congrArg some (by kernel_rfl))⟩
  f26 := ⟨Tryz.f169.name, by decide, Tryz.func169.trans (congrArg some (by kernel_rfl))⟩
  f27 := ⟨Tryz.f170.name, by decide, Tryz.func170.trans (congrArg some (by kernel_rfl))⟩
  f28 := Tryz.func171.trans (congrArg some (by kernel_rfl))
  f29 := Tryz.func159.trans (congrArg some (by kernel_rfl))
  f46 := ⟨Tryz.f176.name, by decide, Tryz.func176.trans (congrArg some (by kernel_rfl))⟩
  f47 := Tryz.func177.trans (congrArg some (by kernel_rfl))
  f48 := Tryz.func178.trans (congrArg some (by kernel_rfl))
  f49 := ⟨Tryz.f179.name, by decide, Tryz.func179.trans (congrArg some (by kernel_rfl))⟩
  f50 := ⟨Tryz.f180.name, by decide, Tryz.func180.trans (congrArg some (by kernel_rfl))⟩
  f57 := ⟨Tryz.f181.name, by decide, Tryz.func181.trans (congrArg some (by kernel_rfl))⟩
  t0 := Tryz.underlying0
  a0 := Tryz.isAgg0
  z0 := Tryz.sizeOf0
  v0 := Tryz.zeroValue0
  t3 := Tryz.underlying3
  a3 := Tryz.isAgg3
  z3 := Tryz.sizeOf3
  v3 := Tryz.zeroValue3
  t4 := Tryz.underlying4
  a4 := Tryz.isAgg4
  z4 := Tryz.sizeOf4
  v4 := Tryz.zeroValue4
  t5 := Tryz.underlying5
  a5 := Tryz.isAgg5
  z5 := Tryz.sizeOf5
  v5 := Tryz.zeroValue5
  t9 := Tryz.underlying9
  a9 := Tryz.isAgg9
  z9 := Tryz.sizeOf9
  v9 := Tryz.zeroValue9
  t22 := Tryz.underlying32
  a22 := Tryz.isAgg32
  z22 := Tryz.sizeOf32
  v22 := Tryz.zeroValue32
  t25 := Tryz.underlying130
  a25 := Tryz.isAgg130
  z25 := Tryz.sizeOf130
  v25 := Tryz.zeroValue130
  t39 := Tryz.underlying179
  a39 := Tryz.isAgg179
  z39 := Tryz.sizeOf179
  v39 := Tryz.zeroValue179
  t45 := Tryz.underlying231
  a45 := Tryz.isAgg231
  z45 := Tryz.sizeOf231
  v45 := Tryz.zeroValue231
  t46 := Tryz.underlying232
  a46 := Tryz.isAgg232
  z46 := Tryz.sizeOf232
  v46 := Tryz.zeroValue232
  t50 := Tryz.underlying236
  a50 := Tryz.isAgg236
  z50 := Tryz.sizeOf236
  v50 := Tryz.zeroValue236
  t53 := Tryz.underlying198
  a53 := Tryz.isAgg198
  z53 := Tryz.sizeOf198
  v53 := Tryz.zeroValue198
  t55 := Tryz.underlying188
  a55 := Tryz.isAgg188
  z55 := Tryz.sizeOf188
  v55 := Tryz.zeroValue188
  t66 := Tryz.underlying240
  a66 := Tryz.isAgg240
  z66 := Tryz.sizeOf240
  v66 := Tryz.zeroValue240
  t70 := Tryz.underlying244
  a70 := Tryz.isAgg244
  z70 := Tryz.sizeOf244
  v70 := Tryz.zeroValue244
  t76 := Tryz.underlying248
  a76 := Tryz.isAgg248
  z76 := Tryz.sizeOf248
  v76 := Tryz.zeroValue248
  t77 := Tryz.underlying249
  a77 := Tryz.isAgg249
  z77 := Tryz.sizeOf249
  v77 := Tryz.zeroValue249 }
end Go.Proofs
