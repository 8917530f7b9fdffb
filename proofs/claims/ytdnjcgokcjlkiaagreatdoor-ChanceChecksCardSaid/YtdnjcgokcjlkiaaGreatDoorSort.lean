/-
  DERIVED: THE SHELF's CONTRACTS AT THIS DUMP, IN PLAIN WORDS (tools/lay-plain.mjs out of 'TryzSort.lean', which tools/lay-shelf.mjs wrote): THE SAME DECLARATIONS UNDER THE SAME NAMES: 'import', 'namespace', 'open', 'def', 'theorem' AND NOTHING ELSE: no command of the shelf's: FOR A HAND-IN. Each laying: the table of numbers ('.._ren') and one theorem, a field a fact of the dump's own or the kernel's comparison; each contract: ONE APPLICATION.
-/
import Derived.Shelf.SlSortCmp.WholeK
import Derived.Ground.SlsfProg
import Derived.Shelf.SlGeneric
import Derived.Test.YtdnjcgokcjlkiaaGreatDoorProg
namespace Go.Proofs
open Go.Shelf
def Tryz.sortOtc_ren : Go.Shelf.Ren := ⟨fun | 6 => 68 | 15 => 106 | 14 => 105 | 28 => 142 | 29 => 143 | 20 => 134 | 21 => 135 | 22 => 136 | 23 => 137 | 24 => 138 | 25 => 139 | 26 => 140 | 27 => 141 | 46 => 165 | 47 => 166 | 48 => 167 | 49 => 168 | 50 => 169 | 57 => 198 | n => n, fun | 22 => 22 | 24 => 64 | 25 => 69 | 3 => 3 | 39 => 136 | 0 => 0 | 53 => 170 | 55 => 159 | 4 => 4 | 46 => 163 | 45 => 162 | 50 => 167 | 5 => 5 | 9 => 9 | 66 => 188 | 70 => 192 | 76 => 220 | 77 => 221 | n => n, fun | n => n⟩
theorem Tryz.sortOtc : Go.Proofs.SlLaysF0.n6 Tryz.prog Tryz.sortOtc_ren := {
  mixed := by kernel_rfl
  f6 := ⟨Tryz.f68.name, by decide, Tryz.func68.trans (congrArg some (by kernel_rfl))⟩
  f14 := ⟨Tryz.f105.name, by decide, Tryz.func105.trans (congrArg some (by kernel_rfl))⟩
  f15 := Tryz.func106.trans (congrArg some (by kernel_rfl))
  f20 := ⟨Tryz.f134.name, by decide, Tryz.func134.trans (congrArg some (by kernel_rfl))⟩
  f21 := ⟨Tryz.f135.name, by decide, Tryz.func135.trans (congrArg some (by kernel_rfl))⟩
  f22 := ⟨Tryz.f136.name, by decide, Tryz.func136.trans (congrArg some (by kernel_rfl))⟩
  f23 := ⟨Tryz.f137.name, by decide, Tryz.func137.trans (congrArg some (by kernel_rfl))⟩
  f24 := ⟨Tryz.f138.name, by decide, Tryz.func138.trans (congrArg some (by kernel_rfl))⟩
  f25 := ⟨Tryz.f139.name, by decide, Tryz.func139.trans (congrArg some (by kernel_rfl))⟩
  f26 := ⟨Tryz.f140.name, by decide, Tryz.func140.trans (congrArg some (by kernel_rfl))⟩
  f27 := ⟨Tryz.f141.name, by decide, Tryz.func141.trans (congrArg some (by kernel_rfl))⟩
  f28 := Tryz.func142.trans (congrArg some (by kernel_rfl))
  f29 := Tryz.func143.trans (congrArg some (by kernel_rfl))
  f46 := ⟨Tryz.f165.name, by decide, Tryz.func165.trans (congrArg some (by kernel_rfl))⟩
  f47 := Tryz.func166.trans (congrArg some (by kernel_rfl))
  f48 := Tryz.func167.trans (congrArg some (by kernel_rfl))
  f49 := ⟨Tryz.f168.name, by decide, Tryz.func168.trans (congrArg some (by kernel_rfl))⟩
  f50 := ⟨Tryz.f169.name, by decide, Tryz.func169.trans (congrArg some (by kernel_rfl))⟩
  f57 := ⟨Tryz.f198.name, by decide, Tryz.func198.trans (congrArg some (by kernel_rfl))⟩
  t0 := Tryz.underlying0
  a0 := Tryz.isAgg0
  z0 := Tryz.sizeOf0
  v0 := Tryz.zeroValue0
  t3 := Tryz.underlying3
  a3 := Tryz.isAgg3
  z3 := Tryz.sizeOf3
  v3 := Tryz.zeroValue3
  t4 := Tryz.underlying4
  a4 := Tryz.isAgg4
  z4 := Tryz.sizeOf4
  v4 := Tryz.zeroValue4
  t5 := Tryz.underlying5
  a5 := Tryz.isAgg5
  z5 := Tryz.sizeOf5
  v5 := Tryz.zeroValue5
  t9 := Tryz.underlying9
  a9 := Tryz.isAgg9
  z9 := Tryz.sizeOf9
  v9 := Tryz.zeroValue9
  t22 := Tryz.underlying22
  a22 := Tryz.isAgg22
  z22 := Tryz.sizeOf22
  v22 := Tryz.zeroValue22
  t25 := Tryz.underlying69
  a25 := Tryz.isAgg69
  z25 := Tryz.sizeOf69
  v25 := Tryz.zeroValue69
  t39 := Tryz.underlying136
  a39 := Tryz.isAgg136
  z39 := Tryz.sizeOf136
  v39 := Tryz.zeroValue136
  t45 := Tryz.underlying162
  a45 := Tryz.isAgg162
  z45 := Tryz.sizeOf162
  v45 := Tryz.zeroValue162
  t46 := Tryz.underlying163
  a46 := Tryz.isAgg163
  z46 := Tryz.sizeOf163
  v46 := Tryz.zeroValue163
  t50 := Tryz.underlying167
  a50 := Tryz.isAgg167
  z50 := Tryz.sizeOf167
  v50 := Tryz.zeroValue167
  t53 := Tryz.underlying170
  a53 := Tryz.isAgg170
  z53 := Tryz.sizeOf170
  v53 := Tryz.zeroValue170
  t55 := Tryz.underlying159
  a55 := Tryz.isAgg159
  z55 := Tryz.sizeOf159
  v55 := Tryz.zeroValue159
  t66 := Tryz.underlying188
  a66 := Tryz.isAgg188
  z66 := Tryz.sizeOf188
  v66 := Tryz.zeroValue188
  t70 := Tryz.underlying192
  a70 := Tryz.isAgg192
  z70 := Tryz.sizeOf192
  v70 := Tryz.zeroValue192
  t76 := Tryz.underlying220
  a76 := Tryz.isAgg220
  z76 := Tryz.sizeOf220
  v76 := Tryz.zeroValue220
  t77 := Tryz.underlying221
  a77 := Tryz.isAgg221
  z77 := Tryz.sizeOf221
  v77 := Tryz.zeroValue221 }
end Go.Proofs
