/-
  DERIVED: THE SHELF's CONTRACTS AT THIS DUMP, IN PLAIN WORDS (tools/lay-plain.mjs out of 'TryzSort.lean', which tools/lay-shelf.mjs wrote): THE SAME DECLARATIONS UNDER THE SAME NAMES: 'import', 'namespace', 'open', 'def', 'theorem' AND NOTHING ELSE: no command of the shelf's: FOR A HAND-IN. Each laying: the table of numbers ('.._ren') and one theorem, a field a fact of the dump's own or the kernel's comparison; each contract: ONE APPLICATION.
-/
import Derived.Shelf.SlSortCmp.WholeK
import Derived.Ground.SlsfProg
import Derived.Shelf.SlGeneric
import Derived.Test.YtcbkpjiaipabbaaGreatDoorProg
namespace Go.Proofs
open Go.Shelf
def Tryz.sortOtc_ren : Go.Shelf.Ren := ⟨fun | 6 => 97 | 15 => 123 | 14 => 122 | 28 => 151 | 29 => 152 | 20 => 143 | 21 => 144 | 22 => 145 | 23 => 146 | 24 => 147 | 25 => 148 | 26 => 149 | 27 => 150 | 46 => 160 | 47 => 161 | 48 => 162 | 49 => 163 | 50 => 164 | 57 => 169 | n => n, fun | 22 => 41 | 24 => 45 | 25 => 100 | 3 => 3 | 39 => 127 | 0 => 0 | 53 => 145 | 55 => 136 | 4 => 4 | 46 => 166 | 45 => 165 | 50 => 170 | 5 => 5 | 9 => 9 | 66 => 184 | 70 => 188 | 76 => 191 | 77 => 192 | n => n, fun | n => n⟩
theorem Tryz.sortOtc : Go.Proofs.SlLaysF0.n6 Tryz.prog Tryz.sortOtc_ren := {
  mixed := by kernel_rfl
  f6 := ⟨Tryz.f97.name, by decide, Tryz.func97.trans (congrArg some (by kernel_rfl))⟩
  f14 := ⟨Tryz.f122.name, by decide, Tryz.func122.trans (congrArg some (by kernel_rfl))⟩
  f15 := Tryz.func123.trans (congrArg some (by kernel_rfl))
  f20 := ⟨Tryz.f143.name, by decide, Tryz.func143.trans (congrArg some (by kernel_rfl))⟩
  f21 := ⟨Tryz.f144.name, by decide, Tryz.func144.trans (congrArg some (by kernel_rfl))⟩
  f22 := ⟨Tryz.f145.name, by decide, Tryz.func145.trans (congrArg some (by kernel_rfl))⟩
  f23 := ⟨Tryz.f146.name, by decide, Tryz.func146.trans (congrArg some (by kernel_rfl))⟩
  f24 := ⟨Tryz.f147.name, by decide, Tryz.func147.trans (congrArg some (by kernel_rfl))⟩
  f25 := ⟨Tryz.f148.name, by decide, Tryz.func148.trans (congrArg some (by kernel_rfl))⟩
  f26 := ⟨Tryz.f149.name, by decide, Tryz.func149.trans (congrArg some (by kernel_rfl))⟩
  f27 := ⟨Tryz.f150.name, by decide, Tryz.func150.trans (congrArg some (by kernel_rfl))⟩
  f28 := Tryz.func151.trans (congrArg some (by kernel_rfl))
  f29 := Tryz.func152.trans (congrArg some (by kernel_rfl))
  f46 := ⟨Tryz.f160.name, by decide, Tryz.func160.trans (congrArg some (by kernel_rfl))⟩
  f47 := Tryz.func161.trans (congrArg some (by kernel_rfl))
  f48 := Tryz.func162.trans (congrArg some (by kernel_rfl))
  f49 := ⟨Tryz.f163.name, by decide, Tryz.func163.trans (congrArg some (by kernel_rfl))⟩
  f50 := ⟨Tryz.f164.name, by decide, Tryz.func164.trans (congrArg some (by kernel_rfl))⟩
  f57 := ⟨Tryz.f169.name, by decide, Tryz.func169.trans (congrArg some (by kernel_rfl))⟩
  t0 := Tryz.underlying0
  a0 := Tryz.isAgg0
  z0 := Tryz.sizeOf0
  v0 := Tryz.zeroValue0
  t3 := Tryz.underlying3
  a3 := Tryz.isAgg3
  z3 := Tryz.sizeOf3
  v3 := Tryz.zeroValue3
  t4 := Tryz.underlying4
  a4 := Tryz.isAgg4
  z4 := Tryz.sizeOf4
  v4 := Tryz.zeroValue4
  t5 := Tryz.underlying5
  a5 := Tryz.isAgg5
  z5 := Tryz.sizeOf5
  v5 := Tryz.zeroValue5
  t9 := Tryz.underlying9
  a9 := Tryz.isAgg9
  z9 := Tryz.sizeOf9
  v9 := Tryz.zeroValue9
  t22 := Tryz.underlying41
  a22 := Tryz.isAgg41
  z22 := Tryz.sizeOf41
  v22 := Tryz.zeroValue41
  t25 := Tryz.underlying100
  a25 := Tryz.isAgg100
  z25 := Tryz.sizeOf100
  v25 := Tryz.zeroValue100
  t39 := Tryz.underlying127
  a39 := Tryz.isAgg127
  z39 := Tryz.sizeOf127
  v39 := Tryz.zeroValue127
  t45 := Tryz.underlying165
  a45 := Tryz.isAgg165
  z45 := Tryz.sizeOf165
  v45 := Tryz.zeroValue165
  t46 := Tryz.underlying166
  a46 := Tryz.isAgg166
  z46 := Tryz.sizeOf166
  v46 := Tryz.zeroValue166
  t50 := Tryz.underlying170
  a50 := Tryz.isAgg170
  z50 := Tryz.sizeOf170
  v50 := Tryz.zeroValue170
  t53 := Tryz.underlying145
  a53 := Tryz.isAgg145
  z53 := Tryz.sizeOf145
  v53 := Tryz.zeroValue145
  t55 := Tryz.underlying136
  a55 := Tryz.isAgg136
  z55 := Tryz.sizeOf136
  v55 := Tryz.zeroValue136
  t66 := Tryz.underlying184
  a66 := Tryz.isAgg184
  z66 := Tryz.sizeOf184
  v66 := Tryz.zeroValue184
  t70 := Tryz.underlying188
  a70 := Tryz.isAgg188
  z70 := Tryz.sizeOf188
  v70 := Tryz.zeroValue188
  t76 := Tryz.underlying191
  a76 := Tryz.isAgg191
  z76 := Tryz.sizeOf191
  v76 := Tryz.zeroValue191
  t77 := Tryz.underlying192
  a77 := Tryz.isAgg192
  z77 := Tryz.sizeOf192
  v77 := Tryz.zeroValue192 }
end Go.Proofs
