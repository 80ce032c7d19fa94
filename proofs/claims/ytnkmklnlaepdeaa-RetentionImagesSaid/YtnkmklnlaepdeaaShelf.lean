/-
  The layings of the shelf's contracts of slices.SortFunc at this program (written by the kit's lay-plain.mjs).
-/
import Derived.Shelf.SlGeneric
import Derived.Shelf.SlSortCmp.NoneTotal
import Derived.Ground.SlsfProg
import Derived.Test.YtnkmklnlaepdeaaProg
set_option linter.unusedVariables false
set_option linter.unusedSimpArgs false
namespace Go.Proofs
open Go.Shelf
def Try.sortPl_ren : Go.Shelf.Ren := ⟨fun | 6 => 96 | 15 => 99 | 14 => 98 | 28 => 110 | 29 => 111 | 20 => 102 | 21 => 103 | 22 => 104 | 23 => 105 | 24 => 106 | 25 => 107 | 26 => 108 | 27 => 109 | 46 => 112 | 47 => 113 | 48 => 114 | 49 => 115 | 50 => 116 | 57 => 117 | n => n, fun | 22 => 144 | 24 => 142 | 25 => 146 | 3 => 3 | 39 => 150 | 0 => 0 | 53 => 162 | 55 => 164 | 4 => 4 | 46 => 155 | 45 => 154 | 50 => 159 | 5 => 5 | 9 => 9 | 66 => 165 | 70 => 169 | 76 => 171 | 77 => 172 | n => n, fun | n => n⟩
theorem Try.sortPl : Go.Proofs.SlLaysF0.n6 Try.prog Try.sortPl_ren := {
  mixed := by kernel_rfl
  f6 := ⟨Try.f96.name, by decide, Try.func96.trans (congrArg some (by kernel_rfl))⟩
  f14 := ⟨Try.f98.name, by decide, Try.func98.trans (congrArg some (by kernel_rfl))⟩
  f15 := Try.func99.trans (congrArg some (by kernel_rfl))
  f20 := ⟨Try.f102.name, by decide, Try.func102.trans (congrArg some (by kernel_rfl))⟩
  f21 := ⟨Try.f103.name, by decide, Try.func103.trans (congrArg some (by kernel_rfl))⟩
  f22 := ⟨Try.f104.name, by decide, Try.func104.trans (congrArg some (by kernel_rfl))⟩
  f23 := ⟨Try.f105.name, by decide, Try.func105.trans (congrArg some (by kernel_rfl))⟩
  f24 := ⟨Try.f106.name, by decide, Try.func106.trans (congrArg some (by kernel_rfl))⟩
  f25 := ⟨Try.f107.name, by decide, Try.func107.trans (congrArg some (by kernel_rfl))⟩
  f26 := ⟨Try.f108.name, by decide, Try.func108.trans (congrArg some (by kernel_rfl))⟩
  f27 := ⟨Try.f109.name, by decide, Try.func109.trans (congrArg some (by kernel_rfl))⟩
  f28 := Try.func110.trans (congrArg some (by kernel_rfl))
  f29 := Try.func111.trans (congrArg some (by kernel_rfl))
  f46 := ⟨Try.f112.name, by decide, Try.func112.trans (congrArg some (by kernel_rfl))⟩
  f47 := Try.func113.trans (congrArg some (by kernel_rfl))
  f48 := Try.func114.trans (congrArg some (by kernel_rfl))
  f49 := ⟨Try.f115.name, by decide, Try.func115.trans (congrArg some (by kernel_rfl))⟩
  f50 := ⟨Try.f116.name, by decide, Try.func116.trans (congrArg some (by kernel_rfl))⟩
  f57 := ⟨Try.f117.name, by decide, Try.func117.trans (congrArg some (by kernel_rfl))⟩
  t0 := Try.underlying0
  a0 := Try.isAgg0
  z0 := Try.sizeOf0
  v0 := Try.zeroValue0
  t3 := Try.underlying3
  a3 := Try.isAgg3
  z3 := Try.sizeOf3
  v3 := Try.zeroValue3
  t4 := Try.underlying4
  a4 := Try.isAgg4
  z4 := Try.sizeOf4
  v4 := Try.zeroValue4
  t5 := Try.underlying5
  a5 := Try.isAgg5
  z5 := Try.sizeOf5
  v5 := Try.zeroValue5
  t9 := Try.underlying9
  a9 := Try.isAgg9
  z9 := Try.sizeOf9
  v9 := Try.zeroValue9
  t22 := Try.underlying144
  a22 := Try.isAgg144
  z22 := Try.sizeOf144
  v22 := Try.zeroValue144
  t25 := Try.underlying146
  a25 := Try.isAgg146
  z25 := Try.sizeOf146
  v25 := Try.zeroValue146
  t39 := Try.underlying150
  a39 := Try.isAgg150
  z39 := Try.sizeOf150
  v39 := Try.zeroValue150
  t45 := Try.underlying154
  a45 := Try.isAgg154
  z45 := Try.sizeOf154
  v45 := Try.zeroValue154
  t46 := Try.underlying155
  a46 := Try.isAgg155
  z46 := Try.sizeOf155
  v46 := Try.zeroValue155
  t50 := Try.underlying159
  a50 := Try.isAgg159
  z50 := Try.sizeOf159
  v50 := Try.zeroValue159
  t53 := Try.underlying162
  a53 := Try.isAgg162
  z53 := Try.sizeOf162
  v53 := Try.zeroValue162
  t55 := Try.underlying164
  a55 := Try.isAgg164
  z55 := Try.sizeOf164
  v55 := Try.zeroValue164
  t66 := Try.underlying165
  a66 := Try.isAgg165
  z66 := Try.sizeOf165
  v66 := Try.zeroValue165
  t70 := Try.underlying169
  a70 := Try.isAgg169
  z70 := Try.sizeOf169
  v70 := Try.zeroValue169
  t76 := Try.underlying171
  a76 := Try.isAgg171
  z76 := Try.sizeOf171
  v76 := Try.zeroValue171
  t77 := Try.underlying172
  a77 := Try.isAgg172
  z77 := Try.sizeOf172
  v77 := Try.zeroValue172 }
end Go.Proofs
