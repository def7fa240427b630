/-
  DERIVED: THE SHELF's CONTRACTS AT THIS DUMP, IN PLAIN WORDS (tools/lay-plain.mjs out of 'YtbceogoeoojdbaaCalShelf.lean', which tools/lay-shelf.mjs wrote): THE SAME DECLARATIONS UNDER THE SAME NAMES: 'import', 'namespace', 'open', 'def', 'theorem' AND NOTHING ELSE: no command of the shelf's: FOR A HAND-IN. Each laying: the table of numbers ('.._ren') and one theorem, a field a fact of the dump's own or the kernel's comparison; each contract: ONE APPLICATION.
-/
import Derived.Shelf.SlGeneric
import Derived.Shelf.SlSortCmp.WholeK
import Derived.Shelf.SlSortCmp.NoneTotal
import Derived.Shelf.SlSorted.Search
import Derived.Ground.SlsfProg
import Derived.Ground.SlsoProg
import Derived.Test.YtbceogoeoojdbaaProg
namespace Go.Proofs
open Go.Shelf
def Try.sortIvs_ren : Go.Shelf.Ren := ⟨fun | 6 => 75 | 15 => 105 | 14 => 104 | 28 => 128 | 29 => 129 | 20 => 120 | 21 => 121 | 22 => 122 | 23 => 123 | 24 => 124 | 25 => 125 | 26 => 126 | 27 => 127 | 46 => 135 | 47 => 136 | 48 => 137 | 49 => 138 | 50 => 139 | 57 => 142 | n => n, fun | 22 => 56 | 24 => 55 | 25 => 130 | 3 => 3 | 39 => 153 | 0 => 0 | 53 => 177 | 55 => 179 | 4 => 4 | 46 => 171 | 45 => 170 | 50 => 123 | 5 => 5 | 9 => 9 | 66 => 188 | 70 => 192 | 76 => 196 | 77 => 197 | n => n, fun | n => n⟩
theorem Try.sortIvs : Go.Proofs.SlLaysF0.n6 Try.prog Try.sortIvs_ren := {
  mixed := by kernel_rfl
  f6 := ⟨Try.f75.name, by decide, Try.func75.trans (congrArg some (by kernel_rfl))⟩
  f14 := ⟨Try.f104.name, by decide, Try.func104.trans (congrArg some (by kernel_rfl))⟩
  f15 := Try.func105.trans (congrArg some (by kernel_rfl))
  f20 := ⟨Try.f120.name, by decide, Try.func120.trans (congrArg some (by kernel_rfl))⟩
  f21 := ⟨Try.f121.name, by decide, Try.func121.trans (congrArg some (by kernel_rfl))⟩
  f22 := ⟨Try.f122.name, by decide, Try.func122.trans (congrArg some (by kernel_rfl))⟩
  f23 := ⟨Try.f123.name, by decide, Try.func123.trans (congrArg some (by kernel_rfl))⟩
  f24 := ⟨Try.f124.name, by decide, Try.func124.trans (congrArg some (by kernel_rfl))⟩
  f25 := ⟨Try.f125.name, by decide, Try.func125.trans (congrArg some (by kernel_rfl))⟩
  f26 := ⟨Try.f126.name, by decide, Try.func126.trans (congrArg some (by kernel_rfl))⟩
  f27 := ⟨Try.f127.name, by decide, Try.func127.trans (congrArg some (by kernel_rfl))⟩
  f28 := Try.func128.trans (congrArg some (by kernel_rfl))
  f29 := Try.func129.trans (congrArg some (by kernel_rfl))
  f46 := ⟨Try.f135.name, by decide, Try.func135.trans (congrArg some (by kernel_rfl))⟩
  f47 := Try.func136.trans (congrArg some (by kernel_rfl))
  f48 := Try.func137.trans (congrArg some (by kernel_rfl))
  f49 := ⟨Try.f138.name, by decide, Try.func138.trans (congrArg some (by kernel_rfl))⟩
  f50 := ⟨Try.f139.name, by decide, Try.func139.trans (congrArg some (by kernel_rfl))⟩
  f57 := ⟨Try.f142.name, by decide, Try.func142.trans (congrArg some (by kernel_rfl))⟩
  t0 := Try.underlying0
  a0 := Try.isAgg0
  z0 := Try.sizeOf0
  v0 := Try.zeroValue0
  t3 := Try.underlying3
  a3 := Try.isAgg3
  z3 := Try.sizeOf3
  v3 := Try.zeroValue3
  t4 := Try.underlying4
  a4 := Try.isAgg4
  z4 := Try.sizeOf4
  v4 := Try.zeroValue4
  t5 := Try.underlying5
  a5 := Try.isAgg5
  z5 := Try.sizeOf5
  v5 := Try.zeroValue5
  t9 := Try.underlying9
  a9 := Try.isAgg9
  z9 := Try.sizeOf9
  v9 := Try.zeroValue9
  t22 := Try.underlying56
  a22 := Try.isAgg56
  z22 := Try.sizeOf56
  v22 := Try.zeroValue56
  t25 := Try.underlying130
  a25 := Try.isAgg130
  z25 := Try.sizeOf130
  v25 := Try.zeroValue130
  t39 := Try.underlying153
  a39 := Try.isAgg153
  z39 := Try.sizeOf153
  v39 := Try.zeroValue153
  t45 := Try.underlying170
  a45 := Try.isAgg170
  z45 := Try.sizeOf170
  v45 := Try.zeroValue170
  t46 := Try.underlying171
  a46 := Try.isAgg171
  z46 := Try.sizeOf171
  v46 := Try.zeroValue171
  t50 := Try.underlying123
  a50 := Try.isAgg123
  z50 := Try.sizeOf123
  v50 := Try.zeroValue123
  t53 := Try.underlying177
  a53 := Try.isAgg177
  z53 := Try.sizeOf177
  v53 := Try.zeroValue177
  t55 := Try.underlying179
  a55 := Try.isAgg179
  z55 := Try.sizeOf179
  v55 := Try.zeroValue179
  t66 := Try.underlying188
  a66 := Try.isAgg188
  z66 := Try.sizeOf188
  v66 := Try.zeroValue188
  t70 := Try.underlying192
  a70 := Try.isAgg192
  z70 := Try.sizeOf192
  v70 := Try.zeroValue192
  t76 := Try.underlying196
  a76 := Try.isAgg196
  z76 := Try.sizeOf196
  v76 := Try.zeroValue196
  t77 := Try.underlying197
  a77 := Try.isAgg197
  z77 := Try.sizeOf197
  v77 := Try.zeroValue197 }
def Try.search_ren : Go.Shelf.Ren := ⟨fun | 16 => 81 | n => n, fun | 3 => 3 | 35 => 133 | 4 => 4 | 38 => 153 | n => n, fun | n => n⟩
theorem Try.search : Go.Proofs.SlLaysO.n16 Try.prog Try.search_ren := {
  mixed := by kernel_rfl
  f16 := Try.func81.trans (congrArg some (by kernel_rfl))
  t3 := Try.underlying3
  a3 := Try.isAgg3
  z3 := Try.sizeOf3
  v3 := Try.zeroValue3
  t4 := Try.underlying4
  a4 := Try.isAgg4
  z4 := Try.sizeOf4
  v4 := Try.zeroValue4
  t35 := Try.underlying133
  a35 := Try.isAgg133
  z35 := Try.sizeOf133
  v35 := Try.zeroValue133
  t38 := Try.underlying153
  a38 := Try.isAgg153
  z38 := Try.sizeOf153
  v38 := Try.zeroValue153 }
end Go.Proofs
