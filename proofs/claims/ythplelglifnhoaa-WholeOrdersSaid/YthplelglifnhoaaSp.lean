
/-
  DERIVED: THE SHELF's CONTRACTS AT THIS DUMP, IN PLAIN WORDS (tools/lay-plain.mjs out of 'YthplelglifnhoaaShelf.lean', which tools/lay-shelf.mjs wrote): THE SAME DECLARATIONS UNDER THE SAME NAMES: 'import', 'namespace', 'open', 'def', 'theorem' AND NOTHING ELSE: no command of the shelf's: FOR A HAND-IN. Each laying: the table of numbers ('.._ren') and one theorem, a field a fact of the dump's own or the kernel's comparison; each contract: ONE APPLICATION.
-/
import Derived.Shelf.SlGeneric
import Derived.Shelf.SlSortCmp.WholeK
import Derived.Ground.SlsfProg
import Derived.Ground.SlgnProg
import Derived.Shelf.SlicesE.Clone
import Derived.Test.YthplelglifnhoaaProg
namespace Go.Proofs
open Go.Shelf
def Try.sortGrp_ren : Go.Shelf.Ren := ⟨fun | 6 => 34 | 15 => 54 | 14 => 53 | 28 => 83 | 29 => 61 | 20 => 75 | 21 => 76 | 22 => 77 | 23 => 78 | 24 => 79 | 25 => 80 | 26 => 81 | 27 => 82 | 46 => 93 | 47 => 94 | 48 => 95 | 49 => 96 | 50 => 97 | 57 => 103 | n => n, fun | 22 => 37 | 24 => 47 | 25 => 86 | 3 => 3 | 39 => 105 | 0 => 0 | 53 => 132 | 55 => 26 | 4 => 4 | 46 => 125 | 45 => 124 | 50 => 129 | 5 => 5 | 9 => 9 | 66 => 142 | 70 => 145 | 76 => 147 | 77 => 148 | n => n, fun | n => n⟩
set_option maxRecDepth 100000 in
theorem Try.sortGrp : Go.Proofs.SlLaysF0.n6 Try.prog Try.sortGrp_ren := {
  mixed := by kernel_rfl
  f6 := ⟨Try.f34.name, by decide, Try.func34.trans (congrArg some (by kernel_rfl))⟩
  f14 := ⟨Try.f53.name, by decide, Try.func53.trans (congrArg some (by kernel_rfl))⟩
  f15 := Try.func54.trans (congrArg some (by kernel_rfl))
  f20 := ⟨Try.f75.name, by decide, Try.func75.trans (congrArg some (by kernel_rfl))⟩
  f21 := ⟨Try.f76.name, by decide, Try.func76.trans (congrArg some (by kernel_rfl))⟩
  f22 := ⟨Try.f77.name, by decide, Try.func77.trans (congrArg some (by kernel_rfl))⟩
  f23 := ⟨Try.f78.name, by decide, Try.func78.trans (congrArg some (by kernel_rfl))⟩
  f24 := ⟨Try.f79.name, by decide, Try.func79.trans (congrArg some (by kernel_rfl))⟩
  f25 := ⟨Try.f80.name, by decide, Try.func80.trans (congrArg some (by kernel_rfl))⟩
  f26 := ⟨Try.f81.name, by decide, Try.func81.trans (congrArg some (by kernel_rfl))⟩
  f27 := ⟨Try.f82.name, by decide, Try.func82.trans (congrArg some (by kernel_rfl))⟩
  f28 := Try.func83.trans (congrArg some (by kernel_rfl))
  f29 := Try.func61.trans (congrArg some (by kernel_rfl))
  f46 := ⟨Try.f93.name, by decide, Try.func93.trans (congrArg some (by kernel_rfl))⟩
  f47 := Try.func94.trans (congrArg some (by kernel_rfl))
  f48 := Try.func95.trans (congrArg some (by kernel_rfl))
  f49 := ⟨Try.f96.name, by decide, Try.func96.trans (congrArg some (by kernel_rfl))⟩
  f50 := ⟨Try.f97.name, by decide, Try.func97.trans (congrArg some (by kernel_rfl))⟩
  f57 := ⟨Try.f103.name, by decide, Try.func103.trans (congrArg some (by kernel_rfl))⟩
  t0 := Try.underlying0
  a0 := Try.isAgg0
  z0 := Try.sizeOf0
  v0 := Try.zeroValue0
  t3 := Try.underlying3
  a3 := Try.isAgg3
  z3 := Try.sizeOf3
  v3 := Try.zeroValue3
  t4 := Try.underlying4
  a4 := Try.isAgg4
  z4 := Try.sizeOf4
  v4 := Try.zeroValue4
  t5 := Try.underlying5
  a5 := Try.isAgg5
  z5 := Try.sizeOf5
  v5 := Try.zeroValue5
  t9 := Try.underlying9
  a9 := Try.isAgg9
  z9 := Try.sizeOf9
  v9 := Try.zeroValue9
  t22 := Try.underlying37
  a22 := Try.isAgg37
  z22 := Try.sizeOf37
  v22 := Try.zeroValue37
  t25 := Try.underlying86
  a25 := Try.isAgg86
  z25 := Try.sizeOf86
  v25 := Try.zeroValue86
  t39 := Try.underlying105
  a39 := Try.isAgg105
  z39 := Try.sizeOf105
  v39 := Try.zeroValue105
  t45 := Try.underlying124
  a45 := Try.isAgg124
  z45 := Try.sizeOf124
  v45 := Try.zeroValue124
  t46 := Try.underlying125
  a46 := Try.isAgg125
  z46 := Try.sizeOf125
  v46 := Try.zeroValue125
  t50 := Try.underlying129
  a50 := Try.isAgg129
  z50 := Try.sizeOf129
  v50 := Try.zeroValue129
  t53 := Try.underlying132
  a53 := Try.isAgg132
  z53 := Try.sizeOf132
  v53 := Try.zeroValue132
  t55 := Try.underlying26
  a55 := Try.isAgg26
  z55 := Try.sizeOf26
  v55 := Try.zeroValue26
  t66 := Try.underlying142
  a66 := Try.isAgg142
  z66 := Try.sizeOf142
  v66 := Try.zeroValue142
  t70 := Try.underlying145
  a70 := Try.isAgg145
  z70 := Try.sizeOf145
  v70 := Try.zeroValue145
  t76 := Try.underlying147
  a76 := Try.isAgg147
  z76 := Try.sizeOf147
  v76 := Try.zeroValue147
  t77 := Try.underlying148
  a77 := Try.isAgg148
  z77 := Try.sizeOf148
  v77 := Try.zeroValue148 }
def Try.insEv_ren : Go.Shelf.Ren := ⟨fun | 20 => 84 | n => n, fun | 22 => 30 | 24 => 36 | 25 => 90 | 3 => 3 | 0 => 0 | 4 => 4 | n => n, fun | n => n⟩
set_option maxRecDepth 100000 in
theorem Try.insEv : Go.Proofs.SlLaysF0.n20 Try.prog Try.insEv_ren := {
  mixed := by kernel_rfl
  f20 := ⟨Try.f84.name, by decide, Try.func84.trans (congrArg some (by kernel_rfl))⟩
  t0 := Try.underlying0
  a0 := Try.isAgg0
  z0 := Try.sizeOf0
  v0 := Try.zeroValue0
  t3 := Try.underlying3
  a3 := Try.isAgg3
  z3 := Try.sizeOf3
  v3 := Try.zeroValue3
  t4 := Try.underlying4
  a4 := Try.isAgg4
  z4 := Try.sizeOf4
  v4 := Try.zeroValue4
  t22 := Try.underlying30
  a22 := Try.isAgg30
  z22 := Try.sizeOf30
  v22 := Try.zeroValue30
  t25 := Try.underlying90
  a25 := Try.isAgg90
  z25 := Try.sizeOf90
  v25 := Try.zeroValue90 }
def Try.cloneEv_ren : Go.Shelf.Ren := ⟨fun | 41 => 37 | n => n, fun | 22 => 30 | 23 => 36 | 4 => 4 | n => n, fun | n => n⟩
set_option maxRecDepth 100000 in
theorem Try.cloneEv : Go.Proofs.SlLaysE0.n41 Try.prog Try.cloneEv_ren := {
  mixed := by kernel_rfl
  f41 := ⟨Try.f37.name, by decide, Try.func37.trans (congrArg some (by kernel_rfl))⟩
  t4 := Try.underlying4
  a4 := Try.isAgg4
  z4 := Try.sizeOf4
  v4 := Try.zeroValue4
  t22 := Try.underlying30
  a22 := Try.isAgg30
  z22 := Try.sizeOf30
  v22 := Try.zeroValue30 }
end Go.Proofs
