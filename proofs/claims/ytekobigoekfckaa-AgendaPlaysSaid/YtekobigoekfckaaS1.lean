/-
  DERIVED: THE SHELF's CONTRACTS AT THIS DUMP, IN PLAIN WORDS (tools/lay-plain.mjs out of 'YtekobigoekfckaaShelf.lean', which tools/lay-shelf.mjs wrote): THE SAME DECLARATIONS UNDER THE SAME NAMES: 'import', 'namespace', 'open', 'def', 'theorem' AND NOTHING ELSE: no command of the shelf's: FOR A HAND-IN. Each laying: the table of numbers ('.._ren') and one theorem, a field a fact of the dump's own or the kernel's comparison; each contract: ONE APPLICATION.
-/
import Derived.Shelf.SlSortCmp.WholeK
import Derived.Shelf.SlLaysF0
import Derived.Shelf.SlGeneric
import Derived.Ground.SlsfProg
import Derived.Test.YtekobigoekfckaaProg
namespace Go.Proofs
open Go.Shelf
def Try.sortEnt_ren : Go.Shelf.Ren := ⟨fun | 6 => 22 | 15 => 31 | 14 => 30 | 28 => 40 | 29 => 41 | 20 => 32 | 21 => 33 | 22 => 34 | 23 => 35 | 24 => 36 | 25 => 37 | 26 => 38 | 27 => 39 | 46 => 42 | 47 => 43 | 48 => 44 | 49 => 45 | 50 => 46 | 57 => 47 | n => n, fun | 22 => 34 | 24 => 36 | 25 => 62 | 3 => 3 | 39 => 31 | 0 => 0 | 53 => 82 | 55 => 84 | 4 => 4 | 46 => 76 | 45 => 75 | 50 => 55 | 5 => 5 | 9 => 9 | 66 => 85 | 70 => 89 | 76 => 91 | 77 => 92 | n => n, fun | n => n⟩
theorem Try.sortEnt : Go.Proofs.SlLaysF0.n6 Try.prog Try.sortEnt_ren := {
  mixed := by kernel_rfl
  f6 := ⟨Try.f22.name, by decide, Try.func22.trans (congrArg some (by kernel_rfl))⟩
  f14 := ⟨Try.f30.name, by decide, Try.func30.trans (congrArg some (by kernel_rfl))⟩
  f15 := Try.func31.trans (congrArg some (by kernel_rfl))
  f20 := ⟨Try.f32.name, by decide, Try.func32.trans (congrArg some (by kernel_rfl))⟩
  f21 := ⟨Try.f33.name, by decide, Try.func33.trans (congrArg some (by kernel_rfl))⟩
  f22 := ⟨Try.f34.name, by decide, Try.func34.trans (congrArg some (by kernel_rfl))⟩
  f23 := ⟨Try.f35.name, by decide, Try.func35.trans (congrArg some (by kernel_rfl))⟩
  f24 := ⟨Try.f36.name, by decide, Try.func36.trans (congrArg some (by kernel_rfl))⟩
  f25 := ⟨Try.f37.name, by decide, Try.func37.trans (congrArg some (by kernel_rfl))⟩
  f26 := ⟨Try.f38.name, by decide, Try.func38.trans (congrArg some (by kernel_rfl))⟩
  f27 := ⟨Try.f39.name, by decide, Try.func39.trans (congrArg some (by kernel_rfl))⟩
  f28 := Try.func40.trans (congrArg some (by kernel_rfl))
  f29 := Try.func41.trans (congrArg some (by kernel_rfl))
  f46 := ⟨Try.f42.name, by decide, Try.func42.trans (congrArg some (by kernel_rfl))⟩
  f47 := Try.func43.trans (congrArg some (by kernel_rfl))
  f48 := Try.func44.trans (congrArg some (by kernel_rfl))
  f49 := ⟨Try.f45.name, by decide, Try.func45.trans (congrArg some (by kernel_rfl))⟩
  f50 := ⟨Try.f46.name, by decide, Try.func46.trans (congrArg some (by kernel_rfl))⟩
  f57 := ⟨Try.f47.name, by decide, Try.func47.trans (congrArg some (by kernel_rfl))⟩
  t0 := Try.underlying0
  a0 := Try.isAgg0
  z0 := Try.sizeOf0
  v0 := Try.zeroValue0
  t3 := Try.underlying3
  a3 := Try.isAgg3
  z3 := Try.sizeOf3
  v3 := Try.zeroValue3
  t4 := Try.underlying4
  a4 := Try.isAgg4
  z4 := Try.sizeOf4
  v4 := Try.zeroValue4
  t5 := Try.underlying5
  a5 := Try.isAgg5
  z5 := Try.sizeOf5
  v5 := Try.zeroValue5
  t9 := Try.underlying9
  a9 := Try.isAgg9
  z9 := Try.sizeOf9
  v9 := Try.zeroValue9
  t22 := Try.underlying34
  a22 := Try.isAgg34
  z22 := Try.sizeOf34
  v22 := Try.zeroValue34
  t25 := Try.underlying62
  a25 := Try.isAgg62
  z25 := Try.sizeOf62
  v25 := Try.zeroValue62
  t39 := Try.underlying31
  a39 := Try.isAgg31
  z39 := Try.sizeOf31
  v39 := Try.zeroValue31
  t45 := Try.underlying75
  a45 := Try.isAgg75
  z45 := Try.sizeOf75
  v45 := Try.zeroValue75
  t46 := Try.underlying76
  a46 := Try.isAgg76
  z46 := Try.sizeOf76
  v46 := Try.zeroValue76
  t50 := Try.underlying55
  a50 := Try.isAgg55
  z50 := Try.sizeOf55
  v50 := Try.zeroValue55
  t53 := Try.underlying82
  a53 := Try.isAgg82
  z53 := Try.sizeOf82
  v53 := Try.zeroValue82
  t55 := Try.underlying84
  a55 := Try.isAgg84
  z55 := Try.sizeOf84
  v55 := Try.zeroValue84
  t66 := Try.underlying85
  a66 := Try.isAgg85
  z66 := Try.sizeOf85
  v66 := Try.zeroValue85
  t70 := Try.underlying89
  a70 := Try.isAgg89
  z70 := Try.sizeOf89
  v70 := Try.zeroValue89
  t76 := Try.underlying91
  a76 := Try.isAgg91
  z76 := Try.sizeOf91
  v76 := Try.zeroValue91
  t77 := Try.underlying92
  a77 := Try.isAgg92
  z77 := Try.sizeOf92
  v77 := Try.zeroValue92 }
end Go.Proofs
