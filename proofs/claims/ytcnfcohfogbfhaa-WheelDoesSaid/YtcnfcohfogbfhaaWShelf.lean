/-
  DERIVED: THE SHELF's CONTRACTS AT THIS DUMP, IN PLAIN WORDS (tools/lay-plain.mjs out of 'YtcnfcohfogbfhaaShelf.lean', which tools/lay-shelf.mjs wrote): THE SAME DECLARATIONS UNDER THE SAME NAMES: 'import', 'namespace', 'open', 'def', 'theorem' AND NOTHING ELSE: no command of the shelf's: FOR A HAND-IN. Each laying: the table of numbers ('.._ren') and one theorem, a field a fact of the dump's own or the kernel's comparison; each contract: ONE APPLICATION.
-/
import Derived.Shelf.SlicesQ.IndexFunc
import Derived.Shelf.SlSortCmp.WholeK
import Derived.Ground.SlgfProg
import Derived.Ground.SlsfProg
import Derived.Shelf.SlGeneric
import Derived.Test.YtcnfcohfogbfhaaProg
namespace Go.Proofs
open Go.Shelf
def Try.lIdx_ren : Go.Shelf.Ren := ⟨fun | 6 => 32 | n => n, fun | 22 => 54 | 23 => 60 | 25 => 72 | 3 => 3 | 0 => 0 | 4 => 4 | n => n, fun | n => n⟩
theorem Try.lIdx : Go.Proofs.SlLaysH0.n6 Try.prog Try.lIdx_ren := {
  mixed := by kernel_rfl
  f6 := ⟨Try.f32.name, by decide, Try.func32.trans (congrArg some (by kernel_rfl))⟩
  t0 := Try.underlying0
  a0 := Try.isAgg0
  z0 := Try.sizeOf0
  v0 := Try.zeroValue0
  t3 := Try.underlying3
  a3 := Try.isAgg3
  z3 := Try.sizeOf3
  v3 := Try.zeroValue3
  t4 := Try.underlying4
  a4 := Try.isAgg4
  z4 := Try.sizeOf4
  v4 := Try.zeroValue4
  t22 := Try.underlying54
  a22 := Try.isAgg54
  z22 := Try.sizeOf54
  v22 := Try.zeroValue54
  t25 := Try.underlying72
  a25 := Try.isAgg72
  z25 := Try.sizeOf72
  v25 := Try.zeroValue72 }
def Try.lSort_ren : Go.Shelf.Ren := ⟨fun | 6 => 25 | 15 => 31 | 14 => 30 | 28 => 42 | 29 => 43 | 20 => 34 | 21 => 35 | 22 => 36 | 23 => 37 | 24 => 38 | 25 => 39 | 26 => 40 | 27 => 41 | 46 => 44 | 47 => 45 | 48 => 46 | 49 => 47 | 50 => 48 | 57 => 49 | n => n, fun | 22 => 54 | 24 => 60 | 25 => 62 | 3 => 3 | 39 => 70 | 0 => 0 | 53 => 81 | 55 => 83 | 4 => 4 | 46 => 75 | 45 => 74 | 50 => 41 | 5 => 5 | 9 => 9 | 66 => 84 | 70 => 88 | 76 => 90 | 77 => 91 | n => n, fun | n => n⟩
theorem Try.lSort : Go.Proofs.SlLaysF0.n6 Try.prog Try.lSort_ren := {
  mixed := by kernel_rfl
  f6 := ⟨Try.f25.name, by decide, Try.func25.trans (congrArg some (by kernel_rfl))⟩
  f14 := ⟨Try.f30.name, by decide, Try.func30.trans (congrArg some (by kernel_rfl))⟩
  f15 := Try.func31.trans (congrArg some (by kernel_rfl))
  f20 := ⟨Try.f34.name, by decide, Try.func34.trans (congrArg some (by kernel_rfl))⟩
  f21 := ⟨Try.f35.name, by decide, Try.func35.trans (congrArg some (by kernel_rfl))⟩
  f22 := ⟨Try.f36.name, by decide, Try.func36.trans (congrArg some (by kernel_rfl))⟩
  f23 := ⟨Try.f37.name, by decide, Try.func37.trans (congrArg some (by kernel_rfl))⟩
  f24 := ⟨Try.f38.name, by decide, Try.func38.trans (congrArg some (by kernel_rfl))⟩
  f25 := ⟨Try.f39.name, by decide, Try.func39.trans (congrArg some (by kernel_rfl))⟩
  f26 := ⟨Try.f40.name, by decide, Try.func40.trans (congrArg some (by kernel_rfl))⟩
  f27 := ⟨Try.f41.name, by decide, Try.func41.trans (congrArg some (by kernel_rfl))⟩
  f28 := Try.func42.trans (congrArg some (by kernel_rfl))
  f29 := Try.func43.trans (congrArg some (by kernel_rfl))
  f46 := ⟨Try.f44.name, by decide, Try.func44.trans (congrArg some (by kernel_rfl))⟩
  f47 := Try.func45.trans (congrArg some (by kernel_rfl))
  f48 := Try.func46.trans (congrArg some (by kernel_rfl))
  f49 := ⟨Try.f47.name, by decide, Try.func47.trans (congrArg some (by kernel_rfl))⟩
  f50 := ⟨Try.f48.name, by decide, Try.func48.trans (congrArg some (by kernel_rfl))⟩
  f57 := ⟨Try.f49.name, by decide, Try.func49.trans (congrArg some (by kernel_rfl))⟩
  t0 := Try.underlying0
  a0 := Try.isAgg0
  z0 := Try.sizeOf0
  v0 := Try.zeroValue0
  t3 := Try.underlying3
  a3 := Try.isAgg3
  z3 := Try.sizeOf3
  v3 := Try.zeroValue3
  t4 := Try.underlying4
  a4 := Try.isAgg4
  z4 := Try.sizeOf4
  v4 := Try.zeroValue4
  t5 := Try.underlying5
  a5 := Try.isAgg5
  z5 := Try.sizeOf5
  v5 := Try.zeroValue5
  t9 := Try.underlying9
  a9 := Try.isAgg9
  z9 := Try.sizeOf9
  v9 := Try.zeroValue9
  t22 := Try.underlying54
  a22 := Try.isAgg54
  z22 := Try.sizeOf54
  v22 := Try.zeroValue54
  t25 := Try.underlying62
  a25 := Try.isAgg62
  z25 := Try.sizeOf62
  v25 := Try.zeroValue62
  t39 := Try.underlying70
  a39 := Try.isAgg70
  z39 := Try.sizeOf70
  v39 := Try.zeroValue70
  t45 := Try.underlying74
  a45 := Try.isAgg74
  z45 := Try.sizeOf74
  v45 := Try.zeroValue74
  t46 := Try.underlying75
  a46 := Try.isAgg75
  z46 := Try.sizeOf75
  v46 := Try.zeroValue75
  t50 := Try.underlying41
  a50 := Try.isAgg41
  z50 := Try.sizeOf41
  v50 := Try.zeroValue41
  t53 := Try.underlying81
  a53 := Try.isAgg81
  z53 := Try.sizeOf81
  v53 := Try.zeroValue81
  t55 := Try.underlying83
  a55 := Try.isAgg83
  z55 := Try.sizeOf83
  v55 := Try.zeroValue83
  t66 := Try.underlying84
  a66 := Try.isAgg84
  z66 := Try.sizeOf84
  v66 := Try.zeroValue84
  t70 := Try.underlying88
  a70 := Try.isAgg88
  z70 := Try.sizeOf88
  v70 := Try.zeroValue88
  t76 := Try.underlying90
  a76 := Try.isAgg90
  z76 := Try.sizeOf90
  v76 := Try.zeroValue90
  t77 := Try.underlying91
  a77 := Try.isAgg91
  z77 := Try.sizeOf91
  v77 := Try.zeroValue91 }
end Go.Proofs
