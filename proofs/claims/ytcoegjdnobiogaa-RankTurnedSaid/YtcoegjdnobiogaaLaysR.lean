/-
  DERIVED: THE SHELF's CONTRACTS AT THIS DUMP, IN PLAIN WORDS (tools/lay-plain.mjs out of 'TryLaysR.lean', which tools/lay-shelf.mjs wrote): THE SAME DECLARATIONS UNDER THE SAME NAMES: 'import', 'namespace', 'open', 'def', 'theorem' AND NOTHING ELSE: no command of the shelf's: FOR A HAND-IN. Each laying: the table of numbers ('.._ren') and one theorem, a field a fact of the dump's own or the kernel's comparison; each contract: ONE APPLICATION.
-/
import Derived.Shelf.SlSortCmp.Whole1
import Derived.Shelf.SlGeneric
import Derived.Ground.SlsfProg
import Derived.Test.YtcoegjdnobiogaaProg
namespace Go.Proofs
open Go.Shelf
def Try.sortU_ren : Go.Shelf.Ren := ⟨fun | 6 => 176 | 15 => 181 | 14 => 190 | 28 => 201 | 29 => 202 | 20 => 215 | 21 => 216 | 22 => 217 | 23 => 218 | 24 => 219 | 25 => 220 | 26 => 221 | 27 => 222 | 46 => 232 | 47 => 224 | 48 => 225 | 49 => 233 | 50 => 234 | 57 => 237 | n => n, fun | 22 => 72 | 24 => 85 | 25 => 180 | 3 => 3 | 39 => 154 | 0 => 0 | 53 => 85 | 55 => 219 | 4 => 4 | 46 => 211 | 45 => 210 | 50 => 215 | 5 => 5 | 9 => 9 | 66 => 235 | 70 => 239 | 76 => 245 | 77 => 67 | n => n, fun | n => n⟩
theorem Try.sortU : Go.Proofs.SlLaysF.n6 Try.prog Try.sortU_ren := {
  mixed := by kernel_rfl
  f6 := ⟨Try.f176.name, by decide, Try.func176.trans (congrArg some (by kernel_rfl))⟩
  f14 := ⟨Try.f190.name, by decide, Try.func190.trans (congrArg some (by kernel_rfl))⟩
  f15 := Try.func181.trans (congrArg some (by kernel_rfl))
  f20 := ⟨Try.f215.name, by decide, Try.func215.trans (congrArg some (by kernel_rfl))⟩
  f21 := ⟨Try.f216.name, by decide, Try.func216.trans (congrArg some (by kernel_rfl))⟩
  f22 := ⟨Try.f217.name, by decide, Try.func217.trans (congrArg some (by kernel_rfl))⟩
  f23 := ⟨Try.f218.name, by decide, Try.func218.trans (congrArg some (by kernel_rfl))⟩
  f24 := ⟨Try.f219.name, by decide, Try.func219.trans (congrArg some (by kernel_rfl))⟩
  f25 := ⟨Try.f220.name, by decide, Try.func220.trans (congrArg some (by kernel_rfl))⟩
  f26 := ⟨Try.f221.name, by decide, Try.func221.trans (congrArg some (by kernel_rfl))⟩
  f27 := ⟨Try.f222.name, by decide, Try.func222.trans (congrArg some (by kernel_rfl))⟩
  f28 := Try.func201.trans (congrArg some (by kernel_rfl))
  f29 := Try.func202.trans (congrArg some (by kernel_rfl))
  f46 := ⟨Try.f232.name, by decide, Try.func232.trans (congrArg some (by kernel_rfl))⟩
  f47 := Try.func224.trans (congrArg some (by kernel_rfl))
  f48 := Try.func225.trans (congrArg some (by kernel_rfl))
  f49 := ⟨Try.f233.name, by decide, Try.func233.trans (congrArg some (by kernel_rfl))⟩
  f50 := ⟨Try.f234.name, by decide, Try.func234.trans (congrArg some (by kernel_rfl))⟩
  f57 := ⟨Try.f237.name, by decide, Try.func237.trans (congrArg some (by kernel_rfl))⟩
  t0 := Try.underlying0
  a0 := Try.isAgg0
  z0 := Try.sizeOf0
  v0 := Try.zeroValue0
  t3 := Try.underlying3
  a3 := Try.isAgg3
  z3 := Try.sizeOf3
  v3 := Try.zeroValue3
  t4 := Try.underlying4
  a4 := Try.isAgg4
  z4 := Try.sizeOf4
  v4 := Try.zeroValue4
  t5 := Try.underlying5
  a5 := Try.isAgg5
  z5 := Try.sizeOf5
  v5 := Try.zeroValue5
  t9 := Try.underlying9
  a9 := Try.isAgg9
  z9 := Try.sizeOf9
  v9 := Try.zeroValue9
  t22 := Try.underlying72
  a22 := Try.isAgg72
  z22 := Try.sizeOf72
  v22 := Try.zeroValue72
  a24 := Try.isAgg85
  z24 := Try.sizeOf85
  t25 := Try.underlying180
  a25 := Try.isAgg180
  z25 := Try.sizeOf180
  v25 := Try.zeroValue180
  t39 := Try.underlying154
  a39 := Try.isAgg154
  z39 := Try.sizeOf154
  v39 := Try.zeroValue154
  t45 := Try.underlying210
  a45 := Try.isAgg210
  z45 := Try.sizeOf210
  v45 := Try.zeroValue210
  t46 := Try.underlying211
  a46 := Try.isAgg211
  z46 := Try.sizeOf211
  v46 := Try.zeroValue211
  t50 := Try.underlying215
  a50 := Try.isAgg215
  z50 := Try.sizeOf215
  v50 := Try.zeroValue215
  t53 := Try.underlying85
  a53 := Try.isAgg85
  z53 := Try.sizeOf85
  v53 := Try.zeroValue85
  t55 := Try.underlying219
  a55 := Try.isAgg219
  z55 := Try.sizeOf219
  v55 := Try.zeroValue219
  t66 := Try.underlying235
  a66 := Try.isAgg235
  z66 := Try.sizeOf235
  v66 := Try.zeroValue235
  t70 := Try.underlying239
  a70 := Try.isAgg239
  z70 := Try.sizeOf239
  v70 := Try.zeroValue239
  t76 := Try.underlying245
  a76 := Try.isAgg245
  z76 := Try.sizeOf245
  v76 := Try.zeroValue245
  t77 := Try.underlying67
  a77 := Try.isAgg67
  z77 := Try.sizeOf67
  v77 := Try.zeroValue67 }
end Go.Proofs
