/- texts of ours -/
import Derived.Shelf.SlGeneric
import Derived.Shelf.SlicesE.Clone
import Derived.Shelf.SlSortCmp.NoneTotal
import Derived.Shelf.SlSortCmp.WholeK
import Derived.Ground.SlgnProg
import Derived.Ground.SlsfProg
import Derived.Test.YtbbdimlpofjlfaaGreatDoorProg
/-
  DERIVED: THE SHELF's CONTRACTS AT THIS DUMP, IN PLAIN WORDS (tools/lay-plain.mjs out of 'YtbbdimlpofjlfaaGreatDoorLays2Src.lean', which tools/lay-shelf.mjs wrote): THE SAME DECLARATIONS UNDER THE SAME NAMES: 'import', 'namespace', 'open', 'def', 'theorem' AND NOTHING ELSE: no command of the shelf's: FOR A HAND-IN. Each laying: the table of numbers ('.._ren') and one theorem, a field a fact of the dump's own or the kernel's comparison; each contract: ONE APPLICATION.
-/
namespace Go.Proofs
open Go.Shelf
def Tryz.clone_ren : Go.Shelf.Ren := ⟨fun | 41 => 229 | n => n, fun | 22 => 319 | 23 => 326 | 4 => 4 | n => n, fun | n => n⟩
theorem Tryz.clone : Go.Proofs.SlLaysE0.n41 Tryz.prog Tryz.clone_ren := {
  mixed := by kernel_rfl
  f41 := ⟨Tryz.f229.name, by decide, Tryz.func229.trans (congrArg some (by kernel_rfl))⟩
  t4 := Tryz.underlying4
  a4 := Tryz.isAgg4
  z4 := Tryz.sizeOf4
  v4 := Tryz.zeroValue4
  t22 := Tryz.underlying319
  a22 := Tryz.isAgg319
  z22 := Tryz.sizeOf319
  v22 := Tryz.zeroValue319 }
def Tryz.sortf_ren : Go.Shelf.Ren := ⟨fun | 6 => 230 | 15 => 252 | 14 => 251 | 28 => 265 | 29 => 266 | 20 => 257 | 21 => 258 | 22 => 259 | 23 => 260 | 24 => 261 | 25 => 262 | 26 => 263 | 27 => 264 | 46 => 268 | 47 => 269 | 48 => 270 | 49 => 271 | 50 => 272 | 57 => 273 | n => n, fun | 22 => 319 | 24 => 326 | 25 => 332 | 3 => 3 | 39 => 344 | 0 => 0 | 53 => 360 | 55 => 67 | 4 => 4 | 46 => 354 | 45 => 353 | 50 => 315 | 5 => 5 | 9 => 9 | 66 => 361 | 70 => 365 | 76 => 367 | 77 => 36 | n => n, fun | n => n⟩
theorem Tryz.sortf : Go.Proofs.SlLaysF0.n6 Tryz.prog Tryz.sortf_ren := {
  mixed := by kernel_rfl
  f6 := ⟨Tryz.f230.name, by decide, Tryz.func230.trans (congrArg some (by kernel_rfl))⟩
  f14 := ⟨Tryz.f251.name, by decide, Tryz.func251.trans (congrArg some (by kernel_rfl))⟩
  f15 := Tryz.func252.trans (congrArg some (by kernel_rfl))
  f20 := ⟨Tryz.f257.name, by decide, Tryz.func257.trans (congrArg some (by kernel_rfl))⟩
  f21 := ⟨Tryz.f258.name, by decide, Tryz.func258.trans (congrArg some (by kernel_rfl))⟩
  f22 := ⟨Tryz.f259.name, by decide, Tryz.func259.trans (congrArg some (by kernel_rfl))⟩
  f23 := ⟨Tryz.f260.name, by decide, Tryz.func260.trans (congrArg some (by kernel_rfl))⟩
  f24 := ⟨Tryz.f261.name, by decide, Tryz.func261.trans (congrArg some (by kernel_rfl))⟩
  f25 := ⟨Tryz.f262.name, by decide, Tryz.func262.trans (congrArg some (by kernel_rfl))⟩
  f26 := ⟨Tryz.f263.name, by decide, Tryz.func263.trans (congrArg some (by kernel_rfl))⟩
  f27 := ⟨Tryz.f264.name, by decide, Tryz.func264.trans (congrArg some (by kernel_rfl))⟩
  f28 := Tryz.func265.trans (congrArg some (by kernel_rfl))
  f29 := Tryz.func266.trans (congrArg some (by kernel_rfl))
  f46 := ⟨Tryz.f268.name, by decide, Tryz.func268.trans (congrArg some (by kernel_rfl))⟩
  f47 := Tryz.func269.trans (congrArg some (by kernel_rfl))
  f48 := Tryz.func270.trans (congrArg some (by kernel_rfl))
  f49 := ⟨Tryz.f271.name, by decide, Tryz.func271.trans (congrArg some (by kernel_rfl))⟩
  f50 := ⟨Tryz.f272.name, by decide, Tryz.func272.trans (congrArg some (by kernel_rfl))⟩
  f57 := ⟨Tryz.f273.name, by decide, Tryz.func273.trans (congrArg some (by kernel_rfl))⟩
  t0 := Tryz.underlying0
  a0 := Tryz.isAgg0
  z0 := Tryz.sizeOf0
  v0 := Tryz.zeroValue0
  t3 := Tryz.underlying3
  a3 := Tryz.isAgg3
  z3 := Tryz.sizeOf3
  v3 := Tryz.zeroValue3
  t4 := Tryz.underlying4
  a4 := Tryz.isAgg4
  z4 := Tryz.sizeOf4
  v4 := Tryz.zeroValue4
  t5 := Tryz.underlying5
  a5 := Tryz.isAgg5
  z5 := Tryz.sizeOf5
  v5 := Tryz.zeroValue5
  t9 := Tryz.underlying9
  a9 := Tryz.isAgg9
  z9 := Tryz.sizeOf9
  v9 := Tryz.zeroValue9
  t22 := Tryz.underlying319
  a22 := Tryz.isAgg319
  z22 := Tryz.sizeOf319
  v22 := Tryz.zeroValue319
  t25 := Tryz.underlying332
  a25 := Tryz.isAgg332
  z25 := Tryz.sizeOf332
  v25 := Tryz.zeroValue332
  t39 := Tryz.underlying344
  a39 := Tryz.isAgg344
  z39 := Tryz.sizeOf344
  v39 := Tryz.zeroValue344
  t45 := Tryz.underlying353
  a45 := Tryz.isAgg353
  z45 := Tryz.sizeOf353
  v45 := Tryz.zeroValue353
  t46 := Tryz.underlying354
  a46 := Tryz.isAgg354
  z46 := Tryz.sizeOf354
  v46 := Tryz.zeroValue354
  t50 := Tryz.underlying315
  a50 := Tryz.isAgg315
  z50 := Tryz.sizeOf315
  v50 := Tryz.zeroValue315
  t53 := Tryz.underlying360
  a53 := Tryz.isAgg360
  z53 := Tryz.sizeOf360
  v53 := Tryz.zeroValue360
  t55 := Tryz.underlying67
  a55 := Tryz.isAgg67
  z55 := Tryz.sizeOf67
  v55 := Tryz.zeroValue67
  t66 := Tryz.underlying361
  a66 := Tryz.isAgg361
  z66 := Tryz.sizeOf361
  v66 := Tryz.zeroValue361
  t70 := Tryz.underlying365
  a70 := Tryz.isAgg365
  z70 := Tryz.sizeOf365
  v70 := Tryz.zeroValue365
  t76 := Tryz.underlying367
  a76 := Tryz.isAgg367
  z76 := Tryz.sizeOf367
  v76 := Tryz.zeroValue367
  t77 := Tryz.underlying36
  a77 := Tryz.isAgg36
  z77 := Tryz.sizeOf36
  v77 := Tryz.zeroValue36 }
end Go.Proofs
