/-
  slices.SortFunc at this dump (s6): the laying that the kit's tools wrote (lay-plain).
-/
import Derived.Shelf.SlGeneric
import Derived.Shelf.SlLaysF0
import Derived.Ground.SlsfProg
import Derived.Test.YtkoplofcjbeicaaProg
namespace Go.Proofs
open Go.Shelf
def Try.sortTup_ren : Go.Shelf.Ren := ⟨fun | 6 => 87 | 15 => 96 | 14 => 95 | 28 => 109 | 29 => 110 | 20 => 101 | 21 => 102 | 22 => 103 | 23 => 104 | 24 => 105 | 25 => 106 | 26 => 107 | 27 => 108 | 46 => 114 | 47 => 115 | 48 => 116 | 49 => 117 | 50 => 118 | 57 => 121 | n => n, fun | 22 => 68 | 24 => 43 | 25 => 134 | 3 => 3 | 39 => 97 | 0 => 0 | 53 => 41 | 55 => 76 | 4 => 4 | 46 => 149 | 45 => 148 | 50 => 153 | 5 => 5 | 9 => 9 | 66 => 161 | 70 => 165 | 76 => 171 | 77 => 172 | n => n, fun | n => n⟩
theorem Try.sortTup : Go.Proofs.SlLaysF0.n6 Try.prog Try.sortTup_ren := {
  mixed := by kernel_rfl
  f6 := ⟨Try.f87.name, by decide, Try.func87.trans (congrArg some (by kernel_rfl))⟩
  f14 := ⟨Try.f95.name, by decide, Try.func95.trans (congrArg some (by kernel_rfl))⟩
  f15 := Try.func96.trans (congrArg some (by kernel_rfl))
  f20 := ⟨Try.f101.name, by decide, Try.func101.trans (congrArg some (by kernel_rfl))⟩
  f21 := ⟨Try.f102.name, by decide, Try.func102.trans (congrArg some (by kernel_rfl))⟩
  f22 := ⟨Try.f103.name, by decide, Try.func103.trans (congrArg some (by kernel_rfl))⟩
  f23 := ⟨Try.f104.name, by decide, Try.func104.trans (congrArg some (by kernel_rfl))⟩
  f24 := ⟨Try.f105.name, by decide, Try.func105.trans (congrArg some (by kernel_rfl))⟩
  f25 := ⟨Try.f106.name, by decide, Try.func106.trans (congrArg some (by kernel_rfl))⟩
  f26 := ⟨Try.f107.name, by decide, Try.func107.trans (congrArg some (by kernel_rfl))⟩
  f27 := ⟨Try.f108.name, by decide, Try.func108.trans (congrArg some (by kernel_rfl))⟩
  f28 := Try.func109.trans (congrArg some (by kernel_rfl))
  f29 := Try.func110.trans (congrArg some (by kernel_rfl))
  f46 := ⟨Try.f114.name, by decide, Try.func114.trans (congrArg some (by kernel_rfl))⟩
  f47 := Try.func115.trans (congrArg some (by kernel_rfl))
  f48 := Try.func116.trans (congrArg some (by kernel_rfl))
  f49 := ⟨Try.f117.name, by decide, Try.func117.trans (congrArg some (by kernel_rfl))⟩
  f50 := ⟨Try.f118.name, by decide, Try.func118.trans (congrArg some (by kernel_rfl))⟩
  f57 := ⟨Try.f121.name, by decide, Try.func121.trans (congrArg some (by kernel_rfl))⟩
  t0 := Try.underlying0
  a0 := Try.isAgg0
  z0 := Try.sizeOf0
  v0 := Try.zeroValue0
  t3 := Try.underlying3
  a3 := Try.isAgg3
  z3 := Try.sizeOf3
  v3 := Try.zeroValue3
  t4 := Try.underlying4
  a4 := Try.isAgg4
  z4 := Try.sizeOf4
  v4 := Try.zeroValue4
  t5 := Try.underlying5
  a5 := Try.isAgg5
  z5 := Try.sizeOf5
  v5 := Try.zeroValue5
  t9 := Try.underlying9
  a9 := Try.isAgg9
  z9 := Try.sizeOf9
  v9 := Try.zeroValue9
  t22 := Try.underlying68
  a22 := Try.isAgg68
  z22 := Try.sizeOf68
  v22 := Try.zeroValue68
  t25 := Try.underlying134
  a25 := Try.isAgg134
  z25 := Try.sizeOf134
  v25 := Try.zeroValue134
  t39 := Try.underlying97
  a39 := Try.isAgg97
  z39 := Try.sizeOf97
  v39 := Try.zeroValue97
  t45 := Try.underlying148
  a45 := Try.isAgg148
  z45 := Try.sizeOf148
  v45 := Try.zeroValue148
  t46 := Try.underlying149
  a46 := Try.isAgg149
  z46 := Try.sizeOf149
  v46 := Try.zeroValue149
  t50 := Try.underlying153
  a50 := Try.isAgg153
  z50 := Try.sizeOf153
  v50 := Try.zeroValue153
  t53 := Try.underlying41
  a53 := Try.isAgg41
  z53 := Try.sizeOf41
  v53 := Try.zeroValue41
  t55 := Try.underlying76
  a55 := Try.isAgg76
  z55 := Try.sizeOf76
  v55 := Try.zeroValue76
  t66 := Try.underlying161
  a66 := Try.isAgg161
  z66 := Try.sizeOf161
  v66 := Try.zeroValue161
  t70 := Try.underlying165
  a70 := Try.isAgg165
  z70 := Try.sizeOf165
  v70 := Try.zeroValue165
  t76 := Try.underlying171
  a76 := Try.isAgg171
  z76 := Try.sizeOf171
  v76 := Try.zeroValue171
  t77 := Try.underlying172
  a77 := Try.isAgg172
  z77 := Try.sizeOf172
  v77 := Try.zeroValue172 }
end Go.Proofs
