/-
  strings.Join at this dump: the laying that the kit's tools wrote for seat s4 (lay-shelf, lay-plain), kept as they wrote it.
-/
import Derived.Shelf.Strings.Builder1
import Derived.Shelf.Strings.Builder2
import Derived.Shelf.Strings.OnBuilder
import Derived.Ground.Names2Prog
import Derived.Test.YtihbceippcgfgaaProg
namespace Go.Proofs
open Go.Shelf
def Try.lays156_ren : Go.Shelf.Ren := ⟨fun | 156 => 97 | 165 => 111 | 166 => 112 | 169 => 113 | 240 => 115 | 241 => 116 | 276 => 118 | 277 => 119 | n => n, fun | 31 => 165 | 9 => 9 | 3 => 3 | 4 => 4 | 0 => 0 | 20 => 20 | 72 => 182 | 76 => 186 | 70 => 180 | 37 => 25 | 75 => 185 | 127 => 189 | 164 => 190 | 5 => 5 | 80 => 188 | n => n, fun | n => n⟩
theorem Try.lays156 : Go.Proofs.Lays.n156 Try.prog Try.lays156_ren := {
  mixed := by kernel_rfl
  f156 := Try.func97.trans (congrArg some (by kernel_rfl))
  f165 := Try.func111.trans (congrArg some (by kernel_rfl))
  f166 := Try.func112.trans (congrArg some (by kernel_rfl))
  f169 := Try.func113.trans (congrArg some (by kernel_rfl))
  f240 := Try.func115.trans (congrArg some (by kernel_rfl))
  f241 := Try.func116.trans (congrArg some (by kernel_rfl))
  f276 := Try.func118.trans (congrArg some (by kernel_rfl))
  f277 := Try.func119.trans (congrArg some (by kernel_rfl))
  t0 := Try.underlying0
  a0 := Try.isAgg0
  z0 := Try.sizeOf0
  v0 := Try.zeroValue0
  t3 := Try.underlying3
  a3 := Try.isAgg3
  z3 := Try.sizeOf3
  v3 := Try.zeroValue3
  t4 := Try.underlying4
  a4 := Try.isAgg4
  z4 := Try.sizeOf4
  v4 := Try.zeroValue4
  t9 := Try.underlying9
  a9 := Try.isAgg9
  z9 := Try.sizeOf9
  v9 := Try.zeroValue9
  t20 := Try.underlying20
  a20 := Try.isAgg20
  z20 := Try.sizeOf20
  v20 := Try.zeroValue20
  t31 := Try.underlying165
  a31 := Try.isAgg165
  z31 := Try.sizeOf165
  v31 := Try.zeroValue165
  t37 := Try.underlying25
  a37 := Try.isAgg25
  z37 := Try.sizeOf25
  v37 := Try.zeroValue25
  t70 := Try.underlying180
  a70 := Try.isAgg180
  z70 := Try.sizeOf180
  v70 := Try.zeroValue180
  t72 := Try.underlying182
  a72 := Try.isAgg182
  z72 := Try.sizeOf182
  v72 := Try.zeroValue182
  t75 := Try.underlying185
  a75 := Try.isAgg185
  z75 := Try.sizeOf185
  v75 := Try.zeroValue185
  t76 := Try.underlying186
  a76 := Try.isAgg186
  z76 := Try.sizeOf186
  v76 := Try.zeroValue186
  t127 := Try.underlying189
  a127 := Try.isAgg189
  z127 := Try.sizeOf189
  v127 := Try.zeroValue189
  t164 := Try.underlying190
  a164 := Try.isAgg190
  z164 := Try.sizeOf190
  v164 := Try.zeroValue190 }
theorem Try.Builder_Extra_156 : Builder.Extra Try.prog Try.lays156_ren := {
  sizeBuilder := by kernel_rfl
  liesBuilder := by kernel_rfl
  t5 := Try.underlying5
  a5 := Try.isAgg5
  z5 := Try.sizeOf5
  v5 := Try.zeroValue5
  infoByte := by kernel_rfl
  cellsByte := by kernel_rfl
  sizeByte := by kernel_rfl
  neB5 := by decide }
open Go.RowKit in
/-- No element: the empty string; the world is as it was. (Whatever the slice's address and capacity: a nil slice too.) (LAID: no walk: one application.) -/
theorem Try.strings_Join_none (a : Option Addr) (c : Nat) (sep : ByteArray) (w : World) :
    Calls Try.prog 97 #[.slice a 0 c, .string sep] w fun e w' => e = .returned (.string ⟨#[]⟩) ∧ w' = w := Any.strings_Join_none Try.lays156 Try.Builder_Extra_156 a c sep w
open Go.RowKit in
/-- strings.Join: "Join concatenates the elements of its first argument to create a single string. The separator string sep is placed between elements in the resulting string.": HOWEVER MANY ELEMENTS. Below the heap's end the world is as it was. (LAID: no walk: one application.) -/
theorem Try.strings_Join (bk o c : Nat) (xs : List ByteArray) (sep : ByteArray) (w : World) (hcells : ∀ (j : Nat) x, xs[j]? = some x → w.cell? ⟨bk, o + j, none⟩ = some (.string x)) (hbk : bk < w.heap.size) (hN : xs.length ≤ 140737488355328) (hcap : xs.length ≤ c) (hlen : (Lib.join (xs.map (·.data.toList)) sep.data.toList).length ≤ 140737488355328) :
    Calls Try.prog 97 #[.slice (some ⟨bk, o, none⟩) xs.length c, .string sep] w fun e w' => e = .returned (.string ⟨(Lib.join (xs.map (·.data.toList)) sep.data.toList).toArray⟩) ∧ Below w.heap.size w w' := Any.strings_Join Try.lays156 Try.Builder_Extra_156 bk o c xs sep w hcells hbk hN hcap hlen
end Go.Proofs
