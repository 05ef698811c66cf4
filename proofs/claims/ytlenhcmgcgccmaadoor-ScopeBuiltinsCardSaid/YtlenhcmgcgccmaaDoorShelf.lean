/-
  DERIVED: THE SHELF's CONTRACTS AT THIS DUMP, IN PLAIN WORDS (tools/lay-plain.mjs out of 'TrydShelf.lean', which tools/lay-shelf.mjs wrote): THE SAME DECLARATIONS UNDER THE SAME NAMES: 'import', 'namespace', 'open', 'def', 'theorem' AND NOTHING ELSE: no command of the shelf's: FOR A HAND-IN. Each laying: the table of numbers ('.._ren') and one theorem, a field a fact of the dump's own or the kernel's comparison; each contract: ONE APPLICATION.
-/
import Derived.Shelf.Strings.Fields
import Derived.Shelf.LaysM
import Derived.Shelf.Strings.SplitShaped
import Derived.Shelf.Unicode.Latin
import Derived.Shelf.Unicode.Is16White
import Derived.Shelf.Unicode.IsSpaceAny
import Derived.Shelf.Unicode.Is16WhiteD
import Derived.Shelf.Unicode.IsSpaceAnyD
import Derived.Shelf.Strings.FieldsAny
import Derived.Shelf.Strings.FieldsFuncAny
import Derived.Shelf.Unicode.Is16Any
import Derived.Shelf.Unicode.Is32Any
import Derived.Shelf.Unicode.ExclAny
import Derived.Shelf.Strings.FieldsFuncGrows
import Derived.Shelf.Slices.Turned
import Derived.Test.YtlenhcmgcgccmaaDoorProg
namespace Go.Proofs
open Go.Shelf
def Tryd.lays157_ren : Go.Shelf.Ren := ⟨fun | 157 => 70 | 229 => 73 | 199 => 74 | 261 => 76 | 311 => 78 | 312 => 79 | n => n, fun | 9 => 9 | 31 => 22 | 3 => 3 | 5 => 5 | 4 => 4 | 119 => 107 | 0 => 0 | 40 => 109 | 152 => 113 | 21 => 21 | 154 => 115 | 51 => 116 | 141 => 118 | 196 => 123 | 193 => 120 | 198 => 126 | 49 => 124 | 194 => 121 | 201 => 129 | 226 => 131 | 46 => 132 | 227 => 133 | n => n, fun | 0 => 0 | 6 => 1 | n => n⟩
theorem Tryd.lays157 : Go.Proofs.Lays.n157 Tryd.prog Tryd.lays157_ren := {
  mixed := by kernel_rfl
  f157 := Tryd.func70.trans (congrArg some (by kernel_rfl))
  f199 := Tryd.func74.trans (congrArg some (by kernel_rfl))
  f229 := Tryd.func73.trans (congrArg some (by kernel_rfl))
  f261 := Tryd.func76.trans (congrArg some (by kernel_rfl))
  f311 := Tryd.func78.trans (congrArg some (by kernel_rfl))
  f312 := Tryd.func79.trans (congrArg some (by kernel_rfl))
  t0 := Tryd.underlying0
  a0 := Tryd.isAgg0
  z0 := Tryd.sizeOf0
  v0 := Tryd.zeroValue0
  t3 := Tryd.underlying3
  a3 := Tryd.isAgg3
  z3 := Tryd.sizeOf3
  v3 := Tryd.zeroValue3
  t4 := Tryd.underlying4
  a4 := Tryd.isAgg4
  z4 := Tryd.sizeOf4
  v4 := Tryd.zeroValue4
  t5 := Tryd.underlying5
  a5 := Tryd.isAgg5
  z5 := Tryd.sizeOf5
  v5 := Tryd.zeroValue5
  t9 := Tryd.underlying9
  a9 := Tryd.isAgg9
  z9 := Tryd.sizeOf9
  v9 := Tryd.zeroValue9
  t21 := Tryd.underlying21
  a21 := Tryd.isAgg21
  z21 := Tryd.sizeOf21
  v21 := Tryd.zeroValue21
  t31 := Tryd.underlying22
  a31 := Tryd.isAgg22
  z31 := Tryd.sizeOf22
  v31 := Tryd.zeroValue22
  t40 := Tryd.underlying109
  a40 := Tryd.isAgg109
  z40 := Tryd.sizeOf109
  v40 := Tryd.zeroValue109
  t46 := Tryd.underlying132
  a46 := Tryd.isAgg132
  z46 := Tryd.sizeOf132
  v46 := Tryd.zeroValue132
  t49 := Tryd.underlying124
  a49 := Tryd.isAgg124
  z49 := Tryd.sizeOf124
  v49 := Tryd.zeroValue124
  t51 := Tryd.underlying116
  a51 := Tryd.isAgg116
  z51 := Tryd.sizeOf116
  v51 := Tryd.zeroValue116
  t119 := Tryd.underlying107
  a119 := Tryd.isAgg107
  z119 := Tryd.sizeOf107
  t141 := Tryd.underlying118
  a141 := Tryd.isAgg118
  z141 := Tryd.sizeOf118
  v141 := Tryd.zeroValue118
  t152 := Tryd.underlying113
  a152 := Tryd.isAgg113
  z152 := Tryd.sizeOf113
  v152 := Tryd.zeroValue113
  t154 := Tryd.underlying115
  a154 := Tryd.isAgg115
  z154 := Tryd.sizeOf115
  v154 := Tryd.zeroValue115
  t193 := Tryd.underlying120
  a193 := Tryd.isAgg120
  z193 := Tryd.sizeOf120
  v193 := Tryd.zeroValue120
  t194 := Tryd.underlying121
  a194 := Tryd.isAgg121
  z194 := Tryd.sizeOf121
  v194 := Tryd.zeroValue121
  t196 := Tryd.underlying123
  a196 := Tryd.isAgg123
  z196 := Tryd.sizeOf123
  v196 := Tryd.zeroValue123
  t198 := Tryd.underlying126
  a198 := Tryd.isAgg126
  z198 := Tryd.sizeOf126
  v198 := Tryd.zeroValue126
  t201 := Tryd.underlying129
  a201 := Tryd.isAgg129
  z201 := Tryd.sizeOf129
  v201 := Tryd.zeroValue129
  t226 := Tryd.underlying131
  a226 := Tryd.isAgg131
  z226 := Tryd.sizeOf131
  v226 := Tryd.zeroValue131
  t227 := Tryd.underlying133
  a227 := Tryd.isAgg133
  z227 := Tryd.sizeOf133
  v227 := Tryd.zeroValue133
  g0 := by kernel_rfl
  g6 := by kernel_rfl }
open Go.RowKit Go.Lib in
/-- strings.Fields, the table by 'Lib.TabIs' (as strings.TrimSpace's contract). 'hg': the table's number, by its name: at a dump 'by kernel_rfl'. (LAID: no walk: one application.) -/
theorem Tryd.strings_Fields (s : ByteArray) (w : World) (hs : s.size < 4294967281) (hascii : ∀ (j : Nat) b, s.data.toList[j]? = some b → b.toNat < 128) (htab : Lib.TabIs Tryd.prog w "strings.asciiSpace" .u8 Lib.asciiSpaceTab) :
    Calls Tryd.prog 70 #[.string s] w fun e w' =>
      e = .returned (.slice (some ⟨w.heap.size, 0, none⟩) (Lib.fields s.data.toList).length (Lib.fields s.data.toList).length) ∧ w' = w.alloc (.cells ((Lib.fields s.data.toList).map fun l => Value.string ⟨l.toArray⟩).toArray 9) := Any.strings_Fields Tryd.lays157 (by kernel_rfl) (by kernel_rfl) s w hs hascii htab
def Tryd.laysM157_ren : Go.Shelf.Ren := ⟨fun | 157 => 70 | 229 => 73 | 199 => 74 | 261 => 76 | 311 => 78 | 312 => 79 | n => n, fun | 9 => 9 | 31 => 22 | 3 => 3 | 5 => 5 | 4 => 4 | 119 => 107 | 0 => 0 | 40 => 109 | 152 => 113 | 21 => 21 | 154 => 115 | 51 => 116 | 141 => 118 | 196 => 123 | 193 => 120 | 198 => 126 | 49 => 124 | 194 => 121 | 201 => 129 | 226 => 131 | 46 => 132 | 227 => 133 | n => n, fun | 0 => 0 | 6 => 1 | n => n⟩
open Go.RowKit Go.Lib in
def Tryd.lays199_ren : Go.Shelf.Ren := ⟨fun | 199 => 74 | 261 => 76 | 311 => 78 | 312 => 79 | n => n, fun | 21 => 21 | 4 => 4 | 51 => 116 | 141 => 118 | 0 => 0 | 196 => 123 | 193 => 120 | 3 => 3 | 198 => 126 | 49 => 124 | 194 => 121 | 201 => 129 | 226 => 131 | 46 => 132 | 227 => 133 | n => n, fun | 6 => 1 | n => n⟩
open Go.RowKit Go.Lib in
def Tryd.lays311_ren : Go.Shelf.Ren := ⟨fun | 311 => 78 | n => n, fun | 193 => 120 | 49 => 124 | 4 => 4 | 3 => 3 | 0 => 0 | 226 => 131 | 198 => 126 | 46 => 132 | n => n, fun | n => n⟩
open Go.RowKit Go.Lib in
def Tryd.lays261_ren : Go.Shelf.Ren := ⟨fun | 261 => 76 | 311 => 78 | 312 => 79 | n => n, fun | 141 => 118 | 21 => 21 | 4 => 4 | 0 => 0 | 196 => 123 | 193 => 120 | 3 => 3 | 51 => 116 | 198 => 126 | 49 => 124 | 194 => 121 | 201 => 129 | 226 => 131 | 46 => 132 | 227 => 133 | n => n, fun | n => n⟩
open Go.RowKit Go.Lib in
open Go.RowKit Go.Lib in
open Go.RowKit Go.Lib in
open Go.RowKit Go.Lib in
open Go.RowKit Go.Lib in
open Go.RowKit Go.Lib in
open Go.RowKit Go.Lib in
def Tryd.lays229_ren : Go.Shelf.Ren := ⟨fun | 229 => 73 | n => n, fun | 9 => 9 | 40 => 109 | 31 => 22 | 152 => 113 | 3 => 3 | 0 => 0 | 4 => 4 | 21 => 21 | 154 => 115 | n => n, fun | n => n⟩
open Go.RowKit Go.Lib in
open Go.RowKit Go.Lib in
open Go.RowKit Go.Lib in
def Tryd.lays312_ren : Go.Shelf.Ren := ⟨fun | 312 => 79 | n => n, fun | 194 => 121 | 51 => 116 | 4 => 4 | 3 => 3 | 0 => 0 | 227 => 133 | 201 => 129 | 46 => 132 | n => n, fun | n => n⟩
open Go.RowKit Go.Lib in
open Go.RowKit Go.Lib in
open Go.RowKit Go.Lib in
def Tryd.lays109_ren : Go.Shelf.Ren := ⟨fun | 109 => 20 | n => n, fun | 31 => 22 | 9 => 9 | 3 => 3 | 0 => 0 | 4 => 4 | n => n, fun | n => n⟩
open Go.Lib in
open Go.Lib in
def Tryd.lays110_ren : Go.Shelf.Ren := ⟨fun | 110 => 69 | 109 => 20 | n => n, fun | 31 => 22 | 9 => 9 | 4 => 4 | 3 => 3 | 0 => 0 | n => n, fun | n => n⟩
theorem Tryd.lays110 : Go.Proofs.Lays.n110 Tryd.prog Tryd.lays110_ren := {
  mixed := by kernel_rfl
  f109 := Tryd.func20.trans (congrArg some (by kernel_rfl))
  f110 := Tryd.func69.trans (congrArg some (by kernel_rfl))
  t0 := Tryd.underlying0
  a0 := Tryd.isAgg0
  z0 := Tryd.sizeOf0
  v0 := Tryd.zeroValue0
  t3 := Tryd.underlying3
  a3 := Tryd.isAgg3
  z3 := Tryd.sizeOf3
  v3 := Tryd.zeroValue3
  t4 := Tryd.underlying4
  a4 := Tryd.isAgg4
  z4 := Tryd.sizeOf4
  v4 := Tryd.zeroValue4
  t9 := Tryd.underlying9
  a9 := Tryd.isAgg9
  z9 := Tryd.sizeOf9
  v9 := Tryd.zeroValue9
  t31 := Tryd.underlying22
  a31 := Tryd.isAgg22
  z31 := Tryd.sizeOf22
  v31 := Tryd.zeroValue22 }
open Go.Lib in
/-- slices.Contains at []string: "Contains reports whether v is present in s.": IT RETURNS 'Lib.containsS (the elements) v', which is true just where v is among them ('Lib.containsS_iff'); the world is as it was. ITS CALLEE slices.Index IS MET BY ITS OWN CONTRACT OFF THE SHELF (lay that first): no loop is walked here. (LAID: no walk: one application.) -/
theorem Tryd.slices_Contains_string (b off n c : Nat) (zs : List ByteArray) (x : ByteArray) (w : World) (hz : n ≤ zs.length) (hbig : n ≤ 9223372036854775807) (hc : ∀ j, j < zs.length → w.cell? ⟨b, off + j, none⟩ = some (.string (zs.getD j ByteArray.empty))) :
    Calls Tryd.prog 69 #[.slice (some ⟨b, off, none⟩) n c, .string x] w fun e w' => e = .returned (.bool (Lib.containsS (zs.take n) x)) ∧ w' = w := Any.slices_Contains_string Tryd.lays110 b off n c zs x w hz hbig hc
open Go.Lib in
end Go.Proofs
