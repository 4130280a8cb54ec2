/-
  DERIVED: THE SHELF's CONTRACTS AT THIS DUMP, IN PLAIN WORDS (tools/lay-plain.mjs out of 'TrydShelf.lean', which tools/lay-shelf.mjs wrote): THE SAME DECLARATIONS UNDER THE SAME NAMES: 'import', 'namespace', 'open', 'def', 'theorem' AND NOTHING ELSE: no command of the shelf's: FOR A HAND-IN. Each laying: the table of numbers ('.._ren') and one theorem, a field a fact of the dump's own or the kernel's comparison; each contract: ONE APPLICATION.
-/
import Derived.Shelf.Strings.Fields
import Derived.Test.YtljdohfdafnnaaaDoorProg
namespace Go.Proofs
open Go.Shelf
def Tryd.lays157_ren : Go.Shelf.Ren := ⟨fun | 157 => 65 | 229 => 79 | 199 => 80 | 261 => 86 | 311 => 91 | 312 => 92 | n => n, fun | 9 => 9 | 31 => 30 | 3 => 3 | 5 => 5 | 4 => 4 | 119 => 132 | 0 => 0 | 40 => 134 | 152 => 141 | 21 => 21 | 154 => 143 | 51 => 93 | 141 => 145 | 196 => 149 | 193 => 146 | 198 => 152 | 49 => 150 | 194 => 147 | 201 => 155 | 226 => 158 | 46 => 55 | 227 => 159 | n => n, fun | 0 => 0 | 6 => 1 | n => n⟩
theorem Tryd.lays157 : Go.Proofs.Lays.n157 Tryd.prog Tryd.lays157_ren := {
  mixed := by kernel_rfl
  f157 := Tryd.func65.trans (congrArg some (by kernel_rfl))
  f199 := Tryd.func80.trans (congrArg some (by kernel_rfl))
  f229 := Tryd.func79.trans (congrArg some (by kernel_rfl))
  f261 := Tryd.func86.trans (congrArg some (by kernel_rfl))
  f311 := Tryd.func91.trans (congrArg some (by kernel_rfl))
  f312 := Tryd.func92.trans (congrArg some (by kernel_rfl))
  t0 := Tryd.underlying0
  a0 := Tryd.isAgg0
  z0 := Tryd.sizeOf0
  v0 := Tryd.zeroValue0
  t3 := Tryd.underlying3
  a3 := Tryd.isAgg3
  z3 := Tryd.sizeOf3
  v3 := Tryd.zeroValue3
  t4 := Tryd.underlying4
  a4 := Tryd.isAgg4
  z4 := Tryd.sizeOf4
  v4 := Tryd.zeroValue4
  t5 := Tryd.underlying5
  a5 := Tryd.isAgg5
  z5 := Tryd.sizeOf5
  v5 := Tryd.zeroValue5
  t9 := Tryd.underlying9
  a9 := Tryd.isAgg9
  z9 := Tryd.sizeOf9
  v9 := Tryd.zeroValue9
  t21 := Tryd.underlying21
  a21 := Tryd.isAgg21
  z21 := Tryd.sizeOf21
  v21 := Tryd.zeroValue21
  t31 := Tryd.underlying30
  a31 := Tryd.isAgg30
  z31 := Tryd.sizeOf30
  v31 := Tryd.zeroValue30
  t40 := Tryd.underlying134
  a40 := Tryd.isAgg134
  z40 := Tryd.sizeOf134
  v40 := Tryd.zeroValue134
  t46 := Tryd.underlying55
  a46 := Tryd.isAgg55
  z46 := Tryd.sizeOf55
  v46 := Tryd.zeroValue55
  t49 := Tryd.underlying150
  a49 := Tryd.isAgg150
  z49 := Tryd.sizeOf150
  v49 := Tryd.zeroValue150
  t51 := Tryd.underlying93
  a51 := Tryd.isAgg93
  z51 := Tryd.sizeOf93
  v51 := Tryd.zeroValue93
  t119 := Tryd.underlying132
  a119 := Tryd.isAgg132
  z119 := Tryd.sizeOf132
  t141 := Tryd.underlying145
  a141 := Tryd.isAgg145
  z141 := Tryd.sizeOf145
  v141 := Tryd.zeroValue145
  t152 := Tryd.underlying141
  a152 := Tryd.isAgg141
  z152 := Tryd.sizeOf141
  v152 := Tryd.zeroValue141
  t154 := Tryd.underlying143
  a154 := Tryd.isAgg143
  z154 := Tryd.sizeOf143
  v154 := Tryd.zeroValue143
  t193 := Tryd.underlying146
  a193 := Tryd.isAgg146
  z193 := Tryd.sizeOf146
  v193 := Tryd.zeroValue146
  t194 := Tryd.underlying147
  a194 := Tryd.isAgg147
  z194 := Tryd.sizeOf147
  v194 := Tryd.zeroValue147
  t196 := Tryd.underlying149
  a196 := Tryd.isAgg149
  z196 := Tryd.sizeOf149
  v196 := Tryd.zeroValue149
  t198 := Tryd.underlying152
  a198 := Tryd.isAgg152
  z198 := Tryd.sizeOf152
  v198 := Tryd.zeroValue152
  t201 := Tryd.underlying155
  a201 := Tryd.isAgg155
  z201 := Tryd.sizeOf155
  v201 := Tryd.zeroValue155
  t226 := Tryd.underlying158
  a226 := Tryd.isAgg158
  z226 := Tryd.sizeOf158
  v226 := Tryd.zeroValue158
  t227 := Tryd.underlying159
  a227 := Tryd.isAgg159
  z227 := Tryd.sizeOf159
  v227 := Tryd.zeroValue159
  g0 := by kernel_rfl
  g6 := by kernel_rfl }
open Go.RowKit Go.Lib in
/-- strings.Fields, the table by 'Lib.TabIs' (as strings.TrimSpace's contract). 'hg': the table's number, by its name: at a dump 'by kernel_rfl'. (LAID: no walk: one application.) -/
theorem Tryd.strings_Fields (s : ByteArray) (w : World) (hs : s.size < 4294967281) (hascii : ∀ (j : Nat) b, s.data.toList[j]? = some b → b.toNat < 128) (htab : Lib.TabIs Tryd.prog w "strings.asciiSpace" .u8 Lib.asciiSpaceTab) :
    Calls Tryd.prog 65 #[.string s] w fun e w' =>
      e = .returned (.slice (some ⟨w.heap.size, 0, none⟩) (Lib.fields s.data.toList).length (Lib.fields s.data.toList).length) ∧ w' = w.alloc (.cells ((Lib.fields s.data.toList).map fun l => Value.string ⟨l.toArray⟩).toArray 9) := Any.strings_Fields Tryd.lays157 (by kernel_rfl) (by kernel_rfl) s w hs hascii htab
end Go.Proofs
