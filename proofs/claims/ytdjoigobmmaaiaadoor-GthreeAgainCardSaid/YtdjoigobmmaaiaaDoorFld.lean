/-
  DERIVED: THE SHELF's CONTRACTS AT THIS DUMP, IN PLAIN WORDS (tools/lay-plain.mjs out of 'TrydShelf.lean', which tools/lay-shelf.mjs wrote): THE SAME DECLARATIONS UNDER THE SAME NAMES: 'import', 'namespace', 'open', 'def', 'theorem' AND NOTHING ELSE: no command of the shelf's: FOR A HAND-IN. Each laying: the table of numbers ('.._ren') and one theorem, a field a fact of the dump's own or the kernel's comparison; each contract: ONE APPLICATION.
-/
import Derived.Shelf.Strings.Fields
import Derived.Test.YtdjoigobmmaaiaaDoorProg
namespace Go.Proofs
open Go.Shelf
def Tryd.lays157_ren : Go.Shelf.Ren := ⟨fun | 157 => 80 | 229 => 95 | 199 => 96 | 261 => 100 | 311 => 103 | 312 => 104 | n => n, fun | 9 => 9 | 31 => 24 | 3 => 3 | 5 => 5 | 4 => 4 | 119 => 152 | 0 => 0 | 40 => 154 | 152 => 158 | 21 => 21 | 154 => 160 | 51 => 80 | 141 => 162 | 196 => 166 | 193 => 163 | 198 => 169 | 49 => 167 | 194 => 164 | 201 => 172 | 226 => 174 | 46 => 43 | 227 => 175 | n => n, fun | 0 => 0 | 6 => 1 | n => n⟩
theorem Tryd.lays157 : Go.Proofs.Lays.n157 Tryd.prog Tryd.lays157_ren := {
  mixed := by kernel_rfl
  f157 := Tryd.func80.trans (congrArg some (by kernel_rfl))
  f199 := Tryd.func96.trans (congrArg some (by kernel_rfl))
  f229 := Tryd.func95.trans (congrArg some (by kernel_rfl))
  f261 := Tryd.func100.trans (congrArg some (by kernel_rfl))
  f311 := Tryd.func103.trans (congrArg some (by kernel_rfl))
  f312 := Tryd.func104.trans (congrArg some (by kernel_rfl))
  t0 := Tryd.underlying0
  a0 := Tryd.isAgg0
  z0 := Tryd.sizeOf0
  v0 := Tryd.zeroValue0
  t3 := Tryd.underlying3
  a3 := Tryd.isAgg3
  z3 := Tryd.sizeOf3
  v3 := Tryd.zeroValue3
  t4 := Tryd.underlying4
  a4 := Tryd.isAgg4
  z4 := Tryd.sizeOf4
  v4 := Tryd.zeroValue4
  t5 := Tryd.underlying5
  a5 := Tryd.isAgg5
  z5 := Tryd.sizeOf5
  v5 := Tryd.zeroValue5
  t9 := Tryd.underlying9
  a9 := Tryd.isAgg9
  z9 := Tryd.sizeOf9
  v9 := Tryd.zeroValue9
  t21 := Tryd.underlying21
  a21 := Tryd.isAgg21
  z21 := Tryd.sizeOf21
  v21 := Tryd.zeroValue21
  t31 := Tryd.underlying24
  a31 := Tryd.isAgg24
  z31 := Tryd.sizeOf24
  v31 := Tryd.zeroValue24
  t40 := Tryd.underlying154
  a40 := Tryd.isAgg154
  z40 := Tryd.sizeOf154
  v40 := Tryd.zeroValue154
  t46 := Tryd.underlying43
  a46 := Tryd.isAgg43
  z46 := Tryd.sizeOf43
  v46 := Tryd.zeroValue43
  t49 := Tryd.underlying167
  a49 := Tryd.isAgg167
  z49 := Tryd.sizeOf167
  v49 := Tryd.zeroValue167
  t51 := Tryd.underlying80
  a51 := Tryd.isAgg80
  z51 := Tryd.sizeOf80
  v51 := Tryd.zeroValue80
  t119 := Tryd.underlying152
  a119 := Tryd.isAgg152
  z119 := Tryd.sizeOf152
  t141 := Tryd.underlying162
  a141 := Tryd.isAgg162
  z141 := Tryd.sizeOf162
  v141 := Tryd.zeroValue162
  t152 := Tryd.underlying158
  a152 := Tryd.isAgg158
  z152 := Tryd.sizeOf158
  v152 := Tryd.zeroValue158
  t154 := Tryd.underlying160
  a154 := Tryd.isAgg160
  z154 := Tryd.sizeOf160
  v154 := Tryd.zeroValue160
  t193 := Tryd.underlying163
  a193 := Tryd.isAgg163
  z193 := Tryd.sizeOf163
  v193 := Tryd.zeroValue163
  t194 := Tryd.underlying164
  a194 := Tryd.isAgg164
  z194 := Tryd.sizeOf164
  v194 := Tryd.zeroValue164
  t196 := Tryd.underlying166
  a196 := Tryd.isAgg166
  z196 := Tryd.sizeOf166
  v196 := Tryd.zeroValue166
  t198 := Tryd.underlying169
  a198 := Tryd.isAgg169
  z198 := Tryd.sizeOf169
  v198 := Tryd.zeroValue169
  t201 := Tryd.underlying172
  a201 := Tryd.isAgg172
  z201 := Tryd.sizeOf172
  v201 := Tryd.zeroValue172
  t226 := Tryd.underlying174
  a226 := Tryd.isAgg174
  z226 := Tryd.sizeOf174
  v226 := Tryd.zeroValue174
  t227 := Tryd.underlying175
  a227 := Tryd.isAgg175
  z227 := Tryd.sizeOf175
  v227 := Tryd.zeroValue175
  g0 := by kernel_rfl
  g6 := by kernel_rfl }
open Go.RowKit Go.Lib in
/-- strings.Fields, the table by 'Lib.TabIs' (as strings.TrimSpace's contract). 'hg': the table's number, by its name: at a dump 'by kernel_rfl'. (LAID: no walk: one application.) -/
theorem Tryd.strings_Fields (s : ByteArray) (w : World) (hs : s.size < 4294967281) (hascii : ∀ (j : Nat) b, s.data.toList[j]? = some b → b.toNat < 128) (htab : Lib.TabIs Tryd.prog w "strings.asciiSpace" .u8 Lib.asciiSpaceTab) :
    Calls Tryd.prog 80 #[.string s] w fun e w' =>
      e = .returned (.slice (some ⟨w.heap.size, 0, none⟩) (Lib.fields s.data.toList).length (Lib.fields s.data.toList).length) ∧ w' = w.alloc (.cells ((Lib.fields s.data.toList).map fun l => Value.string ⟨l.toArray⟩).toArray 9) := Any.strings_Fields Tryd.lays157 (by kernel_rfl) (by kernel_rfl) s w hs hascii htab
end Go.Proofs
