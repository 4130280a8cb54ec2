/-
  DERIVED: THE SHELF's CONTRACTS AT THIS DUMP, IN PLAIN WORDS (tools/lay-plain.mjs out of 'TryzShelf.lean', which tools/lay-shelf.mjs wrote): THE SAME DECLARATIONS UNDER THE SAME NAMES: 'import', 'namespace', 'open', 'def', 'theorem' AND NOTHING ELSE: no command of the shelf's: FOR A HAND-IN. Each laying: the table of numbers ('.._ren') and one theorem, a field a fact of the dump's own or the kernel's comparison; each contract: ONE APPLICATION.
-/
import Derived.Shelf.Strings.Fields
import Derived.Test.YtboflbdniogcdaaGreatDoorProg
namespace Go.Proofs
open Go.Shelf
def Tryz.lays157_ren : Go.Shelf.Ren := ⟨fun | 157 => 174 | 229 => 203 | 199 => 204 | 261 => 216 | 311 => 228 | 312 => 229 | n => n, fun | 9 => 9 | 31 => 38 | 3 => 3 | 5 => 5 | 4 => 4 | 119 => 285 | 0 => 0 | 40 => 287 | 152 => 302 | 21 => 21 | 154 => 304 | 51 => 48 | 141 => 306 | 196 => 319 | 193 => 316 | 198 => 322 | 49 => 320 | 194 => 317 | 201 => 325 | 226 => 331 | 46 => 143 | 227 => 332 | n => n, fun | 0 => 0 | 6 => 1 | n => n⟩
theorem Tryz.lays157 : Go.Proofs.Lays.n157 Tryz.prog Tryz.lays157_ren := {
  mixed := by kernel_rfl
  f157 := Tryz.func174.trans (congrArg some (by kernel_rfl))
  f199 := Tryz.func204.trans (congrArg some (by kernel_rfl))
  f229 := Tryz.func203.trans (congrArg some (by kernel_rfl))
  f261 := Tryz.func216.trans (congrArg some (by kernel_rfl))
  f311 := Tryz.func228.trans (congrArg some (by kernel_rfl))
  f312 := Tryz.func229.trans (congrArg some (by kernel_rfl))
  t0 := Tryz.underlying0
  a0 := Tryz.isAgg0
  z0 := Tryz.sizeOf0
  v0 := Tryz.zeroValue0
  t3 := Tryz.underlying3
  a3 := Tryz.isAgg3
  z3 := Tryz.sizeOf3
  v3 := Tryz.zeroValue3
  t4 := Tryz.underlying4
  a4 := Tryz.isAgg4
  z4 := Tryz.sizeOf4
  v4 := Tryz.zeroValue4
  t5 := Tryz.underlying5
  a5 := Tryz.isAgg5
  z5 := Tryz.sizeOf5
  v5 := Tryz.zeroValue5
  t9 := Tryz.underlying9
  a9 := Tryz.isAgg9
  z9 := Tryz.sizeOf9
  v9 := Tryz.zeroValue9
  t21 := Tryz.underlying21
  a21 := Tryz.isAgg21
  z21 := Tryz.sizeOf21
  v21 := Tryz.zeroValue21
  t31 := Tryz.underlying38
  a31 := Tryz.isAgg38
  z31 := Tryz.sizeOf38
  v31 := Tryz.zeroValue38
  t40 := Tryz.underlying287
  a40 := Tryz.isAgg287
  z40 := Tryz.sizeOf287
  v40 := Tryz.zeroValue287
  t46 := Tryz.underlying143
  a46 := Tryz.isAgg143
  z46 := Tryz.sizeOf143
  v46 := Tryz.zeroValue143
  t49 := Tryz.underlying320
  a49 := Tryz.isAgg320
  z49 := Tryz.sizeOf320
  v49 := Tryz.zeroValue320
  t51 := Tryz.underlying48
  a51 := Tryz.isAgg48
  z51 := Tryz.sizeOf48
  v51 := Tryz.zeroValue48
  t119 := Tryz.underlying285
  a119 := Tryz.isAgg285
  z119 := Tryz.sizeOf285
  t141 := Tryz.underlying306
  a141 := Tryz.isAgg306
  z141 := Tryz.sizeOf306
  v141 := Tryz.zeroValue306
  t152 := Tryz.underlying302
  a152 := Tryz.isAgg302
  z152 := Tryz.sizeOf302
  v152 := Tryz.zeroValue302
  t154 := Tryz.underlying304
  a154 := Tryz.isAgg304
  z154 := Tryz.sizeOf304
  v154 := Tryz.zeroValue304
  t193 := Tryz.underlying316
  a193 := Tryz.isAgg316
  z193 := Tryz.sizeOf316
  v193 := Tryz.zeroValue316
  t194 := Tryz.underlying317
  a194 := Tryz.isAgg317
  z194 := Tryz.sizeOf317
  v194 := Tryz.zeroValue317
  t196 := Tryz.underlying319
  a196 := Tryz.isAgg319
  z196 := Tryz.sizeOf319
  v196 := Tryz.zeroValue319
  t198 := Tryz.underlying322
  a198 := Tryz.isAgg322
  z198 := Tryz.sizeOf322
  v198 := Tryz.zeroValue322
  t201 := Tryz.underlying325
  a201 := Tryz.isAgg325
  z201 := Tryz.sizeOf325
  v201 := Tryz.zeroValue325
  t226 := Tryz.underlying331
  a226 := Tryz.isAgg331
  z226 := Tryz.sizeOf331
  v226 := Tryz.zeroValue331
  t227 := Tryz.underlying332
  a227 := Tryz.isAgg332
  z227 := Tryz.sizeOf332
  v227 := Tryz.zeroValue332
  g0 := by kernel_rfl
  g6 := by kernel_rfl }
open Go.RowKit Go.Lib in
/-- strings.Fields, the table by 'Lib.TabIs' (as strings.TrimSpace's contract). 'hg': the table's number, by its name: at a dump 'by kernel_rfl'. (LAID: no walk: one application.) -/
theorem Tryz.strings_Fields (s : ByteArray) (w : World) (hs : s.size < 4294967281) (hascii : ∀ (j : Nat) b, s.data.toList[j]? = some b → b.toNat < 128) (htab : Lib.TabIs Tryz.prog w "strings.asciiSpace" .u8 Lib.asciiSpaceTab) :
    Calls Tryz.prog 174 #[.string s] w fun e w' =>
      e = .returned (.slice (some ⟨w.heap.size, 0, none⟩) (Lib.fields s.data.toList).length (Lib.fields s.data.toList).length) ∧ w' = w.alloc (.cells ((Lib.fields s.data.toList).map fun l => Value.string ⟨l.toArray⟩).toArray 9) := Any.strings_Fields Tryz.lays157 (by kernel_rfl) (by kernel_rfl) s w hs hascii htab
end Go.Proofs
