/-
  Layer 15: so many rows of any page.
-/
import Derived.Test.YtdjoigobmmaaiaaDoorG3V
import Derived.Test.YtdjoigobmmaaiaaDoorG3D
import Derived.RegionTactic
namespace Go.Proofs.YtdjoigobmmaaiaaDoor.hreads
open Go.RowKit Go.Mz Go.ChangeShapes Go.WideShapes
set_option linter.unusedVariables false
set_option linter.unusedSimpArgs false
set_option maxRecDepth 100000

def pairV (y : Int × Int) : Value := .agg #[.int .i64 y.1, .int .i64 y.2]
theorem pair_in {H : Type} {enc : TypeId × Value → H} {w : World} {r : Reach} {b0 base : Nat} {spare : Nat → Bool} {held : Bool} {fuel : Nat} {v : Value} {x : DataW H × List MemPlace}
    (hv : Value.okWide Tryd.prog w r b0 52 v) (h : DataW.trod enc Tryd.prog w base spare held fuel 52 v.cells.toList = some x) :
    ∃ y : Int × Int, v = pairV y ∧ (Lit.int .i64 y.1).wf = true ∧ (Lit.int .i64 y.2).wf = true := by
  simp only [Value.okWide, Tryd.underlying52] at hv
  obtain ⟨cs, rfl, h2, _⟩ := hv
  have hC : Tryd.prog.cellsOf 52 = 2 := by kernel_rfl
  have hE : Tryd.prog.cellsOf 3 = 1 := by kernel_rfl
  rw [hC] at h2
  obtain ⟨ys, m, _, _, _, hyl, hf⟩ := DataW.trod_array Tryd.underlying52 h
  have f0 := hf 0 (by decide)
  have f1 := hf 1 (by decide)
  rw [hE] at f0 f1
  obtain ⟨c0, c1, rfl⟩ : ∃ c0 c1, cs = #[c0, c1] := by
    obtain ⟨l⟩ := cs
    match l, h2 with
    | [a, b], _ => exact ⟨a, b, rfl⟩
  obtain ⟨y0, hy0⟩ : ∃ y, ys[0]? = some y := ⟨_, List.getElem?_eq_getElem (by omega)⟩
  obtain ⟨y1, hy1⟩ : ∃ y, ys[1]? = some y := ⟨_, List.getElem?_eq_getElem (by omega)⟩
  rw [hy0] at f0
  rw [hy1] at f1
  obtain ⟨a, ha, _, wa⟩ := DataW.trod_int Tryd.underlying3 f0
  obtain ⟨b, hb, _, wb⟩ := DataW.trod_int Tryd.underlying3 f1
  simp [Value.cells] at ha hb
  subst ha hb
  exact ⟨(a, b), rfl, wa, wb⟩

set_option maxHeartbeats 40000000 in
theorem walk (vb : Value) (bs : List UInt8) (y : Int × Int) (two : Bool) (w : World) (hb : Reads w 1 vb bs.length (bs.map bv)) (htab : Lib.TabIs Tryd.prog w "strings.asciiSpace" .u8 Lib.asciiSpaceTab) :
    Calls Tryd.prog 8 #[vb, pairV y, .bool two] w fun e w' => e = .returned (.bool true) ∧ Below w.heap.size w w' := by
  obtain ⟨wid, n⟩ := y
  simp only [pairV]
  have HT := Lib.hid (tab_old htab); clear htab
  have HB := Lib.hid (Stb.of_old hb)
  obtain ⟨a1, c1, rfl⟩ := hb.sub
  have hm1 := hb.len_le
  unfold maxLen at hm1
  clear hb
  have H := Lib.hid ((St.init w).drop_alloc (.cells #[.int .i64 wid, .int .i64 n] 52))
  have fin : ∀ w', St w w' (Mz.old w) → Below w.heap.size w w' := fun w' h => (h.perm ((emp_star _).symm.trans (star_comm _ _))).below
  have FIN := Lib.hid fin; clear fin
  go_enter Tryd.func8, Tryd.ntmps8
  go_wp2_with fail
  go_region
  go_wp2_with fail
  refine (lives15 H.out.drew HT.out).mono ?_
  rintro e w1 ⟨rfl, h2⟩
  have H2 := Lib.hid h2; clear h2 H
  by_cases hbad : 120 < bs.length ∨ 300 < wid ∨ 40 < n
  · have hd : (120 : Int) < bs.length ∨ (¬ (120 : Int) < bs.length ∧ 300 < wid) ∨ (¬ (120 : Int) < bs.length ∧ ¬ 300 < wid ∧ 40 < n) := by omega
    clear hbad
    rcases hd with h1 | ⟨h1, h2⟩ | ⟨h1, h2, h3⟩
    · go_wp2_with fail
      refine (lives15 H2.out HT.out).mono ?_
      rintro e w2 ⟨rfl, h3⟩
      have H3 := Lib.hid h3; clear h3
      go_wp2_with fail
      go_ret
      exact ⟨rfl, FIN.out _ H3.out⟩
    · have h1d : decide ((120 : Int) < bs.length) = false := decide_eq_false h1
      have h2d : decide (300 < wid) = true := decide_eq_true h2
      go_wp2_with fail
      refine (lives15 H2.out HT.out).mono ?_
      rintro e w2 ⟨rfl, h3⟩
      have H3 := Lib.hid h3; clear h3
      go_wp2_with fail
      go_ret
      exact ⟨rfl, FIN.out _ H3.out⟩
    · have h1d : decide ((120 : Int) < bs.length) = false := decide_eq_false h1
      have h2d : decide (300 < wid) = false := decide_eq_false h2
      have h3d : decide (40 < n) = true := decide_eq_true h3
      go_wp2_with fail
      refine (lives15 H2.out HT.out).mono ?_
      rintro e w2 ⟨rfl, h3⟩
      have H3 := Lib.hid h3; clear h3
      go_wp2_with fail
      go_ret
      exact ⟨rfl, FIN.out _ H3.out⟩
  have h1 : ¬ (120 : Int) < bs.length := by omega
  have h2 : ¬ 300 < wid := by omega
  have h3 : ¬ 40 < n := by omega
  have h1d : decide ((120 : Int) < bs.length) = false := decide_eq_false h1
  have h2d : decide (300 < wid) = false := decide_eq_false h2
  have h3d : decide (40 < n) = false := decide_eq_false h3
  clear hbad
  have HD := Lib.hid (decode15_all (width := wid) (n := n) H2.out HT.out HB.out (by omega) two (by omega) (by omega))
  have HDD := Lib.hid (fun (w' : World) (G : SProp) (h : St w w' G) => rdecode15_all (width := wid) (n := n) h (bs := bs) (by omega) two (by omega) (s := ⟨bs.toArray⟩) rfl)
  have hbd := decG3_bd (t := bitsL false bs) (two := two) (width := wid) (n := n) (by omega)
  generalize decG3 (bitsL false bs) two wid n = D at *
  have HBD := Lib.hid hbd; clear hbd
  generalize hPs0 : okD D = Ps0 at *
  generalize herD : erD D = er at *
  clear hPs0 herD H2
  clear h1 h2 h3
  go_wp2_with fail
  refine HD.out.mono ?_
  rintro e w2 ⟨v2, R0, rfl, hR0, h2⟩
  obtain ⟨a2, c2, rfl⟩ := h2.reads.sub
  have H2 := Lib.hid h2; clear h2 HD
  have HR0 := Lib.hid hR0; clear hR0
  clear h1d h2d h3d
  go_wp2_with (with_reducible (refine stop_conv 28 9 rfl ?_))
  refine on (wpList_b2s Tryd.underlying28 Tryd.underlying5 Tryd.underlying9 rfl rfl (HB.out _ H2.out.right.right) ?_)
  have HD := Lib.hid (HDD.out _ _ H2.out); clear HDD
  go_wp2_with fail
  refine HD.out.mono ?_
  rintro e w3 ⟨v3, rfl, h3⟩
  obtain ⟨a3, c3, rfl⟩ := h3.reads.sub
  have HS := Lib.hid (rsame14_any (F := own 9 1 (.slice a3 Ps0.length c3) Ps0.length (Ps0.map txv) * (own 41 1 (.slice a2 R0.length c2) R0.length (R0.map Prod.fst) * (rowsP R0 * Mz.old w))) h3 (R := R0) (Ps := Ps0) (fun w' h => h.right.reads) (fun w' h => rowsP_reads R0 _ h.right.right) (fun w' h => h.reads) HBD.out.1 (by have := HBD.out.2; omega) HR0.out)
  clear h3 HD H2
  go_wp2_with fail
  refine HS.out.mono ?_
  rintro e w4 ⟨rfl, h4⟩
  have HF := Lib.hid (FIN.out _ h4.right.right.right)
  clear HS HBD HR0 h4
  go_wp2_with fail
  go_ret
  exact ⟨rfl, HF.out⟩
end Go.Proofs.YtdjoigobmmaaiaaDoor.hreads
