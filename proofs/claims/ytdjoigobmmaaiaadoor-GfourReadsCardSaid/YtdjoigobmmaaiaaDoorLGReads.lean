/-
  Layer 16: so many rows of any page.
-/
import Derived.Test.YtdjoigobmmaaiaaDoorG4V
import Derived.Test.YtdjoigobmmaaiaaDoorG4D
namespace Go.Proofs.YtdjoigobmmaaiaaDoor.greads
open Go.RowKit Go.Mz
set_option linter.unusedVariables false
set_option linter.unusedSimpArgs false
set_option maxRecDepth 100000

set_option maxHeartbeats 40000000 in
theorem walk (vb : Value) (bs : List UInt8) (wid n : Int) (w : World) (hb : Reads w 1 vb bs.length (bs.map bv)) (htab : Lib.TabIs Tryd.prog w "strings.asciiSpace" .u8 Lib.asciiSpaceTab) :
    Calls Tryd.prog 4 #[vb, .int .i64 wid, .int .i64 n] w fun e w' => e = .returned (.bool true) ∧ Below w.heap.size w w' := by
  have HT := Lib.hid (tab_old htab); clear htab
  have HB := Lib.hid (Stb.of_old hb)
  obtain ⟨a1, c1, rfl⟩ := hb.sub
  have hm1 := hb.len_le
  unfold maxLen at hm1
  clear hb
  have H := Lib.hid (St.init w)
  have fin : ∀ w', St w w' (Mz.old w) → Below w.heap.size w w' := fun w' h => (h.perm ((emp_star _).symm.trans (star_comm _ _))).below
  have FIN := Lib.hid fin; clear fin
  go_enter Tryd.func4, Tryd.ntmps4
  go_wp2_with fail
  refine (lives16 H.out HT.out).mono ?_
  rintro e w1 ⟨rfl, h2⟩
  have H2 := Lib.hid h2; clear h2 H
  by_cases hbad : 100 < bs.length ∨ 300 < wid ∨ 40 < n
  · have hd : (100 : Int) < bs.length ∨ (¬ (100 : Int) < bs.length ∧ 300 < wid) ∨ (¬ (100 : Int) < bs.length ∧ ¬ 300 < wid ∧ 40 < n) := by omega
    clear hbad
    rcases hd with h1 | ⟨h1, h2⟩ | ⟨h1, h2, h3⟩
    · go_wp2_with fail
      refine (lives16 H2.out HT.out).mono ?_
      rintro e w2 ⟨rfl, h3⟩
      have H3 := Lib.hid h3; clear h3
      go_wp2_with fail
      go_ret
      exact ⟨rfl, FIN.out _ H3.out⟩
    · have h1d : decide ((100 : Int) < bs.length) = false := decide_eq_false h1
      have h2d : decide (300 < wid) = true := decide_eq_true h2
      go_wp2_with fail
      refine (lives16 H2.out HT.out).mono ?_
      rintro e w2 ⟨rfl, h3⟩
      have H3 := Lib.hid h3; clear h3
      go_wp2_with fail
      go_ret
      exact ⟨rfl, FIN.out _ H3.out⟩
    · have h1d : decide ((100 : Int) < bs.length) = false := decide_eq_false h1
      have h2d : decide (300 < wid) = false := decide_eq_false h2
      have h3d : decide (40 < n) = true := decide_eq_true h3
      go_wp2_with fail
      refine (lives16 H2.out HT.out).mono ?_
      rintro e w2 ⟨rfl, h3⟩
      have H3 := Lib.hid h3; clear h3
      go_wp2_with fail
      go_ret
      exact ⟨rfl, FIN.out _ H3.out⟩
  have h1 : ¬ (100 : Int) < bs.length := by omega
  have h2 : ¬ 300 < wid := by omega
  have h3 : ¬ 40 < n := by omega
  have h1d : decide ((100 : Int) < bs.length) = false := decide_eq_false h1
  have h2d : decide (300 < wid) = false := decide_eq_false h2
  have h3d : decide (40 < n) = false := decide_eq_false h3
  clear hbad
  have HD := Lib.hid (decode16_all (width := wid) (n := n) H2.out HT.out HB.out (by omega) (by omega) (by omega))
  have HDD := Lib.hid (fun (w' : World) (G : SProp) (h : St w w' G) => rdecode16_all (width := wid) (n := n) h (bs := bs) (by omega) (by omega) (s := ⟨bs.toArray⟩) rfl)
  have hbd := decG4_bd (t := bitsL false bs) (width := wid) (n := n) (by omega)
  generalize decG4 (bitsL false bs) wid n = D at *
  have HBD := Lib.hid hbd; clear hbd
  generalize hPs0 : okD D = Ps0 at *
  generalize herD : erD D = er at *
  clear hPs0 herD H2
  clear h1 h2 h3
  go_wp2_with fail
  refine HD.out.mono ?_
  rintro e w2 ⟨v2, R0, rfl, hR0, h2⟩
  obtain ⟨a2, c2, rfl⟩ := h2.reads.sub
  have H2 := Lib.hid h2; clear h2 HD
  have HR0 := Lib.hid hR0; clear hR0
  clear h1d h2d h3d
  go_wp2_with (with_reducible (refine stop_conv 28 9 rfl ?_))
  refine on (wpList_b2s Tryd.underlying28 Tryd.underlying5 Tryd.underlying9 rfl rfl (HB.out _ H2.out.right.right) ?_)
  have HD := Lib.hid (HDD.out _ _ H2.out); clear HDD
  go_wp2_with fail
  refine HD.out.mono ?_
  rintro e w3 ⟨v3, rfl, h3⟩
  obtain ⟨a3, c3, rfl⟩ := h3.reads.sub
  have HS := Lib.hid (rsame14_any (F := own 9 1 (.slice a3 Ps0.length c3) Ps0.length (Ps0.map txv) * (own 41 1 (.slice a2 R0.length c2) R0.length (R0.map Prod.fst) * (rowsP R0 * Mz.old w))) h3 (R := R0) (Ps := Ps0) (fun w' h => h.right.reads) (fun w' h => rowsP_reads R0 _ h.right.right) (fun w' h => h.reads) HBD.out.1 (by have := HBD.out.2; omega) HR0.out)
  clear h3 HD H2
  go_wp2_with fail
  refine HS.out.mono ?_
  rintro e w4 ⟨rfl, h4⟩
  have HF := Lib.hid (FIN.out _ h4.right.right.right)
  clear HS HBD HR0 h4
  go_wp2_with fail
  go_ret
  exact ⟨rfl, HF.out⟩
end Go.Proofs.YtdjoigobmmaaiaaDoor.greads
