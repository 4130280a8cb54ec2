/-
  Layer 13 (faxcode): the chapter's examples.
-/
import Derived.Test.YtbpikbdebffnjaaDoorFaxD
namespace Go.Proofs.YtbpikbdebffnjaaDoor
open Go.RowKit Go.Mz
set_option linter.unusedVariables false
set_option linter.unusedSimpArgs false
set_option maxRecDepth 100000

def livL : List Nat := [] ++ tellB false 64 ++ tellB true 0
theorem livL_len : livL.length = 23 := by decide +kernel
theorem livL_read : readL false (bitsL false (bytesB false livL)) 100 0 = (13, .inl 64) := by decide +kernel
theorem livL_bytes : (bytesB false livL).length = 3 := by decide +kernel

set_option maxHeartbeats 4000000 in
theorem lives13 {w0 w : World} {F : SProp} (h : St w0 w F) (ht : Tab w0 F) :
    Calls Tryd.prog 9 #[] w fun e w' => e = .returned (.bool true) ∧ St w0 w' F := by
  have H := Lib.hid h; clear h
  have HT := Lib.hid ht; clear ht
  go_enter Tryd.func9, Tryd.ntmps9
  go_wp2_with fail
  refine (newWriter_any H.out).mono ?_
  rintro e w2 ⟨Wb, rfl, h2⟩
  have H2 := Lib.hid h2; clear h2
  go_wp2_with fail
  refine (newCodes_any H2.out (fun w h => HT.out w h.right)).mono ?_
  rintro e w3 ⟨C, rfl, h3⟩
  have H3 := Lib.hid h3; clear h3 H2
  go_wp2_with fail
  refine (cwrite_any H3.out 64 (by decide) false (by simp) (j := 64) rfl).mono ?_
  rintro e w4 ⟨rfl, h4⟩
  have hl4 : ([] ++ tellB false 64).length ≤ 1000 := by decide +kernel
  have H4 := Lib.hid h4; clear h4 H3
  go_wp2_with fail
  refine (cwrite_any H4.out 0 (by decide) true (by omega) (j := 0) rfl).mono ?_
  rintro e w5 ⟨rfl, h5⟩
  have h5 : St w0 w5 (wrt Wb livL false * (codes C * F)) := h5.perm (star_left_comm _ _ _)
  have H5 := Lib.hid h5; clear h5 H4 hl4
  go_wp2_with fail
  refine (bytes_any H5.out).mono ?_
  rintro e w6 ⟨v6, rfl, h6⟩
  have e6 : (livL.length + 7) / 8 = 3 := by rw [livL_len]
  rw [e6] at h6
  obtain ⟨a6, c6, rfl⟩ := h6.reads.sub
  have HR := Lib.hid (newReader_any (low := false) h6 (bs := bytesB false livL) (v := .slice a6 3 c6) (by rw [livL_bytes]; exact Stb.of_own) (by rw [livL_bytes]; decide))
  clear h6 H5 e6
  go_wp2_with fail
  refine HR.out.mono ?_
  rintro e w7 ⟨Rb, rfl, h7⟩
  have h7 := h7.perm (show _ = codes C * (rdr Rb (bytesB false livL) 0 false * (wrt Wb livL false * (own 5 1 (.slice a6 3 c6) 3 ((bytesB false livL).map bv) * F))) by ac_rfl)
  have HC := Lib.hid (cread_any h7 100 false (by rw [livL_bytes]; decide) (Nat.zero_le _))
  clear h7 HR
  go_wp2_with fail
  refine HC.out.mono ?_
  rintro e w8 ⟨z, x, p', rfl, hfx, _, h8⟩
  rw [livL_read] at hfx
  obtain ⟨hp', hz, hx⟩ := hfx
  subst hp' hz hx
  have h9 := h8.perm (show _ = wrt Wb livL false * (codes C * (rdr Rb (bytesB false livL) 13 false * (own 5 1 (.slice a6 3 c6) 3 ((bytesB false livL).map bv) * F))) by ac_rfl)
  have HL := Lib.hid (len_any h9)
  rw [livL_len] at HL
  have H9 := Lib.hid h9; clear h8 h9 HC
  go_wp2_with fail
  refine HL.out.mono ?_
  rintro e w10 ⟨rfl, rfl⟩
  go_wp2_with fail
  go_ret
  exact ⟨rfl, H9.out.right.right.right.right⟩
#print axioms lives13
end Go.Proofs.YtbpikbdebffnjaaDoor
