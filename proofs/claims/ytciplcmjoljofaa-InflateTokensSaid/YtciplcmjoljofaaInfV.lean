/-
  Layer 8 (inflate): the chapter's examples.
-/
import Derived.Test.YtciplcmjoljofaaInfH
namespace Go.Proofs.Ytciplcmjoljofaa
open Go.RowKit Go.Mz
set_option linter.unusedVariables false
set_option linter.unusedSimpArgs false
set_option maxRecDepth 100000
theorem live1 : inflI [1, 1, 0, 254, 255, 97] 5 = .inr ([97], 6) := by kernel_rfl
theorem live2 : inflI [3, 0] 5 = .inr ([], 2) := by kernel_rfl
set_option maxHeartbeats 4000000 in
theorem lives08 {w0 w : World} {F : SProp} (h : St w0 w F) :
    Calls Try.prog 6 #[] w fun e w' => e = .returned (.bool true) ∧ St w0 w' F := by
  have h1 := h.lit #[.int .u8 1, .int .u8 1, .int .u8 0, .int .u8 254, .int .u8 255, .int .u8 97] 5 6 rfl (by decide)
  have C := inflate_any h1 [1, 1, 0, 254, 255, 97] 5 (by decide) (by decide) (vb := .slice (some ⟨w.heap.size, 0, none⟩) 6 6) Stb.of_own
  rw [live1] at C
  have HC := Lib.hid C; clear C h1 h
  go_enter Try.func6, Try.ntmps6
  go_wp2_with fail
  refine HC.out.mono ?_
  rintro e w2 ⟨v2, n2, x2, rfl, hn, hx, h2⟩
  subst hn hx
  have h2 : St w0 w2 (own 5 1 v2 1 [.int .u8 97] * F) := (h2.perm (star_left_comm _ _ _)).right
  obtain ⟨a2, c2, rfl⟩ := h2.reads.sub
  have h3 := h2.lit #[.int .u8 3, .int .u8 0] 5 2 rfl (by decide)
  have C := inflate_any h3 [3, 0] 5 (by decide) (by decide) (vb := .slice (some ⟨w2.heap.size, 0, none⟩) 2 2) Stb.of_own
  rw [live2] at C
  have HC2 := Lib.hid C; clear C h2 h3 HC
  go_wp2_with fail
  refine HC2.out.mono ?_
  rintro e w3 ⟨v3, n3, x3, rfl, hn, hx, h4⟩
  subst hn hx
  have h4 : St w0 w3 (own 5 1 v3 0 [] * (own 5 1 (.slice (some ⟨w2.heap.size, 0, none⟩) 2 2) 2 ([3, 0].map bv) * (own 5 1 (.slice a2 1 c2) 1 [.int .u8 97] * F))) := h4
  obtain ⟨a3, c3, rfl⟩ := h4.reads.sub
  have h5 := h4.right.right
  have hconv : (convert 22 9 (.slice a2 1 c2)).run Try.prog w3 = .ok (.string ⟨#[97]⟩) w3 := run_b2s Try.underlying22 Try.underlying5 Try.underlying9 (bs := [97]) h5.reads
  have H5 := Lib.hid h5.right; clear h4 h5 HC2
  go_wp2_with fail
  go_ret
  exact ⟨rfl, H5.out⟩
#print axioms lives08
end Go.Proofs.Ytciplcmjoljofaa
