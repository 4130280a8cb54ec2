/-
  The chapter's example of layer 2, and what stands ahead of its statements.
-/
import Derived.Test.YtifbhbknpecnbaaRd
namespace Go.Proofs.Ytifbhbknpecnbaa
open Go.RowKit Go.Mz
set_option linter.unusedVariables false

theorem lives02 {w0 w : World} {F : SProp} (h : St w0 w F) :
    Calls Try.prog 9 #[] w fun e w' => e = .returned (.bool true) ∧ St w0 w' F := by
  have h1 := h.lit #[.int .u8 160] 5 1 rfl (by decide)
  have H1 := Lib.hid h1; clear h1 h
  go_enter Try.func9, Try.ntmps9
  go_wp2_with fail
  refine (newReader_any (bs := [160]) H1.out Stb.of_own (by decide)).mono ?_
  rintro e w1 ⟨B1, rfl, h2⟩
  have H2 := Lib.hid h2; clear h2
  go_wp2_with fail
  refine (read_ok H2.out 3 rfl (by decide) (by decide)).mono ?_
  rintro e w2 ⟨rfl, h3⟩
  have h4 := h3.right.right.lit #[.int .u8 5] 5 1 rfl (by decide)
  have H4 := Lib.hid h4; clear h4 h3 H2 H1
  go_wp2_with fail
  refine (newReader_any (bs := [5]) H4.out Stb.of_own (by decide)).mono ?_
  rintro e w3 ⟨B2, rfl, h5⟩
  have H5 := Lib.hid h5; clear h5
  go_wp2_with fail
  refine (read_ok H5.out 3 rfl (by decide) (by decide)).mono ?_
  rintro e w4 ⟨rfl, h6⟩
  have h7 := Lib.hid h6.right.right; clear h6 H5 H4
  rw [show peekV [160] false 0 3 = 5 from by decide, show peekV [5] true 0 3 = 5 from by decide]
  go_wp2_with fail
  go_ret
  exact ⟨rfl, h7.out⟩
end Go.Proofs.Ytifbhbknpecnbaa
