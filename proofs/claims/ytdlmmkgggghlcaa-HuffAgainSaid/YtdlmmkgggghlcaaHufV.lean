/-
  Layer 6: the chapter's example.
-/
import Derived.Test.YtdlmmkgggghlcaaHufD
import Derived.Test.YtdlmmkgggghlcaaHufC
namespace Go.Proofs.Ytdlmmkgggghlcaa
open Go.RowKit Go.Mz
set_option linter.unusedVariables false
set_option linter.unusedSimpArgs false
set_option maxRecDepth 100000

theorem canon_live : canonI [2, 1, 0, 2] = ([[1, 0], [0], [], [1, 1]], true, 0) := by kernel_rfl
def liveWs : List (List UInt8) := [tx [1, 0], tx [0], tx [], tx [1, 1]]
def liveN : List Nd := (layAll [nd0] 0 liveWs).1
theorem liveN_eq : layAll [nd0] 0 liveWs = (liveN, 0) := by kernel_rfl
theorem liveN_means : MOk liveN 4 := by
  have : (liveN.all fun d => decide (d.mean < 4)) = true := by kernel_rfl
  intro d hd
  have := List.all_eq_true.1 this d hd
  simpa using this
theorem live_read : readN liveN [192] false 0 = (2, .inl 3) := by kernel_rfl

set_option maxHeartbeats 40000000 in
theorem lives06 {w0 w : World} {F : SProp} (h : St w0 w F) :
    Calls Try.prog 7 #[] w fun e w' => e = .returned (.bool true) ∧ St w0 w' F := by
  have h1 := h.lit #[.int .i64 2, .int .i64 1, .int .i64 0, .int .i64 2] 3 4 rfl (by decide)
  have H1 := Lib.hid h1; clear h1 h
  have C := canon_any H1.out [2, 1, 0, 2] (v := .slice (some ⟨w.heap.size, 0, none⟩) 4 4) Stb.of_own (by decide)
  rw [canon_live] at C
  have HC := Lib.hid C; clear C
  go_enter Try.func7, Try.ntmps7
  go_wp2_with fail
  refine HC.out.mono ?_
  rintro e w2 ⟨v2, rfl, h2⟩
  have h2' : St w0 w2 (own 9 1 v2 4 (liveWs.map svB) * F) := St.perm (St.right (St.perm h2 (star_left_comm _ _ _))) rfl
  obtain ⟨a2, c2, rfl⟩ := h2'.reads.sub
  obtain ⟨g2, rfl⟩ := own_at h2' (by omega)
  have h3 := h2'.lit #[.string ⟨#[97]⟩, .string ⟨#[98]⟩, .string ⟨#[99]⟩, .string ⟨#[100]⟩] 9 4 rfl (by decide)
  have H3 := Lib.hid h3; clear h3 h2 h2' HC
  have C := new_anyS H3.out liveWs [[97], [98], [99], [100]] rfl (by decide) (by
    intro i t ht
    have : t ∈ liveWs := List.mem_of_getElem? ht
    simp [liveWs] at this
    rcases this with rfl | rfl | rfl | rfl <;> simp) (vw := .slice (some ⟨g2, 0, none⟩) 4 c2) (vm := .slice (some ⟨w2.heap.size, 0, none⟩) 4 4) (fun w h => h.right.reads) Stb.of_own liveN_eq
  have HC := Lib.hid C; clear C
  go_wp2_with fail
  refine HC.out.mono ?_
  rintro e w3 ⟨hok, _⟩
  obtain ⟨B, rfl, h4, hNok⟩ := hok (by trivial)
  have h5 := (h4.lit #[.int .u8 192] 5 1 rfl (by decide))
  have H5 := Lib.hid h5; clear h5 h4 hok HC
  go_wp2_with fail
  refine (newReader_any (bs := [192]) H5.out Stb.of_own (by decide)).mono ?_
  rintro e w4 ⟨Rb, rfl, h6⟩
  have C := read_anyS (h6.perm (show _ = bookS B liveN [[97], [98], [99], [100]] liveWs * (rdr Rb [192] 0 false * (own 5 1 (.slice (some ⟨w3.heap.size, 0, none⟩) 1 1) 1 _ * (own 9 1 (.slice (some ⟨w2.heap.size, 0, none⟩) 4 4) 4 _ * (own 9 1 (.slice (some ⟨g2, 0, none⟩) 4 c2) 4 (liveWs.map svB) * F)))) by ac_rfl)) hNok liveN_means (by omega) live_read
  have HC := Lib.hid C; clear C h6
  go_wp2_with fail
  refine HC.out.mono ?_
  rintro e w5 ⟨rfl, h7⟩
  have h8 := h7.right.right.right.right
  have x0 := h8.own_cell (i := 0) (u := .string ⟨#[49, 48]⟩) rfl
  have x1 := h8.own_cell (i := 1) (u := .string ⟨#[48]⟩) rfl
  have x2 := h8.own_cell (i := 2) (u := .string ⟨#[]⟩) rfl
  have H8 := Lib.hid h8.right; clear h7 h8
  have hr : readRes [[97], [98], [99], [100]] (.inl 3) = .tuple #[.string ⟨#[100]⟩, .int .i64 0] := rfl
  rw [hr]
  go_wp2_with fail
  go_ret
  exact ⟨rfl, H8.out⟩
#print axioms lives06
end Go.Proofs.Ytdlmmkgggghlcaa
