/-
  Layer 11 (zlib): lives.
-/
import Derived.Test.YtddifndfppilkaaZlbM
namespace Go.Proofs.Ytddifndfppilkaa
open Go.RowKit Go.Mz
set_option linter.unusedVariables false
set_option linter.unusedSimpArgs false
set_option maxRecDepth 100000

set_option maxHeartbeats 40000000 in
theorem lives11 {w0 w : World} {F : SProp} (h : St w0 w F) :
    Calls Try.prog 15 #[] w fun e w' => e = .returned (.bool true) ∧ St w0 w' F := by
  have H := Lib.hid h
  clear h
  go_enter Try.func15, Try.ntmps15
  go_wp2_with (go_at_call 16; apply stop)
  refine on ?_
  refine (pack_any H.out (b := []) (by decide) (v := .slice none 0 0) (fun w h => ⟨rfl, .inl ⟨rfl, rfl⟩⟩) (how := 0) (by omega)).mono ?_
  rintro e w2 ⟨v1, x, z, rfl, hx, hxl, hz, h2⟩
  obtain ⟨nn, hdone⟩ := hx.done
  have hw := zopen_wrap hdone (S := bytesO true (adlerN []) 4) (length_bytesO _ _ _) [] 0
  obtain rfl := stored_nil hx
  rw [List.append_nil, if_neg (by decide), if_neg (by decide), if_neg (by decide +kernel)] at hw
  have hzz : z = [120, 1, 1, 0, 0, 255, 255, 0, 0, 0, 1] := by rw [hz]; decide +kernel
  have hzw : wrapS (headL true 0 ++ storedL 3 []) (bytesO true (adlerN []) 4) = z := by rw [hz]; rfl
  rw [hzw, hzz] at hw
  subst hzz
  clear hzw hz hx hxl H hdone
  obtain ⟨a1, c1, rfl⟩ := h2.reads.sub
  have C := open_any h2 [120, 1, 1, 0, 0, 255, 255, 0, 0, 0, 1] 0 (by decide) (by decide) (vb := .slice a1 11 c1) Stb.of_own
  rw [hw] at C
  have HC := Lib.hid C
  clear C hw h2
  go_wp2_with (go_at_call 17; apply stop)
  refine on ?_
  refine HC.out.mono ?_
  rintro e w3 ⟨v3, n3, x3, rfl, h3⟩
  obtain ⟨rfl, rfl, h3⟩ := h3
  obtain ⟨a3, c3, rfl⟩ := h3.reads.sub
  have q1 : (convert 22 9 (.slice a1 11 c1)).run Try.prog w3 = .ok (.string ⟨([120, 1, 1, 0, 0, 255, 255, 0, 0, 0, 1] : List UInt8).toArray⟩) w3 := run_b2s (P := Try.prog) Try.underlying22 Try.underlying5 Try.underlying9 h3.right.reads
  have H3 := Lib.hid h3.right.right
  clear h3 HC
  go_wp2_with fail
  go_ret
  exact ⟨rfl, H3.out⟩
end Go.Proofs.Ytddifndfppilkaa
