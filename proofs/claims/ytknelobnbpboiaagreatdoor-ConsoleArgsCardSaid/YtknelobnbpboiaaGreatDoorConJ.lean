/-
  Layer 28 (console): a line.
-/
import Derived.Test.YtknelobnbpboiaaGreatDoorConC
import Derived.Test.YtknelobnbpboiaaGreatDoorConE
import Derived.Test.YtknelobnbpboiaaGreatDoorConI
import Derived.Test.YtknelobnbpboiaaGreatDoorConN
import Derived.Test.YtknelobnbpboiaaGreatDoorFld
namespace Go.Proofs.YtknelobnbpboiaaGreatDoor
open Go.RowKit Go.Mz
set_option linter.unusedVariables false
set_option linter.unusedSimpArgs false
set_option maxRecDepth 100000

set_option maxHeartbeats 4000000 in
theorem line_note {w0 w : World} {F : SProp} (h : St w0 w F) {p : Value} (s : ByteArray) (h0 : 0 < s.size) (hs0 : s[0]'h0 = 35) (hs : s.size ≤ 20000) :
    Calls Tryz.prog 7 #[p, .string s] w fun e w' => e = .returned (.tuple #[]) ∧ St w0 w' F := by
  have ht := Tryz.strings_Trim_one s 32 (by decide) w (by omega)
  have HT := Lib.hid ht; clear ht
  have H := Lib.hid h; clear h
  go_enter Tryz.func7, Tryz.ntmps7
  go_wp2_with (go_at_call 10; apply stop)
  refine on (HT.out.mono ?_)
  rintro e w1 ⟨rfl, hw⟩
  have h1 : St w0 w1 F := by
    rcases hw with rfl | rfl
    · exact H.out
    · exact H.out.drew
  have H1 := Lib.hid h1
  clear h1 hw H HT
  obtain ⟨t, ht⟩ : ∃ t : ByteArray, ⟨(Lib.trimB s.data.toList 32).toArray⟩ = t := ⟨_, rfl⟩
  rw [ht]
  clear ht
  have hi : (0 : Int) < (s.size : Int) := by omega
  cases he : t.toList.isEmpty with
  | true =>
    go_wp2_with fail
    refine bodyPost_ret (results_none rfl _ _ _) rfl ?_
    exact ⟨rfl, H1.out⟩
  | false =>
    go_wp2_with fail
    refine bodyPost_ret (results_none rfl _ _ _) rfl ?_
    exact ⟨rfl, H1.out⟩
#print axioms line_note
end Go.Proofs.YtknelobnbpboiaaGreatDoor
