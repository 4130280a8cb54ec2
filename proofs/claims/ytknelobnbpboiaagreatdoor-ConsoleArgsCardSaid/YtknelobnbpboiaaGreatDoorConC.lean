/-
  Layer 28 (console): what is told of a line.
-/
import Derived.Test.YtknelobnbpboiaaGreatDoorConB
import Derived.Test.YtknelobnbpboiaaGreatDoorFld
import Derived.BigQuiet
import Derived.Deep.RegionWith
namespace Go.Proofs.YtknelobnbpboiaaGreatDoor
open Go.RowKit Go.Mz
set_option linter.unusedVariables false
set_option linter.unusedSimpArgs false
set_option maxRecDepth 100000

theorem data_app (a b : ByteArray) : (a ++ b).data.toList = a.data.toList ++ b.data.toList := by
  simp [ByteArray.data_append]
theorem size_app (a b : ByteArray) : (a ++ b).size = a.size + b.size := by simp

set_option maxHeartbeats 4000000 in
theorem tell_ok {w0 w : World} {b : Nat} {l f : Value} {lw : Bool} {out : List UInt8} {F : SProp} (h : St w0 w (sesB b l lw f out * F)) (hs : out.length ≤ 90000) :
    Calls Tryz.prog 13 #[.pointer (some ⟨b, 0, none⟩), .int .i64 0, .string ⟨#[]⟩] w fun e w' => (∃ v, e = .returned v) ∧ St w0 w' (sesB b l lw f (out ++ [111, 107] ++ [10]) * F) := by
  have hc := wstr_any h ⟨#[111, 107]⟩ (by have : (⟨#[111, 107]⟩ : ByteArray).size = 2 := rfl; omega)
  have HC := Lib.hid hc; clear hc h
  go_enter Tryz.func13, Tryz.ntmps13
  go_wp2_with (first
    | (go_at_call 29; refine (wbyte_any H1.out 10 (by simp; omega)).mono ?_; rintro e w2 ⟨⟨v2, rfl⟩, h2⟩; have H2 := Lib.hid h2; clear h2 H1)
    | (go_at_call 27; refine HC.out.mono ?_; rintro e w1 ⟨⟨v1, rfl⟩, h1⟩; have H1 := Lib.hid h1; clear h1 HC))
  go_end0
  exact ⟨⟨_, rfl⟩, H2.out⟩

set_option maxHeartbeats 4000000 in
theorem tell_more {w0 w : World} {b : Nat} {l f : Value} {lw : Bool} {out : List UInt8} {F : SProp} (h : St w0 w (sesB b l lw f out * F)) (m : ByteArray) (hm : m.toList.isEmpty = false) (hms : m.size ≤ 1000) (hs : out.length ≤ 90000) :
    Calls Tryz.prog 13 #[.pointer (some ⟨b, 0, none⟩), .int .i64 0, .string m] w fun e w' => (∃ v, e = .returned v) ∧ St w0 w' (sesB b l lw f (out ++ ([111, 107, 32] ++ m.data.toList) ++ [10]) * F) := by
  have hc := wstr_any h (⟨#[111, 107, 32]⟩ ++ m) (by rw [size_app]; have : (⟨#[111, 107, 32]⟩ : ByteArray).size = 3 := rfl; omega)
  rw [data_app] at hc
  have HC := Lib.hid hc; clear hc h
  have hl : (out ++ ([111, 107, 32] ++ m.data.toList)).length + 1 ≤ 100000 := by
    have : m.data.toList.length = m.size := by rw [Array.length_toList]; rfl
    simp only [List.length_append, this, List.length_cons, List.length_nil]; omega
  have HL := Lib.hid hl; clear hl
  go_enter Tryz.func13, Tryz.ntmps13
  go_wp2_with (first
    | (go_at_call 29; refine (wbyte_any H1.out 10 HL.out).mono ?_; rintro e w2 ⟨⟨v2, rfl⟩, h2⟩; have H2 := Lib.hid h2; clear h2 H1)
    | (go_at_call 27; refine HC.out.mono ?_; rintro e w1 ⟨⟨v1, rfl⟩, h1⟩; have H1 := Lib.hid h1; clear h1 HC))
  go_end0
  exact ⟨⟨_, rfl⟩, H2.out⟩

set_option maxHeartbeats 4000000 in
theorem tell_err {w0 w : World} {b : Nat} {l f : Value} {lw : Bool} {out : List UInt8} {F : SProp} (h : St w0 w (sesB b l lw f out * F)) (m : ByteArray) (hs : out.length ≤ 90000) :
    Calls Tryz.prog 13 #[.pointer (some ⟨b, 0, none⟩), .int .i64 2, .string m] w fun e w' => (∃ v, e = .returned v) ∧ St w0 w' (sesB b l lw f (out ++ [101, 114, 114, 111, 114, 32, 50] ++ [10]) * F) := by
  have hd : Lib.decDigits 2 = [50] := by decide +kernel
  have hc : ∀ n, Calls Tryz.prog 27 #[.pointer (some ⟨b, 16, none⟩), .string (⟨#[101, 114, 114, 111, 114, 32]⟩ ++ ⟨#[50]⟩)] (w.drewN n) fun e w' => (∃ v, e = .returned v) ∧ St w0 w' (sesB b l lw f (out ++ [101, 114, 114, 111, 114, 32, 50]) * F) := fun n => by
    have := wstr_any (h.drewN n) (⟨#[101, 114, 114, 111, 114, 32]⟩ ++ ⟨#[50]⟩) (by rw [size_app]; have h1 : (⟨#[101, 114, 114, 111, 114, 32]⟩ : ByteArray).size = 6 := rfl; have h2 : (⟨#[50]⟩ : ByteArray).size = 1 := rfl; omega)
    rw [data_app] at this
    exact this
  have HC := Lib.hid hc; clear hc h
  have hi : ∀ w : World, Calls Tryz.prog 28 #[.int .i64 2] w fun e w' => e = .returned (.string ⟨#[50]⟩) ∧ w' = w := fun w => by
    have := Tryz.strconv_Itoa_small 2 (by decide) w
    rw [hd] at this
    exact this
  have HI := Lib.hid hi; clear hi hd
  go_enter Tryz.func13, Tryz.ntmps13
  go_upto_region 2 with (fail)
  go_region_with (first
    | (go_at_call 28; refine (HI.out _).mono ?_; rintro e w1 ⟨rfl, rfl⟩)
    | (go_at_call 27; refine (HC.out 1).mono ?_; rintro e w1 ⟨⟨v1, rfl⟩, h1⟩; have H1 := Lib.hid h1; clear h1 HC))
  all_goals
    go_wp2_with (go_at_call 29; refine (wbyte_any H1.out 10 (by simp; omega)).mono ?_; rintro e w2 ⟨⟨v2, rfl⟩, h2⟩; have H2 := Lib.hid h2; clear h2 H1)
    go_end0
    exact ⟨⟨_, rfl⟩, H2.out⟩
#print axioms tell_more
#print axioms tell_err
end Go.Proofs.YtknelobnbpboiaaGreatDoor
