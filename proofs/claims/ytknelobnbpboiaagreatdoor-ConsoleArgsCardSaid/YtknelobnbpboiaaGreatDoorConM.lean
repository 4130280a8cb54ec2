/-
  Layer 28 (console): the example's lines that give an order.
-/
import Derived.Test.YtknelobnbpboiaaGreatDoorConK
import Derived.Test.YtknelobnbpboiaaGreatDoorConC
import Derived.Test.YtknelobnbpboiaaGreatDoorConG
import Derived.Test.YtknelobnbpboiaaGreatDoorConH
import Derived.Test.YtknelobnbpboiaaGreatDoorConI
import Derived.Test.YtknelobnbpboiaaGreatDoorConN
namespace Go.Proofs.YtknelobnbpboiaaGreatDoor
open Go.RowKit Go.Mz
set_option linter.unusedVariables false
set_option linter.unusedSimpArgs false
set_option maxRecDepth 100000

def oX (x n y m : Nat) (cs : List Value) : SProp := own 95 7 (.slice (some ⟨x, 0, none⟩) 1 n) 1 (imgC (.slice (some ⟨y, 0, none⟩) 2 m)).toList * own 84 1 (.slice (some ⟨y, 0, none⟩) 2 m) 2 cs
def imgR (cs : List Value) (l : Value) (S : SProp) : Prop := ∃ x y n m, l = .slice (some ⟨x, 0, none⟩) 1 n ∧ S = oX x n y m cs
theorem own_arg {w0 w : World} {e : TypeId} {n : Nat} {v : Value} {xs : List Value} {F : SProp} (h : St w0 w (own e 1 v (n + 1) xs * F)) : ∃ g c, v = .slice (some ⟨g, 0, none⟩) (n + 1) c := by
  obtain ⟨_, ⟨_, h0, _⟩ | ⟨g, c, _, e, _⟩⟩ := h.own_split
  · cases h0
  · exact ⟨g, c, e⟩

set_option maxHeartbeats 4000000 in
theorem line_image {w0 w : World} {b : Nat} {mx : Int} {lw : Bool} {out : List UInt8} {F : SProp} (h : St w0 w (sesB b (.slice none 0 0) lw (.slice none 0 0) out * F)) (hM : ∀ w', St w0 w' F → w'.cell? ⟨2, 0, none⟩ = some (.int .i64 mx)) (hl : out.length ≤ 90000) :
    Calls Tryz.prog 7 #[.pointer (some ⟨b, 0, none⟩), .string ⟨#[105, 109, 97, 103, 101, 32, 50, 32, 49, 32, 49, 32, 56]⟩] w fun e w' => e = .returned (.tuple #[]) ∧ ∃ x y n m, St w0 w' (sesB b (.slice (some ⟨x, 0, none⟩) 1 n) lw (.slice none 0 0) (out ++ [111, 107] ++ [10]) * (oX x n y m [.int .u32 0, .int .u32 0] * F)) := by
  have h := h.perm (show _ = sesB b (.slice none 0 0) lw (.slice none 0 0) out * (emp * F) by rw [emp_star])
  refine (line_ord4 (k := 0) (m := ⟨#[]⟩) (out' := out ++ [111, 107] ++ [10]) (R := imgR [.int .u32 0, .int .u32 0]) (s := ⟨#[105, 109, 97, 103, 101, 32, 50, 32, 49, 32, 49, 32, 56]⟩) (wd := ⟨#[105, 109, 97, 103, 101]⟩) (fm := 30) (a1 := ⟨#[50]⟩) (a2 := ⟨#[49]⟩) (a3 := ⟨#[49]⟩) (a4 := ⟨#[56]⟩) h hM (by decide) (by decide) (by decide) (by decide +kernel) (by decide +kernel) (by decide +kernel) (fun M hF => hF.image) (fun M hO => hO.image) (fun args w => enters_of Tryz.func30 (by kernel_rfl) rfl args w) number_50 number_49 number_49 number_56 ?_ ?_).mono ?_
  · intro w v F' h1
    rw [emp_star] at h1
    obtain ⟨g, c, rfl⟩ := own_arg (h1.perm (star_left_comm _ _ _))
    refine (image_any h1).mono ?_
    rintro e w1 ⟨rfl, x, y, n, m, h2⟩
    exact ⟨rfl, _, oX x n y m [.int .u32 0, .int .u32 0], ⟨x, y, n, m, rfl, rfl⟩, h2.perm (by unfold oX; ac_rfl)⟩
  · intro w l' F' h1
    exact tell_ok h1 hl
  · rintro e w1 ⟨rfl, l', S, ⟨x, y, n, m, rfl, rfl⟩, h2⟩
    exact ⟨rfl, x, y, n, m, h2⟩
#print axioms line_image

set_option maxHeartbeats 4000000 in
theorem line_fill {w0 w : World} {b x n y m : Nat} {mx : Int} {lw : Bool} {out : List UInt8} {F : SProp} (h : St w0 w (sesB b (.slice (some ⟨x, 0, none⟩) 1 n) lw (.slice none 0 0) out * (oX x n y m [.int .u32 0, .int .u32 0] * F))) (hM : ∀ w', St w0 w' F → w'.cell? ⟨2, 0, none⟩ = some (.int .i64 mx)) (hl : out.length ≤ 90000) :
    Calls Tryz.prog 7 #[.pointer (some ⟨b, 0, none⟩), .string ⟨#[102, 105, 108, 108, 32, 55]⟩] w fun e w' => e = .returned (.tuple #[]) ∧ St w0 w' (sesB b (.slice (some ⟨x, 0, none⟩) 1 n) lw (.slice none 0 0) (out ++ [111, 107] ++ [10]) * (oX x n y m [.int .u32 7, .int .u32 8] * F)) := by
  refine (line_ord1 (k := 0) (m := ⟨#[]⟩) (out' := out ++ [111, 107] ++ [10]) (R := fun l S => l = .slice (some ⟨x, 0, none⟩) 1 n ∧ S = oX x n y m [.int .u32 7, .int .u32 8]) (s := ⟨#[102, 105, 108, 108, 32, 55]⟩) (wd := ⟨#[102, 105, 108, 108]⟩) (fm := 32) (a1 := ⟨#[55]⟩) h hM (by decide) (by decide) (by decide) (by decide +kernel) (by decide +kernel) (by decide +kernel) (fun M hF => hF.fill) (fun M hO => hO.fill) (fun args w => enters_of Tryz.func32 (by kernel_rfl) rfl args w) number_55 ?_ ?_).mono ?_
  · intro w v F' h1
    obtain ⟨g, c, rfl⟩ := own_arg h1.right.right
    refine (fill_any (h1.perm (by unfold oX; ac_rfl))).mono ?_
    rintro e w1 ⟨rfl, h2⟩
    exact ⟨rfl, _, oX x n y m [.int .u32 7, .int .u32 8], ⟨rfl, rfl⟩, h2.perm (by unfold oX; ac_rfl)⟩
  · intro w l' F' h1
    exact tell_ok h1 hl
  · rintro e w1 ⟨rfl, l', S, ⟨rfl, rfl⟩, h2⟩
    exact ⟨rfl, h2⟩
#print axioms line_fill

set_option maxHeartbeats 4000000 in
theorem line_row {w0 w : World} {b x n y m : Nat} {mx : Int} {lw : Bool} {out : List UInt8} {F : SProp} (h : St w0 w (sesB b (.slice (some ⟨x, 0, none⟩) 1 n) lw (.slice none 0 0) out * (oX x n y m [.int .u32 7, .int .u32 8] * F))) (hM : ∀ w', St w0 w' F → w'.cell? ⟨2, 0, none⟩ = some (.int .i64 mx)) (hl : out.length ≤ 90000) :
    Calls Tryz.prog 7 #[.pointer (some ⟨b, 0, none⟩), .string ⟨#[114, 111, 119, 32, 48, 32, 48]⟩] w fun e w' => e = .returned (.tuple #[]) ∧ St w0 w' (sesB b (.slice (some ⟨x, 0, none⟩) 1 n) lw (.slice none 0 0) (out ++ ([111, 107, 32] ++ [55, 32, 56]) ++ [10]) * F) := by
  refine (line_ord2 (k := 0) (m := ⟨#[55, 32, 56]⟩) (out' := out ++ ([111, 107, 32] ++ [55, 32, 56]) ++ [10]) (R := fun l S => l = .slice (some ⟨x, 0, none⟩) 1 n ∧ S = emp) (s := ⟨#[114, 111, 119, 32, 48, 32, 48]⟩) (wd := ⟨#[114, 111, 119]⟩) (fm := 33) (a1 := ⟨#[48]⟩) (a2 := ⟨#[48]⟩) h hM (by decide) (by decide) (by decide) (by decide +kernel) (by decide +kernel) (by decide +kernel) (fun M hF => hF.row) (fun M hO => hO.row) (fun args w => enters_of Tryz.func33 (by kernel_rfl) rfl args w) number_48 number_48 ?_ ?_).mono ?_
  · intro w v F' h1
    obtain ⟨g, c, rfl⟩ := own_arg h1.right.right
    refine (row_any (h1.perm (by unfold oX; ac_rfl))).mono ?_
    rintro e w1 ⟨rfl, h2⟩
    exact ⟨rfl, _, emp, ⟨rfl, rfl⟩, h2.perm (by rw [emp_star])⟩
  · intro w l' F' h1
    exact tell_more h1 ⟨#[55, 32, 56]⟩ (by decide +kernel) (by decide) hl
  · rintro e w1 ⟨rfl, l', S, ⟨rfl, rfl⟩, h2⟩
    exact ⟨rfl, h2.perm (by rw [emp_star])⟩
#print axioms line_row

set_option maxHeartbeats 4000000 in
theorem line_decode {w0 w : World} {b : Nat} {mx : Int} {l : Value} {lw : Bool} {out : List UInt8} {F : SProp} (h : St w0 w (sesB b l lw (.slice none 0 0) out * F)) (hM : ∀ w', St w0 w' F → w'.cell? ⟨2, 0, none⟩ = some (.int .i64 mx)) (hl : out.length ≤ 90000) :
    Calls Tryz.prog 7 #[.pointer (some ⟨b, 0, none⟩), .string ⟨#[100, 101, 99, 111, 100, 101]⟩] w fun e w' => e = .returned (.tuple #[]) ∧ St w0 w' (sesB b l lw (.slice none 0 0) (out ++ [101, 114, 114, 111, 114, 32, 50] ++ [10]) * F) := by
  have h := h.perm (show _ = sesB b l lw (.slice none 0 0) out * (emp * F) by rw [emp_star])
  refine (line_ord0 (k := 2) (m := ⟨#[]⟩) (out' := out ++ [101, 114, 114, 111, 114, 32, 50] ++ [10]) (R := fun l' S => l' = l ∧ S = emp) (s := ⟨#[100, 101, 99, 111, 100, 101]⟩) (wd := ⟨#[100, 101, 99, 111, 100, 101]⟩) (fm := 35) h hM (by decide) (by decide) (by decide) (by decide +kernel) (by decide +kernel) (by decide +kernel) (fun M hF => hF.decode) (fun M hO => hO.decode) (fun args w => enters_of Tryz.func35 (by kernel_rfl) rfl args w) ?_ ?_).mono ?_
  · intro w v F' h1
    rw [emp_star] at h1
    refine (decode_any h1).mono ?_
    rintro e w1 ⟨rfl, h2⟩
    exact ⟨rfl, _, emp, ⟨rfl, rfl⟩, (h2.perm (show _ = _ * (sesB b l lw (.slice none 0 0) out * F') by ac_rfl)).right.perm (by rw [emp_star])⟩
  · intro w l' F' h1
    exact tell_err h1 ⟨#[]⟩ hl
  · rintro e w1 ⟨rfl, l', S, ⟨rfl, rfl⟩, h2⟩
    exact ⟨rfl, h2.perm (by rw [emp_star])⟩
#print axioms line_decode
end Go.Proofs.YtknelobnbpboiaaGreatDoor
