/-
  Layer 28 (console): the chapter's example is run.
-/
import Derived.Test.YtknelobnbpboiaaGreatDoorConL
import Derived.Test.YtknelobnbpboiaaGreatDoorConM
import Derived.Test.YtknelobnbpboiaaGreatDoorConP
namespace Go.Proofs.YtknelobnbpboiaaGreatDoor
open Go.RowKit Go.Mz
set_option linter.unusedVariables false
set_option linter.unusedSimpArgs false
set_option maxRecDepth 100000

def exLs : List ByteArray := [⟨#[105, 109, 97, 103, 101, 32, 50, 32, 49, 32, 49, 32, 56]⟩, ⟨#[102, 105, 108, 108, 32, 55]⟩, ⟨#[114, 111, 119, 32, 48, 32, 48]⟩, ⟨#[108, 111, 119, 32, 111, 110]⟩, ⟨#[100, 101, 99, 111, 100, 101]⟩]
def exRest : Nat → ByteArray
  | 0 => ⟨#[105, 109, 97, 103, 101, 32, 50, 32, 49, 32, 49, 32, 56, 10, 102, 105, 108, 108, 32, 55, 10, 114, 111, 119, 32, 48, 32, 48, 10, 108, 111, 119, 32, 111, 110, 10, 100, 101, 99, 111, 100, 101]⟩
  | 1 => ⟨#[102, 105, 108, 108, 32, 55, 10, 114, 111, 119, 32, 48, 32, 48, 10, 108, 111, 119, 32, 111, 110, 10, 100, 101, 99, 111, 100, 101]⟩
  | 2 => ⟨#[114, 111, 119, 32, 48, 32, 48, 10, 108, 111, 119, 32, 111, 110, 10, 100, 101, 99, 111, 100, 101]⟩
  | 3 => ⟨#[108, 111, 119, 32, 111, 110, 10, 100, 101, 99, 111, 100, 101]⟩
  | 4 => ⟨#[100, 101, 99, 111, 100, 101]⟩
  | _ => ⟨#[]⟩
theorem exLines : LinesOf exLs exRest where
  ne := by decide
  hit := fun k hk => by
    have hk' : k + 1 < 5 := hk
    rcases (by omega : k = 0 ∨ k = 1 ∨ k = 2 ∨ k = 3) with rfl | rfl | rfl | rfl
    · exact ⟨13, by decide +kernel, by decide +kernel, (show (exRest 0).extract 0 13 = ⟨#[105, 109, 97, 103, 101, 32, 50, 32, 49, 32, 49, 32, 56]⟩ by decide +kernel), by decide +kernel⟩
    · exact ⟨6, by decide +kernel, by decide +kernel, (show (exRest 1).extract 0 6 = ⟨#[102, 105, 108, 108, 32, 55]⟩ by decide +kernel), by decide +kernel⟩
    · exact ⟨7, by decide +kernel, by decide +kernel, (show (exRest 2).extract 0 7 = ⟨#[114, 111, 119, 32, 48, 32, 48]⟩ by decide +kernel), by decide +kernel⟩
    · exact ⟨6, by decide +kernel, by decide +kernel, (show (exRest 3).extract 0 6 = ⟨#[108, 111, 119, 32, 111, 110]⟩ by decide +kernel), by decide +kernel⟩
  miss := by decide +kernel
  last := rfl
def exS (b : Nat) : Nat → SProp
  | 0 => sesB b (.slice none 0 0) false (.slice none 0 0) []
  | 1 => sEx fun i : Nat × Nat × Nat × Nat => sesB b (.slice (some ⟨i.1, 0, none⟩) 1 i.2.1) false (.slice none 0 0) [111, 107, 10] * oX i.1 i.2.1 i.2.2.1 i.2.2.2 [.int .u32 0, .int .u32 0]
  | 2 => sEx fun i : Nat × Nat × Nat × Nat => sesB b (.slice (some ⟨i.1, 0, none⟩) 1 i.2.1) false (.slice none 0 0) [111, 107, 10, 111, 107, 10] * oX i.1 i.2.1 i.2.2.1 i.2.2.2 [.int .u32 7, .int .u32 8]
  | 3 => sEx fun i : Nat × Nat × Nat × Nat => sesB b (.slice (some ⟨i.1, 0, none⟩) 1 i.2.1) false (.slice none 0 0) [111, 107, 10, 111, 107, 10, 111, 107, 32, 55, 32, 56, 10]
  | 4 => sEx fun i : Nat × Nat × Nat × Nat => sesB b (.slice (some ⟨i.1, 0, none⟩) 1 i.2.1) true (.slice none 0 0) [111, 107, 10, 111, 107, 10, 111, 107, 32, 55, 32, 56, 10, 111, 107, 10]
  | _ => sEx fun i : Nat × Nat × Nat × Nat => sesB b (.slice (some ⟨i.1, 0, none⟩) 1 i.2.1) true (.slice none 0 0) [111, 107, 10, 111, 107, 10, 111, 107, 32, 55, 32, 56, 10, 111, 107, 10, 101, 114, 114, 111, 114, 32, 50, 10]
theorem ses_new {w0 W : World} {b : Nat} {R : SProp} (h : St w0 W (blk b (sesO (.slice none 0 0) false (.slice none 0 0) (.pointer none) (.slice none 0 0)) * R)) : St w0 W (sesB b (.slice none 0 0) false (.slice none 0 0) [] * R) :=
  sesB_shut (.inl rfl) ((St.own_nil 5 1 h).perm (star_left_comm _ _ _))
set_option maxHeartbeats 4000000 in
theorem run_ex {w0 w : World} {mx : Int} {F : SProp} (h : St w0 w F) (hM : ∀ w', St w0 w' F → w'.cell? ⟨2, 0, none⟩ = some (.int .i64 mx)) :
    Calls Tryz.prog 5 #[.string ⟨#[105, 109, 97, 103, 101, 32, 50, 32, 49, 32, 49, 32, 56, 10, 102, 105, 108, 108, 32, 55, 10, 114, 111, 119, 32, 48, 32, 48, 10, 108, 111, 119, 32, 111, 110, 10, 100, 101, 99, 111, 100, 101]⟩] w fun e w' => e = .returned (.tuple #[.string ⟨#[111, 107, 10, 111, 107, 10, 111, 107, 32, 55, 32, 56, 10, 111, 107, 10, 101, 114, 114, 111, 114, 32, 50, 10]⟩, .int .i64 0]) ∧ St w0 w' F := by
  refine run_gen exS ⟨#[111, 107, 10, 111, 107, 10, 111, 107, 32, 55, 32, 56, 10, 111, 107, 10, 101, 114, 114, 111, 114, 32, 50, 10]⟩ h ⟨#[105, 109, 97, 103, 101, 32, 50, 32, 49, 32, 49, 32, 56, 10, 102, 105, 108, 108, 32, 55, 10, 114, 111, 119, 32, 48, 32, 48, 10, 108, 111, 119, 32, 111, 110, 10, 100, 101, 99, 111, 100, 101]⟩ (by decide) exLs exRest exLines (fun k => ?_) rfl (fun b W R hR => ses_new hR) ?_ ?_
  · rcases k with _ | _ | _ | _ | _ | k
    all_goals first | decide | exact (show (⟨#[]⟩ : ByteArray).size ≤ 20000 by decide)
  · intro b k x W R hx hS
    have hM' : ∀ w', St w0 w' (F * R) → w'.cell? ⟨2, 0, none⟩ = some (.int .i64 mx) := fun w' h' => hM w' h'.left
    rcases k with _ | _ | _ | _ | _ | k
    · obtain rfl := Option.some.inj hx
      refine (line_image hS hM' (by decide)).mono ?_
      rintro e W' ⟨rfl, x, y, n, m, h2⟩
      exact ⟨rfl, St.mk_ex_l (x, n, y, m) (h2.perm (star_assoc _ _ _).symm)⟩
    · obtain rfl := Option.some.inj hx
      obtain ⟨⟨x, n, y, m⟩, h2⟩ := St.ex_l hS
      refine (line_fill (h2.perm (star_assoc _ _ _)) hM' (by decide)).mono ?_
      rintro e W' ⟨rfl, h3⟩
      exact ⟨rfl, St.mk_ex_l (x, n, y, m) (h3.perm (star_assoc _ _ _).symm)⟩
    · obtain rfl := Option.some.inj hx
      obtain ⟨⟨x, n, y, m⟩, h2⟩ := St.ex_l hS
      refine (line_row (h2.perm (star_assoc _ _ _)) hM' (by decide)).mono ?_
      rintro e W' ⟨rfl, h3⟩
      exact ⟨rfl, St.mk_ex_l (x, n, y, m) h3⟩
    · obtain rfl := Option.some.inj hx
      obtain ⟨⟨x, n, y, m⟩, h2⟩ := St.ex_l hS
      refine (line_low h2 hM' (by decide) (by decide) (by decide) (by decide +kernel) (by decide +kernel) (by decide +kernel) (by decide)).mono ?_
      rintro e W' ⟨rfl, h3⟩
      exact ⟨rfl, St.mk_ex_l (x, n, y, m) h3⟩
    · obtain rfl := Option.some.inj hx
      obtain ⟨⟨x, n, y, m⟩, h2⟩ := St.ex_l hS
      refine (line_decode h2 hM' (by decide)).mono ?_
      rintro e W' ⟨rfl, h3⟩
      exact ⟨rfl, St.mk_ex_l (x, n, y, m) h3⟩
    · cases hx
  · intro b W R hS
    obtain ⟨⟨x, n, y, m⟩, h2⟩ := St.ex_l (show St w0 W (exS b 5 * R) from hS)
    exact str_any h2 (by decide)
#print axioms run_ex

/-- A text of one line, a note. -/
theorem run_note {w0 w : World} {F : SProp} (h : St w0 w F) (t : ByteArray) (h0 : 0 < t.size) (h35 : t[0]'h0 = 35) (ht : t.size ≤ 16384) (hn : Lib.indexByte t.data.toList 10 = -1) :
    Calls Tryz.prog 5 #[.string t] w fun e w' => e = .returned (.tuple #[.string ⟨#[]⟩, .int .i64 0]) ∧ St w0 w' F := by
  refine run_gen (fun b _ => blk b (sesO (.slice none 0 0) false (.slice none 0 0) (.pointer none) (.slice none 0 0))) ⟨#[]⟩ h t ht [t] (fun _ => t) ⟨Nat.one_pos, fun k hk => by simp at hk, hn, rfl⟩ (fun _ => by omega) rfl (fun b W R hR => hR) ?_ ?_
  · intro b k x W R hx hS
    rcases k with _ | k
    · obtain rfl := Option.some.inj hx
      exact line_note hS t h0 h35 (by omega)
    · cases hx
  · intro b W R hS
    exact str_nil hS
#print axioms run_note

set_option maxHeartbeats 4000000 in
theorem lives_any {w0 w : World} {mx : Int} {F : SProp} (h : St w0 w F) (hM : ∀ w', St w0 w' F → w'.cell? ⟨2, 0, none⟩ = some (.int .i64 mx)) :
    Calls Tryz.prog 4 #[] w fun e w' => e = .returned (.bool true) ∧ St w0 w' F := by
  have HR := Lib.hid (run_ex h hM)
  have hbb : ((⟨#[111, 107, 10, 111, 107, 10, 111, 107, 32, 55, 32, 56, 10, 111, 107, 10, 101, 114, 114, 111, 114, 32, 50, 10]⟩ : ByteArray) == ⟨#[111, 107, 10, 111, 107, 10, 111, 107, 32, 55, 32, 56, 10, 111, 107, 10, 101, 114, 114, 111, 114, 32, 50, 10]⟩) = true := by decide +kernel
  clear h hM
  go_enter Tryz.func4, Tryz.ntmps4
  go_wp2_with (go_at_call 5; refine HR.out.mono ?_; rintro e w1 ⟨rfl, h1⟩; have H1 := Lib.hid h1; clear h1 HR)
  go_ret
  exact ⟨rfl, H1.out⟩
#print axioms lives_any
end Go.Proofs.YtknelobnbpboiaaGreatDoor
