/-
  Layer 6 (huff): a book is made.
-/
import Derived.Test.YtddifndfppilkaaGreatHufN
import Derived.Laws.Cover3
namespace Go.Proofs.YtddifndfppilkaaGreat
open Go.RowKit Go.Mz
set_option linter.unusedVariables false
set_option linter.unusedSimpArgs false
set_option maxRecDepth 100000

theorem svB_oneCell (l : List (List UInt8)) : ∀ u ∈ l.map svB, u.oneCell' = true := by
  intro u hu
  obtain ⟨c, _, rfl⟩ := List.mem_map.1 hu
  rfl

set_option maxHeartbeats 4000000 in
theorem clone_anyS {w0 w : World} {F : SProp} (h : St w0 w F) (xs : List (List UInt8)) (hl : xs.length ≤ 1000000) {v : Value} (hv : Stb w0 F (fun w => Reads w 1 v xs.length (xs.map svB))) :
    Calls Tryz.prog 93 #[v] w fun e w' => ∃ v', e = .returned v' ∧ St w0 w' (own 9 1 v' xs.length (xs.map svB) * F) := by
  have T := elemStrs
  have H := Lib.hid h
  have hr := hv w h
  clear h
  obtain ⟨hxl, ⟨rfl, hn⟩ | ⟨x, cap, rfl, h1, h2, h3⟩⟩ := hr
  · have hx0 : xs = [] := List.eq_nil_of_length_eq_zero hn
    subst hx0
    have hq : (binOp .eql 69 (.slice none 0 0) (.slice none 0 0)).run Tryz.prog w = .ok (.bool true) w := by kernel_rfl
    go_enter Tryz.func93, Tryz.ntmps93
    go_wp2_with fail
    go_ret
    exact ⟨_, rfl, St.own_nil _ _ H.out⟩
  · have HV := Lib.hid hv; clear hv hxl h1 h2 h3
    have hq : (binOp .eql 69 (.slice (some x) xs.length cap) (.slice none 0 0)).run Tryz.prog w = .ok (.bool false) w := by
      have := run_equal_slice_nil (P := Tryz.prog) w 69 9 (some x) xs.length cap Tryz.underlying69
      simp [binOp, this]
    go_enter Tryz.func93, Tryz.ntmps93
    go_wp2_with (at_builtin; apply stop)
    refine on (wpList_append_sep T rfl _ _ rfl rfl (St.own_blk (e := 9) (size := 1) (n := 0) (cap := 0) (xs := []) (H.out.alloc (.cells #[] 9)) (Nat.le_refl _) (Nat.zero_le _) rfl rfl) rfl (HV.out _ (H.out.drop_alloc _)) (svB_oneCell xs) ?_ ?_ ?_)
    · unfold maxLen; omega
    · omega
    intro v' w3 h4 _
    simp only [Nat.zero_add, List.nil_append] at h4
    obtain ⟨a', cap', rfl⟩ := h4.reads.sub
    have H4 := Lib.hid h4; clear h4
    go_wp2_with fail
    go_ret
    exact ⟨_, rfl, H4.out⟩
end Go.Proofs.YtddifndfppilkaaGreat
