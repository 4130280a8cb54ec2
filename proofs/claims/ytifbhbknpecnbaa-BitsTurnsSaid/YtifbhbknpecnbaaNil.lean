/-
  Nil readers and writers (package bits).
-/
import Derived.Test.YtifbhbknpecnbaaRev
namespace Go.Proofs.Ytifbhbknpecnbaa
open Go.RowKit Go.Mz
set_option linter.unusedVariables false
set_option linter.unusedSimpArgs false

theorem left_nil {w : World} : Calls Try.prog 12 #[.pointer none] w fun e w' => e = .returned (.int .i64 0) ∧ w = w' := by
  go_enter Try.func12, Try.ntmps12
  go_wp2_with fail
  go_ret
  exact ⟨rfl, rfl⟩
theorem at_nil {w : World} : Calls Try.prog 11 #[.pointer none] w fun e w' => e = .returned (.int .i64 0) ∧ w = w' := by
  go_enter Try.func11, Try.ntmps11
  go_wp2_with fail
  go_ret
  exact ⟨rfl, rfl⟩
theorem align_nil {w : World} : Calls Try.prog 19 #[.pointer none] w fun e w' => e = .returned (.tuple #[]) ∧ w = w' := by
  go_enter Try.func19, Try.ntmps19
  go_wp2_with fail
  go_end0
  exact ⟨rfl, rfl⟩
theorem walign_nil {w : World} : Calls Try.prog 25 #[.pointer none] w fun e w' => e = .returned (.tuple #[]) ∧ w = w' := by
  go_enter Try.func25, Try.ntmps25
  go_wp2_with fail
  go_loopg [11] 0 (fun g u wr => wr = w)
  case atStart => rfl
  case round =>
    subst hrel
    go_wp2_with fail
    go_end0
    exact ⟨rfl, rfl⟩
theorem wlen_nil {w : World} : Calls Try.prog 27 #[.pointer none] w fun e w' => e = .returned (.int .i64 0) ∧ w = w' := by
  go_enter Try.func27, Try.ntmps27
  go_wp2_with fail
  go_ret
  exact ⟨rfl, rfl⟩
theorem wbytes_nil {w : World} : Calls Try.prog 28 #[.pointer none] w fun e w' => e = .returned (.slice none 0 0) ∧ w = w' := by
  go_enter Try.func28, Try.ntmps28
  go_wp2_with fail
  go_ret
  exact ⟨rfl, rfl⟩
theorem wwrite_nil {w : World} : Calls Try.prog 22 #[.pointer none, .int .u32 0, .int .i64 1] w fun e w' => e = .returned (.int .i64 1) ∧ w = w' := by
  go_enter Try.func22, Try.ntmps22
  go_wp2_with fail
  go_ret
  exact ⟨rfl, rfl⟩
theorem wword_nil {w : World} (s : List UInt8) (hs : s.length ≤ 1000000000000) (hd : digB s = true) :
    Calls Try.prog 23 #[.pointer none, .string ⟨s.toArray⟩] w fun e w' => e = .returned (.int .i64 1) ∧ w = w' := by
  have HC := Lib.hid (show ∀ c ∈ s, c = 48 ∨ c = 49 by simpa [digB] using hd)
  clear hd
  go_enter Try.func23, Try.ntmps23
  go_wp2_with fail
  go_loop [9] (fun i => ∃ k : Nat, k ≤ s.length ∧ i = .int .i64 k) (fun i => s.length - (intOf i).toNat)
  case atStart => exact ⟨0, Nat.zero_le _, rfl⟩
  case round =>
    obtain ⟨k, hk, rfl⟩ := hrel
    by_cases hkn : k < s.length
    · have hg := List.getElem?_eq_getElem hkn
      have G := fun h => ba_get hg h; clear hg
      have hc := HC.out s[k] (by simp)
      generalize s[k] = c at *
      rcases hc with rfl | rfl
      all_goals
        go_wp2_with fail
        refine ⟨⟨k + 1, by omega, by go_num⟩, by simp [intOf]; omega⟩
    · obtain rfl : k = s.length := by omega
      go_wp2_with fail
      go_ret
      exact ⟨rfl, rfl⟩
theorem peek_nil {w : World} (n : Nat) (hn : n ≤ 32) : Calls Try.prog 13 #[.pointer none, .int .i64 n] w fun e w' => e = .returned (.tuple #[.int .u32 0, .int .i64 0]) ∧ w = w' := by
  go_enter Try.func13, Try.ntmps13
  go_wp2_with fail
  go_loopw [6, 16] (fun v i wr => ∃ k : Nat, k ≤ n ∧ i = .int .i64 k ∧ v = .int .u32 0 ∧ wr = w) (fun _ i _ => n - (intOf i).toNat)
  case atStart => exact ⟨0, Nat.zero_le _, rfl, rfl, rfl⟩
  case round =>
    obtain ⟨k, hk, rfl, rfl, rfl⟩ := hrel
    by_cases hkn : k < n
    · have h0 : ¬ (k : Int) < 0 := by omega
      have hb : bits BinOp.or .u32 0 0 = 0 := by decide
      go_wp2_with (go_at_call 12; refine left_nil.mono ?_; rintro e w' ⟨rfl, rfl⟩)
      go_roundw
      case rel => exact ⟨k + 1, by omega, by go_num, by first | rfl | trivial, by first | rfl | trivial⟩
      case measure => simp [intOf]; omega
    · obtain rfl : k = n := by omega
      go_wp2
      go_ret2
      exact ⟨rfl, rfl⟩
theorem read_nil {w : World} (n : Int) : Calls Try.prog 14 #[.pointer none, .int .i64 n] w fun e w' => e = .returned (.tuple #[.int .u32 0, .int .i64 (rdI [] false 0 n).2.2]) ∧ w = w' := by
  by_cases hn : n < 0 ∨ 32 < n
  · have e : rdI [] false 0 n = (0, 0, 1) := by unfold rdI; rw [if_pos hn]
    rw [e]; exact read_bad _ _ hn
  · obtain ⟨k, rfl⟩ := Int.eq_ofNat_of_zero_le (show 0 ≤ n by omega)
    have P := Lib.hid (peek_nil (w := w) k (by omega))
    by_cases h0 : k = 0
    · subst h0
      have E := Lib.hid (show rdI [] false 0 ((0 : Nat) : Int) = (0, 0, 0) by decide)
      clear hn
      go_enter Try.func14, Try.ntmps14
      go_wp2_with (first | (go_at_call 13; refine P.out.mono ?_; rintro e w' ⟨rfl, rfl⟩) | (go_at_call 12; refine left_nil.mono ?_; rintro e w' ⟨rfl, rfl⟩))
      go_ret2
      exact ⟨by rw [E.out]; rfl, rfl⟩
    · have E := Lib.hid (show rdI [] false 0 (k : Int) = (0, 0, 2) by unfold rdI; rw [if_neg hn, if_pos (by simp; omega)])
      have hk : 0 < (k : Int) := by omega
      clear hn h0
      go_enter Try.func14, Try.ntmps14
      go_wp2_with (first | (go_at_call 13; refine P.out.mono ?_; rintro e w' ⟨rfl, rfl⟩) | (go_at_call 12; refine left_nil.mono ?_; rintro e w' ⟨rfl, rfl⟩))
      go_ret2
      exact ⟨by rw [E.out]; rfl, rfl⟩
end Go.Proofs.Ytifbhbknpecnbaa
