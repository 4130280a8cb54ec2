/-
  Layer 8 (inflate): the tables.
-/
import Derived.Test.YtddifndfppilkaaGreatInfM
import Derived.Test.YtddifndfppilkaaGreatHufKI
namespace Go.Proofs.YtddifndfppilkaaGreat
open Go.RowKit Go.Mz
set_option linter.unusedVariables false
set_option linter.unusedSimpArgs false
set_option maxRecDepth 100000

theorem reads_int1 (w : World) (x : Int) : Reads (w.alloc (.cells #[.int .i64 x] 3)) 1 (.slice (some ⟨w.heap.size, 0, none⟩) 1 1) 1 ([x].map iv) :=
  (St.own_blk (e := 3) (size := 1) (n := 1) (cap := 1) (xs := [x].map iv) ((St.init w).alloc _) (Nat.le_refl _) (by decide) rfl rfl).reads
def nvs (l : List Nat) : List Value := l.map nv
@[simp] theorem length_nvs (l : List Nat) : (nvs l).length = l.length := by simp [nvs]
def ints (v : Value) (l : List Nat) : SProp := own 3 1 v l.length (nvs l)
theorem order_any {w0 w : World} {F : SProp} (h : St w0 w F) : Calls Tryz.prog 56 #[] w fun e w' => ∃ v, e = .returned v ∧ St w0 w' (own 3 1 v 19 (nvs orderL) * F) := by
  have h1 := h.lit (nvs orderL).toArray 3 19 rfl (by decide)
  have H1 := Lib.hid h1; clear h1 h
  go_enter Tryz.func56, Tryz.ntmps56
  go_wp2_with fail
  go_ret
  exact ⟨_, rfl, H1.out⟩
theorem fixN_snoc (k : Nat) : (List.range (k + 1)).map fixN = (List.range k).map fixN ++ [fixN k] := by rw [List.range_succ, List.map_append]; rfl
set_option maxHeartbeats 4000000 in
theorem fixed_any {w0 w : World} {F : SProp} (h : St w0 w F) : Calls Tryz.prog 24 #[] w fun e w' => ∃ va vb, e = .returned (.tuple #[va, vb]) ∧ St w0 w' (own 3 1 va 288 (nvs fixA) * (own 3 1 vb 30 (nvs fixB) * F)) := by
  have T := elemI
  have H := Lib.hid (St.own_nil 3 1 h); clear h
  go_enter Tryz.func24, Tryz.ntmps24
  go_wp2_with fail
  go_loopw [2, 5] (fun vo vi wr => ∃ k : Nat, k ≤ 288 ∧ vi = .int .i64 k ∧ St w0 wr (own 3 1 vo k (nvs ((List.range k).map fixN)) * F)) (fun _ vi _ => 288 - (intOf vi).toNat)
  case atStart => exact ⟨0, by omega, rfl, H.out⟩
  case round =>
    clear H
    obtain ⟨k, hk, rfl, hst⟩ := hrel
    obtain ⟨ao, co, rfl⟩ := hst.reads.sub
    have HST := Lib.hid hst; clear hst
    by_cases hkn : k < 288
    · have hkn2 : (k : Int) < 288 := by omega
      by_cases h144 : k < 144
      · have h1 : (k : Int) < 144 := by omega
        have HX := Lib.hid (show nvs ((List.range k).map fixN) ++ [(8 : Int)].map iv = nvs ((List.range (k + 1)).map fixN) by
          rw [fixN_snoc, fixN, if_pos (.inl h144)]; simp [nvs]; rfl)
        clear h144
        go_wp2_with (at_builtin; apply stop)
        refine on (wpList_append_sep T rfl _ _ rfl rfl (HST.out.drop_alloc (.cells #[.int .i64 8] 3)) rfl (reads_int1 wr 8) (iv_oneCell [8]) ?_ ?_ ?_)
        · unfold maxLen; omega
        · omega
        intro v' w7 h9 _
        rw [HX.out] at h9
        obtain ⟨aN, cN, rfl⟩ := h9.reads.sub
        have H9 := Lib.hid h9; clear h9
        go_wp2_with fail
        exact ⟨⟨k + 1, by omega, by go_num, H9.out⟩, by simp [intOf]; omega⟩
      have h1 : ¬ (k : Int) < 144 := by omega
      by_cases h280 : 280 ≤ k
      · have h2 : 280 ≤ (k : Int) := by omega
        have HX := Lib.hid (show nvs ((List.range k).map fixN) ++ [(8 : Int)].map iv = nvs ((List.range (k + 1)).map fixN) by
          rw [fixN_snoc, fixN, if_pos (.inr h280)]; simp [nvs]; rfl)
        clear h144 h280
        go_wp2_with (at_builtin; apply stop)
        refine on (wpList_append_sep T rfl _ _ rfl rfl (HST.out.drop_alloc (.cells #[.int .i64 8] 3)) rfl (reads_int1 wr 8) (iv_oneCell [8]) ?_ ?_ ?_)
        · unfold maxLen; omega
        · omega
        intro v' w7 h9 _
        rw [HX.out] at h9
        obtain ⟨aN, cN, rfl⟩ := h9.reads.sub
        have H9 := Lib.hid h9; clear h9
        go_wp2_with fail
        exact ⟨⟨k + 1, by omega, by go_num, H9.out⟩, by simp [intOf]; omega⟩
      have h2 : ¬ 280 ≤ (k : Int) := by omega
      by_cases h256 : k < 256
      · have h3 : (k : Int) < 256 := by omega
        have HX := Lib.hid (show nvs ((List.range k).map fixN) ++ [(9 : Int)].map iv = nvs ((List.range (k + 1)).map fixN) by
          rw [fixN_snoc, fixN, if_neg (by omega), if_pos h256]; simp [nvs]; rfl)
        clear h144 h280 h256
        go_wp2_with (at_builtin; apply stop)
        refine on (wpList_append_sep T rfl _ _ rfl rfl (HST.out.drop_alloc (.cells #[.int .i64 9] 3)) rfl (reads_int1 wr 9) (iv_oneCell [9]) ?_ ?_ ?_)
        · unfold maxLen; omega
        · omega
        intro v' w7 h9 _
        rw [HX.out] at h9
        obtain ⟨aN, cN, rfl⟩ := h9.reads.sub
        have H9 := Lib.hid h9; clear h9
        go_wp2_with fail
        exact ⟨⟨k + 1, by omega, by go_num, H9.out⟩, by simp [intOf]; omega⟩
      · have h3 : ¬ (k : Int) < 256 := by omega
        have HX := Lib.hid (show nvs ((List.range k).map fixN) ++ [(7 : Int)].map iv = nvs ((List.range (k + 1)).map fixN) by
          rw [fixN_snoc, fixN, if_neg (by omega), if_neg h256]; simp [nvs]; rfl)
        clear h144 h280 h256
        go_wp2_with (at_builtin; apply stop)
        refine on (wpList_append_sep T rfl _ _ rfl rfl (HST.out.drop_alloc (.cells #[.int .i64 7] 3)) rfl (reads_int1 wr 7) (iv_oneCell [7]) ?_ ?_ ?_)
        · unfold maxLen; omega
        · omega
        intro v' w7 h9 _
        rw [HX.out] at h9
        obtain ⟨aN, cN, rfl⟩ := h9.reads.sub
        have H9 := Lib.hid h9; clear h9
        go_wp2_with fail
        exact ⟨⟨k + 1, by omega, by go_num, H9.out⟩, by simp [intOf]; omega⟩
    · have hkn2 : ¬ (k : Int) < 288 := by omega
      have HK := Lib.hid (show k = 288 by omega)
      have H2 := Lib.hid (St.own_nil 3 1 HST.out); clear HST
      go_wp2_with fail
      go_loopw [3, 26] (fun vo vi wr => ∃ j : Nat, j ≤ 30 ∧ vi = .int .i64 j ∧ St w0 wr (own 3 1 vo j (nvs (List.replicate j 5)) * (own 3 1 (.slice ao k co) k (nvs ((List.range k).map fixN)) * F))) (fun _ vi _ => 30 - (intOf vi).toNat)
      case atStart => exact ⟨0, by omega, rfl, H2.out⟩
      case round =>
        clear H2
        obtain ⟨j, hj, rfl, hst⟩ := hrel
        obtain ⟨a1, c1, rfl⟩ := hst.reads.sub
        have HST := Lib.hid hst; clear hst
        by_cases hjn : j < 30
        · have hjn2 : (j : Int) < 30 := by omega
          have HX := Lib.hid (show nvs (List.replicate j 5) ++ [(5 : Int)].map iv = nvs (List.replicate (j + 1) 5) by
            rw [List.replicate_succ']; simp [nvs]; rfl)
          go_wp2_with (at_builtin; apply stop)
          refine on (wpList_append_sep T rfl _ _ rfl rfl (HST.out.drop_alloc (.cells #[.int .i64 5] 3)) rfl (reads_int1 wr 5) (iv_oneCell [5]) ?_ ?_ ?_)
          · unfold maxLen; omega
          · omega
          intro v' w7 h9 _
          rw [HX.out] at h9
          obtain ⟨aN, cN, rfl⟩ := h9.reads.sub
          have H9 := Lib.hid h9; clear h9
          go_wp2_with fail
          exact ⟨⟨j + 1, by omega, by go_num, H9.out⟩, by simp [intOf]; omega⟩
        · obtain rfl : j = 30 := by omega
          go_wp2_with fail
          go_ret2
          refine ⟨_, _, rfl, ?_⟩
          have h3 := HST.out.perm (star_left_comm _ _ _)
          have e := HK.out
          subst e
          exact h3
end Go.Proofs.YtddifndfppilkaaGreat
