/-
  Layer 8: the document's tables (package mezzotintref08), and comparing numbers.
-/
import Derived.Test.YtddifndfppilkaaGreatInfU
import Derived.Deep.QuietTactic
import Derived.BigQuiet
namespace Go.Proofs.YtddifndfppilkaaGreat
open Go.RowKit Go.Mz
set_option linter.unusedVariables false
set_option linter.unusedSimpArgs false
set_option maxRecDepth 100000

theorem rorder_any {w0 w : World} {F : SProp} (h : St w0 w F) : Calls Tryz.prog 65 #[] w fun e w' => ∃ v, e = .returned v ∧ St w0 w' (own 3 1 v 19 (nvs orderL) * F) := by
  have h1 := h.lit (nvs orderL).toArray 3 19 rfl (by decide)
  have H1 := Lib.hid h1; clear h1 h
  go_enter Tryz.func65, Tryz.ntmps65
  go_wp2_with fail
  go_ret
  exact ⟨_, rfl, H1.out⟩
def fromsL (far : Bool) : List (Nat × Nat) := if far then distsB else lensB
set_option maxHeartbeats 4000000 in
theorem rfroms_any {w0 w : World} {F : SProp} (h : St w0 w F) (far : Bool) : Calls Tryz.prog 82 #[.bool far] w fun e w' => ∃ va vb, e = .returned (.tuple #[va, vb]) ∧
    St w0 w' (own 3 1 va (fromsL far).length (nvs ((fromsL far).map Prod.fst)) * (own 3 1 vb (fromsL far).length (nvs ((fromsL far).map Prod.snd)) * F)) := by
  have e1 : nvs (distsB.map Prod.fst) = nvs [1, 2, 3, 4, 5, 7, 9, 13, 17, 25, 33, 49, 65, 97, 129, 193, 257, 385, 513, 769, 1025, 1537, 2049, 3073, 4097, 6145, 8193, 12289, 16385, 24577] := by kernel_rfl
  have e2 : nvs (distsB.map Prod.snd) = nvs [0, 0, 0, 0, 1, 1, 2, 2, 3, 3, 4, 4, 5, 5, 6, 6, 7, 7, 8, 8, 9, 9, 10, 10, 11, 11, 12, 12, 13, 13] := by kernel_rfl
  have e3 : nvs (lensB.map Prod.fst) = nvs [3, 4, 5, 6, 7, 8, 9, 10, 11, 13, 15, 17, 19, 23, 27, 31, 35, 43, 51, 59, 67, 83, 99, 115, 131, 163, 195, 227, 258] := by kernel_rfl
  have e4 : nvs (lensB.map Prod.snd) = nvs [0, 0, 0, 0, 0, 0, 0, 0, 1, 1, 1, 1, 2, 2, 2, 2, 3, 3, 3, 3, 4, 4, 4, 4, 5, 5, 5, 5, 0] := by kernel_rfl
  cases far
  · have h1 := h.lit (nvs [3, 4, 5, 6, 7, 8, 9, 10, 11, 13, 15, 17, 19, 23, 27, 31, 35, 43, 51, 59, 67, 83, 99, 115, 131, 163, 195, 227, 258]).toArray 3 29 rfl (by decide)
    have h2 := h1.lit (nvs [0, 0, 0, 0, 0, 0, 0, 0, 1, 1, 1, 1, 2, 2, 2, 2, 3, 3, 3, 3, 4, 4, 4, 4, 5, 5, 5, 5, 0]).toArray 3 29 rfl (by decide)
    have hS : (w.alloc (.cells (nvs [3, 4, 5, 6, 7, 8, 9, 10, 11, 13, 15, 17, 19, 23, 27, 31, 35, 43, 51, 59, 67, 83, 99, 115, 131, 163, 195, 227, 258]).toArray 3)).heap.size = w.heap.size + 1 := by
      show (w.heap.push _).size = _
      exact Array.size_push _
    rw [hS] at h2
    have H2 := Lib.hid (h2.perm (star_left_comm _ _ _)); clear h1 h2 h hS
    go_enter Tryz.func82, Tryz.ntmps82
    go_wp2_with fail
    go_ret2
    refine ⟨_, _, rfl, ?_⟩
    show St w0 _ (own 3 1 _ 29 (nvs (lensB.map Prod.fst)) * (own 3 1 _ 29 (nvs (lensB.map Prod.snd)) * F))
    rw [e3, e4]
    exact H2.out
  · have h1 := h.lit (nvs [1, 2, 3, 4, 5, 7, 9, 13, 17, 25, 33, 49, 65, 97, 129, 193, 257, 385, 513, 769, 1025, 1537, 2049, 3073, 4097, 6145, 8193, 12289, 16385, 24577]).toArray 3 30 rfl (by decide)
    have h2 := h1.lit (nvs [0, 0, 0, 0, 1, 1, 2, 2, 3, 3, 4, 4, 5, 5, 6, 6, 7, 7, 8, 8, 9, 9, 10, 10, 11, 11, 12, 12, 13, 13]).toArray 3 30 rfl (by decide)
    have hS : (w.alloc (.cells (nvs [1, 2, 3, 4, 5, 7, 9, 13, 17, 25, 33, 49, 65, 97, 129, 193, 257, 385, 513, 769, 1025, 1537, 2049, 3073, 4097, 6145, 8193, 12289, 16385, 24577]).toArray 3)).heap.size = w.heap.size + 1 := by
      show (w.heap.push _).size = _
      exact Array.size_push _
    rw [hS] at h2
    have H2 := Lib.hid (h2.perm (star_left_comm _ _ _)); clear h1 h2 h hS
    go_enter Tryz.func82, Tryz.ntmps82
    go_wp2_with fail
    go_ret2
    refine ⟨_, _, rfl, ?_⟩
    show St w0 _ (own 3 1 _ 30 (nvs (distsB.map Prod.fst)) * (own 3 1 _ 30 (nvs (distsB.map Prod.snd)) * F))
    rw [e1, e2]
    exact H2.out
set_option maxHeartbeats 4000000 in
theorem rfixed_any {w0 w : World} {F : SProp} (h : St w0 w F) : Calls Tryz.prog 34 #[] w fun e w' => ∃ va vb, e = .returned (.tuple #[va, vb]) ∧ St w0 w' (own 3 1 va 288 (nvs fixA) * (own 3 1 vb 30 (nvs fixB) * F)) := by
  have T := elemI
  have H := Lib.hid (St.own_nil 3 1 h); clear h
  go_enter Tryz.func34, Tryz.ntmps34
  go_wp2_with fail
  go_loopw [2, 4] (fun vo vi wr => ∃ k : Nat, k ≤ 288 ∧ vi = .int .i64 k ∧ St w0 wr (own 3 1 vo k (nvs ((List.range k).map fixN)) * F)) (fun _ vi _ => 288 - (intOf vi).toNat)
  case atStart => exact ⟨0, by omega, rfl, H.out⟩
  case round =>
    clear H
    obtain ⟨k, hk, rfl, hst⟩ := hrel
    obtain ⟨ao, co, rfl⟩ := hst.reads.sub
    have HST := Lib.hid hst; clear hst
    by_cases hkn : k < 288
    · have hkn2 : (k : Int) < 288 := by omega
      by_cases h1 : k < 144
      · have g1 : ¬ 144 ≤ (k : Int) := by omega
        have g2 : ¬ 256 ≤ (k : Int) := by omega
        have HX := Lib.hid (show nvs ((List.range k).map fixN) ++ [(8 : Int)].map iv = nvs ((List.range (k + 1)).map fixN) by
          rw [fixN_snoc, fixN, if_pos (.inl h1)]; simp [nvs]; rfl)
        clear hkn
        go_wp2_with (at_builtin; apply stop)
        refine on (wpList_append_sep T rfl _ _ rfl rfl (HST.out.drop_alloc (.cells #[.int .i64 8] 3)) rfl (reads_int1 wr 8) (iv_oneCell [8]) ?_ ?_ ?_)
        · unfold maxLen; omega
        · omega
        intro v' w7 h9 _
        rw [HX.out] at h9
        obtain ⟨aN, cN, rfl⟩ := h9.reads.sub
        have H9 := Lib.hid h9; clear h9
        go_wp2_with fail
        exact ⟨⟨k + 1, by omega, by go_num, H9.out⟩, by simp [intOf]; omega⟩
      by_cases h2 : k < 256
      · have g1 : 144 ≤ (k : Int) := by omega
        have g2 : (k : Int) < 256 := by omega
        have HX := Lib.hid (show nvs ((List.range k).map fixN) ++ [(9 : Int)].map iv = nvs ((List.range (k + 1)).map fixN) by
          rw [fixN_snoc, fixN, if_neg (by omega), if_pos h2]; simp [nvs]; rfl)
        clear hkn
        go_wp2_with (at_builtin; apply stop)
        refine on (wpList_append_sep T rfl _ _ rfl rfl (HST.out.drop_alloc (.cells #[.int .i64 9] 3)) rfl (reads_int1 wr 9) (iv_oneCell [9]) ?_ ?_ ?_)
        · unfold maxLen; omega
        · omega
        intro v' w7 h9 _
        rw [HX.out] at h9
        obtain ⟨aN, cN, rfl⟩ := h9.reads.sub
        have H9 := Lib.hid h9; clear h9
        go_wp2_with fail
        exact ⟨⟨k + 1, by omega, by go_num, H9.out⟩, by simp [intOf]; omega⟩
      by_cases h3 : k < 280
      · have g1 : 144 ≤ (k : Int) := by omega
        have g2 : ¬ (k : Int) < 256 := by omega
        have g3 : (k : Int) < 280 := by omega
        have HX := Lib.hid (show nvs ((List.range k).map fixN) ++ [(7 : Int)].map iv = nvs ((List.range (k + 1)).map fixN) by
          rw [fixN_snoc, fixN, if_neg (by omega), if_neg h2]; simp [nvs]; rfl)
        clear hkn
        go_wp2_with (at_builtin; apply stop)
        refine on (wpList_append_sep T rfl _ _ rfl rfl (HST.out.drop_alloc (.cells #[.int .i64 7] 3)) rfl (reads_int1 wr 7) (iv_oneCell [7]) ?_ ?_ ?_)
        · unfold maxLen; omega
        · omega
        intro v' w7 h9 _
        rw [HX.out] at h9
        obtain ⟨aN, cN, rfl⟩ := h9.reads.sub
        have H9 := Lib.hid h9; clear h9
        go_wp2_with fail
        exact ⟨⟨k + 1, by omega, by go_num, H9.out⟩, by simp [intOf]; omega⟩
      · have g1 : 144 ≤ (k : Int) := by omega
        have g2 : ¬ (k : Int) < 256 := by omega
        have g3 : ¬ (k : Int) < 280 := by omega
        have HX := Lib.hid (show nvs ((List.range k).map fixN) ++ [(8 : Int)].map iv = nvs ((List.range (k + 1)).map fixN) by
          rw [fixN_snoc, fixN, if_pos (.inr (by omega))]; simp [nvs]; rfl)
        clear hkn
        go_wp2_with (at_builtin; apply stop)
        refine on (wpList_append_sep T rfl _ _ rfl rfl (HST.out.drop_alloc (.cells #[.int .i64 8] 3)) rfl (reads_int1 wr 8) (iv_oneCell [8]) ?_ ?_ ?_)
        · unfold maxLen; omega
        · omega
        intro v' w7 h9 _
        rw [HX.out] at h9
        obtain ⟨aN, cN, rfl⟩ := h9.reads.sub
        have H9 := Lib.hid h9; clear h9
        go_wp2_with fail
        exact ⟨⟨k + 1, by omega, by go_num, H9.out⟩, by simp [intOf]; omega⟩
    · have hkn2 : ¬ (k : Int) < 288 := by omega
      have HK := Lib.hid (show k = 288 by omega)
      have H2 := Lib.hid (St.own_nil 3 1 HST.out); clear HST
      go_wp2_with fail
      go_loopw [3, 6] (fun vo vi wr => ∃ j : Nat, j ≤ 30 ∧ vi = .int .i64 j ∧ St w0 wr (own 3 1 vo j (nvs (List.replicate j 5)) * (own 3 1 (.slice ao k co) k (nvs ((List.range k).map fixN)) * F))) (fun _ vi _ => 30 - (intOf vi).toNat)
      case atStart => exact ⟨0, by omega, rfl, H2.out⟩
      case round =>
        clear H2
        obtain ⟨j, hj, rfl, hst⟩ := hrel
        obtain ⟨a1, c1, rfl⟩ := hst.reads.sub
        have HST := Lib.hid hst; clear hst
        by_cases hjn : j < 30
        · have hjn2 : (j : Int) < 30 := by omega
          have HX := Lib.hid (show nvs (List.replicate j 5) ++ [(5 : Int)].map iv = nvs (List.replicate (j + 1) 5) by
            rw [List.replicate_succ']; simp [nvs]; rfl)
          go_wp2_with (at_builtin; apply stop)
          refine on (wpList_append_sep T rfl _ _ rfl rfl (HST.out.drop_alloc (.cells #[.int .i64 5] 3)) rfl (reads_int1 wr 5) (iv_oneCell [5]) ?_ ?_ ?_)
          · unfold maxLen; omega
          · omega
          intro v' w7 h9 _
          rw [HX.out] at h9
          obtain ⟨aN, cN, rfl⟩ := h9.reads.sub
          have H9 := Lib.hid h9; clear h9
          go_wp2_with fail
          exact ⟨⟨j + 1, by omega, by go_num, H9.out⟩, by simp [intOf]; omega⟩
        · obtain rfl : j = 30 := by omega
          go_wp2_with fail
          go_ret2
          refine ⟨_, _, rfl, ?_⟩
          have h3 := HST.out.perm (star_left_comm _ _ _)
          have e := HK.out
          subst e
          exact h3

end Go.Proofs.YtddifndfppilkaaGreat
