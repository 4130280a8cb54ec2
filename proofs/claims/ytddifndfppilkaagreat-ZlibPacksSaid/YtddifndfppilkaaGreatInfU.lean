/-
  Layer 8 (inflate): what words mean.
-/
import Derived.Test.YtddifndfppilkaaGreatInfT
namespace Go.Proofs.YtddifndfppilkaaGreat
open Go.RowKit Go.Mz
set_option linter.unusedVariables false
set_option linter.unusedSimpArgs false
set_option maxRecDepth 100000

theorem elemBase : ElemT Tryz.prog 89 129 2 16 (.agg #[.int .i64 0, .int .i64 0]) :=
  ⟨Tryz.underlying89, info_parts (by kernel_rfl), rfl, by decide⟩
def baV (b : Nat × Nat) : List Value := [nv b.1, nv b.2]
def bas (l : List (Nat × Nat)) : List Value := l.flatMap baV
theorem bas_snoc (l : List (Nat × Nat)) (b : Nat × Nat) : bas (l ++ [b]) = bas l ++ baV b := by simp [bas]
theorem length_bas (l : List (Nat × Nat)) : (bas l).length = l.length * 2 := length_flat baV 2 (fun _ => rfl) l
theorem reads_base (w : World) (p q : Nat) : Reads (w.alloc (.cells #[.int .i64 (p : Int), .int .i64 (q : Int)] 129)) 2 (.slice (some ⟨w.heap.size, 0, none⟩) 1 1) 1 (baV (p, q)) :=
  (St.own_blk (e := 129) (size := 2) (n := 1) (cap := 1) (xs := baV (p, q)) ((St.init w).alloc _) (Nat.le_refl _) (by decide) rfl rfl).reads
theorem base_oneCell (b : Nat × Nat) : ∀ u ∈ baV b, u.oneCell' = true := by
  intro u hu
  simp [baV] at hu
  rcases hu with rfl | rfl <;> rfl
theorem fromL_le : ∀ k, k ≤ 28 → fromL k ≤ 300 := by decide
theorem fromD_le : ∀ k, k ≤ 30 → fromD k ≤ 40000 := by decide
def lensK (k : Nat) : List (Nat × Nat) := (List.range k).map fun k => (fromL k, k / 4 - 1)
def distsK (k : Nat) : List (Nat × Nat) := (List.range k).map fun k => (fromD k, k / 2 - 1)
theorem lensK_succ (k : Nat) : lensK (k + 1) = lensK k ++ [(fromL k, k / 4 - 1)] := by rw [lensK, List.range_succ, List.map_append]; rfl
theorem distsK_succ (k : Nat) : distsK (k + 1) = distsK k ++ [(fromD k, k / 2 - 1)] := by rw [distsK, List.range_succ, List.map_append]; rfl

theorem shl_eq {f x : Nat} (hf : f ≤ 40000) (hx : x ≤ 14) : wrap64 ((f : Int) + wrap64 (2 ^ x)) = ((f + 2 ^ x : Nat) : Int) := by
  have h1 : (2 : Int) ^ x = ((2 ^ x : Nat) : Int) := by simp
  have h2 : 2 ^ x ≤ 2 ^ 14 := Nat.pow_le_pow_right (by decide) hx
  rw [h1]
  generalize 2 ^ x = y at *
  unfold wrap64
  omega
set_option maxHeartbeats 4000000 in
theorem lens_any {w0 w : World} {F : SProp} (h : St w0 w F) : Calls Tryz.prog 51 #[] w fun e w' => ∃ v, e = .returned v ∧ St w0 w' (own 129 2 v 29 (bas lensB) * F) := by
  have T := elemBase
  have H := Lib.hid (St.own_nil 129 2 h); clear h
  go_enter Tryz.func51, Tryz.ntmps51
  go_wp2_with fail
  go_loopw [1, 2, 5] (fun vo vf vi wr => ∃ k : Nat, k ≤ 28 ∧ vi = .int .i64 k ∧ vf = .int .i64 (fromL k : Nat) ∧ St w0 wr (own 129 2 vo k (bas (lensK k)) * F)) (fun _ _ vi _ => 28 - (intOf vi).toNat)
  case atStart => exact ⟨0, by omega, rfl, rfl, H.out⟩
  case round =>
    clear H
    obtain ⟨k, hk, rfl, rfl, hst⟩ := hrel
    obtain ⟨ao, co, rfl⟩ := hst.reads.sub
    have HST := Lib.hid hst; clear hst
    have hf := fromL_le k hk
    by_cases hkn : k < 28
    · have hkn2 : (k : Int) < 28 := by omega
      have HX := Lib.hid (lensK_succ k)
      have HF := Lib.hid (show fromL (k + 1) = fromL k + 2 ^ (k / 4 - 1) from rfl)
      have hxk : k / 4 - 1 ≤ 6 := by omega
      have hcs : ((k : Int) / 4 = 0 ∧ k / 4 - 1 = 0) ∨ ((k : Int) / 4 = 1 ∧ k / 4 - 1 = 0) ∨ ((k : Int) / 4 = ((k / 4 - 1 : Nat) : Int) + 1 ∧ 0 < k / 4 - 1) := by omega
      generalize k / 4 - 1 = x at *
      rcases hcs with ⟨e0, rfl⟩ | ⟨e0, rfl⟩ | ⟨e0, hx0⟩
      · skip
        go_wp2_with (at_builtin; apply stop)
        refine on (wpList_append_sep T rfl _ _ rfl rfl (HST.out.drop_alloc (.cells #[.int .i64 (fromL k : Nat), .int .i64 (0 : Nat)] 129)) rfl (reads_base wr (fromL k) 0) (base_oneCell (fromL k, 0)) ?_ ?_ ?_)
        · unfold maxLen; omega
        · omega
        intro v' w7 h9 _
        rw [← bas_snoc, ← HX.out] at h9
        obtain ⟨aN, cN, rfl⟩ := h9.reads.sub
        have H9 := Lib.hid h9; clear h9
        go_wp2_with fail
        exact ⟨⟨k + 1, by omega, by go_num, by rw [HF.out]; rfl, H9.out⟩, by simp [intOf]; omega⟩
      · skip
        go_wp2_with (at_builtin; apply stop)
        refine on (wpList_append_sep T rfl _ _ rfl rfl (HST.out.drop_alloc (.cells #[.int .i64 (fromL k : Nat), .int .i64 (0 : Nat)] 129)) rfl (reads_base wr (fromL k) 0) (base_oneCell (fromL k, 0)) ?_ ?_ ?_)
        · unfold maxLen; omega
        · omega
        intro v' w7 h9 _
        rw [← bas_snoc, ← HX.out] at h9
        obtain ⟨aN, cN, rfl⟩ := h9.reads.sub
        have H9 := Lib.hid h9; clear h9
        go_wp2_with fail
        exact ⟨⟨k + 1, by omega, by go_num, by rw [HF.out]; rfl, H9.out⟩, by simp [intOf]; omega⟩
      · skip
        have hx1 : ¬ (x : Int) < 0 := by omega
        go_wp2_with (at_builtin; apply stop)
        refine on (wpList_append_sep T rfl _ _ rfl rfl (HST.out.drop_alloc (.cells #[.int .i64 (fromL k : Nat), .int .i64 (x : Nat)] 129)) rfl (reads_base wr (fromL k) x) (base_oneCell (fromL k, x)) ?_ ?_ ?_)
        · unfold maxLen; omega
        · omega
        intro v' w7 h9 _
        rw [← bas_snoc, ← HX.out] at h9
        obtain ⟨aN, cN, rfl⟩ := h9.reads.sub
        have H9 := Lib.hid h9; clear h9
        go_wp2_with fail
        exact ⟨⟨k + 1, by omega, by go_num, by rw [HF.out]; exact int_eq (shl_eq (by omega) (by omega)), H9.out⟩, by simp [intOf]; omega⟩
    · obtain rfl : k = 28 := by omega
      have HX := Lib.hid (show bas (lensK 28) ++ baV (258, 0) = bas lensB by rw [← bas_snoc]; rfl)
      go_wp2_with (at_builtin; apply stop)
      refine on (wpList_append_sep T rfl _ _ rfl rfl (HST.out.drop_alloc (.cells #[.int .i64 (258 : Nat), .int .i64 (0 : Nat)] 129)) rfl (reads_base wr 258 0) (base_oneCell (258, 0)) ?_ ?_ ?_)
      · unfold maxLen; omega
      · omega
      intro v' w7 h9 _
      rw [HX.out] at h9
      obtain ⟨aN, cN, rfl⟩ := h9.reads.sub
      have H9 := Lib.hid h9; clear h9
      go_wp2_with fail
      go_ret
      exact ⟨_, rfl, H9.out⟩
set_option maxHeartbeats 4000000 in
theorem dists_any {w0 w : World} {F : SProp} (h : St w0 w F) : Calls Tryz.prog 52 #[] w fun e w' => ∃ v, e = .returned v ∧ St w0 w' (own 129 2 v 30 (bas distsB) * F) := by
  have T := elemBase
  have H := Lib.hid (St.own_nil 129 2 h); clear h
  go_enter Tryz.func52, Tryz.ntmps52
  go_wp2_with fail
  go_loopw [1, 2, 5] (fun vo vf vi wr => ∃ k : Nat, k ≤ 30 ∧ vi = .int .i64 k ∧ vf = .int .i64 (fromD k : Nat) ∧ St w0 wr (own 129 2 vo k (bas (distsK k)) * F)) (fun _ _ vi _ => 30 - (intOf vi).toNat)
  case atStart => exact ⟨0, by omega, rfl, rfl, H.out⟩
  case round =>
    clear H
    obtain ⟨k, hk, rfl, rfl, hst⟩ := hrel
    obtain ⟨ao, co, rfl⟩ := hst.reads.sub
    have HST := Lib.hid hst; clear hst
    have hf := fromD_le k hk
    by_cases hkn : k < 30
    · have hkn2 : (k : Int) < 30 := by omega
      have HX := Lib.hid (distsK_succ k)
      have HF := Lib.hid (show fromD (k + 1) = fromD k + 2 ^ (k / 2 - 1) from rfl)
      have hxk : k / 2 - 1 ≤ 14 := by omega
      have hcs : ((k : Int) / 2 = 0 ∧ k / 2 - 1 = 0) ∨ ((k : Int) / 2 = 1 ∧ k / 2 - 1 = 0) ∨ ((k : Int) / 2 = ((k / 2 - 1 : Nat) : Int) + 1 ∧ 0 < k / 2 - 1) := by omega
      generalize k / 2 - 1 = x at *
      rcases hcs with ⟨e0, rfl⟩ | ⟨e0, rfl⟩ | ⟨e0, hx0⟩
      · skip
        go_wp2_with (at_builtin; apply stop)
        refine on (wpList_append_sep T rfl _ _ rfl rfl (HST.out.drop_alloc (.cells #[.int .i64 (fromD k : Nat), .int .i64 (0 : Nat)] 129)) rfl (reads_base wr (fromD k) 0) (base_oneCell (fromD k, 0)) ?_ ?_ ?_)
        · unfold maxLen; omega
        · omega
        intro v' w7 h9 _
        rw [← bas_snoc, ← HX.out] at h9
        obtain ⟨aN, cN, rfl⟩ := h9.reads.sub
        have H9 := Lib.hid h9; clear h9
        go_wp2_with fail
        exact ⟨⟨k + 1, by omega, by go_num, by rw [HF.out]; rfl, H9.out⟩, by simp [intOf]; omega⟩
      · skip
        go_wp2_with (at_builtin; apply stop)
        refine on (wpList_append_sep T rfl _ _ rfl rfl (HST.out.drop_alloc (.cells #[.int .i64 (fromD k : Nat), .int .i64 (0 : Nat)] 129)) rfl (reads_base wr (fromD k) 0) (base_oneCell (fromD k, 0)) ?_ ?_ ?_)
        · unfold maxLen; omega
        · omega
        intro v' w7 h9 _
        rw [← bas_snoc, ← HX.out] at h9
        obtain ⟨aN, cN, rfl⟩ := h9.reads.sub
        have H9 := Lib.hid h9; clear h9
        go_wp2_with fail
        exact ⟨⟨k + 1, by omega, by go_num, by rw [HF.out]; rfl, H9.out⟩, by simp [intOf]; omega⟩
      · skip
        have hx1 : ¬ (x : Int) < 0 := by omega
        go_wp2_with (at_builtin; apply stop)
        refine on (wpList_append_sep T rfl _ _ rfl rfl (HST.out.drop_alloc (.cells #[.int .i64 (fromD k : Nat), .int .i64 (x : Nat)] 129)) rfl (reads_base wr (fromD k) x) (base_oneCell (fromD k, x)) ?_ ?_ ?_)
        · unfold maxLen; omega
        · omega
        intro v' w7 h9 _
        rw [← bas_snoc, ← HX.out] at h9
        obtain ⟨aN, cN, rfl⟩ := h9.reads.sub
        have H9 := Lib.hid h9; clear h9
        go_wp2_with fail
        exact ⟨⟨k + 1, by omega, by go_num, by rw [HF.out]; exact int_eq (shl_eq (by omega) (by omega)), H9.out⟩, by simp [intOf]; omega⟩
    · obtain rfl : k = 30 := by omega
      have HX := Lib.hid (show bas (distsK 30) = bas distsB from rfl)
      have h9 := HST.out
      rw [HX.out] at h9
      have H9 := Lib.hid h9; clear h9
      go_wp2_with fail
      go_ret
      exact ⟨_, rfl, H9.out⟩
end Go.Proofs.YtddifndfppilkaaGreat
