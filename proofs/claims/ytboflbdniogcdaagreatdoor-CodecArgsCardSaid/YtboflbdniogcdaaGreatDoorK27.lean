/-
  Parts of a proof.
-/
import Derived.Test.YtboflbdniogcdaaGreatDoorK26
import Derived.Test.YtboflbdniogcdaaGreatDoorK17
import Derived.Test.YtboflbdniogcdaaGreatDoorK02
import Derived.Deep.LoopGhost
import Derived.Deep.QuietTactic
import Derived.BigQuiet
import Derived.RegionTactic
import Derived.BigRegion
import Derived.Deep.Cut
import Derived.Deep.CutRange
import Derived.Test.YtboflbdniogcdaaGreatDoorK14
import Derived.Test.YtboflbdniogcdaaGreatDoorK08
import Derived.Deep.RegionHeld3
import Derived.Test.YtboflbdniogcdaaGreatDoorK04
import Derived.Test.YtboflbdniogcdaaGreatDoorK20
import Derived.Test.YtboflbdniogcdaaGreatDoorChecked
import Derived.Test.YtboflbdniogcdaaGreatDoorK01
import Derived.WalkLawsBesides
import Derived.Test.YtboflbdniogcdaaGreatDoorK13
import Derived.Test.YtboflbdniogcdaaGreatDoorK15
namespace Go.Proofs.YtboflbdniogcdaaGreatDoor
open Go.RowKit Go.Mz
set_option linter.unusedVariables false
set_option linter.unusedSimpArgs false
set_option maxRecDepth 100000
theorem reads_int1 (w : World) (x : Int) : Reads (w.alloc (.cells #[.int .i64 x] 3)) 1 (.slice (some ⟨w.heap.size, 0, none⟩) 1 1) 1 ([x].map iv) :=
 (St.own_blk (e := 3) (size := 1) (n := 1) (cap := 1) (xs := [x].map iv) ((St.init w).alloc _) (Nat.le_refl _) (by decide) rfl rfl).reads
def nvs (l : List Nat) : List Value := l.map nv
@[simp] theorem length_nvs (l : List Nat) : (nvs l).length = l.length := by simp [nvs]
theorem order_any {w0 w : World} {F : SProp} (h : St w0 w F) : Calls Tryz.prog 192 #[] w fun e w' => ∃ v, e = .returned v ∧ St w0 w' (own 3 1 v 19 (nvs orderL) * F) := by
 have h1 := h.lit (nvs orderL).toArray 3 19 rfl (by decide)
 have H1 := Lib.hid h1; clear h1 h
 go_enter Tryz.func192, Tryz.ntmps192
 go_wp2_with fail
 go_ret
 exact ⟨_, rfl, H1.out⟩
theorem fixN_snoc (k : Nat) : (List.range (k + 1)).map fixN = (List.range k).map fixN ++ [fixN k] := by rw [List.range_succ, List.map_append]; rfl
set_option maxHeartbeats 4000000 in
theorem fixed_any {w0 w : World} {F : SProp} (h : St w0 w F) : Calls Tryz.prog 157 #[] w fun e w' => ∃ va vb, e = .returned (.tuple #[va, vb]) ∧ St w0 w' (own 3 1 va 288 (nvs fixA) * (own 3 1 vb 30 (nvs fixB) * F)) := by
 have T := elemI
 have H := Lib.hid (St.own_nil 3 1 h); clear h
 go_enter Tryz.func157, Tryz.ntmps157
 go_wp2_with fail
 go_loopw [2, 5] (fun vo vi wr => ∃ k : Nat, k ≤ 288 ∧ vi = .int .i64 k ∧ St w0 wr (own 3 1 vo k (nvs ((List.range k).map fixN)) * F)) (fun _ vi _ => 288 - (intOf vi).toNat)
 case atStart => exact ⟨0, by omega, rfl, H.out⟩
 case round =>
  clear H
  obtain ⟨k, hk, rfl, hst⟩ := hrel
  obtain ⟨ao, co, rfl⟩ := hst.reads.sub
  have HST := Lib.hid hst; clear hst
  by_cases hkn : k < 288
  ·have hkn2 : (k : Int) < 288 := by omega
   by_cases h144 : k < 144
   ·have h1 : (k : Int) < 144 := by omega
    have HX := Lib.hid (show nvs ((List.range k).map fixN) ++ [(8 : Int)].map iv = nvs ((List.range (k + 1)).map fixN) by
     rw [fixN_snoc, fixN, if_pos (.inl h144)]; simp [nvs]; rfl)
    clear h144
    go_wp2_with (at_builtin; apply stop)
    refine on (wpList_append_sep T rfl _ _ rfl rfl (HST.out.drop_alloc (.cells #[.int .i64 8] 3)) rfl (reads_int1 wr 8) (iv_oneCell [8]) ?_ ?_ ?_)
    ·unfold maxLen; omega
    ·omega
    intro v' w7 h9 _
    rw [HX.out] at h9
    obtain ⟨aN, cN, rfl⟩ := h9.reads.sub
    have H9 := Lib.hid h9; clear h9
    go_wp2_with fail
    exact ⟨⟨k + 1, by omega, by go_num, H9.out⟩, by simp [intOf]; omega⟩
   have h1 : ¬ (k : Int) < 144 := by omega
   by_cases h280 : 280 ≤ k
   ·have h2 : 280 ≤ (k : Int) := by omega
    have HX := Lib.hid (show nvs ((List.range k).map fixN) ++ [(8 : Int)].map iv = nvs ((List.range (k + 1)).map fixN) by
     rw [fixN_snoc, fixN, if_pos (.inr h280)]; simp [nvs]; rfl)
    clear h144 h280
    go_wp2_with (at_builtin; apply stop)
    refine on (wpList_append_sep T rfl _ _ rfl rfl (HST.out.drop_alloc (.cells #[.int .i64 8] 3)) rfl (reads_int1 wr 8) (iv_oneCell [8]) ?_ ?_ ?_)
    ·unfold maxLen; omega
    ·omega
    intro v' w7 h9 _
    rw [HX.out] at h9
    obtain ⟨aN, cN, rfl⟩ := h9.reads.sub
    have H9 := Lib.hid h9; clear h9
    go_wp2_with fail
    exact ⟨⟨k + 1, by omega, by go_num, H9.out⟩, by simp [intOf]; omega⟩
   have h2 : ¬ 280 ≤ (k : Int) := by omega
   by_cases h256 : k < 256
   ·have h3 : (k : Int) < 256 := by omega
    have HX := Lib.hid (show nvs ((List.range k).map fixN) ++ [(9 : Int)].map iv = nvs ((List.range (k + 1)).map fixN) by
     rw [fixN_snoc, fixN, if_neg (by omega), if_pos h256]; simp [nvs]; rfl)
    clear h144 h280 h256
    go_wp2_with (at_builtin; apply stop)
    refine on (wpList_append_sep T rfl _ _ rfl rfl (HST.out.drop_alloc (.cells #[.int .i64 9] 3)) rfl (reads_int1 wr 9) (iv_oneCell [9]) ?_ ?_ ?_)
    ·unfold maxLen; omega
    ·omega
    intro v' w7 h9 _
    rw [HX.out] at h9
    obtain ⟨aN, cN, rfl⟩ := h9.reads.sub
    have H9 := Lib.hid h9; clear h9
    go_wp2_with fail
    exact ⟨⟨k + 1, by omega, by go_num, H9.out⟩, by simp [intOf]; omega⟩
   ·have h3 : ¬ (k : Int) < 256 := by omega
    have HX := Lib.hid (show nvs ((List.range k).map fixN) ++ [(7 : Int)].map iv = nvs ((List.range (k + 1)).map fixN) by
     rw [fixN_snoc, fixN, if_neg (by omega), if_neg h256]; simp [nvs]; rfl)
    clear h144 h280 h256
    go_wp2_with (at_builtin; apply stop)
    refine on (wpList_append_sep T rfl _ _ rfl rfl (HST.out.drop_alloc (.cells #[.int .i64 7] 3)) rfl (reads_int1 wr 7) (iv_oneCell [7]) ?_ ?_ ?_)
    ·unfold maxLen; omega
    ·omega
    intro v' w7 h9 _
    rw [HX.out] at h9
    obtain ⟨aN, cN, rfl⟩ := h9.reads.sub
    have H9 := Lib.hid h9; clear h9
    go_wp2_with fail
    exact ⟨⟨k + 1, by omega, by go_num, H9.out⟩, by simp [intOf]; omega⟩
  ·have hkn2 : ¬ (k : Int) < 288 := by omega
   have HK := Lib.hid (show k = 288 by omega)
   have H2 := Lib.hid (St.own_nil 3 1 HST.out); clear HST
   go_wp2_with fail
   go_loopw [3, 26] (fun vo vi wr => ∃ j : Nat, j ≤ 30 ∧ vi = .int .i64 j ∧ St w0 wr (own 3 1 vo j (nvs (List.replicate j 5)) * (own 3 1 (.slice ao k co) k (nvs ((List.range k).map fixN)) * F))) (fun _ vi _ => 30 - (intOf vi).toNat)
   case atStart => exact ⟨0, by omega, rfl, H2.out⟩
   case round =>
    clear H2
    obtain ⟨j, hj, rfl, hst⟩ := hrel
    obtain ⟨a1, c1, rfl⟩ := hst.reads.sub
    have HST := Lib.hid hst; clear hst
    by_cases hjn : j < 30
    ·have hjn2 : (j : Int) < 30 := by omega
     have HX := Lib.hid (show nvs (List.replicate j 5) ++ [(5 : Int)].map iv = nvs (List.replicate (j + 1) 5) by
      rw [List.replicate_succ']; simp [nvs]; rfl)
     go_wp2_with (at_builtin; apply stop)
     refine on (wpList_append_sep T rfl _ _ rfl rfl (HST.out.drop_alloc (.cells #[.int .i64 5] 3)) rfl (reads_int1 wr 5) (iv_oneCell [5]) ?_ ?_ ?_)
     ·unfold maxLen; omega
     ·omega
     intro v' w7 h9 _
     rw [HX.out] at h9
     obtain ⟨aN, cN, rfl⟩ := h9.reads.sub
     have H9 := Lib.hid h9; clear h9
     go_wp2_with fail
     exact ⟨⟨j + 1, by omega, by go_num, H9.out⟩, by simp [intOf]; omega⟩
    ·obtain rfl : j = 30 := by omega
     go_wp2_with fail
     go_ret2
     refine ⟨_, _, rfl, ?_⟩
     have h3 := HST.out.perm (star_left_comm _ _ _)
     have e := HK.out
     subst e
     exact h3
end Go.Proofs.YtboflbdniogcdaaGreatDoor
namespace Go.Proofs.YtboflbdniogcdaaGreatDoor
open Go.RowKit Go.Mz
set_option linter.unusedVariables false
set_option linter.unusedSimpArgs false
set_option maxRecDepth 100000
theorem elemBase : ElemT Tryz.prog 263 283 2 16 (.agg #[.int .i64 0, .int .i64 0]) :=
 ⟨Tryz.underlying263, info_parts (by kernel_rfl), rfl, by decide⟩
def baV (b : Nat × Nat) : List Value := [nv b.1, nv b.2]
def bas (l : List (Nat × Nat)) : List Value := l.flatMap baV
theorem bas_snoc (l : List (Nat × Nat)) (b : Nat × Nat) : bas (l ++ [b]) = bas l ++ baV b := by simp [bas]
theorem reads_base (w : World) (p q : Nat) : Reads (w.alloc (.cells #[.int .i64 (p : Int), .int .i64 (q : Int)] 283)) 2 (.slice (some ⟨w.heap.size, 0, none⟩) 1 1) 1 (baV (p, q)) :=
 (St.own_blk (e := 283) (size := 2) (n := 1) (cap := 1) (xs := baV (p, q)) ((St.init w).alloc _) (Nat.le_refl _) (by decide) rfl rfl).reads
theorem base_oneCell (b : Nat × Nat) : ∀ u ∈ baV b, u.oneCell' = true := by
 intro u hu
 simp [baV] at hu
 rcases hu with rfl | rfl <;> rfl
theorem fromL_le : ∀ k, k ≤ 28 → fromL k ≤ 300 := by decide
theorem fromD_le : ∀ k, k ≤ 30 → fromD k ≤ 40000 := by decide
def lensK (k : Nat) : List (Nat × Nat) := (List.range k).map fun k => (fromL k, k / 4 - 1)
def distsK (k : Nat) : List (Nat × Nat) := (List.range k).map fun k => (fromD k, k / 2 - 1)
theorem lensK_succ (k : Nat) : lensK (k + 1) = lensK k ++ [(fromL k, k / 4 - 1)] := by rw [lensK, List.range_succ, List.map_append]; rfl
theorem distsK_succ (k : Nat) : distsK (k + 1) = distsK k ++ [(fromD k, k / 2 - 1)] := by rw [distsK, List.range_succ, List.map_append]; rfl
theorem shl_eq {f x : Nat} (hf : f ≤ 40000) (hx : x ≤ 14) : wrap64 ((f : Int) + wrap64 (2 ^ x)) = ((f + 2 ^ x : Nat) : Int) := by
 have h1 : (2 : Int) ^ x = ((2 ^ x : Nat) : Int) := by simp
 have h2 : 2 ^ x ≤ 2 ^ 14 := Nat.pow_le_pow_right (by decide) hx
 rw [h1]
 generalize 2 ^ x = y at *
 unfold wrap64
 omega
set_option maxHeartbeats 4000000 in
theorem lens_any {w0 w : World} {F : SProp} (h : St w0 w F) : Calls Tryz.prog 187 #[] w fun e w' => ∃ v, e = .returned v ∧ St w0 w' (own 283 2 v 29 (bas lensB) * F) := by
 have T := elemBase
 have H := Lib.hid (St.own_nil 283 2 h); clear h
 go_enter Tryz.func187, Tryz.ntmps187
 go_wp2_with fail
 go_loopw [1, 2, 5] (fun vo vf vi wr => ∃ k : Nat, k ≤ 28 ∧ vi = .int .i64 k ∧ vf = .int .i64 (fromL k : Nat) ∧ St w0 wr (own 283 2 vo k (bas (lensK k)) * F)) (fun _ _ vi _ => 28 - (intOf vi).toNat)
 case atStart => exact ⟨0, by omega, rfl, rfl, H.out⟩
 case round =>
  clear H
  obtain ⟨k, hk, rfl, rfl, hst⟩ := hrel
  obtain ⟨ao, co, rfl⟩ := hst.reads.sub
  have HST := Lib.hid hst; clear hst
  have hf := fromL_le k hk
  by_cases hkn : k < 28
  ·have hkn2 : (k : Int) < 28 := by omega
   have HX := Lib.hid (lensK_succ k)
   have HF := Lib.hid (show fromL (k + 1) = fromL k + 2 ^ (k / 4 - 1) from rfl)
   have hxk : k / 4 - 1 ≤ 6 := by omega
   have hcs : ((k : Int) / 4 = 0 ∧ k / 4 - 1 = 0) ∨ ((k : Int) / 4 = 1 ∧ k / 4 - 1 = 0) ∨ ((k : Int) / 4 = ((k / 4 - 1 : Nat) : Int) + 1 ∧ 0 < k / 4 - 1) := by omega
   generalize k / 4 - 1 = x at *
   rcases hcs with ⟨e0, rfl⟩ | ⟨e0, rfl⟩ | ⟨e0, hx0⟩
   ·skip
    go_wp2_with (at_builtin; apply stop)
    refine on (wpList_append_sep T rfl _ _ rfl rfl (HST.out.drop_alloc (.cells #[.int .i64 (fromL k : Nat), .int .i64 (0 : Nat)] 283)) rfl (reads_base wr (fromL k) 0) (base_oneCell (fromL k, 0)) ?_ ?_ ?_)
    ·unfold maxLen; omega
    ·omega
    intro v' w7 h9 _
    rw [← bas_snoc, ← HX.out] at h9
    obtain ⟨aN, cN, rfl⟩ := h9.reads.sub
    have H9 := Lib.hid h9; clear h9
    go_wp2_with fail
    exact ⟨⟨k + 1, by omega, by go_num, by rw [HF.out]; rfl, H9.out⟩, by simp [intOf]; omega⟩
   ·skip
    go_wp2_with (at_builtin; apply stop)
    refine on (wpList_append_sep T rfl _ _ rfl rfl (HST.out.drop_alloc (.cells #[.int .i64 (fromL k : Nat), .int .i64 (0 : Nat)] 283)) rfl (reads_base wr (fromL k) 0) (base_oneCell (fromL k, 0)) ?_ ?_ ?_)
    ·unfold maxLen; omega
    ·omega
    intro v' w7 h9 _
    rw [← bas_snoc, ← HX.out] at h9
    obtain ⟨aN, cN, rfl⟩ := h9.reads.sub
    have H9 := Lib.hid h9; clear h9
    go_wp2_with fail
    exact ⟨⟨k + 1, by omega, by go_num, by rw [HF.out]; rfl, H9.out⟩, by simp [intOf]; omega⟩
   ·skip
    have hx1 : ¬ (x : Int) < 0 := by omega
    go_wp2_with (at_builtin; apply stop)
    refine on (wpList_append_sep T rfl _ _ rfl rfl (HST.out.drop_alloc (.cells #[.int .i64 (fromL k : Nat), .int .i64 (x : Nat)] 283)) rfl (reads_base wr (fromL k) x) (base_oneCell (fromL k, x)) ?_ ?_ ?_)
    ·unfold maxLen; omega
    ·omega
    intro v' w7 h9 _
    rw [← bas_snoc, ← HX.out] at h9
    obtain ⟨aN, cN, rfl⟩ := h9.reads.sub
    have H9 := Lib.hid h9; clear h9
    go_wp2_with fail
    exact ⟨⟨k + 1, by omega, by go_num, by rw [HF.out]; exact int_eq (shl_eq (by omega) (by omega)), H9.out⟩, by simp [intOf]; omega⟩
  ·obtain rfl : k = 28 := by omega
   have HX := Lib.hid (show bas (lensK 28) ++ baV (258, 0) = bas lensB by rw [← bas_snoc]; rfl)
   go_wp2_with (at_builtin; apply stop)
   refine on (wpList_append_sep T rfl _ _ rfl rfl (HST.out.drop_alloc (.cells #[.int .i64 (258 : Nat), .int .i64 (0 : Nat)] 283)) rfl (reads_base wr 258 0) (base_oneCell (258, 0)) ?_ ?_ ?_)
   ·unfold maxLen; omega
   ·omega
   intro v' w7 h9 _
   rw [HX.out] at h9
   obtain ⟨aN, cN, rfl⟩ := h9.reads.sub
   have H9 := Lib.hid h9; clear h9
   go_wp2_with fail
   go_ret
   exact ⟨_, rfl, H9.out⟩
set_option maxHeartbeats 4000000 in
theorem dists_any {w0 w : World} {F : SProp} (h : St w0 w F) : Calls Tryz.prog 188 #[] w fun e w' => ∃ v, e = .returned v ∧ St w0 w' (own 283 2 v 30 (bas distsB) * F) := by
 have T := elemBase
 have H := Lib.hid (St.own_nil 283 2 h); clear h
 go_enter Tryz.func188, Tryz.ntmps188
 go_wp2_with fail
 go_loopw [1, 2, 5] (fun vo vf vi wr => ∃ k : Nat, k ≤ 30 ∧ vi = .int .i64 k ∧ vf = .int .i64 (fromD k : Nat) ∧ St w0 wr (own 283 2 vo k (bas (distsK k)) * F)) (fun _ _ vi _ => 30 - (intOf vi).toNat)
 case atStart => exact ⟨0, by omega, rfl, rfl, H.out⟩
 case round =>
  clear H
  obtain ⟨k, hk, rfl, rfl, hst⟩ := hrel
  obtain ⟨ao, co, rfl⟩ := hst.reads.sub
  have HST := Lib.hid hst; clear hst
  have hf := fromD_le k hk
  by_cases hkn : k < 30
  ·have hkn2 : (k : Int) < 30 := by omega
   have HX := Lib.hid (distsK_succ k)
   have HF := Lib.hid (show fromD (k + 1) = fromD k + 2 ^ (k / 2 - 1) from rfl)
   have hxk : k / 2 - 1 ≤ 14 := by omega
   have hcs : ((k : Int) / 2 = 0 ∧ k / 2 - 1 = 0) ∨ ((k : Int) / 2 = 1 ∧ k / 2 - 1 = 0) ∨ ((k : Int) / 2 = ((k / 2 - 1 : Nat) : Int) + 1 ∧ 0 < k / 2 - 1) := by omega
   generalize k / 2 - 1 = x at *
   rcases hcs with ⟨e0, rfl⟩ | ⟨e0, rfl⟩ | ⟨e0, hx0⟩
   ·skip
    go_wp2_with (at_builtin; apply stop)
    refine on (wpList_append_sep T rfl _ _ rfl rfl (HST.out.drop_alloc (.cells #[.int .i64 (fromD k : Nat), .int .i64 (0 : Nat)] 283)) rfl (reads_base wr (fromD k) 0) (base_oneCell (fromD k, 0)) ?_ ?_ ?_)
    ·unfold maxLen; omega
    ·omega
    intro v' w7 h9 _
    rw [← bas_snoc, ← HX.out] at h9
    obtain ⟨aN, cN, rfl⟩ := h9.reads.sub
    have H9 := Lib.hid h9; clear h9
    go_wp2_with fail
    exact ⟨⟨k + 1, by omega, by go_num, by rw [HF.out]; rfl, H9.out⟩, by simp [intOf]; omega⟩
   ·skip
    go_wp2_with (at_builtin; apply stop)
    refine on (wpList_append_sep T rfl _ _ rfl rfl (HST.out.drop_alloc (.cells #[.int .i64 (fromD k : Nat), .int .i64 (0 : Nat)] 283)) rfl (reads_base wr (fromD k) 0) (base_oneCell (fromD k, 0)) ?_ ?_ ?_)
    ·unfold maxLen; omega
    ·omega
    intro v' w7 h9 _
    rw [← bas_snoc, ← HX.out] at h9
    obtain ⟨aN, cN, rfl⟩ := h9.reads.sub
    have H9 := Lib.hid h9; clear h9
    go_wp2_with fail
    exact ⟨⟨k + 1, by omega, by go_num, by rw [HF.out]; rfl, H9.out⟩, by simp [intOf]; omega⟩
   ·skip
    have hx1 : ¬ (x : Int) < 0 := by omega
    go_wp2_with (at_builtin; apply stop)
    refine on (wpList_append_sep T rfl _ _ rfl rfl (HST.out.drop_alloc (.cells #[.int .i64 (fromD k : Nat), .int .i64 (x : Nat)] 283)) rfl (reads_base wr (fromD k) x) (base_oneCell (fromD k, x)) ?_ ?_ ?_)
    ·unfold maxLen; omega
    ·omega
    intro v' w7 h9 _
    rw [← bas_snoc, ← HX.out] at h9
    obtain ⟨aN, cN, rfl⟩ := h9.reads.sub
    have H9 := Lib.hid h9; clear h9
    go_wp2_with fail
    exact ⟨⟨k + 1, by omega, by go_num, by rw [HF.out]; exact int_eq (shl_eq (by omega) (by omega)), H9.out⟩, by simp [intOf]; omega⟩
  ·obtain rfl : k = 30 := by omega
   have HX := Lib.hid (show bas (distsK 30) = bas distsB from rfl)
   have h9 := HST.out
   rw [HX.out] at h9
   have H9 := Lib.hid h9; clear h9
   go_wp2_with fail
   go_ret
   exact ⟨_, rfl, H9.out⟩
end Go.Proofs.YtboflbdniogcdaaGreatDoor
namespace Go.Proofs.YtboflbdniogcdaaGreatDoor
open Go.RowKit Go.Mz
set_option linter.unusedVariables false
set_option linter.unusedSimpArgs false
set_option maxRecDepth 100000
theorem bas_at {l : List (Nat × Nat)} {i : Nat} {b : Nat × Nat} (h : l[i]? = some b) : (bas l)[i * 2]? = some (nv b.1) ∧ (bas l)[i * 2 + 1]? = some (nv b.2) :=
 ⟨flat_get baV 2 (fun _ => rfl) l i b h 0 (by omega), flat_get baV 2 (fun _ => rfl) l i b h 1 (by omega)⟩
end Go.Proofs.YtboflbdniogcdaaGreatDoor
namespace Go.Proofs.YtboflbdniogcdaaGreatDoor
open Go.RowKit Go.Mz
set_option linter.unusedVariables false
set_option linter.unusedSimpArgs false
set_option maxRecDepth 100000
theorem copyF_len (d n : Nat) (out : List UInt8) : (copyF d n out).length = out.length + n := by
 induction n generalizing out with
 | zero => rfl
 | succ n ih => rw [copyF, ih]; simp; omega
theorem distsB_ok : ∀ b ∈ distsB, b.1 ≤ 100000 ∧ b.2 ≤ 13 := by decide
theorem lensB_ok : ∀ b ∈ lensB, b.1 ≤ 100000 ∧ b.2 ≤ 13 := by decide
end Go.Proofs.YtboflbdniogcdaaGreatDoor
namespace Go.Proofs.YtboflbdniogcdaaGreatDoor
open Go.RowKit Go.Mz
set_option linter.unusedVariables false
set_option linter.unusedSimpArgs false
set_option maxRecDepth 100000
theorem xor16 (m : Nat) (h : m < 65536) : m ^^^ 65535 = 65535 - m := by
 have h2 : (BitVec.ofNat 16 m) ^^^ (BitVec.allOnes 16) = ~~~ (BitVec.ofNat 16 m) := BitVec.xor_allOnes
 have h1 := congrArg BitVec.toNat h2
 rw [BitVec.toNat_xor, BitVec.toNat_not, BitVec.toNat_ofNat, BitVec.toNat_allOnes, Nat.mod_eq_of_lt (by omega)] at h1
 exact h1
theorem xor_u32 {m : Nat} (h : m < 65536) : bits .xor .u32 (m : Int) 65535 = ((65535 - m : Nat) : Int) := by
 have := u32_xor_nat m 65535 (by omega) (by decide)
 rw [xor16 m h] at this; exact this
end Go.Proofs.YtboflbdniogcdaaGreatDoor
namespace Go.Proofs.YtboflbdniogcdaaGreatDoor
open Go.RowKit Go.Mz
set_option linter.unusedVariables false
set_option linter.unusedSimpArgs false
set_option maxRecDepth 100000
theorem Reads.take {w : World} {g n cap : Nat} {xs : List Value} (h : Reads w 1 (.slice (some ⟨g, 0, none⟩) n cap) n xs) {k : Nat} (hk : k ≤ n) : Reads w 1 (.slice (some ⟨g, 0, none⟩) k cap) k (xs.take k) := by
 obtain ⟨hl, ⟨h0, _⟩ | ⟨x, c, h1, h2, h3, h4⟩⟩ := h
 ·cases h0
 ·cases h1
  refine ⟨by rw [List.length_take, hl]; omega, .inr ⟨_, _, rfl, by omega, h3, fun j u hu => h4 j u ?_⟩⟩
  rw [List.getElem?_take] at hu
  split at hu
  ·exact hu
  ·cases hu
theorem Reads.drop {w : World} {g n cap : Nat} {xs : List Value} (h : Reads w 1 (.slice (some ⟨g, 0, none⟩) n cap) n xs) {k : Nat} (hk : k ≤ n) : Reads w 1 (.slice (some ⟨g, k, none⟩) (n - k) (cap - k)) (n - k) (xs.drop k) := by
 obtain ⟨hl, ⟨h0, _⟩ | ⟨x, c, h1, h2, h3, h4⟩⟩ := h
 ·cases h0
 ·cases h1
  refine ⟨by rw [List.length_drop, hl]; omega, .inr ⟨_, _, rfl, by omega, by omega, fun j u hu => ?_⟩⟩
  rw [List.getElem?_drop] at hu
  have := h4 (k + j) u hu
  rw [Addr.add_lit, Nat.zero_add] at this
  rw [Addr.add_lit]
  exact this
end Go.Proofs.YtboflbdniogcdaaGreatDoor
namespace Go.Proofs.YtboflbdniogcdaaGreatDoor
open Go.RowKit Go.Mz
set_option linter.unusedVariables false
set_option linter.unusedSimpArgs false
set_option maxRecDepth 100000
def inflI (bs : List UInt8) (most : Int) : Nat ⊕ (List UInt8 × Nat) :=
 if most < 0 then .inl 1
 else match inflF (bitsL true bs) most.toNat (8 * bs.length + 1) 0 [] with
  | .inl e => .inl e
  | .inr (q, o) => .inr (o, (q + 7) / 8)
theorem fixA_len : fixA.length = 288 := by simp [fixA]
theorem fixB_len : fixB.length = 30 := by simp [fixB]
end Go.Proofs.YtboflbdniogcdaaGreatDoor
namespace Go.Proofs.YtboflbdniogcdaaGreatDoor
open Go.RowKit Go.Mz
set_option linter.unusedVariables false
set_option linter.unusedSimpArgs false
structure TokD where
 lit : UInt8
 len : Int
 dist : Int
 deriving Inhabited
def plI (L : List (Nat × Nat)) (n : Nat) : Nat → Nat
 | 0 => 0
 | i + 1 => if (L.getD (i + 1) (0, 0)).1 ≤ n then i + 1 else plI L n i
def plF (far : Bool) (n : Nat) : Nat := plI (cond far distsB lensB) n ((cond far distsB lensB).length - 1)
def frF (far : Bool) (n : Nat) : Nat × Nat := (cond far distsB lensB).getD (plF far n) (0, 0)
def moreF (far : Bool) (n : Nat) : List Nat := (wordB (n - (frF far n).1) (frF far n).2).reverse
def tokB (A B : List (List Nat)) (k : TokD) : List Nat :=
 if k.len = 0 then A.getD k.lit.toNat [] else A.getD (257 + plF false k.len.toNat) [] ++ (moreF false k.len.toNat ++ (B.getD (plF true k.dist.toNat) [] ++ moreF true k.dist.toNat))
def toldB (A B : List (List Nat)) (l : List TokD) : List Nat := l.flatMap (tokB A B) ++ A.getD 256 []
theorem plI_le (L : List (Nat × Nat)) (n : Nat) : ∀ i, plI L n i ≤ i := by
 intro i
 induction i with
 | zero => exact Nat.le_refl _
 | succ i ih =>
  rw [plI]
  split
  ·exact Nat.le_refl _
  ·omega
theorem plI_low (L : List (Nat × Nat)) (n : Nat) (h0 : (L.getD 0 (0, 0)).1 ≤ n) : ∀ i, (L.getD (plI L n i) (0, 0)).1 ≤ n := by
 intro i
 induction i with
 | zero => exact h0
 | succ i ih =>
  rw [plI]
  split
  ·assumption
  ·exact ih
theorem plI_up (L : List (Nat × Nat)) (n : Nat) : ∀ i, plI L n i < i → n < (L.getD (plI L n i + 1) (0, 0)).1 := by
 intro i
 induction i with
 | zero => intro h; exact absurd h (Nat.not_lt_zero _)
 | succ i ih =>
  intro h
  rw [plI] at h ⊢
  split at h
  ·omega
  ·rename_i hn
   rw [if_neg hn]
   by_cases he : plI L n i = i
   ·rw [he]; omega
   ·exact ih (by have := plI_le L n i; omega)
theorem lensB_gap : ∀ i, i < 28 → (lensB.getD (i + 1) (0, 0)).1 ≤ (lensB.getD i (0, 0)).1 + 2 ^ (lensB.getD i (0, 0)).2 := by decide
theorem distsB_gap : ∀ i, i < 29 → (distsB.getD (i + 1) (0, 0)).1 ≤ (distsB.getD i (0, 0)).1 + 2 ^ (distsB.getD i (0, 0)).2 := by decide
theorem plF_lens {n : Nat} (h3 : 3 ≤ n) (h258 : n ≤ 258) : plF false n ≤ 28 ∧ (frF false n).1 ≤ n ∧ n - (frF false n).1 < 2 ^ (frF false n).2 := by
 have h1 : plF false n ≤ 28 := plI_le lensB n 28
 have h2 : (frF false n).1 ≤ n := plI_low lensB n h3 28
 refine ⟨h1, h2, ?_⟩
 by_cases he : plF false n = 28
 ·have e : frF false n = (258, 0) := by rw [frF, he]; rfl
  rw [e]; simp; omega
 ·have h4 : n < (lensB.getD (plF false n + 1) (0, 0)).1 := plI_up lensB n 28 (by have : plI lensB n 28 ≠ 28 := he; have := plI_le lensB n 28; omega)
  have h5 := lensB_gap (plF false n) (by omega)
  have e : frF false n = lensB.getD (plF false n) (0, 0) := rfl
  rw [e] at h2 ⊢
  omega
theorem plF_dists {n : Nat} (h1 : 1 ≤ n) (h9 : n ≤ 32768) : plF true n ≤ 29 ∧ (frF true n).1 ≤ n ∧ n - (frF true n).1 < 2 ^ (frF true n).2 := by
 have h2 : plF true n ≤ 29 := plI_le distsB n 29
 have h3 : (frF true n).1 ≤ n := plI_low distsB n h1 29
 refine ⟨h2, h3, ?_⟩
 by_cases he : plF true n = 29
 ·have e : frF true n = (24577, 13) := by rw [frF, he]; rfl
  rw [e]; simp; omega
 ·have h4 : n < (distsB.getD (plF true n + 1) (0, 0)).1 := plI_up distsB n 29 (by have : plI distsB n 29 ≠ 29 := he; have := plI_le distsB n 29; omega)
  have h5 := distsB_gap (plF true n) (by omega)
  have e : frF true n = distsB.getD (plF true n) (0, 0) := rfl
  rw [e] at h3 ⊢
  omega
theorem frF_get {far : Bool} {n : Nat} (h : plF far n < (cond far distsB lensB).length) : (cond far distsB lensB)[plF far n]? = some ((frF far n).1, (frF far n).2) := by
 rw [frF, List.getD_eq_getElem?_getD, List.getElem?_eq_getElem h]; rfl
theorem length_moreF (far : Bool) (n : Nat) : (moreF far n).length = (frF far n).2 := by simp [moreF]
theorem drop_getD {t u : List Nat} {p : Nat} (h : t.drop p = u) (i : Nat) : t.getD (p + i) 0 = u.getD i 0 := by
 rw [← h, List.getD_eq_getElem?_getD, List.getD_eq_getElem?_getD, List.getElem?_drop]
theorem drop_len {t u : List Nat} {p : Nat} (h : t.drop p = u) (hu : u ≠ [] ∨ p ≤ t.length) : t.length = p + u.length := by
 have := congrArg List.length h
 rw [List.length_drop] at this
 rcases hu with hu | hu
 ·have : u.length ≠ 0 := fun h0 => hu (List.eq_nil_of_length_eq_zero h0)
  omega
 ·omega
theorem vl_word {t r : List Nat} {p v n : Nat} (h : t.drop p = (wordB v n).reverse ++ r) (hv : v < 2 ^ n) : vl t p n = v := by
 refine numV_wrN true v n hv _ fun i hi => ?_
 rw [drop_getD h, List.getD_eq_getElem?_getD, List.getElem?_append_left (by simp; exact hi)]
 rw [List.getD_eq_getElem?_getD]; rfl
theorem number_hit {t r : List Nat} {p i f e v : Nat} {L : List (Nat × Nat)} (hi : L[i]? = some (f, e)) (hp : p ≤ t.length) (h : t.drop p = (wordB v e).reverse ++ r) (hv : v < 2 ^ e) : numberF t L i p = .inr (p + e, f + v) := by
 have hl := drop_len h (.inr hp)
 rw [numberF, hi]
 simp only
 rw [if_neg (by rw [hl]; simp), vl_word h hv]
theorem number_cut {t r : List Nat} {p i f e : Nat} {L : List (Nat × Nat)} (hi : L[i]? = some (f, e)) (hp : p ≤ t.length) (h : t.drop p = r) (hr : r.length < e) : numberF t L i p = .inl 2 := by
 have hl := drop_len h (.inr hp)
 rw [numberF, hi]
 simp only
 rw [if_pos (by omega)]
theorem rdW_cut {W : List (List Nat)} (pf : PF W) {i : Nat} {w : List Nat} (hi : W[i]? = some w) :
  ∀ (r s q : List Nat), s ++ (r ++ q) = w → q ≠ [] → rdW W s r = (s.length + r.length, .inr 2) := by
 intro r
 induction r with
 | nil => intro s q _ _; rw [rdW]; rfl
 | cons c r ih =>
  intro s q hs hq
  have hs' : (s ++ [c]) ++ (r ++ q) = w := by rw [← hs]; simp
  have hno : ∀ j : Nat, W[j]? ≠ some (s ++ [c]) := fun j hj => by
   have hpre : (s ++ [c]) <+: w := ⟨r ++ q, hs'⟩
   by_cases hji : j = i
   ·subst hji
    rw [hi] at hj
    have e : w = s ++ [c] := Option.some.inj hj
    rw [← hs'] at e
    have := congrArg List.length e
    have hq2 : q.length ≠ 0 := fun h0 => hq (List.eq_nil_of_length_eq_zero h0)
    simp at this
    exact hq this.2
   ·exact pf j i _ _ hji hj hi snoc_ne hpre
  have e2 : W.any (fun w => (s ++ [c]).isPrefixOf w) = true := List.any_eq_true.2 ⟨w, List.mem_of_getElem? hi, List.isPrefixOf_iff_prefix.2 ⟨r ++ q, hs'⟩⟩
  rw [rdW, find_none hno, e2]
  simp only [if_true]
  rw [ih (s ++ [c]) q hs' hq]
  simp; omega
structure GoodW (A B : List (List Nat)) : Prop where
 pa : PF A
 pb : PF B
 la : ∀ i, i < 288 → ∃ w, A[i]? = some w ∧ w ≠ []
 lb : ∀ i, i < 30 → ∃ w, B[i]? = some w ∧ w ≠ []
theorem getD_some {W : List (List Nat)} {i : Nat} {w : List Nat} (h : W[i]? = some w) : W.getD i [] = w := by
 rw [List.getD_eq_getElem?_getD, h]; rfl
theorem rdW_at {W : List (List Nat)} (pf : PF W) {i : Nat} {w r : List Nat} (hi : W[i]? = some w) (hw : w ≠ []) : rdW W [] (w ++ r) = (w.length, .inl i) := rdW_hit pf hi w [] r rfl hw
theorem drop_more {t a b : List Nat} {p : Nat} (h : t.drop p = a ++ b) : t.drop (p + a.length) = b := by
 rw [← List.drop_drop, h, List.drop_left]
def okT (k : TokD) (out : List UInt8) : Prop := k.len = 0 ∨ (3 ≤ k.len ∧ k.len ≤ 258 ∧ 1 ≤ k.dist ∧ k.dist ≤ out.length ∧ k.dist ≤ 32768)
def putT (k : TokD) (out : List UInt8) : List UInt8 := if k.len = 0 then out ++ [k.lit] else copyF k.dist.toNat k.len.toNat out
theorem litNat (c : UInt8) : UInt8.ofNat c.toNat = c := UInt8.ofNat_toNat
theorem pre_split {a b u : List Nat} (h : u <+: a ++ b) : (∃ q, q ≠ [] ∧ u ++ q = a) ∨ ∃ v, u = a ++ v ∧ v <+: b := by
 obtain ⟨z, hz⟩ := h
 rcases List.append_eq_append_iff.1 hz with ⟨c, hc, hd⟩ | ⟨c, hc, hd⟩
 ·by_cases h0 : c = []
  ·subst h0
   rw [List.append_nil] at hc
   exact .inr ⟨[], by rw [List.append_nil]; exact hc.symm, List.nil_prefix⟩
  ·exact .inl ⟨c, h0, hc.symm⟩
 ·exact .inr ⟨c, hc, ⟨z, hd.symm⟩⟩
theorem told_cons (A B : List (List Nat)) (k : TokD) (l : List TokD) : toldB A B (k :: l) = tokB A B k ++ toldB A B l := by
 rw [toldB, toldB, List.flatMap_cons, List.append_assoc]
end Go.Proofs.YtboflbdniogcdaaGreatDoor
namespace Go.Proofs.YtboflbdniogcdaaGreatDoor
open Go.RowKit Go.Mz
set_option linter.unusedVariables false
set_option linter.unusedSimpArgs false
def FA : List (List Nat) := wordsC fixA
def FB : List (List Nat) := wordsC fixB
theorem okA : OkC fixA := by decide +kernel
theorem okB : OkC fixB := by decide +kernel
theorem nats_fixA : natsOf (fixA.map fun (n : Nat) => (n : Int)) = fixA := by decide +kernel
theorem nats_fixB : natsOf (fixB.map fun (n : Nat) => (n : Int)) = fixB := by decide +kernel
theorem full_fixA : fullC fixA = true := by decide +kernel
theorem fixA_30 : ∀ n ∈ fixA, n ≤ 30 := by decide +kernel
theorem fixB_30 : ∀ n ∈ fixB, n ≤ 30 := by decide +kernel
theorem fixA_pos : ∀ n ∈ fixA, 0 < n := by decide +kernel
theorem fixB_pos : ∀ n ∈ fixB, 0 < n := by decide +kernel
theorem canon_fixA : canonI (fixA.map fun (n : Nat) => (n : Int)) = (FA, true, 0) := by
 rw [canonI, nats_fixA, if_neg, if_pos okA, full_fixA]; rfl
 rintro ⟨x, hx, h⟩
 obtain ⟨n, hn, rfl⟩ := List.mem_map.1 hx
 have := fixA_30 n hn
 omega
theorem canon_fixB : ∃ b, canonI (fixB.map fun (n : Nat) => (n : Int)) = (FB, b, 0) := by
 rw [canonI, nats_fixB, if_neg, if_pos okB]; exact ⟨_, rfl⟩
 rintro ⟨x, hx, h⟩
 obtain ⟨n, hn, rfl⟩ := List.mem_map.1 hx
 have := fixB_30 n hn
 omega
theorem words_FA (how : Nat) : wordsF fixA how = .inr FA := by
 rw [wordsF, canon_fixA, if_neg (by simp), if_neg (by simp)]
theorem words_FB : wordsF fixB 2 = .inr FB := by
 obtain ⟨b, hb⟩ := canon_fixB
 rw [wordsF, hb, if_neg (by simp), if_neg (by simp)]
theorem goodF : GoodW FA FB := by
 refine ⟨pf_wordsC okA fixA_30, pf_wordsC okB fixB_30, fun i hi => ?_, fun i hi => ?_⟩
 ·have hl : i < fixA.length := by rw [fixA_len]; exact hi
  refine ⟨_, wordsC_at hl, fun h0 => ?_⟩
  have := congrArg List.length h0
  rw [length_wordC, List.getD_eq_getElem?_getD, List.getElem?_eq_getElem hl] at this
  have h2 := fixA_pos _ (List.getElem_mem hl)
  simp at this; omega
 ·have hl : i < fixB.length := by rw [fixB_len]; exact hi
  refine ⟨_, wordsC_at hl, fun h0 => ?_⟩
  have := congrArg List.length h0
  rw [length_wordC, List.getD_eq_getElem?_getD, List.getElem?_eq_getElem hl] at this
  have h2 := fixB_pos _ (List.getElem_mem hl)
  simp at this; omega
theorem bit_FA : ∀ v ∈ FA, Bit v := bit_wordsC fixA
theorem bit_FB : ∀ v ∈ FB, Bit v := bit_wordsC fixB
theorem bitsL_cons (c : UInt8) (r : List UInt8) : bitsL true (c :: r) = (wordB c.toNat 8).reverse ++ bitsL true r := by simp [bitsL, bits8]
theorem vl_8 {t r : List Nat} {p : Nat} (c : UInt8) (h : t.drop p = (wordB c.toNat 8).reverse ++ r) : vl t p 8 = c.toNat := vl_word h (UInt8.toNat_lt c)
theorem bytes_told {t r : List Nat} {most : Nat} : ∀ (x : List UInt8) (p : Nat) (out : List UInt8), p ≤ t.length → t.drop p = bitsL true x ++ r → out.length ≤ most →
  bytesF t most x.length p out = if most < out.length + x.length then .inl 8 else .inr (p + 8 * x.length, out ++ x) := by
 intro x
 induction x with
 | nil => intro p out hp h ho; rw [List.length_nil, bytesF, if_neg (by omega)]; simp
 | cons c x ih =>
  intro p out hp h ho
  rw [bitsL_cons, List.append_assoc] at h
  have hl := drop_len h (.inr hp)
  rw [List.length_append, show (wordB c.toNat 8).reverse.length = 8 by simp] at hl
  rw [List.length_cons, bytesF, if_neg (by omega)]
  by_cases hm : most ≤ out.length
  ·rw [if_pos hm, if_pos (by omega)]
  ·rw [if_neg hm, vl_8 c h, litNat]
   have h2 := drop_more h
   rw [show (wordB c.toNat 8).reverse.length = 8 by simp] at h2
   rw [ih (p + 8) (out ++ [c]) (by omega) h2 (by simp; omega), List.length_append, List.length_singleton, List.append_assoc, show p + 8 + 8 * x.length = p + 8 * (x.length + 1) by omega, show out.length + 1 + x.length = out.length + (x.length + 1) by omega]
   rfl
theorem bit_tokB {k : TokD} : Bit (tokB FA FB k) := by
 have hA : ∀ i, Bit (FA.getD i []) := fun i => by
  rw [List.getD_eq_getElem?_getD]
  cases e : FA[i]? with
  | none => intro b hb; simp at hb
  | some w => exact bit_FA w (List.mem_of_getElem? e)
 have hB : ∀ i, Bit (FB.getD i []) := fun i => by
  rw [List.getD_eq_getElem?_getD]
  cases e : FB[i]? with
  | none => intro b hb; simp at hb
  | some w => exact bit_FB w (List.mem_of_getElem? e)
 unfold tokB
 split
 ·exact hA _
 ·exact (hA _).append ((bit_wordB _ _).reverse.append ((hB _).append (bit_wordB _ _).reverse))
theorem bit_toldB (l : List TokD) : Bit (toldB FA FB l) := by
 induction l with
 | nil =>
  rw [toldB]
  obtain ⟨w, hw, _⟩ := goodF.la 256 (by omega)
  rw [getD_some hw]
  exact bit_FA w (List.mem_of_getElem? hw)
 | cons k l ih => rw [told_cons]; exact bit_tokB.append ih
theorem bitsL_takeB (bs : List UInt8) (m : Nat) : bitsL true (bs.take m) = (bitsL true bs).take (8 * m) := by
 conv => rhs; rw [← List.take_append_drop m bs, bitsL_append]
 by_cases h : m ≤ bs.length
 ·rw [List.take_left' (by rw [length_bitsL, List.length_take, Nat.min_eq_left h])]
 ·rw [List.drop_eq_nil_of_le (by omega), List.take_of_length_le (l := bs) (by omega)]
  rw [show bitsL true [] = [] from rfl, List.append_nil, List.take_of_length_le (by rw [length_bitsL]; omega)]
end Go.Proofs.YtboflbdniogcdaaGreatDoor
namespace Go.Proofs.YtboflbdniogcdaaGreatDoor
open Go.RowKit Go.Mz
set_option linter.unusedVariables false
set_option linter.unusedSimpArgs false
theorem copyF_same (b : List UInt8) : ∀ (n i d : Nat), 1 ≤ d → d ≤ i → i + n ≤ b.length → (∀ t, t < n → b[i + t]? = b[i + t - d]?) → copyF d n (b.take i) = b.take (i + n) := by
 intro n
 induction n with
 | zero => intro i d _ _ _ _; rfl
 | succ n ih =>
  intro i d h1 h2 h3 h
  have hl : (b.take i).length = i := by rw [List.length_take]; omega
  have hi : i < b.length := by omega
  have h0 := h 0 (by omega)
  rw [Nat.add_zero, List.getElem?_eq_getElem hi] at h0
  have e : (b.take i).getD (i - d) 0 = b[i] := by
   rw [List.getD_eq_getElem?_getD, List.getElem?_take, if_pos (by omega), ← h0]; rfl
  rw [copyF, hl, e, ← List.take_succ_eq_append_getElem hi, ih (i + 1) d h1 (by omega) (by omega) (fun t ht => by
   have := h (t + 1) (by omega)
   rw [show i + 1 + t = i + (t + 1) by omega]; exact this)]
  congr 1; omega
end Go.Proofs.YtboflbdniogcdaaGreatDoor
namespace Go.Proofs.YtboflbdniogcdaaGreatDoor
open Go.RowKit Go.Mz
set_option linter.unusedVariables false
set_option linter.unusedSimpArgs false
def usedW (A B : List (List Nat)) (k : TokD) : Prop :=
 if k.len = 0 then ∃ w, A[k.lit.toNat]? = some w ∧ w ≠ [] else (∃ w, A[257 + plF false k.len.toNat]? = some w ∧ w ≠ []) ∧ ∃ w, B[plF true k.dist.toNat]? = some w ∧ w ≠ []
structure GoodU (A B : List (List Nat)) : Prop where
 pa : PF A
 pb : PF B
 eob : ∃ w, A[256]? = some w ∧ w ≠ []
theorem blockU_tok {t r : List Nat} {A B : List (List Nat)} (G : GoodU A B) {k : TokD} (hus : usedW A B k) {out : List UInt8} (hk : okT k out) {p most : Nat} (hp : p ≤ t.length) (h : t.drop p = tokB A B k ++ r) :
  blockS t A B most p out = if most < (putT k out).length then .inl 8 else .inr (p + (tokB A B k).length, putT k out, false) := by
 unfold tokB at h ⊢
 unfold putT
 rw [blockS]
 unfold usedW at hus
 by_cases h0 : k.len = 0
 ·rw [if_pos h0] at h ⊢
  rw [if_pos h0]
  have hlt := UInt8.toNat_lt k.lit
  have hlt : k.lit.toNat < 256 := hlt
  rw [if_pos h0] at hus
  obtain ⟨w, hw, hne⟩ := hus
  rw [getD_some hw] at h ⊢
  rw [h, rdW_at G.pa hw hne]
  simp only
  rw [if_neg (by omega), if_pos hlt, litNat]
  by_cases hm : most ≤ out.length
  ·rw [if_pos hm, if_pos (by simp; omega)]
  ·rw [if_neg hm, if_neg (by simp; omega)]
 ·obtain ⟨h1, h2, h3, h4, h5⟩ := hk.resolve_left h0
  rw [if_neg h0] at h ⊢
  rw [if_neg h0]
  obtain ⟨n, hn⟩ : ∃ n : Nat, k.len = n := ⟨k.len.toNat, by omega⟩
  obtain ⟨d, hd⟩ : ∃ d : Nat, k.dist = d := ⟨k.dist.toNat, by omega⟩
  rw [hn] at h h1 h2 ⊢
  rw [hd] at h h3 h4 h5 ⊢
  simp only [Int.toNat_natCast] at h ⊢
  obtain ⟨p1, p2, p3⟩ := plF_lens (n := n) (by omega) (by omega)
  obtain ⟨q1, q2, q3⟩ := plF_dists (n := d) (by omega) (by omega)
  rw [if_neg h0, hn, hd] at hus
  simp only [Int.toNat_natCast] at hus
  obtain ⟨⟨w, hw, hne⟩, u, hu, hne'⟩ := hus
  rw [getD_some hw, getD_some hu] at h ⊢
  rw [List.append_assoc, List.append_assoc, List.append_assoc] at h
  rw [h, rdW_at G.pa hw hne]
  simp only
  rw [if_neg (by omega), if_neg (by omega), show 257 + plF false n - 257 = plF false n by omega]
  have e1 := drop_more h
  have l1 : p + w.length ≤ t.length := by have := drop_len h (.inr hp); rw [List.length_append] at this; omega
  have g1 : lensB[plF false n]? = some ((frF false n).1, (frF false n).2) := frF_get (far := false) (by show _ < 29; omega)
  rw [number_hit g1 l1 e1 p3]
  simp only
  have e2 := drop_more e1
  rw [length_moreF] at e2
  have l2 : p + w.length + (frF false n).2 ≤ t.length := by have := drop_len e1 (.inr l1); rw [List.length_append, length_moreF] at this; omega
  have e3 := drop_more e2
  have l3 : p + w.length + (frF false n).2 + u.length ≤ t.length := by have := drop_len e2 (.inr l2); rw [List.length_append] at this; omega
  have g2 : distsB[plF true d]? = some ((frF true d).1, (frF true d).2) := frF_get (far := true) (by show _ < 30; omega)
  rw [copyR, e2, rdW_at G.pb hu hne']
  simp only
  rw [number_hit g2 l3 e3 q3]
  simp only
  rw [show (frF true d).1 + (d - (frF true d).1) = d by omega, show (frF false n).1 + (n - (frF false n).1) = n by omega, if_neg (by omega), copyF_len]
  by_cases hm : most < out.length + n
  ·rw [if_pos hm, if_pos hm]
  ·rw [if_neg hm, if_neg hm]
   simp only [List.length_append, length_moreF]
   congr 2
   omega
theorem tokU_cut {t u : List Nat} {A B : List (List Nat)} (G : GoodU A B) {k : TokD} (hus : usedW A B k) {out : List UInt8} (hk : okT k out) {p most : Nat} (hp : p ≤ t.length) (h : t.drop p = u) (hu : ∃ q, q ≠ [] ∧ u ++ q = tokB A B k) :
  blockS t A B most p out = .inl 2 := by
 obtain ⟨q, hq, hu⟩ := hu
 unfold tokB at hu
 rw [blockS, h]
 unfold usedW at hus
 by_cases h0 : k.len = 0
 ·rw [if_pos h0] at hu
  have hlt : k.lit.toNat < 256 := UInt8.toNat_lt k.lit
  rw [if_pos h0] at hus
  obtain ⟨w, hw, hne⟩ := hus
  rw [getD_some hw] at hu
  rw [rdW_cut G.pa hw u [] q (by rw [List.nil_append]; exact hu) hq]
 ·obtain ⟨h1, h2, h3, h4, h5⟩ := hk.resolve_left h0
  rw [if_neg h0] at hu
  obtain ⟨n, hn⟩ : ∃ n : Nat, k.len = n := ⟨k.len.toNat, by omega⟩
  obtain ⟨d, hd⟩ : ∃ d : Nat, k.dist = d := ⟨k.dist.toNat, by omega⟩
  rw [hn] at hu h1 h2
  rw [hd] at hu h3 h4 h5
  simp only [Int.toNat_natCast] at hu
  obtain ⟨p1, p2, p3⟩ := plF_lens (n := n) (by omega) (by omega)
  obtain ⟨q1, q2, q3⟩ := plF_dists (n := d) (by omega) (by omega)
  rw [if_neg h0, hn, hd] at hus
  simp only [Int.toNat_natCast] at hus
  obtain ⟨⟨w, hw, hne⟩, v, hv, hne'⟩ := hus
  rw [getD_some hw, getD_some hv] at hu
  have g1 : lensB[plF false n]? = some ((frF false n).1, (frF false n).2) := frF_get (far := false) (by show _ < 29; omega)
  have g2 : distsB[plF true d]? = some ((frF true d).1, (frF true d).2) := frF_get (far := true) (by show _ < 30; omega)
  rcases pre_split ⟨q, hu⟩ with ⟨q', hq', hu'⟩ | ⟨u1, rfl, hu1⟩
  ·rw [rdW_cut G.pa hw u [] q' (by rw [List.nil_append]; exact hu') hq']
  rw [rdW_at G.pa hw hne]
  simp only
  rw [if_neg (by omega), if_neg (by omega), show 257 + plF false n - 257 = plF false n by omega]
  have e1 := drop_more h
  have l1 : p + w.length ≤ t.length := by have := drop_len h (.inr hp); rw [List.length_append] at this; omega
  rw [List.append_assoc] at hu
  have hu := List.append_cancel_left hu
  rcases pre_split ⟨q, hu⟩ with ⟨q', hq', hu'⟩ | ⟨u2, rfl, hu2⟩
  ·have hl := congrArg List.length hu'
   have hq2 : q'.length ≠ 0 := fun h0 => hq' (List.eq_nil_of_length_eq_zero h0)
   rw [List.length_append, length_moreF] at hl
   rw [number_cut g1 l1 e1 (by omega)]
  rw [number_hit g1 l1 e1 p3]
  simp only
  rw [List.append_assoc] at hu
  have hu := List.append_cancel_left hu
  have e2 := drop_more e1
  rw [length_moreF] at e2
  have l2 : p + w.length + (frF false n).2 ≤ t.length := by have := drop_len e1 (.inr l1); rw [List.length_append, length_moreF] at this; omega
  rw [copyR, e2]
  rcases pre_split ⟨q, hu⟩ with ⟨q', hq', hu'⟩ | ⟨u3, rfl, hu3⟩
  ·rw [rdW_cut G.pb hv u2 [] q' (by rw [List.nil_append]; exact hu') hq']
  rw [rdW_at G.pb hv hne']
  simp only
  rw [List.append_assoc] at hu
  have hu := List.append_cancel_left hu
  have e3 := drop_more e2
  have l3 : p + w.length + (frF false n).2 + v.length ≤ t.length := by have := drop_len e2 (.inr l2); rw [List.length_append] at this; omega
  have hl := congrArg List.length hu
  have hq2 : q.length ≠ 0 := fun h0 => hq (List.eq_nil_of_length_eq_zero h0)
  rw [List.length_append, length_moreF] at hl
  rw [number_cut g2 l3 e3 (by omega)]
theorem tokU_pos {A B : List (List Nat)} (G : GoodU A B) {k : TokD} (hus : usedW A B k) {out : List UInt8} (hk : okT k out) : 1 ≤ (tokB A B k).length := by
 unfold tokB
 have pos : ∀ w : List Nat, w ≠ [] → 1 ≤ w.length := fun w hw => by
  have : w.length ≠ 0 := fun h0 => hw (List.eq_nil_of_length_eq_zero h0)
  omega
 unfold usedW at hus
 by_cases h0 : k.len = 0
 ·rw [if_pos h0]
  have hlt : k.lit.toNat < 256 := UInt8.toNat_lt k.lit
  rw [if_pos h0] at hus
  obtain ⟨w, hw, hne⟩ := hus
  rw [getD_some hw]; exact pos w hne
 ·obtain ⟨h1, h2, h3, h4, h5⟩ := hk.resolve_left h0
  rw [if_neg h0]
  obtain ⟨p1, p2, p3⟩ := plF_lens (n := k.len.toNat) (by omega) (by omega)
  rw [if_neg h0] at hus
  obtain ⟨⟨w, hw, hne⟩, _⟩ := hus
  rw [getD_some hw, List.length_append]
  have := pos w hne
  omega
structure StepT (b : List UInt8) (i : Nat) (k : TokD) (j : Nat) : Prop where
 lt : i < j
 le : j ≤ b.length
 ok : okT k (b.take i)
 put : putT k (b.take i) = b.take j
def TellsTo (b : List UInt8) : Nat → List TokD → Nat → Prop
 | i, [], j => i = j
 | i, k :: r, j => ∃ m, StepT b i k m ∧ TellsTo b m r j
theorem TellsTo.le {b : List UInt8} : ∀ {l : List TokD} {i j : Nat}, TellsTo b i l j → i ≤ b.length → i ≤ j ∧ j ≤ b.length ∧ l.length ≤ j - i := by
 intro l
 induction l with
 | nil => intro i j h hi; cases h; simp; exact hi
 | cons k r ih =>
  rintro i j ⟨m, h1, h2⟩ hi
  obtain ⟨g1, g2, g3⟩ := ih h2 h1.le
  have := h1.lt
  rw [List.length_cons]
  omega
theorem TellsTo.app {b : List UInt8} : ∀ {l r : List TokD} {i j m : Nat}, TellsTo b i l j → TellsTo b j r m → TellsTo b i (l ++ r) m := by
 intro l
 induction l with
 | nil => intro r i j m h h'; cases h; exact h'
 | cons k l ih => rintro r i j m ⟨x, h1, h2⟩ h'; exact ⟨x, h1, ih h2 h'⟩
theorem TellsTo.split {b : List UInt8} : ∀ (n : Nat) {l : List TokD} {i m : Nat}, TellsTo b i l m → ∃ j, TellsTo b i (l.take n) j ∧ TellsTo b j (l.drop n) m := by
 intro n
 induction n with
 | zero => intro l i m h; exact ⟨i, rfl, h⟩
 | succ n ih =>
  intro l i m h
  cases l with
  | nil => cases h; exact ⟨i, rfl, rfl⟩
  | cons k l =>
   obtain ⟨x, h1, h2⟩ := h
   obtain ⟨j, h3, h4⟩ := ih h2
   exact ⟨j, ⟨x, h1, h3⟩, h4⟩
theorem take_len {b : List UInt8} {j : Nat} (h : j ≤ b.length) : (b.take j).length = j := by rw [List.length_take]; omega
theorem blockU_told {t r : List Nat} {A B : List (List Nat)} (G : GoodU A B) {most : Nat} {b : List UInt8} : ∀ (l : List TokD) (f p i j : Nat), TellsTo b i l j → (∀ k ∈ l, usedW A B k) → i ≤ b.length → p ≤ t.length → t.drop p = toldB A B l ++ r → l.length < f → i ≤ most →
  blockF t A B most f p (b.take i) = if most < j then .inl 8 else .inr (p + (toldB A B l).length, b.take j) := by
 intro l
 induction l with
 | nil =>
  intro f p i j h _ hi hp ht hf hom
  obtain ⟨f, rfl⟩ : ∃ g, f = g + 1 := ⟨f - 1, by simp at hf; omega⟩
  cases h
  obtain ⟨w, hw, hne⟩ := G.eob
  have e : toldB A B [] = w := by rw [toldB, getD_some hw]; rfl
  rw [e] at ht ⊢
  rw [blockF, blockS, ht, rdW_at G.pa hw hne]
  simp only
  rw [if_pos trivial, if_neg (by omega)]
 | cons k l ih =>
  intro f p i j h hu hi hp ht hf hom
  obtain ⟨f, rfl⟩ : ∃ g, f = g + 1 := ⟨f - 1, by simp at hf; omega⟩
  obtain ⟨m, h1, h2⟩ := h
  obtain ⟨g1, g2, _⟩ := h2.le h1.le
  rw [told_cons, List.append_assoc] at ht
  rw [blockF, blockU_tok G (hu k (by simp)) h1.ok hp ht, h1.put, take_len h1.le]
  by_cases hm : most < m
  ·rw [if_pos hm, if_pos (by omega)]
  ·rw [if_neg hm]
   simp only
   have l1 : p + (tokB A B k).length ≤ t.length := by have := drop_len ht (.inr hp); rw [List.length_append] at this; omega
   rw [ih f (p + (tokB A B k).length) m j h2 (fun k hk => hu k (by simp [hk])) h1.le l1 (drop_more ht) (by simp at hf; omega) (by omega), told_cons, show (tokB A B k ++ toldB A B l).length = (tokB A B k).length + (toldB A B l).length from List.length_append, Nat.add_assoc]
theorem blockU_cut {t : List Nat} {A B : List (List Nat)} (G : GoodU A B) {most : Nat} {b : List UInt8} : ∀ (l : List TokD) (f p i j : Nat) (u : List Nat), TellsTo b i l j → (∀ k ∈ l, usedW A B k) → i ≤ b.length → j ≤ most → p ≤ t.length → t.drop p = u → (∃ q, q ≠ [] ∧ u ++ q = toldB A B l) → u.length < f →
  blockF t A B most f p (b.take i) = .inl 2 := by
 intro l
 induction l with
 | nil =>
  intro f p i j u h _ _ _ hp ht hu hf
  obtain ⟨f, rfl⟩ : ∃ g, f = g + 1 := ⟨f - 1, by omega⟩
  obtain ⟨q, hq, hu⟩ := hu
  obtain ⟨w, hw, hne⟩ := G.eob
  have e : toldB A B [] = w := by rw [toldB, getD_some hw]; rfl
  rw [e] at hu
  rw [blockF, blockS, ht, rdW_cut G.pa hw u [] q (by rw [List.nil_append]; exact hu) hq]
 | cons k l ih =>
  intro f p i j u h hus hi hj hp ht hu hf
  obtain ⟨f, rfl⟩ : ∃ g, f = g + 1 := ⟨f - 1, by omega⟩
  obtain ⟨m, h1, h2⟩ := h
  obtain ⟨g1, g2, _⟩ := h2.le h1.le
  obtain ⟨q, hq, hu⟩ := hu
  rw [told_cons] at hu
  rcases pre_split ⟨q, hu⟩ with ⟨q', hq', hu'⟩ | ⟨u1, rfl, hu1⟩
  ·rw [blockF, tokU_cut G (hus k (by simp)) h1.ok hp ht ⟨q', hq', hu'⟩]
  ·have htp := tokU_pos G (hus k (by simp)) h1.ok
   rw [blockF, blockU_tok G (hus k (by simp)) h1.ok hp ht, h1.put, take_len h1.le, if_neg (by omega)]
   simp only
   have l1 : p + (tokB A B k).length ≤ t.length := by have := drop_len ht (.inr hp); rw [List.length_append] at this; omega
   rw [List.append_assoc] at hu
   rw [List.length_append] at hf
   exact ih f _ m j u1 h2 (fun k hk => hus k (by simp [hk])) h1.le hj l1 (drop_more ht) ⟨q, hq, List.append_cancel_left hu⟩ (by omega)
theorem toldU_len {A B : List (List Nat)} (G : GoodU A B) {b : List UInt8} : ∀ (l : List TokD) (i j : Nat), TellsTo b i l j → (∀ k ∈ l, usedW A B k) → l.length < (toldB A B l).length := by
 intro l
 induction l with
 | nil =>
  intro i j h _
  obtain ⟨w, hw, hne⟩ := G.eob
  have e : toldB A B [] = w := by rw [toldB, getD_some hw]; rfl
  rw [e]
  have : w.length ≠ 0 := fun h0 => hne (List.eq_nil_of_length_eq_zero h0)
  simp; omega
 | cons k l ih =>
  rintro i j ⟨m, h1, h2⟩ hu
  have := ih _ _ h2 fun k hk => hu k (by simp [hk])
  have := tokU_pos G (hu k (by simp)) h1.ok
  rw [told_cons, List.length_append, List.length_cons]; omega
structure PreS (b : List UInt8) (x : List Nat) (j n : Nat) : Prop where
 bit : Bit x
 le : n ≤ x.length
 jle : j ≤ b.length
 all : ∀ (r : List Nat) (most f : Nat), inflF (x ++ r) most (n + f) 0 [] = if most < j then .inl 8 else inflF (x ++ r) most f x.length (b.take j)
 cut : ∀ (u : List Nat) (most f : Nat), (∃ q, q ≠ [] ∧ u ++ q = x) → j ≤ most → u.length < f → inflF u most f 0 [] = .inl 2
structure BlkS (b : List UInt8) (p i j : Nat) (last : Bool) (x : List Nat) : Prop where
 bit : Bit x
 pos : 1 ≤ x.length
 lo : i ≤ j
 jle : j ≤ b.length
 all : ∀ (t r : List Nat) (most f : Nat), p ≤ t.length → t.drop p = x ++ r → i ≤ most →
  inflF t most (f + 1) p (b.take i) = if most < j then .inl 8 else if last then .inr (p + x.length, b.take j) else inflF t most f (p + x.length) (b.take j)
 cut : ∀ (t u : List Nat) (most f : Nat), p ≤ t.length → t.drop p = u → (∃ q, q ≠ [] ∧ u ++ q = x) → j ≤ most → inflF t most (f + 1) p (b.take i) = .inl 2
structure DoneS (b : List UInt8) (x : List Nat) (n : Nat) : Prop where
 bit : Bit x
 le : n ≤ x.length
 all : ∀ (r : List Nat) (most f : Nat), n ≤ f → inflF (x ++ r) most f 0 [] = if most < b.length then .inl 8 else .inr (x.length, b)
 cut : ∀ (u : List Nat) (most f : Nat), (∃ q, q ≠ [] ∧ u ++ q = x) → b.length ≤ most → u.length < f → inflF u most f 0 [] = .inl 2
theorem PreS.nil (b : List UInt8) : PreS b [] 0 0 :=
 ⟨fun _ h => by simp at h, by simp, by simp, fun r most f => by simp, fun u most f ⟨q, hq, hu⟩ _ _ => by
  have := List.append_eq_nil_iff.1 hu
  exact absurd this.2 hq⟩
theorem PreS.more {b : List UInt8} {x y : List Nat} {i j n : Nat} (h : PreS b x i n) (k : BlkS b x.length i j false y) : PreS b (x ++ y) j (n + 1) := by
 have h1 := h.le; have h2 := k.pos; have h3 := k.lo
 refine ⟨h.bit.append k.bit, by rw [List.length_append]; omega, k.jle, fun r most f => ?_, fun u most f hu hj hf => ?_⟩
 ·rw [List.append_assoc, show n + 1 + f = n + (f + 1) by omega, h.all]
  by_cases hm : most < i
  ·rw [if_pos hm, if_pos (by omega)]
  ·rw [if_neg hm, k.all (x ++ (y ++ r)) r most f (by simp) (by simp) (by omega)]
   simp only [List.length_append, Bool.false_eq_true, if_false]
 ·obtain ⟨q, hq, hu⟩ := hu
  rcases pre_split ⟨q, hu⟩ with ⟨q', hq', hu'⟩ | ⟨v, rfl, hv⟩
  ·exact h.cut u most f ⟨q', hq', hu'⟩ (by omega) (by omega)
  ·rw [List.length_append] at hf
   obtain ⟨f, rfl⟩ : ∃ g, f = n + (g + 1) := ⟨f - n - 1, by omega⟩
   rw [List.append_assoc] at hu
   rw [h.all, if_neg (by omega)]
   exact k.cut _ v most f (by simp) (by simp) ⟨q, hq, List.append_cancel_left hu⟩ hj
theorem PreS.last {b : List UInt8} {x y : List Nat} {i j n : Nat} (h : PreS b x i n) (k : BlkS b x.length i j true y) (hj : j = b.length) : DoneS b (x ++ y) (n + 1) := by
 subst hj
 have h1 := h.le; have h2 := k.pos; have h3 := k.lo
 refine ⟨h.bit.append k.bit, by rw [List.length_append]; omega, fun r most f hf => ?_, fun u most f hu hj hf => ?_⟩
 ·obtain ⟨f, rfl⟩ : ∃ g, f = n + (g + 1) := ⟨f - n - 1, by omega⟩
  rw [List.append_assoc, h.all]
  by_cases hm : most < i
  ·rw [if_pos hm, if_pos (by omega)]
  ·rw [if_neg hm, k.all (x ++ (y ++ r)) r most f (by simp) (by simp) (by omega)]
   simp only [List.length_append, if_true, List.take_length]
 ·obtain ⟨q, hq, hu⟩ := hu
  rcases pre_split ⟨q, hu⟩ with ⟨q', hq', hu'⟩ | ⟨v, rfl, hv⟩
  ·exact h.cut u most f ⟨q', hq', hu'⟩ (by omega) (by omega)
  ·rw [List.length_append] at hf
   obtain ⟨f, rfl⟩ : ∃ g, f = n + (g + 1) := ⟨f - n - 1, by omega⟩
   rw [List.append_assoc] at hu
   rw [h.all, if_neg (by omega)]
   exact k.cut _ v most f (by simp) (by simp) ⟨q, hq, List.append_cancel_left hu⟩ hj
theorem length_bytesB' (low : Bool) (l : List Nat) : (bytesB low l).length = (l.length + 7) / 8 := by simp [bytesB]
theorem DoneS.short {b : List UInt8} {x : List Nat} {n : Nat} (h : DoneS b x n) {m : Nat} (hm : m < (bytesB true x).length) (most : Int) (hb : (b.length : Int) ≤ most) :
  inflI ((bytesB true x).take m) most = .inl 2 := by
 obtain ⟨z, hz⟩ := bitsL_bytes true h.bit
 have hn := h.le
 rw [length_bytesB'] at hm
 have hlen : 8 * m < x.length := by omega
 have e : bitsL true ((bytesB true x).take m) = x.take (8 * m) := by
  rw [bitsL_takeB, hz, List.take_append_of_le_length (by omega)]
 unfold inflI
 rw [if_neg (by omega), e]
 have hne : x.drop (8 * m) ≠ [] := fun h0 => by
  have := congrArg List.length h0
  rw [List.length_drop, List.length_nil] at this
  omega
 have hf : (x.take (8 * m)).length < 8 * ((bytesB true x).take m).length + 1 := by
  rw [List.length_take, List.length_take, length_bytesB']
  omega
 rw [h.cut (x.take (8 * m)) most.toNat _ ⟨x.drop (8 * m), hne, List.take_append_drop _ _⟩ (by omega) hf]
end Go.Proofs.YtboflbdniogcdaaGreatDoor
namespace Go.Proofs.YtboflbdniogcdaaGreatDoor
open Go.RowKit Go.Mz
set_option linter.unusedVariables false
set_option linter.unusedSimpArgs false
def headL (last : Bool) (kind : Nat) : List Nat := (wordB (2 * kind + last.toNat) 3).reverse
theorem length_headL (last : Bool) (kind : Nat) : (headL last kind).length = 3 := by simp [headL]
theorem blk_of_part {b : List UInt8} {p i j kind : Nat} {last : Bool} {x : List Nat} (hk : kind < 4) (hb : Bit x) (lo : i ≤ j) (hj : j ≤ b.length)
  (all : ∀ (t r : List Nat) (most : Nat), p + 3 ≤ t.length → t.drop (p + 3) = x ++ r → i ≤ most → partF t most kind (p + 3) (b.take i) = if most < j then .inl 8 else .inr (p + 3 + x.length, b.take j))
  (cut : ∀ (t u : List Nat) (most : Nat), p + 3 ≤ t.length → t.drop (p + 3) = u → (∃ q, q ≠ [] ∧ u ++ q = x) → j ≤ most → partF t most kind (p + 3) (b.take i) = .inl 2) : BlkS b p i j last (headL last kind ++ x) := by
 have hl3 := length_headL last kind
 have hlast : last.toNat ≤ 1 := by cases last <;> simp
 have hv : 2 * kind + last.toNat < 2 ^ 3 := by omega
 refine ⟨(bit_wordB _ _).reverse.append hb, by rw [List.length_append, hl3]; omega, lo, hj, fun t r most f hp h hi => ?_, fun t u most f hp h hu hm => ?_⟩
 ·rw [List.append_assoc] at h
  have hlen := drop_len h (.inr hp)
  rw [List.length_append, hl3] at hlen
  have hvl : vl t p 3 = 2 * kind + last.toNat := vl_word h hv
  have h2 := drop_more h
  rw [hl3] at h2
  rw [inflF, if_neg (by omega), hvl, show (2 * kind + last.toNat) / 2 = kind by omega, all t r most (by omega) h2 hi]
  by_cases hm : most < j
  ·rw [if_pos hm, if_pos hm]
  ·rw [if_neg hm, if_neg hm, List.length_append, hl3]
   simp only
   cases last with
   | true => simp [show (2 * kind + 1) % 2 = 1 by omega]; omega
   | false => simp [Nat.add_assoc]
 ·obtain ⟨q, hq, hu⟩ := hu
  rw [inflF]
  rcases pre_split ⟨q, hu⟩ with ⟨q', hq', hu'⟩ | ⟨v, rfl, hv'⟩
  ·have hl := congrArg List.length hu'
   rw [List.length_append, hl3] at hl
   have hq2 : q'.length ≠ 0 := fun h0 => hq' (List.eq_nil_of_length_eq_zero h0)
   have := drop_len h (.inr hp)
   rw [if_pos (by omega)]
  ·have hlen := drop_len h (.inr hp)
   rw [List.length_append, hl3] at hlen
   have hvl : vl t p 3 = 2 * kind + last.toNat := vl_word h hv
   have h2 := drop_more h
   rw [hl3] at h2
   rw [List.append_assoc] at hu
   rw [if_neg (by omega), hvl, show (2 * kind + last.toNat) / 2 = kind by omega, cut t v most (by omega) h2 ⟨q, hq, List.append_cancel_left hu⟩ hm]
theorem goodU_F : GoodU FA FB := ⟨goodF.pa, goodF.pb, goodF.la 256 (by omega)⟩
theorem usedF {k : TokD} {out : List UInt8} (h : okT k out) : usedW FA FB k := by
 unfold usedW
 by_cases h0 : k.len = 0
 ·rw [if_pos h0]; exact goodF.la _ (by have := UInt8.toNat_lt k.lit; omega)
 ·rw [if_neg h0]
  obtain ⟨h1, h2, h3, h4, h5⟩ := h.resolve_left h0
  exact ⟨goodF.la _ (by have := (plF_lens (n := k.len.toNat) (by omega) (by omega)).1; omega), goodF.lb _ (by have := (plF_dists (n := k.dist.toNat) (by omega) (by omega)).1; omega)⟩
theorem used_all {b : List UInt8} {A B : List (List Nat)} (hu : ∀ (k : TokD) (out : List UInt8), okT k out → usedW A B k) : ∀ {l : List TokD} {i j : Nat}, TellsTo b i l j → ∀ k ∈ l, usedW A B k := by
 intro l
 induction l with
 | nil => intro i j _ k hk; cases hk
 | cons x l ih =>
  rintro i j ⟨m, h1, h2⟩ k hk
  rcases List.mem_cons.1 hk with rfl | hk
  ·exact hu _ _ h1.ok
  ·exact ih h2 k hk
theorem fixed_blk {b : List UInt8} {i j p : Nat} {last : Bool} {l : List TokD} (h : TellsTo b i l j) (hi : i ≤ b.length) : BlkS b p i j last (headL last 1 ++ toldB FA FB l) := by
 obtain ⟨g1, g2, _⟩ := h.le hi
 have hus := used_all (A := FA) (B := FB) (fun k out => usedF) h
 have hlen := toldU_len goodU_F l i j h hus
 refine blk_of_part (by omega) (bit_toldB l) g1 g2 (fun t r most hp ht hm => ?_) (fun t u most hp ht hu hm => ?_)
 ·have hl := drop_len ht (.inr hp)
  rw [List.length_append] at hl
  rw [partF, if_neg (by omega), if_pos rfl, blockL, words_FA]
  simp only
  rw [words_FB]
  simp only
  rw [blockU_told goodU_F l _ _ i j h hus hi hp ht (by omega) hm]
 ·have hl := drop_len ht (.inr hp)
  rw [partF, if_neg (by omega), if_pos rfl, blockL, words_FA]
  simp only
  rw [words_FB]
  simp only
  exact blockU_cut goodU_F l _ _ i j u h hus hi hm hp ht hu (by omega)
theorem bytes_cutB {t : List Nat} {most : Nat} : ∀ (x : List UInt8) (p : Nat) (u q : List Nat) (out : List UInt8), p ≤ t.length → t.drop p = u → u ++ q = bitsL true x → q ≠ [] → out.length + x.length ≤ most →
  bytesF t most x.length p out = .inl 2 := by
 intro x
 induction x with
 | nil =>
  intro p u q out hp h hu hq
  exact absurd (List.append_eq_nil_iff.1 hu).2 hq
 | cons c x ih =>
  intro p u q out hp h hu hq ho
  have hl := drop_len h (.inr hp)
  rw [List.length_cons] at ho
  rw [bitsL_cons] at hu
  rw [List.length_cons, bytesF]
  rcases pre_split ⟨q, hu⟩ with ⟨q', hq', hu'⟩ | ⟨v, rfl, hv⟩
  ·have hl2 := congrArg List.length hu'
   rw [List.length_append, show (wordB c.toNat 8).reverse.length = 8 by simp] at hl2
   have hq2 : q'.length ≠ 0 := fun h0 => hq' (List.eq_nil_of_length_eq_zero h0)
   rw [if_pos (by omega)]
  ·rw [List.length_append, show (wordB c.toNat 8).reverse.length = 8 by simp] at hl
   rw [if_neg (by omega), if_neg (by omega)]
   have h2 := drop_more h
   rw [show (wordB c.toNat 8).reverse.length = 8 by simp] at h2
   rw [List.append_assoc] at hu
   exact ih (p + 8) v q _ (by omega) h2 (List.append_cancel_left hu) hq (by simp; omega)
def storedL (p : Nat) (x : List UInt8) : List Nat :=
 List.replicate ((8 - p % 8) % 8) 0 ++ ((wordB x.length 16).reverse ++ ((wordB (65535 - x.length) 16).reverse ++ bitsL true x))
theorem stored_blk {b : List UInt8} {i j p : Nat} {last : Bool} (hij : i ≤ j) (hj : j ≤ b.length) (h64 : j - i ≤ 65535) : BlkS b p i j last (headL last 0 ++ storedL (p + 3) ((b.drop i).take (j - i))) := by
 obtain ⟨x, hx⟩ : ∃ x, (b.drop i).take (j - i) = x := ⟨_, rfl⟩
 have hxl : x.length = j - i := by rw [← hx, List.length_take, List.length_drop]; omega
 have hbx : b.take i ++ x = b.take j := by
  rw [← hx, show b.take j = b.take (i + (j - i)) by congr 1; omega, List.take_add]
 rw [hx]
 have hbit : Bit (storedL (p + 3) x) := (bit_rep _).append ((bit_wordB _ _).reverse.append ((bit_wordB _ _).reverse.append (bit_bitsL _ _)))
 have hq : p + 3 + (8 - (p + 3) % 8) % 8 = (p + 3 + 7) / 8 * 8 := by omega
 have hn : x.length < 2 ^ 16 := by omega
 have hm16 : 65535 - x.length < 2 ^ 16 := by omega
 have hrl : (List.replicate ((8 - (p + 3) % 8) % 8) 0 : List Nat).length = (8 - (p + 3) % 8) % 8 := by simp
 have hwl : ∀ v, (wordB v 16).reverse.length = 16 := fun v => by simp
 have hbl : (bitsL true x).length = 8 * x.length := length_bitsL _ _
 refine blk_of_part (by omega) hbit hij hj (fun t r most hp ht hm => ?_) (fun t u most hp ht hu hm => ?_)
 ·unfold storedL at ht ⊢
  rw [List.append_assoc] at ht
  have h1 := drop_more ht
  rw [hrl, hq, List.append_assoc] at h1
  have l1 : (p + 3 + 7) / 8 * 8 ≤ t.length := by have := drop_len ht (.inr hp); rw [List.length_append, hrl] at this; omega
  have h2 := drop_more h1
  rw [hwl, List.append_assoc] at h2
  have l2 := drop_len h1 (.inr l1)
  rw [List.length_append, hwl, List.length_append, List.length_append, hwl] at l2
  have h3 := drop_more h2
  rw [hwl] at h3
  have v1 : vl t ((p + 3 + 7) / 8 * 8) 16 = x.length := vl_word h1 hn
  have v2 : vl t ((p + 3 + 7) / 8 * 8 + 16) 16 = 65535 - x.length := vl_word h2 hm16
  rw [partF, if_pos rfl, storedF]
  (try simp only)
  rw [if_neg (by omega), v1, v2, if_neg (by omega), show (p + 3 + 7) / 8 * 8 + 32 = (p + 3 + 7) / 8 * 8 + 16 + 16 by omega, bytes_told x _ _ (by omega) h3 (by rw [take_len (by omega)]; exact hm), take_len (by omega), hbx]
  by_cases hm2 : most < j
  ·rw [if_pos (by omega), if_pos hm2]
  ·rw [if_neg (by omega), if_neg hm2]
   simp only [List.length_append, hrl, hwl, hbl]
   congr 2
   omega
 ·obtain ⟨q, hq', hu⟩ := hu
  unfold storedL at hu
  have hq2 : q.length ≠ 0 := fun h0 => hq' (List.eq_nil_of_length_eq_zero h0)
  have hul := congrArg List.length hu
  simp only [List.length_append, hrl, hwl, hbl] at hul
  have htl := drop_len ht (.inr hp)
  rw [partF, if_pos rfl, storedF]
  (try simp only)
  by_cases hs : t.length < (p + 3 + 7) / 8 * 8 + 32
  ·rw [if_pos hs]
  ·rw [if_neg hs]
   have hge : (8 - (p + 3) % 8) % 8 + 32 ≤ u.length := by omega
   obtain ⟨u3, rfl⟩ : ∃ u3, u = List.replicate ((8 - (p + 3) % 8) % 8) 0 ++ ((wordB x.length 16).reverse ++ ((wordB (65535 - x.length) 16).reverse ++ u3)) := by
    rcases pre_split ⟨q, hu⟩ with ⟨q1, _, e1⟩ | ⟨v1, rfl, e1⟩
    ·have := congrArg List.length e1; rw [List.length_append, hrl] at this; omega
    ·rw [List.append_assoc] at hu
     have hu := List.append_cancel_left hu
     rw [List.length_append, hrl] at hge
     rcases pre_split ⟨q, hu⟩ with ⟨q2, _, e2⟩ | ⟨v2, rfl, e2⟩
     ·have := congrArg List.length e2; rw [List.length_append, hwl] at this; omega
     ·rw [List.append_assoc] at hu
      have hu := List.append_cancel_left hu
      rw [List.length_append, hwl] at hge
      rcases pre_split ⟨q, hu⟩ with ⟨q3, hq3, e3⟩ | ⟨v3, rfl, e3⟩
      ·have hz3 : q3.length ≠ 0 := fun h0 => hq3 (List.eq_nil_of_length_eq_zero h0)
       have := congrArg List.length e3; rw [List.length_append, hwl] at this; omega
      ·exact ⟨v3, rfl⟩
   have hu3 : u3 ++ q = bitsL true x := by
    rw [List.append_assoc] at hu
    have hu := List.append_cancel_left hu
    rw [List.append_assoc] at hu
    have hu := List.append_cancel_left hu
    rw [List.append_assoc] at hu
    exact List.append_cancel_left hu
   have h1 := drop_more ht
   rw [hrl, hq] at h1
   have l1 : (p + 3 + 7) / 8 * 8 ≤ t.length := by omega
   have h2 := drop_more h1
   rw [hwl] at h2
   have h3 := drop_more h2
   rw [hwl] at h3
   have v1 : vl t ((p + 3 + 7) / 8 * 8) 16 = x.length := vl_word h1 hn
   have v2 : vl t ((p + 3 + 7) / 8 * 8 + 16) 16 = 65535 - x.length := vl_word h2 hm16
   rw [v1, v2, if_neg (by omega), show (p + 3 + 7) / 8 * 8 + 32 = (p + 3 + 7) / 8 * 8 + 16 + 16 by omega]
   exact bytes_cutB x _ _ q _ (by omega) h3 hu3 hq' (by rw [take_len (by omega)]; omega)
end Go.Proofs.YtboflbdniogcdaaGreatDoor
namespace Go.Proofs.YtboflbdniogcdaaGreatDoor
open Go.RowKit Go.Mz
set_option linter.unusedVariables false
set_option linter.unusedSimpArgs false
theorem natsOf_ofN (l : List Nat) : natsOf (l.map fun (n : Nat) => (n : Int)) = l := by
 induction l with
 | nil => rfl
 | cons x l ih => simp only [natsOf, List.map_cons, Int.toNat_natCast] at ih ⊢; rw [ih]
theorem canon_of {l : List Nat} (ok : OkC l) (h30 : ∀ n ∈ l, n ≤ 30) : canonI (l.map fun (n : Nat) => (n : Int)) = (wordsC l, fullC l, 0) := by
 rw [canonI, natsOf_ofN, if_neg, if_pos ok]
 rintro ⟨x, hx, h⟩
 obtain ⟨n, hn, rfl⟩ := List.mem_map.1 hx
 have := h30 n hn
 omega
theorem words_full {l : List Nat} (ok : OkC l) (h30 : ∀ n ∈ l, n ≤ 30) (hf : fullC l = true) (how : Nat) : wordsF l how = .inr (wordsC l) := by
 rw [wordsF, canon_of ok h30]
 simp [hf]
theorem words_lone {l : List Nat} (ok : OkC l) (h30 : ∀ n ∈ l, n ≤ 30) (hu : usedL l ≤ 1) (hl : longL l ≤ 1) : wordsF l 1 = .inr (wordsC l) := by
 rw [wordsF, canon_of ok h30]
 simp only
 rw [if_neg (by simp), if_neg (by omega)]
theorem word_there {l : List Nat} {i : Nat} (hi : i < l.length) (h : 0 < l.getD i 0) : ∃ w, (wordsC l)[i]? = some w ∧ w ≠ [] :=
 ⟨wordC l i, wordsC_at hi, fun h0 => by have := congrArg List.length h0; rw [length_wordC] at this; simp only [List.length_nil] at this; omega⟩
def StepRn (all : List Nat) (i : Nat) (r : Nat × Nat × Nat) (j : Nat) : Prop :=
 j ≤ all.length ∧ ((r.1 < 16 ∧ r.2.1 = 0 ∧ r.2.2 = 0 ∧ j = i + 1 ∧ all.getD i 0 = r.1) ∨
 (r.1 = 16 ∧ r.2.2 = 2 ∧ r.2.1 < 4 ∧ 0 < i ∧ j = i + (3 + r.2.1) ∧ ∀ t, i ≤ t → t < j → all.getD t 0 = all.getD (i - 1) 0) ∨
 (r.1 = 17 ∧ r.2.2 = 3 ∧ r.2.1 < 8 ∧ j = i + (3 + r.2.1) ∧ ∀ t, i ≤ t → t < j → all.getD t 0 = 0) ∨
 (r.1 = 18 ∧ r.2.2 = 7 ∧ r.2.1 < 128 ∧ j = i + (11 + r.2.1) ∧ ∀ t, i ≤ t → t < j → all.getD t 0 = 0))
def RunsTo (all : List Nat) : Nat → List (Nat × Nat × Nat) → Nat → Prop
 | i, [], j => i = j
 | i, r :: R, j => ∃ m, StepRn all i r m ∧ RunsTo all m R j
theorem RunsTo.snoc {all : List Nat} {r : Nat × Nat × Nat} {m : Nat} : ∀ {R : List (Nat × Nat × Nat)} {i j : Nat}, RunsTo all i R j → StepRn all j r m → RunsTo all i (R ++ [r]) m := by
 intro R
 induction R with
 | nil => intro i j h s; cases h; exact ⟨m, s, rfl⟩
 | cons x R ih => rintro i j ⟨y, h1, h2⟩ s; exact ⟨y, h1, ih h2 s⟩
theorem StepRn.lt {all : List Nat} {i j : Nat} {r : Nat × Nat × Nat} (h : StepRn all i r j) : i < j ∧ j ≤ all.length := by
 obtain ⟨h0, h | h | h | h⟩ := h <;> omega
theorem RunsTo.le {all : List Nat} : ∀ {R : List (Nat × Nat × Nat)} {i j : Nat}, RunsTo all i R j → i ≤ all.length → i ≤ j ∧ j ≤ all.length ∧ R.length ≤ j - i := by
 intro R
 induction R with
 | nil => intro i j h hi; cases h; simp; exact hi
 | cons r R ih =>
  rintro i j ⟨m, h1, h2⟩ hi
  obtain ⟨g1, g2⟩ := h1.lt
  obtain ⟨g3, g4, g5⟩ := ih h2 g2
  rw [List.length_cons]; omega
theorem StepRn.sym {all : List Nat} {i j : Nat} {r : Nat × Nat × Nat} (h : StepRn all i r j) : r.1 ≤ 18 ∧ r.2.1 < 2 ^ r.2.2 := by
 obtain ⟨h0, h | h | h | h⟩ := h
 ·rw [h.2.1, h.2.2.1]; exact ⟨by omega, by decide⟩
 ·rw [h.2.1]; exact ⟨by omega, by omega⟩
 ·rw [h.2.1]; exact ⟨by omega, by omega⟩
 ·rw [h.2.1]; exact ⟨by omega, by omega⟩
def runB (W : List (List Nat)) (r : Nat × Nat × Nat) : List Nat := W.getD r.1 [] ++ (wordB r.2.1 r.2.2).reverse
theorem take_rep {all : List Nat} {v : Nat} : ∀ (m i : Nat), i + m ≤ all.length → (∀ t, i ≤ t → t < i + m → all.getD t 0 = v) → all.take i ++ List.replicate m v = all.take (i + m) := by
 intro m
 induction m with
 | zero => intro i _ _; simp
 | succ m ih =>
  intro i hi h
  rw [List.replicate_succ', ← List.append_assoc, ih i (by omega) fun t a b => h t a (by omega), show i + (m + 1) = i + m + 1 by omega, List.take_succ_eq_append_getElem (by omega)]
  congr 2
  have := h (i + m) (by omega) (by omega)
  rw [List.getD_eq_getElem?_getD, List.getElem?_eq_getElem (by omega)] at this
  exact this.symm
theorem take_len' {all : List Nat} {j : Nat} (h : j ≤ all.length) : (all.take j).length = j := by rw [List.length_take]; omega
theorem take_getD {all : List Nat} {i k : Nat} (h : k < i) : (all.take i).getD k 0 = all.getD k 0 := by
 rw [List.getD_eq_getElem?_getD, List.getElem?_take, if_pos h, ← List.getD_eq_getElem?_getD]
theorem lengths_step {t r : List Nat} {W : List (List Nat)} (pf : PF W) {all : List Nat} {i j f p : Nat} {x : Nat × Nat × Nat} (h : StepRn all i x j) (hw : ∃ w, W[x.1]? = some w ∧ w ≠ []) (hp : p ≤ t.length) (ht : t.drop p = runB W x ++ r) :
  lengthsF t W all.length (f + 1) (all.take i) p = lengthsF t W all.length f (all.take j) (p + (runB W x).length) := by
 obtain ⟨w, hw1, hw2⟩ := hw
 obtain ⟨hl1, hl2⟩ := h.lt
 have hsym := h.sym
 unfold runB at ht ⊢
 rw [getD_some hw1] at ht ⊢
 rw [List.append_assoc] at ht
 have e1 := drop_more ht
 have l1 : p + w.length ≤ t.length := by have := drop_len ht (.inr hp); rw [List.length_append] at this; omega
 have hll := drop_len e1 (.inr l1)
 rw [List.length_append] at hll
 have hwl : (wordB x.2.1 x.2.2).reverse.length = x.2.2 := by simp
 rw [hwl] at hll
 rw [lengthsF, if_pos (by rw [take_len' (by omega)]; omega), ht, rdW_at pf hw1 hw2]
 simp only
 have hv : vl t (p + w.length) x.2.2 = x.2.1 := vl_word e1 hsym.2
 obtain ⟨h0, h | h | h | h⟩ := h
 ·obtain ⟨g1, g2, g3, g4, g5⟩ := h
  have e : all.take i ++ [x.1] = all.take (i + 1) := by
   rw [List.take_succ_eq_append_getElem (by omega)]
   congr 2
   rw [List.getD_eq_getElem?_getD, List.getElem?_eq_getElem (by omega)] at g5
   exact g5.symm
  rw [if_pos g1, e, g4, List.length_append, hwl, g3]
  rfl
 ·obtain ⟨g1, g2, g3, g4, g5, g6⟩ := h
  rw [if_neg (by omega), g1, if_neg (fun e => by have := congrArg List.length e.2; rw [take_len' (by omega), List.length_nil] at this; omega)]
  simp only [if_true, show ¬ (16 : Nat) = 18 by decide, if_false]
  rw [g2] at hll hv hwl
  rw [if_neg (by omega), hv, take_len' (by omega), take_getD (by omega), take_rep _ _ (by omega) (by rw [← g5]; exact g6), ← g5, List.length_append, g2, hwl, Nat.add_assoc]
 ·obtain ⟨g1, g2, g3, g5, g6⟩ := h
  rw [if_neg (by omega), g1, if_neg (fun e => by omega)]
  simp only [show ¬ (17 : Nat) = 18 by decide, show ¬ (17 : Nat) = 16 by decide, if_false]
  rw [g2] at hll hv hwl
  rw [if_neg (by omega), hv, take_rep _ _ (by omega) (by rw [← g5]; exact g6), ← g5, List.length_append, g2, hwl, Nat.add_assoc]
 ·obtain ⟨g1, g2, g3, g5, g6⟩ := h
  rw [if_neg (by omega), g1, if_neg (fun e => by omega)]
  simp only [show ¬ (18 : Nat) = 16 by decide, if_false, if_true]
  rw [g2] at hll hv hwl
  rw [if_neg (by omega), hv, take_rep _ _ (by omega) (by rw [← g5]; exact g6), ← g5, List.length_append, g2, hwl, Nat.add_assoc]
theorem lengths_stop {t u : List Nat} {W : List (List Nat)} (pf : PF W) {all : List Nat} {i j f p : Nat} {x : Nat × Nat × Nat} (h : StepRn all i x j) (hw : ∃ w, W[x.1]? = some w ∧ w ≠ []) (hp : p ≤ t.length) (ht : t.drop p = u) (hu : ∃ q, q ≠ [] ∧ u ++ q = runB W x) :
  lengthsF t W all.length (f + 1) (all.take i) p = .inl 2 := by
 obtain ⟨w, hw1, hw2⟩ := hw
 obtain ⟨q, hq, hu⟩ := hu
 obtain ⟨hl1, hl2⟩ := h.lt
 unfold runB at hu
 rw [getD_some hw1] at hu
 rw [lengthsF, if_pos (by rw [take_len' (by omega)]; omega), ht]
 rcases pre_split ⟨q, hu⟩ with ⟨q', hq', hu'⟩ | ⟨v, rfl, hv⟩
 ·rw [rdW_cut pf hw1 u [] q' (by rw [List.nil_append]; exact hu') hq']
 ·rw [rdW_at pf hw1 hw2]
  simp only
  rw [List.append_assoc] at hu
  have hu := List.append_cancel_left hu
  have l1 : p + w.length ≤ t.length := by have := drop_len ht (.inr hp); rw [List.length_append] at this; omega
  have e1 := drop_more ht
  have hll := drop_len e1 (.inr l1)
  have hq2 : q.length ≠ 0 := fun h0 => hq (List.eq_nil_of_length_eq_zero h0)
  have hul := congrArg List.length hu
  rw [List.length_append, show (wordB x.2.1 x.2.2).reverse.length = x.2.2 by simp] at hul
  obtain ⟨h0, h | h | h | h⟩ := h
  ·omega
  ·obtain ⟨g1, g2, g3, g4, g5, g6⟩ := h
   rw [if_neg (by omega), g1, if_neg (fun e => by have := congrArg List.length e.2; rw [take_len' (by omega), List.length_nil] at this; omega)]
   simp only [if_true]
   rw [if_pos (by omega)]
  ·obtain ⟨g1, g2, g3, g5, g6⟩ := h
   rw [if_neg (by omega), g1, if_neg (fun e => by omega)]
   simp only [show ¬ (17 : Nat) = 18 by decide, show ¬ (17 : Nat) = 16 by decide, if_false]
   rw [if_pos (by omega)]
  ·obtain ⟨g1, g2, g3, g5, g6⟩ := h
   rw [if_neg (by omega), g1, if_neg (fun e => by omega)]
   simp only [show ¬ (18 : Nat) = 16 by decide, if_false, if_true]
   rw [if_pos (by omega)]
theorem lengths_told {t r : List Nat} {W : List (List Nat)} (pf : PF W) {all : List Nat} : ∀ (R : List (Nat × Nat × Nat)) (i p f : Nat), RunsTo all i R all.length → i ≤ all.length → (∀ x ∈ R, ∃ w, W[x.1]? = some w ∧ w ≠ []) → p ≤ t.length → t.drop p = R.flatMap (runB W) ++ r → R.length < f →
  lengthsF t W all.length f (all.take i) p = .inr (p + (R.flatMap (runB W)).length, all) := by
 intro R
 induction R with
 | nil =>
  intro i p f h _ _ hp ht hf
  obtain ⟨f, rfl⟩ : ∃ g, f = g + 1 := ⟨f - 1, by simp at hf; omega⟩
  cases h
  rw [lengthsF, List.take_length, if_neg (by omega), if_neg (by omega)]
  rfl
 | cons x R ih =>
  rintro i p f ⟨m, h1, h2⟩ hi hw hp ht hf
  obtain ⟨f, rfl⟩ : ∃ g, f = g + 1 := ⟨f - 1, by simp at hf; omega⟩
  rw [List.flatMap_cons, List.append_assoc] at ht
  rw [lengths_step pf h1 (hw x (by simp)) hp ht]
  have l1 : p + (runB W x).length ≤ t.length := by have := drop_len ht (.inr hp); rw [List.length_append] at this; omega
  rw [ih m _ f h2 h1.lt.2 (fun y hy => hw y (by simp [hy])) l1 (drop_more ht) (by simp at hf; omega), List.flatMap_cons, List.length_append, Nat.add_assoc]
theorem lengths_cut {t : List Nat} {W : List (List Nat)} (pf : PF W) {all : List Nat} : ∀ (R : List (Nat × Nat × Nat)) (i p f : Nat) (u : List Nat), RunsTo all i R all.length → (∀ x ∈ R, ∃ w, W[x.1]? = some w ∧ w ≠ []) → p ≤ t.length → t.drop p = u → (∃ q, q ≠ [] ∧ u ++ q = R.flatMap (runB W)) → R.length < f →
  lengthsF t W all.length f (all.take i) p = .inl 2 := by
 intro R
 induction R with
 | nil =>
  rintro i p f u h _ hp ht ⟨q, hq, hu⟩ hf
  exact absurd (List.append_eq_nil_iff.1 hu).2 hq
 | cons x R ih =>
  rintro i p f u ⟨m, h1, h2⟩ hw hp ht ⟨q, hq, hu⟩ hf
  obtain ⟨f, rfl⟩ : ∃ g, f = g + 1 := ⟨f - 1, by simp at hf; omega⟩
  rw [List.flatMap_cons] at hu
  rcases pre_split ⟨q, hu⟩ with ⟨q', hq', hu'⟩ | ⟨v, rfl, hv⟩
  ·exact lengths_stop pf h1 (hw x (by simp)) hp ht ⟨q', hq', hu'⟩
  ·rw [lengths_step pf h1 (hw x (by simp)) hp ht]
   have l1 : p + (runB W x).length ≤ t.length := by have := drop_len ht (.inr hp); rw [List.length_append] at this; omega
   rw [List.append_assoc] at hu
   exact ih m _ f v h2 (fun y hy => hw y (by simp [hy])) l1 (drop_more ht) ⟨q, hq, List.append_cancel_left hu⟩ (by simp at hf; omega)
def metaB (me : List Nat) (l : List Nat) : List Nat := l.flatMap fun i => (wordB (me.getD i 0) 3).reverse
theorem length_metaB (me : List Nat) (l : List Nat) : (metaB me l).length = 3 * l.length := by
 induction l with
 | nil => rfl
 | cons i l ih =>
  rw [metaB, List.flatMap_cons, List.length_append, show (List.flatMap (fun i => (wordB (me.getD i 0) 3).reverse) l).length = 3 * l.length from ih, List.length_cons]
  simp; omega
theorem meta_told {t r me : List Nat} (h8 : ∀ i, me.getD i 0 < 8) : ∀ (l : List Nat) (p : Nat) (lens : List Nat), p ≤ t.length → t.drop p = metaB me l ++ r →
  metaF t l p lens = .inr (p + 3 * l.length, l.foldl (fun a i => a.set i (me.getD i 0)) lens) := by
 intro l
 induction l with
 | nil => intro p lens hp ht; rfl
 | cons i l ih =>
  intro p lens hp ht
  have ht' : t.drop p = (wordB (me.getD i 0) 3).reverse ++ (metaB me l ++ r) := by rw [ht, metaB, List.flatMap_cons, List.append_assoc]; rfl
  have hl := drop_len ht' (.inr hp)
  rw [List.length_append, show (wordB (me.getD i 0) 3).reverse.length = 3 by simp] at hl
  have h2 := drop_more ht'
  rw [show (wordB (me.getD i 0) 3).reverse.length = 3 by simp] at h2
  rw [metaF, if_neg (by omega), vl_word ht' (h8 i), ih (p + 3) _ (by omega) h2, List.foldl_cons, List.length_cons]
  congr 2; omega
theorem meta_cut {t me : List Nat} (h8 : ∀ i, me.getD i 0 < 8) : ∀ (l : List Nat) (p : Nat) (lens u : List Nat), p ≤ t.length → t.drop p = u → (∃ q, q ≠ [] ∧ u ++ q = metaB me l) →
  metaF t l p lens = .inl 2 := by
 intro l
 induction l with
 | nil => rintro p lens u hp ht ⟨q, hq, hu⟩; exact absurd (List.append_eq_nil_iff.1 hu).2 hq
 | cons i l ih =>
  rintro p lens u hp ht ⟨q, hq, hu⟩
  have hl := drop_len ht (.inr hp)
  rw [metaB, List.flatMap_cons] at hu
  rw [metaF]
  rcases pre_split ⟨q, hu⟩ with ⟨q', hq', hu'⟩ | ⟨v, rfl, hv⟩
  ·have hl2 := congrArg List.length hu'
   rw [List.length_append, show (wordB (me.getD i 0) 3).reverse.length = 3 by simp] at hl2
   have hq2 : q'.length ≠ 0 := fun h0 => hq' (List.eq_nil_of_length_eq_zero h0)
   rw [if_pos (by omega)]
  ·rw [List.length_append, show (wordB (me.getD i 0) 3).reverse.length = 3 by simp] at hl
   have h2 := drop_more ht
   rw [show (wordB (me.getD i 0) 3).reverse.length = 3 by simp] at h2
   rw [if_neg (by omega)]
   rw [List.append_assoc] at hu
   exact ih (p + 3) _ v (by omega) h2 ⟨q, hq, List.append_cancel_left hu⟩
theorem fold_set (me : List Nat) : ∀ (l lens : List Nat) (j : Nat), (l.foldl (fun a i => a.set i (me.getD i 0)) lens).length = lens.length ∧ (j < lens.length → (l.foldl (fun a i => a.set i (me.getD i 0)) lens).getD j 0 = if j ∈ l then me.getD j 0 else lens.getD j 0) := by
 intro l
 induction l with
 | nil => intro lens j; exact ⟨rfl, fun _ => by simp⟩
 | cons i l ih =>
  intro lens j
  obtain ⟨h1, h2⟩ := ih (lens.set i (me.getD i 0)) j
  rw [List.foldl_cons]
  refine ⟨by rw [h1, List.length_set], fun hj => ?_⟩
  rw [h2 (by rw [List.length_set]; exact hj)]
  by_cases hjl : j ∈ l
  ·rw [if_pos hjl, if_pos (by simp [hjl])]
  ·rw [if_neg hjl]
   by_cases hij : j = i
   ·subst hij
    rw [if_pos (by simp), List.getD_eq_getElem?_getD, List.getElem?_set, if_pos rfl, if_pos hj]; rfl
   ·rw [if_neg (by simp [hij, hjl]), List.getD_eq_getElem?_getD, List.getElem?_set, if_neg (fun e => hij e.symm), ← List.getD_eq_getElem?_getD]
theorem meta_all {me : List Nat} (h : me.length = 19) : orderL.foldl (fun a i => a.set i (me.getD i 0)) (List.replicate 19 0) = me := by
 obtain ⟨h1, _⟩ := fold_set me orderL (List.replicate 19 0) 0
 rw [List.length_replicate] at h1
 refine List.ext_getElem (by rw [h1, h]) fun j hj1 hj2 => ?_
 have hj : j < 19 := by omega
 obtain ⟨_, h2⟩ := fold_set me orderL (List.replicate 19 0) j
 have h2 := h2 (by rw [List.length_replicate]; exact hj)
 have hmem : j ∈ orderL := by
  have : ∀ j, j < 19 → j ∈ orderL := by decide
  exact this j hj
 rw [if_pos hmem, List.getD_eq_getElem?_getD, List.getD_eq_getElem?_getD, List.getElem?_eq_getElem hj1, List.getElem?_eq_getElem hj2] at h2
 exact h2
structure OwnOk (la lb : List Nat) : Prop where
 l1 : la.length = 286
 l2 : lb.length = 30
 a30 : ∀ n ∈ la, n ≤ 15
 b30 : ∀ n ∈ lb, n ≤ 15
 fa : fullC la = true
 oa : OkC la
 ob : OkC lb
 fb : fullC lb = true ∨ (usedL lb ≤ 1 ∧ longL lb ≤ 1)
 eob : 0 < la.getD 256 0
structure MetaOk (me : List Nat) (R : List (Nat × Nat × Nat)) : Prop where
 len : me.length = 19
 le : ∀ n ∈ me, n ≤ 7
 full : fullC me = true
 ok : OkC me
 used : ∀ r ∈ R, 0 < me.getD r.1 0
def ownB (la lb me : List Nat) (R : List (Nat × Nat × Nat)) (l : List TokD) : List Nat :=
 (wordB 29 5).reverse ++ ((wordB 29 5).reverse ++ ((wordB 15 4).reverse ++ (metaB me orderL ++ (R.flatMap (runB (wordsC me)) ++ toldB (wordsC la) (wordsC lb) l))))
theorem bit_runB (W : List (List Nat)) (hW : ∀ w ∈ W, Bit w) (R : List (Nat × Nat × Nat)) : Bit (R.flatMap (runB W)) := by
 intro b hb
 obtain ⟨r, hr, hb⟩ := List.mem_flatMap.1 hb
 rcases List.mem_append.1 hb with h | h
 ·rw [List.getD_eq_getElem?_getD] at h
  cases hg : W[r.1]? with
  | none => rw [hg] at h; simp at h
  | some w => rw [hg] at h; exact hW w (List.mem_of_getElem? hg) b h
 ·exact (bit_wordB _ _).reverse b h
theorem bit_getD {W : List (List Nat)} (hW : ∀ w ∈ W, Bit w) (i : Nat) : Bit (W.getD i []) := by
 intro b hb
 rw [List.getD_eq_getElem?_getD] at hb
 cases hg : W[i]? with
 | none => rw [hg] at hb; simp at hb
 | some w => rw [hg] at hb; exact hW w (List.mem_of_getElem? hg) b hb
theorem bit_told {A B : List (List Nat)} (hA : ∀ w ∈ A, Bit w) (hB : ∀ w ∈ B, Bit w) (l : List TokD) : Bit (toldB A B l) := by
 have hm : ∀ far n, Bit (moreF far n) := fun far n => (bit_wordB _ _).reverse
 unfold toldB
 refine Bit.append ?_ (bit_getD hA _)
 intro b hb
 obtain ⟨k, hk, hb⟩ := List.mem_flatMap.1 hb
 unfold tokB at hb
 split at hb
 ·exact bit_getD hA _ b hb
 ·exact ((bit_getD hA _).append ((hm _ _).append ((bit_getD hB _).append (hm _ _)))) b hb
theorem bit_metaB (me l : List Nat) : Bit (metaB me l) := by
 intro b hb
 obtain ⟨r, hr, hb⟩ := List.mem_flatMap.1 hb
 exact (bit_wordB _ _).reverse b hb
theorem own_good {la lb : List Nat} (h : OwnOk la lb) : GoodU (wordsC la) (wordsC lb) :=
 ⟨pf_wordsC h.oa fun n hn => by have := h.a30 n hn; omega, pf_wordsC h.ob fun n hn => by have := h.b30 n hn; omega, word_there (by rw [h.l1]; omega) h.eob⟩
theorem own_blk {b : List UInt8} {i j p : Nat} {last : Bool} {l : List TokD} {la lb me : List Nat} {R : List (Nat × Nat × Nat)} (h : TellsTo b i l j) (hi : i ≤ b.length) (ok : OwnOk la lb) (mo : MetaOk me R) (hR : RunsTo (la ++ lb) 0 R (la ++ lb).length)
  (hus : ∀ k ∈ l, usedW (wordsC la) (wordsC lb) k) : BlkS b p i j last (headL last 2 ++ ownB la lb me R l) := by
 obtain ⟨g1, g2, _⟩ := h.le hi
 have G := own_good ok
 have hlen := toldU_len G l i j h hus
 have hall : (la ++ lb).length = 316 := by rw [List.length_append, ok.l1, ok.l2]
 have hRl := (hR.le (Nat.zero_le _)).2.2
 rw [hall] at hRl
 have hm8 : ∀ i, me.getD i 0 < 8 := fun i => by
  rw [List.getD_eq_getElem?_getD]
  cases hg : me[i]? with
  | none => simp
  | some n => have := mo.le n (List.mem_of_getElem? hg); simp; omega
 have pfm : PF (wordsC me) := pf_wordsC mo.ok fun n hn => by have := mo.le n hn; omega
 have hRw : ∀ x ∈ R, ∃ w, (wordsC me)[x.1]? = some w ∧ w ≠ [] := fun x hx => by
  have h0 := mo.used x hx
  refine word_there ?_ h0
  rcases Nat.lt_or_ge x.1 me.length with h | h
  ·exact h
  ·rw [List.getD_eq_getElem?_getD, List.getElem?_eq_none h] at h0; simp at h0
 have w5 : ∀ v, (wordB v 5).reverse.length = 5 := fun v => by simp
 have w4 : ∀ v, (wordB v 4).reverse.length = 4 := fun v => by simp
 have hml : (metaB me orderL).length = 57 := by rw [length_metaB]; rfl
 have hord : orderL.take 19 = orderL := rfl
 have hwm : wordsF me 0 = .inr (wordsC me) := words_full mo.ok (fun n hn => by have := mo.le n hn; omega) mo.full 0
 have hwa : wordsF la 0 = .inr (wordsC la) := words_full ok.oa (fun n hn => by have := ok.a30 n hn; omega) ok.fa 0
 have hwb : wordsF lb 1 = .inr (wordsC lb) := by
  rcases ok.fb with hf | ⟨h1, h2⟩
  ·exact words_full ok.ob (fun n hn => by have := ok.b30 n hn; omega) hf 1
  ·exact words_lone ok.ob (fun n hn => by have := ok.b30 n hn; omega) h1 h2
 have he256 : ¬ (la ++ lb).getD 256 0 = 0 := by
  have := ok.eob
  rw [List.getD_eq_getElem?_getD, List.getElem?_append_left (by rw [ok.l1]; omega), ← List.getD_eq_getElem?_getD]; omega
 have tk : (la ++ lb).take 286 = la := by rw [← ok.l1]; exact List.take_left
 have dk : (la ++ lb).drop 286 = lb := by rw [← ok.l1]; exact List.drop_left
 have hb : Bit (ownB la lb me R l) := (bit_wordB _ _).reverse.append ((bit_wordB _ _).reverse.append ((bit_wordB _ _).reverse.append ((bit_metaB _ _).append ((bit_runB _ (bit_wordsC _) _).append (bit_told (bit_wordsC _) (bit_wordsC _) l)))))
 refine blk_of_part (by omega) hb g1 g2 (fun t r most hp ht hm => ?_) (fun t u most hp ht hu hm => ?_)
 ·unfold ownB at ht ⊢
  rw [List.append_assoc] at ht
  have l0 := drop_len ht (.inr hp)
  rw [List.length_append, w5, List.length_append, List.length_append, w5, List.length_append, w4] at l0
  have v1 : vl t (p + 3) 5 = 29 := vl_word ht (by decide)
  have h1 := drop_more ht
  rw [w5, List.append_assoc] at h1
  have v2 : vl t (p + 3 + 5) 5 = 29 := vl_word h1 (by decide)
  have h2 := drop_more h1
  rw [w5, List.append_assoc] at h2
  have v3 : vl t (p + 3 + 10) 4 = 15 := vl_word h2 (by decide)
  have h3 := drop_more h2
  rw [w4, List.append_assoc] at h3
  have l3 := drop_len h3 (.inr (by omega))
  rw [List.length_append, hml] at l3
  have h4 := drop_more h3
  rw [hml, List.append_assoc] at h4
  have l4 := drop_len h4 (.inr (by omega))
  rw [List.length_append, List.length_append] at l4
  have h5 := drop_more h4
  rw [partF, if_neg (by omega), if_neg (by omega), if_pos rfl, dynamicF, if_neg (by omega)]
  simp only [v1, v2, v3]
  rw [if_neg (by omega), hord, meta_told hm8 orderL (p + 3 + 14) _ (by omega) h3, meta_all mo.len]
  simp only
  rw [hwm]
  simp only
  have hL := lengths_told (t := t) (r := toldB (wordsC la) (wordsC lb) l ++ r) pfm R 0 (p + 3 + 10 + 4 + 57) 317 hR (by omega) hRw (by omega) h4 (by omega)
  rw [hall, List.take_zero] at hL
  rw [show p + 3 + 14 + 3 * orderL.length = p + 3 + 10 + 4 + 57 by have : orderL.length = 19 := rfl; omega, show (29 + 257) + (29 + 1) = 316 by rfl, hL]
  simp only
  rw [if_neg he256, show 29 + 257 = 286 by rfl, tk, dk, blockL, hwa]
  simp only
  rw [hwb]
  simp only
  rw [blockU_told G l _ _ i j h hus hi (by omega) h5 (by omega) hm]
  by_cases hm2 : most < j
  ·rw [if_pos hm2, if_pos hm2]
  ·rw [if_neg hm2, if_neg hm2]
   simp only [List.length_append, w5, w4, hml]
   congr 2
   omega
 ·obtain ⟨q, hq, hu⟩ := hu
  unfold ownB at hu
  have hq2 : q.length ≠ 0 := fun h0 => hq (List.eq_nil_of_length_eq_zero h0)
  have htl := drop_len ht (.inr hp)
  rw [partF, if_neg (by omega), if_neg (by omega), if_pos rfl, dynamicF]
  by_cases hs : t.length < p + 3 + 14
  ·rw [if_pos hs]
  ·rw [if_neg hs]
   have hge : 14 ≤ u.length := by omega
   obtain ⟨v, rfl⟩ : ∃ v, u = (wordB 29 5).reverse ++ ((wordB 29 5).reverse ++ ((wordB 15 4).reverse ++ v)) := by
    rcases pre_split ⟨q, hu⟩ with ⟨q1, _, e1⟩ | ⟨v1, rfl, e1⟩
    ·have := congrArg List.length e1; rw [List.length_append, w5] at this; omega
    ·rw [List.append_assoc] at hu
     have hu := List.append_cancel_left hu
     rw [List.length_append, w5] at hge
     rcases pre_split ⟨q, hu⟩ with ⟨q2, _, e2⟩ | ⟨v2, rfl, e2⟩
     ·have := congrArg List.length e2; rw [List.length_append, w5] at this; omega
     ·rw [List.append_assoc] at hu
      have hu := List.append_cancel_left hu
      rw [List.length_append, w5] at hge
      rcases pre_split ⟨q, hu⟩ with ⟨q3, hq3, e3⟩ | ⟨v3, rfl, e3⟩
      ·have hz3 : q3.length ≠ 0 := fun h0 => hq3 (List.eq_nil_of_length_eq_zero h0)
       have := congrArg List.length e3; rw [List.length_append, w4] at this; omega
      ·exact ⟨v3, rfl⟩
   have hu3 : v ++ q = metaB me orderL ++ (R.flatMap (runB (wordsC me)) ++ toldB (wordsC la) (wordsC lb) l) := by
    rw [List.append_assoc] at hu
    have hu := List.append_cancel_left hu
    rw [List.append_assoc] at hu
    have hu := List.append_cancel_left hu
    rw [List.append_assoc] at hu
    exact List.append_cancel_left hu
   have v1 : vl t (p + 3) 5 = 29 := vl_word ht (by decide)
   have h1 := drop_more ht
   rw [w5] at h1
   have v2 : vl t (p + 3 + 5) 5 = 29 := vl_word h1 (by decide)
   have h2 := drop_more h1
   rw [w5] at h2
   have v3 : vl t (p + 3 + 10) 4 = 15 := vl_word h2 (by decide)
   have h3 := drop_more h2
   rw [w4] at h3
   simp only [v1, v2, v3]
   rw [if_neg (by omega), hord]
   rcases pre_split ⟨q, hu3⟩ with ⟨q4, hq4, e4⟩ | ⟨v4, rfl, e4⟩
   ·rw [meta_cut hm8 orderL (p + 3 + 14) _ v (by omega) h3 ⟨q4, hq4, e4⟩]
   ·rw [meta_told hm8 orderL (p + 3 + 14) _ (by omega) h3, meta_all mo.len]
    simp only
    rw [hwm]
    simp only
    rw [List.append_assoc] at hu3
    have hu4 := List.append_cancel_left hu3
    have l3 := drop_len h3 (.inr (by omega))
    rw [List.length_append, hml] at l3
    have h4 := drop_more h3
    rw [hml] at h4
    have l4 := drop_len h4 (.inr (by omega))
    rw [show p + 3 + 14 + 3 * orderL.length = p + 3 + 10 + 4 + 57 by have : orderL.length = 19 := rfl; omega, show (29 + 257) + (29 + 1) = 316 by rfl]
    rcases pre_split ⟨q, hu4⟩ with ⟨q5, hq5, e5⟩ | ⟨v5, rfl, e5⟩
    ·have hL := lengths_cut (t := t) pfm R 0 (p + 3 + 10 + 4 + 57) 317 v4 hR hRw (by omega) h4 ⟨q5, hq5, e5⟩ (by omega)
     rw [hall, List.take_zero] at hL
     rw [hL]
    ·have hL := lengths_told (t := t) (r := v5) pfm R 0 (p + 3 + 10 + 4 + 57) 317 hR (by omega) hRw (by omega) h4 (by omega)
     rw [hall, List.take_zero] at hL
     rw [hL]
     simp only
     rw [if_neg he256, show 29 + 257 = 286 by rfl, tk, dk, blockL, hwa]
     simp only
     rw [hwb]
     simp only
     have h5 := drop_more h4
     rw [List.length_append] at l4
     have l5 := drop_len h5 (.inr (by omega))
     rw [List.append_assoc] at hu4
     exact blockU_cut G l _ _ i j v5 h hus hi hm (by omega) h5 ⟨q, hq, List.append_cancel_left hu4⟩ (by omega)
end Go.Proofs.YtboflbdniogcdaaGreatDoor
namespace Go.Proofs.YtboflbdniogcdaaGreatDoor
open Go.RowKit Go.Mz
set_option linter.unusedVariables false
set_option linter.unusedSimpArgs false
set_option maxRecDepth 10000
def okS' (k : TokD) : Prop := k.len = 0 ∨ (3 ≤ k.len ∧ k.len ≤ 258 ∧ 1 ≤ k.dist ∧ k.dist ≤ 32768)
theorem okS_tells {b : List UInt8} : ∀ {l : List TokD} {i j : Nat}, TellsTo b i l j → ∀ k ∈ l, okS' k := by
 intro l
 induction l with
 | nil => intro i j _ k hk; cases hk
 | cons x l ih =>
  rintro i j ⟨m, h1, h2⟩ k hk
  rcases List.mem_cons.1 hk with rfl | hk
  ·rcases h1.ok with h | ⟨a, b, c, d, e⟩
   ·exact .inl h
   ·exact .inr ⟨a, b, c, e⟩
  ·exact ih h2 k hk
def litP (k : TokD) : Nat := if k.len = 0 then k.lit.toNat else 257 + plF false k.len.toNat
def upAt (l : List Nat) (p : Nat) : List Nat := l.set p (l.getD p 0 + 1)
def upD (a : List Nat) (k : TokD) : List Nat := if k.len = 0 then a else upAt a (plF true k.dist.toNat)
def lit0 : List Nat := (List.replicate 286 0).set 256 1
def dist0 : List Nat := List.replicate 30 0
def litN (T : List TokD) : List Nat := T.foldl (fun a k => upAt a (litP k)) lit0
def distN (T : List TokD) : List Nat := T.foldl upD dist0
def litC (T : List TokD) : List Nat := if T.length = 0 then (litN T).set 0 1 else litN T
theorem length_upAt (l : List Nat) (p : Nat) : (upAt l p).length = l.length := by simp [upAt]
theorem length_upD (l : List Nat) (k : TokD) : (upD l k).length = l.length := by unfold upD; split <;> simp [upAt]
theorem upAt_getD (l : List Nat) (p i : Nat) (h : p < l.length) : (upAt l p).getD i 0 = l.getD i 0 + if i = p then 1 else 0 := by
 unfold upAt
 rw [List.getD_eq_getElem?_getD, List.getElem?_set]
 by_cases e : p = i
 ·subst e; rw [if_pos rfl, if_pos h, if_pos rfl]; rfl
 ·rw [if_neg e, if_neg (fun h => e h.symm), ← List.getD_eq_getElem?_getD]; rfl
theorem litN_snoc (T : List TokD) (k : TokD) : litN (T ++ [k]) = upAt (litN T) (litP k) := by simp [litN, List.foldl_append]
theorem distN_snoc (T : List TokD) (k : TokD) : distN (T ++ [k]) = upD (distN T) k := by simp [distN, List.foldl_append]
theorem length_litN : ∀ T, (litN T).length = 286 := by
 have key : ∀ (T : List TokD) (a : List Nat), (T.foldl (fun a k => upAt a (litP k)) a).length = a.length := by
  intro T
  induction T with
  | nil => intro a; rfl
  | cons k T ih => intro a; rw [List.foldl_cons, ih, length_upAt]
 intro T; rw [litN, key, lit0, List.length_set, List.length_replicate]
theorem length_distN : ∀ T, (distN T).length = 30 := by
 have key : ∀ (T : List TokD) (a : List Nat), (T.foldl upD a).length = a.length := by
  intro T
  induction T with
  | nil => intro a; rfl
  | cons k T ih => intro a; rw [List.foldl_cons, ih, length_upD]
 intro T; rw [distN, key]; simp [dist0]
theorem litP_lt {k : TokD} (h : okS' k) : litP k < 286 ∧ litP k ≠ 256 := by
 unfold litP
 split
 ·have : k.lit.toNat < 256 := UInt8.toNat_lt _
  omega
 ·obtain ⟨h1, h2, _⟩ := h.resolve_left (by assumption)
  have := (plF_lens (n := k.len.toNat) (by omega) (by omega)).1
  omega
theorem distP_lt {k : TokD} (h : okS' k) (h0 : k.len ≠ 0) : plF true k.dist.toNat < 30 := by
 obtain ⟨h1, h2, h3, h4⟩ := h.resolve_left h0
 have := (plF_dists (n := k.dist.toNat) (by omega) (by omega)).1
 omega
theorem lit0_getD (i : Nat) : lit0.getD i 0 = if i = 256 then 1 else 0 := by
 unfold lit0
 rw [List.getD_eq_getElem?_getD, List.getElem?_set]
 by_cases e : i = 256
 ·subst e; rw [if_pos rfl, if_pos (by rw [List.length_replicate]; omega), if_pos rfl]; exact Option.getD_some
 ·rw [if_neg (fun h => e h.symm), if_neg e, List.getElem?_replicate]
  split <;> rfl
theorem dist0_getD (i : Nat) : dist0.getD i 0 = 0 := by
 unfold dist0
 rw [List.getD_eq_getElem?_getD, List.getElem?_replicate]
 split <;> rfl
theorem snoc_ind {α : Type} {P : List α → Prop} (h0 : P []) (h1 : ∀ l a, P l → P (l ++ [a])) : ∀ l, P l := by
 have key : ∀ l : List α, P l.reverse := by
  intro l
  induction l with
  | nil => exact h0
  | cons a l ih => rw [List.reverse_cons]; exact h1 _ _ ih
 intro l
 have := key l.reverse
 rwa [List.reverse_reverse] at this
theorem litN_at : ∀ (T : List TokD), (∀ k ∈ T, okS' k) → ∀ i, (litN T).getD i 0 = (if i = 256 then 1 else 0) + (T.filter fun k => decide (litP k = i)).length := by
 refine snoc_ind ?_ fun T k ih => ?_
 ·intro _ i; show lit0.getD i 0 = _; rw [lit0_getD]; rfl
 ·intro hok i
  have hk := (litP_lt (hok k (by simp))).1
  rw [litN_snoc, upAt_getD _ _ _ (by rw [length_litN]; exact hk), ih (fun x hx => hok x (by simp [hx])), List.filter_append, List.length_append, Nat.add_assoc]
  congr 2
  by_cases e : litP k = i
  ·rw [if_pos e.symm, List.filter_cons, if_pos (by simpa using e)]; rfl
  ·rw [if_neg (fun h => e h.symm), List.filter_cons, if_neg (by simpa using e)]; rfl
theorem distN_at : ∀ (T : List TokD), (∀ k ∈ T, okS' k) → ∀ i, (distN T).getD i 0 = (T.filter fun k => decide (k.len ≠ 0 ∧ plF true k.dist.toNat = i)).length := by
 refine snoc_ind ?_ fun T k ih => ?_
 ·intro _ i; show dist0.getD i 0 = _; rw [dist0_getD]; rfl
 ·intro hok i
  rw [distN_snoc, List.filter_append, List.length_append, ← ih (fun x hx => hok x (by simp [hx]))]
  unfold upD
  by_cases h0 : k.len = 0
  ·rw [if_pos h0, List.filter_cons, if_neg (by simp [h0])]; rfl
  ·rw [if_neg h0, upAt_getD _ _ _ (by rw [length_distN]; exact distP_lt (hok k (by simp)) h0)]
   congr 1
   by_cases e : plF true k.dist.toNat = i
   ·rw [if_pos e.symm, List.filter_cons, if_pos (by simp [h0, e])]; rfl
   ·rw [if_neg (fun h => e h.symm), List.filter_cons, if_neg (by simp [e])]; rfl
theorem getD_le_of {l : List Nat} {m : Nat} (h : ∀ i, l.getD i 0 ≤ m) : ∀ n ∈ l, n ≤ m := by
 intro n hn
 obtain ⟨i, hi, rfl⟩ := List.mem_iff_getElem.1 hn
 have := h i
 rw [List.getD_eq_getElem?_getD, List.getElem?_eq_getElem hi] at this
 exact this
theorem litN_le {T : List TokD} (hok : ∀ k ∈ T, okS' k) : ∀ n ∈ litN T, n ≤ T.length + 1 := getD_le_of fun i => by
 rw [litN_at T hok]
 have := List.length_filter_le (fun k => decide (litP k = i)) T
 split <;> omega
theorem distN_le {T : List TokD} (hok : ∀ k ∈ T, okS' k) : ∀ n ∈ distN T, n ≤ T.length := getD_le_of fun i => by
 rw [distN_at T hok]
 exact List.length_filter_le _ T
theorem length_litC (T : List TokD) : (litC T).length = 286 := by unfold litC; split <;> simp [length_litN]
theorem litC_le {T : List TokD} (hok : ∀ k ∈ T, okS' k) : ∀ n ∈ litC T, n ≤ T.length + 1 := by
 unfold litC
 split
 ·intro n hn
  rcases List.mem_or_eq_of_mem_set hn with h | rfl
  ·exact litN_le hok n h
  ·omega
 ·exact litN_le hok
theorem comes_le (o : List Nat) : comes o ≤ o.length := by
 rw [comes, sing, List.length_map]
 have := List.length_filter_le (fun i => decide (0 < o.getD i 0)) (List.range o.length)
 rwa [List.length_range] at this
theorem comes_two {o : List Nat} {i j : Nat} (hi : 0 < o.getD i 0) (hj : 0 < o.getD j 0) (h : i ≠ j) : 2 ≤ comes o := by
 have lt : ∀ i, 0 < o.getD i 0 → i < o.length := fun i hi => by
  rcases Nat.lt_or_ge i o.length with h | h
  ·exact h
  ·rw [List.getD_eq_getElem?_getD, List.getElem?_eq_none h] at hi; cases hi
 rw [comes, sing, List.length_map]
 have h1 : i ∈ (List.range o.length).filter fun i => decide (0 < o.getD i 0) := List.mem_filter.2 ⟨List.mem_range.2 (lt _ hi), by simpa using hi⟩
 have h2 : j ∈ (List.range o.length).filter fun i => decide (0 < o.getD i 0) := List.mem_filter.2 ⟨List.mem_range.2 (lt _ hj), by simpa using hj⟩
 generalize (List.range o.length).filter (fun i => decide (0 < o.getD i 0)) = L at *
 match L, h1, h2 with
 | [x], h1, h2 => exact absurd ((List.mem_singleton.1 h1).trans (List.mem_singleton.1 h2).symm) h
 | x :: y :: L, _, _ => simp
theorem usedL_comes {o l : List Nat} {most : Nat} (h : LimOk o most l) : usedL l = comes o := by
 rw [usedL, comes, sing, List.length_map]
 have e : ∀ m, m ≤ l.length → ((l.take m).filter fun n => decide (0 < n)).length = ((List.range m).filter fun i => decide (0 < o.getD i 0)).length := by
  intro m
  induction m with
  | zero => intro _; rfl
  | succ m ih =>
   intro hm
   rw [List.take_succ_eq_append_getElem (by omega), List.filter_append, List.range_succ, List.filter_append, List.length_append, List.length_append, ih (by omega)]
   congr 1
   have h1 := h.pos m (by rw [← h.len]; omega)
   rw [List.getD_eq_getElem?_getD, List.getElem?_eq_getElem (by omega : m < l.length)] at h1
   by_cases hp : 0 < o.getD m 0
   ·rw [List.filter_cons, if_pos (by simpa using h1.2 hp), List.filter_cons, if_pos (by simpa using hp)]; rfl
   ·rw [List.filter_cons, if_neg (fun hq => hp (h1.1 (by simpa using hq))), List.filter_cons, if_neg (by simpa using hp)]; rfl
 have := e l.length (Nat.le_refl _)
 rwa [List.take_length, h.len] at this
theorem lone_ok {l : List Nat} (h1 : ∀ n ∈ l, n ≤ 1) (hu : usedL l ≤ 1) : OkC l ∧ longL l ≤ 1 := by
 refine ⟨?_, ?_⟩
 ·have hs : ∀ n, krS n l ≤ 2 ^ (n - 1) * usedL l := by
   intro n
   clear hu
   induction l with
   | nil => simp [krS]
   | cons x l ih =>
    have := ih fun n hn => h1 n (by simp [hn])
    have hx := h1 x (by simp)
    rw [krS_cons, usedL, List.filter_cons]
    by_cases h0 : 0 < x
    ·rw [if_pos (by simpa using h0), List.length_cons, Nat.mul_succ, Nat.add_comm]
     refine Nat.add_le_add this ?_
     obtain rfl : x = 1 := by omega
     unfold krT
     split
     ·exact Nat.le_refl _
     ·exact Nat.zero_le _
    ·rw [if_neg (by simpa using h0)]
     have e : krT n x = 0 := by unfold krT; rw [if_neg (by omega)]
     rw [e, Nat.zero_add]; exact this
  intro n hn
  have e : (codeC l n + cntC l n) * 2 = krS (n + 1) l := by rw [codeC_kr, krS_step]
  have := hs (n + 1)
  have h2 : 2 ^ n * usedL l ≤ 2 ^ n * 1 := Nat.mul_le_mul_left _ hu
  rw [Nat.add_sub_cancel] at this
  omega
 ·have key : ∀ (l : List Nat) (a : Nat), a ≤ 1 → (∀ n ∈ l, n ≤ 1) → l.foldl max a ≤ 1 := by
   intro l
   induction l with
   | nil => intro a ha _; exact ha
   | cons x l ih => intro a ha h; exact ih _ (by have := h x (by simp); omega) fun n hn => h n (by simp [hn])
  exact key l 0 (by omega) h1
theorem own_ok {T : List TokD} (hok : ∀ k ∈ T, okS' k) {la lb : List Nat} (ha : LimOk (litC T) 15 la) (hb : LimOk (distN T) 15 lb) : OwnOk la lb ∧ ∀ k ∈ T, usedW (wordsC la) (wordsC lb) k := by
 have h256 : 0 < (litN T).getD 256 0 := by rw [litN_at T hok, if_pos rfl]; omega
 have h256c : 0 < (litC T).getD 256 0 := by
  unfold litC
  split
  ·rw [List.getD_eq_getElem?_getD, List.getElem?_set_ne (by omega), ← List.getD_eq_getElem?_getD]; exact h256
  ·exact h256
 have two : 2 ≤ comes (litC T) := by
  rcases Nat.eq_zero_or_pos T.length with h | h
  ·refine comes_two (i := 0) (j := 256) ?_ h256c (by omega)
   unfold litC
   rw [if_pos h, List.getD_eq_getElem?_getD, List.getElem?_set_self (by rw [length_litN]; omega)]; exact Nat.one_pos
  ·obtain ⟨k, R, rfl⟩ : ∃ k R, T = k :: R := by
    cases T with
    | nil => simp at h
    | cons k R => exact ⟨k, R, rfl⟩
   obtain ⟨p1, p2⟩ := litP_lt (hok k (by simp))
   refine comes_two (i := litP k) (j := 256) ?_ h256c p2
   unfold litC
   rw [if_neg (by simp), litN_at _ hok, if_neg p2, List.filter_cons, if_pos (by simp)]
   simp
 obtain ⟨fa, oa⟩ := kraft_full (ha.full two)
 have hla : la.length = 286 := by rw [ha.len, length_litC]
 have hlb : lb.length = 30 := by rw [hb.len, length_distN]
 have hB : OkC lb ∧ (fullC lb = true ∨ (usedL lb ≤ 1 ∧ longL lb ≤ 1)) := by
  by_cases h2 : 2 ≤ comes (distN T)
  ·obtain ⟨f, o⟩ := kraft_full (hb.full h2); exact ⟨o, .inl f⟩
  ·have hu : usedL lb ≤ 1 := by rw [usedL_comes hb]; omega
   obtain ⟨o, l1⟩ := lone_ok (hb.one (by omega)) hu
   exact ⟨o, .inr ⟨hu, l1⟩⟩
 refine ⟨⟨hla, hlb, ha.le, hb.le, fa, oa, hB.1, hB.2, ?_⟩, fun k hk => ?_⟩
 ·exact (ha.pos 256 (by rw [length_litC]; omega)).2 h256c
 ·obtain ⟨p1, p2⟩ := litP_lt (hok k hk)
  have hT0 : T.length ≠ 0 := fun h => by rw [List.eq_nil_of_length_eq_zero h] at hk; cases hk
  have hpos : 0 < la.getD (litP k) 0 := by
   refine (ha.pos _ (by rw [length_litC]; exact p1)).2 ?_
   unfold litC
   rw [if_neg hT0, litN_at T hok]
   have : 0 < (T.filter fun x => decide (litP x = litP k)).length := List.length_pos_of_mem (List.mem_filter.2 ⟨hk, by simp⟩)
   omega
  have hw := word_there (by rw [hla]; exact p1) hpos
  unfold usedW
  by_cases h0 : k.len = 0
  ·rw [if_pos h0]; unfold litP at hw; rw [if_pos h0] at hw; exact hw
  ·rw [if_neg h0]
   unfold litP at hw; rw [if_neg h0] at hw
   refine ⟨hw, ?_⟩
   have q := distP_lt (hok k hk) h0
   refine word_there (by rw [hlb]; exact q) ((hb.pos _ (by rw [length_distN]; exact q)).2 ?_)
   rw [distN_at T hok]
   exact List.length_pos_of_mem (List.mem_filter.2 ⟨hk, by simp [h0]⟩)
end Go.Proofs.YtboflbdniogcdaaGreatDoor
namespace Go.Proofs.YtboflbdniogcdaaGreatDoor
open Go.RowKit Go.Mz
set_option linter.unusedVariables false
set_option linter.unusedSimpArgs false
set_option maxRecDepth 100000
def tokC (k : TokD) : List Value := [.int .u8 (k.lit.toNat : Int), .int .i64 k.len, .int .i64 k.dist]
def toksC (l : List TokD) : List Value := l.flatMap tokC
theorem toksC_get (l : List TokD) (k : Nat) (o : TokD) (h : l[k]? = some o) (j : Nat) (hj : j < 3) : (toksC l)[k * 3 + j]? = (tokC o)[j]? :=
 flat_get tokC 3 (fun _ => rfl) l k o h j hj
theorem reads_tok {w : World} {a : Option Addr} {cap n : Nat} {l : List TokD} (h : Reads w 3 (.slice a n cap) n (toksC l)) {k : Nat} {o : TokD} (hk : l[k]? = some o) :
  ∃ b off, a = some ⟨b, off, none⟩ ∧ w.cell? ⟨b, off + k * 3, none⟩ = some (.int .u8 (o.lit.toNat : Int)) ∧ w.cell? ⟨b, off + k * 3 + 1, none⟩ = some (.int .i64 o.len) ∧ w.cell? ⟨b, off + k * 3 + 2, none⟩ = some (.int .i64 o.dist) := by
 obtain ⟨hl, ⟨e, rfl⟩ | ⟨⟨b, off, spot⟩, c, e, h1, h2, h3⟩⟩ := h
 ·have : l = [] := by
   cases l with
   | nil => rfl
   | cons p l => simp [toksC, tokC] at hl
  simp [this] at hk
 ·cases e
  have g := fun j hj => toksC_get l k o hk j hj
  have h00 : ∃ u, (toksC l)[0]? = some u := by
   have : k < l.length := (List.getElem?_eq_some_iff.1 hk).1
   cases l with
   | nil => simp at this
   | cons p l => exact ⟨_, rfl⟩
  obtain ⟨u0, hu0⟩ := h00
  have hspot : spot = none := by simpa [Addr.add] using World.cell?_spot (h3 0 u0 hu0)
  subst hspot
  refine ⟨b, off, rfl, ?_, ?_, ?_⟩
  ·have := h3 _ _ ((g 0 (by decide)).trans rfl); rw [Addr.add_lit] at this; exact this
  ·have := h3 _ _ ((g 1 (by decide)).trans rfl); rw [Addr.add_lit] at this; exact this
  ·have := h3 _ _ ((g 2 (by decide)).trans rfl); rw [Addr.add_lit] at this; exact this
end Go.Proofs.YtboflbdniogcdaaGreatDoor
namespace Go.Proofs.YtboflbdniogcdaaGreatDoor
open Go.RowKit Go.Mz
set_option linter.unusedVariables false
set_option linter.unusedSimpArgs false
set_option maxRecDepth 100000
theorem bodyPost_ret2c {P : Program} {fn : Func} {R : Ending → World → Prop} {x u : Nat} {ty e : TypeId} {cs : Array Value} {fr : Nat × Nat} {b : Nat} {a : Act} {w : World} {d : TypeDesc} (h : fn.results = #[.cell x ty, .tmp u])
  (hx : a.tmps.getD x undef = .pointer (some ⟨b, 0, none⟩)) (hg : w.heap[b]? = some (.cells cs e fr)) (hu : P.underlying ty = some d) (hd : (match d with | .struct _ | .array _ _ => true | _ => false) = true) (hi : (P.info? ty).map (·.size) = some cs.size)
  (hf : a.defers = []) (hR : R (.returned (.tuple #[.agg cs, a.tmps.getD u undef])) w) : bodyPost P fn R .ret a w := by
 refine ⟨hf, _, ?_, hR⟩
 have hx' : a.tmps[x]?.getD undef = .pointer (some ⟨b, 0, none⟩) := by simpa using hx
 simp [results, h, hx', asAddr, run_loadVar_row w b e ty cs fr d hg hu hd hi]
end Go.Proofs.YtboflbdniogcdaaGreatDoor
