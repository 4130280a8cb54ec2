/-
  Layer 23: layouts (package chunks): which are right, and how many parts they have.
-/
import Derived.Test.YthoegjdkeooenaaTagW
namespace Go.Proofs.Ythoegjdkeooenaa
open Go.RowKit Go.Mz
set_option linter.unusedVariables false
set_option linter.unusedSimpArgs false
set_option maxRecDepth 100000

def layA (l : LayD) : Array Value := #[.int .i64 l.width, .int .i64 l.height, .bool l.tiled, .int .i64 l.w, .int .i64 l.h]
theorem wrap_mul {a b : Int} (h1 : 1 ≤ a) (h2 : a ≤ 32768) (h3 : 1 ≤ b) (h4 : b ≤ 32768) : IntKind.i64.wrap (a * b) = a * b := by
  have := Int.mul_le_mul h2 h4 (by omega) (by omega)
  have := Int.mul_nonneg (show 0 ≤ a by omega) (show 0 ≤ b by omega)
  exact IntWalk.i64_in _ (by omega)
set_option maxHeartbeats 40000000 in
theorem right_any {w0 w : World} {F : SProp} (h : St w0 w F) (l : LayD) :
    Calls Try.prog 58 #[.agg (layA l)] w fun r w' => r = .returned (.bool (decide (rightL l))) ∧ St w0 w' F := by
  have hA := h.alloc (.cells (layA l) 26)
  have HA := Lib.hid hA.right
  clear h hA
  obtain ⟨bb, hbb⟩ : ∃ bb, bb = decide (rightL l) := ⟨_, rfl⟩
  rw [← hbb]
  obtain ⟨W, H, t, a, b⟩ := l
  unfold rightL at hbb
  unfold layA at HA ⊢
  simp only at hbb HA ⊢
  have HB := Lib.hid hbb
  clear hbb
  by_cases c0 : W < 1
  · skip
    obtain rfl : bb = false := by
      rw [HB.out]
      simp only [decide_eq_false_iff_not]
      try simp only [Bool.false_eq_true, if_false, if_true]
      first | omega | (simp; omega)
    clear HB
    go_enter Try.func58, Try.ntmps58
    go_wp2_with fail
    go_ret
    first | exact ⟨rfl, HA.out⟩ | exact ⟨congrArg (fun b => Ending.returned (.bool b)) (by simp; omega), HA.out⟩
  by_cases c1 : H < 1
  · skip
    obtain rfl : bb = false := by
      rw [HB.out]
      simp only [decide_eq_false_iff_not]
      try simp only [Bool.false_eq_true, if_false, if_true]
      first | omega | (simp; omega)
    clear HB
    go_enter Try.func58, Try.ntmps58
    go_wp2_with fail
    go_ret
    first | exact ⟨rfl, HA.out⟩ | exact ⟨congrArg (fun b => Ending.returned (.bool b)) (by simp; omega), HA.out⟩
  by_cases c2 : 32768 < W
  · skip
    obtain rfl : bb = false := by
      rw [HB.out]
      simp only [decide_eq_false_iff_not]
      try simp only [Bool.false_eq_true, if_false, if_true]
      first | omega | (simp; omega)
    clear HB
    go_enter Try.func58, Try.ntmps58
    go_wp2_with fail
    go_ret
    first | exact ⟨rfl, HA.out⟩ | exact ⟨congrArg (fun b => Ending.returned (.bool b)) (by simp; omega), HA.out⟩
  by_cases c3 : 32768 < H
  · skip
    obtain rfl : bb = false := by
      rw [HB.out]
      simp only [decide_eq_false_iff_not]
      try simp only [Bool.false_eq_true, if_false, if_true]
      first | omega | (simp; omega)
    clear HB
    go_enter Try.func58, Try.ntmps58
    go_wp2_with fail
    go_ret
    first | exact ⟨rfl, HA.out⟩ | exact ⟨congrArg (fun b => Ending.returned (.bool b)) (by simp; omega), HA.out⟩
  have hw1 := wrap_mul (a := W) (b := H) (by omega) (by omega) (by omega) (by omega)
  by_cases c4 : 4194304 < W * H
  · skip
    obtain rfl : bb = false := by
      rw [HB.out]
      simp only [decide_eq_false_iff_not]
      try simp only [Bool.false_eq_true, if_false, if_true]
      first | omega | (simp; omega)
    clear HB
    go_enter Try.func58, Try.ntmps58
    go_wp2_with fail
    go_ret
    first | exact ⟨rfl, HA.out⟩ | exact ⟨congrArg (fun b => Ending.returned (.bool b)) (by simp; omega), HA.out⟩
  cases t
  · skip
    by_cases c0t : ¬ a = W
    · skip
      obtain rfl : bb = false := by
        rw [HB.out]
        simp only [decide_eq_false_iff_not]
        try simp only [Bool.false_eq_true, if_false, if_true]
        first | omega | (simp; omega)
      clear HB
      go_enter Try.func58, Try.ntmps58
      go_wp2_with fail
      go_ret
      first | exact ⟨rfl, HA.out⟩ | exact ⟨congrArg (fun b => Ending.returned (.bool b)) (by simp; omega), HA.out⟩
    simp only [Decidable.not_not] at c0t
    subst c0t
    by_cases c1t : b < 1
    · skip
      obtain rfl : bb = false := by
        rw [HB.out]
        simp only [decide_eq_false_iff_not]
        try simp only [Bool.false_eq_true, if_false, if_true]
        first | omega | (simp; omega)
      clear HB
      go_enter Try.func58, Try.ntmps58
      go_wp2_with fail
      go_ret
      first | exact ⟨rfl, HA.out⟩ | exact ⟨congrArg (fun b => Ending.returned (.bool b)) (by simp; omega), HA.out⟩
    by_cases c2t : H < b
    · skip
      obtain rfl : bb = false := by
        rw [HB.out]
        simp only [decide_eq_false_iff_not]
        try simp only [Bool.false_eq_true, if_false, if_true]
        first | omega | (simp; omega)
      clear HB
      go_enter Try.func58, Try.ntmps58
      go_wp2_with fail
      go_ret
      first | exact ⟨rfl, HA.out⟩ | exact ⟨congrArg (fun b => Ending.returned (.bool b)) (by simp; omega), HA.out⟩
    obtain rfl : bb = true := by
      rw [HB.out]
      simp only [decide_eq_true_eq]
      try simp only [Bool.false_eq_true, if_false, if_true]
      first | omega | (simp; omega)
    clear HB
    go_enter Try.func58, Try.ntmps58
    go_wp2_with fail
    go_ret
    first | exact ⟨rfl, HA.out⟩ | exact ⟨congrArg (fun b => Ending.returned (.bool b)) (by simp; omega), HA.out⟩
  · skip
    by_cases c0t : a < 16
    · skip
      obtain rfl : bb = false := by
        rw [HB.out]
        simp only [decide_eq_false_iff_not]
        try simp only [Bool.false_eq_true, if_false, if_true]
        first | omega | (simp; omega)
      clear HB
      go_enter Try.func58, Try.ntmps58
      go_wp2_with fail
      go_ret
      first | exact ⟨rfl, HA.out⟩ | exact ⟨congrArg (fun b => Ending.returned (.bool b)) (by simp; omega), HA.out⟩
    by_cases c1t : b < 16
    · skip
      obtain rfl : bb = false := by
        rw [HB.out]
        simp only [decide_eq_false_iff_not]
        try simp only [Bool.false_eq_true, if_false, if_true]
        first | omega | (simp; omega)
      clear HB
      go_enter Try.func58, Try.ntmps58
      go_wp2_with fail
      go_ret
      first | exact ⟨rfl, HA.out⟩ | exact ⟨congrArg (fun b => Ending.returned (.bool b)) (by simp; omega), HA.out⟩
    have hm1 : a.tmod 16 = a % 16 := Int.tmod_eq_emod_of_nonneg (by omega)
    have hm2 : b.tmod 16 = b % 16 := Int.tmod_eq_emod_of_nonneg (by omega)
    by_cases c2t : ¬ a % 16 = 0
    · skip
      obtain rfl : bb = false := by
        rw [HB.out]
        simp only [decide_eq_false_iff_not]
        try simp only [Bool.false_eq_true, if_false, if_true]
        first | omega | (simp; omega)
      clear HB
      go_enter Try.func58, Try.ntmps58
      go_wp2_with fail
      go_ret
      first | exact ⟨rfl, HA.out⟩ | exact ⟨congrArg (fun b => Ending.returned (.bool b)) (by simp; omega), HA.out⟩
    by_cases c3t : ¬ b % 16 = 0
    · skip
      obtain rfl : bb = false := by
        rw [HB.out]
        simp only [decide_eq_false_iff_not]
        try simp only [Bool.false_eq_true, if_false, if_true]
        first | omega | (simp; omega)
      clear HB
      go_enter Try.func58, Try.ntmps58
      go_wp2_with fail
      go_ret
      first | exact ⟨rfl, HA.out⟩ | exact ⟨congrArg (fun b => Ending.returned (.bool b)) (by simp; omega), HA.out⟩
    by_cases c4t : 32768 < a
    · skip
      obtain rfl : bb = false := by
        rw [HB.out]
        simp only [decide_eq_false_iff_not]
        try simp only [Bool.false_eq_true, if_false, if_true]
        first | omega | (simp; omega)
      clear HB
      go_enter Try.func58, Try.ntmps58
      go_wp2_with fail
      go_ret
      first | exact ⟨rfl, HA.out⟩ | exact ⟨congrArg (fun b => Ending.returned (.bool b)) (by simp; omega), HA.out⟩
    by_cases c5t : 32768 < b
    · skip
      obtain rfl : bb = false := by
        rw [HB.out]
        simp only [decide_eq_false_iff_not]
        try simp only [Bool.false_eq_true, if_false, if_true]
        first | omega | (simp; omega)
      clear HB
      go_enter Try.func58, Try.ntmps58
      go_wp2_with fail
      go_ret
      first | exact ⟨rfl, HA.out⟩ | exact ⟨congrArg (fun b => Ending.returned (.bool b)) (by simp; omega), HA.out⟩
    have hw2 := wrap_mul (a := a) (b := b) (by omega) (by omega) (by omega) (by omega)
    by_cases c6t : 4194304 < a * b
    · skip
      obtain rfl : bb = false := by
        rw [HB.out]
        simp only [decide_eq_false_iff_not]
        try simp only [Bool.false_eq_true, if_false, if_true]
        first | omega | (simp; omega)
      clear HB
      go_enter Try.func58, Try.ntmps58
      go_wp2_with fail
      go_ret
      first | exact ⟨rfl, HA.out⟩ | exact ⟨congrArg (fun b => Ending.returned (.bool b)) (by simp; omega), HA.out⟩
    obtain rfl : bb = true := by
      rw [HB.out]
      simp only [decide_eq_true_eq]
      try simp only [Bool.false_eq_true, if_false, if_true]
      first | omega | (simp; omega)
    clear HB
    go_enter Try.func58, Try.ntmps58
    go_wp2_with fail
    go_ret
    first | exact ⟨rfl, HA.out⟩ | exact ⟨congrArg (fun b => Ending.returned (.bool b)) (by simp; omega), HA.out⟩

set_option maxHeartbeats 40000000 in
theorem rright_any {w0 w : World} {F : SProp} (h : St w0 w F) (l : LayD) :
    Calls Try.prog 20 #[.agg (layA l)] w fun r w' => r = .returned (.bool (decide (rightL l))) ∧ St w0 w' F := by
  have hA := h.alloc (.cells (layA l) 26)
  have HA := Lib.hid hA.right
  clear h hA
  obtain ⟨bb, hbb⟩ : ∃ bb, bb = decide (rightL l) := ⟨_, rfl⟩
  rw [← hbb]
  obtain ⟨W, H, t, a, b⟩ := l
  unfold rightL at hbb
  unfold layA at HA ⊢
  simp only at hbb HA ⊢
  have HB := Lib.hid hbb
  clear hbb
  by_cases c0 : W < 1
  · skip
    obtain rfl : bb = false := by
      rw [HB.out]
      simp only [decide_eq_false_iff_not]
      try simp only [Bool.false_eq_true, if_false, if_true]
      first | omega | (simp; omega)
    clear HB
    go_enter Try.func20, Try.ntmps20
    go_wp2_with fail
    go_ret
    first | exact ⟨rfl, HA.out⟩ | exact ⟨congrArg (fun b => Ending.returned (.bool b)) (by simp; omega), HA.out⟩
  by_cases c1 : H < 1
  · skip
    obtain rfl : bb = false := by
      rw [HB.out]
      simp only [decide_eq_false_iff_not]
      try simp only [Bool.false_eq_true, if_false, if_true]
      first | omega | (simp; omega)
    clear HB
    go_enter Try.func20, Try.ntmps20
    go_wp2_with fail
    go_ret
    first | exact ⟨rfl, HA.out⟩ | exact ⟨congrArg (fun b => Ending.returned (.bool b)) (by simp; omega), HA.out⟩
  by_cases c2 : 32768 < W
  · skip
    obtain rfl : bb = false := by
      rw [HB.out]
      simp only [decide_eq_false_iff_not]
      try simp only [Bool.false_eq_true, if_false, if_true]
      first | omega | (simp; omega)
    clear HB
    go_enter Try.func20, Try.ntmps20
    go_wp2_with fail
    go_ret
    first | exact ⟨rfl, HA.out⟩ | exact ⟨congrArg (fun b => Ending.returned (.bool b)) (by simp; omega), HA.out⟩
  by_cases c3 : 32768 < H
  · skip
    obtain rfl : bb = false := by
      rw [HB.out]
      simp only [decide_eq_false_iff_not]
      try simp only [Bool.false_eq_true, if_false, if_true]
      first | omega | (simp; omega)
    clear HB
    go_enter Try.func20, Try.ntmps20
    go_wp2_with fail
    go_ret
    first | exact ⟨rfl, HA.out⟩ | exact ⟨congrArg (fun b => Ending.returned (.bool b)) (by simp; omega), HA.out⟩
  have hw1 := wrap_mul (a := W) (b := H) (by omega) (by omega) (by omega) (by omega)
  by_cases c4 : 4194304 < W * H
  · skip
    obtain rfl : bb = false := by
      rw [HB.out]
      simp only [decide_eq_false_iff_not]
      try simp only [Bool.false_eq_true, if_false, if_true]
      first | omega | (simp; omega)
    clear HB
    go_enter Try.func20, Try.ntmps20
    go_wp2_with fail
    go_ret
    first | exact ⟨rfl, HA.out⟩ | exact ⟨congrArg (fun b => Ending.returned (.bool b)) (by simp; omega), HA.out⟩
  cases t
  · skip
    by_cases s0 : ¬ a = W
    · skip
      obtain rfl : bb = false := by
        rw [HB.out]
        simp only [decide_eq_false_iff_not]
        try simp only [Bool.false_eq_true, if_false, if_true]
        first | omega | (simp; omega)
      clear HB
      go_enter Try.func20, Try.ntmps20
      go_wp2_with fail
      go_ret
      first | exact ⟨rfl, HA.out⟩ | exact ⟨congrArg (fun b => Ending.returned (.bool b)) (by simp; omega), HA.out⟩
    simp only [Decidable.not_not] at s0
    subst s0
    by_cases s1 : b < 1
    · skip
      obtain rfl : bb = false := by
        rw [HB.out]
        simp only [decide_eq_false_iff_not]
        try simp only [Bool.false_eq_true, if_false, if_true]
        first | omega | (simp; omega)
      clear HB
      go_enter Try.func20, Try.ntmps20
      go_wp2_with fail
      go_ret
      first | exact ⟨rfl, HA.out⟩ | exact ⟨congrArg (fun b => Ending.returned (.bool b)) (by simp; omega), HA.out⟩
    by_cases s2 : H < b
    · skip
      obtain rfl : bb = false := by
        rw [HB.out]
        simp only [decide_eq_false_iff_not]
        try simp only [Bool.false_eq_true, if_false, if_true]
        first | omega | (simp; omega)
      clear HB
      go_enter Try.func20, Try.ntmps20
      go_wp2_with fail
      go_ret
      first | exact ⟨rfl, HA.out⟩ | exact ⟨congrArg (fun b => Ending.returned (.bool b)) (by simp; omega), HA.out⟩
    obtain rfl : bb = true := by
      rw [HB.out]
      simp only [decide_eq_true_eq]
      try simp only [Bool.false_eq_true, if_false, if_true]
      first | omega | (simp; omega)
    clear HB
    go_enter Try.func20, Try.ntmps20
    go_wp2_with fail
    go_ret
    first | exact ⟨rfl, HA.out⟩ | exact ⟨congrArg (fun b => Ending.returned (.bool b)) (by simp; omega), HA.out⟩
  · skip
    by_cases t0 : a < 1
    · skip
      obtain rfl : bb = false := by
        rw [HB.out]
        simp only [decide_eq_false_iff_not]
        try simp only [Bool.false_eq_true, if_false, if_true]
        first | omega | (simp; omega)
      clear HB
      go_enter Try.func20, Try.ntmps20
      go_wp2_with fail
      go_ret
      first | exact ⟨rfl, HA.out⟩ | exact ⟨congrArg (fun b => Ending.returned (.bool b)) (by simp; omega), HA.out⟩
    by_cases t1 : b < 1
    · skip
      obtain rfl : bb = false := by
        rw [HB.out]
        simp only [decide_eq_false_iff_not]
        try simp only [Bool.false_eq_true, if_false, if_true]
        first | omega | (simp; omega)
      clear HB
      go_enter Try.func20, Try.ntmps20
      go_wp2_with fail
      go_ret
      first | exact ⟨rfl, HA.out⟩ | exact ⟨congrArg (fun b => Ending.returned (.bool b)) (by simp; omega), HA.out⟩
    by_cases t2 : 32768 < a
    · skip
      obtain rfl : bb = false := by
        rw [HB.out]
        simp only [decide_eq_false_iff_not]
        try simp only [Bool.false_eq_true, if_false, if_true]
        first | omega | (simp; omega)
      clear HB
      go_enter Try.func20, Try.ntmps20
      go_wp2_with fail
      go_ret
      first | exact ⟨rfl, HA.out⟩ | exact ⟨congrArg (fun b => Ending.returned (.bool b)) (by simp; omega), HA.out⟩
    by_cases t3 : 32768 < b
    · skip
      obtain rfl : bb = false := by
        rw [HB.out]
        simp only [decide_eq_false_iff_not]
        try simp only [Bool.false_eq_true, if_false, if_true]
        first | omega | (simp; omega)
      clear HB
      go_enter Try.func20, Try.ntmps20
      go_wp2_with fail
      go_ret
      first | exact ⟨rfl, HA.out⟩ | exact ⟨congrArg (fun b => Ending.returned (.bool b)) (by simp; omega), HA.out⟩
    have hm1 : a.tmod 16 = a % 16 := Int.tmod_eq_emod_of_nonneg (by omega)
    have hm2 : b.tmod 16 = b % 16 := Int.tmod_eq_emod_of_nonneg (by omega)
    have hs : IntKind.i64.wrap (a % 16 + b % 16) = a % 16 + b % 16 := IntWalk.i64_in _ (by omega)
    by_cases t4 : ¬ a % 16 + b % 16 = 0
    · skip
      obtain rfl : bb = false := by
        rw [HB.out]
        simp only [decide_eq_false_iff_not]
        try simp only [Bool.false_eq_true, if_false, if_true]
        first | omega | (simp; omega)
      clear HB
      go_enter Try.func20, Try.ntmps20
      go_wp2_with fail
      go_ret
      first | exact ⟨rfl, HA.out⟩ | exact ⟨congrArg (fun b => Ending.returned (.bool b)) (by simp; omega), HA.out⟩
    have hw2 := wrap_mul (a := a) (b := b) (by omega) (by omega) (by omega) (by omega)
    by_cases t5 : 4194304 < a * b
    · skip
      obtain rfl : bb = false := by
        rw [HB.out]
        simp only [decide_eq_false_iff_not]
        try simp only [Bool.false_eq_true, if_false, if_true]
        first | omega | (simp; omega)
      clear HB
      go_enter Try.func20, Try.ntmps20
      go_wp2_with fail
      go_ret
      first | exact ⟨rfl, HA.out⟩ | exact ⟨congrArg (fun b => Ending.returned (.bool b)) (by simp; omega), HA.out⟩
    obtain rfl : bb = true := by
      rw [HB.out]
      simp only [decide_eq_true_eq]
      try simp only [Bool.false_eq_true, if_false, if_true]
      first | omega | (simp; omega)
    clear HB
    go_enter Try.func20, Try.ntmps20
    go_wp2_with fail
    go_ret
    first | exact ⟨rfl, HA.out⟩ | exact ⟨congrArg (fun b => Ending.returned (.bool b)) (by simp; omega), HA.out⟩

theorem tdiv_up {a b : Int} (h1 : 1 ≤ a) (h2 : a ≤ 32768) (h3 : 1 ≤ b) (h4 : b ≤ 32768) : (a + b - 1).tdiv b = (a + b - 1) / b ∧ IntKind.i64.wrap ((a + b - 1) / b) = (a + b - 1) / b := by
  refine ⟨Int.tdiv_eq_ediv_of_nonneg (by omega), IntWalk.i64_in _ ?_⟩
  have := across_le h1 h2 h3 h4
  omega
theorem across_any {w0 w : World} {F : SProp} (h : St w0 w F) {l : LayD} (hl : rightL l) :
    Calls Try.prog 59 #[.agg (layA l)] w fun r w' => r = .returned (.tuple #[.int .i64 ((l.width + l.w - 1) / l.w), .int .i64 ((l.height + l.h - 1) / l.h)]) ∧ St w0 w' F := by
  obtain ⟨h1, h2, h3, h4⟩ := rightL_w hl
  obtain ⟨g1, g2, g3, g4, _, _⟩ := hl
  obtain ⟨d1, d2⟩ := tdiv_up g1 g3 h1 h2
  obtain ⟨d3, d4⟩ := tdiv_up g2 g4 h3 h4
  have hA := h.alloc (.cells (layA l) 26)
  have c0 := hA.cell 0 rfl
  have c1 := hA.cell 1 rfl
  have c3 := hA.cell 3 rfl
  have c4 := hA.cell 4 rfl
  have HA := Lib.hid hA.right
  clear h hA
  obtain ⟨W, H, t, a, b⟩ := l
  unfold layA at HA c0 c1 c3 c4 ⊢
  simp only at *
  go_enter Try.func59, Try.ntmps59
  go_wp2_with fail
  go_quiet (fail)
  go_wp2_with fail
  go_ret2
  exact ⟨rfl, HA.out.drewN nq⟩
theorem count_any {w0 w : World} {F : SProp} (h : St w0 w F) (l : LayD) :
    Calls Try.prog 45 #[.agg (layA l)] w fun r w' => r = .returned (.tuple #[.int .i64 (if rightL l then countL l else 0), .int .i64 (if rightL l then 0 else 1)]) ∧ St w0 w' F := by
  have hA := h.alloc (.cells (layA l) 26)
  have HR := Lib.hid (right_any hA l)
  by_cases hl : rightL l
  · rw [if_pos hl, if_pos hl]
    rw [show decide (rightL l) = true by simpa using hl] at HR
    have HC := Lib.hid (fun (w : World) (h : St w0 w F) => across_any h hl)
    obtain ⟨b1, b2⟩ := countL_le hl
    have hw : IntKind.i64.wrap (countL l) = countL l := IntWalk.i64_in _ (by omega)
    rw [countL] at hw b1 b2 ⊢
    clear h hA hl
    unfold layA at HR HC ⊢
    generalize (l.width + l.w - 1) / l.w = x at *
    generalize (l.height + l.h - 1) / l.h = y at *
    obtain ⟨W, H, t, a, b⟩ := l
    simp only at *
    go_enter Try.func45, Try.ntmps45
    go_wp2_with (first | (go_at_call 58; apply stop))
    refine on (HR.out.mono ?_)
    rintro e w1 ⟨rfl, h1⟩
    have c0 := h1.cell 0 rfl
    have c1 := h1.cell 1 rfl
    have c2 := h1.cell 2 rfl
    have c3 := h1.cell 3 rfl
    have c4 := h1.cell 4 rfl
    have H1 := Lib.hid h1.right
    clear h1
    go_wp2_with (first | (go_at_call 59; refine (HC.out _ H1.out).mono ?_; rintro e w2 ⟨rfl, h2⟩; have H2 := Lib.hid h2; clear h2))
    go_ret2
    exact ⟨rfl, H2.out⟩
  · rw [if_neg hl, if_neg hl]
    rw [show decide (rightL l) = false by simpa using hl] at HR
    clear h hA hl
    unfold layA at HR ⊢
    obtain ⟨W, H, t, a, b⟩ := l
    simp only at *
    go_enter Try.func45, Try.ntmps45
    go_wp2_with (first | (go_at_call 58; refine HR.out.mono ?_; rintro e w1 ⟨rfl, h1⟩; have H1 := Lib.hid h1; clear h1))
    go_ret2
    exact ⟨rfl, H1.out.right⟩
end Go.Proofs.Ythoegjdkeooenaa
