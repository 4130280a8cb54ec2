/-
  Layer 23, the document: how many parts a page has, its size, its samples (package mezzotintref23).
-/
import Derived.Test.YthoegjdkeooenaaTagE
namespace Go.Proofs.Ythoegjdkeooenaa
open Go.RowKit Go.Mz
set_option linter.unusedVariables false
set_option linter.unusedSimpArgs false
set_option maxRecDepth 100000

theorem up_step {a b : Int} (hb : 1 ≤ b) (k : Nat) : ((k : Int) < (a + b - 1) / b ↔ (k : Int) * b < a) := by
  have h := @Int.le_ediv_iff_mul_le (k + 1) (a + b - 1) b (by omega)
  have e : ((k : Int) + 1) * b = k * b + b := by rw [Int.add_mul, Int.one_mul]
  rw [e] at h
  constructor
  · intro h1; have := h.1 (by omega); omega
  · intro h1; have := h.2 (by omega); omega
set_option maxHeartbeats 40000000 in
theorem rparts_any {w0 w : World} {F : SProp} (h : St w0 w F) {p : PgD} {vo vc vr : Value} (hr : rightL p.lay) (hper : 0 ≤ p.per ∧ p.per ≤ 1000) (hov : vo.oneCell' = true) (hcv : vc.oneCell' = true) (hrv : vr.oneCell' = true) :
    Calls Try.prog 21 #[.agg (pgC p vo vc vr)] w fun r w' => r = .returned (.int .i64 (partsP p)) ∧ St w0 w' F := by
  have hb1 := rightL_w hr
  obtain ⟨g1, g2, g3, g4, _, _⟩ := hr
  obtain ⟨h1, h2, h3, h4⟩ := hb1
  obtain ⟨q1, q2⟩ := hper
  obtain ⟨a1, a2⟩ := across_le g1 g3 h1 h2
  obtain ⟨b1, b2⟩ := across_le g2 g4 h3 h4
  have hA := (h.alloc (.cells (pgC p vo vc vr) 30)).alloc (.cells (layA p.lay) 26)
  have hsz : (w.alloc (.cells (pgC p vo vc vr) 30)).heap.size = w.heap.size + 1 := Array.size_push _
  rw [hsz] at hA
  have HA := Lib.hid hA
  clear h hA hsz
  obtain ⟨PP, hPP⟩ : ∃ PP, PP = partsP p := ⟨_, rfl⟩
  rw [← hPP]
  unfold partsP countL at hPP
  have hXw := fun (k : Nat) => up_step (a := p.lay.width) (b := p.lay.w) h1 k
  have hYw := fun (k : Nat) => up_step (a := p.lay.height) (b := p.lay.h) h3 k
  obtain ⟨X, hX⟩ : ∃ X : Nat, (p.lay.width + p.lay.w - 1) / p.lay.w = X := ⟨((p.lay.width + p.lay.w - 1) / p.lay.w).toNat, by omega⟩
  obtain ⟨Y, hY⟩ : ∃ Y : Nat, (p.lay.height + p.lay.h - 1) / p.lay.h = Y := ⟨((p.lay.height + p.lay.h - 1) / p.lay.h).toNat, by omega⟩
  rw [hX] at hXw a1 a2 hPP
  rw [hY] at hYw b1 b2 hPP
  clear hX hY
  obtain ⟨⟨Wd, Ht, ti, W, H⟩, per, bts, photo, pl, scheme, pr, lo, tw, offs, cnts, rest⟩ := p
  unfold pgC layA at HA
  simp only at *
  unfold pgC
  have HXW := Lib.hid hXw; have HYW := Lib.hid hYw; have HPP := Lib.hid hPP
  clear hXw hYw hPP
  go_enter Try.func21, Try.ntmps21
  go_upto_region 3 with (fail)
  generalize hb0 : w.heap.size = b0 at *
  generalize hbb : b0 + 1 = bl at *
  clear hb0 hbb
  generalize World.alloc _ _ = w1 at *
  have c0 := HA.out.cell 0 rfl
  have c1 := HA.out.cell 1 rfl
  have c3 := HA.out.cell 3 rfl
  have c4 := HA.out.cell 4 rfl
  have d8 := HA.out.right.cell 8 rfl
  have d5 := HA.out.right.cell 5 rfl
  go_wp2_with fail
  go_loop [6, 4] (fun vi vx => ∃ k : Nat, k ≤ X ∧ vx = .int .i64 (k : Int) ∧ ∃ j : Int, j = (k : Int) * W ∧ vi = .int .i64 j ∧ 0 ≤ j ∧ j ≤ 65536) (fun _ vx => X - (intOf vx).toNat)
  case atStart => exact ⟨0, by omega, rfl, 0, by simp, rfl, by omega, by omega⟩
  case round =>
    obtain ⟨k, hk, rfl, j, hj, rfl, hj0, hj9⟩ := hrel
    have hst := HXW.out k
    rw [← hj] at hst
    by_cases hkn : k < X
    · have hjw : j < Wd := hst.1 (by omega)
      have hj2 : j + W = ((k + 1 : Nat) : Int) * W := by rw [hj]; push_cast; rw [Int.add_mul, Int.one_mul]
      have HJ := Lib.hid hj2
      clear hst hj hj2
      go_wp2_with fail
      exact ⟨⟨k + 1, by omega, by go_num, j + W, HJ.out, by go_num, by omega, by omega⟩, by simp [intOf]; omega⟩
    · obtain rfl : k = X := by omega
      have hjw : ¬ j < Wd := fun h => by have := hst.2 h; omega
      clear hst hj
      go_wp2_with fail
      go_loop [7, 5] (fun vi vx => ∃ m : Nat, m ≤ Y ∧ vx = .int .i64 (m : Int) ∧ ∃ j : Int, j = (m : Int) * H ∧ vi = .int .i64 j ∧ 0 ≤ j ∧ j ≤ 65536) (fun _ vx => Y - (intOf vx).toNat)
      case atStart => exact ⟨0, by omega, rfl, 0, by simp, rfl, by omega, by omega⟩
      case round =>
        obtain ⟨m, hm, rfl, i, hi, rfl, hi0, hi9⟩ := hrel
        have hst := HYW.out m
        rw [← hi] at hst
        by_cases hmn : m < Y
        · have hiw : i < Ht := hst.1 (by omega)
          have hi2 : i + H = ((m + 1 : Nat) : Int) * H := by rw [hi]; push_cast; rw [Int.add_mul, Int.one_mul]
          have HJ := Lib.hid hi2
          clear hst hi hi2
          go_wp2_with fail
          exact ⟨⟨m + 1, by omega, by go_num, i + H, HJ.out, by go_num, by omega, by omega⟩, by simp [intOf]; omega⟩
        · obtain rfl : m = Y := by omega
          have hiw : ¬ i < Ht := fun h => by have := hst.2 h; omega
          clear hst hi
          obtain ⟨n, hn⟩ : ∃ n, n = (k : Int) * (m : Int) := ⟨_, rfl⟩
          have hn0 : 0 ≤ n := by rw [hn]; exact Int.mul_nonneg (by omega) (by omega)
          have hn9 : n ≤ 1073741824 := by rw [hn]; have := Int.mul_le_mul a2 b2 (by omega) (by omega); omega
          have hw1 : IntKind.i64.wrap ((k : Int) * (m : Int)) = n := by rw [← hn]; exact IntWalk.i64_in _ (by omega)
          have hP := HPP.out
          rw [← hn] at hP
          have HP := Lib.hid hP
          clear hP
          cases pl
          · go_wp2_with fail
            go_ret
            refine ⟨?_, HA.out.right.right⟩
            rw [HP.out]; simp [hn]
          · obtain ⟨q, hq⟩ : ∃ q, q = n * per := ⟨_, rfl⟩
            have hq0 : 0 ≤ q := by rw [hq]; exact Int.mul_nonneg (by omega) (by omega)
            have hq9 : q ≤ 1073741824000 := by rw [hq]; have := Int.mul_le_mul hn9 q2 (by omega) (by omega); omega
            have hw2 : IntKind.i64.wrap (n * per) = q := by rw [← hq]; exact IntWalk.i64_in _ (by omega)
            have HW2 := Lib.hid (show wrap64 ((k : Int) * (m : Int) * per) = (k : Int) * (m : Int) * per by
              rw [← hn, ← hq]; unfold wrap64; omega)
            have HQ := Lib.hid hq
            clear hq
            go_wp2_with fail
            go_ret
            refine ⟨?_, HA.out.right.right⟩
            rw [HP.out]; simp [hn, HW2.out]
end Go.Proofs.Ythoegjdkeooenaa
