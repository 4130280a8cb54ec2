/-
  Layer 10: what is told is read, also long bytes, whatever stands behind them.
-/
import Derived.Test.YtddifndfppilkaaDefN
import Derived.Test.YtddifndfppilkaaInfH
namespace Go.Proofs.Ytddifndfppilkaa.dagain
open Go.RowKit Go.Mz
set_option linter.unusedVariables false
set_option linter.unusedSimpArgs false
set_option maxRecDepth 100000

theorem kmodc (n : Int) (m : Nat) (hm : 0 < m) : ∃ K : Nat, (IntKind.u64.wrap n).tmod (m : Int) = K ∧ K < m := by
  have h0 : 0 ≤ IntKind.u64.wrap n := by
    simp [IntKind.wrap, IntKind.bits, IntKind.signed]
    exact Int.emod_nonneg _ (by decide)
  rw [Int.tmod_eq_emod_of_nonneg h0]
  have h1 := Int.emod_nonneg (IntKind.u64.wrap n) (show (m : Int) ≠ 0 by omega)
  have h2 := Int.emod_lt_of_pos (IntKind.u64.wrap n) (show (0 : Int) < (m : Int) by omega)
  generalize IntKind.u64.wrap n % (m : Int) = x at *
  exact ⟨x.toNat, by omega, by omega⟩
/-- So many times. -/
def times (bs : List UInt8) : Nat → List UInt8
  | 0 => []
  | k + 1 => times bs k ++ bs
theorem length_times (bs : List UInt8) : ∀ k, (times bs k).length = k * bs.length
  | 0 => by simp [times]
  | k + 1 => by rw [times, List.length_append, length_times bs k, Nat.succ_mul]

set_option maxHeartbeats 40000000 in
theorem walk (vb : Value) (bs : List UInt8) (tm n : Int) (w : World) (hb : Reads w 1 vb bs.length (bs.map bv)) :
    Calls Try.prog 5 #[vb, .int .i64 tm, .int .i64 n] w fun e w' => e = .returned (.bool true) ∧ Below w.heap.size w w' := by
  have HB := Lib.hid (Stb.of_old hb)
  obtain ⟨a1, c1, rfl⟩ := hb.sub
  have hm := hb.len_le
  unfold maxLen at hm
  clear hb
  have H := Lib.hid (St.init w)
  have fin : ∀ w', St w w' (Mz.old w) → Below w.heap.size w w' := fun w' h => (h.perm ((emp_star _).symm.trans (star_comm _ _))).below
  have FIN := Lib.hid fin; clear fin
  by_cases hl6 : 300 < bs.length
  · have hl7 : 300 < (bs.length : Int) := by omega
    go_enter Try.func5, Try.ntmps5
    go_wp2_with fail
    refine (lives10 H.out).mono ?_
    rintro e w1 ⟨rfl, h2⟩
    have H2 := Lib.hid h2; clear h2
    go_wp2_with fail
    refine (lives10 H2.out).mono ?_
    rintro e w2 ⟨rfl, h3⟩
    have H3 := Lib.hid h3; clear h3
    go_wp2_with fail
    go_ret
    exact ⟨rfl, FIN.out _ H3.out⟩
  have hl7 : ¬ 300 < (bs.length : Int) := by omega
  have T := elemBytes
  obtain ⟨K0, hK0, hK1⟩ := kmodc tm 80 (by omega)
  obtain ⟨hw, hW0, hW1⟩ := kmodc n 3 (by omega)
  replace hK0 : (IntKind.u64.wrap tm).tmod 80 = K0 := hK0
  replace hW0 : (IntKind.u64.wrap n).tmod 3 = hw := hW0
  go_enter Try.func5, Try.ntmps5
  go_wp2_with fail
  refine (lives10 H.out).mono ?_
  rintro e w1 ⟨rfl, h2⟩
  have H2 := Lib.hid h2; clear h2 H
  go_wp2_with fail
  go_loopw [30, 7] (fun i va wr => ∃ k : Nat, k ≤ 1 + K0 ∧ i = .int .i64 k ∧ St w wr (own 5 1 va (times bs k).length ((times bs k).map bv) * Mz.old w)) (fun i _ _ => 1 + K0 - (intOf i).toNat)
  case atStart => exact ⟨0, by omega, rfl, St.own_nil _ _ H2.out⟩
  case round =>
    clear H2
    obtain ⟨k, hk, rfl, hst⟩ := hrel
    obtain ⟨a7, c7, rfl⟩ := hst.reads.sub
    have HS := Lib.hid hst; clear hst
    have hlt := length_times bs k
    have hlen : (times bs k).length ≤ 24000 := by
      rw [hlt]
      exact Nat.le_trans (Nat.mul_le_mul (show k ≤ 80 by omega) (show bs.length ≤ 300 by omega)) (by decide)
    clear hlt
    by_cases hkn : k < 1 + K0
    · have hk1 : (k : Int) < 1 + K0 := by omega
      have HTT := Lib.hid (show times bs (k + 1) = times bs k ++ bs from rfl)
      generalize times bs k = tk at *
      go_wp2_with (at_builtin; apply stop)
      refine on (wpList_append_sep T rfl _ _ rfl rfl HS.out rfl (HB.out _ HS.out.right) (bv_oneCell bs) ?_ ?_ ?_)
      · unfold maxLen; omega
      · omega
      intro v' w7 h7 _
      rw [← List.map_append, ← List.length_append] at h7
      obtain ⟨a8, c8, rfl⟩ := h7.reads.sub
      have H7 := Lib.hid h7; clear h7
      generalize hn8 : (tk ++ bs).length = n8 at *
      have HN8 := Lib.hid hn8; clear hn8
      go_wp2_with fail
      refine ⟨⟨k + 1, by omega, by go_num, ?_⟩, by simp [intOf]; omega⟩
      rw [HTT.out, HN8.out]
      exact H7.out
    · obtain rfl : k = 1 + K0 := by omega
      have hk1 : ¬ (((1 + K0 : Nat) : Int) < 1 + K0) := by omega
      generalize times bs (1 + K0) = A at *
      have HD := Lib.hid (deflate_any HS.out (b := A) (by omega) Stb.of_own (how := hw) (by omega))
      obtain ⟨nA, hnA⟩ : ∃ nA, A.length = nA := ⟨_, rfl⟩
      rw [hnA] at HS HD hlen ⊢
      have HNA := Lib.hid hnA
      clear hnA
      go_wp2_with (go_at_call 11; apply stop)
      refine on ?_
      refine HD.out.mono ?_
      rintro e w2 ⟨v2, x, rfl, hx, hxl, h3⟩
      obtain ⟨nn, hdone⟩ := hx.done
      have hinf := fun ex most => hdone.infl ex most
      have hXl := length_bytesB true x
      obtain ⟨X, hX⟩ : ∃ X, bytesB true x = X := ⟨_, rfl⟩
      rw [hX] at h3 hinf hXl
      rw [← hXl] at h3
      have hXm : X.length ≤ 200000000 := by rw [hXl]; omega
      have HINF := Lib.hid hinf
      obtain ⟨nX, hnX⟩ : ∃ nX, X.length = nX := ⟨_, rfl⟩
      rw [hnX] at h3 hXm
      have HNX := Lib.hid hnX
      obtain ⟨a3, c3, rfl⟩ := h3.reads.sub
      have H3 := Lib.hid h3
      clear h3 hx hdone hinf hXl hX hnX HD HS hxl
      go_wp2_with (at_builtin; apply stop)
      refine on (wpList_append_sep T rfl _ _ rfl rfl (St.own_blk (e := 5) (size := 1) (n := 0) (cap := 0) (xs := []) (H3.out.alloc (.cells #[] 5)) (Nat.le_refl _) (Nat.zero_le _) rfl rfl) rfl ((H3.out.drop_alloc _).reads) (bv_oneCell X) (by unfold maxLen; omega) (by omega) ?_)
      intro v4 w4 h4 _
      rw [List.nil_append, Nat.zero_add] at h4
      obtain ⟨a4, c4, rfl⟩ := h4.reads.sub
      have H4 := Lib.hid h4
      clear h4 H3
      go_wp2_with (at_builtin; apply stop)
      have h5 := H4.out.lit #[.int .u8 9] 5 1 rfl (by decide)
      have H5 := Lib.hid h5
      clear h5 H4
      refine on (wpList_append_sep T rfl _ _ rfl rfl (H5.out.perm (star_left_comm _ _ _)) rfl (m := 1) (news := [9].map bv) H5.out.reads (bv_oneCell [9]) (by unfold maxLen; omega) (by omega) ?_)
      intro v6 w6 h6 _
      rw [← List.map_append] at h6
      have h6 := (h6.perm (star_left_comm _ _ _)).right
      obtain ⟨a6, c6, rfl⟩ := h6.reads.sub
      have hlen9 : (X ++ [9]).length = nX + 1 := by rw [List.length_append, HNX.out]; rfl
      have C := inflate_any h6 (X ++ [9]) (nA : Int) (by rw [hlen9]; omega) (by omega) (vb := .slice a6 (nX + 1) c6) (by rw [hlen9]; exact Stb.of_own)
      rw [HINF.out [9] (nA : Int), if_neg (by omega), if_neg (by rw [HNA.out]; omega), HNX.out] at C
      have HC := Lib.hid C
      clear C h6 hlen9 H5
      go_wp2_with (go_at_call 14; apply stop)
      refine on ?_
      refine HC.out.mono ?_
      rintro e w7 ⟨v7, n7, x7, rfl, h7⟩
      obtain ⟨rfl, rfl, h7⟩ := h7
      rw [HNA.out] at h7
      obtain ⟨a8, c8, rfl⟩ := h7.reads.sub
      have q1 : (convert 22 9 (.slice a8 nA c8)).run Try.prog w7 = .ok (.string ⟨A.toArray⟩) w7 := run_b2s (P := Try.prog) Try.underlying22 Try.underlying5 Try.underlying9 h7.reads
      have q2 : (convert 22 9 (.slice a7 nA c7)).run Try.prog w7 = .ok (.string ⟨A.toArray⟩) w7 := run_b2s (P := Try.prog) Try.underlying22 Try.underlying5 Try.underlying9 (h7.right.right.right.reads)
      have HF := Lib.hid (FIN.out _ (h7.right.right.right.right))
      clear h7 HC
      go_wp2_with fail
      go_ret
      exact ⟨rfl, HF.out⟩
end Go.Proofs.Ytddifndfppilkaa.dagain
