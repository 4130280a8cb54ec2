/-
  Layer 10: bytes that stand as they are, also many, are the document's blocks.
-/
import Derived.Test.YtddifndfppilkaaDefN
import Derived.Test.YtddifndfppilkaaDefW
import Derived.BigQuiet
namespace Go.Proofs.Ytddifndfppilkaa.dstored
open Go.RowKit Go.Mz
set_option linter.unusedVariables false
set_option linter.unusedSimpArgs false
set_option maxRecDepth 100000

theorem kmodc (n : Int) (m : Nat) (hm : 0 < m) : ∃ K : Nat, (IntKind.u64.wrap n).tmod (m : Int) = K ∧ K < m := by
  have h0 : 0 ≤ IntKind.u64.wrap n := by
    simp [IntKind.wrap, IntKind.bits, IntKind.signed]
    exact Int.emod_nonneg _ (by decide)
  rw [Int.tmod_eq_emod_of_nonneg h0]
  have h1 := Int.emod_nonneg (IntKind.u64.wrap n) (show (m : Int) ≠ 0 by omega)
  have h2 := Int.emod_lt_of_pos (IntKind.u64.wrap n) (show (0 : Int) < (m : Int) by omega)
  generalize IntKind.u64.wrap n % (m : Int) = x at *
  exact ⟨x.toNat, by omega, by omega⟩
/-- So many times. -/
def times (bs : List UInt8) : Nat → List UInt8
  | 0 => []
  | k + 1 => times bs k ++ bs
theorem length_times (bs : List UInt8) : ∀ k, (times bs k).length = k * bs.length
  | 0 => by simp [times]
  | k + 1 => by rw [times, List.length_append, length_times bs k, Nat.succ_mul]

set_option maxHeartbeats 40000000 in
theorem walk (vb : Value) (bs : List UInt8) (tm : Int) (w : World) (hb : Reads w 1 vb bs.length (bs.map bv)) :
    Calls Try.prog 4 #[vb, .int .i64 tm ] w fun e w' => e = .returned (.bool true) ∧ Below w.heap.size w w' := by
  have HB := Lib.hid (Stb.of_old hb)
  obtain ⟨a1, c1, rfl⟩ := hb.sub
  have hm := hb.len_le
  unfold maxLen at hm
  clear hb
  have H := Lib.hid (St.init w)
  have fin : ∀ w', St w w' (Mz.old w) → Below w.heap.size w w' := fun w' h => (h.perm ((emp_star _).symm.trans (star_comm _ _))).below
  have FIN := Lib.hid fin; clear fin
  by_cases hl6 : 300 < bs.length
  · have hl7 : 300 < (bs.length : Int) := by omega
    go_enter Try.func4, Try.ntmps4
    go_wp2_with fail
    refine (lives10 H.out).mono ?_
    rintro e w1 ⟨rfl, h2⟩
    have H2 := Lib.hid h2; clear h2
    go_wp2_with fail
    refine (lives10 H2.out).mono ?_
    rintro e w2 ⟨rfl, h3⟩
    have H3 := Lib.hid h3; clear h3
    go_wp2_with fail
    go_ret
    exact ⟨rfl, FIN.out _ H3.out⟩
  have hl7 : ¬ 300 < (bs.length : Int) := by omega
  have T := elemBytes
  obtain ⟨K0, hK0, hK1⟩ := kmodc tm 500 (by omega)
  replace hK0 : (IntKind.u64.wrap tm).tmod 500 = K0 := hK0
  go_enter Try.func4, Try.ntmps4
  go_wp2_with fail
  refine (lives10 H.out).mono ?_
  rintro e w1 ⟨rfl, h2⟩
  have H2 := Lib.hid h2; clear h2 H
  go_wp2_with fail
  go_loopw [21, 5] (fun i va wr => ∃ k : Nat, k ≤ 1 + K0 ∧ i = .int .i64 k ∧ St w wr (own 5 1 va (times bs k).length ((times bs k).map bv) * Mz.old w)) (fun i _ _ => 1 + K0 - (intOf i).toNat)
  case atStart => exact ⟨0, by omega, rfl, St.own_nil _ _ H2.out⟩
  case round =>
    clear H2
    obtain ⟨k, hk, rfl, hst⟩ := hrel
    obtain ⟨a7, c7, rfl⟩ := hst.reads.sub
    have HS := Lib.hid hst; clear hst
    have hlt := length_times bs k
    have hlen : (times bs k).length ≤ 150000 := by
      rw [hlt]
      exact Nat.le_trans (Nat.mul_le_mul (show k ≤ 500 by omega) (show bs.length ≤ 300 by omega)) (by decide)
    clear hlt
    by_cases hkn : k < 1 + K0
    · have hk1 : (k : Int) < 1 + K0 := by omega
      have HTT := Lib.hid (show times bs (k + 1) = times bs k ++ bs from rfl)
      generalize times bs k = tk at *
      go_wp2_with (at_builtin; apply stop)
      refine on (wpList_append_sep T rfl _ _ rfl rfl HS.out rfl (HB.out _ HS.out.right) (bv_oneCell bs) ?_ ?_ ?_)
      · unfold maxLen; omega
      · omega
      intro v' w7 h7 _
      rw [← List.map_append, ← List.length_append] at h7
      obtain ⟨a8, c8, rfl⟩ := h7.reads.sub
      have H7 := Lib.hid h7; clear h7
      generalize hn8 : (tk ++ bs).length = n8 at *
      have HN8 := Lib.hid hn8; clear hn8
      go_wp2_with fail
      refine ⟨⟨k + 1, by omega, by go_num, ?_⟩, by simp [intOf]; omega⟩
      rw [HTT.out, HN8.out]
      exact H7.out
    · obtain rfl : k = 1 + K0 := by omega
      have hk1 : ¬ (((1 + K0 : Nat) : Int) < 1 + K0) := by omega
      generalize times bs (1 + K0) = A at *
      have HD := Lib.hid (deflate_any HS.out (b := A) (by omega) Stb.of_own (how := 0) (by omega))
      have HSD := Lib.hid fun W (G : SProp) (hW : St w W G) => stored10_any hW (b := A) (by omega)
      obtain ⟨nA, hnA⟩ : ∃ nA, A.length = nA := ⟨_, rfl⟩
      rw [hnA] at HS HD hlen ⊢
      have HNA := Lib.hid hnA
      clear hnA
      go_wp2_with (go_at_call 11; apply stop)
      refine on ?_
      refine HD.out.mono ?_
      rintro e w2 ⟨v2, x, rfl, hx, hxl, h3⟩
      obtain ⟨Y, hY, rfl⟩ : ∃ Y, StoredS A Y ∧ x = bitsL true Y := by
        rcases hx with ⟨_, h⟩ | ⟨h, _⟩
        · exact h.bytes rfl
        · omega
      rw [bytes_of_bits, length_bitsL, show (8 * Y.length + 7) / 8 = Y.length by omega] at h3
      have HY := Lib.hid hY
      obtain ⟨a3, c3, rfl⟩ := h3.reads.sub
      have H3 := Lib.hid h3
      clear h3 hx HD HS hxl hY
      go_upto_region 9 with (fail)
      have hk := fun (W : World) (hr : Reads W 1 (.slice a3 Y.length c3) Y.length (Y.map bv)) => run_b2s (P := Try.prog) Try.underlying22 Try.underlying5 Try.underlying9 hr
      have hk2 := fun (W : World) (hr : Reads W 1 (.slice a7 nA c7) nA (A.map bv)) => run_b2s (P := Try.prog) Try.underlying22 Try.underlying5 Try.underlying9 hr
      have q1 := hk w2.drew H3.out.drew.reads
      have q2 := hk2 w2.drew H3.out.drew.right.reads
      have HK := Lib.hid hk; have HK2 := Lib.hid hk2
      clear hk hk2
      go_region_with (go_at_call 13; refine (HSD.out _ _ H3.out.drew).mono ?_; rintro e w6 ⟨y6, rfl, hy6, h6⟩; obtain rfl := HY.out.same hy6; have q1 := HK.out _ h6.reads; have q2 := HK2.out _ h6.right.reads; have H6 := Lib.hid h6.right.right; clear h6)
      all_goals
        go_wp2_with fail
        go_ret
        exact ⟨rfl, FIN.out _ H6.out⟩
end Go.Proofs.Ytddifndfppilkaa.dstored
