/-
  Layer 5: what is encoded is decoded, also long bytes, whatever stands behind them.
-/
import Derived.Test.YtpjonjiofaaccaaLTail
namespace Go.Proofs.Ytpjonjiofaaccaa.lagain
open Go.RowKit Go.Mz
open Go.Proofs.Ytpjonjiofaaccaa.ltail (kmod reads_take reads_cap)
set_option linter.unusedVariables false
set_option linter.unusedSimpArgs false

theorem kmod40 (n : Int) : ∃ K : Nat, (IntKind.u64.wrap n).tmod 40 = K ∧ K < 40 := by
  have h0 : 0 ≤ IntKind.u64.wrap n := by
    simp [IntKind.wrap, IntKind.bits, IntKind.signed]
    exact Int.emod_nonneg _ (by decide)
  rw [Int.tmod_eq_emod_of_nonneg h0]
  have h1 := Int.emod_nonneg (IntKind.u64.wrap n) (show (40 : Int) ≠ 0 by omega)
  have h2 := Int.emod_lt_of_pos (IntKind.u64.wrap n) (show (0 : Int) < 40 by omega)
  generalize IntKind.u64.wrap n % 40 = x at *
  exact ⟨x.toNat, by omega, by omega⟩

/-- So many times. -/
def times (bs : List UInt8) : Nat → List UInt8
  | 0 => []
  | k + 1 => times bs k ++ bs
theorem length_times (bs : List UInt8) : ∀ k, (times bs k).length = k * bs.length
  | 0 => by simp [times]
  | k + 1 => by rw [times, List.length_append, length_times bs k, Nat.succ_mul]

set_option maxRecDepth 100000 in
set_option maxHeartbeats 40000000 in
theorem walk (vb : Value) (bs : List UInt8) (tm n : Int) (w : World) (hb : Reads w 1 vb bs.length (bs.map bv)) :
    Calls Try.prog 6 #[vb, .int .i64 tm, .int .i64 n] w fun e w' => e = .returned (.bool true) ∧ Below w.heap.size w w' := by
  have HB := Lib.hid (Stb.of_old hb)
  obtain ⟨a1, c1, rfl⟩ := hb.sub
  have hm := hb.len_le
  unfold maxLen at hm
  clear hb
  have H := Lib.hid (St.init w)
  have fin : ∀ w', St w w' (Mz.old w) → Below w.heap.size w w' := fun w' h => (h.perm ((emp_star _).symm.trans (star_comm _ _))).below
  have FIN := Lib.hid fin; clear fin
  by_cases hl6 : 300 < bs.length
  · have hl7 : 300 < (bs.length : Int) := by omega
    go_enter Try.func6, Try.ntmps6
    go_wp2_with fail
    refine (lives05 H.out).mono ?_
    rintro e w1 ⟨rfl, h2⟩
    have H2 := Lib.hid h2; clear h2
    go_wp2_with fail
    refine (lives05 H2.out).mono ?_
    rintro e w2 ⟨rfl, h3⟩
    have H3 := Lib.hid h3; clear h3
    go_wp2_with fail
    go_ret
    exact ⟨rfl, FIN.out _ H3.out⟩
  have hl7 : ¬ 300 < (bs.length : Int) := by omega
  have T := elemBytes
  obtain ⟨K0, hK0, hK1⟩ := kmod40 tm
  go_enter Try.func6, Try.ntmps6
  go_wp2_with fail
  refine (lives05 H.out).mono ?_
  rintro e w1 ⟨rfl, h2⟩
  have H2 := Lib.hid h2; clear h2
  go_wp2_with fail
  go_loopw [29, 7] (fun i va wr => ∃ k : Nat, k ≤ 1 + K0 ∧ i = .int .i64 k ∧ St w wr (own 5 1 va (times bs k).length ((times bs k).map bv) * Mz.old w)) (fun i _ _ => 1 + K0 - (intOf i).toNat)
  case atStart => exact ⟨0, by omega, rfl, St.own_nil _ _ H2.out⟩
  case round =>
    obtain ⟨k, hk, rfl, hst⟩ := hrel
    obtain ⟨a7, c7, rfl⟩ := hst.reads.sub
    have HS := Lib.hid hst; clear hst
    have hlt := length_times bs k
    have hlen : (times bs k).length ≤ 12000 := by
      rw [hlt]
      exact Nat.le_trans (Nat.mul_le_mul (show k ≤ 40 by omega) (show bs.length ≤ 300 by omega)) (by decide)
    clear hlt
    by_cases hkn : k < 1 + K0
    · have hk1 : (k : Int) < 1 + K0 := by omega
      have HTT := Lib.hid (show times bs (k + 1) = times bs k ++ bs from rfl)
      generalize times bs k = tk at *
      go_wp2_with (at_builtin; apply stop)
      refine on (wpList_append_sep T rfl _ _ rfl rfl HS.out rfl (HB.out _ HS.out.right) (bv_oneCell bs) ?_ ?_ ?_)
      · unfold maxLen; omega
      · omega
      intro v' w7 h7 _
      rw [← List.map_append, ← List.length_append] at h7
      obtain ⟨a8, c8, rfl⟩ := h7.reads.sub
      have H7 := Lib.hid h7; clear h7
      generalize hn8 : (tk ++ bs).length = n8 at *
      have HN8 := Lib.hid hn8; clear hn8
      go_wp2_with fail
      refine ⟨⟨k + 1, by omega, by go_num, ?_⟩, by simp [intOf]; omega⟩
      rw [HTT.out, HN8.out]
      exact H7.out
    · obtain rfl : k = 1 + K0 := by omega
      have hk1 : ¬ (((1 + K0 : Nat) : Int) < 1 + K0) := by omega
      generalize times bs (1 + K0) = A at *
      go_wp2_with fail
      refine (encode_any HS.out A Stb.of_own (by omega)).mono ?_
      rintro e w2 ⟨v2, rfl, h3⟩
      have hx5 : (bytesB false (encB A)).length ≤ 50000 := by rw [length_bytesB]; have := length_encB A; omega
      have hD := fun tail m => dec_encB A (agree_encB A tail) m
      have HD := Lib.hid hD; clear hD
      generalize hX : bytesB false (encB A) = X at *
      obtain ⟨a3, c3, rfl⟩ := h3.reads.sub
      have H3 := Lib.hid h3; clear h3
      clear hX
      go_wp2_with (at_builtin; apply stop)
      refine on (wpList_append_sep T rfl _ _ rfl rfl (St.own_blk (e := 5) (size := 1) (n := 0) (cap := 0) (xs := []) (H3.out.alloc (.cells #[] 5)) (Nat.le_refl _) (Nat.zero_le _) rfl rfl) rfl ((H3.out.drop_alloc _).reads) (bv_oneCell X) ?_ ?_ ?_)
      · unfold maxLen; omega
      · omega
      intro v4 w4 h4 _
      simp only [Nat.zero_add, List.nil_append] at h4
      obtain ⟨a4, c4, rfl⟩ := h4.reads.sub
      have h4' := h4.lit #[.int .u8 1, .int .u8 2, .int .u8 3] 5 3 rfl (by decide)
      have H4 := Lib.hid h4'; clear h4 h4'
      go_wp2_with (at_builtin; apply stop)
      refine on (wpList_append_sep T rfl _ _ rfl rfl (H4.out.perm (star_left_comm _ _ _)) rfl (m := 3) (news := [1, 2, 3].map bv) H4.out.reads (bv_oneCell [1, 2, 3]) ?_ ?_ ?_)
      · unfold maxLen; omega
      · omega
      intro v5 w5 h5 _
      rw [← List.map_append] at h5
      have h5 := (h5.perm (star_left_comm _ _ _)).right
      obtain ⟨a5, c5, rfl⟩ := h5.reads.sub
      have H5 := Lib.hid h5; clear h5
      have hlen : (X ++ [1, 2, 3]).length = X.length + 3 := by rw [List.length_append]; rfl
      have C := lDecode_all (H5.out) (X ++ [1, 2, 3]) (v := .slice a5 (X.length + 3) c5) (by rw [hlen]; exact Stb.of_own) (by omega) A.length (by omega)
      rw [(HD.out [1, 2, 3] A.length).2.2 rfl] at C
      have HC := Lib.hid C; clear C hlen
      go_wp2_with fail
      refine HC.out.mono ?_
      rintro e w6 ⟨v6, rfl, h6⟩
      obtain ⟨a6, c6, rfl⟩ := h6.reads.sub
      have q1 : (convert 22 9 (.slice a6 A.length c6)).run Try.prog w6 = .ok (.string ⟨(A).toArray⟩) w6 := run_b2s (P := Try.prog) Try.underlying22 Try.underlying5 Try.underlying9 h6.reads
      have q2 : (convert 22 9 (.slice a7 A.length c7)).run Try.prog w6 = .ok (.string ⟨(A).toArray⟩) w6 := run_b2s (P := Try.prog) Try.underlying22 Try.underlying5 Try.underlying9 h6.right.right.right.reads
      have H6 := Lib.hid (h6.right.right); clear h6 HC
      have hend := (HD.out [] (A.length + 1)).1 (by omega)
      rw [List.append_nil] at hend
      have C := lDecode_all H6.out X Stb.of_own (by omega) ((A.length : Int) + 1) (by omega)
      rw [show dec (bitsL false X) false ((A.length : Int) + 1) = ([], 2) from hend] at C
      have HC := Lib.hid C; clear C hend
      have hs1 : IntKind.i64.wrap ((A.length : Int) + 1) = (A.length : Int) + 1 := IntWalk.i64_in _ (by omega)
      go_wp2_with fail
      refine HC.out.mono ?_
      rintro e w7 ⟨v7, rfl, h7⟩
      obtain ⟨a9, c9, rfl⟩ := h7.reads.sub
      have H7 := Lib.hid h7.right; clear h7 HC
      obtain ⟨K, hK, hK2⟩ := kmod n A.length (by omega)
      have hKc := reads_cap H7.out.right.reads
      have C := lDecode_all H7.out X Stb.of_own (by omega) K (by omega)
      have hcase := (HD.out [] K).2.1 hK2
      rw [List.append_nil] at hcase
      have hK0' : (0 : Int) ≤ K := by omega
      have hK3 : (K : Int) ≤ A.length := by omega
      have hK4 : (K : Int) ≤ c7 := by omega
      have HKK := Lib.hid hK; clear hK
      rcases hcase with hcase | hcase
      · rw [hcase] at C
        have HC := Lib.hid C; clear C hcase
        go_wp2_with fail
        rw [HKK.out]
        refine HC.out.mono ?_
        rintro e w8 ⟨v8, rfl, h8⟩
        have hlt : (A.take K).length = K := by rw [List.length_take]; omega
        rw [hlt] at h8
        obtain ⟨a8, c8, rfl⟩ := h8.reads.sub
        have q3 : ∀ m, (convert 22 9 (.slice a8 K c8)).run Try.prog (w8.drewN m) = .ok (.string ⟨(A.take K).toArray⟩) (w8.drewN m) := fun m => run_b2s (P := Try.prog) Try.underlying22 Try.underlying5 Try.underlying9 (h8.drewN m).reads
        have q4 : ∀ m, (convert 22 9 (.slice a7 K c7)).run Try.prog (w8.drewN m) = .ok (.string ⟨(A.take K).toArray⟩) (w8.drewN m) := fun m => run_b2s (P := Try.prog) Try.underlying22 Try.underlying5 Try.underlying9 (reads_take (h8.drewN m).right.right.reads hK2)
        have H7 := Lib.hid h8.right; clear h8 HC
        generalize hstr : (ByteArray.mk (A.take K).toArray) = str at *
        clear hstr
        go_upto_region 15 with (fail)
        go_quiet (fail)
        have h8 := H7.out.drewN nq
        generalize w8.drewN nq = w9 at *
        have H9 := Lib.hid h8; clear h8
        go_wp2_with fail
        go_ret
        exact ⟨rfl, FIN.out _ H9.out.right.right⟩
      · rw [hcase] at C
        have HC := Lib.hid C; clear C hcase
        go_wp2_with fail
        rw [HKK.out]
        refine HC.out.mono ?_
        rintro e w8 ⟨v8, rfl, h8⟩
        obtain ⟨a8, c8, rfl⟩ := h8.reads.sub
        have H7 := Lib.hid h8.right; clear h8 HC
        go_upto_region 15 with (fail)
        go_quiet (fail)
        have h8 := H7.out.drewN nq
        generalize w8.drewN nq = w9 at *
        have H9 := Lib.hid h8; clear h8
        go_wp2_with fail
        go_ret
        exact ⟨rfl, FIN.out _ H9.out.right.right⟩
#print axioms walk
end Go.Proofs.Ytpjonjiofaaccaa.lagain
