/-
  Layer 5: codes of single bytes, in either kind.
-/
import Derived.Test.YtpjonjiofaaccaaLzwI
import Derived.Test.YtpjonjiofaaccaaLzwP
namespace Go.Proofs.Ytpjonjiofaaccaa.lcodes
open Go.RowKit Go.Mz
set_option linter.unusedVariables false
set_option linter.unusedSimpArgs false

set_option maxRecDepth 100000 in
set_option maxHeartbeats 40000000 in
theorem walk (vb : Value) (bs : List UInt8) (w : World) (hb : Reads w 1 vb bs.length (bs.map bv)) :
    Calls Try.prog 4 #[vb] w fun e w' => e = .returned (.bool true) ∧ Below w.heap.size w w' := by
  have HB := Lib.hid (Stb.of_old hb)
  obtain ⟨a1, c1, rfl⟩ := hb.sub
  have hm := hb.len_le
  unfold maxLen at hm
  clear hb
  have H := Lib.hid (St.init w)
  have fin : ∀ w', St w w' (Mz.old w) → Below w.heap.size w w' := fun w' h => (h.perm ((emp_star _).symm.trans (star_comm _ _))).below
  have FIN := Lib.hid fin; clear fin
  by_cases hl6 : 200 < bs.length
  · have hl7 : 200 < (bs.length : Int) := by omega
    go_enter Try.func4, Try.ntmps4
    go_wp2_with fail
    refine (lives05 H.out).mono ?_
    rintro e w1 ⟨rfl, h2⟩
    have H2 := Lib.hid h2; clear h2
    go_wp2_with fail
    refine (lives05 H2.out).mono ?_
    rintro e w2 ⟨rfl, h3⟩
    have H3 := Lib.hid h3; clear h3
    go_wp2_with fail
    go_ret
    exact ⟨rfl, FIN.out _ H3.out⟩
  have hl7 : ¬ 200 < (bs.length : Int) := by omega
  have T := elemBytes
  go_enter Try.func4, Try.ntmps4
  go_wp2_with fail
  refine (lives05 H.out).mono ?_
  rintro e w1 ⟨rfl, h2⟩
  have H2 := Lib.hid h2; clear h2
  go_wp2_with (at_builtin; apply stop)
  refine on (wpList_append_sep T rfl _ _ rfl rfl (St.own_blk (e := 5) (size := 1) (n := 0) (cap := 0) (xs := []) (H2.out.alloc (.cells #[] 5)) (Nat.le_refl _) (Nat.zero_le _) rfl rfl) rfl (HB.out _ (H2.out.drop_alloc _)) (bv_oneCell bs) ?_ ?_ ?_)
  · unfold maxLen; omega
  · omega
  intro v' w3 h4 _
  simp only [Nat.zero_add, List.nil_append] at h4
  obtain ⟨ao, co, rfl⟩ := h4.reads.sub
  have H4 := Lib.hid h4; clear h4
  go_wp2_with fail
  go_loopw [25, 3, 4, 5] (fun i hi lo wa wr => ∃ k : Nat, k ≤ bs.length ∧ i = .int .i64 k ∧ hi = .string ⟨(tx (raw9 false (bs.take k))).toArray⟩ ∧ lo = .string ⟨(tx (raw9 true (bs.take k))).toArray⟩ ∧ wa = .string ⟨(bs.take k).toArray⟩ ∧
      St w wr (own 5 1 (.slice ao bs.length co) bs.length (bs.map bv) * Mz.old w)) (fun i _ _ _ _ => bs.length - (intOf i).toNat)
  case atStart => exact ⟨0, by omega, rfl, rfl, rfl, rfl, H4.out⟩
  case round =>
    obtain ⟨k, hk, rfl, rfl, rfl, rfl, hst⟩ := hrel
    by_cases hkn : k < bs.length
    · obtain ⟨g, off, rfl, hc⟩ := (hst.reads).at_ hkn
      have hx := List.getElem?_eq_getElem hkn
      generalize hc5 : bs[k] = c at *
      have hc' : (bs.map bv)[k]? = some (.int .u8 (c.toNat : Int)) := by simp [hx, bv]
      rw [hc'] at hc
      have HT := Lib.hid (show bs.take (k + 1) = bs.take k ++ [c] by rw [List.take_succ_eq_append_getElem hkn, hc5])
      clear hc' hx hc5
      have HS := Lib.hid hst; clear hst
      have hk1 : (k : Int) < bs.length := by omega
      have hlk : (bs.take k).length ≤ 200 := by rw [List.length_take]; omega
      have hw : IntKind.u32.wrap (c.toNat : Int) = c.toNat := by rw [IntKind.wrap_u32']; have := UInt8.toNat_lt c; omega
      have hl1 : (raw9 false (bs.take k)).length ≤ 1800 := by rw [length_raw9]; omega
      have hl2 : (raw9 true (bs.take k)).length ≤ 1800 := by rw [length_raw9]; omega
      have HR1 := Lib.hid (raw9_snoc false (bs.take k) c)
      have HR2 := Lib.hid (raw9_snoc true (bs.take k) c)
      generalize raw9 false (bs.take k) = r1 at *
      generalize raw9 true (bs.take k) = r2 at *
      generalize bs.take k = tk at *
      have hc8 : c.toNat < 256 := UInt8.toNat_lt c
      have HCN := Lib.hid (rfl : c.toNat = c.toNat)
      go_wp2_with fail
      refine (word_any c.toNat 9 HS.out rfl rfl (by omega) (by omega)).mono ?_
      rintro e w5 ⟨rfl, h5⟩
      have H5 := Lib.hid h5; clear h5
      have hwl : (wordB c.toNat 9).length ≤ 9 := by simp
      have hwl2 : (wordB c.toNat 9).reverse.length ≤ 9 := by simp
      have HTT := Lib.hid (fun W => turn_tx (l := wordB c.toNat 9) W (by simp) rfl)
      have HW1 := Lib.hid (show wrN false c.toNat 9 = wordB c.toNat 9 from rfl)
      have HW2 := Lib.hid (show wrN true c.toNat 9 = (wordB c.toNat 9).reverse from rfl)
      generalize hwb : wordB c.toNat 9 = wb at *
      clear hwb
      generalize hwr : wb.reverse = wbr at *
      clear hwr
      go_wp2_with fail
      refine (HTT.out _).mono ?_
      rintro e w6 ⟨rfl, rfl⟩
      go_wp2_with (with_reducible (refine stop_conv 22 9 rfl ?_))
      refine on (wpList_b2s Try.underlying22 Try.underlying5 Try.underlying9 rfl rfl (n := 1) (reads_one w5 5 c rfl) ?_)
      go_wp2_with fail
      refine ⟨⟨k + 1, by omega, by go_num, ?_, ?_, ?_, H5.out.drop_alloc _⟩, by simp [intOf]; omega⟩
      · rw [HT.out, HR1.out, HW1.out, tx_append, ByteArray.mk_append_mk]
      · rw [HT.out, HR2.out, HW2.out, tx_append, ByteArray.mk_append_mk]
      · rw [HT.out, ByteArray.mk_append_mk]
    · obtain rfl : k = bs.length := by omega
      rw [List.take_length]
      have HS := Lib.hid hst; clear hst H4 H2 H
      have hl1 : (raw9 false bs).length ≤ 1800 := by rw [length_raw9]; omega
      have hl2 : (raw9 true bs).length ≤ 1800 := by rw [length_raw9]; omega
      have hb1 := Lib.hid (bit_raw9 false bs)
      have hb2 := Lib.hid (bit_raw9 true bs)
      have HD1 := Lib.hid (dec_raw9 false bs (by omega))
      have HD2 := Lib.hid (dec_raw9 true bs (by omega))
      have hm1 : (bytesB false (raw9 false bs)).length ≤ 300 := by rw [length_bytesB]; omega
      have hm2 : (bytesB true (raw9 true bs)).length ≤ 300 := by rw [length_bytesB]; omega
      have R1 := Lib.hid (rbytes_any hb1.out false HS.out (by omega) rfl)
      have R2 := Lib.hid (fun w0 w F (h : St w0 w F) => rbytes_any hb2.out true h (by omega) rfl)
      generalize bytesB false (raw9 false bs) = bb1 at *
      generalize bytesB true (raw9 true bs) = bb2 at *
      generalize tx (raw9 false bs) = t1 at *
      generalize tx (raw9 true bs) = t2 at *
      go_wp2_with fail
      refine R1.out.mono ?_
      rintro e w5 ⟨rfl, h5⟩
      have H5 := Lib.hid h5; clear h5
      go_wp2_with (with_reducible (refine stop_conv 9 22 rfl ?_))
      refine on (wpList_s2b Try.underlying9 Try.underlying5 Try.underlying22 rfl rfl rfl (by omega) H5.out fun v6 w6 h6 => ?_)
      have H6 := Lib.hid h6; clear h6
      obtain ⟨a6, c6, rfl⟩ := (H6.out.rdo_reads).sub
      have C := lDecode_all H6.out bb1 Stb.of_rdo (by omega) bs.length (by omega)
      rw [HD1.out] at C
      have HC := Lib.hid C; clear C
      go_wp2_with fail
      refine HC.out.mono ?_
      rintro e w7 ⟨v7, rfl, h7⟩
      obtain ⟨a7, c7, rfl⟩ := h7.reads.sub
      have H7 := Lib.hid h7; clear h7 HC
      go_wp2_with fail
      refine (R2.out _ _ _ H7.out).mono ?_
      rintro e w8 ⟨rfl, h8⟩
      have H8 := Lib.hid h8; clear h8
      go_wp2_with (with_reducible (refine stop_conv 9 22 rfl ?_))
      refine on (wpList_s2b Try.underlying9 Try.underlying5 Try.underlying22 rfl rfl rfl (by omega) H8.out fun v9 w9 h9 => ?_)
      have H9 := Lib.hid h9; clear h9
      obtain ⟨a9, c9, rfl⟩ := (H9.out.rdo_reads).sub
      have C := lDecodeOld_all H9.out bb2 Stb.of_rdo (by omega) bs.length (by omega)
      rw [HD2.out] at C
      have HC := Lib.hid C; clear C
      go_wp2_with fail
      refine HC.out.mono ?_
      rintro e w10 ⟨v10, rfl, h10⟩
      obtain ⟨a10, c10, rfl⟩ := h10.reads.sub
      have q1 : (convert 22 9 (.slice a10 bs.length c10)).run Try.prog w10 = .ok (.string ⟨(bs).toArray⟩) w10 := run_b2s (P := Try.prog) Try.underlying22 Try.underlying5 Try.underlying9 h10.reads
      have q2 : (convert 22 9 (.slice a7 bs.length c7)).run Try.prog w10 = .ok (.string ⟨(bs).toArray⟩) w10 := run_b2s (P := Try.prog) Try.underlying22 Try.underlying5 Try.underlying9 h10.right.right.reads
      have H10 := Lib.hid h10; clear h10
      go_wp2_with fail
      go_ret
      exact ⟨rfl, FIN.out _ H10.out.right.right.right.right.right⟩
#print axioms walk
end Go.Proofs.Ytpjonjiofaaccaa.lcodes
