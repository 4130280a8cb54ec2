/-
  Layer 2: whatever is written, and filled up, from either end.
-/
import Derived.Test.YtifbhbknpecnbaaOps
import Derived.Test.YtifbhbknpecnbaaWr2
import Derived.Test.YtifbhbknpecnbaaRef02b
import Derived.Deep.RegionWith
namespace Go.Proofs.Ytifbhbknpecnbaa.writes
open Go.RowKit Go.Mz
set_option linter.unusedVariables false
set_option linter.unusedSimpArgs false

theorem fits_all {l : List OpD} (h : FitsB l = true) : l.length ≤ 100 ∧ ∀ o ∈ l, o.s.length ≤ 60 := by
  simp only [FitsB, Bool.and_eq_true, List.all_eq_true, decide_eq_true_eq] at h
  exact ⟨h.2, h.1⟩
theorem wrL_len (low : Bool) (v : Nat) (n : Int) : (wrL low v n).length ≤ 32 := by
  unfold wrL
  split
  · rename_i h
    rw [length_wrN]
    unfold wrE at h
    split at h
    · cases h
    · omega
  · exact Nat.zero_le _

set_option maxRecDepth 100000 in
set_option maxHeartbeats 4000000 in
theorem walk (vl : Value) (ls : List OpD) (low : Bool) (w : World) (hl : Reads w 4 vl ls.length (opsCells ls)) (hs : ∀ o ∈ ls, o.s.length ≤ maxLen ∧ o.v < 4294967296) :
    Calls Try.prog 5 #[.bool low, vl] w fun e w' => e = .returned (.bool true) ∧ Below w.heap.size w w' := by
  have HL := Lib.hid (Stb.of_old hl)
  obtain ⟨a2, c2, rfl⟩ := hl.sub
  have hm := hl.len_le
  unfold maxLen at hm
  clear hl
  have H := Lib.hid (St.init w)
  have fin : ∀ w', St w w' (old w) → Below w.heap.size w w' := fun w' h => (h.perm ((emp_star _).symm.trans (star_comm _ _))).below
  have FIN := Lib.hid fin; clear fin
  have HS := Lib.hid hs; clear hs
  cases hf : FitsB ls
  · have HF := Lib.hid hf; clear hf
    go_enter Try.func5, Try.ntmps5
    go_wp2_with fail
    refine (lives02 H.out).mono ?_
    rintro e w1 ⟨rfl, h2⟩
    have H2 := Lib.hid h2; clear h2
    go_wp2_with fail
    refine (fits_any H2.out ls HL.out (fun o ho => (HS.out o ho).1)).mono ?_
    rintro e w2 ⟨rfl, h3⟩
    rw [HF.out]
    have H3 := Lib.hid h3; clear h3
    go_wp2_with fail
    refine (lives02 H3.out).mono ?_
    rintro e w3 ⟨rfl, h4⟩
    have H4 := Lib.hid h4; clear h4
    go_wp2_with fail
    go_ret
    exact ⟨rfl, FIN.out _ H4.out⟩
  obtain ⟨hf100, hf60⟩ := fits_all hf
  have HF := Lib.hid hf; clear hf
  have HF6 := Lib.hid hf60; clear hf60
  go_enter Try.func5, Try.ntmps5
  go_wp2_with fail
  refine (lives02 H.out).mono ?_
  rintro e w1 ⟨rfl, h2⟩
  have H2 := Lib.hid h2; clear h2
  go_wp2_with fail
  refine (fits_any H2.out ls HL.out (fun o ho => (HS.out o ho).1)).mono ?_
  rintro e w2 ⟨rfl, h3⟩
  rw [HF.out]
  have H3 := Lib.hid h3; clear h3
  go_wp2_with fail
  refine (newWriter_any H3.out).mono ?_
  rintro e w3 ⟨B, rfl, h4⟩
  have H4 := Lib.hid h4; clear h4
  go_wp2_with fail
  go_loopw [6, 24] (fun q i wr => ∃ (k : Nat) (l : List Nat), k ≤ ls.length ∧ l.length ≤ 64 * k ∧ i = .int .i64 k ∧ q = .string ⟨(tx l).toArray⟩ ∧ St w wr (wrt B l low * old w)) (fun _ i _ => ls.length - (intOf i).toNat)
  case atStart => exact ⟨0, [], Nat.zero_le _, Nat.zero_le _, rfl, rfl, H4.out⟩
  case round =>
    obtain ⟨k, l, hk, hll, rfl, rfl, hst⟩ := hrel
    by_cases hkn : k < ls.length
    · have hg : ls[k]? = some ls[k] := List.getElem?_eq_getElem hkn
      obtain ⟨b, off, rfl, c0, c1, c2, c3⟩ := reads_op (HL.out _ hst.right) hg
      have ho := HS.out ls[k] (by simp)
      have ho6 := HF6.out ls[k] (by simp)
      obtain ⟨hbit, _, _⟩ := wrt_open hst
      have HBT := Lib.hid hbit; clear hbit
      have HG := Lib.hid hg; clear hg
      have HST := Lib.hid hst; clear hst
      generalize ls[k] = o at *
      obtain ⟨_, hov⟩ := ho
      have hA := (HST.out.alloc (.cells #[.int .i64 o.kind, .int .i64 o.n, .int .u32 o.v, .string ⟨o.s.toArray⟩] 36)).perm (star_left_comm _ _ _)
      have HA := Lib.hid hA; clear hA
      go_wp2_with fail
      refine (rwrite_all low o.v o.n HA.out hov (by omega) rfl).mono ?_
      rintro e w6 ⟨rfl, h8⟩
      have d1 := h8.right.cell 1 rfl
      have d2 := h8.right.cell 2 rfl
      have H8 := Lib.hid h8; clear h8
      have hwl := wrL_len low o.v o.n
      go_wp2_with fail
      refine (write_all H8.out o.v o.n hov (by omega)).mono ?_
      rintro e w7 ⟨rfl, h9⟩
      have hm2 : (l ++ wrL low o.v o.n).length ≤ 64 * (k + 1) := by simp; omega
      generalize l ++ wrL low o.v o.n = m at *
      obtain ⟨hbm, _, _⟩ := wrt_open h9
      have HB2 := Lib.hid hbm; clear hbm
      have HW := Lib.hid h9; clear h9
      go_upto_region 25 with (fail)
      rotate_left
      refine (rwrite_all low o.v o.n HA.out hov (by omega) rfl).mono ?_
      rintro e w6 ⟨rfl, h8⟩
      have d1 := h8.right.cell 1 rfl
      have d2 := h8.right.cell 2 rfl
      have H8 := Lib.hid h8; clear h8
      have hwl := wrL_len low o.v o.n
      go_wp2_with fail
      refine (write_all H8.out o.v o.n hov (by omega)).mono ?_
      rintro e w7 ⟨rfl, h9⟩
      have hm2 : (l ++ wrL low o.v o.n).length ≤ 64 * (k + 1) := by simp; omega
      generalize l ++ wrL low o.v o.n = m at *
      obtain ⟨hbm, _, _⟩ := wrt_open h9
      have HB2 := Lib.hid hbm; clear hbm
      have HW := Lib.hid h9; clear h9
      go_upto_region 25 with (fail)
      rotate_left
      cases hd : digB o.s
      · have HD := Lib.hid hd; clear hd
        refine (word_bad _ _ (by unfold maxLen; omega) HD.out).mono ?_
        rintro e w6 ⟨rfl, rfl⟩
        have d3 := HA.out.right.cell 3 rfl
        go_wp2_with fail
        refine (digits_any _ (by unfold maxLen; omega)).mono ?_
        rintro e w6 ⟨rfl, rfl⟩
        rw [HD.out]
        have H9 := Lib.hid (HA.out.perm (star_left_comm _ _ _)).right
        go_wp2_with fail
        go_roundw
        case rel => exact ⟨k + 1, l, by omega, by omega, by go_num, rfl, H9.out⟩
        case measure => simp [intOf]; omega
      have HD := Lib.hid hd; clear hd
      refine (word_ok HA.out o.s (by omega) HD.out (by omega)).mono ?_
      rintro e w6 ⟨rfl, h8⟩
      have d3 := h8.right.cell 3 rfl
      have hm2 : (l ++ unTx o.s).length ≤ 64 * (k + 1) := by simp; omega
      obtain ⟨hbm, _, _⟩ := wrt_open h8
      have HB2 := Lib.hid hbm; clear hbm
      have HW := Lib.hid h8; clear h8
      go_wp2_with fail
      refine (digits_any _ (by unfold maxLen; omega)).mono ?_
      rintro e w6 ⟨rfl, rfl⟩
      rw [HD.out]
      have HE := Lib.hid (show (⟨(tx l).toArray⟩ : ByteArray) ++ ⟨o.s.toArray⟩ = ⟨(tx (l ++ unTx o.s)).toArray⟩ by
        rw [ByteArray.mk_append_mk, tx_append, ← (digB_tx HD.out).1])
      have hll2 : (tx l).length ≤ 6400 := by simp; omega
      go_upto_region 25 with (fail)
      rw [HE.out]
      generalize l ++ unTx o.s = m at *
      rotate_left
      refine (walign_any HA.out (by omega)).mono ?_
      rintro e w6 ⟨rfl, h8⟩
      have H8 := Lib.hid h8; clear h8
      go_wp2_with fail
      refine (ralign_any (by omega) rfl).mono ?_
      rintro e w7 ⟨rfl, rfl⟩
      have hm2 : (alignL l).length ≤ 64 * (k + 1) := by simp [alignL]; omega
      generalize alignL l = m at *
      obtain ⟨hbm, _, _⟩ := wrt_open H8.out
      have HB2 := Lib.hid hbm; clear hbm
      have HW := Lib.hid H8.out; clear H8
      go_upto_region 25 with (fail)
      rotate_left
      all_goals
        have hml : (tx m).length = m.length := by simp
        have K := fun (W : World) (v : Value) (n : Nat) (bs : List UInt8) (hr : Reads W 1 v n (bs.map bv)) => run_b2s (P := Try.prog) Try.underlying22 Try.underlying5 Try.underlying9 hr
        have HK := Lib.hid K; clear K
        have h6400 : m.length ≤ 6400 := by omega
        go_region_with (first | (go_at_call 27; refine (len_any HW.out.drew).mono ?_; rintro e wl ⟨rfl, rfl⟩) | (go_at_call 28; refine (bytes_any HW.out.drew).mono ?_; rintro e wb ⟨vb, rfl, hb5⟩; have q5 := HK.out _ _ _ _ hb5.reads; obtain ⟨ab, cb, rfl⟩ := hb5.reads.sub; have H5 := Lib.hid hb5; clear hb5) | (go_at_call 29; refine (rbytes_any HB2.out low H5.out (by omega) rfl).mono ?_; rintro e wc ⟨rfl, h6⟩; have q6 := HK.out _ _ _ _ h6.reads; have H6 := Lib.hid h6; clear h6))
        all_goals
          clear q5 q6
          have H7 := Lib.hid (H6.out.right.perm (star_left_comm _ _ _)).right
          go_wp2_with fail
          go_roundw
          case rel => exact ⟨k + 1, m, by omega, hm2, by go_num, rfl, H7.out⟩
          case measure => simp [intOf]; omega
    · obtain rfl : k = ls.length := by omega
      have H9 := Lib.hid hst.right; clear hst
      go_wp2_with fail
      go_ret
      exact ⟨rfl, FIN.out _ H9.out⟩
end Go.Proofs.Ytifbhbknpecnbaa.writes
