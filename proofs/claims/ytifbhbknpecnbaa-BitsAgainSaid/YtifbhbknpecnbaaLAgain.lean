/-
  Layer 2, without the document's answer: numbers that are written in so many bits are read in as many, from the same end; of bytes whose bits are turned round from the other end.
-/
import Derived.Test.YtifbhbknpecnbaaAgainM
import Derived.Test.YtifbhbknpecnbaaRev
import Derived.Test.YtifbhbknpecnbaaLWrites
import Derived.Deep.RegionHeld3
namespace Go.Proofs.Ytifbhbknpecnbaa.again
open Go.RowKit Go.Mz
set_option linter.unusedVariables false
set_option linter.unusedSimpArgs false

theorem elemOps : ElemT Try.prog 32 36 4 40 (.agg #[.int .i64 0, .int .i64 0, .int .u32 0, .string ByteArray.empty]) :=
  ⟨Try.underlying32, info_parts (by kernel_rfl), rfl, by decide⟩

theorem reads_op1 (w : World) (o : OpD) : Reads (w.alloc (.cells #[.int .i64 o.kind, .int .i64 o.n, .int .u32 o.v, .string ⟨o.s.toArray⟩] 36)) 4 (.slice (some ⟨w.heap.size, 0, none⟩) 1 1) 1 (opCells o) :=
  (St.own_blk (e := 36) (size := 4) (n := 1) (cap := 1) (xs := opCells o) ((St.init w).alloc _) (Nat.le_refl _) (by decide) rfl rfl).reads
theorem op_oneCell (o : OpD) : ∀ u ∈ opCells o, u.oneCell' = true := by
  intro u hu
  simp [opCells] at hu
  rcases hu with rfl | rfl | rfl | rfl <;> rfl

set_option maxRecDepth 100000 in
set_option maxHeartbeats 4000000 in
theorem walk (vl : Value) (ls : List OpD) (low : Bool) (w : World) (hl : Reads w 4 vl ls.length (opsCells ls)) (hs : ∀ o ∈ ls, o.s.length ≤ maxLen ∧ o.v < 4294967296) :
    Calls Try.prog 6 #[.bool low, vl] w fun e w' => e = .returned (.bool true) ∧ Below w.heap.size w w' := by
  have HL := Lib.hid (Stb.of_old hl)
  obtain ⟨a2, c2, rfl⟩ := hl.sub
  have hm := hl.len_le
  unfold maxLen at hm
  clear hl
  have H := Lib.hid (St.init w)
  have fin : ∀ w', St w w' (old w) → Below w.heap.size w w' := fun w' h => (h.perm ((emp_star _).symm.trans (star_comm _ _))).below
  have FIN := Lib.hid fin; clear fin
  have HS := Lib.hid hs; clear hs
  cases hf : FitsB ls
  · have HF := Lib.hid hf; clear hf
    go_enter Try.func6, Try.ntmps6
    go_wp2_with fail
    refine (lives02 H.out).mono ?_
    rintro e w1 ⟨rfl, h2⟩
    have H2 := Lib.hid h2; clear h2
    go_wp2_with fail
    refine (fits_any H2.out ls HL.out (fun o ho => (HS.out o ho).1)).mono ?_
    rintro e w2 ⟨rfl, h3⟩
    rw [HF.out]
    have H3 := Lib.hid h3; clear h3
    go_wp2_with fail
    refine (lives02 H3.out).mono ?_
    rintro e w3 ⟨rfl, h4⟩
    have H4 := Lib.hid h4; clear h4
    go_wp2_with fail
    go_ret
    exact ⟨rfl, FIN.out _ H4.out⟩
  obtain ⟨hf100, hf60⟩ := writes.fits_all hf
  have HF := Lib.hid hf; clear hf
  have HF6 := Lib.hid hf60; clear hf60
  have T := elemOps
  go_enter Try.func6, Try.ntmps6
  go_wp2_with fail
  refine (lives02 H.out).mono ?_
  rintro e w1 ⟨rfl, h2⟩
  have H2 := Lib.hid h2; clear h2
  go_wp2_with fail
  refine (fits_any H2.out ls HL.out (fun o ho => (HS.out o ho).1)).mono ?_
  rintro e w2 ⟨rfl, h3⟩
  rw [HF.out]
  have H3 := Lib.hid h3; clear h3
  go_wp2_with fail
  refine (newWriter_any H3.out).mono ?_
  rintro e w3 ⟨B, rfl, h4⟩
  have H4 := Lib.hid h4; clear h4
  go_wp2_with fail
  go_loopw [6, 30] (fun q i wr => ∃ (k : Nat) (K : List OpD) (a : Option Addr) (c : Nat), k ≤ ls.length ∧ K.length ≤ k ∧ i = .int .i64 k ∧ q = .slice a K.length c ∧ GoodK K ∧ St w wr (own 36 4 (.slice a K.length c) K.length (opsCells K) * (wrt B (bitsK low K) low * old w))) (fun _ i _ => ls.length - (intOf i).toNat)
  case atStart => exact ⟨0, [], none, 0, Nat.zero_le _, Nat.zero_le _, rfl, rfl, (fun o ho => by cases ho), H4.out.own_nil _ _⟩
  case round =>
    obtain ⟨k, K, aK, cK, hk, hKk, rfl, rfl, hgood, hst⟩ := hrel
    have hlen := bitsK_len low hgood
    by_cases hkn : k < ls.length
    · have hg : ls[k]? = some ls[k] := List.getElem?_eq_getElem hkn
      obtain ⟨b, off, rfl, c0, c1, c2, c3⟩ := reads_op (HL.out _ hst.right.right) hg
      have ho := (HS.out ls[k] (by simp)).2
      have HG := Lib.hid hg; clear hg
      have HST := Lib.hid hst; clear hst
      have HGD := Lib.hid hgood; clear hgood
      generalize ls[k] = o at *
      have hA := (HST.out.alloc (.cells #[.int .i64 o.kind, .int .i64 o.n, .int .u32 o.v, .string ⟨o.s.toArray⟩] 36))
      have HA := Lib.hid (hA.perm (show _ = wrt B (bitsK low K) low * (blk _ _ * (own 36 4 (.slice aK K.length cK) K.length (opsCells K) * old w)) by ac_rfl)); clear hA
      go_wp2_with fail
      refine (write_all HA.out o.v o.n ho (by omega)).mono ?_
      rintro e w6 ⟨rfl, h8⟩
      have d0 := h8.right.cell 0 rfl
      have d1 := h8.right.cell 1 rfl
      have d2 := h8.right.cell 2 rfl
      have d3 := h8.right.cell 3 rfl
      have H8 := Lib.hid h8; clear h8
      by_cases hz : wrE o.v o.n = 0
      · have HE := Lib.hid (show wrL low o.v o.n = wrN low o.v o.n.toNat by unfold wrL; rw [if_pos hz])
        have HG2 := Lib.hid (show GoodK (K ++ [o]) from fun p hp => by
          rcases List.mem_append.1 hp with h | h
          · exact HGD.out p h
          · simp at h; subst h; exact ⟨hz, ho⟩)
        rw [hz]
        clear hz
        go_wp2_with (at_builtin; apply stop)
        refine on (wpList_append_sep T rfl (.tmp 41) (.tmp 43) rfl rfl ((H8.out.drop_alloc _).perm (show _ = own 36 4 (.slice aK K.length cK) K.length (opsCells K) * (blk _ _ * (wrt B (bitsK low K ++ wrL low o.v o.n) low * old w)) by ac_rfl)) rfl (reads_op1 w6 o) (op_oneCell o) ?_ ?_ ?_)
        · unfold maxLen; omega
        · omega
        intro v' w7 h9 _
        have h9 := (h9.perm (star_left_comm _ _ _)).right
        rw [HE.out, ← bitsK_snoc, show opsCells K ++ opCells o = opsCells (K ++ [o]) by simp [opsCells]] at h9
        have hKl : (K ++ [o]).length = K.length + 1 := by simp
        rw [← hKl] at h9
        obtain ⟨aN, cN, rfl⟩ := h9.reads.sub
        have H9 := Lib.hid h9; clear h9
        go_wp2_with fail
        go_roundw
        case rel => exact ⟨k + 1, K ++ [o], aN, cN, by omega, by rw [hKl]; omega, by go_num, by rw [hKl], HG2.out, H9.out⟩
        case measure => simp [intOf]; omega
      · have hz1 : ((wrE o.v o.n : Int) == 0) = false := by simpa using hz
        have HE := Lib.hid (show wrL low o.v o.n = [] by unfold wrL; rw [if_neg hz])
        clear hz
        generalize wrE o.v o.n = x at *
        go_wp2_with fail
        go_roundw
        case rel => exact ⟨k + 1, K, aK, cK, by omega, by omega, by go_num, rfl, HGD.out, by
          have := H8.out
          rw [HE.out, List.append_nil] at this
          exact (this.perm (show _ = blk _ _ * (own 36 4 (.slice aK K.length cK) K.length (opsCells K) * (wrt B (bitsK low K) low * old w)) by ac_rfl)).right⟩
        case measure => simp [intOf]; omega
    · obtain rfl : k = ls.length := by omega
      have HGD := Lib.hid hgood; clear hgood
      have HST := Lib.hid (hst.perm (star_left_comm _ _ _)); clear hst
      go_wp2_with fail
      refine (bytes_any HST.out).mono ?_
      rintro e w4 ⟨vb, rfl, h5⟩
      have hbl : (bytesB low (bitsK low K)).length = ((bitsK low K).length + 7) / 8 := length_bytesB _ _
      rw [← hbl] at h5
      have H5 := Lib.hid h5; clear h5
      go_wp2_with fail
      refine (newReader_any H5.out Stb.of_own (by omega)).mono ?_
      rintro e w5 ⟨B1, rfl, h6⟩
      have H6 := Lib.hid h6; clear h6
      go_wp2_with fail
      refine (reverseAll_any H6.out (bytesB low (bitsK low K)) (Stb.of_own.more _) (by omega)).mono ?_
      rintro e w6 ⟨vr, rfl, h7⟩
      have hrl : ((bytesB low (bitsK low K)).map revB).length = (bytesB low (bitsK low K)).length := by simp
      have H7 := Lib.hid h7; clear h7
      go_wp2_with fail
      refine (newReader_any H7.out Stb.of_own (by omega)).mono ?_
      rintro e w7 ⟨B2, rfl, h8⟩
      have h8 := (h8.perm (star_left_comm _ _ _)).right
      have h8 := (h8.perm (show _ = own 5 1 vb (bytesB low (bitsK low K)).length ((bytesB low (bitsK low K)).map bv) * (rdr B1 (bytesB low (bitsK low K)) 0 low * (rdr B2 ((bytesB low (bitsK low K)).map revB) 0 (!low) * (wrt B (bitsK low K) low * (own 36 4 (.slice aK K.length cK) K.length (opsCells K) * old w)))) by ac_rfl)).right
      have H8 := Lib.hid h8; clear h8
      go_wp2_with fail
      go_loopw [58] (fun i wr => ∃ (j : Nat), j ≤ K.length ∧ i = .int .i64 j ∧ St w wr (rdr B1 (bytesB low (bitsK low K)) (bitsK low (K.take j)).length low * (rdr B2 ((bytesB low (bitsK low K)).map revB) (bitsK low (K.take j)).length (!low) * (wrt B (bitsK low K) low * (own 36 4 (.slice aK K.length cK) K.length (opsCells K) * old w))))) (fun i _ => K.length - (intOf i).toNat)
      case atStart => exact ⟨0, Nat.zero_le _, rfl, H8.out⟩
      case round =>
        obtain ⟨j, hj, rfl, hst⟩ := hrel
        by_cases hjn : j < K.length
        · have hg : K[j]? = some K[j] := List.getElem?_eq_getElem hjn
          obtain ⟨b, off, rfl, c0, c1, c2, c3⟩ := reads_op (hst.right.right.right.reads) hg
          obtain ⟨f1, f2, f3, f4⟩ := again_facts low HGD.out hg
          obtain ⟨g1, g2, g3⟩ := wrE_zero (HGD.out K[j] (by simp)).1 (HGD.out K[j] (by simp)).2
          have HST := Lib.hid hst; clear hst
          have HF4 := Lib.hid f4; clear f4
          generalize K[j] = o at *
          have hA := (HST.out.alloc (.cells #[.int .i64 o.kind, .int .i64 o.n, .int .u32 o.v, .string ⟨o.s.toArray⟩] 36)).perm (star_left_comm _ _ _)
          have HA := Lib.hid hA; clear hA
          have P1 := Lib.hid (read_ok HA.out (j := o.n) o.n.toNat (by omega) (by omega) f1)
          rw [f2] at P1
          clear f2
          go_wp2_with fail
          refine P1.out.mono ?_
          rintro e w8 ⟨rfl, h9⟩
          have h9 := (h9.perm (show _ = rdr B2 ((bytesB low (bitsK low K)).map revB) (bitsK low (K.take j)).length (!low) * (blk _ _ * (rdr B1 (bytesB low (bitsK low K)) ((bitsK low (K.take j)).length + o.n.toNat) low * (wrt B (bitsK low K) low * (own 36 4 (.slice (some ⟨b, off, none⟩) K.length cK) K.length (opsCells K) * old w)))) by ac_rfl))
          have d1 := h9.right.cell 1 rfl
          have H9 := Lib.hid h9; clear h9
          have P2 := Lib.hid (read_ok H9.out (j := o.n) o.n.toNat (by omega) (by omega) (by rw [hrl]; exact f1))
          have hu := peekV_lt ((bytesB low (bitsK low K)).map revB) (!low) (bitsK low (K.take j)).length o.n.toNat
          have hpw := pow32 (n := o.n.toNat) (by omega)
          generalize peekV ((bytesB low (bitsK low K)).map revB) (!low) (bitsK low (K.take j)).length o.n.toNat = u at *
          go_wp2_with fail
          refine P2.out.mono ?_
          rintro e w9 ⟨rfl, h10⟩
          have H10 := Lib.hid h10; clear h10
          have e1 := H10.out.right.cell 1 rfl
          have e2 := H10.out.right.cell 2 rfl
          go_wp2_with fail
          generalize wr.heap.size = ob at *
          go_region_held3 (fun w' => w'.cell? ⟨ob, 1, none⟩ = some (.int .i64 o.n) ∧ w'.cell? ⟨ob, 2, none⟩ = some (.int .u32 o.v))
            (first | exact ⟨y1, y2⟩ | exact ⟨x1, x2⟩ | go_keep)
            (first | (go_at_call 31; refine (word_any o.v o.n.toNat HA1.out rfl (by omega) (by omega) (by omega)).mono ?_; rintro e wb ⟨rfl, hb⟩; have y1 := hb.right.cell 1 rfl; have y2 := hb.right.cell 2 rfl; have HB1 := Lib.hid hb; clear hb) | (go_at_call 31; refine (word_any u o.n.toNat H10.out.drew rfl (by omega) (by omega) (by omega)).mono ?_; rintro e wa ⟨rfl, ha⟩; have x1 := ha.right.cell 1 rfl; have x2 := ha.right.cell 2 rfl; have HA1 := Lib.hid ha; clear ha) | (go_at_call 32; refine (turn_tx _ (by simp; omega) rfl).mono ?_; rintro e wc ⟨rfl, rfl⟩))
          have hfin := HB1.out.perm (show _ = blk _ _ * (rdr B1 (bytesB low (bitsK low K)) ((bitsK low (K.take j)).length + o.n.toNat) low * (rdr B2 ((bytesB low (bitsK low K)).map revB) ((bitsK low (K.take j)).length + o.n.toNat) (!low) * (wrt B (bitsK low K) low * (own 36 4 (.slice (some ⟨b, off, none⟩) K.length cK) K.length (opsCells K) * old w)))) by ac_rfl)
          have HFIN := Lib.hid hfin.right; clear hfin
          go_wp2_with fail
          go_roundw
          case rel => exact ⟨j + 1, by omega, by go_num, by rw [HF4.out]; exact HFIN.out⟩
          case measure => simp [intOf]; omega
        · obtain rfl : j = K.length := by omega
          rw [List.take_length] at hst
          have HST := Lib.hid hst; clear hst
          have hlt8 : 8 * ((bytesB low (bitsK low K)).length : Int) - (bitsK low K).length < 8 := by omega
          go_wp2_with fail
          refine (left_st HST.out).mono ?_
          rintro e w8 ⟨rfl, h9⟩
          have H9 := Lib.hid h9; clear h9
          go_wp2_with fail
          refine (at_any (rdr_at H9.out)).mono ?_
          rintro e w' ⟨rfl, rfl⟩
          go_wp2_with fail
          have H10 := Lib.hid (H9.out.perm (show _ = wrt B (bitsK low K) low * (rdr B1 (bytesB low (bitsK low K)) (bitsK low K).length low * (rdr B2 ((bytesB low (bitsK low K)).map revB) (bitsK low K).length (!low) * (own 36 4 (.slice aK K.length cK) K.length (opsCells K) * old w))) by ac_rfl))
          refine (len_any H10.out).mono ?_
          rintro e w' ⟨rfl, rfl⟩
          go_wp2_with fail
          go_ret
          exact ⟨rfl, FIN.out _ H10.out.right.right.right.right⟩
end Go.Proofs.Ytifbhbknpecnbaa.again
