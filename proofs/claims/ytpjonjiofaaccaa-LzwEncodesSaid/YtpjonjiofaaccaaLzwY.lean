/-
  Layer 5, the document's answer: all that codes up to End give.
-/
import Derived.Test.YtpjonjiofaaccaaLzwH
import Derived.Test.YtpjonjiofaaccaaLzwR
namespace Go.Proofs.Ytpjonjiofaaccaa
open Go.RowKit Go.Mz
set_option linter.unusedVariables false
set_option linter.unusedSimpArgs false

theorem zeros_of {l : List Nat} (h : ∀ i, l.getD i 0 = 0) : l = List.replicate l.length 0 := by
  apply List.ext_getElem?
  intro i
  have := h i
  rw [List.getD_eq_getElem?_getD] at this
  rw [List.getElem?_replicate]
  split
  · rename_i hi
    rw [List.getElem?_eq_getElem hi] at this ⊢
    simpa using this
  · rename_i hi
    exact List.getElem?_eq_none (by omega)
theorem numB_zeros (n : Nat) : numB (List.replicate n 0) = 0 := by
  induction n with
  | zero => rfl
  | succ n ih => rw [List.replicate_succ, numB_cons, ih]; simp

set_option maxRecDepth 100000 in
set_option maxHeartbeats 40000000 in
theorem all_any {w0 w : World} {F : SProp} (h : St w0 w F) (b : List UInt8) (hl : b.length ≤ 100000) {s : ByteArray} (hs : s = ⟨(bytesB false (encB b)).toArray⟩) :
    Calls Try.prog 15 #[.string s] w fun e w' => ∃ most : Nat, most ≤ 4094 ∧ e = .returned (.tuple #[.string ⟨b.toArray⟩, .bool true, .int .i64 most]) ∧ St w0 w' F := by
  subst hs
  have hA := agree_encB b []
  rw [List.append_nil] at hA
  obtain ⟨hs0, ts0, s1, s2, r1, r2, r3, r4⟩ := encB_run b hA
  have hX : (bytesB false (encB b)).length ≤ 1000000 := by rw [length_bytesB]; have := length_encB b; omega
  have hEl := length_encB b
  have hbl : (bitsL false (bytesB false (encB b))).length = 8 * (((encB b).length + 7) / 8) := by rw [length_bitsL, length_bytesB]
  have hbb : Bit (bitsL false (bytesB false (encB b))) := bit_bitsL _ _
  have hzero : ∀ i, (encB b).length ≤ i → (bitsL false (bytesB false (encB b))).getD i 0 = 0 := fun i hi => by
    rw [bitsL_bytesB false (bit_encB b), List.getD_eq_getElem?_getD, List.getElem?_eq_none hi]; rfl
  have hp0 : numV false (fun i => (bitsL false (bytesB false (encB b))).getD (0 + i) 0) 9 = 256 := by
    have h1 : Agree (bitsL false (bytesB false (encB b))) 0 (wordB 256 9) := by unfold encB at hA ⊢; exact hA.left
    have := (h1.code (c := 256) (by decide) (L := start0) (a := []) (by rw [length_start0]; rfl)).1
    rw [codeAt] at this
    simpa [length_start0, widthL] using this
  have hrest : (bitsL false (bytesB false (encB b))).drop s2.p = List.replicate ((bitsL false (bytesB false (encB b))).length - s2.p) 0 := by
    have := zeros_of (l := (bitsL false (bytesB false (encB b))).drop s2.p) (fun i => by
      rw [List.getD_eq_getElem?_getD, List.getElem?_drop, ← List.getD_eq_getElem?_getD]
      exact hzero _ (by omega))
    rw [List.length_drop] at this
    exact this
  have hrun := Run.cons hs0 (by simp only [length_start0]; omega) (by simp only; omega) r1
  have hts := hrun.len
  have hcp := codeS_p (bitsL false (bytesB false (encB b))) false s1
  rw [r2] at hcp
  simp only at hts hcp
  have H := Lib.hid h; clear h
  have HO := Lib.hid (fun w0 w F (h : St w0 w F) => of_any (bytesB false (encB b)) false h (by omega))
  generalize bytesB false (encB b) = X at *
  generalize hbits : bitsL false X = bits at *
  have hs2l : s2.p ≤ bits.length := by rw [hbl]; omega
  have hs2u : bits.length - s2.p < 8 := by rw [hbl]; omega
  have HBB := Lib.hid hbb; clear hbb
  have HR2 := Lib.hid r2; clear r2
  have HREST := Lib.hid hrest; clear hrest
  have HRUN := Lib.hid hrun; clear hrun r1 hs0
  have HFL := Lib.hid (show ([] :: ts0).flatten = b by simpa using r3); clear r3
  have HP0 := Lib.hid hp0; clear hp0 hzero hA
  clear hbits
  have HPK := Lib.hid (fun w => rpeek_any HBB.out 0 9 false w (by omega) (by omega) (by omega) (i := 0) (j := 9) rfl rfl)
  rw [HP0.out] at HPK
  generalize hsb : (ByteArray.mk (tx bits).toArray) = sb at *
  have HSB := Lib.hid hsb; clear hsb
  have hbl2 : bits.length ≤ 9000000 := by omega
  generalize hq : ([] :: ts0 : List Txt) = ts1 at *
  have htl : ts1.length ≤ bits.length := by omega
  clear hq hts hbl r4
  go_enter Try.func15, Try.ntmps15
  go_wp2_with fail
  refine (HO.out _ _ _ H.out).mono ?_
  rintro e w1 ⟨rfl, h1⟩
  have H1 := Lib.hid h1; clear h1 H
  go_wp2_with fail
  refine (rstart_any H1.out).mono ?_
  rintro e w2 ⟨v0, rfl, h2⟩
  obtain ⟨a0, c0, rfl⟩ := h2.reads.sub
  have h3 := (h2.alloc (.cells #[.slice a0 start0.length c0, .string ⟨#[]⟩, .int .i64 0] 47))
  have H3 := Lib.hid h3; clear h3 h2
  generalize hn0 : start0.length = n0 at *
  have HN0 := Lib.hid hn0; clear hn0
  go_wp2_with fail
  refine (HPK.out _).mono ?_
  rintro e w4 ⟨rfl, rfl⟩
  have hlb : sb.size = bits.length := by rw [← HSB.out]; show (tx bits).toArray.size = _; simp
  have HLB := Lib.hid hlb; clear hlb
  go_wp2_with fail
  generalize w2.heap.size = b6 at *
  go_loopg [11, 9, 10] ts1.length (fun g vi vo vm wr => ∃ (L : List Txt) (a : Txt) (p : Nat) (out : Txt) (ts : List Txt) (most i : Nat) (vL : Value), vi = .int .i64 i ∧ vo = .string ⟨out.toArray⟩ ∧ vm = .int .i64 most ∧ most ≤ 4094 ∧ g = ts.length ∧ i + ts.length ≤ bits.length ∧
      LOk bits ⟨L, a, p⟩ ∧ Run bits ⟨L, a, p⟩ ts s1 ∧ out ++ ts.flatten = b ∧ St w0 wr (blk b6 (.cells #[vL, .string ⟨a.toArray⟩, .int .i64 (p : Int)] 47) * (own 9 1 vL L.length (L.map sv) * F)))
  case atStart => exact ⟨start0, [], 0, [], ts1, 0, 0, .slice a0 n0 c0, rfl, rfl, rfl, by omega, rfl, by omega, LOk.start _, HRUN.out, HFL.out, by rw [HN0.out]; exact H3.out⟩
  case round =>
    clear H3 H1 HRUN HN0 HFL HPK HO
    obtain ⟨L, a, p, out, ts, most, i, vL, rfl, rfl, rfl, hmost, rfl, hil, hok, hrun, hfl, hst⟩ := hrel
    obtain ⟨al, cl, rfl⟩ := hst.right.reads.sub
    have HOK := Lib.hid hok; clear hok
    have c0' := hst.cell 0 rfl
    have c1' := hst.cell 1 rfl
    have c2' := hst.cell 2 rfl
    have HS := Lib.hid hst; clear hst
    have hi1 : (i : Int) ≤ sb.size := by rw [HLB.out]; omega
    have CC := Lib.hid (fun (L' : List Txt) (a' : Txt) (p' : Nat) (t : Txt) (en : Bool) (er : Nat) hcs => (rcode_any (L' := L') (a' := a') (p' := p') (t := t) (en := en) (er := er) (HS.out.perm (star_left_comm _ _ _)) HBB.out (by omega) HOK.out.pl false HOK.out.L1 HOK.out.L2 (fun i t h => ⟨(HOK.out.lt i t h).1, Nat.le_trans (HOK.out.lt i t h).2 (Nat.le_trans HOK.out.L2 (by decide))⟩) (Nat.le_trans HOK.out.al (Nat.le_trans HOK.out.L2 (by decide))) hcs rfl))
    rw [HSB.out] at CC
    have HB2 := Lib.hid hfl; clear hfl
    cases hrun with
    | nil =>
      obtain ⟨L2, A2, P2⟩ := s2
      go_wp2_with fail
      refine (CC.out _ _ _ _ _ _ HR2.out).mono ?_
      rintro e w5 ⟨vL', rfl, h4⟩
      obtain ⟨al', cl', rfl⟩ := h4.reads.sub
      generalize hsa2 : (ByteArray.mk A2.toArray) = sa2 at *
      clear hsa2
      have hP : (P2 : Int) ≤ sb.size := by rw [HLB.out]; omega
      have hP0 : (0 : Int) ≤ P2 := by omega
      have hex : sb.extract P2 sb.size = ⟨(tx (List.replicate (bits.length - P2) 0)).toArray⟩ := by
        have hq := HREST.out
        rw [← hq, ← tx_drop, HLB.out, ← HSB.out, ByteArray.extract_mk]
        have hl : (tx bits).length = bits.length := by simp
        rw [List.take_of_length_le (by rw [List.length_drop, hl]; omega)]
      have hz8 : (sb.extract P2 sb.size).size = bits.length - P2 := by
        rw [hex]; show (tx _).toArray.size = _; simp
      have hm8 : bits.length - P2 < 8 := by omega
      generalize hm0 : bits.length - P2 = m8 at *
      have HEX := Lib.hid hex; clear hex
      have HFIN := Lib.hid (h4.right.right); clear h4 HREST
      go_wp2_with fail
      refine (number_tx (l := List.replicate m8 0) _ (bit_rep _) (by simp; omega) HEX.out).mono ?_
      rintro e w6 ⟨rfl, rfl⟩
      rw [numB_zeros]
      have hob : out = b := by have := HB2.out; simpa using this
      subst hob
      go_wp2_with fail
      go_ret3
      exact ⟨most, hmost, rfl, HFIN.out.drop_alloc _⟩
    | @cons _ s3 _ t ts' hcs hm hp9 hrun' =>
      obtain ⟨L', a', p'⟩ := s3
      obtain ⟨hok', htl', _⟩ := codeS_inv HOK.out hcs
      go_wp2_with fail
      refine (CC.out _ _ _ _ _ _ hcs).mono ?_
      rintro e w4 ⟨vL', rfl, h4⟩
      obtain ⟨al', cl', rfl⟩ := h4.reads.sub
      have hob : out.length + t.length ≤ 100000 := by
        have := congrArg List.length HB2.out
        simp at this
        omega
      generalize hsa' : (ByteArray.mk a'.toArray) = sa' at *
      have HSA' := Lib.hid hsa'; clear hsa'
      have htl2 : (ByteArray.mk t.toArray).toList = t := by rw [ByteArray.toList_eq]
      generalize hst' : (ByteArray.mk t.toArray) = st' at *
      have hz' : st'.size = t.length := by rw [← hst']; rfl
      have HST' := Lib.hid hst'; clear hst'
      have HTL := Lib.hid htl2; clear htl2
      have hA := h4.alloc (.cells #[.slice al' L'.length cl', .string sa', .int .i64 (p' : Int)] 47)
      have hA2 := hA.perm (show _ = blk b6 (.cells #[.slice al L.length cl, .string ⟨a.toArray⟩, .int .i64 (p : Int)] 47) * (blk w4.heap.size (.cells #[.slice al' L'.length cl', .string sa', .int .i64 (p' : Int)] 47) * (own 9 1 (.slice al' L'.length cl') L'.length (L'.map sv) * F)) by ac_rfl)
      have hne := hA2.ne
      have hne' := Ne.symm hne
      have f0 := hA2.free 0
      have f1 := hA2.free 1
      have f2 := hA2.free 2
      have e0 := hA2.cell 0 rfl
      have e1 := hA2.cell 1 rfl
      have e2 := hA2.cell 2 rfl
      have hB2 := (((hA2.set 0 (.slice al' L'.length cl')).set 1 (.string sa')).set 2 (.int .i64 (p' : Int)))
      have HA2 := Lib.hid hA2; clear hA2 hA h4
      have HBB2 := Lib.hid hB2; clear hB2
      have HOK' := Lib.hid hok'; clear hok'
      have HCS := Lib.hid hcs; clear hcs
      have HRU := Lib.hid hrun'; clear hrun'
      have HM := Lib.hid hm; clear hm hp9
      clear c0' c1' c2'
      have hfin : out ++ t ++ ts'.flatten = b := by have := HB2.out; simpa using this
      have HFIN := Lib.hid hfin; clear hfin
      have hi2 : i + ts'.length + 1 ≤ bits.length := by rw [List.length_cons] at hil; omega
      by_cases ht : t = []
      · have u1 : st'.toList = [] := by rw [HTL.out]; exact ht
        have u2 : st'.toList.isEmpty = true := by rw [u1]; rfl
        go_wp2_with fail
        go_roundg ts'.length
        case measure => rw [List.length_cons]; omega
        case rel =>
          refine ⟨L', a', p', out ++ t, ts', most, i + 1, .slice al' L'.length cl', by go_num, ?_, rfl, hmost, rfl, by omega, HOK'.out, HRU.out, HFIN.out, ?_⟩
          · rw [← HST'.out, ByteArray.mk_append_mk]
          · have := HBB2.out.perm (show _ = blk w4.heap.size _ * (blk b6 _ * (own 9 1 (.slice al' L'.length cl') L'.length (L'.map sv) * F)) by ac_rfl)
            rw [HSA'.out]
            exact this.right
      · have u1 : ¬ st'.toList = [] := by rw [HTL.out]; exact ht
        have u2 : st'.toList.isEmpty = false := by
          cases hq : st'.toList with
          | nil => exact absurd hq u1
          | cons _ _ => rfl
        by_cases hmm : most < L'.length
        · have g1 : (most : Int) < L'.length := by omega
          go_wp2_with fail
          go_roundg ts'.length
          case measure => rw [List.length_cons]; omega
          case rel =>
            refine ⟨L', a', p', out ++ t, ts', L'.length, i + 1, .slice al' L'.length cl', by go_num, ?_, rfl, by have := HM.out; omega, rfl, by omega, HOK'.out, HRU.out, HFIN.out, ?_⟩
            · rw [← HST'.out, ByteArray.mk_append_mk]
            · have := HBB2.out.perm (show _ = blk w4.heap.size _ * (blk b6 _ * (own 9 1 (.slice al' L'.length cl') L'.length (L'.map sv) * F)) by ac_rfl)
              rw [HSA'.out]
              exact this.right
        · have g1 : ¬ (most : Int) < L'.length := by omega
          go_wp2_with fail
          go_roundg ts'.length
          case measure => rw [List.length_cons]; omega
          case rel =>
            refine ⟨L', a', p', out ++ t, ts', most, i + 1, .slice al' L'.length cl', by go_num, ?_, rfl, hmost, rfl, by omega, HOK'.out, HRU.out, HFIN.out, ?_⟩
            · rw [← HST'.out, ByteArray.mk_append_mk]
            · have := HBB2.out.perm (show _ = blk w4.heap.size _ * (blk b6 _ * (own 9 1 (.slice al' L'.length cl') L'.length (L'.map sv) * F)) by ac_rfl)
              rw [HSA'.out]
              exact this.right
#print axioms all_any
end Go.Proofs.Ytpjonjiofaaccaa
