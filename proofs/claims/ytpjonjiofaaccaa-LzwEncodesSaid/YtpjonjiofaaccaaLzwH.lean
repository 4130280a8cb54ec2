/-
  Layer 5, the document's answer: so many bytes.
-/
import Derived.Test.YtpjonjiofaaccaaLzwF
import Derived.Test.YtpjonjiofaaccaaLzwO
namespace Go.Proofs.Ytpjonjiofaaccaa
open Go.RowKit Go.Mz
set_option linter.unusedVariables false
set_option linter.unusedSimpArgs false

set_option maxRecDepth 100000 in
set_option maxHeartbeats 40000000 in
theorem rdecode_any {w0 w : World} {F : SProp} (h : St w0 w F) (bs : List UInt8) (hl : bs.length ≤ 100000000) (n : Nat) (hn : n ≤ 1000000000) (old : Bool)
    (R : Txt × Nat) (hR : decF (bitsL old bs) old n (8 * bs.length + 1) ⟨start0, [], 0⟩ [] = R) {s : ByteArray} (hs : s = ⟨bs.toArray⟩) :
    Calls Try.prog 11 #[.string s, .int .i64 n, .bool old] w fun e w' => e = .returned (.tuple #[.string ⟨R.1.toArray⟩, .int .i64 R.2]) ∧ St w0 w' F := by
  subst hs
  have H := Lib.hid h; clear h
  have HR := Lib.hid hR; clear hR
  have hbl : (bitsL old bs).length = 8 * bs.length := length_bitsL old bs
  have hbb : Bit (bitsL old bs) := bit_bitsL old bs
  go_enter Try.func11, Try.ntmps11
  go_wp2_with fail
  refine (of_any bs old H.out (by omega)).mono ?_
  rintro e w1 ⟨rfl, h1⟩
  have H1 := Lib.hid h1; clear h1 H
  generalize hbits : bitsL old bs = bits at *
  have HBB := Lib.hid hbb; clear hbb
  have HBL := Lib.hid hbl; clear hbl
  clear hbits
  generalize hsb : (ByteArray.mk (tx bits).toArray) = sb at *
  have HSB := Lib.hid hsb; clear hsb
  go_wp2_with fail
  refine (rstart_any H1.out).mono ?_
  rintro e w2 ⟨v0, rfl, h2⟩
  obtain ⟨a0, c0, rfl⟩ := h2.reads.sub
  have h3 := (h2.alloc (.cells #[.slice a0 start0.length c0, .string ⟨#[]⟩, .int .i64 0] 47))
  have H2 := Lib.hid h2; clear h2
  have H3 := Lib.hid h3; clear h3
  generalize hn0 : start0.length = n0 at *
  have HN0 := Lib.hid hn0; clear hn0
  go_wp2_with fail
  go_loopg [10] (8 * bs.length + 1) (fun g vo wr => ∃ (L : List Txt) (a : Txt) (p : Nat) (out : Txt) (vL : Value), vo = .string ⟨out.toArray⟩ ∧ LOk bits ⟨L, a, p⟩ ∧ 8 * bs.length + 1 ≤ p + g ∧ out.length ≤ n ∧ decF bits old n g ⟨L, a, p⟩ out = R ∧
      St w0 wr (blk w2.heap.size (.cells #[vL, .string ⟨a.toArray⟩, .int .i64 (p : Int)] 47) * (own 9 1 vL L.length (L.map sv) * F)))
  case atStart => exact ⟨start0, [], 0, [], .slice a0 n0 c0, rfl, LOk.start _, by omega, by simp, HR.out, by rw [HN0.out]; exact H3.out⟩
  case round =>
    clear H3 HR H2 H1 HN0
    obtain ⟨L, a, p, out, vL, rfl, hok, hg, hol, hdec, hst⟩ := hrel
    obtain ⟨g, rfl⟩ : ∃ g, gk = g + 1 := ⟨gk - 1, by have := hok.pl; have := HBL.out; simp only at *; omega⟩
    obtain ⟨al, cl, rfl⟩ := hst.right.reads.sub
    generalize w2.heap.size = b9 at *
    have HX := Lib.hid hdec; clear hdec
    have HOK := Lib.hid hok; clear hok
    by_cases hdone : n ≤ out.length
    · have HRR := Lib.hid (show R = (out, 0) by rw [← HX.out, decF_done hdone])
      have HS := Lib.hid hst; clear hst
      have c1 : ¬ (out.length : Int) < n := by omega
      go_wp2_with fail
      go_ret2
      refine ⟨by rw [HRR.out]; rfl, HS.out.right.right⟩
    have d0 : (out.length : Int) < n := by omega
    have c0 := hst.cell 0 rfl
    have c1 := hst.cell 1 rfl
    have c2 := hst.cell 2 rfl
    have HS := Lib.hid hst; clear hst
    obtain ⟨⟨⟨L', a', p'⟩, t, en, er⟩, hcs⟩ : ∃ x, codeS bits old ⟨L, a, p⟩ = x := ⟨_, rfl⟩
    have hinv := codeS_inv HOK.out hcs
    go_wp2_with fail
    rw [← HSB.out]
    refine (rcode_any (HS.out.perm (star_left_comm _ _ _)) HBB.out (by rw [HBL.out]; omega) HOK.out.pl old HOK.out.L1 HOK.out.L2 (fun i t h => ⟨(HOK.out.lt i t h).1, by have := (HOK.out.lt i t h).2; have := HOK.out.L2; simp only at *; omega⟩) (by have := HOK.out.al; have := HOK.out.L2; simp only at *; omega) hcs rfl).mono ?_
    rw [HSB.out]
    rintro e w4 ⟨vL', rfl, h4⟩
    obtain ⟨al', cl', rfl⟩ := h4.reads.sub
    obtain ⟨hok', htl, hp9⟩ := hinv
    generalize hsa' : (ByteArray.mk a'.toArray) = sa' at *
    have HSA' := Lib.hid hsa'; clear hsa'
    generalize hst' : (ByteArray.mk t.toArray) = st' at *
    have hz' : st'.size = t.length := by rw [← hst']; rfl
    have HST' := Lib.hid hst'; clear hst'
    have hA := h4.alloc (.cells #[.slice al' L'.length cl', .string sa', .int .i64 (p' : Int)] 47)
    have hA2 := hA.perm (show _ = blk b9 (.cells #[.slice al L.length cl, .string ⟨a.toArray⟩, .int .i64 (p : Int)] 47) * (blk w4.heap.size (.cells #[.slice al' L'.length cl', .string sa', .int .i64 (p' : Int)] 47) * (own 9 1 (.slice al' L'.length cl') L'.length (L'.map sv) * F)) by ac_rfl)
    have hne := hA2.ne
    have hne' := Ne.symm hne
    have f0 := hA2.free 0
    have f1 := hA2.free 1
    have f2 := hA2.free 2
    have e0 := hA2.cell 0 rfl
    have e1 := hA2.cell 1 rfl
    have e2 := hA2.cell 2 rfl
    have hB2 := (((hA2.set 0 (.slice al' L'.length cl')).set 1 (.string sa')).set 2 (.int .i64 (p' : Int)))
    have HA2 := Lib.hid hA2; clear hA2 hA h4
    have HB2 := Lib.hid hB2; clear hB2
    have HOK' := Lib.hid hok'; clear hok'
    have HCS := Lib.hid hcs; clear hcs
    clear c0 c1 c2
    by_cases her : er = 0
    · subst her
      have hp9 := hp9 rfl
      cases en
      · by_cases hlong : n < out.length + t.length
        · have HRR := Lib.hid (show R = ([], 5) by rw [← HX.out]; exact decF_long hdone HCS.out (by rw [List.length_append]; exact hlong))
          have l1 : (n : Int) < (out.length : Int) + t.length := by omega
          go_wp2_with fail
          go_ret2
          refine ⟨by rw [HRR.out]; rfl, HB2.out.right.right.right⟩
        · have l1 : ¬ (n : Int) < (out.length : Int) + t.length := by omega
          go_wp2_with fail
          go_roundg g
          case measure => omega
          case rel =>
            refine ⟨L', a', p', out ++ t, .slice al' L'.length cl', ?_, HOK'.out, by omega, by rw [List.length_append]; omega, ?_, ?_⟩
            · rw [← HST'.out, ByteArray.mk_append_mk]
            · rw [← HX.out, decF_next hdone HCS.out (by rw [List.length_append]; exact hlong)]
            · have := HB2.out.perm (show _ = blk w4.heap.size _ * (blk b9 _ * (own 9 1 (.slice al' L'.length cl') L'.length (L'.map sv) * F)) by ac_rfl)
              rw [HSA'.out]
              exact this.right
      · have HRR := Lib.hid (show R = ([], 2) by rw [← HX.out]; exact decF_end hdone HCS.out)
        go_wp2_with fail
        go_ret2
        refine ⟨by rw [HRR.out]; rfl, HA2.out.right.right.right⟩
    · have HRR := Lib.hid (show R = ([], er) by rw [← HX.out]; exact decF_err hdone HCS.out her)
      have e3 : ¬ (er : Int) = 0 := by omega
      go_wp2_with fail
      go_ret2
      refine ⟨by rw [HRR.out]; rfl, HA2.out.right.right.right⟩
#print axioms rdecode_any
end Go.Proofs.Ytpjonjiofaaccaa
