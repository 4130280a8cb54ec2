/-
  Layer 14: rows of any bits, one behind the other, by their lengths, and each by the one above it.
-/
import Derived.Test.YtljdohfdafnnaaaDoorMhDc
import Derived.Test.YtljdohfdafnnaaaDoorMhB
import Derived.Test.YtljdohfdafnnaaaDoorMhV
import Derived.Test.YtljdohfdafnnaaaDoorRef02
namespace Go.Proofs.YtljdohfdafnnaaaDoor.mreads
open Go.RowKit Go.Mz
set_option linter.unusedVariables false
set_option linter.unusedSimpArgs false

theorem okL_eq (y : List Nat ⊕ Nat) : okL y = chg (okP y) := by cases y <;> rfl
theorem okP_bd {y : List Nat ⊕ Nat} {width : Nat} (h : ∀ q, y = .inl q → q.length = width ∧ Bit q) : (okP y).length ≤ width ∧ Bit (okP y) := by
  cases y with
  | inl q => have := h q rfl; exact ⟨by show q.length ≤ _; omega, this.2⟩
  | inr e => exact ⟨Nat.zero_le _, bit_nil⟩
theorem erN_ok {y : List Nat ⊕ Nat} {width : Nat} (h : ∀ q, y = .inl q → q.length = width ∧ Bit q) (h2 : ∀ e, y = .inr e → e ≠ 0 ∧ e < 100) : erN y < 100 ∧ (erN y = 0 → (okP y).length = width) := by
  cases y with
  | inl q => exact ⟨by simp [erN], fun _ => (h q rfl).1⟩
  | inr e => have := h2 e rfl; exact ⟨this.2, fun h => absurd h this.1⟩

set_option maxRecDepth 100000 in
set_option maxHeartbeats 40000000 in
theorem walk (vb : Value) (bs : List UInt8) (vf : Value) (fs : List UInt8) (n : Int) (w : World) (hb : Reads w 1 vb bs.length (bs.map bv)) (hf : Reads w 1 vf fs.length (fs.map bv)) (htab : Lib.TabIs Tryd.prog w "strings.asciiSpace" .u8 Lib.asciiSpaceTab) :
    Calls Tryd.prog 5 #[vb, vf, .int .i64 n] w fun e w' => e = .returned (.bool true) ∧ Below w.heap.size w w' := by
  have HT := Lib.hid (tab_old htab); clear htab
  have HB := Lib.hid (Stb.of_old hb)
  have HF := Lib.hid (Stb.of_old hf)
  obtain ⟨a0, c0, rfl⟩ := hb.sub
  obtain ⟨a1, c1, rfl⟩ := hf.sub
  have hm := hb.len_le
  unfold maxLen at hm
  have hm1 := hf.len_le
  unfold maxLen at hm1
  clear hb hf
  have H := Lib.hid (St.init w)
  have fin : ∀ w', St w w' (Mz.old w) → Below w.heap.size w w' := fun w' h => (h.perm ((emp_star _).symm.trans (star_comm _ _))).below
  have FIN := Lib.hid fin; clear fin
  go_enter Tryd.func5, Tryd.ntmps5
  go_wp2_with fail
  refine (lives14 H.out HT.out).mono ?_
  rintro e w1 ⟨rfl, h2⟩
  have H2 := Lib.hid h2; clear h2
  by_cases hbad : 80 < bs.length ∨ fs.length = 0 ∨ 200 < fs.length
  · have hd : (80 : Int) < bs.length ∨ (¬ (80 : Int) < bs.length ∧ (fs.length : Int) = 0) ∨ (¬ (80 : Int) < bs.length ∧ ¬ (fs.length : Int) = 0 ∧ (200 : Int) < fs.length) := by omega
    clear hbad
    rcases hd with h1 | ⟨h1, h2⟩ | ⟨h1, h2, h3⟩
    · go_wp2_with fail
      refine (lives14 H2.out HT.out).mono ?_
      rintro e w2 ⟨rfl, h3⟩
      have H3 := Lib.hid h3; clear h3
      go_wp2_with fail
      go_ret
      exact ⟨rfl, FIN.out _ H3.out⟩
    · have h1d : decide ((80 : Int) < bs.length) = false := decide_eq_false h1
      have h2b : ((fs.length : Int) == 0) = true := by simpa using h2
      go_wp2_with fail
      refine (lives14 H2.out HT.out).mono ?_
      rintro e w2 ⟨rfl, h3⟩
      have H3 := Lib.hid h3; clear h3
      go_wp2_with fail
      go_ret
      exact ⟨rfl, FIN.out _ H3.out⟩
    · have h1d : decide ((80 : Int) < bs.length) = false := decide_eq_false h1
      have h2b : ((fs.length : Int) == 0) = false := by simpa using h2
      go_wp2_with fail
      refine (lives14 H2.out HT.out).mono ?_
      rintro e w2 ⟨rfl, h3⟩
      have H3 := Lib.hid h3; clear h3
      go_wp2_with fail
      go_ret
      exact ⟨rfl, FIN.out _ H3.out⟩
  have h1 : ¬ (80 : Int) < bs.length := by omega
  have h2 : ¬ (fs.length : Int) = 0 := by omega
  have h3 : ¬ (200 : Int) < fs.length := by omega
  have h1d : decide ((80 : Int) < bs.length) = false := decide_eq_false h1
  have h2b : ((fs.length : Int) == 0) = false := by simpa using h2
  have h3d : decide ((200 : Int) < fs.length) = false := decide_eq_false h3
  clear hbad
  go_wp2_with fail
  refine (newCodes_any H2.out HT.out).mono ?_
  rintro e w2 ⟨C, rfl, h3⟩
  have H3 := Lib.hid h3; clear h3 H2
  go_wp2_with (with_reducible (refine stop_conv 22 9 rfl ?_))
  refine on (wpList_b2s Tryd.underlying22 Tryd.underlying5 Tryd.underlying9 rfl rfl (HB.out _ H3.out.right) ?_)
  go_wp2_with fail
  refine (of_any bs false H3.out (by omega)).mono ?_
  rintro e w3 ⟨rfl, h4⟩
  have htb := bit_bitsL false bs
  have htl : (bitsL false bs).length = 8 * bs.length := length_bitsL _ _
  obtain ⟨sb, hsb⟩ : ∃ sb : ByteArray, sb = ⟨(tx (bitsL false bs)).toArray⟩ := ⟨_, rfl⟩
  rw [← hsb]
  have HSB := Lib.hid hsb; have HTB := Lib.hid htb; have HTL := Lib.hid htl; clear hsb htb htl
  have H4 := Lib.hid h4; clear h4 H3
  go_wp2_with fail
  refine (newReader_any (low := false) H4.out (bs := bs) (v := .slice a0 bs.length c0) (fun w h => HB.out w h.right) (by omega)).mono ?_
  rintro e w4 ⟨Ra, rfl, h5⟩
  have H5 := Lib.hid h5; clear h5 H4
  go_wp2_with fail
  refine (newReader_any (low := false) H5.out (bs := bs) (v := .slice a0 bs.length c0) (fun w h => HB.out w h.right.right) (by omega)).mono ?_
  rintro e w5 ⟨Rb, rfl, h6⟩
  have h6 := h6.perm (show _ = codes C * (rdr Ra bs 0 false * (rdr Rb bs 0 false * Mz.old w)) by ac_rfl)
  have H6 := Lib.hid h6; clear h6 H5
  have HPX := Lib.hid (pixels_any (HF.out w5 H6.out.right.right.right) (by omega))
  go_wp2_with fail
  refine HPX.out.mono ?_
  rintro e w6 ⟨rfl, rfl⟩
  clear HPX
  have hfl : (pxL fs).length = fs.length := length_pxL fs
  have hfb := bit_pxL fs
  generalize pxL fs = S0 at *
  have HS0 := Lib.hid (⟨hfl, hfb⟩ : _ ∧ _)
  clear hfl hfb HF HB
  have hwl : 1 ≤ fs.length := by omega
  have hwu : fs.length ≤ 200 := by omega
  have hbl : bs.length ≤ 80 := by omega
  generalize fs.length = width at *
  clear h2 h3 h1d h2b h3d h1
  go_wp2_with fail
  obtain ⟨N, hN, hN3⟩ : ∃ N : Nat, wrap64 ((IntKind.u64.wrap n).tmod 30) = N ∧ N < 30 := by
    have e : IntKind.u64.wrap n = n % 18446744073709551616 := IntKind.wrap_u64 n
    have e2 : (n % 18446744073709551616).tmod 30 = (n % 18446744073709551616) % 30 := Int.tmod_eq_emod_of_nonneg (by omega)
    rw [e, e2, IntWalk.wrap64_in _ (by omega)]
    exact ⟨((n % 18446744073709551616) % 30).toNat, by omega, by omega⟩
  rw [hN]
  clear hN
  have hwi : (width : Int) = width := rfl
  go_loopw [12, 13, 14, 58] (fun vp vq vs vi wr => ∃ (k p q : Nat) (S : List Nat), k ≤ N ∧ vi = .int .i64 k ∧ vp = .int .i64 p ∧ vq = .int .i64 q ∧ vs = .string ⟨(tx S).toArray⟩ ∧ p ≤ 8 * bs.length ∧ q ≤ 8 * bs.length ∧ S.length = width ∧ Bit S ∧ St w wr (codes C * (rdr Ra bs p false * (rdr Rb bs q false * Mz.old w)))) (fun _ _ _ vi _ => N - (intOf vi).toNat)
  case atStart => exact ⟨0, 0, 0, S0, by omega, rfl, rfl, rfl, rfl, by omega, by omega, HS0.out.1, HS0.out.2, H6.out⟩
  case round =>
    clear H6 HS0
    obtain ⟨k, p, q, S, hk, rfl, rfl, rfl, rfl, hp, hq, hsl, hsb, hst⟩ := hrel
    by_cases hkn : k < N
    · have hkl : (k : Int) < N := by omega
      have HP := Lib.hid hp; have HQ := Lib.hid hq; have HSS := Lib.hid (⟨hsl, hsb⟩ : _ ∧ _)
      have B1 := readRow_bd (t := bitsL false bs) (width := width) (p := p) (by rw [HTL.out]; exact hp)
      have C1 := readRow_any hst hwl (by omega) (by omega) hp
      have HDR := Lib.hid (fun (w' : World) (G : SProp) (h : St w w' G) => rreadRow_any h HTB.out (by rw [HTL.out]; omega) (p := p) (by rw [HTL.out]; exact hp) hwl (by omega) HSB.out)
      have htl2 : ∀ x ∈ chg S, x < width := fun x hx => by rw [← hsl]; exact chg_lt S x hx
      have B2 := readAg_bd (t := bitsL false bs) (width := width) (p := q) (chg_inc S) htl2 hwl (by rw [HTL.out]; exact hq)
      have hcl := chg_len S
      have HCR := Lib.hid (fun (w' : World) (F : SProp) (h : St w w' (codes C * (rdr Rb bs q false * F))) (vt : Value) (ht : Stb w F (fun w => Reads w 1 vt (chg S).length ((chg S).map nv))) => readAgainst_any h ht (chg_inc S) htl2 hwl (by omega) (by omega) (by omega) hq)
      have HDA := Lib.hid (fun (w' : World) (G : SProp) (h : St w w' G) => by
        have C := rReadAgainst_any h HTB.out (by rw [HTL.out]; omega) (p := q) (by rw [HTL.out]; exact hq) hsb (by omega) (by omega) HSB.out (sb := ⟨(tx S).toArray⟩) rfl
        rw [hsl] at C; exact C)
      have HCS := Lib.hid (fun (w' : World) (G : SProp) (h : St w w' G) => changes_any h hsb (by omega) (sb := ⟨(tx S).toArray⟩) rfl)
      clear hst htl2 hcl hp hq hsl hsb
      generalize readRow (bitsL false bs) width p = r1 at *
      generalize readAg (bitsL false bs) (chg S) width q = r2 at *
      obtain ⟨k1, y1⟩ := r1
      obtain ⟨k2, y2⟩ := r2
      rw [HTL.out] at B1 B2
      simp only at B1 B2 C1 HDR HCR HDA
      obtain ⟨b1, b2, b3⟩ := B1
      obtain ⟨d1, d2, d3⟩ := B2
      have HC1 := Lib.hid C1; clear C1
      have hy1 := okP_bd b2
      have hy2 := okP_bd d2
      have hz1 := (erN_ok b2 b3).1
      have hz2 := erN_ok d2 d3
      rw [okL_eq] at HC1 HCR
      have HCP1 := Lib.hid (fun (w' : World) (G : SProp) (h : St w w' G) => changes_any h hy1.2 (by omega) (sb := ⟨(tx (okP y1)).toArray⟩) rfl)
      have HCP2 := Lib.hid (fun (w' : World) (G : SProp) (h : St w w' G) => changes_any h hy2.2 (by omega) (sb := ⟨(tx (okP y2)).toArray⟩) rfl)
      have HY := Lib.hid (⟨hy2, hz2.2, b1, d1⟩ : _ ∧ _ ∧ _ ∧ _)
      have hz2 := hz2.1
      clear b2 b3 d2 d3 hy1 hy2
      generalize okP y1 = P1 at *
      generalize okP y2 = P2 at *
      generalize erN y1 = x1 at *
      generalize erN y2 = x2 at *
      have hk1 : k1 ≤ 640 := by omega
      have hk2 : k2 ≤ 640 := by omega
      clear b1 d1
      go_wp2_with fail
      refine HC1.out.mono ?_
      rintro e w7 ⟨v7, rfl, h7⟩
      obtain ⟨a7, c7, rfl⟩ := h7.reads.sub
      have HC2 := Lib.hid (HDR.out _ _ h7); clear h7 HC1 HDR
      go_wp2_with fail
      refine HC2.out.mono ?_
      rintro e w8 ⟨rfl, h8⟩
      have HC3 := Lib.hid (HCP1.out _ _ h8); clear h8 HC2 HCP1
      go_wp2_with fail
      refine HC3.out.mono ?_
      rintro e w9 ⟨v9, rfl, h9⟩
      obtain ⟨a9, c9, rfl⟩ := h9.reads.sub
      have HC4 := Lib.hid (same_any h9.right.reads h9.reads)
      have H9 := Lib.hid h9; clear h9 HC3
      rw [decide_eq_true rfl] at HC4
      go_wp2_with fail
      refine HC4.out.mono ?_
      rintro e w10 ⟨rfl, n10, rfl⟩
      have h10 := (H9.out.drewN n10).right.right
      generalize w9.drewN n10 = w10 at *
      have h10 := h10.perm (show _ = rdr Ra bs k1 false * (codes C * (rdr Rb bs q false * Mz.old w)) by ac_rfl)
      have HAT := Lib.hid (at_any (rdr_at h10))
      have H10 := Lib.hid h10; clear h10 H9 HC4
      go_wp2_with fail
      refine HAT.out.mono ?_
      rintro e w11 ⟨rfl, rfl⟩
      clear HAT
      have HC5 := Lib.hid (HCS.out _ _ H10.out)
      clear HCS H10
      go_wp2_with fail
      refine HC5.out.mono ?_
      rintro e w12 ⟨v12, rfl, h12⟩
      obtain ⟨a12, c12, rfl⟩ := h12.reads.sub
      have h12 := h12.perm (show _ = codes C * (rdr Rb bs q false * (own 3 1 (.slice a12 (chg S).length c12) (chg S).length ((chg S).map nv) * (rdr Ra bs k1 false * Mz.old w))) by ac_rfl)
      have HC6 := Lib.hid (HCR.out _ _ h12 _ Stb.of_own)
      clear h12 HC5 HCR
      go_wp2_with fail
      refine HC6.out.mono ?_
      rintro e w13 ⟨v13, rfl, h13⟩
      obtain ⟨a13, c13, rfl⟩ := h13.reads.sub
      have HC7 := Lib.hid (HDA.out _ _ h13)
      clear h13 HC6 HDA
      go_wp2_with fail
      refine HC7.out.mono ?_
      rintro e w14 ⟨rfl, h14⟩
      have HC8 := Lib.hid (HCP2.out _ _ h14); clear h14 HC7 HCP2
      go_wp2_with fail
      refine HC8.out.mono ?_
      rintro e w15 ⟨v15, rfl, h15⟩
      obtain ⟨a15, c15, rfl⟩ := h15.reads.sub
      have HC9 := Lib.hid (same_any h15.right.reads h15.reads)
      have H15 := Lib.hid h15; clear h15 HC8
      rw [decide_eq_true rfl] at HC9
      go_wp2_with fail
      refine HC9.out.mono ?_
      rintro e w16 ⟨rfl, n16, rfl⟩
      have h16 := (H15.out.drewN n16).right.right
      generalize w15.drewN n16 = w16 at *
      have h16 := h16.perm (show _ = rdr Rb bs k2 false * (codes C * (own 3 1 (.slice a12 (chg S).length c12) (chg S).length ((chg S).map nv) * (rdr Ra bs k1 false * Mz.old w))) by ac_rfl)
      have HAT := Lib.hid (at_any (rdr_at h16))
      have H16 := Lib.hid (h16.perm (show _ = own 3 1 (.slice a12 (chg S).length c12) (chg S).length ((chg S).map nv) * (codes C * (rdr Ra bs k1 false * (rdr Rb bs k2 false * Mz.old w))) by ac_rfl)).right
      clear h16 H15 HC9
      go_wp2_with fail
      refine HAT.out.mono ?_
      rintro e w17 ⟨rfl, rfl⟩
      clear HAT
      by_cases hx2 : x2 = 0
      · subst hx2
        go_wp2_with fail
        obtain ⟨⟨e1, e2⟩, e3, e4, e5⟩ := HY.out
        exact ⟨⟨k + 1, k1, k2, P2, by omega, by go_num, rfl, rfl, rfl, e4, e5, (by first | exact e3 rfl | exact e3 trivial), e2, H16⟩, by simp [intOf]; omega⟩
      · have hx2i : ¬ (x2 : Int) = 0 := by omega
        go_wp2_with fail
        obtain ⟨⟨e1, e2⟩, e3, e4, e5⟩ := HY.out
        exact ⟨⟨k + 1, k1, k2, S, by omega, by go_num, rfl, rfl, rfl, e4, e5, HSS.out.1, HSS.out.2, H16⟩, by simp [intOf]; omega⟩
    · obtain rfl : k = N := by omega
      have HST := Lib.hid hst; clear hst
      go_wp2_with fail
      go_ret
      exact ⟨rfl, FIN.out _ HST.out.right.right.right⟩
#print axioms walk
end Go.Proofs.YtljdohfdafnnaaaDoor.mreads
