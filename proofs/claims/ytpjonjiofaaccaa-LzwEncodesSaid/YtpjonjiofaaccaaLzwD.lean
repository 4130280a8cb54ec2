/-
  Layer 5: so many bytes of any codes (package lzw).
-/
import Derived.Test.YtpjonjiofaaccaaLzwV
import Derived.Deep.LoopGhost
import Derived.Deep.Cut
import Derived.Deep.CutRange
namespace Go.Proofs.Ytpjonjiofaaccaa
open Go.RowKit Go.Mz
set_option linter.unusedVariables false
set_option linter.unusedSimpArgs false

theorem decF_done {bits : List Nat} {old : Bool} {n g : Nat} {s : LS} {out : Txt} (h : n ≤ out.length) : decF bits old n (g + 1) s out = (out, 0) := by
  rw [decF, if_pos h]
theorem decF_err {bits : List Nat} {old : Bool} {n g err : Nat} {s s' : LS} {t out : Txt} {e : Bool} (h : ¬ n ≤ out.length) (hc : codeS bits old s = (s', t, e, err)) (he : err ≠ 0) : decF bits old n (g + 1) s out = ([], err) := by
  rw [decF, if_neg h, hc]; simp [he]
theorem decF_end {bits : List Nat} {old : Bool} {n g : Nat} {s s' : LS} {t out : Txt} (h : ¬ n ≤ out.length) (hc : codeS bits old s = (s', t, true, 0)) : decF bits old n (g + 1) s out = ([], 2) := by
  rw [decF, if_neg h, hc]; simp
theorem decF_long {bits : List Nat} {old : Bool} {n g : Nat} {s s' : LS} {t out : Txt} (h : ¬ n ≤ out.length) (hc : codeS bits old s = (s', t, false, 0)) (hl : n < (out ++ t).length) : decF bits old n (g + 1) s out = ([], 5) := by
  rw [decF, if_neg h, hc]
  have : n < out.length + t.length := by simpa using hl
  simp [this]
theorem decF_next {bits : List Nat} {old : Bool} {n g : Nat} {s s' : LS} {t out : Txt} (h : ¬ n ≤ out.length) (hc : codeS bits old s = (s', t, false, 0)) (hl : ¬ n < (out ++ t).length) : decF bits old n (g + 1) s out = decF bits old n g s' (out ++ t) := by
  rw [decF, if_neg h, hc]
  have : ¬ n < out.length + t.length := by simpa using hl
  simp [this]

theorem tab_txt {w0 w : World} {B : Nat} {L : List Txt} {F : SProp} (h : St w0 w (tab B L * F)) {i : Nat} {t : Txt} (hi : L[i]? = some t) : t.length ≤ L.length ∧ t ≠ [] := by
  obtain ⟨va, vl, vg, ah, la, lo, hT, _⟩ := tab_open h
  exact ⟨(hT.2.2.2 i t hi).2.1, hT.ne hi⟩

theorem codeS_cut {bits : List Nat} {old : Bool} {s : LS} (h : bits.length < s.p + widthL s.L.length old) : codeS bits old s = (s, [], false, 2) := by
  rw [codeS, if_pos h]
section
variable {bits : List Nat} {old : Bool} {L : List Txt} {a : Txt} {p c W : Nat} (hW : widthL L.length old = W) (h0 : ¬ bits.length < p + W) (hc : codeAt bits old ⟨L, a, p⟩ = c)
include hW h0 hc
theorem codeS_clear (h : c = 256) : codeS bits old ⟨L, a, p⟩ = (⟨start0, [], p + W⟩, [], false, 0) := by
  subst hW hc
  rw [codeS, if_neg h0, if_pos h]
theorem codeS_end (h : c = 257) : codeS bits old ⟨L, a, p⟩ = (⟨L, a, p + W⟩, [], true, 0) := by
  subst hW hc
  rw [codeS, if_neg h0, if_neg (by omega), if_pos h]
theorem codeS_bad0 (h1 : ¬ c = 256) (h2 : ¬ c = 257) (ha : a = []) (h : 255 < c) : codeS bits old ⟨L, a, p⟩ = (⟨L, a, p + W⟩, [], false, 6) := by
  subst hW hc
  rw [codeS, if_neg h0, if_neg h1, if_neg h2, if_pos ⟨ha, h⟩]
theorem codeS_lit (h1 : ¬ c = 256) (h2 : ¬ c = 257) (ha : a = []) (h : ¬ 255 < c) {t : Txt} (ht : L[c]? = some t) : codeS bits old ⟨L, a, p⟩ = (⟨L, t, p + W⟩, t, false, 0) := by
  subst hW hc
  have : L.getD (codeAt bits old ⟨L, a, p⟩) [] = t := by rw [List.getD_eq_getElem?_getD, ht]; rfl
  rw [codeS, if_neg h0, if_neg h1, if_neg h2, if_neg (fun h' => h h'.2), if_pos ha, this]
theorem codeS_bad (h1 : ¬ c = 256) (h2 : ¬ c = 257) (ha : a ≠ []) (h : L.length < c ∨ c = L.length ∧ 4096 ≤ L.length) : codeS bits old ⟨L, a, p⟩ = (⟨L, a, p + W⟩, [], false, 6) := by
  subst hW hc
  rw [codeS, if_neg h0, if_neg h1, if_neg h2, if_neg (fun h' => ha h'.1), if_neg ha, if_pos h]
theorem codeS_full (h1 : ¬ c = 256) (h2 : ¬ c = 257) (ha : a ≠ []) (h : c < L.length) (hf : ¬ L.length < 4096) {t : Txt} (ht : L[c]? = some t) : codeS bits old ⟨L, a, p⟩ = (⟨L, t, p + W⟩, t, false, 0) := by
  subst hW hc
  have : L.getD (codeAt bits old ⟨L, a, p⟩) [] = t := by rw [List.getD_eq_getElem?_getD, ht]; rfl
  rw [codeS, if_neg h0, if_neg h1, if_neg h2, if_neg (fun h' => ha h'.1), if_neg ha, if_neg (show ¬ (L.length < codeAt bits old ⟨L, a, p⟩ ∨ codeAt bits old ⟨L, a, p⟩ = L.length ∧ 4096 ≤ L.length) by omega)]
  simp only [if_pos h, if_neg hf, this]
theorem codeS_old (h1 : ¬ c = 256) (h2 : ¬ c = 257) (ha : a ≠ []) (h : c < L.length) (hf : L.length < 4096) {d : UInt8} {t : Txt} (ht : L[c]? = some (d :: t)) : codeS bits old ⟨L, a, p⟩ = (⟨L ++ [a ++ [d]], d :: t, p + W⟩, d :: t, false, 0) := by
  subst hW hc
  have : L.getD (codeAt bits old ⟨L, a, p⟩) [] = d :: t := by rw [List.getD_eq_getElem?_getD, ht]; rfl
  rw [codeS, if_neg h0, if_neg h1, if_neg h2, if_neg (fun h' => ha h'.1), if_neg ha, if_neg (show ¬ (L.length < codeAt bits old ⟨L, a, p⟩ ∨ codeAt bits old ⟨L, a, p⟩ = L.length ∧ 4096 ≤ L.length) by omega)]
  simp only [if_pos h, if_pos hf, this]
  rfl
theorem codeS_new (h1 : ¬ c = 256) (h2 : ¬ c = 257) {d : UInt8} {t : Txt} (ha : a = d :: t) (h : c = L.length) (hf : L.length < 4096) : codeS bits old ⟨L, a, p⟩ = (⟨L ++ [a ++ [d]], a ++ [d], p + W⟩, a ++ [d], false, 0) := by
  subst hW hc
  have ha' : a ≠ [] := by rw [ha]; simp
  rw [codeS, if_neg h0, if_neg h1, if_neg h2, if_neg (fun h' => ha' h'.1), if_neg ha', if_neg (show ¬ (L.length < codeAt bits old ⟨L, a, p⟩ ∨ codeAt bits old ⟨L, a, p⟩ = L.length ∧ 4096 ≤ L.length) by omega)]
  rw [ha] at *
  simp only [if_neg (show ¬ codeAt bits old ⟨L, d :: t, p⟩ < L.length by omega), if_pos hf]
  rfl
end

/-- What a loop's head holds. -/
def DecI (bits : List Nat) (bs : List UInt8) (old : Bool) (n : Nat) (R : Txt × Nat) (F : SProp) (w0 : World) (Rb : Nat) (g : Nat) (vo vt vw : Value) (wr : World) : Prop :=
  ∃ (L : List Txt) (a : Txt) (p : Nat) (out : Txt) (T : Nat), vt = .pointer (some ⟨T, 0, none⟩) ∧ (a = [] ∧ vw = .int .i64 (-1) ∨ ∃ j : Nat, vw = .int .i64 j ∧ L[j]? = some a) ∧
    258 ≤ L.length ∧ L.length ≤ 4096 ∧ p ≤ 8 * bs.length ∧ 8 * bs.length + 1 ≤ p + g ∧ out.length ≤ n ∧ decF bits old n g ⟨L, a, p⟩ out = R ∧
    St w0 wr (own 5 1 vo out.length (out.map bv) * (tab T L * (rdr Rb bs p old * F)))

set_option maxRecDepth 100000 in
set_option maxHeartbeats 40000000 in
theorem decode_walk {w0 w : World} {F : SProp} (h : St w0 w F) (bs : List UInt8) {v : Value} (hv : Stb w0 F (fun w => Reads w 1 v bs.length (bs.map bv))) (hl : bs.length ≤ 1000000000) (n : Nat) (hn : n ≤ 1000000000) (old : Bool)
    (bits : List Nat) (hbits : bits = bitsL old bs) (R : Txt × Nat) (hR : decF bits old n (8 * bs.length + 1) ⟨start0, [], 0⟩ [] = R) :
    Calls Try.prog 18 #[v, .int .i64 n, .bool old] w fun e w' => ∃ v', e = .returned (.tuple #[v', .int .i64 R.2]) ∧ St w0 w' (own 5 1 v' R.1.length (R.1.map bv) * F) := by
  obtain ⟨av, cv, rfl⟩ := (hv w h).sub
  have H := Lib.hid h; clear h
  have HV := Lib.hid hv; clear hv
  have HR := Lib.hid hR; clear hR
  have HB := Lib.hid hbits; clear hbits
  have T := elemBytes
  go_enter Try.func18, Try.ntmps18
  go_wp2_with fail
  refine (newReader_any H.out HV.out (by omega)).mono ?_
  rintro e w1 ⟨Rb, rfl, h1⟩
  have H1 := Lib.hid h1; clear h1
  have hearly : ∃ ey : Nat, ey ≤ 1 ∧ ey = (if old then 0 else 1) := ⟨_, by split <;> omega, rfl⟩
  obtain ⟨ey, hey, hey2⟩ := hearly
  have HEY := Lib.hid hey2; clear hey2
  go_upto_if 22 with (fail)
  go_cut [9] from 22 to 22 (fun e wx => e = .int .i64 ey ∧ wx = w1)
  case first =>
    cases old
    · obtain rfl : ey = 1 := HEY.out
      go_wp2_with fail
      go_meet
      exact ⟨rfl, rfl⟩
    · obtain rfl : ey = 0 := HEY.out
      go_wp2_with fail
      go_meet
      exact ⟨rfl, rfl⟩
  case rest =>
    obtain ⟨rfl, rfl⟩ := hcut
    have h2 := (H1.out.lit #[] 5 0 rfl (by unfold maxLen; omega))
    have H3 := Lib.hid h2; clear h2 H1
    go_wp2_with fail
    refine (start_any H3.out).mono ?_
    rintro e w2 ⟨T0, rfl, h2⟩
    have H4 := Lib.hid (h2.perm (show tab T0 start0 * (own 5 1 _ 0 [] * (rdr Rb bs 0 old * F)) = own 5 1 _ 0 [] * (tab T0 start0 * (rdr Rb bs 0 old * F)) by ac_rfl)); clear h2 H3
    have hst0 := length_start0
    go_wp2_with fail
    go_loopg [10, 11, 12] (8 * bs.length + 1) (fun g vo vt vw wr => DecI bits bs old n R F w0 Rb g vo vt vw wr)
    case atStart => exact ⟨start0, [], 0, [], T0, rfl, .inl ⟨rfl, rfl⟩, by rw [hst0]; omega, by rw [hst0]; omega, by omega, by omega, by simp, HR.out, H4.out⟩
    case round =>
      clear H4 HR H HV hst0
      obtain ⟨L, a, p, out, T1, rfl, hwas, hL1, hL2, hp, hg, hol, hdec, hst⟩ := hrel
      obtain ⟨g, rfl⟩ : ∃ g, gk = g + 1 := ⟨gk - 1, by omega⟩
      obtain ⟨ao, co, rfl⟩ := hst.reads.sub
      have HX := Lib.hid hdec; clear hdec
      by_cases hdone : n ≤ out.length
      · have HRR := Lib.hid (show R = (out, 0) by rw [← HX.out, decF_done hdone])
        have HS := Lib.hid hst; clear hst
        have c1 : ¬ (out.length : Int) < n := by omega
        go_wp2_with fail
        go_ret2
        refine ⟨.slice ao out.length co, by rw [HRR.out]; rfl, ?_⟩
        rw [HRR.out]
        exact (HS.out.perm (show _ = (tab T1 L * rdr Rb bs p old) * (own 5 1 (.slice ao out.length co) out.length (out.map bv) * F) by ac_rfl)).right
      have d0 : (out.length : Int) < n := by omega
      have hst := hst.perm (show _ = tab T1 L * (rdr Rb bs p old * (own 5 1 (.slice ao out.length co) out.length (out.map bv) * F)) by ac_rfl)
      obtain ⟨ta, tk, ht1⟩ := tab_len hst
      have HS := Lib.hid hst; clear hst
      go_wp2_with fail
      refine (width_any (L.length + ey) (by omega) (by omega) (by omega) (by omega)).mono ?_
      rintro e w3 ⟨rfl, rfl⟩
      have hW : widthL L.length old = widN (L.length + ey) := by
        rw [HEY.out]
        cases old <;> simp [widthL, widN]
      have hW2 := widthL_bd L.length old
      rw [hW] at hW2
      have HW := Lib.hid hW; clear hW
      generalize widN (L.length + ey) = W at *
      have hbl : bits.length = 8 * bs.length := by rw [HB.out, length_bitsL]
      have HBL := Lib.hid hbl; clear hbl
      by_cases hcut : 8 * bs.length < p + W
      · have HRR := Lib.hid (show R = ([], 2) by
          rw [← HX.out]
          exact decF_err hdone (codeS_cut (by rw [HBL.out, HW.out]; exact hcut)) (by decide))
        go_wp2_with fail
        refine (read_cut_st (HS.out.perm (star_left_comm _ _ _)) W rfl (by omega) hcut).mono ?_
        rintro e w4 ⟨rfl, h4⟩
        have H4 := Lib.hid h4; clear h4
        go_wp2_with fail
        go_ret2
        refine ⟨.slice none 0 0, by rw [HRR.out]; rfl, ?_⟩
        rw [HRR.out]
        exact St.own_nil _ _ (H4.out.perm (show _ = (rdr Rb bs p old * tab T1 L * own 5 1 (.slice ao out.length co) out.length (out.map bv)) * F by ac_rfl)).right
      go_wp2_with fail
      refine (read_ok (HS.out.perm (star_left_comm _ _ _)) W rfl (by omega) (by omega)).mono ?_
      rintro e w4 ⟨rfl, h4⟩
      have hcA : codeAt bits old ⟨L, a, p⟩ = peekV bs old p W := by
        rw [peekV_eq, codeAt, HW.out, HB.out]
      have hcl : peekV bs old p W < 4096 := Nat.lt_of_lt_of_le (peekV_lt _ _ _ _) (Nat.pow_le_pow_right (n := 2) (by decide) hW2.2)
      have HCA := Lib.hid hcA; clear hcA
      generalize peekV bs old p W = c at *
      obtain ⟨tb, tk2, ht2⟩ := tab_len (h4.perm (star_left_comm _ _ _))
      have H4 := Lib.hid h4; clear h4 HS ht1
      have HC0 := Lib.hid (show ¬ bits.length < p + W by rw [HBL.out]; exact hcut)
      by_cases k1 : c = 256
      · have HCS := Lib.hid (codeS_clear HW.out HC0.out HCA.out k1)
        subst k1
        go_wp2_with fail
        refine (start_any (H4.out.perm (show _ = tab T1 L * (rdr Rb bs (p + W) old * (own 5 1 (.slice ao out.length co) out.length (out.map bv) * F)) by ac_rfl)).right).mono ?_
        rintro e w5 ⟨T2, rfl, h5⟩
        have H5 := Lib.hid h5; clear h5
        have hst0 := length_start0
        go_wp2_with fail
        go_roundg g
        case measure => omega
        case rel =>
          refine ⟨start0, [], p + W, out, T2, rfl, .inl ⟨rfl, rfl⟩, by rw [hst0]; omega, by rw [hst0]; omega, by omega, by omega, hol, ?_, H5.out.perm (by ac_rfl)⟩
          rw [← HX.out, decF_next hdone HCS.out (by rw [List.append_nil]; omega), List.append_nil]
      have i1 : ¬ (c : Int) = 256 := by omega
      by_cases k2 : c = 257
      · have HRR := Lib.hid (show R = ([], 2) by rw [← HX.out]; exact decF_end hdone (codeS_end HW.out HC0.out HCA.out k2))
        subst k2
        go_wp2_with fail
        go_ret2
        refine ⟨.slice none 0 0, by rw [HRR.out]; rfl, ?_⟩
        rw [HRR.out]
        exact St.own_nil _ _ (H4.out.perm (show _ = (rdr Rb bs (p + W) old * tab T1 L * own 5 1 (.slice ao out.length co) out.length (out.map bv)) * F by ac_rfl)).right
      have i2 : ¬ (c : Int) = 257 := by omega
      rcases hwas with ⟨ha, rfl⟩ | ⟨j, rfl, hj⟩
      · by_cases k3 : 255 < c
        · have HRR := Lib.hid (show R = ([], 6) by rw [← HX.out]; exact decF_err hdone (codeS_bad0 HW.out HC0.out HCA.out k1 k2 ha k3) (by decide))
          have i3 : (255 : Int) < c := by omega
          go_wp2_with fail
          go_ret2
          refine ⟨.slice none 0 0, by rw [HRR.out]; rfl, ?_⟩
          rw [HRR.out]
          exact St.own_nil _ _ (H4.out.perm (show _ = (rdr Rb bs (p + W) old * tab T1 L * own 5 1 (.slice ao out.length co) out.length (out.map bv)) * F by ac_rfl)).right
        · obtain ⟨t, ht⟩ : ∃ t, L[c]? = some t := ⟨L[c]'(by omega), by simp⟩
          have HCS := Lib.hid (codeS_lit HW.out HC0.out HCA.out k1 k2 ha k3 ht)
          have H5 := Lib.hid (H4.out.perm (show _ = tab T1 L * (rdr Rb bs (p + W) old * (own 5 1 (.slice ao out.length co) out.length (out.map bv) * F)) by ac_rfl))
          have htl := (tab_txt H5.out ht).1
          have HT := Lib.hid ht; clear ht
          have i3 : ¬ (255 : Int) < c := by omega
          have i4 : ¬ (L.length : Int) < c := by omega
          have i5 : ¬ (c : Int) = L.length := by omega
          have hM1 := hL1
          have hM2 := hL2
          clear H4
          go_wp2_with fail
          refine (text_any H5.out (by omega) (c) rfl HT.out).mono ?_
          rintro e w6 ⟨vt, rfl, h6⟩
          obtain ⟨at6, ct, rfl⟩ := h6.reads.sub
          have H6 := Lib.hid h6; clear h6
          go_wp2_with (at_builtin; apply stop)
          refine on (wpList_append_sep T rfl _ _ rfl rfl (H6.out.perm (show _ = own 5 1 (.slice ao out.length co) out.length (out.map bv) * (own 5 1 (.slice at6 (t).length ct) (t).length ((t).map bv) * (tab T1 (L) * (rdr Rb bs (p + W) old * F))) by ac_rfl)) rfl H6.out.reads (bv_oneCell (t)) ?_ ?_ ?_)
          · unfold maxLen; omega
          · omega
          intro v' w7 h7 _
          rw [← List.map_append] at h7
          obtain ⟨a7, c7, rfl⟩ := h7.reads.sub
          have H7 := Lib.hid h7; clear h7
          clear H6 H5
          by_cases hlong : n < out.length + (t).length
          · have HRR := Lib.hid (show R = ([], 5) by rw [← HX.out]; exact decF_long hdone HCS.out (by rw [List.length_append]; exact hlong))
            have l1 : (n : Int) < (out.length : Int) + (t).length := by omega
            go_wp2_with fail
            go_ret2
            refine ⟨.slice none 0 0, by rw [HRR.out]; rfl, ?_⟩
            rw [HRR.out]
            exact St.own_nil _ _ (H7.out.perm (show _ = (own 5 1 (.slice a7 (out.length + (t).length) c7) (out.length + (t).length) ((out ++ (t)).map bv) * own 5 1 (.slice at6 (t).length ct) (t).length ((t).map bv) * tab T1 (L) * rdr Rb bs (p + W) old) * F by ac_rfl)).right
          · have l1 : ¬ (n : Int) < (out.length : Int) + (t).length := by omega
            go_wp2_with fail
            go_roundg g
            case measure => omega
            case rel =>
              refine ⟨L, t, p + W, out ++ (t), T1, rfl, .inr ⟨c, rfl, HT.out⟩, hM1, hM2, by omega, by omega, by rw [List.length_append]; omega, ?_, ?_⟩
              · rw [← HX.out, decF_next hdone HCS.out (by rw [List.length_append]; exact hlong)]
              · rw [List.length_append]
                exact (H7.out.perm (show _ = own 5 1 (.slice at6 (t).length ct) (t).length ((t).map bv) * (own 5 1 (.slice a7 (out.length + (t).length) c7) (out.length + (t).length) ((out ++ (t)).map bv) * (tab T1 (L) * (rdr Rb bs (p + W) old * F))) by ac_rfl)).right
      · have H5 := Lib.hid (H4.out.perm (show _ = tab T1 L * (rdr Rb bs (p + W) old * (own 5 1 (.slice ao out.length co) out.length (out.map bv) * F)) by ac_rfl))
        obtain ⟨hal, hane⟩ := tab_txt H5.out hj
        have hjl : j < L.length := (List.getElem?_eq_some_iff.1 hj).1
        have HJ := Lib.hid hj; clear hj
        have j0 : ¬ (j : Int) < 0 := by omega
        by_cases k3 : L.length < c
        · have HRR := Lib.hid (show R = ([], 6) by rw [← HX.out]; exact decF_err hdone (codeS_bad HW.out HC0.out HCA.out k1 k2 hane (.inl k3)) (by decide))
          have i3 : (L.length : Int) < c := by omega
          go_wp2_with fail
          go_ret2
          refine ⟨.slice none 0 0, by rw [HRR.out]; rfl, ?_⟩
          rw [HRR.out]
          exact St.own_nil _ _ (H4.out.perm (show _ = (rdr Rb bs (p + W) old * tab T1 L * own 5 1 (.slice ao out.length co) out.length (out.map bv)) * F by ac_rfl)).right
        have i3 : ¬ (L.length : Int) < c := by omega
        by_cases k4 : c = L.length
        · skip
          have i5 : ¬ (4096 : Int) ≤ L.length := by omega
          have i6 : (L.length : Int) < 4096 := by omega
          obtain ⟨d, at_, rfl⟩ : ∃ d t, a = d :: t := by
            cases a with
            | nil => exact absurd rfl hane
            | cons d t => exact ⟨d, t, rfl⟩
          have HCS := Lib.hid (codeS_new HW.out HC0.out HCA.out k1 k2 rfl k4 (by omega))
          subst k4
          have HT := Lib.hid (show (L ++ [d :: at_ ++ [d]])[L.length]? = some (d :: at_ ++ [d]) by simp)
          clear i3
          generalize hNL : L.length = NL at *
          have HNL := Lib.hid hNL; clear hNL
          clear H4
          go_wp2_with fail
          refine (text_any H5.out (by rw [HNL.out]; omega) j rfl HJ.out).mono ?_
          rintro e w6 ⟨vt, rfl, h6⟩
          obtain ⟨at6, ct, rfl⟩ := h6.reads.sub
          obtain ⟨b6, o6, rfl, e6⟩ := h6.reads.at_ (j := 0) (by simp)
          have e6 : w6.cell? ⟨b6, o6, none⟩ = some (.int .u8 (d.toNat : Int)) := e6
          have H6 := Lib.hid h6.right; clear h6 H5
          have hdl : (0 : Int) < ((d :: at_).length : Int) := by rw [List.length_cons]; omega
          generalize haa : d :: at_ = aa at *
          clear haa
          go_wp2_with fail
          refine (add_any H6.out (by rw [HNL.out]; omega) j rfl HJ.out d rfl).mono ?_
          rintro e w8 ⟨rfl, h8⟩
          have hM1 : 258 ≤ (L ++ [aa ++ [d]]).length := by rw [List.length_append, HNL.out]; simp; omega
          have hM2 : (L ++ [aa ++ [d]]).length ≤ 4096 := by rw [List.length_append, HNL.out]; simp; omega
          have H5 := Lib.hid h8; clear h8 H6
          have htl := (tab_txt H5.out HT.out).1
          generalize hLL : L ++ [aa ++ [d]] = LL at *
          generalize htt : aa ++ [d] = tt at *
          clear hLL htt
          go_wp2_with fail
          refine (text_any H5.out (by omega) (NL) rfl HT.out).mono ?_
          rintro e w6 ⟨vt, rfl, h6⟩
          obtain ⟨at6, ct, rfl⟩ := h6.reads.sub
          have H6 := Lib.hid h6; clear h6
          go_wp2_with (at_builtin; apply stop)
          refine on (wpList_append_sep T rfl _ _ rfl rfl (H6.out.perm (show _ = own 5 1 (.slice ao out.length co) out.length (out.map bv) * (own 5 1 (.slice at6 (tt).length ct) (tt).length ((tt).map bv) * (tab T1 (LL) * (rdr Rb bs (p + W) old * F))) by ac_rfl)) rfl H6.out.reads (bv_oneCell (tt)) ?_ ?_ ?_)
          · unfold maxLen; omega
          · omega
          intro v' w7 h7 _
          rw [← List.map_append] at h7
          obtain ⟨a7, c7, rfl⟩ := h7.reads.sub
          have H7 := Lib.hid h7; clear h7
          clear H6 H5
          by_cases hlong : n < out.length + (tt).length
          · have HRR := Lib.hid (show R = ([], 5) by rw [← HX.out]; exact decF_long hdone HCS.out (by rw [List.length_append]; exact hlong))
            have l1 : (n : Int) < (out.length : Int) + (tt).length := by omega
            go_wp2_with fail
            go_ret2
            refine ⟨.slice none 0 0, by rw [HRR.out]; rfl, ?_⟩
            rw [HRR.out]
            exact St.own_nil _ _ (H7.out.perm (show _ = (own 5 1 (.slice a7 (out.length + (tt).length) c7) (out.length + (tt).length) ((out ++ (tt)).map bv) * own 5 1 (.slice at6 (tt).length ct) (tt).length ((tt).map bv) * tab T1 (LL) * rdr Rb bs (p + W) old) * F by ac_rfl)).right
          · have l1 : ¬ (n : Int) < (out.length : Int) + (tt).length := by omega
            go_wp2_with fail
            go_roundg g
            case measure => omega
            case rel =>
              refine ⟨LL, tt, p + W, out ++ (tt), T1, rfl, .inr ⟨NL, rfl, HT.out⟩, hM1, hM2, by omega, by omega, by rw [List.length_append]; omega, ?_, ?_⟩
              · rw [← HX.out, decF_next hdone HCS.out (by rw [List.length_append]; exact hlong)]
              · rw [List.length_append]
                exact (H7.out.perm (show _ = own 5 1 (.slice at6 (tt).length ct) (tt).length ((tt).map bv) * (own 5 1 (.slice a7 (out.length + (tt).length) c7) (out.length + (tt).length) ((out ++ (tt)).map bv) * (tab T1 (LL) * (rdr Rb bs (p + W) old * F))) by ac_rfl)).right
        have i4 : ¬ (c : Int) = L.length := by omega
        have i4' : (c : Int) < L.length := by omega
        obtain ⟨t, ht⟩ : ∃ t, L[c]? = some t := ⟨L[c]'(by omega), by simp⟩
        obtain ⟨htl, htne⟩ := tab_txt H5.out ht
        by_cases k5 : L.length < 4096
        · have i6 : (L.length : Int) < 4096 := by omega
          obtain ⟨d, t2, rfl⟩ : ∃ d t2, t = d :: t2 := by
            cases t with
            | nil => exact absurd rfl htne
            | cons d t => exact ⟨d, t, rfl⟩
          have HCS := Lib.hid (codeS_old HW.out HC0.out HCA.out k1 k2 hane (by omega) k5 ht)
          have HT := Lib.hid (show (L ++ [a ++ [d]])[c]? = some (d :: t2) by rw [List.getElem?_append_left (by omega)]; exact ht)
          have HT0 := Lib.hid ht; clear ht
          clear H4
          go_wp2_with fail
          refine (text_any H5.out (by omega) c rfl HT0.out).mono ?_
          rintro e w6 ⟨vt, rfl, h6⟩
          obtain ⟨at6, ct, rfl⟩ := h6.reads.sub
          obtain ⟨b6, o6, rfl, e6⟩ := h6.reads.at_ (j := 0) (by simp)
          have e6 : w6.cell? ⟨b6, o6, none⟩ = some (.int .u8 (d.toNat : Int)) := e6
          have H6 := Lib.hid h6.right; clear h6 H5
          have hdl : (0 : Int) < ((d :: t2).length : Int) := by rw [List.length_cons]; omega
          generalize htt : d :: t2 = tt at *
          clear htt
          go_wp2_with fail
          refine (add_any H6.out (by omega) j rfl HJ.out d rfl).mono ?_
          rintro e w8 ⟨rfl, h8⟩
          have hM1 : 258 ≤ (L ++ [a ++ [d]]).length := by simp; omega
          have hM2 : (L ++ [a ++ [d]]).length ≤ 4096 := by simp; omega
          have H5 := Lib.hid h8; clear h8 H6
          generalize hLL : L ++ [a ++ [d]] = LL at *
          clear hLL
          go_wp2_with fail
          refine (text_any H5.out (by omega) (c) rfl HT.out).mono ?_
          rintro e w6 ⟨vt, rfl, h6⟩
          obtain ⟨at6, ct, rfl⟩ := h6.reads.sub
          have H6 := Lib.hid h6; clear h6
          go_wp2_with (at_builtin; apply stop)
          refine on (wpList_append_sep T rfl _ _ rfl rfl (H6.out.perm (show _ = own 5 1 (.slice ao out.length co) out.length (out.map bv) * (own 5 1 (.slice at6 (tt).length ct) (tt).length ((tt).map bv) * (tab T1 (LL) * (rdr Rb bs (p + W) old * F))) by ac_rfl)) rfl H6.out.reads (bv_oneCell (tt)) ?_ ?_ ?_)
          · unfold maxLen; omega
          · omega
          intro v' w7 h7 _
          rw [← List.map_append] at h7
          obtain ⟨a7, c7, rfl⟩ := h7.reads.sub
          have H7 := Lib.hid h7; clear h7
          clear H6 H5
          by_cases hlong : n < out.length + (tt).length
          · have HRR := Lib.hid (show R = ([], 5) by rw [← HX.out]; exact decF_long hdone HCS.out (by rw [List.length_append]; exact hlong))
            have l1 : (n : Int) < (out.length : Int) + (tt).length := by omega
            go_wp2_with fail
            go_ret2
            refine ⟨.slice none 0 0, by rw [HRR.out]; rfl, ?_⟩
            rw [HRR.out]
            exact St.own_nil _ _ (H7.out.perm (show _ = (own 5 1 (.slice a7 (out.length + (tt).length) c7) (out.length + (tt).length) ((out ++ (tt)).map bv) * own 5 1 (.slice at6 (tt).length ct) (tt).length ((tt).map bv) * tab T1 (LL) * rdr Rb bs (p + W) old) * F by ac_rfl)).right
          · have l1 : ¬ (n : Int) < (out.length : Int) + (tt).length := by omega
            go_wp2_with fail
            go_roundg g
            case measure => omega
            case rel =>
              refine ⟨LL, tt, p + W, out ++ (tt), T1, rfl, .inr ⟨c, rfl, HT.out⟩, hM1, hM2, by omega, by omega, by rw [List.length_append]; omega, ?_, ?_⟩
              · rw [← HX.out, decF_next hdone HCS.out (by rw [List.length_append]; exact hlong)]
              · rw [List.length_append]
                exact (H7.out.perm (show _ = own 5 1 (.slice at6 (tt).length ct) (tt).length ((tt).map bv) * (own 5 1 (.slice a7 (out.length + (tt).length) c7) (out.length + (tt).length) ((out ++ (tt)).map bv) * (tab T1 (LL) * (rdr Rb bs (p + W) old * F))) by ac_rfl)).right
        · have i6 : ¬ (L.length : Int) < 4096 := by omega
          have HCS := Lib.hid (codeS_full HW.out HC0.out HCA.out k1 k2 hane (by omega) k5 ht)
          have HT := Lib.hid ht; clear ht
          have hM1 := hL1
          have hM2 := hL2
          clear H4
          go_wp2_with fail
          refine (text_any H5.out (by omega) (c) rfl HT.out).mono ?_
          rintro e w6 ⟨vt, rfl, h6⟩
          obtain ⟨at6, ct, rfl⟩ := h6.reads.sub
          have H6 := Lib.hid h6; clear h6
          go_wp2_with (at_builtin; apply stop)
          refine on (wpList_append_sep T rfl _ _ rfl rfl (H6.out.perm (show _ = own 5 1 (.slice ao out.length co) out.length (out.map bv) * (own 5 1 (.slice at6 (t).length ct) (t).length ((t).map bv) * (tab T1 (L) * (rdr Rb bs (p + W) old * F))) by ac_rfl)) rfl H6.out.reads (bv_oneCell (t)) ?_ ?_ ?_)
          · unfold maxLen; omega
          · omega
          intro v' w7 h7 _
          rw [← List.map_append] at h7
          obtain ⟨a7, c7, rfl⟩ := h7.reads.sub
          have H7 := Lib.hid h7; clear h7
          clear H6 H5
          by_cases hlong : n < out.length + (t).length
          · have HRR := Lib.hid (show R = ([], 5) by rw [← HX.out]; exact decF_long hdone HCS.out (by rw [List.length_append]; exact hlong))
            have l1 : (n : Int) < (out.length : Int) + (t).length := by omega
            go_wp2_with fail
            go_ret2
            refine ⟨.slice none 0 0, by rw [HRR.out]; rfl, ?_⟩
            rw [HRR.out]
            exact St.own_nil _ _ (H7.out.perm (show _ = (own 5 1 (.slice a7 (out.length + (t).length) c7) (out.length + (t).length) ((out ++ (t)).map bv) * own 5 1 (.slice at6 (t).length ct) (t).length ((t).map bv) * tab T1 (L) * rdr Rb bs (p + W) old) * F by ac_rfl)).right
          · have l1 : ¬ (n : Int) < (out.length : Int) + (t).length := by omega
            go_wp2_with fail
            go_roundg g
            case measure => omega
            case rel =>
              refine ⟨L, t, p + W, out ++ (t), T1, rfl, .inr ⟨c, rfl, HT.out⟩, hM1, hM2, by omega, by omega, by rw [List.length_append]; omega, ?_, ?_⟩
              · rw [← HX.out, decF_next hdone HCS.out (by rw [List.length_append]; exact hlong)]
              · rw [List.length_append]
                exact (H7.out.perm (show _ = own 5 1 (.slice at6 (t).length ct) (t).length ((t).map bv) * (own 5 1 (.slice a7 (out.length + (t).length) c7) (out.length + (t).length) ((out ++ (t)).map bv) * (tab T1 (L) * (rdr Rb bs (p + W) old * F))) by ac_rfl)).right
#print axioms decode_walk
end Go.Proofs.Ytpjonjiofaaccaa
