/-
  Layer 16 (gfour): pages each row of which is told by the one above it.
-/
import Derived.Test.YtdjoigobmmaaiaaDoorG4M
import Derived.Test.YtdjoigobmmaaiaaDoorWr
import Derived.RegionTactic
import Derived.Deep.RegionWith
namespace Go.Proofs.YtdjoigobmmaaiaaDoor
open Go.RowKit Go.Mz
set_option linter.unusedVariables false
set_option linter.unusedSimpArgs false
set_option maxRecDepth 100000

set_option maxHeartbeats 1000000 in
theorem ended_any {w0 w : World} {F : SProp} {Rb : Nat} {bs : List UInt8} {p : Nat} (h : St w0 w (rdr Rb bs p false * F)) :
    Calls Tryd.prog 35 #[.pointer (some ⟨Rb, 0, none⟩)] w fun e w' => e = .returned (.bool (isEnd (bitsL false bs) p)) ∧ St w0 w' (rdr Rb bs p false * F) := by
  obtain ⟨hb1, hb2, _⟩ := rdr_open h
  have hl : (bitsL false bs).length = 8 * bs.length := length_bitsL _ _
  have HP := Lib.hid (peek_st h (j := 24) 24 rfl (by decide))
  have hpe := peek_end (bs := bs) (p := p)
  have hsh := isEnd_short (t := bitsL false bs) (p := p)
  rw [hl] at hsh
  generalize isEnd (bitsL false bs) p = r at *
  generalize peekV bs false p 24 = v at *
  have HL := Lib.hid (fun w (h : St w0 w (rdr Rb bs p false * F)) => left_st h)
  clear h hl
  go_enter Tryd.func35, Tryd.ntmps35
  go_wp2_with fail
  refine HP.out.mono ?_
  rintro e w2 ⟨rfl, h2⟩
  have HL2 := Lib.hid (HL.out _ h2); clear h2 HP HL
  by_cases hc : p + 24 ≤ 8 * bs.length
  · have h24 : (24 : Int) ≤ 8 * (bs.length : Int) - p := by omega
    have hv := hpe hc
    have HV := Lib.hid hv
    clear hpe hsh
    go_wp2_with fail
    refine HL2.out.mono ?_
    rintro e w3 ⟨rfl, h3⟩
    have H3 := Lib.hid h3; clear h3 HL2
    have h24d : decide ((24 : Int) ≤ 8 * (bs.length : Int) - p) = true := decide_eq_true h24
    go_wp2_with fail
    go_ret
    refine ⟨?_, H3.out⟩
    rw [← HV.out]; rfl
  · have h24 : ¬ (24 : Int) ≤ 8 * (bs.length : Int) - p := by omega
    have hr := hsh (by omega)
    subst hr
    clear hpe hsh
    go_wp2_with fail
    refine HL2.out.mono ?_
    rintro e w3 ⟨rfl, h3⟩
    have H3 := Lib.hid h3; clear h3 HL2
    have h24d : decide ((24 : Int) ≤ 8 * (bs.length : Int) - p) = false := decide_eq_false (by omega)
    go_wp2_with fail
    go_ret
    exact ⟨rfl, H3.out⟩

theorem encode16_bad (w : World) (v : Value) {width : Int} (hw : width < 1) :
    Calls Tryd.prog 12 #[v, .int .i64 width] w fun e w' => e = .returned (.tuple #[.slice none 0 0, .int .i64 1]) ∧ w' = w := by
  have hd : decide (width < 1) = true := decide_eq_true hw
  go_enter Tryd.func12, Tryd.ntmps12
  go_wp2_with fail
  go_ret2
  exact ⟨rfl, rfl⟩

theorem eol_un : unTx [48, 48, 48, 48, 48, 48, 48, 48, 48, 48, 48, 49] = eolW := by decide +kernel

set_option maxHeartbeats 4000000 in
theorem encode16_any {w0 w : World} {F : SProp} (h : St w0 w F) (htab : Tab w0 F) {R : List (Value × List Nat)} {v : Value} (hv : Stb w0 F (fun w => Reads w 1 v R.length (R.map Prod.fst))) (hr : Stb w0 F (fun w => ∀ x ∈ R, Reads w 1 x.1 x.2.length (x.2.map nv))) {width : Nat} (h1 : 1 ≤ width) (hw : width ≤ 400) (hR : ∀ x ∈ R, RowOk width x.2) (hN : R.length ≤ 100) :
    Calls Tryd.prog 12 #[v, .int .i64 (width : Int)] w fun e w' => ∃ v', e = .returned (.tuple #[v', .int .i64 0]) ∧ St w0 w' (own 5 1 v' (bytesB false (enc4 width (R.map Prod.snd))).length ((bytesB false (enc4 width (R.map Prod.snd))).map bv) * F) := by
  obtain ⟨a0, c0, rfl⟩ := (hv w h).sub
  have HV := Lib.hid hv; have HRR := Lib.hid hr; have HRO := Lib.hid hR
  have HT := Lib.hid htab
  have hw1 : ¬ (width : Int) < 1 := by omega
  have hw2 : ¬ (32768 : Int) < width := by omega
  obtain ⟨res, hres⟩ : ∃ res, agAll width [] (R.map Prod.snd) = res := ⟨_, rfl⟩
  rw [enc4, hres]
  have HRES := Lib.hid hres; clear hres htab hv hr hR
  have H := Lib.hid h; clear h
  go_enter Tryd.func12, Tryd.ntmps12
  go_wp2_with fail
  refine (newWriter_any (low := false) H.out).mono ?_
  rintro e w3 ⟨Wb, rfl, h3⟩
  have H3 := Lib.hid h3; clear h3 H
  go_wp2_with fail
  refine (newCodes_any H3.out (fun w h => HT.out w h.right)).mono ?_
  rintro e w4 ⟨C, rfl, h4⟩
  have h5 := (h4.lit #[] 3 0 rfl (by decide)).perm (show _ = codes C * (wrt Wb [] false * (own 3 1 (.slice (some ⟨w4.heap.size, 0, none⟩) 0 0) 0 [] * F)) by simp only; ac_rfl)
  have H5 := Lib.hid h5; clear h4 h5 H3
  go_wp2_with fail
  generalize w4.heap.size = gA at *
  go_loopw [8, 23] (fun va vi wr => ∃ (k : Nat) (acc top : List Nat) (aa : Option Addr) (ca : Nat), k ≤ R.length ∧ vi = .int .i64 k ∧ va = .slice aa top.length ca ∧ acc.length ≤ 300000 * k ∧ acc ++ agAll width top ((R.map Prod.snd).drop k) = res ∧ (top.Pairwise (· < ·) ∧ (∀ x ∈ top, x < width) ∧ top.length ≤ 400) ∧
      Stb w0 (own 3 1 (.slice (some ⟨gA, 0, none⟩) 0 0) 0 [] * F) (fun w => Reads w 1 (.slice aa top.length ca) top.length (top.map nv)) ∧ St w0 wr (codes C * (wrt Wb acc false * (own 3 1 (.slice (some ⟨gA, 0, none⟩) 0 0) 0 [] * F)))) (fun _ vi _ => R.length - (intOf vi).toNat)
  case atStart => exact ⟨0, [], [], some ⟨gA, 0, none⟩, 0, by omega, rfl, rfl, by simp, HRES.out, ⟨List.Pairwise.nil, (fun x hx => by cases hx), by simp⟩, Stb.of_own, H5.out⟩
  case round =>
    clear H5 HRES
    obtain ⟨k, acc, top, aa, ca, hk, rfl, rfl, hal, hall, htop, hstb, hst⟩ := hrel
    by_cases hkn : k < R.length
    · have hkl : (k : Int) < R.length := by omega
      obtain ⟨g, o, rfl, e1⟩ := (HV.out wr hst.right.right.right).at_ hkn
      have hx := List.getElem?_eq_getElem hkn
      rw [List.getElem?_map, hx] at e1
      simp only [Option.map_some] at e1
      have hmem := List.getElem_mem hkn
      have hd : (R.map Prod.snd).drop k = R[k].2 :: (R.map Prod.snd).drop (k + 1) := by
        rw [List.drop_eq_getElem_cons (by simpa using hkn), List.getElem_map]
      rw [hd, agAll, ← List.append_assoc] at hall
      have hro := HRO.out _ hmem
      have hrd : Stb w0 F (fun w => Reads w 1 R[k].1 R[k].2.length (R[k].2.map nv)) := fun w h => HRR.out w h _ hmem
      clear hx hd hmem
      obtain ⟨⟨xv, xl⟩, hxx⟩ : ∃ x, R[k] = x := ⟨_, rfl⟩
      rw [hxx] at e1 hall hro hrd
      simp only at e1 hall hro hrd
      clear hxx
      obtain ⟨ax, cx, rfl⟩ := (hrd wr hst.right.right.right).sub
      have hbl := agB_len hro.1 hro.2.1 htop.1 htop.2.1 (by omega) (width + 1) (-1) false
      have HW := Lib.hid (writeAgainst_any hst (hrd.more _) hstb hro.1 hro.2.1 htop.1 htop.2.1 h1 (by omega) (by have := hro.2.2; omega) (by have := htop.2.2; omega) (by omega))
      have hal3 : (acc ++ agB xl top width (width + 1) (-1) false).length ≤ 300000 * (k + 1) := by rw [List.length_append]; omega
      have HALL := Lib.hid (⟨hall, hal3, hro⟩ : _ ∧ _ ∧ _)
      have HRX := Lib.hid (hrd.more (own 3 1 (.slice (some ⟨gA, 0, none⟩) 0 0) 0 []))
      clear hall hal3 hbl hro hrd hst htop hstb
      generalize acc ++ agB xl top width (width + 1) (-1) false = acc2 at *
      go_wp2_with fail
      refine HW.out.mono ?_
      rintro e w5 ⟨rfl, h5⟩
      have H5 := Lib.hid h5; clear h5 HW
      go_wp2_with fail
      exact ⟨⟨k + 1, acc2, xl, ax, cx, by omega, by go_num, rfl, HALL.out.2.1, HALL.out.1, HALL.out.2.2, HRX.out, H5.out⟩, by simp [intOf]; omega⟩
    · obtain rfl : k = R.length := by omega
      rw [List.drop_of_length_le (by simp), agAll, List.append_nil] at hall
      have HRS := Lib.hid hall
      have hl2 : acc.length ≤ 30000000 := by omega
      have HW1 := Lib.hid (word_ok (hst.perm (star_left_comm _ _ _)) [48, 48, 48, 48, 48, 48, 48, 48, 48, 48, 48, 49] (by decide) (by decide) (by simp only [List.length]; omega))
      rw [eol_un] at HW1
      clear hst hall htop hstb hal
      go_wp2_with fail
      refine HW1.out.mono ?_
      rintro e w5 ⟨rfl, h5⟩
      have HW2 := Lib.hid (word_ok h5 [48, 48, 48, 48, 48, 48, 48, 48, 48, 48, 48, 49] (by decide) (by decide) (by rw [List.length_append, show eolW.length = 12 by decide]; simp only [List.length]; omega))
      rw [eol_un, List.append_assoc] at HW2
      clear h5 HW1
      go_wp2_with fail
      refine HW2.out.mono ?_
      rintro e w6 ⟨rfl, h6⟩
      have h6 : St w0 w6 (wrt Wb (acc ++ endW) false * (codes C * (own 3 1 (.slice (some ⟨gA, 0, none⟩) 0 0) 0 [] * F))) := h6
      have HBY := bytes_any h6
      rw [HRS.out] at HBY
      obtain ⟨fin, hfin⟩ : ∃ fin, fin = res ++ endW := ⟨_, rfl⟩
      rw [← hfin] at HBY
      have hl1 : (bytesB false fin).length = (fin.length + 7) / 8 := length_bytesB _ _
      rw [← hl1] at HBY
      obtain ⟨E, hE⟩ : ∃ E, E = bytesB false fin := ⟨_, rfl⟩
      rw [← hE] at HBY
      rw [hfin] at hE
      have HEE := Lib.hid hE
      clear hE hfin
      have HBY := Lib.hid HBY
      clear h6 HW2 hl1
      go_wp2_with fail
      refine HBY.out.mono ?_
      rintro e w7 ⟨v7, rfl, h7⟩
      obtain ⟨a7, c7, rfl⟩ := h7.reads.sub
      have H7 := Lib.hid (h7.perm (show _ = wrt Wb fin false * (codes C * (own 3 1 (.slice (some ⟨gA, 0, none⟩) 0 0) 0 [] * (own 5 1 (.slice a7 E.length c7) E.length (E.map bv) * F))) by ac_rfl)).right.right.right
      clear h7 HBY
      go_wp2_with fail
      go_ret2
      rw [← HEE.out]
      exact ⟨_, rfl, H7.out⟩

theorem decode16_bad (w : World) (vb : Value) (width n : Int) (hw3 : width ≤ 32768) (h : width < 1 ∨ n < 0) :
    Calls Tryd.prog 14 #[vb, .int .i64 width, .int .i64 n] w fun e w' => e = .returned (.tuple #[.slice none 0 0, .int .i64 1]) ∧ w' = w := by
  by_cases hw : width < 1
  · have hd : decide (width < 1) = true := decide_eq_true hw
    clear h
    go_enter Tryd.func14, Tryd.ntmps14
    go_wp2_with fail
    go_ret2
    exact ⟨rfl, rfl⟩
  · have hn : n < 0 := by omega
    have hd : decide (width < 1) = false := decide_eq_false hw
    have hd2 : decide (32768 < width) = false := decide_eq_false (by omega)
    have hd3 : decide (n < 0) = true := decide_eq_true hn
    have hw4 : ¬ 32768 < width := by omega
    clear h
    go_enter Tryd.func14, Tryd.ntmps14
    go_wp2_with fail
    go_ret2
    exact ⟨rfl, rfl⟩

def nilRow (g : Nat) : Value × List Nat := (.slice (some ⟨g, 0, none⟩) 0 0, [])

set_option maxHeartbeats 4000000 in
theorem decode16_any {w0 w : World} {F : SProp} (h : St w0 w F) (htab : Tab w0 F) {bs : List UInt8} {vb : Value} (hb : Stb w0 F (fun w => Reads w 1 vb bs.length (bs.map bv))) (hl : bs.length ≤ 100000000) {width N : Nat} (h1 : 1 ≤ width) (hw : width ≤ 32768) (hN : N ≤ 1000) :
    Calls Tryd.prog 14 #[vb, .int .i64 (width : Int), .int .i64 (N : Int)] w fun e w' => ∃ (v : Value) (R : List (Value × List Nat)),
      e = .returned (.tuple #[v, .int .i64 (erD (dec4F (bitsL false bs) width N 0 [] []) : Nat)]) ∧ R.map Prod.snd = (okD (dec4F (bitsL false bs) width N 0 [] [])).map chg ∧ St w0 w' (own 41 1 v R.length (R.map Prod.fst) * (rowsP R * F)) := by
  have HB := Lib.hid hb; have HT := Lib.hid htab
  have hbl : (bitsL false bs).length = 8 * bs.length := length_bitsL _ _
  have HBL := Lib.hid hbl
  obtain ⟨res, hres⟩ : ∃ res, dec4F (bitsL false bs) width N 0 [] [] = res := ⟨_, rfl⟩
  rw [hres]
  have HRES := Lib.hid hres; clear hres hbl htab
  obtain ⟨a0, c0, rfl⟩ := (hb w h).sub
  have H := Lib.hid h; clear h hb
  have T := elemRows
  have hw1 : ¬ (width : Int) < 1 := by omega
  have hw2 : ¬ (32768 : Int) < width := by omega
  have hw1d : decide ((width : Int) < 1) = false := decide_eq_false hw1
  have hw2d : decide ((32768 : Int) < width) = false := decide_eq_false hw2
  have hN0 : ¬ (N : Int) < 0 := by omega
  have hN0d : decide ((N : Int) < 0) = false := decide_eq_false hN0
  go_enter Tryd.func14, Tryd.ntmps14
  go_wp2_with fail
  refine (newReader_any (low := false) H.out HB.out (by omega)).mono ?_
  rintro e w3 ⟨Rb, rfl, h3⟩
  have H3 := Lib.hid h3; clear h3 H
  go_wp2_with fail
  refine (newCodes_any H3.out (fun w h => HT.out w h.right)).mono ?_
  rintro e w4 ⟨C, rfl, h4⟩
  have h5 := h4.lit #[] 41 0 rfl (by decide)
  have h6 := h5.lit #[] 3 0 rfl (by decide)
  obtain ⟨gR, hgR⟩ : ∃ gR, gR = w4.heap.size := ⟨_, rfl⟩
  obtain ⟨gA, hgA⟩ : ∃ gA, gA = (w4.alloc (.cells #[] 41)).heap.size := ⟨_, rfl⟩
  rw [← hgR, ← hgA] at h6
  have hgA2 : gA = gR + 1 := by rw [hgA, hgR]; simp
  have h7 := h6.perm (show _ = own 41 1 (.slice (some ⟨gR, 0, none⟩) 0 0) 0 [] * (rowsP [nilRow gA] * (codes C * (rdr Rb bs 0 false * F))) by
    rw [show rowsP [nilRow gA] = own 3 1 (.slice (some ⟨gA, 0, none⟩) 0 0) 0 [] * emp from rfl, star_assoc, emp_star]
    show own 3 1 (.slice (some ⟨gA, 0, none⟩) 0 0) 0 [] * (own 41 1 (.slice (some ⟨gR, 0, none⟩) 0 0) 0 [] * _) = _
    ac_rfl)
  subst hgA2
  have H7 := Lib.hid h7; clear h4 h5 h6 h7 H3 hgA
  clear hw1d hw2d hN0d
  go_wp2_with fail
  rw [← hgR]
  clear hgR
  go_loopw [10, 11, 30] (fun vr va vi wr => ∃ (k p : Nat) (acc : List (List Nat)) (R : List (Value × List Nat)) (ao : Option Addr) (co : Nat) (xa : Value × List Nat) (aa : Option Addr) (ca : Nat), k ≤ N ∧ vi = .int .i64 k ∧ vr = .slice ao R.length co ∧ va = .slice aa xa.2.length ca ∧ xa.1 = .slice aa xa.2.length ca ∧ xa ∈ nilRow (gR + 1) :: R ∧ (xa.2.Pairwise (· < ·) ∧ (∀ x ∈ xa.2, x < width) ∧ xa.2.length ≤ 32768) ∧ p ≤ 8 * bs.length ∧ R.length = k ∧ R.map Prod.snd = acc.map chg ∧ dec4F (bitsL false bs) width (N - k) p xa.2 acc = res ∧
    St w0 wr (own 41 1 (.slice ao R.length co) R.length (R.map Prod.fst) * (rowsP (nilRow (gR + 1) :: R) * (codes C * (rdr Rb bs p false * F))))) (fun _ _ vi _ => N - (intOf vi).toNat)
  case atStart => exact ⟨0, 0, [], [], some ⟨gR, 0, none⟩, 0, nilRow (gR + 1), some ⟨gR + 1, 0, none⟩, 0, by omega, rfl, rfl, rfl, rfl, by simp, ⟨List.Pairwise.nil, (fun x hx => by cases hx), by simp [nilRow]⟩, by omega, rfl, rfl, HRES.out, H7.out⟩
  case round =>
    clear H7 HRES
    obtain ⟨k, p, acc, R, ao, co, ⟨xv, top⟩, aa, ca, hk, rfl, rfl, rfl, hxa, hmem, htop, hp, hRk, hRm, hall, hst⟩ := hrel
    simp only at hxa htop hall
    subst hxa
    by_cases hkn : k < N
    · have hkl : (k : Int) < N := by omega
      obtain ⟨m, hm⟩ : ∃ m, N - k = m + 1 := ⟨N - k - 1, by omega⟩
      have hm2 : N - (k + 1) = m := by omega
      rw [hm, dec4F] at hall
      have HE := Lib.hid (ended_any (hst.perm (show _ = rdr Rb bs p false * (codes C * (own 41 1 (.slice ao R.length co) R.length (R.map Prod.fst) * (rowsP (nilRow (gR + 1) :: R) * F))) by ac_rfl)))
      have hbd := readAg_bd (t := bitsL false bs) (width := width) (p := p) htop.1 htop.2.1 h1 (by rw [HBL.out]; exact hp)
      have HCR := Lib.hid (fun (w' : World) (G : SProp) (h : St w0 w' (codes C * (rdr Rb bs p false * G))) (hg : Stb w0 G (fun w => Reads w 1 (.slice aa top.length ca) top.length (top.map nv))) => readAgainst_any h hg htop.1 htop.2.1 h1 hw (by have := htop.2.2; omega) (by omega) hp)
      have hRl : R.length ≤ 1000 := by omega
      have HRK := Lib.hid hRk
      have HRM := Lib.hid hRm
      have HM := Lib.hid (⟨hm, hm2⟩ : _ ∧ _)
      have HMEM := Lib.hid hmem
      clear hst htop hRk hRm hm hm2 hmem
      cases hend : isEnd (bitsL false bs) p with
      | true =>
        rw [hend] at HE hall
        rw [if_pos rfl] at hall
        have HRS := Lib.hid hall
        clear hall hbd HCR hend
        go_wp2_with fail
        refine HE.out.mono ?_
        rintro e w5 ⟨rfl, h5⟩
        have H5 := Lib.hid (St.own_nil 41 1 (rowsP_nil h5.right.right.right.right)); clear h5 HE
        go_wp2_with fail
        go_ret2
        rw [← HRS.out]
        exact ⟨_, [], rfl, rfl, H5.out⟩
      | false =>
        rw [hend] at HE hall
        rw [if_neg (by decide)] at hall
        clear hend
        cases hr : readAg (bitsL false bs) top width p with
        | mk q y =>
          rw [hr] at hall hbd HCR
          rw [HBL.out] at hbd
          obtain ⟨hq, hb1, hb2⟩ := hbd
          simp only at hq HCR
          cases y with
          | inr er =>
            simp only at hall
            have her := hb2 er rfl
            have hx0 : ¬ (er : Int) = 0 := by omega
            have HRS := Lib.hid hall
            clear hall hr hb1 hb2 hq
            go_wp2_with fail
            refine HE.out.mono ?_
            rintro e w5 ⟨rfl, h5⟩
            have HC1 := Lib.hid (HCR.out _ _ (h5.perm (show _ = codes C * (rdr Rb bs p false * (own 41 1 (.slice ao R.length co) R.length (R.map Prod.fst) * (rowsP (nilRow (gR + 1) :: R) * F))) by ac_rfl)) (fun w' h => rowsP_reads (nilRow (gR + 1) :: R) _ h.right _ HMEM.out))
            clear h5 HE HCR
            go_wp2_with fail
            refine HC1.out.mono ?_
            rintro e w6 ⟨v6, rfl, h6⟩
            obtain ⟨a6, c6, rfl⟩ := h6.reads.sub
            have H6 := Lib.hid (St.own_nil 41 1 (rowsP_nil h6.right.right.right.right.right)); clear h6 HC1
            simp only [erN]
            go_wp2_with fail
            go_ret2
            rw [← HRS.out]
            exact ⟨_, [], rfl, rfl, H6.out⟩
          | inl px =>
            simp only at hall
            obtain ⟨hpl, hpb⟩ := hb1 px rfl
            have hcl := chg_len px
            have HRS := Lib.hid (⟨hall, chg_inc px, fun x hx => by rw [← hpl]; exact chg_lt px x hx, by omega⟩ : _ ∧ (chg px).Pairwise (· < ·) ∧ (∀ x ∈ chg px, x < width) ∧ (chg px).length ≤ 32768)
            clear hall hr hb1 hb2 hpl hpb hcl
            go_wp2_with fail
            refine HE.out.mono ?_
            rintro e w5 ⟨rfl, h5⟩
            have HC1 := Lib.hid (HCR.out _ _ (h5.perm (show _ = codes C * (rdr Rb bs p false * (own 41 1 (.slice ao R.length co) R.length (R.map Prod.fst) * (rowsP (nilRow (gR + 1) :: R) * F))) by ac_rfl)) (fun w' h => rowsP_reads (nilRow (gR + 1) :: R) _ h.right _ HMEM.out))
            clear h5 HE HCR
            go_wp2_with fail
            refine HC1.out.mono ?_
            rintro e w6 ⟨v6, rfl, h6⟩
            obtain ⟨a6, c6, rfl⟩ := h6.reads.sub
            have h6 : St w0 w6 (own 3 1 (.slice a6 (chg px).length c6) (chg px).length ((chg px).map nv) * (codes C * (rdr Rb bs q false * (own 41 1 (.slice ao R.length co) R.length (R.map Prod.fst) * (rowsP (nilRow (gR + 1) :: R) * F))))) := h6
            have h6 := h6.perm (show _ = own 41 1 (.slice ao R.length co) R.length (R.map Prod.fst) * (own 3 1 (.slice a6 (chg px).length c6) (chg px).length ((chg px).map nv) * (rowsP (nilRow (gR + 1) :: R) * (codes C * (rdr Rb bs q false * F)))) by ac_rfl)
            have H6 := Lib.hid h6; clear h6 HC1
            simp only [erN, okL]
            obtain ⟨l5, hl5⟩ : ∃ l5, l5 = (chg px).length := ⟨_, rfl⟩
            rw [← hl5] at H6 ⊢
            have HL5 := Lib.hid hl5
            clear hl5
            go_wp2_with (at_builtin; apply stop)
            refine on (wpList_append_sep T rfl _ _ rfl rfl (H6.out.drop_alloc (.cells #[.slice a6 l5 c6] 41)) rfl (reads_row1 w6 (.slice a6 l5 c6)) (by intro u hu; rw [List.mem_singleton.1 hu]; rfl) (by unfold maxLen; omega) (by omega) ?_)
            intro v7 w7 h7 _
            have h7 : St w0 w7 (own 41 1 v7 (R ++ [(Value.slice a6 l5 c6, chg px)]).length ((R ++ [(Value.slice a6 l5 c6, chg px)]).map Prod.fst) * (rowsP (nilRow (gR + 1) :: (R ++ [(Value.slice a6 l5 c6, chg px)])) * (codes C * (rdr Rb bs q false * F)))) := by
              rw [← List.cons_append, rowsP_snoc, List.length_append, List.map_append, ← HL5.out]
              exact h7.perm (by simp only [List.length_singleton, List.map_cons, List.map_nil]; ac_rfl)
            have hsn : (R ++ [(Value.slice a6 l5 c6, chg px)]).length = R.length + 1 := by simp
            have hsm : (R ++ [(Value.slice a6 l5 c6, chg px)]).map Prod.snd = (acc ++ [px]).map chg := by rw [List.map_append, List.map_append, HRM.out]; rfl
            have hmm : (Value.slice a6 l5 c6, chg px) ∈ nilRow (gR + 1) :: (R ++ [(Value.slice a6 l5 c6, chg px)]) := by simp
            generalize R ++ [(Value.slice a6 l5 c6, chg px)] = R2 at *
            obtain ⟨aN, cN, rfl⟩ := h7.reads.sub
            have HH := Lib.hid (⟨hsn, hsm, hmm⟩ : _ ∧ _ ∧ _)
            have H7 := Lib.hid h7
            clear h7 hsn hsm hmm H6
            go_wp2_with fail
            obtain ⟨g1, g2, g3⟩ := HH.out
            have := HRK.out
            exact ⟨⟨k + 1, q, acc ++ [px], R2, aN, cN, (.slice a6 l5 c6, chg px), a6, c6, by omega, by go_num, rfl, by rw [← HL5.out], by rw [← HL5.out], g3, HRS.out.2, hq, by omega, g2, by rw [HM.out.2]; exact HRS.out.1, H7.out⟩, by simp [intOf]; omega⟩
    · obtain rfl : k = N := by omega
      rw [Nat.sub_self, dec4F] at hall
      have HRS := Lib.hid hall; have HRM := Lib.hid hRm
      have HST := Lib.hid (hst.perm (show _ = own 3 1 (.slice (some ⟨gR + 1, 0, none⟩) 0 0) 0 [] * (codes C * (rdr Rb bs p false * (own 41 1 (.slice ao R.length co) R.length (R.map Prod.fst) * (rowsP R * F)))) by
        rw [show rowsP (nilRow (gR + 1) :: R) = own 3 1 (.slice (some ⟨gR + 1, 0, none⟩) 0 0) 0 [] * rowsP R from rfl]; ac_rfl)).right.right.right
      clear hst hall hRm hRk htop hmem
      go_wp2_with fail
      go_ret2
      rw [← HRS.out]
      exact ⟨_, R, rfl, HRM.out, HST⟩
theorem decode16_all {w0 w : World} {F : SProp} (h : St w0 w F) (htab : Tab w0 F) {bs : List UInt8} {vb : Value} (hb : Stb w0 F (fun w => Reads w 1 vb bs.length (bs.map bv))) (hl : bs.length ≤ 100000000) {width n : Int} (hw : width ≤ 32768) (hn : n ≤ 1000) :
    Calls Tryd.prog 14 #[vb, .int .i64 width, .int .i64 n] w fun e w' => ∃ (v : Value) (R : List (Value × List Nat)),
      e = .returned (.tuple #[v, .int .i64 (erD (decG4 (bitsL false bs) width n) : Nat)]) ∧ R.map Prod.snd = (okD (decG4 (bitsL false bs) width n)).map chg ∧ St w0 w' (own 41 1 v R.length (R.map Prod.fst) * (rowsP R * F)) := by
  by_cases hc : 1 ≤ width ∧ width ≤ 32768 ∧ 0 ≤ n
  · rw [decG4, if_pos hc]
    obtain ⟨W, rfl⟩ : ∃ W : Nat, width = W := ⟨width.toNat, by omega⟩
    obtain ⟨N, rfl⟩ : ∃ N : Nat, n = N := ⟨n.toNat, by omega⟩
    exact decode16_any h htab hb hl (by omega) (by omega) (by omega)
  · rw [decG4, if_neg hc]
    refine (decode16_bad w vb width n hw (by omega)).mono ?_
    rintro e w2 ⟨rfl, rfl⟩
    exact ⟨_, [], rfl, rfl, St.own_nil 41 1 (rowsP_nil h)⟩
end Go.Proofs.YtdjoigobmmaaiaaDoor
