/-
  Layer 15 (gthree): so many rows of a page.
-/
import Derived.Test.YtdjoigobmmaaiaaDoorG3M
import Derived.Test.YtdjoigobmmaaiaaDoorG4
namespace Go.Proofs.YtdjoigobmmaaiaaDoor
open Go.RowKit Go.Mz
set_option linter.unusedVariables false
set_option linter.unusedSimpArgs false
set_option maxRecDepth 100000

/-- What comes of passing over noughts. -/
def SkipOut (w0 : World) (F : SProp) (Rb : Nat) (bs : List UInt8) (r : Nat ⊕ Nat) (e : Ending) (w' : World) : Prop := e = .returned (.int .i64 (erA r : Nat)) ∧ ∃ q, (∀ q', r = .inl q' → q' = q) ∧ St w0 w' (rdr Rb bs q false * F)
set_option maxHeartbeats 1000000 in
theorem skip_any {w0 w : World} {F : SProp} {Rb : Nat} {bs : List UInt8} {p : Nat} (h : St w0 w (rdr Rb bs p false * F)) (hp : p ≤ 8 * bs.length) (hl : bs.length ≤ 100000000) :
    Calls Tryd.prog 44 #[.pointer (some ⟨Rb, 0, none⟩)] w (SkipOut w0 F Rb bs (skip3 (bitsL false bs) p)) := by
  have H := Lib.hid h; clear h
  have hbl : (bitsL false bs).length = 8 * bs.length := length_bitsL _ _
  obtain ⟨res, hres⟩ : ∃ res, skip3 (bitsL false bs) p = res := ⟨_, rfl⟩
  rw [hres]
  rw [skip3, hbl] at hres
  have HRES := Lib.hid hres; clear hres hbl
  go_enter Tryd.func44, Tryd.ntmps44
  go_wp2_with fail
  go_loopg [3] (8 * bs.length + 1 - p) (fun g vn wr => ∃ q n : Nat, vn = .int .i64 n ∧ n ≤ q ∧ q ≤ 8 * bs.length ∧ 8 * bs.length + 1 ≤ g + q ∧ skipF (bitsL false bs) g q n = res ∧ St w0 wr (rdr Rb bs q false * F))
  case atStart => exact ⟨p, 0, rfl, by omega, hp, by omega, HRES.out, H.out⟩
  case round =>
    clear H HRES
    obtain ⟨q, n, rfl, hnq, hq, hg, hres, hst⟩ := hrel
    obtain ⟨g, rfl⟩ : ∃ g, gk = g + 1 := ⟨gk - 1, by omega⟩
    rw [skipF] at hres
    by_cases hin : q < 8 * bs.length
    · obtain ⟨b1, b2, b3⟩ := bit_at hin
      rw [b1] at hres
      simp only at hres
      have C := read_ok hst (j := 1) 1 rfl (by decide) (by omega)
      rw [b3] at C
      have HC := Lib.hid C
      clear C hst b1 b3
      generalize bitV bs false q = bt at *
      have hbt : bt = 0 ∨ bt = 1 := by omega
      rcases hbt with rfl | rfl
      · rw [if_pos rfl] at hres
        have HRS := Lib.hid hres
        clear hres
        go_wp2_with fail
        refine HC.out.mono ?_
        rintro e w2 ⟨rfl, h2⟩
        have H2 := Lib.hid h2; clear h2 HC
        go_wp2_with fail
        go_roundg g
        case measure => omega
        case rel => exact ⟨q + 1, n + 1, by go_num, by omega, by omega, by omega, HRS.out, H2.out⟩
      · rw [if_neg (by decide)] at hres
        by_cases hn : n < 11
        · rw [if_pos hn] at hres
          subst hres
          have hni : (n : Int) < 11 := by omega
          go_wp2_with fail
          refine HC.out.mono ?_
          rintro e w2 ⟨rfl, h2⟩
          have H2 := Lib.hid h2; clear h2 HC
          go_wp2_with fail
          go_ret
          exact ⟨rfl, q + 1, (fun q' h => by cases h), H2.out⟩
        · rw [if_neg hn] at hres
          subst hres
          have hni : ¬ (n : Int) < 11 := by omega
          go_wp2_with fail
          refine HC.out.mono ?_
          rintro e w2 ⟨rfl, h2⟩
          have H2 := Lib.hid h2; clear h2 HC
          go_wp2_with fail
          go_ret
          exact ⟨rfl, q + 1, (fun q' h => by cases h; rfl), H2.out⟩
    · rw [bit_out (by omega)] at hres
      simp only at hres
      subst hres
      have HC := Lib.hid (read_cut_st hst (j := 1) 1 rfl (by decide) (by omega))
      clear hst
      go_wp2_with fail
      refine HC.out.mono ?_
      rintro e w2 ⟨rfl, h2⟩
      have H2 := Lib.hid h2; clear h2 HC
      go_wp2_with fail
      go_ret
      exact ⟨rfl, q, (fun q' h => by cases h), H2.out⟩

theorem decode15_bad (w : World) (vb : Value) (width n : Int) (two : Bool) (hw3 : width ≤ 32768) (h : width < 1 ∨ n < 0) :
    Calls Tryd.prog 23 #[vb, .int .i64 width, .int .i64 n, .bool two] w fun e w' => e = .returned (.tuple #[.slice none 0 0, .int .i64 1]) ∧ w' = w := by
  by_cases hw : width < 1
  · have hd : decide (width < 1) = true := decide_eq_true hw
    clear h
    go_enter Tryd.func23, Tryd.ntmps23
    go_wp2_with fail
    go_ret2
    exact ⟨rfl, rfl⟩
  · have hn : n < 0 := by omega
    have hd : decide (width < 1) = false := decide_eq_false hw
    have hd2 : decide (32768 < width) = false := decide_eq_false (by omega)
    have hd3 : decide (n < 0) = true := decide_eq_true hn
    have hw4 : ¬ 32768 < width := by omega
    clear h
    go_enter Tryd.func23, Tryd.ntmps23
    go_wp2_with fail
    go_ret2
    exact ⟨rfl, rfl⟩

set_option maxHeartbeats 40000000 in
theorem decode15_any {w0 w : World} {F : SProp} (h : St w0 w F) (htab : Tab w0 F) {bs : List UInt8} {vb : Value} (hb : Stb w0 F (fun w => Reads w 1 vb bs.length (bs.map bv))) (hl : bs.length ≤ 100000000) {width N : Nat} (two : Bool) (h1 : 1 ≤ width) (hw : width ≤ 32768) (hN : N ≤ 1000) :
    Calls Tryd.prog 23 #[vb, .int .i64 (width : Int), .int .i64 (N : Int), .bool two] w fun e w' => ∃ (v : Value) (R : List (Value × List Nat)),
      e = .returned (.tuple #[v, .int .i64 (erD (dec3F (bitsL false bs) width two N 0 [] []) : Nat)]) ∧ R.map Prod.snd = (okD (dec3F (bitsL false bs) width two N 0 [] [])).map chg ∧ St w0 w' (own 41 1 v R.length (R.map Prod.fst) * (rowsP R * F)) := by
  have HB := Lib.hid hb; have HT := Lib.hid htab
  have hbl : (bitsL false bs).length = 8 * bs.length := length_bitsL _ _
  have HBL := Lib.hid hbl
  obtain ⟨res, hres⟩ : ∃ res, dec3F (bitsL false bs) width two N 0 [] [] = res := ⟨_, rfl⟩
  rw [hres]
  have HRES := Lib.hid hres; clear hres hbl htab
  obtain ⟨a0, c0, rfl⟩ := (hb w h).sub
  have H := Lib.hid h; clear h hb
  have T := elemRows
  have hw1 : ¬ (width : Int) < 1 := by omega
  have hw2 : ¬ (32768 : Int) < width := by omega
  have hw1d : decide ((width : Int) < 1) = false := decide_eq_false hw1
  have hw2d : decide ((32768 : Int) < width) = false := decide_eq_false hw2
  have hN0 : ¬ (N : Int) < 0 := by omega
  have hN0d : decide ((N : Int) < 0) = false := decide_eq_false hN0
  go_enter Tryd.func23, Tryd.ntmps23
  go_wp2_with fail
  refine (newReader_any (low := false) H.out HB.out (by omega)).mono ?_
  rintro e w3 ⟨Rb, rfl, h3⟩
  have H3 := Lib.hid h3; clear h3 H
  go_wp2_with fail
  refine (newCodes_any H3.out (fun w h => HT.out w h.right)).mono ?_
  rintro e w4 ⟨C, rfl, h4⟩
  have h5 := h4.lit #[] 41 0 rfl (by decide)
  have h6 := h5.lit #[] 3 0 rfl (by decide)
  obtain ⟨gR, hgR⟩ : ∃ gR, gR = w4.heap.size := ⟨_, rfl⟩
  obtain ⟨gA, hgA⟩ : ∃ gA, gA = (w4.alloc (.cells #[] 41)).heap.size := ⟨_, rfl⟩
  rw [← hgR, ← hgA] at h6
  have hgA2 : gA = gR + 1 := by rw [hgA, hgR]; simp
  have h7 := h6.perm (show _ = own 41 1 (.slice (some ⟨gR, 0, none⟩) 0 0) 0 [] * (rowsP [nilRow gA] * (codes C * (rdr Rb bs 0 false * F))) by
    rw [show rowsP [nilRow gA] = own 3 1 (.slice (some ⟨gA, 0, none⟩) 0 0) 0 [] * emp from rfl, star_assoc, emp_star]
    show own 3 1 (.slice (some ⟨gA, 0, none⟩) 0 0) 0 [] * (own 41 1 (.slice (some ⟨gR, 0, none⟩) 0 0) 0 [] * _) = _
    ac_rfl)
  subst hgA2
  have H7 := Lib.hid h7; clear h4 h5 h6 h7 H3 hgA
  clear hw1d hw2d hN0d
  go_wp2_with fail
  rw [← hgR]
  clear hgR
  go_loopw [12, 13, 36] (fun vr va vi wr => ∃ (k p : Nat) (acc : List (List Nat)) (R : List (Value × List Nat)) (ao : Option Addr) (co : Nat) (xa : Value × List Nat) (aa : Option Addr) (ca : Nat), k ≤ N ∧ vi = .int .i64 k ∧ vr = .slice ao R.length co ∧ va = .slice aa xa.2.length ca ∧ xa.1 = .slice aa xa.2.length ca ∧ xa ∈ nilRow (gR + 1) :: R ∧ (xa.2.Pairwise (· < ·) ∧ (∀ x ∈ xa.2, x < width) ∧ xa.2.length ≤ 32768) ∧ p ≤ 8 * bs.length ∧ R.length = k ∧ R.map Prod.snd = acc.map chg ∧ dec3F (bitsL false bs) width two (N - k) p xa.2 acc = res ∧
    St w0 wr (own 41 1 (.slice ao R.length co) R.length (R.map Prod.fst) * (rowsP (nilRow (gR + 1) :: R) * (codes C * (rdr Rb bs p false * F))))) (fun _ _ vi _ => N - (intOf vi).toNat)
  case atStart => exact ⟨0, 0, [], [], some ⟨gR, 0, none⟩, 0, nilRow (gR + 1), some ⟨gR + 1, 0, none⟩, 0, by omega, rfl, rfl, rfl, rfl, by simp, ⟨List.Pairwise.nil, (fun x hx => by cases hx), by simp [nilRow]⟩, by omega, rfl, rfl, HRES.out, H7.out⟩
  case round =>
    clear H7 HRES
    obtain ⟨k, p, acc, R, ao, co, ⟨xv, top⟩, aa, ca, hk, rfl, rfl, rfl, hxa, hmem, htop, hp, hRk, hRm, hall, hst⟩ := hrel
    simp only at hxa htop hall
    subst hxa
    by_cases hkn : k < N
    · have hkl : (k : Int) < N := by omega
      obtain ⟨m, hm⟩ : ∃ m, N - k = m + 1 := ⟨N - k - 1, by omega⟩
      have hm2 : N - (k + 1) = m := by omega
      rw [hm, dec3F] at hall
      have hsk1 := skip_any (hst.perm (show _ = rdr Rb bs p false * (codes C * (own 41 1 (.slice ao R.length co) R.length (R.map Prod.fst) * (rowsP (nilRow (gR + 1) :: R) * F))) by ac_rfl)) hp hl
      have hskb := skipF_bd (t := bitsL false bs) ((bitsL false bs).length + 1 - p) p 0
      rw [← skip3] at hskb
      have hRl : R.length ≤ 1000 := by omega
      have HRK := Lib.hid hRk
      have HRM := Lib.hid hRm
      have HM := Lib.hid (⟨hm, hm2⟩ : _ ∧ _)
      have HMEM := Lib.hid hmem
      clear hst hRk hRm hm hm2 hmem
      cases hsk : skip3 (bitsL false bs) p with
      | inr er =>
        rw [hsk] at hall hsk1 hskb
        have her := hskb.2 er rfl
        have hx0 : ¬ (er : Int) = 0 := by omega
        have HRS := Lib.hid hall
        have HSK := Lib.hid hsk1
        clear hall hsk1 hskb htop hsk
        go_wp2_with fail
        refine HSK.out.mono ?_
        rintro e w5 ⟨rfl, q5, _, h5⟩
        have H5 := Lib.hid (St.own_nil 41 1 (rowsP_nil h5.right.right.right.right)); clear h5 HSK
        simp only [erA]
        go_wp2_with fail
        go_ret2
        rw [← HRS.out]
        exact ⟨_, [], rfl, rfl, H5.out⟩
      | inl p1 =>
        rw [hsk] at hall hsk1 hskb
        simp only at hall
        have hp1 := (hskb.1 p1 rfl).2
        rw [HBL.out] at hp1
        have HSK := Lib.hid hsk1
        clear hsk1 hsk
        cases two with
        | false =>
          have hfl : flagF (bitsL false bs) false p1 = .inl (p1, true) := rfl
          rw [hfl] at hall
          simp only at hall
          have hp2 : p1 ≤ 8 * bs.length := hp1
          clear hfl
          cases hr : row3 (bitsL false bs) width top true p1 with
          | mk q y =>
            have hbd := row3_bd (t := bitsL false bs) (width := width) (s := true) (p := p1) htop.1 htop.2.1 h1 (by rw [HBL.out]; exact hp2)
            rw [hr] at hall hbd
            rw [HBL.out] at hbd
            obtain ⟨hq, hb1, hb2⟩ := hbd
            simp only at hq
            have HCR := Lib.hid (fun (w' : World) (h : St w0 w' (rdr Rb bs p1 false * (codes C * (own 41 1 (.slice ao R.length co) R.length (R.map Prod.fst) * (rowsP (nilRow (gR + 1) :: R) * F))))) => by
              have C := readRow_any (h.perm (show _ = codes C * (rdr Rb bs p1 false * (own 41 1 (.slice ao R.length co) R.length (R.map Prod.fst) * (rowsP (nilRow (gR + 1) :: R) * F))) by ac_rfl)) h1 hw (by omega) hp2
              have e : row3 (bitsL false bs) width top true p1 = readRow (bitsL false bs) width p1 := rfl
              rw [← e, hr] at C
              exact C)
            cases y with
            | inr er =>
              simp only at hall
              have her := hb2 er rfl
              have hx0 : ¬ (er : Int) = 0 := by omega
              have HRS := Lib.hid hall
              clear hall hr hb1 hb2 hq htop hskb
              go_wp2_with fail
              refine HSK.out.mono ?_
              rintro e w5 ⟨rfl, q5, hq5, h5⟩
              obtain rfl := hq5 _ rfl

              have HC1 := Lib.hid (HCR.out _ h5)
              clear h5 HCR
              simp only [erA]
              go_wp2_with fail
              refine HC1.out.mono ?_
              rintro e w6 ⟨v6, rfl, h6⟩
              obtain ⟨a6, c6, rfl⟩ := h6.reads.sub
              have H6 := Lib.hid (St.own_nil 41 1 (rowsP_nil h6.right.right.right.right.right)); clear h6 HC1
              simp only [erN]
              go_wp2_with fail
              go_ret2
              rw [← HRS.out]
              exact ⟨_, [], rfl, rfl, H6.out⟩
            | inl px =>
              simp only at hall
              obtain ⟨hpl, hpb⟩ := hb1 px rfl
              have hcl := chg_len px
              have HRS := Lib.hid (⟨hall, chg_inc px, fun x hx => by rw [← hpl]; exact chg_lt px x hx, by omega⟩ : _ ∧ (chg px).Pairwise (· < ·) ∧ (∀ x ∈ chg px, x < width) ∧ (chg px).length ≤ 32768)
              clear hall hr hb1 hb2 hpl hpb hcl htop hskb
              go_wp2_with fail
              refine HSK.out.mono ?_
              rintro e w5 ⟨rfl, q5, hq5, h5⟩
              obtain rfl := hq5 _ rfl

              have HC1 := Lib.hid (HCR.out _ h5)
              clear h5 HCR
              simp only [erA]
              go_wp2_with fail
              refine HC1.out.mono ?_
              rintro e w6 ⟨v6, rfl, h6⟩
              obtain ⟨a6, c6, rfl⟩ := h6.reads.sub
              have h6 : St w0 w6 (own 3 1 (.slice a6 (chg px).length c6) (chg px).length ((chg px).map nv) * (codes C * (rdr Rb bs q false * (own 41 1 (.slice ao R.length co) R.length (R.map Prod.fst) * (rowsP (nilRow (gR + 1) :: R) * F))))) := h6
              have h6 := h6.perm (show _ = own 41 1 (.slice ao R.length co) R.length (R.map Prod.fst) * (own 3 1 (.slice a6 (chg px).length c6) (chg px).length ((chg px).map nv) * (rowsP (nilRow (gR + 1) :: R) * (codes C * (rdr Rb bs q false * F)))) by ac_rfl)
              have H6 := Lib.hid h6; clear h6 HC1
              simp only [erN, okL]
              obtain ⟨l5, hl5⟩ : ∃ l5, l5 = (chg px).length := ⟨_, rfl⟩
              rw [← hl5] at H6 ⊢
              have HL5 := Lib.hid hl5
              clear hl5
              go_wp2_with (at_builtin; apply stop)
              refine on (wpList_append_sep T rfl _ _ rfl rfl (H6.out.drop_alloc (.cells #[.slice a6 l5 c6] 41)) rfl (reads_row1 w6 (.slice a6 l5 c6)) (by intro u hu; rw [List.mem_singleton.1 hu]; rfl) (by unfold maxLen; omega) (by omega) ?_)
              intro v7 w7 h7 _
              have h7 : St w0 w7 (own 41 1 v7 (R ++ [(Value.slice a6 l5 c6, chg px)]).length ((R ++ [(Value.slice a6 l5 c6, chg px)]).map Prod.fst) * (rowsP (nilRow (gR + 1) :: (R ++ [(Value.slice a6 l5 c6, chg px)])) * (codes C * (rdr Rb bs q false * F)))) := by
                rw [← List.cons_append, rowsP_snoc, List.length_append, List.map_append, ← HL5.out]
                exact h7.perm (by simp only [List.length_singleton, List.map_cons, List.map_nil]; ac_rfl)
              have hsn : (R ++ [(Value.slice a6 l5 c6, chg px)]).length = R.length + 1 := by simp
              have hsm : (R ++ [(Value.slice a6 l5 c6, chg px)]).map Prod.snd = (acc ++ [px]).map chg := by rw [List.map_append, List.map_append, HRM.out]; rfl
              have hmm : (Value.slice a6 l5 c6, chg px) ∈ nilRow (gR + 1) :: (R ++ [(Value.slice a6 l5 c6, chg px)]) := by simp
              generalize R ++ [(Value.slice a6 l5 c6, chg px)] = R2 at *
              obtain ⟨aN, cN, rfl⟩ := h7.reads.sub
              have HH := Lib.hid (⟨hsn, hsm, hmm⟩ : _ ∧ _ ∧ _)
              have H7 := Lib.hid h7
              clear h7 hsn hsm hmm H6
              go_wp2_with fail
              obtain ⟨g1, g2, g3⟩ := HH.out
              have := HRK.out
              exact ⟨⟨k + 1, q, acc ++ [px], R2, aN, cN, (.slice a6 l5 c6, chg px), a6, c6, by omega, by go_num, rfl, by rw [← HL5.out], by rw [← HL5.out], g3, HRS.out.2, hq, by omega, g2, by rw [HM.out.2]; exact HRS.out.1, H7.out⟩, by simp [intOf]; omega⟩
        | true =>
          by_cases hin : p1 < 8 * bs.length
          · obtain ⟨b1, b2, b3⟩ := bit_at hin
            have hp2 : p1 + 1 ≤ 8 * bs.length := by omega
            have hfl : flagF (bitsL false bs) true p1 = .inl (p1 + 1, decide (bitV bs false p1 = 1)) := by rw [flagF, if_pos rfl, b1]
            rw [hfl] at hall
            simp only at hall
            have HRD := Lib.hid (fun (w' : World) (h : St w0 w' (rdr Rb bs p1 false * (codes C * (own 41 1 (.slice ao R.length co) R.length (R.map Prod.fst) * (rowsP (nilRow (gR + 1) :: R) * F))))) => by
              have C := read_ok h (j := 1) 1 rfl (by decide) (by omega)
              rw [b3] at C
              exact C)
            clear hfl b1 b3
            generalize bitV bs false p1 = bt at *
            have hbt : bt = 0 ∨ bt = 1 := by omega
            rcases hbt with rfl | rfl
            · have hd : decide ((0 : Nat) = 1) = false := rfl
              rw [hd] at hall
              clear hd
              cases hr : row3 (bitsL false bs) width top false (p1 + 1) with
              | mk q y =>
                have hbd := row3_bd (t := bitsL false bs) (width := width) (s := false) (p := (p1 + 1)) htop.1 htop.2.1 h1 (by rw [HBL.out]; exact hp2)
                rw [hr] at hall hbd
                rw [HBL.out] at hbd
                obtain ⟨hq, hb1, hb2⟩ := hbd
                simp only at hq
                have HCR := Lib.hid (fun (w' : World) (h : St w0 w' (rdr Rb bs (p1 + 1) false * (codes C * (own 41 1 (.slice ao R.length co) R.length (R.map Prod.fst) * (rowsP (nilRow (gR + 1) :: R) * F))))) => by
                  have C := readAgainst_any (top := top) (vt := .slice aa top.length ca) (h.perm (show _ = codes C * (rdr Rb bs (p1 + 1) false * (own 41 1 (.slice ao R.length co) R.length (R.map Prod.fst) * (rowsP (nilRow (gR + 1) :: R) * F))) by ac_rfl)) (fun w' h => rowsP_reads (nilRow (gR + 1) :: R) _ h.right _ HMEM.out) htop.1 htop.2.1 h1 hw (by have := htop.2.2; omega) (by omega) hp2
                  have e : row3 (bitsL false bs) width top false (p1 + 1) = readAg (bitsL false bs) top width (p1 + 1) := rfl
                  rw [← e, hr] at C
                  exact C)
                cases y with
                | inr er =>
                  simp only at hall
                  have her := hb2 er rfl
                  have hx0 : ¬ (er : Int) = 0 := by omega
                  have HRS := Lib.hid hall
                  clear hall hr hb1 hb2 hq htop hskb
                  go_wp2_with fail
                  refine HSK.out.mono ?_
                  rintro e w5 ⟨rfl, q5, hq5, h5⟩
                  obtain rfl := hq5 _ rfl
                  have HR1 := Lib.hid (HRD.out _ h5)
                  clear h5
                  simp only [erA]
                  go_wp2_with fail
                  refine HR1.out.mono ?_
                  rintro e w5b ⟨rfl, h5⟩
                  clear HR1
                  have HC1 := Lib.hid (HCR.out _ h5)
                  clear h5 HCR
                  simp only [erA]
                  go_wp2_with fail
                  refine HC1.out.mono ?_
                  rintro e w6 ⟨v6, rfl, h6⟩
                  obtain ⟨a6, c6, rfl⟩ := h6.reads.sub
                  have H6 := Lib.hid (St.own_nil 41 1 (rowsP_nil h6.right.right.right.right.right)); clear h6 HC1
                  simp only [erN]
                  go_wp2_with fail
                  go_ret2
                  rw [← HRS.out]
                  exact ⟨_, [], rfl, rfl, H6.out⟩
                | inl px =>
                  simp only at hall
                  obtain ⟨hpl, hpb⟩ := hb1 px rfl
                  have hcl := chg_len px
                  have HRS := Lib.hid (⟨hall, chg_inc px, fun x hx => by rw [← hpl]; exact chg_lt px x hx, by omega⟩ : _ ∧ (chg px).Pairwise (· < ·) ∧ (∀ x ∈ chg px, x < width) ∧ (chg px).length ≤ 32768)
                  clear hall hr hb1 hb2 hpl hpb hcl htop hskb
                  go_wp2_with fail
                  refine HSK.out.mono ?_
                  rintro e w5 ⟨rfl, q5, hq5, h5⟩
                  obtain rfl := hq5 _ rfl
                  have HR1 := Lib.hid (HRD.out _ h5)
                  clear h5
                  simp only [erA]
                  go_wp2_with fail
                  refine HR1.out.mono ?_
                  rintro e w5b ⟨rfl, h5⟩
                  clear HR1
                  have HC1 := Lib.hid (HCR.out _ h5)
                  clear h5 HCR
                  simp only [erA]
                  go_wp2_with fail
                  refine HC1.out.mono ?_
                  rintro e w6 ⟨v6, rfl, h6⟩
                  obtain ⟨a6, c6, rfl⟩ := h6.reads.sub
                  have h6 : St w0 w6 (own 3 1 (.slice a6 (chg px).length c6) (chg px).length ((chg px).map nv) * (codes C * (rdr Rb bs q false * (own 41 1 (.slice ao R.length co) R.length (R.map Prod.fst) * (rowsP (nilRow (gR + 1) :: R) * F))))) := h6
                  have h6 := h6.perm (show _ = own 41 1 (.slice ao R.length co) R.length (R.map Prod.fst) * (own 3 1 (.slice a6 (chg px).length c6) (chg px).length ((chg px).map nv) * (rowsP (nilRow (gR + 1) :: R) * (codes C * (rdr Rb bs q false * F)))) by ac_rfl)
                  have H6 := Lib.hid h6; clear h6 HC1
                  simp only [erN, okL]
                  obtain ⟨l5, hl5⟩ : ∃ l5, l5 = (chg px).length := ⟨_, rfl⟩
                  rw [← hl5] at H6 ⊢
                  have HL5 := Lib.hid hl5
                  clear hl5
                  go_wp2_with (at_builtin; apply stop)
                  refine on (wpList_append_sep T rfl _ _ rfl rfl (H6.out.drop_alloc (.cells #[.slice a6 l5 c6] 41)) rfl (reads_row1 w6 (.slice a6 l5 c6)) (by intro u hu; rw [List.mem_singleton.1 hu]; rfl) (by unfold maxLen; omega) (by omega) ?_)
                  intro v7 w7 h7 _
                  have h7 : St w0 w7 (own 41 1 v7 (R ++ [(Value.slice a6 l5 c6, chg px)]).length ((R ++ [(Value.slice a6 l5 c6, chg px)]).map Prod.fst) * (rowsP (nilRow (gR + 1) :: (R ++ [(Value.slice a6 l5 c6, chg px)])) * (codes C * (rdr Rb bs q false * F)))) := by
                    rw [← List.cons_append, rowsP_snoc, List.length_append, List.map_append, ← HL5.out]
                    exact h7.perm (by simp only [List.length_singleton, List.map_cons, List.map_nil]; ac_rfl)
                  have hsn : (R ++ [(Value.slice a6 l5 c6, chg px)]).length = R.length + 1 := by simp
                  have hsm : (R ++ [(Value.slice a6 l5 c6, chg px)]).map Prod.snd = (acc ++ [px]).map chg := by rw [List.map_append, List.map_append, HRM.out]; rfl
                  have hmm : (Value.slice a6 l5 c6, chg px) ∈ nilRow (gR + 1) :: (R ++ [(Value.slice a6 l5 c6, chg px)]) := by simp
                  generalize R ++ [(Value.slice a6 l5 c6, chg px)] = R2 at *
                  obtain ⟨aN, cN, rfl⟩ := h7.reads.sub
                  have HH := Lib.hid (⟨hsn, hsm, hmm⟩ : _ ∧ _ ∧ _)
                  have H7 := Lib.hid h7
                  clear h7 hsn hsm hmm H6
                  go_wp2_with fail
                  obtain ⟨g1, g2, g3⟩ := HH.out
                  have := HRK.out
                  exact ⟨⟨k + 1, q, acc ++ [px], R2, aN, cN, (.slice a6 l5 c6, chg px), a6, c6, by omega, by go_num, rfl, by rw [← HL5.out], by rw [← HL5.out], g3, HRS.out.2, hq, by omega, g2, by rw [HM.out.2]; exact HRS.out.1, H7.out⟩, by simp [intOf]; omega⟩
            · have hd : decide ((1 : Nat) = 1) = true := rfl
              rw [hd] at hall
              clear hd
              cases hr : row3 (bitsL false bs) width top true (p1 + 1) with
              | mk q y =>
                have hbd := row3_bd (t := bitsL false bs) (width := width) (s := true) (p := (p1 + 1)) htop.1 htop.2.1 h1 (by rw [HBL.out]; exact hp2)
                rw [hr] at hall hbd
                rw [HBL.out] at hbd
                obtain ⟨hq, hb1, hb2⟩ := hbd
                simp only at hq
                have HCR := Lib.hid (fun (w' : World) (h : St w0 w' (rdr Rb bs (p1 + 1) false * (codes C * (own 41 1 (.slice ao R.length co) R.length (R.map Prod.fst) * (rowsP (nilRow (gR + 1) :: R) * F))))) => by
                  have C := readRow_any (h.perm (show _ = codes C * (rdr Rb bs (p1 + 1) false * (own 41 1 (.slice ao R.length co) R.length (R.map Prod.fst) * (rowsP (nilRow (gR + 1) :: R) * F))) by ac_rfl)) h1 hw (by omega) hp2
                  have e : row3 (bitsL false bs) width top true (p1 + 1) = readRow (bitsL false bs) width (p1 + 1) := rfl
                  rw [← e, hr] at C
                  exact C)
                cases y with
                | inr er =>
                  simp only at hall
                  have her := hb2 er rfl
                  have hx0 : ¬ (er : Int) = 0 := by omega
                  have HRS := Lib.hid hall
                  clear hall hr hb1 hb2 hq htop hskb
                  go_wp2_with fail
                  refine HSK.out.mono ?_
                  rintro e w5 ⟨rfl, q5, hq5, h5⟩
                  obtain rfl := hq5 _ rfl
                  have HR1 := Lib.hid (HRD.out _ h5)
                  clear h5
                  simp only [erA]
                  go_wp2_with fail
                  refine HR1.out.mono ?_
                  rintro e w5b ⟨rfl, h5⟩
                  clear HR1
                  have HC1 := Lib.hid (HCR.out _ h5)
                  clear h5 HCR
                  simp only [erA]
                  go_wp2_with fail
                  refine HC1.out.mono ?_
                  rintro e w6 ⟨v6, rfl, h6⟩
                  obtain ⟨a6, c6, rfl⟩ := h6.reads.sub
                  have H6 := Lib.hid (St.own_nil 41 1 (rowsP_nil h6.right.right.right.right.right)); clear h6 HC1
                  simp only [erN]
                  go_wp2_with fail
                  go_ret2
                  rw [← HRS.out]
                  exact ⟨_, [], rfl, rfl, H6.out⟩
                | inl px =>
                  simp only at hall
                  obtain ⟨hpl, hpb⟩ := hb1 px rfl
                  have hcl := chg_len px
                  have HRS := Lib.hid (⟨hall, chg_inc px, fun x hx => by rw [← hpl]; exact chg_lt px x hx, by omega⟩ : _ ∧ (chg px).Pairwise (· < ·) ∧ (∀ x ∈ chg px, x < width) ∧ (chg px).length ≤ 32768)
                  clear hall hr hb1 hb2 hpl hpb hcl htop hskb
                  go_wp2_with fail
                  refine HSK.out.mono ?_
                  rintro e w5 ⟨rfl, q5, hq5, h5⟩
                  obtain rfl := hq5 _ rfl
                  have HR1 := Lib.hid (HRD.out _ h5)
                  clear h5
                  simp only [erA]
                  go_wp2_with fail
                  refine HR1.out.mono ?_
                  rintro e w5b ⟨rfl, h5⟩
                  clear HR1
                  have HC1 := Lib.hid (HCR.out _ h5)
                  clear h5 HCR
                  simp only [erA]
                  go_wp2_with fail
                  refine HC1.out.mono ?_
                  rintro e w6 ⟨v6, rfl, h6⟩
                  obtain ⟨a6, c6, rfl⟩ := h6.reads.sub
                  have h6 : St w0 w6 (own 3 1 (.slice a6 (chg px).length c6) (chg px).length ((chg px).map nv) * (codes C * (rdr Rb bs q false * (own 41 1 (.slice ao R.length co) R.length (R.map Prod.fst) * (rowsP (nilRow (gR + 1) :: R) * F))))) := h6
                  have h6 := h6.perm (show _ = own 41 1 (.slice ao R.length co) R.length (R.map Prod.fst) * (own 3 1 (.slice a6 (chg px).length c6) (chg px).length ((chg px).map nv) * (rowsP (nilRow (gR + 1) :: R) * (codes C * (rdr Rb bs q false * F)))) by ac_rfl)
                  have H6 := Lib.hid h6; clear h6 HC1
                  simp only [erN, okL]
                  obtain ⟨l5, hl5⟩ : ∃ l5, l5 = (chg px).length := ⟨_, rfl⟩
                  rw [← hl5] at H6 ⊢
                  have HL5 := Lib.hid hl5
                  clear hl5
                  go_wp2_with (at_builtin; apply stop)
                  refine on (wpList_append_sep T rfl _ _ rfl rfl (H6.out.drop_alloc (.cells #[.slice a6 l5 c6] 41)) rfl (reads_row1 w6 (.slice a6 l5 c6)) (by intro u hu; rw [List.mem_singleton.1 hu]; rfl) (by unfold maxLen; omega) (by omega) ?_)
                  intro v7 w7 h7 _
                  have h7 : St w0 w7 (own 41 1 v7 (R ++ [(Value.slice a6 l5 c6, chg px)]).length ((R ++ [(Value.slice a6 l5 c6, chg px)]).map Prod.fst) * (rowsP (nilRow (gR + 1) :: (R ++ [(Value.slice a6 l5 c6, chg px)])) * (codes C * (rdr Rb bs q false * F)))) := by
                    rw [← List.cons_append, rowsP_snoc, List.length_append, List.map_append, ← HL5.out]
                    exact h7.perm (by simp only [List.length_singleton, List.map_cons, List.map_nil]; ac_rfl)
                  have hsn : (R ++ [(Value.slice a6 l5 c6, chg px)]).length = R.length + 1 := by simp
                  have hsm : (R ++ [(Value.slice a6 l5 c6, chg px)]).map Prod.snd = (acc ++ [px]).map chg := by rw [List.map_append, List.map_append, HRM.out]; rfl
                  have hmm : (Value.slice a6 l5 c6, chg px) ∈ nilRow (gR + 1) :: (R ++ [(Value.slice a6 l5 c6, chg px)]) := by simp
                  generalize R ++ [(Value.slice a6 l5 c6, chg px)] = R2 at *
                  obtain ⟨aN, cN, rfl⟩ := h7.reads.sub
                  have HH := Lib.hid (⟨hsn, hsm, hmm⟩ : _ ∧ _ ∧ _)
                  have H7 := Lib.hid h7
                  clear h7 hsn hsm hmm H6
                  go_wp2_with fail
                  obtain ⟨g1, g2, g3⟩ := HH.out
                  have := HRK.out
                  exact ⟨⟨k + 1, q, acc ++ [px], R2, aN, cN, (.slice a6 l5 c6, chg px), a6, c6, by omega, by go_num, rfl, by rw [← HL5.out], by rw [← HL5.out], g3, HRS.out.2, hq, by omega, g2, by rw [HM.out.2]; exact HRS.out.1, H7.out⟩, by simp [intOf]; omega⟩
          · have hfl : flagF (bitsL false bs) true p1 = .inr 2 := by rw [flagF, if_pos rfl, bit_out (by omega)]
            rw [hfl] at hall
            have HRS := Lib.hid hall
            have HRD := Lib.hid (fun (w' : World) (h : St w0 w' (rdr Rb bs p1 false * (codes C * (own 41 1 (.slice ao R.length co) R.length (R.map Prod.fst) * (rowsP (nilRow (gR + 1) :: R) * F))))) => read_cut_st h (j := 1) 1 rfl (by decide) (by omega))
            clear hall hfl htop hskb
            go_wp2_with fail
            refine HSK.out.mono ?_
            rintro e w5 ⟨rfl, q5, hq5, h5⟩
            obtain rfl := hq5 _ rfl
            have HR1 := Lib.hid (HRD.out _ h5)
            clear h5
            simp only [erA]
            go_wp2_with fail
            refine HR1.out.mono ?_
            rintro e w6 ⟨rfl, h6⟩
            have H6 := Lib.hid (St.own_nil 41 1 (rowsP_nil h6.right.right.right.right)); clear h6 HR1
            go_wp2_with fail
            go_ret2
            rw [← HRS.out]
            exact ⟨_, [], rfl, rfl, H6.out⟩
    · obtain rfl : k = N := by omega
      rw [Nat.sub_self, dec3F] at hall
      have HRS := Lib.hid hall; have HRM := Lib.hid hRm
      have HST := Lib.hid (hst.perm (show _ = own 3 1 (.slice (some ⟨gR + 1, 0, none⟩) 0 0) 0 [] * (codes C * (rdr Rb bs p false * (own 41 1 (.slice ao R.length co) R.length (R.map Prod.fst) * (rowsP R * F)))) by
        rw [show rowsP (nilRow (gR + 1) :: R) = own 3 1 (.slice (some ⟨gR + 1, 0, none⟩) 0 0) 0 [] * rowsP R from rfl]; ac_rfl)).right.right.right
      clear hst hall hRm hRk htop hmem
      go_wp2_with fail
      go_ret2
      rw [← HRS.out]
      exact ⟨_, R, rfl, HRM.out, HST⟩
theorem decode15_all {w0 w : World} {F : SProp} (h : St w0 w F) (htab : Tab w0 F) {bs : List UInt8} {vb : Value} (hb : Stb w0 F (fun w => Reads w 1 vb bs.length (bs.map bv))) (hl : bs.length ≤ 100000000) {width n : Int} (two : Bool) (hw : width ≤ 32768) (hn : n ≤ 1000) :
    Calls Tryd.prog 23 #[vb, .int .i64 width, .int .i64 n, .bool two] w fun e w' => ∃ (v : Value) (R : List (Value × List Nat)),
      e = .returned (.tuple #[v, .int .i64 (erD (decG3 (bitsL false bs) two width n) : Nat)]) ∧ R.map Prod.snd = (okD (decG3 (bitsL false bs) two width n)).map chg ∧ St w0 w' (own 41 1 v R.length (R.map Prod.fst) * (rowsP R * F)) := by
  by_cases hc : 1 ≤ width ∧ width ≤ 32768 ∧ 0 ≤ n
  · rw [decG3, if_pos hc]
    obtain ⟨W, rfl⟩ : ∃ W : Nat, width = W := ⟨width.toNat, by omega⟩
    obtain ⟨N, rfl⟩ : ∃ N : Nat, n = N := ⟨n.toNat, by omega⟩
    exact decode15_any h htab hb hl two (by omega) (by omega) (by omega)
  · rw [decG3, if_neg hc]
    refine (decode15_bad w vb width n two hw (by omega)).mono ?_
    rintro e w2 ⟨rfl, rfl⟩
    exact ⟨_, [], rfl, rfl, St.own_nil 41 1 (rowsP_nil h)⟩
end Go.Proofs.YtdjoigobmmaaiaaDoor
