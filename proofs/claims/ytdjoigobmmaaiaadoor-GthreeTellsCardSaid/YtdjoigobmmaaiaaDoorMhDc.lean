/-
  Layer 14: the document's reader of a row by the row above it.
-/
import Derived.Test.YtdjoigobmmaaiaaDoorMhDa
import Derived.RegionTactic
import Derived.BigRegion
import Derived.Deep.QuietTactic
import Derived.BigQuiet
namespace Go.Proofs.YtdjoigobmmaaiaaDoor
open Go.RowKit Go.Mz
set_option linter.unusedVariables false
set_option linter.unusedSimpArgs false
set_option maxRecDepth 100000

set_option maxHeartbeats 4000000 in
theorem rReadAgainst_any {w0 w : World} {F : SProp} (h : St w0 w F) {t : List Nat} (ht : Bit t) (hl : t.length ≤ 1000000000) {p : Nat} (hp : p ≤ t.length) {s : List Nat} (hs : Bit s) (h1 : 1 ≤ s.length) (hw : s.length ≤ 32768) {tb sb : ByteArray} (htb : tb = ⟨(tx t).toArray⟩) (hsb : sb = ⟨(tx s).toArray⟩) :
    Calls Tryd.prog 39 #[.string tb, .int .i64 (p : Nat), .string sb] w fun e w' =>
      e = .returned (.tuple #[.string ⟨(tx (okP (readAg t (chg s) s.length p).2)).toArray⟩, .int .i64 ((readAg t (chg s) s.length p).1 : Nat), .int .i64 (erN (readAg t (chg s) s.length p).2 : Nat)]) ∧ St w0 w' F := by
  have hls : (tx s).length = s.length := by simp
  have HRN := Lib.hid (fun w n (hn : n ≤ 1000000) b => rrun_any w n hn b (j := (n : Int)) rfl)
  have HRD := Lib.hid (fun (w : World) (b : Bool) (q : Nat) (hq : q ≤ t.length) (most : Int) (vw : Value) (hr : Reads w 1 vw 104 ((faxW b).map txv)) => rread13_any b ht hl hq most hr htb)
  have HMD := Lib.hid (fun (w : World) (G : SProp) (h : St w0 w G) (q : Nat) (hq : q ≤ t.length) => rreadMode13_any h ht hl hq htb)
  have HC := Lib.hid (changes_any h hs (by omega) hsb)
  have HNT := Lib.hid (fun (at' : Int) (h : at' < s.length) (b : Bool) => nextF_bd (at' := at') (toB := b) (width := s.length) (chg s) true (chg_inc s) (chg_lt s) h)
  have hr1 := chg_len s
  have HCT := Lib.hid (fun (w : World) (v : Value) (hr : Reads w 1 v (chg s).length ((chg s).map nv)) (at' : Int) (b : Bool) => rnext_any at' b s.length hr (by omega))
  subst hsb
  obtain ⟨res, hres⟩ : ∃ res, readAg t (chg s) s.length p = res := ⟨_, rfl⟩
  rw [hres]
  rw [readAg] at hres
  have HRES := Lib.hid hres
  clear h hs hres htb hr1
  generalize chg s = top at *
  generalize s.length = width at *
  go_enter Tryd.func39, Tryd.ntmps39
  go_wp2_with fail
  refine HC.out.mono ?_
  rintro e w1 ⟨v1, rfl, h1'⟩
  obtain ⟨aT, cT, rfl⟩ := h1'.reads.sub
  have HW0 := Lib.hid (rwords13_any h1' false); clear h1' HC
  go_wp2_with fail
  refine HW0.out.mono ?_
  rintro e w2 ⟨v0, rfl, h2⟩
  obtain ⟨a0, c0, rfl⟩ := h2.reads.sub
  have HW1 := Lib.hid (rwords13_any h2 true); clear h2 HW0
  go_wp2_with fail
  refine HW1.out.mono ?_
  rintro e w3 ⟨v1, rfl, h3⟩
  obtain ⟨a1, c1, rfl⟩ := h3.reads.sub
  have h4 := h3.lit #[.slice a0 104 c0, .slice a1 104 c1] 24 2 rfl (by decide)
  clear h3 HW1
  obtain ⟨gW, hgW⟩ : ∃ gW, gW = w3.heap.size := ⟨_, rfl⟩
  rw [← hgW] at h4
  obtain ⟨G, hG⟩ : ∃ G, G = own 24 1 (.slice (some ⟨gW, 0, none⟩) 2 2) 2 [.slice a0 104 c0, .slice a1 104 c1] * (own 9 1 (.slice a1 104 c1) 104 ((faxW true).map txv) * (own 9 1 (.slice a0 104 c0) 104 ((faxW false).map txv) * (own 3 1 (.slice aT top.length cT) top.length (top.map nv) * F))) := ⟨_, rfl⟩
  have h4 := h4.perm (show _ = G from hG.symm)
  have HG := Lib.hid hG; clear hG
  have HNX := Lib.hid (fun w (h : St w0 w G) => HCT.out w (.slice aT top.length cT) (by rw [HG.out] at h; exact h.right.right.right.reads))
  have HF := Lib.hid (fun w (h : St w0 w G) => (by rw [HG.out] at h; exact h.right.right.right.right : St w0 w F))
  have HY := Lib.hid (fun w (h : St w0 w G) => (by rw [HG.out] at h; exact ⟨h.own_cell (i := 0) rfl, h.own_cell (i := 1) rfl⟩ : w.cell? ⟨gW, 0, none⟩ = some (.slice a0 104 c0) ∧ w.cell? ⟨gW, 1, none⟩ = some (.slice a1 104 c1)))
  have HR := Lib.hid (fun w (h : St w0 w G) (b : Bool) => (by
    rw [HG.out] at h
    cases b
    · exact h.right.right.reads
    · exact h.right.reads : Reads w 1 (cond b (.slice a1 104 c1) (.slice a0 104 c0)) 104 ((faxW b).map txv)))
  have H4 := Lib.hid h4; clear h4 HG HCT
  go_wp2_with fail
  have H5 := Lib.hid (show St w0 (w3.alloc _) G from H4.out); clear H4
  rw [← hgW]
  clear hgW
  go_loopg [1, 12, 13, 14] (t.length + 1 - p) (fun g vq vp vb va wr => ∃ (q : Nat) (px : List Nat) (b : Bool) (at' : Int), vq = .int .i64 q ∧ vp = .string ⟨(tx px).toArray⟩ ∧ vb = .bool b ∧ va = .int .i64 at' ∧ t.length + 1 ≤ g + q ∧ q ≤ t.length ∧ px.length ≤ width ∧ Bit px ∧ AtOk px at' ∧ rdAg t top width g q px b at' = res ∧ St w0 wr G)
  case atStart => exact ⟨p, [], false, -1, rfl, rfl, rfl, rfl, by omega, hp, by simp, bit_nil, .inl ⟨rfl, rfl⟩, HRES.out, H5.out⟩
  case round =>
    clear H5 HRES
    obtain ⟨q, px, b, at', rfl, rfl, rfl, rfl, hg, hq, hpx, hbp, hat, hres, hst⟩ := hrel
    obtain ⟨g, rfl⟩ : ∃ g, gk = g + 1 := ⟨gk - 1, by omega⟩
    have hlx : (tx px).length = px.length := by simp
    rw [rdAg] at hres
    by_cases hlt : at' < (width : Int)
    · rw [if_pos hlt, stepAg] at hres
      have C1 := HMD.out wr G hst q hq
      have nt := HNT.out at' hlt (!b)
      have HN := Lib.hid (fun w hw => HNX.out w hw at' (!b))
      clear HNT HNX HMD
      cases hr : readMd t q with
      | mk k y =>
        rw [hr] at hres C1
        have HC1 := Lib.hid C1; clear C1 hst
        cases y with
        | inr er =>
          have hok := readMd_er hr hq
          simp only at hres
          subst hres
          have hx0 : ¬ (er : Int) = 0 := by have := hok.2.1; omega
          clear hr hok hbp hg hq nt HN hat hpx HRN HRD HY HR
          go_wp2_with fail
          refine HC1.out.mono ?_
          rintro e w5 ⟨z, x, p1, rfl, ⟨hp1, hz, hx⟩, _, h5⟩
          simp only at hp1 hz hx
          subst hp1 hz hx
          have H5 := Lib.hid (HF.out _ h5); clear h5 HC1
          go_wp2_with fail
          go_ret3
          exact ⟨rfl, H5.out⟩
        | inl m =>
          have hok := readMd_ok hr hq
          simp only at hres
          clear hr
          generalize nextF true at' (!b) width top = c at *
          obtain ⟨b1, b2⟩ := c
          simp only at hres nt HN
          have HP := Lib.hid (⟨hg, hq, hpx, hbp, hat, hres, nt, hok⟩ : _ ∧ _ ∧ _ ∧ _ ∧ _ ∧ _ ∧ _ ∧ _)
          have hpx9 : px.length ≤ 32768 := by omega
          clear hg hq hpx hbp hat hres nt hok
          go_wp2_with fail
          refine HC1.out.mono ?_
          rintro e w5 ⟨z, x, p1, rfl, ⟨hp1, hz, hx⟩, _, h5⟩
          simp only at hp1 hz hx
          subst hp1 hz hx
          have HN3 := Lib.hid (HN.out w5 h5)
          have H5 := Lib.hid h5; clear h5 HN HC1
          go_wp2_with fail
          refine HN3.out.mono ?_
          rintro e w6 ⟨rfl, n6, rfl⟩
          have h6 := H5.out.drewN n6
          generalize w5.drewN n6 = w6 at *
          clear H5 HN3
          obtain ⟨hg, hq, hpx, hbp, hat, hres, ⟨nt1, nt2, nt3, nt4⟩, hok⟩ := HP.out
          clear HP
          have hmx : max at' 0 = (px.length : Int) := by
            rcases hat with ⟨rfl, rfl⟩ | rfl
            · rfl
            · omega
          have hm1 : -1 ≤ at' := by rcases hat with ⟨rfl, rfl⟩ | rfl <;> omega
          clear hat
          by_cases h5 : z = 5
          · subst h5
            rw [if_pos rfl] at hres
            simp only at hres
            have hsub : (b2 : Int) - (px.length : Nat) = ((b2 - px.length : Nat) : Int) := by omega
            obtain ⟨n, hn⟩ : ∃ n, n = b2 - px.length := ⟨_, rfl⟩
            rw [← hn] at hsub hres
            have hn6 : n ≤ 1000000 := by omega
            have HRU := Lib.hid (fun w => HRN.out w n hn6 b)
            have hlen : (px ++ runP n b).length = b2 := by rw [List.length_append, length_runP]; omega
            have hb2 := hbp.append (bit_runP n b)
            have hln : (tx (runP n b)).length = n := by simp
            have hba := ByteArray.mk_append_mk (tx px) (tx (runP n b))
            rw [← tx_append] at hba
            generalize px ++ runP n b = px2 at *
            have HP := Lib.hid (⟨by omega, by omega, by omega, hb2, .inr (by omega), hres⟩ : t.length + 1 ≤ g + p1 ∧ p1 ≤ t.length ∧ px2.length ≤ width ∧ Bit px2 ∧ AtOk px2 (b2 : Int) ∧ _)
            have HB := Lib.hid hba
            have H6 := Lib.hid h6
            clear h6 hg hq hpx hbp hres nt1 nt2 nt3 nt4 hok hmx hm1 hb2 hlen hba hn HRN HRD HY HR
            generalize tx (runP n b) = tr at *
            go_wp2_with fail
            refine (HRU.out _).mono ?_
            rintro e w7 ⟨rfl, rfl⟩
            go_wp2_with fail
            go_roundg g
            case measure => omega
            case rel =>
              obtain ⟨e1, e2, e3, e4, e5, e6⟩ := HP.out
              exact ⟨p1, px2, b, b2, rfl, congrArg Value.string HB.out, rfl, rfl, e1, e2, e3, e4, e5, e6, H6.out⟩
          · rw [if_neg h5] at hres
            by_cases h4' : z = 4
            · subst h4'
              rw [if_pos rfl] at hres
              clear h5
              obtain ⟨r2, hr2⟩ : ∃ r2, two t width p1 px b = r2 := ⟨_, rfl⟩
              rw [hr2] at hres
              have HO1 := Lib.hid (show ∀ k er, r2 = (k, .inr er) → (k, .inr er) = res by
                rintro k er rfl; exact hres)
              have HO2 := Lib.hid (show ∀ k px2, r2 = (k, .inl px2) → rdAg t top width g k px2 b (px2.length : Nat) = res by
                rintro k px2 rfl; exact hres)
              rw [two_eq] at hr2
              have HR2 := Lib.hid hr2
              have HB2 := Lib.hid hbp
              have H6 := Lib.hid h6
              clear h6 hres hr2 hbp nt1 nt2 nt3 nt4 hmx hm1
              have hp1 : p1 ≤ t.length := hok.2.1
              have hg1 : t.length + 1 ≤ g + p1 := by omega
              have HG1 := Lib.hid hg1
              clear hok hg hq hg1
              go_wp2_with fail
              go_loopw [1, 12, 13, 20] (fun vq vp vb vi wr => ∃ (i q2 : Nat) (px2 : List Nat), i ≤ 2 ∧ vi = .int .i64 i ∧ vq = .int .i64 q2 ∧ vp = .string ⟨(tx px2).toArray⟩ ∧ vb = .bool ([b, !b].getD i b) ∧ p1 ≤ q2 ∧ q2 ≤ t.length ∧ px2.length ≤ width ∧ Bit px2 ∧ twoF t width ([b, !b].drop i) q2 px2 = r2 ∧ St w0 wr G) (fun _ _ _ vi _ => 2 - (intOf vi).toNat)
              case atStart => exact ⟨0, p1, px, by omega, rfl, rfl, rfl, rfl, by omega, hp1, hpx, HB2.out, HR2.out, H6.out⟩
              case round =>
                clear H6 HR2 HB2 hpx hpx9 hlx
                obtain ⟨i, q2, px2, hi, rfl, rfl, rfl, rfl, hpq, hq2, hpx2, hb2, hall, hst⟩ := hrel
                have hlx2 : (tx px2).length = px2.length := by simp
                by_cases hi2 : i < 2
                · obtain ⟨cc, e1, e2, e3⟩ : ∃ cc, [b, !b].drop i = cc :: [b, !b].drop (i + 1) ∧ [b, !b].getD i b = cc ∧ [b, !b].getD (i + 1) b = !cc := by
                    rcases Nat.lt_succ_iff_lt_or_eq.1 hi2 with h | h
                    · obtain rfl : i = 0 := by omega
                      exact ⟨b, rfl, rfl, rfl⟩
                    · obtain rfl : i = 1 := h
                      exact ⟨!b, rfl, rfl, by cases b <;> rfl⟩
                  rw [e1, twoF] at hall
                  rw [e2]
                  obtain ⟨y0, y1⟩ := HY.out _ hst
                  have hsub : (width : Int) - (px2.length : Nat) = ((width - px2.length : Nat) : Int) := by omega
                  have C1 := HRD.out wr cc q2 hq2 ((width - px2.length : Nat) : Int) _ (HR.out _ hst cc)
                  clear e1 e2
                  obtain ⟨d, hd⟩ : ∃ d, d = width - px2.length := ⟨_, rfl⟩
                  rw [← hd] at hsub hall C1
                  have HD := Lib.hid hd; clear hd
                  have HE3 := Lib.hid e3; clear e3
                  cases hr : readL cc t (d : Int) q2 with
                  | mk k y =>
                    rw [hr] at hall C1
                    have HC1 := Lib.hid C1; clear C1
                    cases y with
                    | inr er =>
                      have hok := readL_er hr hq2
                      simp only at hall
                      have hx0 : ¬ (er : Int) = 0 := by have := hok.2.1; omega
                      have HRS := Lib.hid (HO1.out _ _ hall.symm)
                      have HST := Lib.hid (HF.out _ hst)
                      clear hst hall hr hok hb2 HY HR HRD HRN HO1 HO2
                      cases cc <;> (
                        go_wp2_with fail
                        refine HC1.out.mono ?_
                        rintro e w5 ⟨z, x, p3, rfl, ⟨hp1, hz, hx⟩, _, rfl⟩
                        simp only at hp1 hz hx
                        subst hp1 hz hx
                        go_wp2_with fail
                        go_ret3
                        rw [← HRS.out]
                        exact ⟨rfl, HST.out⟩)
                    | inl n =>
                      have hok := readL_ok hr hq2
                      simp only at hall
                      clear hr
                      have hpn : px2.length + n ≤ width := by have := HD.out; omega
                      have hn6 : n ≤ 1000000 := by omega
                      have HRU := Lib.hid (fun w => HRN.out w n hn6 cc)
                      have hlen : (px2 ++ runP n cc).length = px2.length + n := by simp
                      have hb3 := hb2.append (bit_runP n cc)
                      have hln : (tx (runP n cc)).length = n := by simp
                      have hba := ByteArray.mk_append_mk (tx px2) (tx (runP n cc))
                      rw [← tx_append] at hba
                      generalize px2 ++ runP n cc = px3 at *
                      have HP := Lib.hid (⟨by omega, hok.2.1, by omega, hb3, hall⟩ : p1 ≤ k ∧ k ≤ t.length ∧ px3.length ≤ width ∧ Bit px3 ∧ _)
                      have HB := Lib.hid hba
                      have HST := Lib.hid hst
                      clear hst hall hok hb2 hb3 hpn hlen hba HY HR HRD HRN HO1 HO2
                      generalize tx (runP n cc) = tr at *
                      cases cc <;> (
                        go_wp2_with fail
                        refine HC1.out.mono ?_
                        rintro e w5 ⟨z, x, p3, rfl, ⟨hp1, hz, hx⟩, _, rfl⟩
                        simp only at hp1 hz hx
                        subst hp1 hz hx
                        go_wp2_with fail
                        refine (HRU.out _).mono ?_
                        rintro e w7 ⟨rfl, rfl⟩
                        go_wp2_with fail
                        obtain ⟨g1, g2, g3, g4, g5⟩ := HP.out
                        exact ⟨⟨i + 1, p3, px3, by omega, by go_num, rfl, congrArg Value.string HB.out, by rw [HE3.out]; rfl, g1, g2, g3, g4, g5, HST.out⟩, by simp [intOf]; omega⟩)
                · obtain rfl : i = 2 := by omega
                  have hall : (q2, Sum.inl px2) = r2 := hall
                  have HRS := Lib.hid (HO2.out _ _ hall.symm)
                  have HST := Lib.hid hst
                  have HB2 := Lib.hid hb2
                  clear hst hall hb2 HY HR HRD HRN HO1 HO2
                  go_wp2_with fail
                  go_roundg g
                  case measure => omega
                  case rel =>
                    have := HG1.out
                    exact ⟨q2, px2, b, _, rfl, rfl, rfl, rfl, by omega, hq2, hpx2, HB2.out, .inr rfl, HRS.out, HST.out⟩
            · rw [if_neg h4'] at hres
              have hz1 : -3 ≤ z := hok.2.2.1
              have hz2 : z ≤ 5 := hok.2.2.2
              by_cases hbad : (b1 : Int) + z ≤ at' ∨ (b1 : Int) + z < 0 ∨ (width : Int) < (b1 : Int) + z
              · rw [if_pos hbad] at hres
                simp only at hres
                subst hres
                have H4 := Lib.hid (HF.out _ h6)
                have hb1 : b1 ≤ 32768 := by omega
                clear h6 hg hq hpx hbp hok hmx hm1 HRN HRD HY HR
                have hd : (b1 : Int) + z ≤ at' ∨ (¬ (b1 : Int) + z ≤ at' ∧ (b1 : Int) + z < 0) ∨ (¬ (b1 : Int) + z ≤ at' ∧ ¬ (b1 : Int) + z < 0 ∧ (width : Int) < (b1 : Int) + z) := by omega
                clear hbad nt1 nt2 nt3 nt4
                rcases hd with hd | ⟨hd, he⟩ | ⟨hd, he, hf⟩ <;> (
                  go_wp2_with fail
                  go_ret3
                  exact ⟨rfl, H4.out⟩)
              · rw [if_neg hbad] at hres
                simp only at hres
                obtain ⟨X, hX⟩ : ∃ X : Nat, (b1 : Int) + z = (X : Nat) := ⟨((b1 : Int) + z).toNat, by omega⟩
                rw [hX] at hres hbad
                rw [Int.toNat_natCast] at hres
                have hsub : (X : Int) - (px.length : Nat) = ((X - px.length : Nat) : Int) := by omega
                obtain ⟨n, hn⟩ : ∃ n, n = X - px.length := ⟨_, rfl⟩
                rw [← hn] at hsub hres
                have hn6 : n ≤ 1000000 := by omega
                have HRU := Lib.hid (fun w => HRN.out w n hn6 b)
                have hlen : (px ++ runP n b).length = X := by rw [List.length_append, length_runP]; omega
                have hb2 := hbp.append (bit_runP n b)
                have hln : (tx (runP n b)).length = n := by simp
                have hba := ByteArray.mk_append_mk (tx px) (tx (runP n b))
                rw [← tx_append] at hba
                generalize px ++ runP n b = px2 at *
                have HP := Lib.hid (⟨by omega, by omega, by omega, hb2, .inr (by omega), hres⟩ : t.length + 1 ≤ g + p1 ∧ p1 ≤ t.length ∧ px2.length ≤ width ∧ Bit px2 ∧ AtOk px2 (X : Int) ∧ _)
                have hx1 : ¬ (X : Int) ≤ at' := by omega
                have hx2 : ¬ (X : Int) < 0 := by omega
                have hx3 : ¬ (width : Int) < (X : Int) := by omega
                have hb1 : b1 ≤ 32768 := by omega
                have HB := Lib.hid hba
                have H6 := Lib.hid h6
                clear h6 hg hq hpx hbp hres nt1 nt2 nt3 nt4 hok hmx hm1 hb2 hlen hba hn HRN HRD HY HR hbad
                generalize tx (runP n b) = tr at *
                go_wp2_with fail
                refine (HRU.out _).mono ?_
                rintro e w7 ⟨rfl, rfl⟩
                go_wp2_with fail
                go_roundg g
                case measure => omega
                case rel =>
                  obtain ⟨e1, e2, e3, e4, e5, e6⟩ := HP.out
                  exact ⟨p1, px2, !b, X, rfl, congrArg Value.string HB.out, rfl, rfl, e1, e2, e3, e4, e5, e6, H6.out⟩
    · rw [if_neg hlt] at hres
      subst hres
      have HST := Lib.hid (HF.out _ hst)
      clear hst HRN HRD HMD HNT HNX HY HR hat hbp hg hq
      go_wp2_with fail
      go_ret3
      exact ⟨rfl, HST.out⟩
#print axioms rReadAgainst_any
end Go.Proofs.YtdjoigobmmaaiaaDoor
