/-
  Layer 14 (mh): a row read by the row above it.
-/
import Derived.Test.YtdjoigobmmaaiaaDoorMhL
import Derived.Test.YtdjoigobmmaaiaaDoorMhW
import Derived.Deep.QuietTactic
import Derived.BigQuiet
namespace Go.Proofs.YtdjoigobmmaaiaaDoor
open Go.RowKit Go.Mz
set_option linter.unusedVariables false
set_option linter.unusedSimpArgs false
set_option maxRecDepth 100000

def readAg (t top : List Nat) (width p : Nat) : Nat × (List Nat ⊕ Nat) := rdAg t top width (t.length + 1 - p) p [] false (-1)

set_option maxHeartbeats 1000000 in
theorem readAgainst_any {w0 w : World} {F : SProp} {C Rb : Nat} {bs : List UInt8} {p : Nat} {low : Bool} (h : St w0 w (codes C * (rdr Rb bs p low * F))) {top : List Nat} {vt : Value} {width : Nat} (ht : Stb w0 F (fun w => Reads w 1 vt top.length (top.map nv)))
    (htp : top.Pairwise (· < ·)) (htb : ∀ x ∈ top, x < width) (h1 : 1 ≤ width) (hw : width ≤ 32768) (htl : top.length ≤ 100000) (hl : bs.length ≤ 100000000) (hp : p ≤ 8 * bs.length) :
    Calls Tryd.prog 36 #[.pointer (some ⟨Rb, 0, none⟩), .pointer (some ⟨C, 0, none⟩), vt, .int .i64 (width : Int)] w fun e w' => ∃ v,
      e = .returned (.tuple #[v, .int .i64 (erN (readAg (bitsL low bs) top width p).2 : Nat)]) ∧ St w0 w' (own 3 1 v (okL (readAg (bitsL low bs) top width p).2).length ((okL (readAg (bitsL low bs) top width p).2).map nv) * (codes C * (rdr Rb bs (readAg (bitsL low bs) top width p).1 low * F))) := by
  have HFT := Lib.hid (fun w => fits_ok w h1 hw)
  have hrg : rightI (-1) (width : Int) (top.map Int.ofNat) = true := right_nat top _ _ (fun x hx => ⟨by omega, htb x hx⟩) htp
  have HR2 := Lib.hid (fun (w : World) (hw : St w0 w F) => (by
    have C := right_any (l := top.map Int.ofNat) (v := vt) (width : Int) (w := w) (by rw [map_nv, List.length_map]; exact ht w hw)
    rw [hrg] at C; exact C : Calls Tryd.prog 54 #[vt, .int .i64 (width : Int)] w fun e w' => e = .returned (.bool true) ∧ w' = w))
  have HNT := Lib.hid (fun (at' : Int) (h : at' < width) (b : Bool) => nextF_bd (at' := at') (toB := b) (width := width) top true htp htb h)
  have HCT := Lib.hid (fun (w : World) (hw : St w0 w F) (at' : Int) (b : Bool) => next_any at' b width (ht w hw) (by omega))
  have hbl : (bitsL low bs).length = 8 * bs.length := length_bitsL _ _
  obtain ⟨res, hres⟩ : ∃ res, readAg (bitsL low bs) top width p = res := ⟨_, rfl⟩
  rw [hres]
  rw [readAg, hbl] at hres
  have HRES := Lib.hid hres; clear hres
  have HBL := Lib.hid hbl; clear hbl hrg htp htb ht htl
  have T := elemI
  have H := Lib.hid h; clear h
  have hl2 := H.out.lit #[] 3 0 rfl (by decide)
  have HL2 := Lib.hid hl2; clear hl2
  go_enter Tryd.func36, Tryd.ntmps36
  go_wp2_with fail
  refine (HFT.out _).mono ?_
  rintro e w2 ⟨rfl, rfl⟩
  go_wp2_with fail
  refine (HR2.out _ H.out.right.right).mono ?_
  rintro e w2 ⟨rfl, rfl⟩
  clear HR2 HFT
  go_wp2_with fail
  have h3 : St w0 _ (lin _ (.slice (some ⟨w2.heap.size, 0, none⟩) ([] : List Nat).length 0) (-1) false width * (own 3 1 (.slice (some ⟨w2.heap.size, 0, none⟩) ([] : List Nat).length 0) ([] : List Nat).length (([] : List Nat).map nv) * (codes C * (rdr Rb bs p low * F)))) := HL2.out.alloc (.cells #[.slice (some ⟨w2.heap.size, 0, none⟩) 0 0, .int .i64 (-1), .bool false, .int .i64 (width : Int)] 116)
  have hz : (w2.alloc (.cells #[] 3)).heap.size = w2.heap.size + 1 := Array.size_push _
  rw [hz] at h3
  clear hz
  generalize hLL : w2.heap.size + 1 = L at *
  have H3 := Lib.hid h3; clear h3 HL2 H hLL
  go_loopg [12] (8 * bs.length + 1 - p) (fun g vl wr => ∃ (q : Nat) (px row : List Nat) (b : Bool) (v : Value) (at' : Int), 8 * bs.length + 1 ≤ g + q ∧ q ≤ 8 * bs.length ∧ px.length ≤ width ∧ Bit px ∧ Rel row px b width ∧ AtOk px at' ∧ rdAg (bitsL low bs) top width g q px b at' = res ∧ St w0 wr (lin L v at' b width * (own 3 1 v row.length (row.map nv) * (codes C * (rdr Rb bs q low * F)))))
  case atStart =>
    exact ⟨p, [], [], false, _, -1, by omega, hp, by simp, bit_nil, rel_init _, .inl ⟨rfl, rfl⟩, HRES.out, H3.out⟩
  case round =>
    clear H3 HRES
    obtain ⟨q, px, row, b, v, at', hg, hq, hpx, hbp, hrl, hat, hres, hst⟩ := hrel
    obtain ⟨g, rfl⟩ : ∃ g, gk = g + 1 := ⟨gk - 1, by omega⟩
    have c1 : wr.cell? ⟨L, 1, none⟩ = some (.int .i64 at') := St.cell hst 1 rfl
    rw [rdAg] at hres
    by_cases hlt : at' < (width : Int)
    · rw [if_pos hlt, stepAg] at hres
      have C1 := creadMode_any (hst.perm (show _ = codes C * (rdr Rb bs q low * (lin L v at' b width * (own 3 1 v row.length (row.map nv) * F))) by ac_rfl)) hl hq
      have nt := HNT.out at' hlt (!b)
      have HN := Lib.hid (fun w hw => HCT.out w hw at' (!b))
      clear HNT HCT
      cases hr : readMd (bitsL low bs) q with
      | mk k y =>
        rw [hr] at hres C1
        have HC1 := Lib.hid C1; clear C1 hst
        cases y with
        | inr er =>
          have hok := readMd_er hr (by rw [HBL.out]; exact hq)
          simp only at hres
          subst hres
          have HOK := Lib.hid hok
          clear hr hok hrl hbp hg hq nt HN hat hpx
          go_wp2_with fail
          refine HC1.out.mono ?_
          rintro e w3 ⟨z, x, p1, rfl, ⟨hp1, hz, hx⟩, _, h3⟩
          simp only at hp1 hz hx
          subst hp1 hz hx
          have hx0 : ¬ (x : Int) = 0 := by have := HOK.out.2.1; omega
          have h3 := (h3.perm (show _ = lin L v at' b width * (own 3 1 v row.length (row.map nv) * (codes C * (rdr Rb bs p1 low * F))) by ac_rfl)).right.right
          have H3 := Lib.hid (St.own_nil 3 1 h3); clear h3 HC1
          go_wp2_with fail
          go_ret2
          exact ⟨_, rfl, H3.out⟩
        | inl m =>
          have hok := readMd_ok hr (by rw [HBL.out]; exact hq)
          rw [HBL.out] at hok
          simp only at hres
          clear hr
          generalize nextF true at' (!b) width top = c at *
          obtain ⟨b1, b2⟩ := c
          simp only at hres nt HN
          have HP := Lib.hid (⟨hg, hq, hpx, hbp, hrl, hat, hres, nt, hok⟩ : _ ∧ _ ∧ _ ∧ _ ∧ _ ∧ _ ∧ _ ∧ _ ∧ _)
          clear hg hq hpx hbp hrl hat hres nt hok
          go_wp2_with fail
          refine HC1.out.mono ?_
          rintro e w3 ⟨z, x, p1, rfl, ⟨hp1, hz, hx⟩, _, h3⟩
          simp only at hp1 hz hx
          subst hp1 hz hx
          have h3 := h3.perm (show _ = lin L v at' b width * (own 3 1 v row.length (row.map nv) * (codes C * (rdr Rb bs p1 low * F))) by ac_rfl)
          have HN3 := Lib.hid (fun n => HN.out (w3.drewN n) (h3.drewN n).right.right.right.right)
          have d1 : w3.cell? ⟨L, 1, none⟩ = some (.int .i64 at') := St.cell h3 1 rfl
          have d2 : w3.cell? ⟨L, 2, none⟩ = some (.bool b) := St.cell h3 2 rfl
          have H3 := Lib.hid h3; clear h3 HN c1 HC1
          go_upto_region 8 with (fail)
          go_quiet ((go_at_call 55; exact Calls.quiet_of (HN3.out _)))
          have h4 := H3.out.drewN nq
          generalize w3.drewN nq = w4 at *
          clear H3 HN3 d1 d2
          obtain ⟨hg, hq, hpx, hbp, hrl, hat, hres, ⟨nt1, nt2, nt3, nt4⟩, hok⟩ := HP.out
          clear HP
          have hmx : max at' 0 = (px.length : Int) := by
            rcases hat with ⟨rfl, rfl⟩ | rfl
            · rfl
            · omega
          have hm1 : -1 ≤ at' := by rcases hat with ⟨rfl, rfl⟩ | rfl <;> omega
          have hrow := rel_len hrl
          clear hat
          by_cases h5 : z = 5
          · subst h5
            rw [if_pos rfl] at hres
            simp only at hres
            have hn : 0 < b2 - px.length := by omega
            have hpn : px.length + (b2 - px.length) ≤ width := by omega
            have hr2 := rel_pass hrl hn hpn
            have hb2 := hbp.append (bit_runP (b2 - px.length) b)
            have hl2 : (px ++ runP (b2 - px.length) b).length = b2 := by rw [List.length_append, length_runP]; omega
            generalize px ++ runP (b2 - px.length) b = px2 at *
            have HP := Lib.hid (⟨by omega, by omega, by omega, hb2, hr2, .inr (by omega), hres⟩ : 8 * bs.length + 1 ≤ g + p1 ∧ p1 ≤ 8 * bs.length ∧ px2.length ≤ width ∧ Bit px2 ∧ Rel row px2 b width ∧ AtOk px2 (b2 : Int) ∧ _)
            have f1 := St.free (b := L) h4 1
            have c1 : w4.cell? ⟨L, 1, none⟩ = some (.int .i64 at') := St.cell h4 1 rfl
            have H4 := Lib.hid h4; clear h4 hg hq hpx hbp hrl hres nt1 nt2 nt3 nt4 hok hmx hm1 hrow hn hpn hr2 hb2 hl2
            go_wp2_with fail
            go_roundg g
            case measure => omega
            case rel =>
              obtain ⟨e1, e2, e3, e4, e5, e6, e7⟩ := HP.out
              exact ⟨p1, px2, row, b, v, b2, e1, e2, e3, e4, e5, e6, e7, H4.out.set 1 _⟩
          · rw [if_neg h5] at hres
            by_cases h4' : z = 4
            · subst h4'
              rw [if_pos rfl] at hres
              have C2 := two_any h4 hmx hpx hw hbp hrl hl (by omega : p1 ≤ 8 * bs.length)
              have htb := fun r => twoF_bd (t := bitsL low bs) (width := width) [b, !b] p1 px r
              cases hq2 : two (bitsL low bs) width p1 px b with
              | mk k2 y2 =>
                rw [hq2] at hres C2
                have hbd := htb _ ((two_eq ..).symm.trans hq2) (by rw [HBL.out]; omega) hpx hbp
                rw [HBL.out] at hbd
                obtain ⟨hbd1, hbd2, hbd3⟩ := hbd
                have HC2 := Lib.hid C2
                clear C2 h4 htb hq2
                cases y2 with
                | inr er =>
                  simp only at hres
                  subst hres
                  have hx := (hbd3 er rfl).1
                  have hx0 : ¬ (er : Int) = 0 := by omega
                  clear hbd1 hbd2 hbd3 hx hg hq hpx hbp hrl nt1 nt2 nt3 nt4 hok hmx hm1 hrow h5
                  go_wp2_with fail
                  refine HC2.out.mono ?_
                  rintro e w5 ⟨rfl, v5, row5, at5, h5, _⟩
                  have h5 : St w0 w5 (codes C * (rdr Rb bs k2 low * F)) := h5.right.right
                  have H5 := Lib.hid (St.own_nil 3 1 h5); clear h5 HC2
                  simp only [erN]
                  go_wp2_with fail
                  go_ret2
                  exact ⟨_, rfl, H5.out⟩
                | inl px2 =>
                  simp only at hres
                  obtain ⟨e1, e2, e3, e4⟩ := hbd2 px2 rfl
                  have HP := Lib.hid (⟨by simp only at e1; omega, hbd1, e3, e4, .inr rfl, hres⟩ : 8 * bs.length + 1 ≤ g + k2 ∧ k2 ≤ 8 * bs.length ∧ px2.length ≤ width ∧ Bit px2 ∧ AtOk px2 (px2.length : Nat) ∧ _)
                  clear hbd1 hbd2 hbd3 hg hq hpx hbp hrl nt1 nt2 nt3 nt4 hok hmx hm1 hrow h5 e1 e2 e3 e4 hres
                  go_wp2_with fail
                  refine HC2.out.mono ?_
                  rintro e w5 ⟨rfl, v5, row5, at5, h5, h6⟩
                  obtain ⟨h7, rfl⟩ := h6 px2 rfl
                  have H5 := Lib.hid h5; clear h5 HC2
                  have H6 := Lib.hid h7; clear h7 h6
                  simp only [erN]
                  go_wp2_with fail
                  go_roundg g
                  case measure => omega
                  case rel =>
                    obtain ⟨e1, e2, e3, e4, e5, e6⟩ := HP.out
                    exact ⟨k2, px2, row5, b, v5, _, e1, e2, e3, e4, H6.out, e5, e6, H5.out⟩
            · rw [if_neg h4'] at hres
              have hz1 : -3 ≤ z := hok.2.2.1
              have hz2 : z ≤ 5 := hok.2.2.2
              have c1 : w4.cell? ⟨L, 1, none⟩ = some (.int .i64 at') := St.cell h4 1 rfl
              by_cases hbad : (b1 : Int) + z ≤ at' ∨ (b1 : Int) + z < 0 ∨ (width : Int) < (b1 : Int) + z
              · rw [if_pos hbad] at hres
                simp only at hres
                subst hres
                have H4 := Lib.hid (St.own_nil 3 1 (show St w0 w4 (codes C * (rdr Rb bs p1 low * F)) from h4.right.right))
                have hb1 : b1 ≤ 32768 := by omega
                clear h4 hg hq hpx hbp hrl hok hmx hm1 hrow
                have hd : (b1 : Int) + z ≤ at' ∨ (¬ (b1 : Int) + z ≤ at' ∧ (b1 : Int) + z < 0) ∨ (¬ (b1 : Int) + z ≤ at' ∧ ¬ (b1 : Int) + z < 0 ∧ (width : Int) < (b1 : Int) + z) := by omega
                clear hbad
                clear nt1 nt2 nt3 nt4
                rcases hd with hd | ⟨hd, he⟩ | ⟨hd, he, hf⟩ <;> (
                  go_wp2_with fail
                  go_ret2
                  exact ⟨_, rfl, H4.out⟩)
              · rw [if_neg hbad] at hres
                simp only at hres
                obtain ⟨X, hX⟩ : ∃ X : Nat, (b1 : Int) + z = (X : Nat) := ⟨((b1 : Int) + z).toNat, by omega⟩
                rw [hX] at hres hbad
                rw [Int.toNat_natCast] at hres
                have hst := rel_step (n := X - px.length) hbp hrl (by omega)
                have hb2 := hbp.append (bit_runP (X - px.length) b)
                have hXp : px.length + (X - px.length) = X := by omega
                rw [hXp] at hst
                have hl2 : (px ++ runP (X - px.length) b).length = X := by rw [List.length_append, length_runP]; exact hXp
                generalize px ++ runP (X - px.length) b = px2 at *
                have HP := Lib.hid (⟨by omega, by omega, by omega, hb2, hst, .inr (by omega), hres⟩ : 8 * bs.length + 1 ≤ g + p1 ∧ p1 ≤ 8 * bs.length ∧ px2.length ≤ width ∧ Bit px2 ∧ Rel (goTo row X width) px2 (!b) width ∧ AtOk px2 (X : Int) ∧ _)
                have CT := to_any h4 X (by omega)
                have hx1 : ¬ (X : Int) ≤ at' := by omega
                have hx2 : ¬ (X : Int) < 0 := by omega
                have hx3 : ¬ (width : Int) < (X : Int) := by omega
                have hb1 : b1 ≤ 32768 := by omega
                have HCT := Lib.hid CT
                clear CT h4 hg hq hpx hbp hrl hok hmx hm1 hrow hbad hst hb2 hXp hl2 hres nt1 nt2 nt3 nt4
                go_wp2_with fail
                refine HCT.out.mono ?_
                rintro e w5 ⟨rfl, v5, h5⟩
                have f2 := St.free (b := L) h5 2
                have c2 : w5.cell? ⟨L, 2, none⟩ = some (.bool b) := St.cell h5 2 rfl
                have H5 := Lib.hid h5; clear h5 HCT
                go_wp2_with fail
                go_roundg g
                case measure => omega
                case rel =>
                  obtain ⟨e1, e2, e3, e4, e5, e6, e7⟩ := HP.out
                  exact ⟨p1, px2, goTo row X width, !b, v5, X, e1, e2, e3, e4, e5, e6, e7, H5.out.set 2 _⟩
    · rw [if_neg hlt] at hres
      subst hres
      have hpw : px.length = width := by
        rcases hat with ⟨rfl, rfl⟩ | rfl <;> omega
      have HE := Lib.hid (rel_end hrl hpw)
      have c0 : wr.cell? ⟨L, 0, none⟩ = some v := St.cell hst 0 rfl
      have H4 := Lib.hid hst.right
      clear hst hrl hbp hat hg hq hpx hpw HNT HCT
      obtain ⟨av, cv, rfl⟩ := H4.out.reads.sub
      go_wp2_with fail
      go_ret2
      refine ⟨_, rfl, ?_⟩
      have e : okL (Sum.inl px) = row := HE.out.symm
      rw [e]
      exact H4.out
#print axioms readAgainst_any
end Go.Proofs.YtdjoigobmmaaiaaDoor
