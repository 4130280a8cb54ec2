/-
  Layer 14 (mh): a row told by the row above it.
-/
import Derived.Test.YtdjoigobmmaaiaaDoorMh
namespace Go.Proofs.YtdjoigobmmaaiaaDoor
open Go.RowKit Go.Mz
set_option linter.unusedVariables false
set_option linter.unusedSimpArgs false
set_option maxRecDepth 100000

theorem mod_len (i : Nat) : (modW.getD i []).length ≤ 7 := by
  rw [List.getD_eq_getElem?_getD]
  cases hx : modW[i]? with
  | none => simp
  | some v => exact (le_mod v (List.mem_of_getElem? hx)).2
theorem agB_end {row top : List Nat} {width : Nat} (f : Nat) {at' : Int} (b : Bool) (h : ¬ at' < width) : agB row top width f at' b = [] := by
  cases f with
  | zero => rfl
  | succ f => rw [agB, if_neg h]

theorem two_pack {w : World} {f1 f2 : Nat} {A1 A2 A3 : Array Value} {P1 P2 P3 : World → Prop} {r : Value}
    (h1 : Calls Tryd.prog f1 A1 w fun e w' => e = .returned r ∧ P1 w')
    (h2 : ∀ w, P1 w → Calls Tryd.prog f2 A2 w fun e w' => e = .returned r ∧ P2 w')
    (h3 : ∀ w, P2 w → Calls Tryd.prog f2 A3 w fun e w' => e = .returned r ∧ P3 w') :
    Calls Tryd.prog f1 A1 w fun e w' => e = .returned r ∧ Calls Tryd.prog f2 A2 w' fun e w' => e = .returned r ∧ Calls Tryd.prog f2 A3 w' fun e w' => e = .returned r ∧ P3 w' := by
  refine h1.mono ?_
  rintro e w' ⟨rfl, h⟩
  refine ⟨rfl, (h2 _ h).mono ?_⟩
  rintro e w' ⟨rfl, h⟩
  exact ⟨rfl, h3 _ h⟩

set_option maxHeartbeats 1000000 in
theorem writeAgainst_any {w0 w : World} {F : SProp} {C Wb : Nat} {acc : List Nat} {low : Bool} (h : St w0 w (codes C * (wrt Wb acc low * F))) {row top : List Nat} {vr vt : Value} {width : Nat} (hr : Stb w0 F (fun w => Reads w 1 vr row.length (row.map nv))) (ht : Stb w0 F (fun w => Reads w 1 vt top.length (top.map nv)))
    (hrp : row.Pairwise (· < ·)) (hrb : ∀ x ∈ row, x < width) (htp : top.Pairwise (· < ·)) (htb : ∀ x ∈ top, x < width) (h1 : 1 ≤ width) (hw : width ≤ 32768) (hrl : row.length ≤ 100000) (htl : top.length ≤ 100000) (hm : acc.length ≤ 900000000) :
    Calls Tryd.prog 28 #[.pointer (some ⟨Wb, 0, none⟩), .pointer (some ⟨C, 0, none⟩), vr, vt, .int .i64 (width : Int)] w fun e w' => e = .returned (.int .i64 0) ∧ St w0 w' (codes C * (wrt Wb (acc ++ agB row top width (width + 1) (-1) false) low * F)) := by
  have HFT := Lib.hid (fun w => fits_ok w h1 hw)
  have hrg : ∀ (l : List Nat), l.Pairwise (· < ·) → (∀ x ∈ l, x < width) → rightI (-1) (width : Int) (l.map Int.ofNat) = true := fun l h1 h2 => right_nat l _ _ (fun x hx => ⟨by omega, h2 x hx⟩) h1
  have HR1 := Lib.hid (fun (w : World) (hw : St w0 w F) => (by
    have C := right_any (l := row.map Int.ofNat) (v := vr) (width : Int) (w := w) (by rw [map_nv, List.length_map]; exact hr w hw)
    rw [hrg row hrp hrb] at C; exact C : Calls Tryd.prog 54 #[vr, .int .i64 (width : Int)] w fun e w' => e = .returned (.bool true) ∧ w' = w))
  have HR2 := Lib.hid (fun (w : World) (hw : St w0 w F) => (by
    have C := right_any (l := top.map Int.ofNat) (v := vt) (width : Int) (w := w) (by rw [map_nv, List.length_map]; exact ht w hw)
    rw [hrg top htp htb] at C; exact C : Calls Tryd.prog 54 #[vt, .int .i64 (width : Int)] w fun e w' => e = .returned (.bool true) ∧ w' = w))
  have HNR := Lib.hid (fun (at' : Int) (h : at' < width) (b : Bool) => nextF_bd (at' := at') (toB := b) (width := width) row true hrp hrb h)
  have HNT := Lib.hid (fun (at' : Int) (h : at' < width) (b : Bool) => nextF_bd (at' := at') (toB := b) (width := width) top true htp htb h)
  have HCR := Lib.hid (fun (w : World) (hw : St w0 w F) (at' : Int) (b : Bool) => next_any at' b width (hr w hw) (by omega))
  have HCT := Lib.hid (fun (w : World) (hw : St w0 w F) (at' : Int) (b : Bool) => next_any at' b width (ht w hw) (by omega))
  clear hrg hrp hrb htp htb hr ht
  have H := Lib.hid h; clear h
  obtain ⟨res, hres⟩ : ∃ res, acc ++ agB row top width (width + 1) (-1) false = res := ⟨_, rfl⟩
  rw [hres]
  have HRES := Lib.hid hres; clear hres hrl htl
  go_enter Tryd.func28, Tryd.ntmps28
  go_wp2_with fail
  refine (HFT.out _).mono ?_
  rintro e w2 ⟨rfl, rfl⟩
  go_wp2_with fail
  refine (HR1.out _ H.out.right.right).mono ?_
  rintro e w2 ⟨rfl, rfl⟩
  go_wp2_with fail
  refine (HR2.out _ H.out.right.right).mono ?_
  rintro e w2 ⟨rfl, rfl⟩
  clear HR1 HR2 HFT
  go_wp2_with fail
  go_loopg [11, 12] (width + 1) (fun g vb va wr => ∃ (at' : Int) (b : Bool) (acc2 : List Nat), vb = .bool b ∧ va = .int .i64 at' ∧ -1 ≤ at' ∧ at' ≤ width ∧ (width : Int) ≤ g + at' ∧ acc2.length + 700 * g ≤ acc.length + 700 * (width + 1) ∧ acc2 ++ agB row top width g at' b = res ∧ St w0 wr (codes C * (wrt Wb acc2 low * F)))
  case atStart => exact ⟨-1, false, acc, rfl, rfl, by omega, by omega, by omega, by omega, HRES.out, H.out⟩
  case round =>
    clear H HRES
    obtain ⟨at', b, acc2, rfl, rfl, ha1, ha2, hg, hacc, hall, hst⟩ := hrel
    by_cases hlt : at' < width
    · obtain ⟨g, rfl⟩ : ∃ g, gk = g + 1 := ⟨gk - 1, by omega⟩
      rw [agB, if_pos hlt] at hall
      simp only at hall
      have nr := HNR.out at' hlt (!b)
      have nt := HNT.out at' hlt (!b)
      have HC1 := Lib.hid (HCR.out _ hst.right.right at' (!b))
      have HC2 := Lib.hid (fun w hw => HCT.out w hw at' (!b))
      generalize nextF true at' (!b) width row = a at *
      generalize nextF true at' (!b) width top = c at *
      obtain ⟨a1, a2⟩ := a
      obtain ⟨c1, c2⟩ := c
      simp only at hall nr nt HC1 HC2
      obtain ⟨nr1, nr2, nr3, _⟩ := nr
      obtain ⟨nt1, nt2, nt3, _⟩ := nt
      have HALL := Lib.hid hall; have HG := Lib.hid hg; have HACC := Lib.hid hacc
      have hacl : acc2.length ≤ 930000000 := by omega
      clear hall hg hacc
      have HST := Lib.hid hst; clear hst
      go_wp2_with fail
      refine HC1.out.mono ?_
      rintro e w3 ⟨rfl, n3, rfl⟩
      have h3 := HST.out.drewN n3
      have HC3 := Lib.hid (HC2.out _ h3.right.right)
      have H3 := Lib.hid h3; clear h3 HC1 HC2 HST
      generalize wr.drewN n3 = W3 at *
      go_wp2_with fail
      refine HC3.out.mono ?_
      rintro e w4 ⟨rfl, n4, rfl⟩
      have h4 := H3.out.drewN n4
      have H4 := Lib.hid h4; clear h4 H3 HC3
      generalize W3.drewN n4 = W4 at *
      by_cases hp : c2 < a1
      · have hpi : (c2 : Int) < a1 := by omega
        have hall := HALL.out
        rw [if_pos hp, ← List.append_assoc] at hall
        have HALL2 := Lib.hid hall; clear hall HALL
        have HCW := Lib.hid (cwriteMode_any H4.out 8 (by omega) (by omega) (j := 5) (by decide))
        have HML := Lib.hid (mod_len 8)
        go_wp2_with fail
        refine HCW.out.mono ?_
        rintro e w5 ⟨rfl, h5⟩
        have H5 := Lib.hid h5; clear h5 HCW H4
        go_wp2_with fail
        go_roundg g
        case measure => omega
        case rel => exact ⟨c2, b, acc2 ++ modW.getD 8 [], rfl, rfl, by omega, by omega, by have := HG.out; omega, by have := HACC.out; have := HML.out; rw [List.length_append]; omega, HALL2.out, H5.out⟩
      · have hpi : ¬ (c2 : Int) < a1 := by omega
        have hall := HALL.out
        rw [if_neg hp] at hall
        clear HALL
        by_cases hv : a1 ≤ c1 + 3 ∧ c1 ≤ a1 + 3
        · rw [if_pos hv, ← List.append_assoc] at hall
          have hv1 : (-3 : Int) ≤ (a1 : Int) - c1 := by omega
          have hv2 : (a1 : Int) - c1 ≤ 3 := by omega
          have HALL2 := Lib.hid hall; clear hall
          have HCW := Lib.hid (cwriteMode_any H4.out (a1 + 3 - c1) (by omega) (by omega) (j := (a1 : Int) - c1) (by omega))
          have HML := Lib.hid (mod_len (a1 + 3 - c1))
          clear hv
          go_wp2_with fail
          refine HCW.out.mono ?_
          rintro e w5 ⟨rfl, h5⟩
          have H5 := Lib.hid h5; clear h5 HCW H4
          go_wp2_with fail
          go_roundg g
          case measure => omega
          case rel => exact ⟨a1, !b, acc2 ++ modW.getD (a1 + 3 - c1) [], rfl, rfl, by omega, by omega, by have := HG.out; omega, by have := HACC.out; have := HML.out; rw [List.length_append]; omega, HALL2.out, H5.out⟩
        · rw [if_neg hv] at hall
          have hd1 : (-3 : Int) ≤ (a1 : Int) - c1 ∧ ¬ (a1 : Int) - c1 ≤ 3 ∨ ¬ (-3 : Int) ≤ (a1 : Int) - c1 := by omega
          simp only [← List.append_assoc] at hall
          obtain ⟨q, hq⟩ : ∃ q : Nat, q = (max at' 0).toNat := ⟨_, rfl⟩
          rw [← hq] at hall
          have hmx : max at' 0 = (q : Int) := by omega
          have hq1 : (a1 : Int) - (q : Nat) = ((a1 - q : Nat) : Int) := by omega
          have hq2 : (a2 : Int) - a1 = ((a2 - a1 : Nat) : Int) := by omega
          have hq3 : a1 - q ≤ 32768 := by omega
          have hq4 : a2 - a1 ≤ 32768 := by omega
          have HML := Lib.hid (mod_len 7)
          have HT1 := Lib.hid (tell_len b hq3)
          have HT2 := Lib.hid (tell_len (!b) hq4)
          have hl1 : (acc2 ++ modW.getD 7 []).length ≤ 940000000 := by have := HML.out; rw [List.length_append]; omega
          have hl2 : (acc2 ++ modW.getD 7 [] ++ tellB b (a1 - q)).length ≤ 940000000 := by have := HML.out; have := HT1.out; simp only [List.length_append]; omega
          have hl3 : (acc2 ++ modW.getD 7 [] ++ tellB b (a1 - q) ++ tellB (!b) (a2 - a1)).length ≤ acc2.length + 7 + 300 + 300 := by have := HML.out; have := HT1.out; have := HT2.out; simp only [List.length_append]; omega
          have HCW := Lib.hid (cwriteMode_any H4.out 7 (by omega) (by omega) (j := 4) (by decide))
          have HC5 := Lib.hid (fun w (h : St w0 w (codes C * (wrt Wb (acc2 ++ modW.getD 7 []) low * F))) => cwrite_any h (a1 - q) hq3 b (by omega) (j := ((a1 - q : Nat) : Int)) rfl)
          have HC6 := Lib.hid (fun w (h : St w0 w (codes C * (wrt Wb (acc2 ++ modW.getD 7 [] ++ tellB b (a1 - q)) low * F))) => cwrite_any h (a2 - a1) hq4 (!b) (by omega) (j := ((a2 - a1 : Nat) : Int)) rfl)
          have HP := Lib.hid (two_pack HCW.out HC5.out HC6.out)
          have HE := Lib.hid (show (acc2 ++ modW.getD 7 [] ++ tellB b (a1 - q) ++ tellB (!b) (a2 - a1)).length ≤ acc2.length + 7 + 300 + 300 ∧ acc2 ++ modW.getD 7 [] ++ tellB b (a1 - q) ++ tellB (!b) (a2 - a1) ++ agB row top width g (↑a2) b = res ∧ acc2.length + 700 * (g + 1) ≤ acc.length + 700 * (width + 1) ∧ (width : Int) ≤ (a2 : Int) + g ∧ a2 ≤ width ∧ at' < a2 from ⟨hl3, hall, HACC.out, by have := HG.out; omega, by omega, by omega⟩)
          clear HML HT1 HT2 HCW HC5 HC6 HG HACC hl1 hl2 hl3 hall hq H4 HCR HCT HNR HNT hv hacl
          generalize acc2 ++ modW.getD 7 [] ++ tellB b (a1 - q) ++ tellB (!b) (a2 - a1) = acc3 at *
          generalize a1 - q = e1 at *
          generalize a2 - a1 = e2 at *
          have HQ := Lib.hid (⟨hmx, hq1, hq2, hq3, hq4⟩ : _ ∧ _ ∧ _ ∧ _ ∧ _)
          clear hmx hq1 hq2 hq3 hq4
          have HB := Lib.hid (⟨ha1, ha2, hlt, nr1, nr2, nr3⟩ : _ ∧ _ ∧ _ ∧ _ ∧ _ ∧ _)
          have hba : a1 ≤ 32768 := by omega
          have hbc : c1 ≤ 32768 := by omega
          clear ha1 ha2 nr1 nr2 nr3 nt1 nt2 nt3
          rcases hd1 with ⟨hv1, hv2⟩ | hv1 <;> (
            clear hp
            go_upto_region 10 with (fail)
            clear hpi hv1 hlt hba hbc
            try clear hv2
            obtain ⟨hmx, hq1, hq2, hq3, hq4⟩ := HQ.out
            go_wp2_with fail
            refine HP.out.mono ?_
            rintro e w5 ⟨rfl, HP5⟩
            have HP5 := Lib.hid HP5; clear HP
            go_wp2_with fail
            refine HP5.out.mono ?_
            rintro e w6 ⟨rfl, HP6⟩
            have HP6 := Lib.hid HP6; clear HP5
            go_wp2_with fail
            refine HP6.out.mono ?_
            rintro e w7 ⟨rfl, h7⟩
            have H7 := Lib.hid h7; clear h7 HP6
            go_wp2_with fail
            obtain ⟨he1, he2, he3, he4, he5, he6⟩ := HE.out
            have hb := HB.out
            go_roundg g
            case measure => omega
            case rel => exact ⟨a2, b, acc3, rfl, rfl, by omega, by omega, by omega, by omega, he2, H7.out⟩)
    · have hall' : acc2 = res := by rw [← hall, agB_end _ _ hlt, List.append_nil]
      subst hall'
      have HST := Lib.hid hst; clear hst hacc hall
      go_wp2_with fail
      go_ret
      exact ⟨rfl, HST.out⟩
#print axioms writeAgainst_any
end Go.Proofs.YtdjoigobmmaaiaaDoor
