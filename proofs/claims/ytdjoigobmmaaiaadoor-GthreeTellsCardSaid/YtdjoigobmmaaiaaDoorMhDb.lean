/-
  Layer 14: the document's rows (package mezzotintref14).
-/
import Derived.Test.YtdjoigobmmaaiaaDoorMhR
import Derived.Test.YtdjoigobmmaaiaaDoorMhDa
import Derived.Test.YtdjoigobmmaaiaaDoorRef02
import Derived.RegionTactic
import Derived.BigRegion
import Derived.Deep.QuietTactic
import Derived.BigQuiet
namespace Go.Proofs.YtdjoigobmmaaiaaDoor
open Go.RowKit Go.Mz
set_option linter.unusedVariables false
set_option linter.unusedSimpArgs false
set_option maxRecDepth 100000

theorem mod_cell {w0 w : World} {g c : Nat} {F : SProp} (h : St w0 w (own 9 1 (.slice (some ⟨g, 0, none⟩) 10 c) 10 (modW.map txv) * F)) {i : Nat} (hi : i < 10) : w.cell? ⟨g, i, none⟩ = some (.string ⟨(tx (modW.getD i [])).toArray⟩) :=
  h.own_cell (by rw [List.getElem?_map, List.getD_eq_getElem?_getD, List.getElem?_eq_getElem (by rw [len_mod]; exact hi)]; rfl)
theorem bit_modD (i : Nat) : Bit (modW.getD i []) := by
  rw [List.getD_eq_getElem?_getD]
  cases hx : modW[i]? with
  | none => exact bit_nil
  | some v => exact bit_mod v (List.mem_of_getElem? hx)

set_option maxHeartbeats 40000000 in
theorem rAgainst_any {w0 w : World} {F : SProp} (h : St w0 w F) {s t : List Nat} (hs : Bit s) (ht : Bit t) (hst : t.length = s.length) (hl : s.length ≤ 32768) {sb tb : ByteArray} (hsb : sb = ⟨(tx s).toArray⟩) (htb : tb = ⟨(tx t).toArray⟩) :
    Calls Tryd.prog 32 #[.string sb, .string tb] w fun e w' => e = .returned (.string ⟨(tx (agB (chg s) (chg t) s.length (s.length + 1) (-1) false)).toArray⟩) ∧ St w0 w' F := by
  have hls : (tx s).length = s.length := by simp
  have HC1 := Lib.hid (changes_any h hs (by omega) hsb)
  have HC2 := Lib.hid (fun (w : World) (G : SProp) (h : St w0 w G) => changes_any h ht (by omega) htb)
  have HNR := Lib.hid (fun (at' : Int) (h : at' < s.length) (b : Bool) => nextF_bd (at' := at') (toB := b) (width := s.length) (chg s) true (chg_inc s) (chg_lt s) h)
  have HNT := Lib.hid (fun (at' : Int) (h : at' < s.length) (b : Bool) => nextF_bd (at' := at') (toB := b) (width := s.length) (chg t) true (chg_inc t) (fun x hx => by rw [← hst]; exact chg_lt t x hx) h)
  have hr1 := chg_len s
  have hr2 := chg_len t
  have HCR := Lib.hid (fun (w : World) (v : Value) (hr : Reads w 1 v (chg s).length ((chg s).map nv)) (at' : Int) (b : Bool) => rnext_any at' b s.length hr (by omega))
  have HCT := Lib.hid (fun (w : World) (v : Value) (hr : Reads w 1 v (chg t).length ((chg t).map nv)) (at' : Int) (b : Bool) => rnext_any at' b s.length hr (by omega))
  subst hsb
  obtain ⟨res, hres⟩ : ∃ res, agB (chg s) (chg t) s.length (s.length + 1) (-1) false = res := ⟨_, rfl⟩
  rw [hres]
  have HRES := Lib.hid hres
  clear h hs ht hst hres htb
  generalize chg s = row at *
  generalize chg t = top at *
  generalize s.length = width at *
  go_enter Tryd.func32, Tryd.ntmps32
  go_wp2_with fail
  refine HC1.out.mono ?_
  rintro e w2 ⟨v2, rfl, h2⟩
  have HC3 := Lib.hid (HC2.out _ _ h2); clear h2 HC1 HC2
  go_wp2_with fail
  refine HC3.out.mono ?_
  rintro e w3 ⟨v3, rfl, h3⟩
  obtain ⟨a2, c2, rfl⟩ := h3.right.reads.sub
  obtain ⟨a3, c3, rfl⟩ := h3.reads.sub
  obtain ⟨G, hG⟩ : ∃ G, G = own 3 1 (.slice a3 top.length c3) top.length (top.map nv) * (own 3 1 (.slice a2 row.length c2) row.length (row.map nv) * F) := ⟨_, rfl⟩
  rw [← hG] at h3
  have HG := Lib.hid hG; clear hG
  have HCR2 := Lib.hid (fun w (h : St w0 w G) => HCR.out w (.slice a2 row.length c2) (by rw [HG.out] at h; exact h.right.reads))
  have HCT2 := Lib.hid (fun w (h : St w0 w G) => HCT.out w (.slice a3 top.length c3) (by rw [HG.out] at h; exact h.reads))
  have HF := Lib.hid (fun w (h : St w0 w G) => (by rw [HG.out] at h; exact h.right.right : St w0 w F))
  have H := Lib.hid h3; clear h3 HC3 HCR HCT HG
  go_wp2_with fail
  go_loopg [8, 9, 10] (width + 1) (fun g vs vb va wr => ∃ (at' : Int) (b : Bool) (acc2 : List Nat), vs = .string ⟨(tx acc2).toArray⟩ ∧ vb = .bool b ∧ va = .int .i64 at' ∧ -1 ≤ at' ∧ at' ≤ width ∧ (width : Int) ≤ g + at' ∧ acc2.length + 700 * g ≤ 700 * (width + 1) ∧ acc2 ++ agB row top width g at' b = res ∧ St w0 wr G)
  case atStart => exact ⟨-1, false, [], rfl, rfl, rfl, by omega, by omega, by omega, by simp, HRES.out, H.out⟩
  case round =>
    clear H HRES
    obtain ⟨at', b, acc2, rfl, rfl, rfl, ha1, ha2, hg, hacc, hall, hst⟩ := hrel
    have hla : (tx acc2).length = acc2.length := by simp
    have hac9 : acc2.length ≤ 30000000 := by omega
    by_cases hlt : at' < width
    · obtain ⟨g, rfl⟩ : ∃ g, gk = g + 1 := ⟨gk - 1, by omega⟩
      rw [agB, if_pos hlt] at hall
      simp only at hall
      have nr := HNR.out at' hlt (!b)
      have nt := HNT.out at' hlt (!b)
      have HC1 := Lib.hid (HCR2.out _ hst at' (!b))
      have HC2 := Lib.hid (fun w hw => HCT2.out w hw at' (!b))
      generalize nextF true at' (!b) width row = a at *
      generalize nextF true at' (!b) width top = c at *
      obtain ⟨a1, a2⟩ := a
      obtain ⟨c1, c2⟩ := c
      simp only at hall nr nt HC1 HC2
      have HB := Lib.hid (⟨ha1, ha2, hg, hacc, nr, nt⟩ : _ ∧ _ ∧ _ ∧ _ ∧ _ ∧ _)
      have HALL := Lib.hid hall
      clear ha1 ha2 hg hacc nr nt hall HNR HNT HCR2 HCT2
      have HST := Lib.hid hst; clear hst
      go_wp2_with fail
      refine HC1.out.mono ?_
      rintro e w3 ⟨rfl, n3, rfl⟩
      have h3 := HST.out.drewN n3
      have HC3 := Lib.hid (HC2.out _ h3)
      have H3 := Lib.hid h3; clear h3 HC1 HC2 HST
      generalize wr.drewN n3 = W3 at *
      go_wp2_with fail
      refine HC3.out.mono ?_
      rintro e w4 ⟨rfl, n4, rfl⟩
      have h4 := H3.out.drewN n4
      clear H3 HC3
      generalize W3.drewN n4 = W4 at *
      have HMD := Lib.hid (rmodes13_any h4)
      by_cases hp : c2 < a1
      · have hpi : (c2 : Int) < a1 := by omega
        have hall := HALL.out
        rw [if_pos hp, ← List.append_assoc] at hall
        have HALL2 := Lib.hid hall; clear hall HALL h4
        have HTX := Lib.hid (tx_append acc2 (modW.getD 8 []))
        have hml := mod_len 8
        have hlm : (tx (modW.getD 8 [])).length = (modW.getD 8 []).length := by simp
        go_wp2_with fail
        refine HMD.out.mono ?_
        rintro e w5 ⟨v5, rfl, h5⟩
        obtain ⟨a5, c5, rfl⟩ := h5.reads.sub
        obtain ⟨g5, rfl⟩ := own_at h5 (by omega)
        have y8 := mod_cell h5 (i := 8) (by omega)
        have H5 := Lib.hid h5.right; clear h5 HMD
        generalize modW.getD 8 [] = m8 at *
        go_wp2_with fail
        obtain ⟨e1, e2, e3, e4, e5, e6⟩ := HB.out
        go_roundg g
        case measure => omega
        case rel =>
          refine ⟨c2, b, acc2 ++ m8, ?_, rfl, rfl, by omega, by omega, by omega, by rw [List.length_append]; omega, HALL2.out, H5.out⟩
          rw [HTX.out]
          exact congrArg Value.string (ByteArray.mk_append_mk _ _)
      · have hpi : ¬ (c2 : Int) < a1 := by omega
        have hall := HALL.out
        rw [if_neg hp] at hall
        clear HALL
        obtain ⟨e1, e2, e3, e4, ⟨nr1, nr2, nr3, _⟩, ⟨nt1, nt2, nt3, _⟩⟩ := HB.out
        have hba : a1 ≤ 32768 := by omega
        have hbc : c1 ≤ 32768 := by omega
        by_cases hv : a1 ≤ c1 + 3 ∧ c1 ≤ a1 + 3
        · rw [if_pos hv, ← List.append_assoc] at hall
          have hv1 : (a1 : Int) - c1 ≤ 3 := by omega
          have hv2 : (c1 : Int) - a1 ≤ 3 := by omega
          obtain ⟨i, hi⟩ : ∃ i, i = a1 + 3 - c1 := ⟨_, rfl⟩
          rw [← hi] at hall
          have hi2 : i < 10 := by omega
          have hii : (a1 : Int) - c1 + 3 = (i : Nat) := by omega
          have hml := mod_len i
          have hyi := fun {g c} {F : SProp} {w} h => mod_cell (w0 := w0) (w := w) (g := g) (c := c) (F := F) h hi2
          generalize modW.getD i [] = mi at *
          have HTX := Lib.hid (tx_append acc2 mi)
          have hlm : (tx mi).length = mi.length := by simp
          have HALL2 := Lib.hid hall; clear hall h4 hv hi nr1 nr2 nr3 nt1 nt2 nt3 e1 e2 e3 e4
          have hii3 : (i : Int) < 10 := by omega
          go_wp2_with fail
          refine HMD.out.mono ?_
          rintro e w5 ⟨v5, rfl, h5⟩
          obtain ⟨a5, c5, rfl⟩ := h5.reads.sub
          obtain ⟨g5, rfl⟩ := own_at h5 (by omega)
          have y8 := hyi h5
          have H5 := Lib.hid h5.right; clear h5 HMD hyi
          go_wp2_with fail
          obtain ⟨e1, e2, e3, e4, ⟨nr1, nr2, nr3, _⟩, ⟨nt1, nt2, nt3, _⟩⟩ := HB.out
          go_roundg g
          case measure => omega
          case rel =>
            refine ⟨a1, !b, acc2 ++ mi, ?_, rfl, rfl, by omega, by omega, by omega, by rw [List.length_append]; omega, HALL2.out, H5.out⟩
            rw [HTX.out]
            exact congrArg Value.string (ByteArray.mk_append_mk _ _)
        · rw [if_neg hv] at hall
          have hd1 : ¬ (a1 : Int) - c1 ≤ 3 ∨ ((a1 : Int) - c1 ≤ 3 ∧ ¬ (c1 : Int) - a1 ≤ 3) := by omega
          simp only [← List.append_assoc] at hall
          obtain ⟨q, hq⟩ : ∃ q : Nat, q = (max at' 0).toNat := ⟨_, rfl⟩
          rw [← hq] at hall
          have hmx : max at' 0 = (q : Int) := by omega
          have hq1 : IntKind.i64.wrap ((a1 : Int) - (q : Nat)) = ((a1 - q : Nat) : Int) := by rw [IntWalk.i64_in _ (by omega)]; omega
          have hq2 : IntKind.i64.wrap ((a2 : Int) - a1) = ((a2 - a1 : Nat) : Int) := by rw [IntWalk.i64_in _ (by omega)]; omega
          have hq3 : a1 - q ≤ 32768 := by omega
          have hq4 : a2 - a1 ≤ 32768 := by omega
          have hml := mod_len 7
          have hyi := fun {g c} {F : SProp} {w} h => mod_cell (w0 := w0) (w := w) (g := g) (c := c) (F := F) h (show 7 < 10 by omega)
          have hn1 := tell_len b hq3
          have hn2 := tell_len (!b) hq4
          have hl1 : (tx (modW.getD 7 [])).length = (modW.getD 7 []).length := by simp
          have hl2 : (tx (tellB b (a1 - q))).length = (tellB b (a1 - q)).length := by simp
          have hl3 : (tx (tellB (!b) (a2 - a1))).length = (tellB (!b) (a2 - a1)).length := by simp
          have HT1 := Lib.hid (fun (w : World) (G : SProp) (h : St w0 w G) => rtell_any h (a1 - q) hq3 b (j := ((a1 - q : Nat) : Int)) rfl)
          have HT2 := Lib.hid (fun (w : World) (G : SProp) (h : St w0 w G) => rtell_any h (a2 - a1) hq4 (!b) (j := ((a2 - a1 : Nat) : Int)) rfl)
          have hlen : (acc2 ++ modW.getD 7 [] ++ tellB b (a1 - q) ++ tellB (!b) (a2 - a1)).length ≤ acc2.length + 7 + 300 + 300 := by simp only [List.length_append]; omega
          have htx : tx (acc2 ++ modW.getD 7 [] ++ tellB b (a1 - q) ++ tellB (!b) (a2 - a1)) = tx acc2 ++ tx (modW.getD 7 []) ++ tx (tellB b (a1 - q)) ++ tx (tellB (!b) (a2 - a1)) := by simp only [tx_append]
          have HE := Lib.hid (⟨hlen, hall, hq1, hq2, hmx⟩ : _ ∧ _ ∧ _ ∧ _ ∧ _)
          have HTX := Lib.hid htx
          clear hlen hall hq hv hq3 hq4 hq1 hq2 hmx htx HMD
          generalize acc2 ++ modW.getD 7 [] ++ tellB b (a1 - q) ++ tellB (!b) (a2 - a1) = acc3 at *
          generalize tellB b (a1 - q) = t1 at *
          generalize tellB (!b) (a2 - a1) = t2 at *
          generalize modW.getD 7 [] = m7 at *
          generalize a1 - q = d1 at *
          generalize a2 - a1 = d2 at *
          clear nr1 nr2 nr3 nt1 nt2 nt3 e1 e2 e3 e4
          have H4 := Lib.hid h4; clear h4
          have hlx1 : (tx m7).length ≤ 7 := by omega
          have hlx2 : (tx t1).length ≤ 300 := by omega
          have hlx3 : (tx t2).length ≤ 300 := by omega
          clear hlx1 hlx2 hlx3 hp
          go_upto_region 11 with (fail)
          go_cut [60] from 21 to 92 (fun v wx => v = .bool false ∧ wx = W4)
          case first =>
            rcases hd1 with hd1 | ⟨hd1, hd2⟩
            · go_wp2_with fail
              go_meet
              exact ⟨rfl, rfl⟩
            · go_wp2_with fail
              go_meet
              exact ⟨by rw [decide_eq_false (by omega)], rfl⟩
          case rest =>
            obtain ⟨rfl, rfl⟩ := hcut
            go_upto_region 15 with (fail)
            clear hd1 hba hbc hpi
            obtain ⟨_, _, hq1, hq2, hmx⟩ := HE.out
            go_cut [8] from 21 to 92 (fun v wx => v = .string ⟨(tx acc3).toArray⟩ ∧ St w0 wx G)
            case first =>
              have H5 := Lib.hid H4.out.drew
              clear H4
              have H4 := H5
              clear H5
              go_region_with (first
                | (go_at_call 60; refine (rmodes13_any H4.out).mono ?_; rintro e w5 ⟨v5, rfl, h5⟩; obtain ⟨a5, c5, rfl⟩ := h5.reads.sub; obtain ⟨g5, rfl⟩ := own_at h5 (by omega); have y8 := hyi h5; clear H4; have H4 := Lib.hid h5; clear h5)
                | (go_at_call_of 61 (Value.int IntKind.i64 (d1 : Int)); refine (HT1.out _ _ H4.out).mono ?_; rintro e w6 ⟨rfl, h6⟩; (try have y8 := hyi h6); clear H4; have H4 := Lib.hid h6; clear h6)
                | (go_at_call_of 61 (Value.int IntKind.i64 (d2 : Int)); refine (HT2.out _ _ H4.out).mono ?_; rintro e w6 ⟨rfl, h6⟩; (try have y8 := hyi h6); clear H4; have H4 := Lib.hid h6; clear h6))
              all_goals
                go_wp2_with fail
                go_meet
                refine ⟨?_, H4.out.right⟩
                rw [HTX.out]
                simp only [← ByteArray.mk_append_mk, List.append_assoc, ByteArray.append_assoc]
            case rest =>
              obtain ⟨rfl, hst⟩ := hcut
              have HST := Lib.hid hst
              clear hst hq1 hq2 hmx
              go_wp2_with fail
              obtain ⟨e1, e2, e3, e4, ⟨nr1, nr2, nr3, _⟩, ⟨nt1, nt2, nt3, _⟩⟩ := HB.out
              obtain ⟨hlen, hall, _⟩ := HE.out
              go_roundg g
              case measure => omega
              case rel => exact ⟨a2, b, acc3, rfl, rfl, rfl, by omega, by omega, by omega, by omega, hall, HST.out⟩
    · have hall' : acc2 = res := by rw [← hall, agB_end _ _ hlt, List.append_nil]
      subst hall'
      have HST := Lib.hid (HF.out _ hst); clear hst hacc hall
      go_wp2_with fail
      go_ret
      exact ⟨rfl, HST.out⟩
#print axioms rAgainst_any
end Go.Proofs.YtdjoigobmmaaiaaDoor
