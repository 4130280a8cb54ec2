/-
  Layer 14: the document's rows (package mezzotintref14).
-/
import Derived.Test.YtdjoigobmmaaiaaDoorMhR
import Derived.Test.YtdjoigobmmaaiaaDoorRef02
import Derived.RegionTactic
import Derived.BigRegion
import Derived.Deep.QuietTactic
import Derived.BigQuiet
namespace Go.Proofs.YtdjoigobmmaaiaaDoor
open Go.RowKit Go.Mz
set_option linter.unusedVariables false
set_option linter.unusedSimpArgs false
set_option maxRecDepth 100000

theorem colour_any (w : World) (b : Bool) : Calls Tryd.prog 77 #[.bool b] w fun e w' => e = .returned (.string ⟨#[dg (cl b)]⟩) ∧ w' = w := by
  cases b
  · go_enter Tryd.func77, Tryd.ntmps77
    go_wp2_with fail
    go_ret
    exact ⟨rfl, rfl⟩
  · go_enter Tryd.func77, Tryd.ntmps77
    go_wp2_with fail
    go_ret
    exact ⟨rfl, rfl⟩

set_option maxHeartbeats 1000000 in
theorem rrun_any (w : World) (n : Nat) (hn : n ≤ 1000000) (b : Bool) {j : Int} (hj : j = n) : Calls Tryd.prog 72 #[.int .i64 j, .bool b] w fun e w' => e = .returned (.string ⟨(tx (runP n b)).toArray⟩) ∧ w' = w := by
  subst hj
  have HC := Lib.hid (fun w => colour_any w b)
  go_enter Tryd.func72, Tryd.ntmps72
  go_wp2_with fail
  go_loop [5, 6] (fun vs vi => ∃ k : Nat, k ≤ n ∧ vs = .string ⟨(tx (runP k b)).toArray⟩ ∧ vi = .int .i64 k) (fun _ vi => n - (intOf vi).toNat)
  case atStart => exact ⟨0, by omega, rfl, rfl⟩
  case round =>
    obtain ⟨k, hk, rfl, rfl⟩ := hrel
    have hl : (tx (runP k b)).length = k := by simp
    by_cases hkn : k < n
    · have hk2 : (k : Int) < n := by omega
      have e : runP (k + 1) b = runP k b ++ [cl b] := by rw [runP, List.replicate_succ']; rfl
      have HE := Lib.hid e; clear e
      go_wp2_with fail
      refine (HC.out _).mono ?_
      rintro e w2 ⟨rfl, rfl⟩
      go_wp2_with fail
      refine ⟨⟨k + 1, by omega, ?_, by go_num⟩, by simp [intOf]; omega⟩
      rw [HE.out, tx_append]
      exact congrArg Value.string (ByteArray.mk_append_mk _ _)
    · obtain rfl : k = n := by omega
      go_wp2_with fail
      go_ret
      exact ⟨rfl, rfl⟩

theorem tx_at {p : List Nat} {k x : Nat} (hk : k < p.length) (hx : p[k] = x) : ((⟨(tx p).toArray⟩ : ByteArray).extract k (k + 1)).toList = [dg x] := by
  rw [ByteArray.extract_mk, Nat.add_sub_cancel_left, Lib.toList_data, List.drop_eq_getElem_cons (by simpa [tx] using hk)]
  simp [tx, hx]
theorem dg_inj {x y : Nat} (hx : x ≤ 1) (hy : y ≤ 1) (h : dg x = dg y) : x = y := by
  have := congrArg UInt8.toNat h
  rw [toNat_dg hx, toNat_dg hy] at this
  omega
theorem tx_is {p : List Nat} {k x : Nat} (b : Bool) (hk : k < p.length) (hx : p[k] = x) (hx1 : x ≤ 1) : (((⟨(tx p).toArray⟩ : ByteArray).extract k (k + 1)).toList == [dg (cl b)]) = decide (x = cl b) := by
  rw [tx_at hk hx]
  by_cases h : x = cl b
  · rw [h]; simp
  · rw [decide_eq_false h]
    simp only [beq_eq_false_iff_ne, ne_eq, List.cons.injEq, and_true]
    exact fun e => h (dg_inj hx1 (cl_le b) e)

set_option maxHeartbeats 1000000 in
theorem rrow_any {w0 w : World} {F : SProp} (h : St w0 w F) {p : List Nat} (hb : Bit p) (hl : p.length ≤ 32768) {sb : ByteArray} (hsb : sb = ⟨(tx p).toArray⟩) :
    Calls Tryd.prog 43 #[.string sb] w fun e w' => e = .returned (.string ⟨(tx (rowP false 0 p)).toArray⟩) ∧ St w0 w' F := by
  subst hsb
  have hvx : (tx p).length = p.length := by simp
  have HC := Lib.hid (fun w b => colour_any w b)
  have HTL := Lib.hid (fun (w : World) (h : St w0 w F) (n : Nat) (hn : n ≤ 32768) (b : Bool) => rtell_any h n hn b (j := (n : Int)) rfl)
  have HTN := Lib.hid (fun (b : Bool) (n : Nat) (hn : n ≤ 32768) => tell_len b hn)
  obtain ⟨res, hres⟩ : ∃ res, rowP false 0 p = res := ⟨_, rfl⟩
  rw [hres]
  have HRES := Lib.hid hres; have HB := Lib.hid hb; clear hres hb
  have H := Lib.hid h; clear h
  go_enter Tryd.func43, Tryd.ntmps43
  go_wp2_with fail
  go_loopw [3, 4, 5, 6] (fun vs vb vn vi wr => ∃ (k n : Nat) (acc : List Nat) (b : Bool), vs = .string ⟨(tx acc).toArray⟩ ∧ vb = .bool b ∧ vn = .int .i64 n ∧ vi = .int .i64 k ∧ k ≤ p.length + 1 ∧ n ≤ k ∧ acc.length ≤ 300 * k ∧ ((k ≤ p.length ∧ acc ++ rowP b n (p.drop k) = res) ∨ (k = p.length + 1 ∧ acc = res)) ∧ St w0 wr F) (fun _ _ _ vi _ => p.length + 1 - (intOf vi).toNat)
  case atStart => exact ⟨0, 0, [], false, rfl, rfl, rfl, rfl, by omega, by omega, by simp, .inl ⟨by omega, HRES.out⟩, H.out⟩
  case round =>
    clear H HRES
    obtain ⟨k, n, acc, b, rfl, rfl, rfl, rfl, hk, hnk, hal, hall, hst⟩ := hrel
    have hla : (tx acc).length = acc.length := by simp
    rcases hall with ⟨hkp, hall⟩ | ⟨rfl, rfl⟩
    · by_cases hkn : k < p.length
      · have hk2 : (k : Int) < p.length := by omega
        have hx := List.getElem?_eq_getElem hkn
        rw [List.drop_eq_getElem_cons hkn, rowP] at hall
        have hx1 := HB.out p[k] (List.getElem_mem _)
        clear hx
        obtain ⟨x, hxx⟩ : ∃ x, p[k] = x := ⟨_, rfl⟩
        rw [hxx] at hall hx1
        have HX := Lib.hid hxx; clear hxx
        go_upto_region 5 with (fail)
        go_quiet ((go_at_call 77; exact Calls.quiet_of_same (HC.out _ _)))
        have HST := Lib.hid (hst.drewN nq); clear hst
        rw [tx_is b hkn HX.out hx1]
        generalize wr.drewN nq = w3 at *
        by_cases hxc : x = cl b
        · rw [if_pos hxc] at hall
          have HALL := Lib.hid hall; clear hall
          rw [decide_eq_true hxc]
          clear hxc HX
          go_wp2_with fail
          exact ⟨⟨k + 1, n + 1, acc, b, rfl, rfl, by go_num, by go_num, by omega, by omega, by omega, .inl ⟨by omega, HALL.out⟩, HST.out⟩, by simp [intOf]; omega⟩
        · rw [if_neg hxc, ← List.append_assoc] at hall
          have HALL := Lib.hid hall; clear hall
          rw [decide_eq_false hxc]
          have HT := Lib.hid (HTL.out _ HST.out n (by omega) b)
          have hln := HTN.out b n (by omega)
          have hlt : (tx (tellB b n)).length = (tellB b n).length := by simp
          have HTX := Lib.hid (tx_append acc (tellB b n))
          have hl3 : (acc ++ tellB b n).length = acc.length + (tellB b n).length := List.length_append
          have HL3 := Lib.hid (show (acc ++ tellB b n).length ≤ 300 * (k + 1) by omega)
          generalize acc ++ tellB b n = acc2 at *
          generalize tellB b n = tb at *
          clear hxc HX HTL HTN hl3 HST
          go_wp2_with fail
          refine HT.out.mono ?_
          rintro e w4 ⟨rfl, h4⟩
          have H4 := Lib.hid h4; clear h4 HT
          go_wp2_with fail
          refine ⟨⟨k + 1, 1, acc2, !b, ?_, rfl, rfl, by go_num, by omega, by omega, HL3.out, .inl ⟨by omega, HALL.out⟩, H4.out⟩, by simp [intOf]; omega⟩
          rw [HTX.out]
          exact congrArg Value.string (ByteArray.mk_append_mk _ _)
      · obtain rfl : k = p.length := by omega
        rw [List.drop_length, rowP] at hall
        have HALL := Lib.hid hall; clear hall
        go_upto_region 5 with (fail)
        go_quiet (fail)
        have HST := Lib.hid (hst.drewN nq); clear hst
        generalize wr.drewN nq = w3 at *
        have HT := Lib.hid (HTL.out _ HST.out n (by omega) b)
        have hln := HTN.out b n (by omega)
        have hlt : (tx (tellB b n)).length = (tellB b n).length := by simp
        have HTX := Lib.hid (tx_append acc (tellB b n))
        have hl3 : (acc ++ tellB b n).length = acc.length + (tellB b n).length := List.length_append
        have HL3 := Lib.hid (show (acc ++ tellB b n).length ≤ 300 * (p.length + 1) by omega)
        generalize acc ++ tellB b n = acc2 at *
        generalize tellB b n = tb at *
        clear HTL HTN hl3 HST
        go_wp2_with fail
        refine HT.out.mono ?_
        rintro e w4 ⟨rfl, h4⟩
        have H4 := Lib.hid h4; clear h4 HT
        go_wp2_with fail
        refine ⟨⟨p.length + 1, n, acc2, b, ?_, rfl, rfl, by go_num, by omega, by omega, HL3.out, .inr ⟨rfl, HALL.out⟩, H4.out⟩, by simp [intOf]⟩
        rw [HTX.out]
        exact congrArg Value.string (ByteArray.mk_append_mk _ _)
    · have HST := Lib.hid hst; clear hst
      go_wp2_with fail
      go_ret
      exact ⟨rfl, HST.out⟩

def okP : (List Nat ⊕ Nat) → List Nat
  | .inl px => px
  | .inr _ => []

set_option maxHeartbeats 1000000 in
theorem rreadRow_any {w0 w : World} {F : SProp} (h : St w0 w F) {t : List Nat} (ht : Bit t) (hl : t.length ≤ 1000000000) {p : Nat} (hp : p ≤ t.length) {width : Nat} (h1 : 1 ≤ width) (hw : width ≤ 32768) {sb : ByteArray} (hsb : sb = ⟨(tx t).toArray⟩) :
    Calls Tryd.prog 48 #[.string sb, .int .i64 (p : Nat), .int .i64 (width : Nat)] w fun e w' =>
      e = .returned (.tuple #[.string ⟨(tx (okP (readRow t width p).2)).toArray⟩, .int .i64 ((readRow t width p).1 : Nat), .int .i64 (erN (readRow t width p).2 : Nat)]) ∧ St w0 w' F := by
  have HRN := Lib.hid (fun w n (hn : n ≤ 1000000) b => rrun_any w n hn b (j := (n : Int)) rfl)
  have HRD := Lib.hid (fun (w : World) (b : Bool) (q : Nat) (hq : q ≤ t.length) (most : Int) (vw : Value) (hr : Reads w 1 vw 104 ((faxW b).map txv)) => rread13_any b ht hl hq most hr hsb)
  clear hsb
  obtain ⟨res, hres⟩ : ∃ res, readRow t width p = res := ⟨_, rfl⟩
  rw [hres]
  rw [readRow] at hres
  have HRES := Lib.hid hres; clear hres
  have HW0 := Lib.hid (rwords13_any h false); clear h
  go_enter Tryd.func48, Tryd.ntmps48
  go_wp2_with fail
  refine HW0.out.mono ?_
  rintro e w2 ⟨v0, rfl, h2⟩
  obtain ⟨a0, c0, rfl⟩ := h2.reads.sub
  have HW1 := Lib.hid (rwords13_any h2 true); clear h2 HW0
  go_wp2_with fail
  refine HW1.out.mono ?_
  rintro e w3 ⟨v1, rfl, h3⟩
  obtain ⟨a1, c1, rfl⟩ := h3.reads.sub
  have h4 := h3.lit #[.slice a0 104 c0, .slice a1 104 c1] 24 2 rfl (by decide)
  have H4 := Lib.hid h4; clear h3 h4 HW1
  go_wp2_with fail
  generalize w3.heap.size = gW at *
  go_loopg [1, 9, 10] (t.length + 1 - p) (fun g vq vp vb wr => ∃ (q : Nat) (px : List Nat) (b : Bool), vq = .int .i64 q ∧ vp = .string ⟨(tx px).toArray⟩ ∧ vb = .bool b ∧ t.length + 1 ≤ g + q ∧ q ≤ t.length ∧ px.length < width ∧ rdRow t width g q px b = res ∧ St w0 wr (own 24 1 (.slice (some ⟨gW, 0, none⟩) 2 2) 2 [.slice a0 104 c0, .slice a1 104 c1] * (own 9 1 (.slice a1 104 c1) 104 ((faxW true).map txv) * (own 9 1 (.slice a0 104 c0) 104 ((faxW false).map txv) * F))))
  case atStart => exact ⟨p, [], false, rfl, rfl, rfl, by omega, hp, by simp; omega, HRES.out, H4.out⟩
  case round =>
    clear H4 HRES
    obtain ⟨q, px, b, rfl, rfl, rfl, hg, hq, hpw, hres, hst⟩ := hrel
    obtain ⟨g, rfl⟩ : ∃ g, gk = g + 1 := ⟨gk - 1, by omega⟩
    rw [rdRow] at hres
    have y0 : wr.cell? ⟨gW, 0, none⟩ = some (.slice a0 104 c0) := hst.own_cell (i := 0) rfl
    have y1 : wr.cell? ⟨gW, 1, none⟩ = some (.slice a1 104 c1) := hst.own_cell (i := 1) rfl
    have hlx : (tx px).length = px.length := by simp
    have hsub : (width : Int) - (px.length : Nat) = ((width - px.length : Nat) : Int) := by omega
    have C1 := HRD.out wr b q hq ((width - px.length : Nat) : Int) (cond b (.slice a1 104 c1) (.slice a0 104 c0)) (by
      cases b
      · exact hst.right.right.reads
      · exact hst.right.reads)
    obtain ⟨d, hd⟩ : ∃ d, d = width - px.length := ⟨_, rfl⟩
    rw [← hd] at hsub hres C1
    have HD := Lib.hid hd; clear hd
    cases hr : readL b t (d : Int) q with
    | mk k y =>
      rw [hr] at hres C1
      have HC1 := Lib.hid C1; clear C1 HRD
      cases y with
      | inr er =>
        have hok := readL_er hr hq
        simp only at hres
        subst hres
        have hx0 : ¬ (er : Int) = 0 := by have := hok.2.1; omega
        clear hr hok hg hq
        have HST := Lib.hid hst.right.right.right; clear hst
        cases b <;> (
          go_wp2_with fail
          refine HC1.out.mono ?_
          rintro e w5 ⟨z, x, p1, rfl, ⟨hp1, hz, hx⟩, _, rfl⟩
          simp only at hp1 hz hx
          subst hp1 hz hx
          go_wp2_with fail
          go_ret3
          exact ⟨rfl, HST.out⟩)
      | inl n =>
        have hok := readL_ok hr hq
        simp only at hres
        clear hr
        have hpn : px.length + n ≤ width := by have := HD.out; omega
        have hn6 : n ≤ 1000000 := by omega
        have HR := Lib.hid (fun w => HRN.out w n hn6 b)
        have hlen : (px ++ runP n b).length = px.length + n := by simp
        have hln : (tx (runP n b)).length = n := by simp
        have HTX := Lib.hid (tx_append px (runP n b))
        have hl2 : (tx (px ++ runP n b)).length = px.length + n := by simp
        have hba := ByteArray.mk_append_mk (tx px) (tx (runP n b))
        rw [← tx_append] at hba
        by_cases hw2 : px.length + n = width
        · rw [if_pos hw2] at hres
          have hl3 : ((px ++ runP n b).length : Int) = width := by omega
          have hl4 : (tx (px ++ runP n b)).length = (px ++ runP n b).length := by simp
          generalize px ++ runP n b = px2 at *
          have HRS := Lib.hid hres; clear hres
          have HH := Lib.hid (⟨hlen, hw2, hl2⟩ : _ ∧ _ ∧ _)
          have HB := Lib.hid hba
          have HST := Lib.hid hst.right.right.right; clear hst hlen hw2 hl2 hba hg hok HRN HTX hpn
          generalize tx (runP n b) = tr at *
          cases b <;> (
            go_wp2_with fail
            refine HC1.out.mono ?_
            rintro e w5 ⟨z, x, p1, rfl, ⟨hp1, hz, hx⟩, _, rfl⟩
            simp only at hp1 hz hx
            subst hp1 hz hx
            go_wp2_with fail
            refine (HR.out _).mono ?_
            rintro e w6 ⟨rfl, rfl⟩
            go_upto_region 11 with (fail)
            rw [HB.out]
            go_wp2_with fail
            go_ret3
            rw [← HRS.out]
            exact ⟨rfl, HST.out⟩)
        · rw [if_neg hw2] at hres
          have hl3 : ¬ ((px ++ runP n b).length : Int) = width := by omega
          have hl5 : (px ++ runP n b).length < width := by omega
          have hl4 : (tx (px ++ runP n b)).length = (px ++ runP n b).length := by simp
          generalize px ++ runP n b = px2 at *
          have HH := Lib.hid (⟨by omega, hok.2.1, hl5, hres⟩ : t.length + 1 ≤ g + k ∧ k ≤ t.length ∧ px2.length < width ∧ rdRow t width g k px2 (!b) = res)
          have HB := Lib.hid hba
          have HST := Lib.hid hst; clear hst hlen hw2 hl2 hba hg hok HRN HTX hpn hl5 hres
          generalize tx (runP n b) = tr at *
          cases b <;> (
            go_wp2_with fail
            refine HC1.out.mono ?_
            rintro e w5 ⟨z, x, p1, rfl, ⟨hp1, hz, hx⟩, _, rfl⟩
            simp only at hp1 hz hx
            subst hp1 hz hx
            go_wp2_with fail
            refine (HR.out _).mono ?_
            rintro e w6 ⟨rfl, rfl⟩
            go_upto_region 11 with (fail)
            rw [HB.out]
            go_wp2_with fail
            go_roundg g
            case measure => omega
            case rel => exact ⟨p1, px2, _, rfl, rfl, rfl, HH.out.1, HH.out.2.1, HH.out.2.2.1, HH.out.2.2.2, HST.out⟩)
#print axioms rreadRow_any

end Go.Proofs.YtdjoigobmmaaiaaDoor
