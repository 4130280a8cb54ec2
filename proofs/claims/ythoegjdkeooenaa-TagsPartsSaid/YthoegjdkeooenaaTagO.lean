/-
  Layer 23, the document: two pages that are one (package mezzotintref23).
-/
import Derived.Test.YthoegjdkeooenaaTagK
namespace Go.Proofs.Ythoegjdkeooenaa
open Go.RowKit Go.Mz
set_option linter.unusedVariables false
set_option linter.unusedSimpArgs false
set_option maxRecDepth 100000

set_option maxHeartbeats 40000000 in
theorem samePage_any {w0 w : World} {F : SProp} (h : St w0 w F) {p : PgD} {ao ac ar bo bc br : Option Addr} {no1 nc1 nr1 no2 nc2 nr2 co1 cc1 cr1 co2 cc2 cr2 : Nat} {R S : List FV}
    (hA : Stb w0 F (fun w => PgR w p (.slice ao no1 co1) (.slice ac nc1 cc1) (.slice ar nr1 cr1) R)) (hB : Stb w0 F (fun w => PgR w p (.slice bo no2 co2) (.slice bc nc2 cc2) (.slice br nr2 cr2) S)) (hlo : p.offs.length ≤ 1000000) (hlc : p.cnts.length ≤ 1000000) (hlr : p.rest.length ≤ 1000000) (hlv : ∀ f ∈ p.rest, f.vals.length ≤ 1000000) :
    Calls Try.prog 10 #[.agg (pgC p (.slice ao no1 co1) (.slice ac nc1 cc1) (.slice ar nr1 cr1)), .agg (pgC p (.slice bo no2 co2) (.slice bc nc2 cc2) (.slice br nr2 cr2))] w fun r w' => r = .returned (.bool true) ∧ St w0 w' F := by
  have HA := Lib.hid hA; have HB := Lib.hid hB
  have h1 := (h.alloc (.cells (pgC p (.slice ao no1 co1) (.slice ac nc1 cc1) (.slice ar nr1 cr1)) 30)).alloc (.cells (pgC p (.slice bo no2 co2) (.slice bc nc2 cc2) (.slice br nr2 cr2)) 30)
  have hsz : (w.alloc (.cells (pgC p (.slice ao no1 co1) (.slice ac nc1 cc1) (.slice ar nr1 cr1)) 30)).heap.size = w.heap.size + 1 := Array.size_push _
  rw [hsz] at h1
  have H1 := Lib.hid h1
  obtain ⟨e1, e2⟩ : no1 = p.offs.length ∧ no2 = p.offs.length := ⟨by
    obtain ⟨a, c, e⟩ := (hA w h).offs.sub; cases e; rfl, by
    obtain ⟨a, c, e⟩ := (hB w h).offs.sub; cases e; rfl⟩
  obtain ⟨e3, e4⟩ : nc1 = p.cnts.length ∧ nc2 = p.cnts.length := ⟨by
    obtain ⟨a, c, e⟩ := (hA w h).cnts.sub; cases e; rfl, by
    obtain ⟨a, c, e⟩ := (hB w h).cnts.sub; cases e; rfl⟩
  have hR := (hA w h).flds
  have hS := (hB w h).flds
  have hRl : R.length = p.rest.length := by rw [← hR]; simp
  have hSl : S.length = p.rest.length := by rw [← hS]; simp
  obtain ⟨e5, e6⟩ : nr1 = p.rest.length ∧ nr2 = p.rest.length := ⟨by
    obtain ⟨a, c, e⟩ := (hA w h).rest.row.sub; cases e; exact hRl, by
    obtain ⟨a, c, e⟩ := (hB w h).rest.row.sub; cases e; exact hSl⟩
  subst e1 e2 e3 e4 e5 e6
  clear h1 h hsz hA hB
  have HRS := Lib.hid (hR.trans hS.symm)
  obtain ⟨⟨lw, lh, lt, lW, lH⟩, per, bits, photo, planar, scheme, predict, low, two, offs, cnts, rest⟩ := p
  unfold pgC at H1
  unfold pgC
  simp only at H1 hRl hSl hlo hlc hlr hlv
  simp only
  have HRL := Lib.hid hRl; have HSL := Lib.hid hSl
  clear hR hS hRl hSl
  go_enter Try.func10, Try.ntmps10
  go_upto_region 1 with (fail)
  generalize hb0 : w.heap.size = b0 at *
  generalize hb1 : b0 + 1 = b1 at *
  clear hb0 hb1
  generalize World.alloc _ _ = wa at *
  have c0 := H1.out.right.cell 0 rfl
  have d0 := H1.out.cell 0 rfl
  have c1 := H1.out.right.cell 1 rfl
  have d1 := H1.out.cell 1 rfl
  have c2 := H1.out.right.cell 2 rfl
  have d2 := H1.out.cell 2 rfl
  have c3 := H1.out.right.cell 3 rfl
  have d3 := H1.out.cell 3 rfl
  have c4 := H1.out.right.cell 4 rfl
  have d4 := H1.out.cell 4 rfl
  have c5 := H1.out.right.cell 5 rfl
  have d5 := H1.out.cell 5 rfl
  have c6 := H1.out.right.cell 6 rfl
  have d6 := H1.out.cell 6 rfl
  have c7 := H1.out.right.cell 7 rfl
  have d7 := H1.out.cell 7 rfl
  have c8 := H1.out.right.cell 8 rfl
  have d8 := H1.out.cell 8 rfl
  have c9 := H1.out.right.cell 9 rfl
  have d9 := H1.out.cell 9 rfl
  have c10 := H1.out.right.cell 10 rfl
  have d10 := H1.out.cell 10 rfl
  have c11 := H1.out.right.cell 11 rfl
  have d11 := H1.out.cell 11 rfl
  have c12 := H1.out.right.cell 12 rfl
  have d12 := H1.out.cell 12 rfl
  have c13 := H1.out.right.cell 13 rfl
  have d13 := H1.out.cell 13 rfl
  have c14 := H1.out.right.cell 14 rfl
  have d14 := H1.out.cell 14 rfl
  have c15 := H1.out.right.cell 15 rfl
  have d15 := H1.out.cell 15 rfl
  have hF := H1.out.right.right
  have hoo : (offs == offs) = true := by simp
  have hcc : (cnts == cnts) = true := by simp
  have HSO := Lib.hid (fun (W : World) (h : St w0 W F) => (by have := rsame_any ((HA.out _ h).offs) ((HB.out _ h).offs) (Nat.le_trans hlo (by decide)); rw [show (PgD.offs _ == PgD.offs _) = true from hoo] at this; exact this : Calls Try.prog 34 #[.slice ao offs.length co1, .slice bo offs.length co2] W fun r w' => r = .returned (.bool true) ∧ ∃ m, w' = W.drewN m))
  have HSC := Lib.hid (fun (W : World) (h : St w0 W F) => (by have := rsame_any ((HA.out _ h).cnts) ((HB.out _ h).cnts) (Nat.le_trans hlc (by decide)); rw [show (PgD.cnts _ == PgD.cnts _) = true from hcc] at this; exact this : Calls Try.prog 34 #[.slice ac cnts.length cc1, .slice bc cnts.length cc2] W fun r w' => r = .returned (.bool true) ∧ ∃ m, w' = W.drewN m))
  have HF := Lib.hid hF
  clear hF hoo hcc
  go_upto_region 3 with (first | (go_at_call_of 34 (Value.slice ao offs.length co1); refine (HSO.out _ HF.out).mono ?_; rintro r w9 ⟨rfl, m1, rfl⟩) | (go_at_call_of 34 (Value.slice ac cnts.length cc1); refine (HSC.out _ (HF.out.drewN m1)).mono ?_; rintro r w9 ⟨rfl, m2, rfl⟩))
  go_wp2_with fail
  go_loopw [5] (fun vi wr => ∃ (k : Nat), k ≤ rest.length ∧ vi = .int .i64 k ∧ St w0 wr (blk b1 (.cells #[.int .i64 lw, .int .i64 lh, .bool lt, .int .i64 lW, .int .i64 lH, .int .i64 per, .int .i64 bits, .int .u64 (photo : Int), .bool planar, .int .i64 scheme, .bool predict, .bool low, .bool two, .slice bo offs.length co2, .slice bc cnts.length cc2, .slice br rest.length cr2] 30) * (blk b0 (.cells #[.int .i64 lw, .int .i64 lh, .bool lt, .int .i64 lW, .int .i64 lH, .int .i64 per, .int .i64 bits, .int .u64 (photo : Int), .bool planar, .int .i64 scheme, .bool predict, .bool low, .bool two, .slice ao offs.length co1, .slice ac cnts.length cc1, .slice ar rest.length cr1] 30) * F))) (fun vi _ => rest.length - (intOf vi).toNat)
  case atStart => exact ⟨0, by omega, rfl, (by first | exact (H1.out.drewN _).drewN _ | exact H1.out.drewN _)⟩
  case round =>
    clear HF c0 d0 c1 d1 c2 d2 c3 d3 c4 d4 c5 d5 c6 d6 c7 d7 c8 d8 c9 d9 c10 d10 c11 d11 c12 d12 c13 d13 c14 d14 c15 d15
    obtain ⟨k, hk, rfl, hst⟩ := hrel
    have H2 := Lib.hid hst
    have HF := Lib.hid hst.right.right
    clear hst
    have c0 := H2.out.right.cell 0 rfl
    have d0 := H2.out.cell 0 rfl
    have c1 := H2.out.right.cell 1 rfl
    have d1 := H2.out.cell 1 rfl
    have c2 := H2.out.right.cell 2 rfl
    have d2 := H2.out.cell 2 rfl
    have c3 := H2.out.right.cell 3 rfl
    have d3 := H2.out.cell 3 rfl
    have c4 := H2.out.right.cell 4 rfl
    have d4 := H2.out.cell 4 rfl
    have c5 := H2.out.right.cell 5 rfl
    have d5 := H2.out.cell 5 rfl
    have c6 := H2.out.right.cell 6 rfl
    have d6 := H2.out.cell 6 rfl
    have c7 := H2.out.right.cell 7 rfl
    have d7 := H2.out.cell 7 rfl
    have c8 := H2.out.right.cell 8 rfl
    have d8 := H2.out.cell 8 rfl
    have c9 := H2.out.right.cell 9 rfl
    have d9 := H2.out.cell 9 rfl
    have c10 := H2.out.right.cell 10 rfl
    have d10 := H2.out.cell 10 rfl
    have c11 := H2.out.right.cell 11 rfl
    have d11 := H2.out.cell 11 rfl
    have c12 := H2.out.right.cell 12 rfl
    have d12 := H2.out.cell 12 rfl
    have c13 := H2.out.right.cell 13 rfl
    have d13 := H2.out.cell 13 rfl
    have c14 := H2.out.right.cell 14 rfl
    have d14 := H2.out.cell 14 rfl
    have c15 := H2.out.right.cell 15 rfl
    have d15 := H2.out.cell 15 rfl
    by_cases hkn : k < rest.length
    · have hkI : (k : Int) < rest.length := by omega
      have hkR : k < R.length := by rw [HRL.out]; exact hkn
      have hkS : k < S.length := by rw [HSL.out]; exact hkn
      have hxR := List.getElem?_eq_getElem hkR
      have hxS := List.getElem?_eq_getElem hkS
      have hmR := List.getElem_mem hkR
      have hmS := List.getElem_mem hkS
      have hoo : R[k].2 = S[k].2 := by
        have h1 : (fl R)[k]? = (fl S)[k]? := by rw [HRS.out]
        rw [List.getElem?_map, List.getElem?_map, hxR, hxS] at h1
        simpa using h1
      have hRr := (HA.out _ HF.out).rest
      have hSr := (HB.out _ HF.out).rest
      have hRw := hRr.row
      have hSw := hSr.row
      rw [HRL.out] at hRw
      rw [HSL.out] at hSw
      obtain ⟨b1', o1', rfl, x0, x1, x2⟩ := reads_fld hRw hxR
      obtain ⟨b2', o2', rfl, y0, y1, y2⟩ := reads_fld hSw hxS
      obtain ⟨av, cv, hav⟩ := (hRr.vals _ hmR).sub
      obtain ⟨bv', dv, hbv⟩ := (hSr.vals _ hmS).sub
      have HVA := Lib.hid (fun (W : World) (h : St w0 W F) => (HA.out _ h).rest.vals _ hmR)
      have HVB := Lib.hid (fun (W : World) (h : St w0 W F) => (HB.out _ h).rest.vals _ hmS)
      generalize R[k] = r1 at *
      generalize S[k] = s1 at *
      obtain ⟨rv, o⟩ := r1
      obtain ⟨sv, o'⟩ := s1
      simp only at hav hbv hoo x0 x1 x2 y0 y1 y2
      subst hoo hav hbv
      have hvv : (o.vals == o.vals) = true := by simp
      have hvl : o.vals.length ≤ 100000000 := by
        have h1 : o ∈ rest := by
          have this : fl R = rest := (HA.out _ HF.out).flds
          rw [← this]; exact List.mem_map_of_mem hmR
        have := hlv o h1
        omega
      have HSV := Lib.hid (fun (W : World) (h : St w0 W F) => (by have := rsame_any (HVA.out _ h) (HVB.out _ h) hvl; simp only at this; rw [hvv] at this; exact this : Calls Try.prog 34 #[.slice av o.vals.length cv, .slice bv' o.vals.length dv] W fun r w' => r = .returned (.bool true) ∧ ∃ m, w' = W.drewN m))
      have ht : ((o.tag : Int) != (o.tag : Int)) = false := by simp
      have hkd : (o.kind != o.kind) = false := by simp
      clear hxR hxS hmR hmS hvv hvl HVA HVB hRr hSr hRw hSw
      go_wp2_with fail
      go_quiet (first | (go_at_call 34; exact Calls.quiet_of (HSV.out _ (HF.out.drewN _))))
      go_wp2_with fail
      exact ⟨⟨k + 1, by omega, by go_num, H2.out.drewN _⟩, by simp [intOf]; omega⟩
    · obtain rfl : k = rest.length := by omega
      have hkI : ¬ ((rest.length : Int) < rest.length) := by omega
      go_wp2_with fail
      go_ret
      exact ⟨rfl, HF.out⟩
end Go.Proofs.Ythoegjdkeooenaa
