/-
  Layer 23: how many parts any page has; which tags and schemes there are (TagsParts).
-/
import Derived.Test.YthoegjdkeooenaaTagAf
namespace Go.Proofs.Ythoegjdkeooenaa
open Go.RowKit Go.Mz
set_option linter.unusedVariables false
set_option linter.unusedSimpArgs false
set_option maxRecDepth 100000

/-- How many parts, of all planes, as the machine says it. -/
def partsW (p : PgD) : Int := if p.planar then wrap64 (countL p.lay * p.per) else countL p.lay
set_option maxHeartbeats 40000000 in
theorem rpartsW_any {w0 w : World} {F : SProp} (h : St w0 w F) {p : PgD} {vo vc vr : Value} (hr : rightL p.lay) (hov : vo.oneCell' = true) (hcv : vc.oneCell' = true) (hrv : vr.oneCell' = true) :
    Calls Try.prog 21 #[.agg (pgC p vo vc vr)] w fun r w' => r = .returned (.int .i64 (partsW p)) ∧ St w0 w' F := by
  have hb1 := rightL_w hr
  obtain ⟨g1, g2, g3, g4, _, _⟩ := hr
  obtain ⟨h1, h2, h3, h4⟩ := hb1
  obtain ⟨a1, a2⟩ := across_le g1 g3 h1 h2
  obtain ⟨b1, b2⟩ := across_le g2 g4 h3 h4
  have hA := (h.alloc (.cells (pgC p vo vc vr) 30)).alloc (.cells (layA p.lay) 26)
  have hsz : (w.alloc (.cells (pgC p vo vc vr) 30)).heap.size = w.heap.size + 1 := Array.size_push _
  rw [hsz] at hA
  have HA := Lib.hid hA
  clear h hA hsz
  obtain ⟨PP, hPP⟩ : ∃ PP, PP = partsW p := ⟨_, rfl⟩
  rw [← hPP]
  unfold partsW countL at hPP
  have hXw := fun (k : Nat) => up_step (a := p.lay.width) (b := p.lay.w) h1 k
  have hYw := fun (k : Nat) => up_step (a := p.lay.height) (b := p.lay.h) h3 k
  obtain ⟨X, hX⟩ : ∃ X : Nat, (p.lay.width + p.lay.w - 1) / p.lay.w = X := ⟨((p.lay.width + p.lay.w - 1) / p.lay.w).toNat, by omega⟩
  obtain ⟨Y, hY⟩ : ∃ Y : Nat, (p.lay.height + p.lay.h - 1) / p.lay.h = Y := ⟨((p.lay.height + p.lay.h - 1) / p.lay.h).toNat, by omega⟩
  rw [hX] at hXw a1 a2 hPP
  rw [hY] at hYw b1 b2 hPP
  clear hX hY
  obtain ⟨⟨Wd, Ht, ti, W, H⟩, per, bts, photo, pl, scheme, pr, lo, tw, offs, cnts, rest⟩ := p
  unfold pgC layA at HA
  simp only at *
  unfold pgC
  have HXW := Lib.hid hXw; have HYW := Lib.hid hYw; have HPP := Lib.hid hPP
  clear hXw hYw hPP
  go_enter Try.func21, Try.ntmps21
  go_upto_region 3 with (fail)
  generalize hb0 : w.heap.size = b0 at *
  generalize hbb : b0 + 1 = bl at *
  clear hb0 hbb
  generalize World.alloc _ _ = w1 at *
  have c0 := HA.out.cell 0 rfl
  have c1 := HA.out.cell 1 rfl
  have c3 := HA.out.cell 3 rfl
  have c4 := HA.out.cell 4 rfl
  have d8 := HA.out.right.cell 8 rfl
  have d5 := HA.out.right.cell 5 rfl
  go_wp2_with fail
  go_loop [6, 4] (fun vi vx => ∃ k : Nat, k ≤ X ∧ vx = .int .i64 (k : Int) ∧ ∃ j : Int, j = (k : Int) * W ∧ vi = .int .i64 j ∧ 0 ≤ j ∧ j ≤ 65536) (fun _ vx => X - (intOf vx).toNat)
  case atStart => exact ⟨0, by omega, rfl, 0, by simp, rfl, by omega, by omega⟩
  case round =>
    obtain ⟨k, hk, rfl, j, hj, rfl, hj0, hj9⟩ := hrel
    have hst := HXW.out k
    rw [← hj] at hst
    by_cases hkn : k < X
    · have hjw : j < Wd := hst.1 (by omega)
      have hj2 : j + W = ((k + 1 : Nat) : Int) * W := by rw [hj]; push_cast; rw [Int.add_mul, Int.one_mul]
      have HJ := Lib.hid hj2
      clear hst hj hj2
      go_wp2_with fail
      exact ⟨⟨k + 1, by omega, by go_num, j + W, HJ.out, by go_num, by omega, by omega⟩, by simp [intOf]; omega⟩
    · obtain rfl : k = X := by omega
      have hjw : ¬ j < Wd := fun h => by have := hst.2 h; omega
      clear hst hj
      go_wp2_with fail
      go_loop [7, 5] (fun vi vx => ∃ m : Nat, m ≤ Y ∧ vx = .int .i64 (m : Int) ∧ ∃ j : Int, j = (m : Int) * H ∧ vi = .int .i64 j ∧ 0 ≤ j ∧ j ≤ 65536) (fun _ vx => Y - (intOf vx).toNat)
      case atStart => exact ⟨0, by omega, rfl, 0, by simp, rfl, by omega, by omega⟩
      case round =>
        obtain ⟨m, hm, rfl, i, hi, rfl, hi0, hi9⟩ := hrel
        have hst := HYW.out m
        rw [← hi] at hst
        by_cases hmn : m < Y
        · have hiw : i < Ht := hst.1 (by omega)
          have hi2 : i + H = ((m + 1 : Nat) : Int) * H := by rw [hi]; push_cast; rw [Int.add_mul, Int.one_mul]
          have HJ := Lib.hid hi2
          clear hst hi hi2
          go_wp2_with fail
          exact ⟨⟨m + 1, by omega, by go_num, i + H, HJ.out, by go_num, by omega, by omega⟩, by simp [intOf]; omega⟩
        · obtain rfl : m = Y := by omega
          have hiw : ¬ i < Ht := fun h => by have := hst.2 h; omega
          clear hst hi
          obtain ⟨n, hn⟩ : ∃ n, n = (k : Int) * (m : Int) := ⟨_, rfl⟩
          have hn0 : 0 ≤ n := by rw [hn]; exact Int.mul_nonneg (by omega) (by omega)
          have hn9 : n ≤ 1073741824 := by rw [hn]; have := Int.mul_le_mul a2 b2 (by omega) (by omega); omega
          have hw1 : IntKind.i64.wrap ((k : Int) * (m : Int)) = n := by rw [← hn]; exact IntWalk.i64_in _ (by omega)
          have hP := HPP.out
          rw [← hn] at hP
          have HP := Lib.hid hP
          clear hP
          cases pl
          · go_wp2_with fail
            go_ret
            refine ⟨?_, HA.out.right.right⟩
            rw [HP.out]; simp [hn]
          · go_wp2_with fail
            go_ret
            refine ⟨?_, HA.out.right.right⟩
            rw [HP.out]; simp [hn]
set_option maxHeartbeats 40000000 in
theorem parts_any {w0 w : World} {F : SProp} (h : St w0 w F) {p : PgD} {ao ac ar : Option Addr} {no nc nr co cc cr : Nat} :
    Calls Try.prog 14 #[.agg (pgC p (.slice ao no co) (.slice ac nc cc) (.slice ar nr cr))] w fun r w' => r = .returned (.tuple #[.int .i64 (if rightL p.lay then partsW p else 0), .int .i64 (if rightL p.lay then 0 else 1)]) ∧ St w0 w' F := by
  have hA := h.alloc (.cells (pgC p (.slice ao no co) (.slice ac nc cc) (.slice ar nr cr)) 30)
  have HC := Lib.hid (count_any hA p.lay)
  have c0 := hA.cell 0 rfl
  have c1 := hA.cell 1 rfl
  have c2 := hA.cell 2 rfl
  have c3 := hA.cell 3 rfl
  have c4 := hA.cell 4 rfl
  have HA := Lib.hid hA
  clear hA h
  obtain ⟨⟨Wd, Ht, ti, W, H⟩, per, bts, photo, pl, scheme, pr, lo, tw, offs, cnts, rest⟩ := p
  simp only at HC
  unfold layA at HC
  simp only at HC
  obtain ⟨rb, hrb⟩ : ∃ rb : Bool, rb = decide (rightL ⟨Wd, Ht, ti, W, H⟩) := ⟨_, rfl⟩
  obtain ⟨CL, hCL⟩ : ∃ CL, CL = countL ⟨Wd, Ht, ti, W, H⟩ := ⟨_, rfl⟩
  have e1 : (if rightL ⟨Wd, Ht, ti, W, H⟩ then countL ⟨Wd, Ht, ti, W, H⟩ else 0) = if rb = true then CL else 0 := by rw [hrb, hCL]; simp
  have e2 : (if rightL ⟨Wd, Ht, ti, W, H⟩ then (0 : Int) else 1) = if rb = true then 0 else 1 := by rw [hrb]; simp
  have e3 : (if rightL ⟨Wd, Ht, ti, W, H⟩ then partsW ⟨⟨Wd, Ht, ti, W, H⟩, per, bts, photo, pl, scheme, pr, lo, tw, offs, cnts, rest⟩ else 0) = if rb = true then (if pl = true then wrap64 (CL * per) else CL) else 0 := by rw [hrb, hCL]; simp [partsW]
  rw [e1, e2] at HC
  rw [e2, e3]
  clear e1 e2 e3 hrb hCL
  unfold pgC at HA c0 c1 c2 c3 c4 HC ⊢
  go_enter Try.func14, Try.ntmps14
  go_wp2_with (go_at_call 45; apply stop)
  refine on (HC.out.mono ?_)
  rintro e w1 ⟨rfl, h1⟩
  have d4 := h1.cell 8 rfl
  have d5 := h1.cell 5 rfl
  have H1 := Lib.hid h1
  clear h1 HC HA c0 c1 c2 c3 c4
  cases rb
  · simp only [Bool.false_eq_true, if_false]
    go_wp2_with fail
    go_ret2
    exact ⟨rfl, H1.out.right⟩
  · simp only [if_true]
    cases pl
    · go_wp2_with fail
      go_ret2
      exact ⟨rfl, H1.out.right⟩
    · go_wp2_with fail
      go_ret2
      exact ⟨rfl, H1.out.right⟩
namespace tparts
theorem faxI (n : Int) : faxN n = (decide (2 ≤ n) && decide (n ≤ 4)) := by
  unfold faxN
  rw [Bool.eq_iff_iff]; simp; omega
set_option maxHeartbeats 40000000 in
theorem walk (y : PgI) (tag : Int) (sch : Int) (w : World) (hy : PgIn w y) (ht : (Lit.int .u16 tag).wf = true) :
    Calls Try.prog 5 #[y.val, .int .u16 tag, .int .i64 sch] w fun e w' => e = .returned (.bool true) ∧ Below w.heap.size w w' := by
  obtain ⟨p, ao, ac, ar, co, cc, cr, R⟩ := y
  unfold PgI.val
  simp only
  have htg : 0 ≤ tag ∧ tag < 65536 := by
    simp [Lit.wf, IntKind.min, IntKind.max, IntKind.bits, IntKind.signed] at ht
    omega
  obtain ⟨tn, rfl⟩ : ∃ tn : Nat, tag = tn := ⟨tag.toNat, by omega⟩
  have ht2 : tn < 65536 := by omega
  clear htg ht hy
  generalize p.offs.length = no
  generalize p.cnts.length = nc
  generalize R.length = nr
  have H := Lib.hid ((St.init w).alloc (.cells (pgC p (.slice ao no co) (.slice ac nc cc) (.slice ar nr cr)) 30))
  have fin' : ∀ w', St w w' (Mz.old w) → Below w.heap.size w w' := fun w' h => (h.perm ((emp_star _).symm.trans (star_comm _ _))).below
  have FIN := Lib.hid fin'
  obtain ⟨b0, hb0⟩ : ∃ b0, b0 = w.heap.size := ⟨_, rfl⟩
  rw [← hb0] at H
  clear fin'
  obtain ⟨rb, hrb⟩ : ∃ rb : Bool, rb = decide (rightL p.lay) := ⟨_, rfl⟩
  have HRB := Lib.hid hrb
  obtain ⟨kb, hkb⟩ : ∃ kb : Bool, kb = knownL.contains tn := ⟨_, rfl⟩
  obtain ⟨sb, hsb⟩ : ∃ sb : Bool, sb = schemeI sch := ⟨_, rfl⟩
  have HKB := Lib.hid hkb; have HSB := Lib.hid hsb
  clear hrb hkb hsb
  unfold pgC
  go_enter Try.func5, Try.ntmps5
  go_upto_region 1 with (fail)
  rw [← hb0]
  clear hb0
  have HX : Hid (St w _ (blk b0 (.cells (pgC p (.slice ao no co) (.slice ac nc cc) (.slice ar nr cr)) 30) * Mz.old w)) := H
  clear H
  unfold pgC at HX
  generalize World.alloc _ _ = wa at *
  have H : Hid (St w wa (blk b0 (.cells (pgC p (.slice ao no co) (.slice ac nc cc) (.slice ar nr cr)) 30) * Mz.old w)) := HX
  clear HX
  go_wp2_with (go_at_call 6; apply stop)
  refine on ((lives_any H.out).mono ?_)
  rintro e w1 ⟨rfl, h1⟩
  have H1 := Lib.hid h1
  have HP := parts_any h1 (p := p) (ao := ao) (ac := ac) (ar := ar) (no := no) (nc := nc) (nr := nr) (co := co) (cc := cc) (cr := cr)
  obtain ⟨PW, hPW⟩ : ∃ PW, PW = partsW p := ⟨_, rfl⟩
  obtain ⟨nv, hnv⟩ : ∃ nv, nv = (if rightL p.lay then partsW p else 0) := ⟨_, rfl⟩
  obtain ⟨ev, hev⟩ : ∃ ev : Int, ev = (if rightL p.lay then (0 : Int) else 1) := ⟨_, rfl⟩
  rw [← hnv, ← hev] at HP
  have HNV := Lib.hid hnv; have HEV := Lib.hid hev
  have HP2 := Lib.hid HP
  have HPW := Lib.hid hPW
  clear HP h1 H hnv hev hPW
  go_wp2_with (first | (go_at_call 14; apply stop) | (refine wpList_load_blk rfl 30 _ rfl H1.out rfl Try.underlying30 rfl (by show _ = some 16; kernel_rfl) ?_))
  refine on (HP2.out.mono ?_)
  rintro e w2 ⟨rfl, h2⟩
  have HK := known_any h2 tn rfl
  rw [← HKB.out] at HK
  have HK2 := Lib.hid HK
  clear HK HP2 H1 h2
  go_wp2_with (go_at_call 15; apply stop)
  refine on (HK2.out.mono ?_)
  rintro e w3 ⟨rfl, h3⟩
  have HK := rknown_any h3 tn rfl
  rw [← HKB.out] at HK
  have HK3 := Lib.hid HK
  clear HK HK2 h3
  go_wp2_with (go_at_call 16; apply stop)
  refine on (HK3.out.mono ?_)
  rintro e w4 ⟨rfl, h4⟩
  have HS := scheme_any h4 sch
  rw [← HSB.out] at HS
  have HS2 := Lib.hid HS
  clear HS HK3 h4
  have hkk : (kb != kb) = false := by simp
  go_wp2_with (go_at_call 17; apply stop)
  refine on (HS2.out.mono ?_)
  rintro e w5 ⟨rfl, h5⟩
  have HS := rscheme_any sch w5
  rw [← HSB.out] at HS
  have HS3 := Lib.hid HS
  have H5 := Lib.hid h5
  clear HS HS2 h5
  go_wp2_with (go_at_call 18; apply stop)
  refine on (HS3.out.mono ?_)
  rintro e w6 ⟨rfl, rfl⟩
  have hss : (sb != sb) = false := by simp
  have HFX := Lib.hid (fax_any sch w6)
  obtain ⟨xb, hxb⟩ : ∃ xb : Bool, xb = faxN sch := ⟨_, rfl⟩
  rw [← hxb] at HFX
  have HXB := Lib.hid hxb
  clear HS3 hxb
  go_wp2_with (go_at_call 19; apply stop)
  refine on (HFX.out.mono ?_)
  rintro e w7 ⟨rfl, rfl⟩
  clear HFX
  by_cases hs2 : 2 ≤ sch
  · by_cases hs4 : sch ≤ 4
    · obtain rfl : xb = true := by rw [HXB.out, faxI, decide_eq_true hs2, decide_eq_true hs4]; rfl
      go_upto_region 6 with (fail)
      clear hs2 hs4
      have c0 := H5.out.cell 0 rfl
      have c1 := H5.out.cell 1 rfl
      have c2 := H5.out.cell 2 rfl
      have c3 := H5.out.cell 3 rfl
      have c4 := H5.out.cell 4 rfl
      have HR := rright_any H5.out p.lay
      rw [← HRB.out] at HR
      unfold layA at HR
      have HR2 := Lib.hid HR
      clear HR
      go_wp2_with (go_at_call 20; apply stop)
      refine on (HR2.out.mono ?_)
      rintro e w8 ⟨rfl, h8⟩
      have H8 := Lib.hid h8
      clear h8 HR2 H5 c0 c1 c2 c3 c4
      cases rb
      · have hnr : ¬ rightL p.lay := by simpa using HRB.out.symm
        obtain rfl : nv = 0 := by rw [HNV.out, if_neg hnr]
        obtain rfl : ev = 1 := by rw [HEV.out, if_neg hnr]
        clear hnr
        go_wp2_with fail
        go_ret
        exact ⟨rfl, FIN.out _ H8.out.right⟩
      · have hr : rightL p.lay := by simpa using HRB.out.symm
        obtain rfl : nv = PW := by rw [HNV.out, if_pos hr, HPW.out]
        obtain rfl : ev = 0 := by rw [HEV.out, if_pos hr]
        have HPT := rpartsW_any H8.out (p := p) (vo := .slice ao no co) (vc := .slice ac nc cc) (vr := .slice ar nr cr) hr rfl rfl rfl
        rw [← HPW.out] at HPT
        have HPT2 := Lib.hid HPT
        clear HPT hr
        go_wp2_with (first | (go_at_call 21; apply stop) | (refine wpList_load_blkG rfl 30 _ rfl H8.out rfl Try.underlying30 rfl (by show _ = some 16; kernel_rfl) ?_))
        refine on (HPT2.out.mono ?_)
        rintro e w9 ⟨rfl, h9⟩
        have H9 := Lib.hid h9
        clear h9 HPT2 H8
        have hnn : (nv == nv) = true := by simp
        go_wp2_with fail
        go_ret
        exact ⟨rfl, FIN.out _ H9.out.right⟩
    · obtain rfl : xb = false := by rw [HXB.out, faxI, decide_eq_true hs2, decide_eq_false hs4]; rfl
      go_upto_region 6 with (fail)
      clear hs2 hs4
      have c0 := H5.out.cell 0 rfl
      have c1 := H5.out.cell 1 rfl
      have c2 := H5.out.cell 2 rfl
      have c3 := H5.out.cell 3 rfl
      have c4 := H5.out.cell 4 rfl
      have HR := rright_any H5.out p.lay
      rw [← HRB.out] at HR
      unfold layA at HR
      have HR2 := Lib.hid HR
      clear HR
      go_wp2_with (go_at_call 20; apply stop)
      refine on (HR2.out.mono ?_)
      rintro e w8 ⟨rfl, h8⟩
      have H8 := Lib.hid h8
      clear h8 HR2 H5 c0 c1 c2 c3 c4
      cases rb
      · have hnr : ¬ rightL p.lay := by simpa using HRB.out.symm
        obtain rfl : nv = 0 := by rw [HNV.out, if_neg hnr]
        obtain rfl : ev = 1 := by rw [HEV.out, if_neg hnr]
        clear hnr
        go_wp2_with fail
        go_ret
        exact ⟨rfl, FIN.out _ H8.out.right⟩
      · have hr : rightL p.lay := by simpa using HRB.out.symm
        obtain rfl : nv = PW := by rw [HNV.out, if_pos hr, HPW.out]
        obtain rfl : ev = 0 := by rw [HEV.out, if_pos hr]
        have HPT := rpartsW_any H8.out (p := p) (vo := .slice ao no co) (vc := .slice ac nc cc) (vr := .slice ar nr cr) hr rfl rfl rfl
        rw [← HPW.out] at HPT
        have HPT2 := Lib.hid HPT
        clear HPT hr
        go_wp2_with (first | (go_at_call 21; apply stop) | (refine wpList_load_blkG rfl 30 _ rfl H8.out rfl Try.underlying30 rfl (by show _ = some 16; kernel_rfl) ?_))
        refine on (HPT2.out.mono ?_)
        rintro e w9 ⟨rfl, h9⟩
        have H9 := Lib.hid h9
        clear h9 HPT2 H8
        have hnn : (nv == nv) = true := by simp
        go_wp2_with fail
        go_ret
        exact ⟨rfl, FIN.out _ H9.out.right⟩
  · obtain rfl : xb = false := by rw [HXB.out, faxI, decide_eq_false hs2]; rfl
    go_upto_region 6 with (fail)
    clear hs2
    have c0 := H5.out.cell 0 rfl
    have c1 := H5.out.cell 1 rfl
    have c2 := H5.out.cell 2 rfl
    have c3 := H5.out.cell 3 rfl
    have c4 := H5.out.cell 4 rfl
    have HR := rright_any H5.out p.lay
    rw [← HRB.out] at HR
    unfold layA at HR
    have HR2 := Lib.hid HR
    clear HR
    go_wp2_with (go_at_call 20; apply stop)
    refine on (HR2.out.mono ?_)
    rintro e w8 ⟨rfl, h8⟩
    have H8 := Lib.hid h8
    clear h8 HR2 H5 c0 c1 c2 c3 c4
    cases rb
    · have hnr : ¬ rightL p.lay := by simpa using HRB.out.symm
      obtain rfl : nv = 0 := by rw [HNV.out, if_neg hnr]
      obtain rfl : ev = 1 := by rw [HEV.out, if_neg hnr]
      clear hnr
      go_wp2_with fail
      go_ret
      exact ⟨rfl, FIN.out _ H8.out.right⟩
    · have hr : rightL p.lay := by simpa using HRB.out.symm
      obtain rfl : nv = PW := by rw [HNV.out, if_pos hr, HPW.out]
      obtain rfl : ev = 0 := by rw [HEV.out, if_pos hr]
      have HPT := rpartsW_any H8.out (p := p) (vo := .slice ao no co) (vc := .slice ac nc cc) (vr := .slice ar nr cr) hr rfl rfl rfl
      rw [← HPW.out] at HPT
      have HPT2 := Lib.hid HPT
      clear HPT hr
      go_wp2_with (first | (go_at_call 21; apply stop) | (refine wpList_load_blkG rfl 30 _ rfl H8.out rfl Try.underlying30 rfl (by show _ = some 16; kernel_rfl) ?_))
      refine on (HPT2.out.mono ?_)
      rintro e w9 ⟨rfl, h9⟩
      have H9 := Lib.hid h9
      clear h9 HPT2 H8
      have hnn : (nv == nv) = true := by simp
      go_wp2_with fail
      go_ret
      exact ⟨rfl, FIN.out _ H9.out.right⟩
end tparts
end Go.Proofs.Ythoegjdkeooenaa
