/-
  Layer 23: the fields that tell of any page (TagsFields).
-/
import Derived.Test.YthoegjdkeooenaaTagAd
import Derived.Test.YthoegjdkeooenaaTagAe
namespace Go.Proofs.Ythoegjdkeooenaa
open Go.RowKit Go.Mz
set_option linter.unusedVariables false
set_option linter.unusedSimpArgs false
set_option maxRecDepth 100000

theorem PgR.of_old {w : World} {p : PgD} {vo vc vr : Value} {R : List FV} (h : PgR w p vo vc vr R) : Stb w (Mz.old w) (fun w' => PgR w' p vo vc vr R) :=
  fun w' hw => ⟨Stb.of_old h.offs w' hw, Stb.of_old h.cnts w' hw, FldsR.of_old h.rest w' hw, h.flds⟩
/-- The fields' own sizes. -/
theorem fieldsV_small {p : PgD} {al lg : Bool} (ho : p.offs.length ≤ 200) (hc : p.cnts.length ≤ 200) (hp : p.per ≤ 100) (hr : p.rest.length ≤ 64) (hv : ∀ f ∈ p.rest, f.vals.length ≤ 600) :
    (fieldsV p al lg).length ≤ 100 ∧ ∀ f ∈ fieldsV p al lg, f.vals.length ≤ 1000 := by
  unfold fieldsV
  split
  · have hl := (sortF_perm (baseL p al lg ++ p.rest)).length_eq
    have hb := (baseL_len p al lg).1
    rw [List.length_append] at hl
    refine ⟨by unfold fieldsL; omega, fun f hf => ?_⟩
    have hm := (sortF_perm _).subset hf
    rcases List.mem_append.1 hm with hm | hm
    · unfold baseL base9 faxL cutL wideK at hm
      have hbr : (bitsR p).length ≤ 1000 := by unfold bitsR; rw [List.length_replicate]; omega
      rcases List.mem_append.1 hm with hm | hm
      · rcases List.mem_append.1 hm with hm | hm
        · simp only [List.mem_cons, List.not_mem_nil, or_false] at hm
          rcases hm with e | e | e | e | e | e | e | e | e <;> rw [e] <;> simp only [List.length_cons, List.length_nil] <;> omega
        · split at hm
          · simp only [List.mem_cons, List.not_mem_nil, or_false] at hm
            rw [hm]; simp
          · cases hm
      · split at hm <;> simp only [List.mem_cons, List.not_mem_nil, or_false] at hm
        · rcases hm with e | e | e | e <;> rw [e] <;> simp only [List.length_cons, List.length_nil] <;> omega
        · rcases hm with e | e | e <;> rw [e] <;> simp only [List.length_cons, List.length_nil] <;> omega
    · have := hv f hm; omega
  · exact ⟨by simp, fun f hf => by cases hf⟩
namespace tfields
set_option maxHeartbeats 40000000 in
theorem walk (y : PgI) (al lg : Bool) (w : World) (hy : PgIn w y) :
    Calls Try.prog 4 #[y.val, .bool al, .bool lg] w fun e w' => e = .returned (.bool true) ∧ Below w.heap.size w w' := by
  obtain ⟨p, ao, ac, ar, co, cc, cr, R⟩ := y
  obtain ⟨hrd, hper, hbits, _, _, hT, hb⟩ := hy
  simp only at hrd hper hbits hT hb
  unfold PgI.val
  simp only
  have HR := Lib.hid (PgR.of_old hrd)
  have hfl : fl R = p.rest := hrd.flds
  have H := Lib.hid ((St.init w).alloc (.cells (pgC p (.slice ao p.offs.length co) (.slice ac p.cnts.length cc) (.slice ar R.length cr)) 30))
  have fin' : ∀ w', St w w' (Mz.old w) → Below w.heap.size w w' := fun w' h => (h.perm ((emp_star _).symm.trans (star_comm _ _))).below
  have FIN := Lib.hid fin'
  have HT := Lib.hid hT; have HB := Lib.hid hb; have HFL := Lib.hid hfl; have HPB := Lib.hid (And.intro hper hbits)
  obtain ⟨fb, hfb⟩ : ∃ fb, fb = fewB R := ⟨_, rfl⟩
  obtain ⟨b0, hb0⟩ : ∃ b0, b0 = w.heap.size := ⟨_, rfl⟩
  rw [← hb0] at H
  have HB0 := Lib.hid hb0
  clear fin' hrd hT hb hfl hper hbits
  unfold pgC at H
  unfold pgC
  go_enter Try.func4, Try.ntmps4
  go_upto_region 1 with (fail)
  rw [← hb0]
  clear hb0
  generalize World.alloc _ _ = wa at *
  obtain ⟨PB, hPB⟩ : ∃ PB, PB = blk b0 (.cells #[.int .i64 p.lay.width, .int .i64 p.lay.height, .bool p.lay.tiled, .int .i64 p.lay.w, .int .i64 p.lay.h, .int .i64 p.per, .int .i64 p.bits, .int .u64 (p.photo : Int), .bool p.planar, .int .i64 p.scheme, .bool p.predict, .bool p.low, .bool p.two, .slice ao p.offs.length co, .slice ac p.cnts.length cc, .slice ar R.length cr] 30) := ⟨_, rfl⟩
  rw [← hPB] at H
  have HPB2 := Lib.hid hPB
  clear hPB
  obtain ⟨nol, hnol⟩ : ∃ n, n = p.offs.length := ⟨_, rfl⟩
  obtain ⟨ncl, hncl⟩ : ∃ n, n = p.cnts.length := ⟨_, rfl⟩
  obtain ⟨nrl, hnrl⟩ : ∃ n, n = R.length := ⟨_, rfl⟩
  rw [← hnol, ← hncl, ← hnrl] at HPB2 HR ⊢
  have HNO := Lib.hid hnol; have HNC := Lib.hid hncl; have HNR := Lib.hid hnrl
  have hcells : ∀ W X, St w W (PB * X) → W.cell? ⟨b0, 13, none⟩ = some (.slice ao nol co) ∧ W.cell? ⟨b0, 14, none⟩ = some (.slice ac ncl cc) ∧ W.cell? ⟨b0, 15, none⟩ = some (.slice ar nrl cr) ∧ W.cell? ⟨b0, 5, none⟩ = some (.int .i64 p.per) := fun W X h => by
    rw [HPB2.out] at h
    exact ⟨h.cell 13 rfl, h.cell 14 rfl, h.cell 15 rfl, h.cell 5 rfl⟩
  have HCE := Lib.hid hcells
  clear hnol hncl hnrl hcells
  obtain ⟨ob, hob⟩ : ∃ ob, ob = (decide (nol ≤ 200) && decide (ncl ≤ 200) && fb && decide (p.per ≤ 100)) := ⟨_, rfl⟩
  have HOB := Lib.hid hob; have Hfb := Lib.hid hfb
  clear hob hfb
  go_cut [38] from 14 to 38 (fun x wx => x = .bool (!ob) ∧ St w wx (PB * Mz.old w))
  case first =>
    go_wp2_with (go_at_call 6; apply stop)
    refine on ((lives_any H.out).mono ?_)
    rintro e w1 ⟨rfl, h1⟩
    have H1 := Lib.hid h1
    obtain ⟨c13, c14, c15, c5⟩ := HCE.out _ _ h1
    clear h1 H
    by_cases h200 : nol ≤ 200
    rotate_left
    · have hI : (200 : Int) < nol := by omega
      have hob : ob = false := by rw [HOB.out, decide_eq_false h200]; simp
      subst hob
      clear h200
      go_wp2_with fail
      go_meet
      exact ⟨rfl, H1.out⟩
    have hI1 : ¬ (200 : Int) < nol := by omega
    by_cases h201 : ncl ≤ 200
    rotate_left
    · have hI : (200 : Int) < ncl := by omega
      have hob : ob = false := by rw [HOB.out, decide_eq_false h201]; simp
      subst hob
      clear h201 h200
      go_wp2_with fail
      go_meet
      exact ⟨rfl, H1.out⟩
    have hI2 : ¬ (200 : Int) < ncl := by omega
    have HHH := Lib.hid (And.intro h200 h201)
    clear h200 h201
    have HFW := few_any H1.out (v := .slice ar nrl cr) (L := R) (fun w h => (HR.out w h.right).rest) HB.out
    rw [← Hfb.out] at HFW
    have HFW2 := Lib.hid HFW
    clear HFW
    go_wp2_with (go_at_call 7; apply stop)
    refine on (HFW2.out.mono ?_)
    rintro e w2 ⟨rfl, h2⟩
    have H2 := Lib.hid h2
    obtain ⟨_, _, _, c5⟩ := HCE.out _ _ h2
    clear h2 H1 HFW2 c13 c14 c15
    cases fb
    · have hob : ob = false := by rw [HOB.out]; simp
      subst hob
      go_wp2_with fail
      go_meet
      exact ⟨rfl, H2.out⟩
    · by_cases h100 : p.per ≤ 100
      · have hI3 : ¬ (100 : Int) < p.per := by omega
        have hob : ob = true := by rw [HOB.out, decide_eq_true HHH.out.1, decide_eq_true HHH.out.2, decide_eq_true h100]; rfl
        subst hob
        clear h100
        go_wp2_with fail
        go_meet
        first | exact ⟨rfl, H2.out⟩ | exact ⟨congrArg Value.bool (by simp; omega), H2.out⟩
      · have hI3 : (100 : Int) < p.per := by omega
        have hob : ob = false := by rw [HOB.out, decide_eq_false h100]; simp
        subst hob
        clear h100
        go_wp2_with fail
        go_meet
        exact ⟨rfl, H2.out⟩
  obtain ⟨rfl, h1⟩ := hcut
  have H1 := Lib.hid h1
  clear h1 H
  cases ob
  · go_wp2_with (go_at_call 6; apply stop)
    refine on ((lives_any H1.out).mono ?_)
    rintro e w3 ⟨rfl, h3⟩
    have H3 := Lib.hid h3
    clear h3 H1
    go_wp2_with fail
    go_ret
    exact ⟨rfl, FIN.out _ H3.out.right⟩
  · have hcond : nol ≤ 200 ∧ ncl ≤ 200 ∧ fb = true ∧ p.per ≤ 100 := by
      have := HOB.out.symm
      simp only [Bool.and_eq_true, decide_eq_true_eq] at this
      exact ⟨this.1.1.1, this.1.1.2, this.1.2, this.2⟩
    obtain ⟨hc1, hc2, rfl, hc4⟩ := hcond
    obtain ⟨hL64, hV600⟩ := few_all Hfb.out.symm
    have hrl : p.rest.length ≤ 64 := by rw [← HFL.out, fl, List.length_map]; exact hL64
    have hrv : ∀ f ∈ p.rest, f.vals.length ≤ 600 := fun f hf => by
      rw [← HFL.out] at hf
      obtain ⟨y, hy, rfl⟩ := List.mem_map.1 hf
      exact hV600 y hy
    have hrt : ∀ f ∈ p.rest, f.tag < 65536 := fun f hf => by
      rw [← HFL.out] at hf
      obtain ⟨y, hy, rfl⟩ := List.mem_map.1 hf
      exact HT.out y hy
    have hno := HNO.out
    have hnc := HNC.out
    have hsm := fieldsV_small (p := p) (al := al) (lg := lg) (by omega) (by omega) hc4 hrl hrv
    have HF1 := Lib.hid (fun (W : World) (X : SProp) (h : St w W (X * (PB * Mz.old w))) => fields_any (F := X * (PB * Mz.old w)) h (p := p) (ao := ao) (ac := ac) (ar := ar) (co := co) (cc := cc) (cr := cr) (R := R) (fun w h => HR.out w h.right.right) (by omega) (by omega) (by omega) (fun f hf => Nat.le_trans (hrv f hf) (by decide)) hrt (by omega) al lg)
    have HF2 := Lib.hid (fun (W : World) (X : SProp) (h : St w W (X * (PB * Mz.old w))) => rfields_any (F := X * (PB * Mz.old w)) h (p := p) (ao := ao) (ac := ac) (ar := ar) (co := co) (cc := cc) (cr := cr) (R := R) (fun w h => HR.out w h.right.right) (by omega) (by omega) (by omega) (fun f hf => Nat.le_trans (hrv f hf) (by decide)) hrt (by omega) al lg)
    obtain ⟨LV, hLV⟩ : ∃ LV, LV = fieldsV p al lg := ⟨_, rfl⟩
    obtain ⟨er, her⟩ : ∃ er, er = fieldsE p al lg := ⟨_, rfl⟩
    rw [← hLV] at hsm
    rw [← hLV, ← her] at HF1 HF2
    have HLV := Lib.hid hLV; have Her := Lib.hid her; have HSM := Lib.hid hsm; have HRL := Lib.hid hrl
    have HPG := Lib.hid (show PB = blk b0 (.cells (pgC p (.slice ao nol co) (.slice ac ncl cc) (.slice ar nrl cr)) 30) from HPB2.out)
    have hA1 := H1.out
    rw [HPG.out] at hA1
    have HA1 := Lib.hid hA1
    clear hA1 hLV her hsm hrl hrv hrt hno hnc hc1 hc2 hc4 hL64 hV600
    have hF1 := HF1.out _ emp (H1.out.perm (emp_star _).symm)
    rw [emp_star] at hF1
    have HG1 := Lib.hid hF1
    clear hF1
    go_wp2_with (first | (go_at_call 11; apply stop) | (refine wpList_load_blk rfl 30 _ rfl HA1.out rfl Try.underlying30 rfl (by show _ = some 16; kernel_rfl) ?_))
    refine on (HG1.out.mono ?_)
    rintro e w2 ⟨v1, R1, K1, rfl, h2, hr1, hf1⟩
    have hA2 := h2.perm (star_left_comm _ _ _)
    rw [HPG.out] at hA2
    have HA2 := Lib.hid hA2
    have HG2 := Lib.hid (HF2.out _ _ h2)
    have HR1 := Lib.hid hr1; have HFL1 := Lib.hid hf1
    clear hA2 h2 hr1 hf1 HG1 HA1 H1
    go_wp2_with (first | (go_at_call 12; apply stop) | (refine wpList_load_blk rfl 30 _ rfl HA2.out rfl Try.underlying30 rfl (by show _ = some 16; kernel_rfl) ?_))
    refine on (HG2.out.mono ?_)
    rintro e w3 ⟨v2, R2, K2, rfl, h3, hr2, hf2⟩
    have hsame := same22_any h3 (va := v1) (vb := v2) (R := R1) (S := R2) (fun w h => HR1.out w h.right) hr2 (by rw [HFL1.out, hf2]) (by
      have h1 := HSM.out.1
      rw [← HFL1.out, fl, List.length_map] at h1
      omega) (fun y hy => by
      have h1 := HSM.out.2 y.2 (by rw [← HFL1.out]; exact List.mem_map_of_mem hy)
      omega)
    have HSA := Lib.hid hsame
    clear hsame HG2 HA2 HF1 HF2 hr2 hf2 h3
    go_wp2_with (go_at_call 13; apply stop)
    refine on (HSA.out.mono ?_)
    rintro e w4 ⟨rfl, h4⟩
    have H4 := Lib.hid h4.right
    clear h4 HSA
    by_cases hz : er = 0
    rotate_left
    · have hzI : ((er : Int) != 0) = true := by simpa using hz
      clear hz
      go_wp2_with fail
      go_ret
      exact ⟨rfl, FIN.out _ H4.out.right.right⟩
    have HZ := Lib.hid hz
    have hzI : ((er : Int) != 0) = false := by simpa using hz
    clear hz
    obtain ⟨t1, t2, t3⟩ := fields_tell (p := p) (al := al) (lg := lg) HPB.out.1.1 HPB.out.1.2 HPB.out.2.1 HPB.out.2.2 (by rw [← Her.out]; exact HZ.out)
    have hLL : LV = fieldsL p al lg := by rw [HLV.out, fieldsV, if_pos (by rw [← Her.out]; exact HZ.out)]
    rw [← hLL] at t1 t2 t3
    obtain ⟨Q, hQ⟩ : ∃ Q, Q = pageV LV := ⟨_, rfl⟩
    rw [← hQ] at t2 t3
    have HD := describe_any H4.out (v := v1) (L := R1) (fun w h => HR1.out w h) (by
      have h1 := HSM.out.1
      rw [← HFL1.out, fl, List.length_map] at h1
      omega) (fun y hy => by
      have h1 := HSM.out.2 y.2 (by rw [← HFL1.out]; exact List.mem_map_of_mem hy)
      omega)
    rw [HFL1.out, t1, if_pos rfl, ← hQ] at HD
    have HD2 := Lib.hid HD
    have HQ := Lib.hid hQ; have HT2 := Lib.hid t2; have HT3 := Lib.hid t3
    have hoq : Q.offs = p.offs := by rw [t2]
    have hcq : Q.cnts = p.cnts := by rw [t2]
    have HOQ := Lib.hid hoq; have HCQ := Lib.hid hcq
    clear HD t1 t2 t3 hLL hQ hoq hcq
    go_wp2_with (go_at_call 8; apply stop)
    refine on (HD2.out.mono ?_)
    intro e w5 hout
    obtain ⟨aq, acq, arq, cq, ccq, crq, RQ, KQ, rfl, hs, hp⟩ := hout.shape
    have HP := Lib.hid hp
    have HX := Lib.hid (hs.alloc (.cells pg0 30))
    clear hout hp HD2 H4
    generalize hn1 : Q.offs.length = n1 at *
    generalize hn2 : Q.cnts.length = n2 at *
    generalize hn3 : RQ.length = n3 at *
    have HN1 := Lib.hid hn1; have HN2 := Lib.hid hn2; have HN3 := Lib.hid hn3
    clear hs hn1 hn2 hn3
    go_upto_region 10 with (refine wpList_store_blk rfl 30 _ _ rfl HX.out rfl rfl (by show _ = some 16; kernel_rfl) rfl rfl ?_)
    have HY := Lib.hid (HX.out.setRow (pgC Q (.slice aq n1 cq) (.slice acq n2 ccq) (.slice arq n3 crq)))
    clear HX
    generalize w5.heap.size = g11 at *
    generalize World.setRow _ _ _ = W5 at *
    have hx := HY.out.perm (show _ = PB * (blk g11 (.cells (pgC Q (.slice aq n1 cq) (.slice acq n2 ccq) (.slice arq n3 crq)) 30) * (KQ * (K1 * Mz.old w))) by ac_rfl)
    rw [HPG.out] at hx
    have HX := Lib.hid hx
    have HX2 := Lib.hid (HY.out.alloc (.cells pg0 30))
    clear hx
    go_upto_region 11 with (first | (refine wpList_load_blk rfl 30 _ rfl HX.out rfl Try.underlying30 rfl (by show _ = some 16; kernel_rfl) ?_) | (refine wpList_store_blk rfl 30 _ _ rfl HX2.out rfl rfl (by show _ = some 16; kernel_rfl) rfl rfl ?_))
    have HX3 := Lib.hid (HX2.out.setRow (pgC p (.slice ao nol co) (.slice ac ncl cc) (.slice ar nrl cr)))
    clear HX2 HX HY
    generalize W5.heap.size = g13 at *
    generalize World.setRow _ _ _ = W6 at *
    have d15 : W6.cell? ⟨g11, 15, none⟩ = some (.slice arq n3 crq) := HX3.out.right.cell 15 rfl
    have e15 : W6.cell? ⟨g13, 15, none⟩ = some (.slice ar nrl cr) := HX3.out.cell 15 rfl
    have f15 := HX3.out.free 15
    have HX4 := Lib.hid (HX3.out.set 15 (.slice arq n3 crq))
    clear HX3
    go_upto_region 12 with (fail)
    clear d15 e15 f15
    generalize World.setCell _ _ _ = W7 at *
    have HX5 : Hid (St w W7 (blk g13 (.cells (pgC p (.slice ao nol co) (.slice ac ncl cc) (.slice arq n3 crq)) 30) * (blk g11 (.cells (pgC Q (.slice aq n1 cq) (.slice acq n2 ccq) (.slice arq n3 crq)) 30) * (KQ * (K1 * (PB * Mz.old w)))))) := HX4
    have hpq : pgC p (.slice ao nol co) (.slice ac ncl cc) (.slice arq n3 crq) = pgC Q (.slice ao nol co) (.slice ac ncl cc) (.slice arq n3 crq) := by
      rw [HT2.out]; rfl
    rw [hpq] at HX5
    obtain ⟨FF, hFF⟩ : ∃ FF, FF = (blk g13 (.cells (pgC Q (.slice ao nol co) (.slice ac ncl cc) (.slice arq n3 crq)) 30) * (blk g11 (.cells (pgC Q (.slice aq n1 cq) (.slice acq n2 ccq) (.slice arq n3 crq)) 30) * (KQ * (K1 * (PB * Mz.old w))))) := ⟨_, rfl⟩
    rw [← hFF] at HX5
    have hG13 : ∀ W, St w W FF → St w W (blk g13 (.cells (pgC Q (.slice ao nol co) (.slice ac ncl cc) (.slice arq n3 crq)) 30) * (blk g11 (.cells (pgC Q (.slice aq n1 cq) (.slice acq n2 ccq) (.slice arq n3 crq)) 30) * (KQ * (K1 * (PB * Mz.old w))))) := fun W h => h.perm hFF
    have hG11 : ∀ W, St w W FF → St w W (blk g11 (.cells (pgC Q (.slice aq n1 cq) (.slice acq n2 ccq) (.slice arq n3 crq)) 30) * (KQ * (K1 * (PB * Mz.old w)))) := fun W h => (h.perm hFF).right
    have hold : ∀ W, St w W FF → St w W (PB * Mz.old w) := fun W h => (hG11 W h).right.right.right
    have L13 := Lib.hid (hG13 _ HX5.out)
    have L11 := Lib.hid (hG11 _ HX5.out)
    have HSP := Lib.hid (samePage_any (p := Q) HX5.out (R := RQ) (S := RQ) (fun W h => HP.out W (hG11 W h).right) (fun W h => by
      have h1 := HR.out W (hold W h).right
      have h2 := HP.out W (hG11 W h).right
      refine ⟨?_, ?_, h2.rest, h2.flds⟩
      · rw [HOQ.out]; exact h1.offs
      · rw [HCQ.out]; exact h1.cnts) (by rw [HOQ.out]; have := HNO.out; have := HOB.out.symm; simp only [Bool.and_eq_true, decide_eq_true_eq] at this; omega) (by rw [HCQ.out]; have := HNC.out; have := HOB.out.symm; simp only [Bool.and_eq_true, decide_eq_true_eq] at this; omega)
        (by rw [HT3.out]; have := HRL.out; omega) (fun f hf => by
          rw [HQ.out] at hf
          have hm : f ∈ LV := (List.mem_filter.1 hf).1
          have := HSM.out.2 f hm
          omega))
    have HOLD := Lib.hid hold; have HG11 := Lib.hid hG11
    have hlen : nrl = n3 := by
      have h1 : (fl RQ).length = Q.rest.length := by rw [(HP.out _ (hG11 _ HX5.out).right).flds]
      rw [fl, List.length_map] at h1
      have h2 : (fl R).length = p.rest.length := by rw [HFL.out]
      rw [fl, List.length_map] at h2
      have := HNR.out; have := HN3.out; have := HT3.out
      omega
    have HLEN := Lib.hid hlen
    clear hpq hFF hG13 hG11 hold hlen
    go_wp2_with (first | (go_at_call 10; apply stop) | (refine wpList_load_blkG rfl 30 _ rfl L11.out rfl Try.underlying30 rfl (by show _ = some 16; kernel_rfl) ?_) | (refine wpList_load_blkG rfl 30 _ rfl L13.out rfl Try.underlying30 rfl (by show _ = some 16; kernel_rfl) ?_))
    refine on (HSP.out.mono ?_)
    rintro e w8 ⟨rfl, h8⟩
    have H8 := Lib.hid h8
    obtain ⟨_, _, c15, _⟩ := HCE.out _ _ (HOLD.out _ h8)
    have d15 : w8.cell? ⟨g11, 15, none⟩ = some (.slice arq n3 crq) := (HG11.out _ h8).cell 15 rfl
    have hll : ((n3 : Int) == (nrl : Int)) = true := by rw [HLEN.out]; simp
    clear h8 HSP L13 L11 HX5
    go_wp2_with fail
    go_ret
    first | exact ⟨rfl, FIN.out _ (HOLD.out _ H8.out).right⟩ | exact ⟨congrArg (fun b => Ending.returned (.bool b)) (by rw [HLEN.out]; simp), FIN.out _ (HOLD.out _ H8.out).right⟩
end tfields
end Go.Proofs.Ythoegjdkeooenaa
