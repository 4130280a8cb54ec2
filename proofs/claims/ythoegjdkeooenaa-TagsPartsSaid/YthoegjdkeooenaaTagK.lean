/-
  Layer 23, the document: the page that fields tell of (package mezzotintref23).
-/
import Derived.Test.YthoegjdkeooenaaTagI
namespace Go.Proofs.Ythoegjdkeooenaa
open Go.RowKit Go.Mz
set_option linter.unusedVariables false
set_option linter.unusedSimpArgs false
set_option maxRecDepth 100000

theorem firstE_append (a b : List Nat) : firstE (a ++ b) = orE (firstE a) (firstE b) := by
  rw [firstE, List.foldl_append, firstE_foldl]; rfl
/-- The document's order of what is wrong first. -/
theorem descE_doc (l : List Fld) : descE l = orE (sizeE l) (orE (samE l) (orE (howE l) (orE (limE l) (firstE (layE l (if limE l = 0 then wideV l else 1) (if limE l = 0 then highV l else 1) (perV l) (oneV l 284 1 2 1 == 2)))))) := by
  rw [descE, wrong_eq, firstE_append]
  have e : firstE [needE l 256, oneE l 256 1 topN, needE l 257, oneE l 257 1 topN, oneE l 277 1 topN, perE l, bitsE l (perV l), oneE l 259 1 topN, if schemeL.contains (schV l) then 0 else 9, oneE l 262 0 65535, oneE l 266 1 2, oneE l 284 1 2,
      oneE l 317 1 3, if preV l = 3 then 9 else 0, oneE l 292 0 topN, oneE l 293 0 topN, faxE l, limE l] = orE (sizeE l) (orE (samE l) (orE (howE l) (limE l))) := by
    have h1 : sizeE l = firstE [needE l 256, oneE l 256 1 topN, needE l 257, oneE l 257 1 topN] := rfl
    have h2 : samE l = firstE [oneE l 277 1 topN, perE l, bitsE l (perV l)] := rfl
    have h3 : howE l = firstE [oneE l 259 1 topN, if schemeL.contains (schV l) then 0 else 9, oneE l 262 0 65535, oneE l 266 1 2, oneE l 284 1 2, oneE l 317 1 3, if preV l = 3 then 9 else 0, oneE l 292 0 topN, oneE l 293 0 topN, faxE l] := rfl
    have h4 : limE l = firstE [limE l] := by rw [firstE_cons, show firstE [] = 0 from rfl, orE_nil]
    rw [h1, h2, h3]
    conv => rhs; rw [h4]
    rw [← firstE_append, ← firstE_append, ← firstE_append]
    rfl
  rw [e]
  simp only [orE_assoc]
theorem pgOut_nil {w0 w' : World} {K F : SProp} {er : Nat} (h : St w0 w' (K * F)) : PgOut w0 F nonePg er (.returned (.tuple #[.agg pg0, .int .i64 (er : Int)])) w' :=
  ⟨.slice none 0 0, .slice none 0 0, .slice none 0 0, [], K, rfl, h, fun w h => ⟨⟨rfl, .inl ⟨rfl, rfl⟩⟩, ⟨rfl, .inl ⟨rfl, rfl⟩⟩, ⟨⟨rfl, .inl ⟨rfl, rfl⟩⟩, fun x hx => by cases hx⟩, rfl⟩⟩

theorem star4 (A B C D F : SProp) : A * (B * (C * (D * F))) = (A * (B * (C * D))) * F := by simp only [star_assoc]
set_option maxHeartbeats 40000000 in
theorem rdescribe_any {w0 w : World} {F : SProp} (h : St w0 w F) {v : Value} {L : List FV} (hvs : Stb w0 F (fun w => FldsR w v L)) (hL : L.length ≤ 100000) (hT : ∀ x ∈ L, x.2.tag < 65536) (hLv : ∀ x ∈ L, x.2.vals.length ≤ 1000000) :
    Calls Try.prog 9 #[v] w (PgOut w0 F (if descE (fl L) = 0 then pageV (fl L) else nonePg) (descE (fl L))) := by
  have hL6 : L.length ≤ 1000000 := by omega
  have HV := Lib.hid hvs
  have HSZ := Lib.hid (fun (w : World) (h : St w0 w F) => rsize_any (hvs w h) hL6 hT)
  have HLV := Lib.hid hLv; have HTT := Lib.hid hT
  obtain ⟨a, cap, rfl⟩ := (hvs w h).row.sub
  obtain ⟨PG, hPG⟩ : ∃ PG, PG = (if descE (fl L) = 0 then pageV (fl L) else nonePg) := ⟨_, rfl⟩
  obtain ⟨er, her⟩ : ∃ er, er = descE (fl L) := ⟨_, rfl⟩
  rw [← hPG, ← her]
  have Her0 := Lib.hid her
  rw [descE_doc] at her
  have HPG := Lib.hid hPG
  have h1 := (h.alloc (.cells pg0 30)).alloc (.cells pg0 30)
  have hsz : (w.alloc (.cells pg0 30)).heap.size = w.heap.size + 1 := Array.size_push _
  rw [hsz] at h1
  have H1 := Lib.hid h1
  clear h1 h hsz hvs hPG hLv
  obtain ⟨se, hse⟩ : ∃ se, se = sizeE (fl L) := ⟨_, rfl⟩
  obtain ⟨ae, hae⟩ : ∃ ae, ae = samE (fl L) := ⟨_, rfl⟩
  obtain ⟨he, hhe⟩ : ∃ he, he = howE (fl L) := ⟨_, rfl⟩
  obtain ⟨le, hle⟩ : ∃ le, le = limE (fl L) := ⟨_, rfl⟩
  rw [← hse, ← hae, ← hhe, ← hle] at her
  have HER := Lib.hid her; have Hse := Lib.hid hse; have Hae := Lib.hid hae; have Hhe := Lib.hid hhe; have Hle := Lib.hid hle
  clear her hse hae hhe hle
  have HPN := Lib.hid (fun (h : er ≠ 0) => (show PG = nonePg by rw [HPG.out, if_neg (by rw [← Her0.out]; exact h)]))

  go_enter Try.func9, Try.ntmps9
  go_upto_region 2 with (fail)
  generalize hb0 : w.heap.size = b0 at *
  generalize hb1 : b0 + 1 = b1 at *
  clear hb0 hb1
  have HS : Hid (St w0 _ (blk b1 (.cells pg0 30) * (blk b0 (.cells pg0 30) * F))) := H1
  clear H1
  generalize World.alloc _ _ = wa at *
  have HC := HSZ.out _ HS.out.right.right
  rw [← Hse.out] at HC
  have HC2 := Lib.hid HC
  clear HC
  go_wp2_with (go_at_call 30; apply stop)
  refine on (HC2.out.mono ?_)
  rintro r w9 ⟨⟨wv, hv, rfl, hwh⟩, rfl⟩
  have HWH := Lib.hid hwh
  clear HC2 hwh
  by_cases z1 : se = 0
  rotate_left
  · have zI : ¬ (se : Int) = 0 := by omega
    obtain rfl : er = se := by rw [HER.out, orE_nz z1]
    obtain rfl := HPN.out (by first | assumption | decide)
    go_upto_region 4 with (fail)
    have HB := Lib.hid (HS.out.perm (star_left_comm _ _ _))
    have HR := Lib.hid (HB.out.setRow pg0)
    go_wp2_with (first | (refine wpList_load_blk rfl 30 _ rfl HS.out rfl Try.underlying30 rfl (by show _ = some 16; kernel_rfl) ?_) | (refine wpList_store_blk rfl 30 _ _ rfl HB.out rfl rfl (by show _ = some 16; kernel_rfl) rfl rfl ?_))
    refine bodyPost_ret2c rfl rfl HR.out.at_ Try.underlying30 rfl (by show _ = some 16; kernel_rfl) rfl ?_
    exact pgOut_nil (K := (blk b0 (.cells pg0 30) * blk b1 (.cells pg0 30))) (HR.out.perm (by simp only [star_assoc]))
  subst z1
  obtain ⟨hw1, hh1⟩ := HWH.out rfl
  have Hw1 := Lib.hid hw1; have Hh1 := Lib.hid hh1
  clear hw1 hh1
  have HC := rsamples_any HS.out (fun w h => HV.out w h.right.right) hL6 HTT.out
  rw [← Hae.out] at HC
  have HC2 := Lib.hid HC
  clear HC
  go_wp2_with (go_at_call 31; apply stop)
  refine on (HC2.out.mono ?_)
  rintro r w9 ⟨⟨per, bi, rfl, hpb⟩, h9⟩
  clear HS
  have HS := Lib.hid h9
  have HPB := Lib.hid hpb
  clear HC2 hpb h9
  by_cases z2 : ae = 0
  rotate_left
  · have zI : ¬ (ae : Int) = 0 := by omega
    obtain rfl : er = ae := by rw [HER.out, orE_zero, orE_nz z2]
    obtain rfl := HPN.out (by first | assumption | decide)
    go_upto_region 7 with (fail)
    have HB := Lib.hid (HS.out.perm (star_left_comm _ _ _))
    have HR := Lib.hid (HB.out.setRow pg0)
    go_wp2_with (first | (refine wpList_load_blk rfl 30 _ rfl HS.out rfl Try.underlying30 rfl (by show _ = some 16; kernel_rfl) ?_) | (refine wpList_store_blk rfl 30 _ _ rfl HB.out rfl rfl (by show _ = some 16; kernel_rfl) rfl rfl ?_))
    refine bodyPost_ret2c rfl rfl HR.out.at_ Try.underlying30 rfl (by show _ = some 16; kernel_rfl) rfl ?_
    exact pgOut_nil (K := (blk b0 (.cells pg0 30) * blk b1 (.cells pg0 30))) (HR.out.perm (by simp only [star_assoc]))
  subst z2
  obtain ⟨hper, hbi⟩ := HPB.out rfl
  have hp8 : 1 ≤ per ∧ per ≤ 8 := by
    have := (oneV_within (l := fl L) (t := 277) (least := 1) (most := topN) (without := 1) (by decide) (by decide)).1
    rw [hper, perV]; split <;> omega
  have hb32 : bi ≤ 32 := by rw [hbi]; exact (bitsV_within (fl L) (by rw [← hper]; exact hp8.1)).2
  have hbi2 : bi = bitsV (fl L) per := by rw [hbi, hper]
  have Hper := Lib.hid hper; have Hbi := Lib.hid hbi
  have HHW := Lib.hid (fun (w : World) (G : SProp) (h : St w0 w G) (hG : Stb w0 G (fun w => FldsR w (.slice a L.length cap) L)) => rhow_any h hG hL6 HTT.out hper hbi2 hp8.2 hb32)
  obtain ⟨p1, p8⟩ := hp8
  clear hper hbi hbi2
  have HC := HHW.out _ _ HS.out (fun w h => HV.out w h.right.right)
  rw [← Hhe.out] at HC
  have HC2 := Lib.hid HC
  clear HC HHW
  go_wp2_with (go_at_call 32; apply stop)
  refine on (HC2.out.mono ?_)
  rintro r w9 ⟨p', rfl, hph, h9⟩
  clear HS
  have HPH := Lib.hid hph
  have h9a := h9.alloc (.cells (pgC p' nilV nilV nilV) 30)
  have HS8 := Lib.hid h9a
  clear HC2 hph h9 h9a
  unfold pgC at HS8
  unfold pgC
  go_upto_region 9 with (fail)
  generalize w9.heap.size = b2 at *
  generalize World.alloc _ _ = wd at *
  have HS := HS8
  clear HS8
  have HS9 : Hid (St w0 wd (blk b1 (.cells pg0 30) * (blk b0 (.cells pg0 30) * (blk b2 (.cells #[.int .i64 p'.lay.width, .int .i64 p'.lay.height, .bool p'.lay.tiled, .int .i64 p'.lay.w, .int .i64 p'.lay.h, .int .i64 p'.per, .int .i64 p'.bits, .int .u64 (p'.photo : Int), .bool p'.planar, .int .i64 p'.scheme, .bool p'.predict, .bool p'.low, .bool p'.two, nilV, nilV, nilV] 30) * F)))) := Lib.hid (HS.out.perm (by ac_rfl))
  clear HS
  have HS := HS9
  clear HS9
  by_cases z3 : he = 0
  rotate_left
  · have zI : ¬ (he : Int) = 0 := by omega
    obtain rfl : er = he := by rw [HER.out, orE_zero, orE_zero, orE_nz z3]
    obtain rfl := HPN.out (by first | assumption | decide)
    go_upto_region 10 with (fail)
    have HB := Lib.hid (HS.out.perm (star_left_comm _ _ _))
    have HR := Lib.hid (HB.out.setRow pg0)
    go_wp2_with (first | (refine wpList_load_blk rfl 30 _ rfl HS.out rfl Try.underlying30 rfl (by show _ = some 16; kernel_rfl) ?_) | (refine wpList_store_blk rfl 30 _ _ rfl HB.out rfl rfl (by show _ = some 16; kernel_rfl) rfl rfl ?_))
    refine bodyPost_ret2c rfl rfl HR.out.at_ Try.underlying30 rfl (by show _ = some 16; kernel_rfl) rfl ?_
    exact pgOut_nil (K := (blk b0 (.cells pg0 30) * (blk b1 (.cells pg0 30) * blk b2 (.cells #[.int .i64 p'.lay.width, .int .i64 p'.lay.height, .bool p'.lay.tiled, .int .i64 p'.lay.w, .int .i64 p'.lay.h, .int .i64 p'.per, .int .i64 p'.bits, .int .u64 (p'.photo : Int), .bool p'.planar, .int .i64 p'.scheme, .bool p'.predict, .bool p'.low, .bool p'.two, nilV, nilV, nilV] 30)))) (HR.out.perm (by simp only [star_assoc]))
  subst z3
  have hph := HPH.out rfl
  obtain ⟨lb, hlb⟩ : ∃ lb, lb = decide (32768 < wv ∨ 32768 < hv ∨ 4194304 < wv * hv * per) := ⟨_, rfl⟩
  have Hlb := Lib.hid hlb
  clear hlb
  have hwv := oneV_within (l := fl L) (t := 256) (least := 1) (most := topN) (without := 1) (by decide) (by decide)
  have hhv := oneV_within (l := fl L) (t := 257) (least := 1) (most := topN) (without := 1) (by decide) (by decide)
  rw [show oneV (fl L) 256 1 topN 1 = wv from Hw1.out.symm] at hwv
  rw [show oneV (fl L) 257 1 topN 1 = hv from Hh1.out.symm] at hhv
  obtain ⟨wv1, wv4⟩ := hwv
  obtain ⟨hv1, hv4⟩ := hhv
  have wv4 : wv ≤ 4294967295 := wv4
  have hv4 : hv ≤ 4294967295 := hv4
  have Hph := Lib.hid hph
  clear hph
  go_upto_region 11 with (fail)
  go_cut [60] from 45 to 60 (fun b wx => b = .bool lb ∧ wx = wd)
  case first =>
    by_cases g1 : 32768 < wv
    · obtain rfl : lb = true := by rw [Hlb.out]; simp [g1]
      have g1I : (32768 : Int) < wv := by omega
      go_wp2_with fail
      go_meet
      exact ⟨rfl, rfl⟩
    have g1I : ¬ (32768 : Int) < wv := by omega
    by_cases g2 : 32768 < hv
    · obtain rfl : lb = true := by rw [Hlb.out]; simp [g2]
      have g2I : (32768 : Int) < hv := by omega
      go_wp2_with fail
      go_meet
      exact ⟨rfl, rfl⟩
    have g2I : ¬ (32768 : Int) < hv := by omega
    obtain ⟨m, hm⟩ : ∃ m, m = wv * hv := ⟨_, rfl⟩
    obtain ⟨q, hq⟩ : ∃ q, q = m * per := ⟨_, rfl⟩
    have hm9 : m ≤ 1073741824 := by rw [hm]; exact Nat.mul_le_mul (show wv ≤ 32768 by omega) (show hv ≤ 32768 by omega)
    have hq9 : q ≤ 8589934592 := by rw [hq]; exact Nat.mul_le_mul hm9 p8
    have e1 : (wv : Int) * (hv : Int) = (m : Int) := by rw [hm]; simp
    have e2 : (m : Int) * (per : Int) = (q : Int) := by rw [hq]; simp
    have hlb : lb = decide (4194304 < q) := by rw [Hlb.out, hq, hm]; simp [g1, g2]
    have HQ := Lib.hid hlb
    clear hm hq hlb
    by_cases g3 : 4194304 < q
    · obtain rfl : lb = true := by rw [HQ.out]; simpa using g3
      have g3I : (4194304 : Int) < q := by omega
      go_wp2_with fail
      go_meet
      exact ⟨rfl, rfl⟩
    · obtain rfl : lb = false := by rw [HQ.out]; simpa using g3
      have g3I : ¬ (4194304 : Int) < q := by omega
      go_wp2_with fail
      go_meet
      exact ⟨rfl, rfl⟩
  obtain ⟨rfl, rfl⟩ := hcut
  have hlim : le = if lb then 8 else 0 := by
    rw [Hle.out, limE, ← Hw1.out, ← Hh1.out, ← Hper.out, Hlb.out]; simp only [decide_eq_true_eq]
  cases hlb : lb
  rotate_left
  · have hl8 : le = 8 := by rw [hlim, hlb]; rfl
    subst hl8
    obtain rfl : er = 8 := by rw [HER.out]; rfl
    subst hlb
    clear hlim
    obtain rfl := HPN.out (by first | assumption | decide)
    go_upto_region 12 with (fail)
    have HB := Lib.hid (HS.out.perm (star_left_comm _ _ _))
    have HR := Lib.hid (HB.out.setRow pg0)
    go_wp2_with (first | (refine wpList_load_blk rfl 30 _ rfl HS.out rfl Try.underlying30 rfl (by show _ = some 16; kernel_rfl) ?_) | (refine wpList_store_blk rfl 30 _ _ rfl HB.out rfl rfl (by show _ = some 16; kernel_rfl) rfl rfl ?_))
    refine bodyPost_ret2c rfl rfl HR.out.at_ Try.underlying30 rfl (by show _ = some 16; kernel_rfl) rfl ?_
    exact pgOut_nil (K := (blk b0 (.cells pg0 30) * (blk b1 (.cells pg0 30) * blk b2 (.cells #[.int .i64 p'.lay.width, .int .i64 p'.lay.height, .bool p'.lay.tiled, .int .i64 p'.lay.w, .int .i64 p'.lay.h, .int .i64 p'.per, .int .i64 p'.bits, .int .u64 (p'.photo : Int), .bool p'.planar, .int .i64 p'.scheme, .bool p'.predict, .bool p'.low, .bool p'.two, nilV, nilV, nilV] 30)))) (HR.out.perm (by simp only [star_assoc]))
  have hl0 : le = 0 := by rw [hlim, hlb]; rfl
  subst hl0
  have hbd : wv ≤ 32768 ∧ hv ≤ 32768 := by
    have h1 := Hlb.out
    rw [hlb] at h1
    have h1 := of_decide_eq_false h1.symm
    omega
  obtain ⟨wv9, hv9⟩ := hbd
  subst hlb
  clear hlim
  obtain ⟨we, hwe⟩ : ∃ we, we = firstE (layE (fl L) wv hv per p'.planar) := ⟨_, rfl⟩
  have Hwe := Lib.hid hwe
  have hpp : p'.per = per := by rw [Hph.out]; rfl
  have HC := rwhere_any HS.out (fun w h => HV.out w h.right.right.right) hL6 HTT.out HLV.out p' hpp p8 (wi := wv) (hi := hv) wv1 wv9 hv1 hv9 rfl rfl
  rw [← hwe] at HC
  have HC2 := Lib.hid HC
  have Hpp := Lib.hid hpp
  clear HC hwe hpp
  have HSP := Lib.hid (HS.out.perm (show _ = blk b2 (.cells #[.int .i64 p'.lay.width, .int .i64 p'.lay.height, .bool p'.lay.tiled, .int .i64 p'.lay.w, .int .i64 p'.lay.h, .int .i64 p'.per, .int .i64 p'.bits, .int .u64 (p'.photo : Int), .bool p'.planar, .int .i64 p'.scheme, .bool p'.predict, .bool p'.low, .bool p'.two, nilV, nilV, nilV] 30) * (blk b1 (.cells pg0 30) * (blk b0 (.cells pg0 30) * F)) by ac_rfl))
  go_wp2_with (first | (refine wpList_load_blk rfl 30 _ rfl HSP.out rfl Try.underlying30 rfl (by show _ = some 16; kernel_rfl) ?_) | (go_at_call 33; apply stop))
  refine on (HC2.out.mono ?_)
  rintro r w10 ⟨p2, ao, ac, no, co, nc, cc, rfl, hfin, h10⟩
  clear HS HSP HC2
  have HFIN := Lib.hid hfin
  have h10 := h10.perm (show _ = blk b2 (.cells #[.int .i64 p'.lay.width, .int .i64 p'.lay.height, .bool p'.lay.tiled, .int .i64 p'.lay.w, .int .i64 p'.lay.h, .int .i64 p'.per, .int .i64 p'.bits, .int .u64 (p'.photo : Int), .bool p'.planar, .int .i64 p'.scheme, .bool p'.predict, .bool p'.low, .bool p'.two, nilV, nilV, nilV] 30) * (blk b1 (.cells pg0 30) * (blk b0 (.cells pg0 30) * F)) by ac_rfl)
  have HSQ := Lib.hid h10
  have HS2 := Lib.hid (h10.setRow #[.int .i64 p2.lay.width, .int .i64 p2.lay.height, .bool p2.lay.tiled, .int .i64 p2.lay.w, .int .i64 p2.lay.h, .int .i64 p2.per, .int .i64 p2.bits, .int .u64 (p2.photo : Int), .bool p2.planar, .int .i64 p2.scheme, .bool p2.predict, .bool p2.low, .bool p2.two, .slice ao no co, .slice ac nc cc, nilV])
  clear h10 hfin
  unfold pgC
  go_upto_region 14 with (first | (refine wpList_store_blk rfl 30 _ _ rfl HSQ.out rfl rfl (by show _ = some 16; kernel_rfl) rfl rfl ?_))
  clear HSQ
  generalize World.setRow _ _ _ = we2 at *
  have HS : Hid (St w0 we2 (blk b1 (.cells pg0 30) * (blk b0 (.cells pg0 30) * (blk b2 (.cells #[.int .i64 p2.lay.width, .int .i64 p2.lay.height, .bool p2.lay.tiled, .int .i64 p2.lay.w, .int .i64 p2.lay.h, .int .i64 p2.per, .int .i64 p2.bits, .int .u64 (p2.photo : Int), .bool p2.planar, .int .i64 p2.scheme, .bool p2.predict, .bool p2.low, .bool p2.two, .slice ao no co, .slice ac nc cc, nilV] 30) * F)))) := Lib.hid (HS2.out.perm (by ac_rfl))
  clear HS2
  have hpl : p'.planar = (oneV (fl L) 284 1 2 1 == 2) := by rw [Hph.out]; rfl
  have her : er = we := by
    rw [HER.out, orE_zero, orE_zero, orE_zero, orE_zero, Hwe.out, if_pos (by first | rfl | trivial), if_pos (by first | rfl | trivial), ← Hw1.out, ← Hh1.out, ← Hper.out, hpl]
  subst her
  by_cases z4 : er = 0
  rotate_left
  · have zI : ¬ (er : Int) = 0 := by omega
    obtain rfl := HPN.out (by first | assumption | decide)
    go_upto_region 15 with (fail)
    have HB := Lib.hid (HS.out.perm (star_left_comm _ _ _))
    have HR := Lib.hid (HB.out.setRow pg0)
    go_wp2_with (first | (refine wpList_load_blk rfl 30 _ rfl HS.out rfl Try.underlying30 rfl (by show _ = some 16; kernel_rfl) ?_) | (refine wpList_store_blk rfl 30 _ _ rfl HB.out rfl rfl (by show _ = some 16; kernel_rfl) rfl rfl ?_))
    refine bodyPost_ret2c rfl rfl HR.out.at_ Try.underlying30 rfl (by show _ = some 16; kernel_rfl) rfl ?_
    exact pgOut_nil (K := (blk b0 (.cells pg0 30) * (blk b1 (.cells pg0 30) * blk b2 (.cells #[.int .i64 p2.lay.width, .int .i64 p2.lay.height, .bool p2.lay.tiled, .int .i64 p2.lay.w, .int .i64 p2.lay.h, .int .i64 p2.per, .int .i64 p2.bits, .int .u64 (p2.photo : Int), .bool p2.planar, .int .i64 p2.scheme, .bool p2.predict, .bool p2.low, .bool p2.two, .slice ao no co, .slice ac nc cc, nilV] 30)))) (HR.out.perm (by simp only [star_assoc]))
  subst z4
  obtain ⟨hp2, hvo, hvc⟩ := HFIN.out rfl
  have hPG : PG = { p2 with rest := (fl L).filter (fun f => !knownL.contains f.tag) } := by
    rw [HPG.out, if_pos (by rw [← Her0.out]), hp2, Hph.out, pageV, layV_eq, ← Hle.out, ← Hw1.out, ← Hh1.out, if_pos rfl, if_pos rfl, ← Hper.out]
    rw [show bitsV (fl L) per = bi by rw [Hbi.out, Hper.out]]
    rfl
  have hof : p2.offs = needV (fl L) (offT (fl L)) := by rw [hp2]; rfl
  have hcn : p2.cnts = needV (fl L) (cntT (fl L)) := by rw [hp2]; rfl
  have HPG2 := Lib.hid hPG; have Hof := Lib.hid hof; have Hcn := Lib.hid hcn; have Hvo := Lib.hid hvo; have Hvc := Lib.hid hvc
  clear hPG hof hcn hvo hvc hp2
  have h1 := HS.out.own_nil 53 3
  have HS9 : Hid (St w0 we2 (blk b2 (.cells #[.int .i64 p2.lay.width, .int .i64 p2.lay.height, .bool p2.lay.tiled, .int .i64 p2.lay.w, .int .i64 p2.lay.h, .int .i64 p2.per, .int .i64 p2.bits, .int .u64 (p2.photo : Int), .bool p2.planar, .int .i64 p2.scheme, .bool p2.predict, .bool p2.low, .bool p2.two, .slice ao no co, .slice ac nc cc, nilV] 30) * (own 53 3 (.slice none 0 0) 0 [] * (blk b1 (.cells pg0 30) * (blk b0 (.cells pg0 30) * F))))) := h1.perm (by ac_rfl)
  clear h1 HS
  have HS := HS9
  clear HS9
  go_wp2_with fail
  go_loopw [11] (fun vi wr => ∃ (k : Nat) (R : List FV) (ar : Option Addr) (cr : Nat), k ≤ L.length ∧ vi = .int .i64 k ∧ R.length ≤ k ∧ fl R = ((fl L).take k).filter (fun f => !knownL.contains f.tag) ∧ (∀ x ∈ R, x ∈ L) ∧ St w0 wr (blk b2 (.cells #[.int .i64 p2.lay.width, .int .i64 p2.lay.height, .bool p2.lay.tiled, .int .i64 p2.lay.w, .int .i64 p2.lay.h, .int .i64 p2.per, .int .i64 p2.bits, .int .u64 (p2.photo : Int), .bool p2.planar, .int .i64 p2.scheme, .bool p2.predict, .bool p2.low, .bool p2.two, .slice ao no co, .slice ac nc cc, .slice ar R.length cr] 30) * (own 53 3 (.slice ar R.length cr) R.length (R.flatMap fldC) * (blk b1 (.cells pg0 30) * (blk b0 (.cells pg0 30) * F))))) (fun vi _ => L.length - (intOf vi).toNat)
  case atStart => exact ⟨0, [], none, 0, by omega, rfl, by simp, rfl, (fun x hx => by cases hx), HS.out⟩
  case round =>
    clear HS
    obtain ⟨k, R, ar, cr, hk, rfl, hRk, hRf, hRL, hst⟩ := hrel
    have HRL := Lib.hid hRL
    clear hRL
    by_cases hkn : k < L.length
    · have hx := List.getElem?_eq_getElem hkn
      have hrd := HV.out _ hst.right.right.right.right
      obtain ⟨b, off, rfl, c0, c1, c2⟩ := reads_fld hrd.row hx
      obtain ⟨av, cv, hos⟩ := (hrd.vals _ (List.getElem_mem hkn)).sub
      have hkI : (k : Int) < L.length := by omega
      have htk : (fl L).take (k + 1) = (fl L).take k ++ [L[k].2] := by rw [List.take_succ_eq_append_getElem (by simpa using hkn), List.getElem_map]
      have hmem : L[k] ∈ L := List.getElem_mem hkn
      have htg := HTT.out _ hmem
      generalize L[k] = o at *
      obtain ⟨ov, o⟩ := o
      simp only at hos
      subst hos
      simp only at c0 c1 c2 htk htg
      have HTK := Lib.hid htk; have HRF := Lib.hid hRf; have HM := Lib.hid hmem; have HX := Lib.hid hx
      have HK := Lib.hid (rknown_any hst o.tag rfl)
      obtain ⟨kb, hkb⟩ : ∃ kb, kb = knownL.contains o.tag := ⟨_, rfl⟩
      rw [← hkb] at HK
      have Hkb := Lib.hid hkb
      have HST := Lib.hid hst
      clear hx htk hRf hmem hkb hrd hst
      go_wp2_with (go_at_call 16; apply stop)
      refine on (HK.out.mono ?_)
      rintro r wr2 ⟨rfl, h2⟩
      have HS := Lib.hid h2
      clear h2 HK HST c0 c1 c2
      cases kb
      rotate_left
      · go_wp2_with fail
        refine ⟨⟨k + 1, R, ar, cr, by omega, by go_num, by omega, ?_, HRL.out, HS.out⟩, by simp [intOf]; omega⟩
        rw [HTK.out, List.filter_append, ← HRF.out, List.filter_cons, ← Hkb.out]; simp
      have hsp : ∀ W (G : SProp), St w0 W (blk b2 (.cells #[.int .i64 p2.lay.width, .int .i64 p2.lay.height, .bool p2.lay.tiled, .int .i64 p2.lay.w, .int .i64 p2.lay.h, .int .i64 p2.per, .int .i64 p2.bits, .int .u64 (p2.photo : Int), .bool p2.planar, .int .i64 p2.scheme, .bool p2.predict, .bool p2.low, .bool p2.two, .slice ao no co, .slice ac nc cc, .slice ar R.length cr] 30) * G) → St w0 W F → (W.cell? ⟨b2, 15, none⟩ = some (.slice ar R.length cr) ∧ W.cell? ⟨b, off + k * 3, none⟩ = some (.int .u16 (o.tag : Int)) ∧ W.cell? ⟨b, off + k * 3 + 1, none⟩ = some (.int .i64 o.kind) ∧ W.cell? ⟨b, off + k * 3 + 2, none⟩ = some (.slice av o.vals.length cv)) := fun W G h hF => by
        obtain ⟨b', off', e, d0, d1, d2⟩ := reads_fld (HV.out _ hF).row HX.out
        cases e
        exact ⟨h.cell 15 rfl, d0, d1, d2⟩
      go_upto_region 20 with (fail)
      refine wp_region_noPanic ?_
      refine region_till (S := fun W : World => W.cell? ⟨b2, 15, none⟩ = some (.slice ar R.length cr) ∧ W.cell? ⟨b, off + k * 3, none⟩ = some (.int .u16 (o.tag : Int)) ∧ W.cell? ⟨b, off + k * 3 + 1, none⟩ = some (.int .i64 o.kind) ∧ W.cell? ⟨b, off + k * 3 + 2, none⟩ = some (.slice av o.vals.length cv)) (k := 9) (by kernel_rfl) ?_
      have HSP := Lib.hid hsp
      have hS := hsp _ _ HS.out.drew HS.out.drew.right.right.right.right
      clear hsp
      have HD := Lib.hid HS.out.drew
      clear HS
      refine till_take0 (i := 0) (oi := ?_) (v := ?_) ?_ (by kernel_rfl) (by kernel_rfl) (by kernel_rfl) (by decide) (fun _ _ _ h => h.elim) (by assumption) (.inl ⟨?_, fun w => ?_⟩) ?_
      rotate_left 2
      · (simp only [List.getElem?_toArray, List.getElem?_cons_succ, List.getElem?_cons_zero]; rfl)
      · rfl
      · (go_simp; try with_reducible rfl)
      simp only [Act.put, List.setIfInBounds_toArray, List.set_cons_zero, List.set_cons_succ]
      refine till_take (i := 1) (oi := ?_) (v := ?_) ?_ (by kernel_rfl) (by kernel_rfl) (by kernel_rfl) (by kernel_rfl) (by kernel_rfl) (fun _ _ _ h => h.elim) (by assumption) (.inl ⟨?_, fun w hSw => ?_⟩) ?_
      rotate_left 2
      · (simp only [List.getElem?_toArray, List.getElem?_cons_succ, List.getElem?_cons_zero]; rfl)
      · rfl
      · (obtain ⟨s1, s2, s3, s4⟩ := hSw; go_simp; try with_reducible rfl)
      simp only [Act.put, List.setIfInBounds_toArray, List.set_cons_zero, List.set_cons_succ]
      refine till_take0 (i := 2) (oi := ?_) (v := ?_) ?_ (by kernel_rfl) (by kernel_rfl) (by kernel_rfl) (by decide) (fun _ _ _ h => h.elim) (by assumption) (.inl ⟨?_, fun w => ?_⟩) ?_
      rotate_left 2
      · (simp only [List.getElem?_toArray, List.getElem?_cons_succ, List.getElem?_cons_zero]; rfl)
      · rfl
      · (go_simp; try with_reducible rfl)
      simp only [Act.put, List.setIfInBounds_toArray, List.set_cons_zero, List.set_cons_succ]
      refine till_take0 (i := 3) (oi := ?_) (v := ?_) ?_ (by kernel_rfl) (by kernel_rfl) (by kernel_rfl) (by decide) (fun _ _ _ h => h.elim) (by assumption) (.inl ⟨?_, fun w => ?_⟩) ?_
      rotate_left 2
      · (simp only [List.getElem?_toArray, List.getElem?_cons_succ, List.getElem?_cons_zero]; rfl)
      · rfl
      · (go_simp; try with_reducible rfl)
      simp only [Act.put, List.setIfInBounds_toArray, List.set_cons_zero, List.set_cons_succ]
      refine till_take0 (i := 4) (oi := ?_) (v := ?_) ?_ (by kernel_rfl) (by kernel_rfl) (by kernel_rfl) (by decide) (fun _ _ _ h => h.elim) (by assumption) (.inl ⟨?_, fun w => ?_⟩) ?_
      rotate_left 2
      · (simp only [List.getElem?_toArray, List.getElem?_cons_succ, List.getElem?_cons_zero]; rfl)
      · rfl
      · (go_simp; try with_reducible rfl)
      simp only [Act.put, List.setIfInBounds_toArray, List.set_cons_zero, List.set_cons_succ]
      refine till_take (i := 5) (oi := ?_) (v := ?_) ?_ (by kernel_rfl) (by kernel_rfl) (by kernel_rfl) (by kernel_rfl) (by kernel_rfl) (fun _ _ _ h => h.elim) (by assumption) (.inl ⟨?_, fun w hSw => ?_⟩) ?_
      rotate_left 2
      · (simp only [List.getElem?_toArray, List.getElem?_cons_succ, List.getElem?_cons_zero]; rfl)
      · rfl
      · (obtain ⟨s1, s2, s3, s4⟩ := hSw; go_simp; try with_reducible rfl)
      simp only [Act.put, List.setIfInBounds_toArray, List.set_cons_zero, List.set_cons_succ]
      clear hS
      generalize wr2.drew = W5 at *
      refine till_one (i := 6) (by kernel_rfl) ?_
      refine wpOp_step (by rfl) fun K hK => ?_
      have h8 := (HD.out.alloc (.cells #[.int .u16 (o.tag : Int), .int .i64 o.kind, .slice av o.vals.length cv] 53)).own_blk (size := 3) (n := 1) (cap := 1) (xs := fldC (.slice av o.vals.length cv, o)) (Nat.le_refl _) (by decide) rfl rfl
      go_simp
      refine hK _ _ ⟨fun e => HSP.out _ _ h8.right h8.right.right.right.right.right, ?_⟩
      clear hK K
      have hx8 := h8.reads
      have H8 := Lib.hid h8
      have HX8 := Lib.hid hx8
      clear h8 hx8 HD
      generalize hgg : W5.heap.size = g8 at *
      generalize hww : W5.alloc _ = W8 at *
      clear hgg hww
      have h8 : St w0 W8 (own 53 3 (.slice ar R.length cr) R.length (R.flatMap fldC) * (own 53 3 (.slice (some ⟨g8, 0, none⟩) 1 1) 1 (fldC (.slice av o.vals.length cv, o)) * (blk b2 (.cells #[.int .i64 p2.lay.width, .int .i64 p2.lay.height, .bool p2.lay.tiled, .int .i64 p2.lay.w, .int .i64 p2.lay.h, .int .i64 p2.per, .int .i64 p2.bits, .int .u64 (p2.photo : Int), .bool p2.planar, .int .i64 p2.scheme, .bool p2.predict, .bool p2.low, .bool p2.two, .slice ao no co, .slice ac nc cc, .slice ar R.length cr] 30) * (blk b1 (.cells pg0 30) * (blk b0 (.cells pg0 30) * F))))) := H8.out.perm (by ac_rfl)
      clear H8
      have H8 := Lib.hid h8
      clear h8
      have T := elemFld
      refine till_one (i := 7) (by kernel_rfl) ?_
      refine wpOp_step (by rfl) fun K hK => ?_
      refine step_append_L T rfl _ _ rfl rfl (stl2 H8.out) 0 rfl (x := .slice (some ⟨g8, 0, none⟩) 1 1) rfl (m := 1) (news := fldC (.slice av o.vals.length cv, o)) HX8.out fldC_one (by unfold maxLen; omega) (by omega) fun v9 W9 h90 _ => ?_
      have h9 : St w0 W9 (own 53 3 v9 (R.length + 1) (R.flatMap fldC ++ fldC (.slice av o.vals.length cv, o)) * (own 53 3 (.slice (some ⟨g8, 0, none⟩) 1 1) 1 (fldC (.slice av o.vals.length cv, o)) * (blk b2 (.cells #[.int .i64 p2.lay.width, .int .i64 p2.lay.height, .bool p2.lay.tiled, .int .i64 p2.lay.w, .int .i64 p2.lay.h, .int .i64 p2.per, .int .i64 p2.bits, .int .u64 (p2.photo : Int), .bool p2.planar, .int .i64 p2.scheme, .bool p2.predict, .bool p2.low, .bool p2.two, .slice ao no co, .slice ac nc cc, .slice ar R.length cr] 30) * (blk b1 (.cells pg0 30) * (blk b0 (.cells pg0 30) * F))))) := stl2_out h90
      have hq15 := h9.perm (show _ = blk b2 (.cells #[.int .i64 p2.lay.width, .int .i64 p2.lay.height, .bool p2.lay.tiled, .int .i64 p2.lay.w, .int .i64 p2.lay.h, .int .i64 p2.per, .int .i64 p2.bits, .int .u64 (p2.photo : Int), .bool p2.planar, .int .i64 p2.scheme, .bool p2.predict, .bool p2.low, .bool p2.two, .slice ao no co, .slice ac nc cc, .slice ar R.length cr] 30) * (own 53 3 v9 (R.length + 1) (R.flatMap fldC ++ fldC (.slice av o.vals.length cv, o)) * (own 53 3 (.slice (some ⟨g8, 0, none⟩) 1 1) 1 (fldC (.slice av o.vals.length cv, o)) * (blk b1 (.cells pg0 30) * (blk b0 (.cells pg0 30) * F)))) by ac_rfl)
      refine hK _ _ ⟨fun e => HSP.out _ _ hq15 hq15.right.right.right.right.right, ?_⟩
      clear hK K h90
      refine till_one (i := 8) (by kernel_rfl) ?_
      refine wpOp_step (by rfl) fun K hK => ?_
      go_simp
      refine hK _ _ ⟨fun e => HSP.out _ _ hq15 hq15.right.right.right.right.right, ?_⟩
      clear hK K
      obtain ⟨a9, k9, rfl⟩ := h9.reads.sub
      have c15 := hq15.cell 15 rfl
      have f15 := hq15.free 15
      have HF := Lib.hid (hq15.set 15 (.slice a9 (R.length + 1) k9))
      clear h9 hq15 H8 HX8
      refine till_one (i := 9) (by kernel_rfl) ?_
      refine wpOp_step (by rfl) fun K hK => ?_
      go_simp
      refine hK _ _ ⟨fun e => (by first | exact absurd e (by decide) | (simp at e)), ?_⟩
      clear hK K
      refine ⟨(by kernel_rfl), NoPanic.normal ?_⟩
      go_wp2_with fail
      have hRl : (R ++ [((.slice av o.vals.length cv, o) : FV)]).length = R.length + 1 := by simp
      refine ⟨⟨k + 1, R ++ [(.slice av o.vals.length cv, o)], a9, k9, by omega, by go_num, by rw [hRl]; omega, ?_, ?_, ?_⟩, by simp [intOf]; omega⟩
      · rw [HTK.out, List.filter_append, ← HRF.out, List.filter_cons, ← Hkb.out]; simp
      · intro x hx
        rcases List.mem_append.1 hx with h | h
        · exact HRL.out x h
        · rw [List.mem_singleton.1 h]; exact HM.out
      · rw [hRl, List.flatMap_append]
        have h := HF.out.perm (show _ = own 53 3 (.slice (some ⟨g8, 0, none⟩) 1 1) 1 (fldC (.slice av o.vals.length cv, o)) * (blk b2 _ * (own 53 3 (.slice a9 (R.length + 1) k9) (R.length + 1) (R.flatMap fldC ++ fldC (.slice av o.vals.length cv, o)) * (blk b1 (.cells pg0 30) * (blk b0 (.cells pg0 30) * F)))) by ac_rfl)
        have h := h.right
        simpa using h
    · obtain rfl : k = L.length := by omega
      have hkI : ¬ ((L.length : Int) < L.length) := by omega
      rw [List.take_of_length_le (by simp)] at hRf
      have HRF := Lib.hid hRf
      clear hRf
      have HSP := Lib.hid hst
      have HB := Lib.hid (hst.perm (show _ = blk b0 (.cells pg0 30) * (blk b2 (.cells #[.int .i64 p2.lay.width, .int .i64 p2.lay.height, .bool p2.lay.tiled, .int .i64 p2.lay.w, .int .i64 p2.lay.h, .int .i64 p2.per, .int .i64 p2.bits, .int .u64 (p2.photo : Int), .bool p2.planar, .int .i64 p2.scheme, .bool p2.predict, .bool p2.low, .bool p2.two, .slice ao no co, .slice ac nc cc, .slice ar R.length cr] 30) * (own 53 3 (.slice ar R.length cr) R.length (R.flatMap fldC) * (blk b1 (.cells pg0 30) * F))) by ac_rfl))
      clear hst
      have HR := Lib.hid (HB.out.setRow #[.int .i64 p2.lay.width, .int .i64 p2.lay.height, .bool p2.lay.tiled, .int .i64 p2.lay.w, .int .i64 p2.lay.h, .int .i64 p2.per, .int .i64 p2.bits, .int .u64 (p2.photo : Int), .bool p2.planar, .int .i64 p2.scheme, .bool p2.predict, .bool p2.low, .bool p2.two, .slice ao no co, .slice ac nc cc, .slice ar R.length cr])
      go_upto_region 21 with (fail)
      go_wp2_with (first | (refine wpList_load_blk rfl 30 _ rfl HSP.out rfl Try.underlying30 rfl (by show _ = some 16; kernel_rfl) ?_) | (refine wpList_store_blk rfl 30 _ _ rfl HB.out rfl rfl (by show _ = some 16; kernel_rfl) rfl rfl ?_))
      refine bodyPost_ret2c rfl rfl HR.out.at_ Try.underlying30 rfl (by show _ = some 16; kernel_rfl) rfl ?_
      rw [HPG2.out]
      refine ⟨.slice ao no co, .slice ac nc cc, .slice ar R.length cr, R, _, rfl, HR.out.perm (star4 _ _ _ _ _), fun W h => ?_⟩
      have h := h.perm (star4 _ _ _ _ _).symm
      have hv := HV.out _ h.right.right.right.right
      refine ⟨?_, ?_, ⟨h.right.right.reads, fun x hx => hv.vals x (HRL.out x hx)⟩, HRF.out⟩
      · show Reads W 1 (.slice ao no co) p2.offs.length (p2.offs.map u64v)
        rw [Hof.out, Hvo.out]
        exact needV_reads hv _
      · show Reads W 1 (.slice ac nc cc) p2.cnts.length (p2.cnts.map u64v)
        rw [Hcn.out, Hvc.out]
        exact needV_reads hv _
end Go.Proofs.Ythoegjdkeooenaa
