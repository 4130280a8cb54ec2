/-
  Layer 23, the document: a page's size, its samples (package mezzotintref23).
-/
import Derived.Test.YthoegjdkeooenaaTagF
namespace Go.Proofs.Ythoegjdkeooenaa
open Go.RowKit Go.Mz
set_option linter.unusedVariables false
set_option linter.unusedSimpArgs false
set_option maxRecDepth 100000

def sizeE (l : List Fld) : Nat := firstE [needE l 256, oneE l 256 1 topN, needE l 257, oneE l 257 1 topN]
theorem oneR_ok {l : List Fld} {t least most without wo2 : Nat} (hn : needE l t = 0) (ho : oneE l t least most = 0) : oneR l t least most without = oneV l t least most wo2 := by
  rw [oneR, if_pos ho]
  unfold needE at hn
  unfold oneE at ho
  unfold oneV
  cases h : findF l t with
  | none => rw [h] at hn; simp at hn
  | some f =>
    rw [h] at hn ho
    simp only at hn ho ⊢
    have hw : wholeK f.kind = true := by
      cases h2 : wholeK f.kind
      · rw [h2] at hn; simp at hn
      · rfl
    rw [hw] at ho ⊢
    have hf : fitsV least most f.vals = true := by
      cases h2 : fitsV least most f.vals
      · rw [h2] at ho; simp at ho
      · rfl
    rw [hf]; rfl
set_option maxHeartbeats 40000000 in
theorem rsize_any {w : World} {v : Value} {L : List FV} (hv : FldsR w v L) (hL : L.length ≤ 1000000) (hT : ∀ x ∈ L, x.2.tag < 65536) :
    Calls Try.prog 30 #[v] w fun r w' => (∃ a b : Nat, r = .returned (.tuple #[.int .u64 (a : Int), .int .u64 (b : Int), .int .i64 (sizeE (fl L) : Nat)]) ∧ (sizeE (fl L) = 0 → a = wideV (fl L) ∧ b = highV (fl L))) ∧ w' = w := by
  have HN1 := Lib.hid (rneed_any hv hL hT 256 (j := 256) rfl)
  have HO1 := Lib.hid (rone_any hv hL hT 256 1 topN 0 (j := 256) (jl := 1) (jm := 4294967295) (jw := 0) rfl rfl rfl rfl)
  have HN2 := Lib.hid (rneed_any hv hL hT 257 (j := 257) rfl)
  have HO2 := Lib.hid (rone_any hv hL hT 257 1 topN 0 (j := 257) (jl := 1) (jm := 4294967295) (jw := 0) rfl rfl rfl rfl)
  obtain ⟨a, cap, rfl⟩ := hv.row.sub
  obtain ⟨se, hse⟩ : ∃ se, se = sizeE (fl L) := ⟨_, rfl⟩
  rw [← hse]
  have hwd := fun h1 h2 => oneR_ok (l := fl L) (t := 256) (least := 1) (most := topN) (without := 0) (wo2 := 1) h1 h2
  have hhd := fun h1 h2 => oneR_ok (l := fl L) (t := 257) (least := 1) (most := topN) (without := 0) (wo2 := 1) h1 h2
  rw [show oneV (fl L) 256 1 topN 1 = wideV (fl L) from rfl] at hwd
  rw [show oneV (fl L) 257 1 topN 1 = highV (fl L) from rfl] at hhd
  simp only [sizeE, firstE_cons] at hse
  rw [show firstE [] = 0 from rfl] at hse
  generalize wideV (fl L) = wv at *
  generalize highV (fl L) = hv2 at *
  generalize needE (fl L) 256 = n1 at *
  generalize oneE (fl L) 256 1 topN = o1 at *
  generalize needE (fl L) 257 = n2 at *
  generalize oneE (fl L) 257 1 topN = o2 at *
  generalize oneR (fl L) 256 1 topN 0 = a1 at *
  generalize oneR (fl L) 257 1 topN 0 = b1 at *
  have hr1 := (needV_reads hv 256).sub
  have hr2 := (needV_reads hv 257).sub
  obtain ⟨ax, cx, hx⟩ := hr1
  obtain ⟨ay, cy, hy⟩ := hr2
  rw [hx] at HN1
  rw [hy] at HN2
  clear hx hy hv
  have HSE := Lib.hid hse; have HWD := Lib.hid hwd; have HHD := Lib.hid hhd
  clear hse hwd hhd
  by_cases z1 : n1 = 0
  · subst z1
    by_cases z2 : o1 = 0
    · subst z2
      by_cases z3 : n2 = 0
      · subst z3
        obtain rfl : a1 = wv := HWD.out rfl rfl
        go_enter Try.func30, Try.ntmps30
        go_wp2_with (first | (go_at_call_of 51 (Value.int .i64 256); refine HN1.out.mono ?_; rintro r w2 ⟨rfl, rfl⟩) | (go_at_call_of 52 (Value.int .i64 256); refine HO1.out.mono ?_; rintro r w2 ⟨rfl, rfl⟩) | (go_at_call_of 51 (Value.int .i64 257); refine HN2.out.mono ?_; rintro r w2 ⟨rfl, rfl⟩) | (go_at_call_of 52 (Value.int .i64 257); refine HO2.out.mono ?_; rintro r w2 ⟨rfl, rfl⟩))
        go_ret3
        refine ⟨⟨a1, b1, ?_, fun h => ⟨rfl, HHD.out (by first | rfl | trivial) ?_⟩⟩, rfl⟩
        · rw [HSE.out, orE_zero, orE_zero, orE_zero, orE_nil]; rfl
        · rw [HSE.out, orE_zero, orE_zero, orE_zero, orE_nil] at h; exact h
      · have zI : ¬ (n2 : Int) = 0 := by omega
        go_enter Try.func30, Try.ntmps30
        go_wp2_with (first | (go_at_call_of 51 (Value.int .i64 256); refine HN1.out.mono ?_; rintro r w2 ⟨rfl, rfl⟩) | (go_at_call_of 52 (Value.int .i64 256); refine HO1.out.mono ?_; rintro r w2 ⟨rfl, rfl⟩) | (go_at_call_of 51 (Value.int .i64 257); refine HN2.out.mono ?_; rintro r w2 ⟨rfl, rfl⟩))
        go_ret3
        have h : se = n2 := by rw [HSE.out, orE_zero, orE_zero, orE_nz z3]
        exact ⟨⟨0, 0, by rw [h]; rfl, fun h0 => absurd (h ▸ h0) z3⟩, rfl⟩
    · have zI : ¬ (o1 : Int) = 0 := by omega
      go_enter Try.func30, Try.ntmps30
      go_wp2_with (first | (go_at_call_of 51 (Value.int .i64 256); refine HN1.out.mono ?_; rintro r w2 ⟨rfl, rfl⟩) | (go_at_call_of 52 (Value.int .i64 256); refine HO1.out.mono ?_; rintro r w2 ⟨rfl, rfl⟩))
      go_ret3
      have h : se = o1 := by rw [HSE.out, orE_zero, orE_nz z2]
      exact ⟨⟨0, 0, by rw [h]; rfl, fun h0 => absurd (h ▸ h0) z2⟩, rfl⟩
  · have zI : ¬ (n1 : Int) = 0 := by omega
    go_enter Try.func30, Try.ntmps30
    go_wp2_with (first | (go_at_call_of 51 (Value.int .i64 256); refine HN1.out.mono ?_; rintro r w2 ⟨rfl, rfl⟩))
    go_ret3
    have h : se = n1 := by rw [HSE.out, orE_nz z1]
    exact ⟨⟨0, 0, by rw [h]; rfl, fun h0 => absurd (h ▸ h0) z1⟩, rfl⟩

def samE (l : List Fld) : Nat := firstE [oneE l 277 1 topN, perE l, bitsE l (perV l)]
set_option maxHeartbeats 40000000 in
theorem rsamples_any {w0 w : World} {F : SProp} (h : St w0 w F) {v : Value} {L : List FV} (hvs : Stb w0 F (fun w => FldsR w v L)) (hL : L.length ≤ 1000000) (hT : ∀ x ∈ L, x.2.tag < 65536) :
    Calls Try.prog 31 #[v] w fun r w' => (∃ a b : Nat, r = .returned (.tuple #[.int .i64 (a : Int), .int .i64 (b : Int), .int .i64 (samE (fl L) : Nat)]) ∧ (samE (fl L) = 0 → a = perV (fl L) ∧ b = bitsV (fl L) (perV (fl L)))) ∧ St w0 w' F := by
  have hv := hvs w h
  have HO := Lib.hid (rone_any hv hL hT 277 1 topN 1 (j := 277) (jl := 1) (jm := 4294967295) (jw := 1) rfl rfl rfl rfl)
  have HF := Lib.hid (rfind_any hv hL hT 258 (j := 258) rfl)
  have HN := Lib.hid (rneed_any hv hL hT 258 (j := 258) rfl)
  obtain ⟨a, cap, rfl⟩ := hv.row.sub
  have HV := Lib.hid hv
  have HS := Lib.hid h
  clear hv hvs h
  obtain ⟨se, hse⟩ : ∃ se, se = samE (fl L) := ⟨_, rfl⟩
  rw [← hse]
  simp only [samE, firstE_cons] at hse
  rw [show firstE [] = 0 from rfl] at hse
  have hov : oneE (fl L) 277 1 topN = 0 → oneR (fl L) 277 1 topN 1 = oneV (fl L) 277 1 topN 1 := fun h => by rw [oneR, if_pos h]
  have hpv := oneV_within (l := fl L) (t := 277) (least := 1) (most := topN) (without := 1) (by decide) (by decide)
  obtain ⟨pr, hpr⟩ : ∃ pr, pr = perV (fl L) := ⟨_, rfl⟩
  obtain ⟨pe, hpe⟩ : ∃ pe, pe = perE (fl L) := ⟨_, rfl⟩
  obtain ⟨bi, hbi⟩ : ∃ bi, bi = bitsV (fl L) pr := ⟨_, rfl⟩
  obtain ⟨be, hbe⟩ : ∃ be, be = bitsE (fl L) pr := ⟨_, rfl⟩
  rw [← hpr, ← hbi]
  rw [← hpr, ← hpe, ← hbe] at hse
  unfold perV at hpr
  unfold perE at hpe
  generalize oneV (fl L) 277 1 topN 1 = pv at *
  generalize oneE (fl L) 277 1 topN = oe at *
  generalize oneR (fl L) 277 1 topN 1 = po at *
  have HSE := Lib.hid hse
  clear hse
  by_cases z1 : oe = 0
  rotate_left
  · have zI : ¬ (oe : Int) = 0 := by omega
    clear hov hpv hpr hpe
    go_enter Try.func31, Try.ntmps31
    go_wp2_with (go_at_call 52; refine HO.out.mono ?_; rintro r w2 ⟨rfl, rfl⟩)
    go_ret3
    have h : se = oe := by rw [HSE.out, orE_nz z1]
    exact ⟨⟨0, 0, by rw [h]; rfl, fun h0 => absurd (h ▸ h0) z1⟩, HS.out⟩
  subst z1
  obtain rfl := hov rfl
  clear hov
  by_cases h8 : 8 < po
  · rw [if_pos h8] at hpe
    subst hpe
    have h8I : (8 : Int) < po := by omega
    clear hpv hpr
    go_enter Try.func31, Try.ntmps31
    go_wp2_with (go_at_call 52; refine HO.out.mono ?_; rintro r w2 ⟨rfl, rfl⟩)
    go_ret3
    have h : se = 9 := by rw [HSE.out]; rfl
    exact ⟨⟨0, 0, by rw [h]; rfl, fun h0 => absurd (h ▸ h0) (by decide)⟩, HS.out⟩
  rw [if_neg h8] at hpe hpr
  subst hpe hpr
  obtain ⟨p1, _⟩ := hpv
  have p8 : pr ≤ 8 := by omega
  have h8I : ¬ (8 : Int) < (pr : Int) := by omega
  have hse2 : se = be := by rw [HSE.out, orE_zero, orE_zero, orE_nil]
  clear HSE
  subst hse2
  clear h8
  rcases values_cases L 258 with ⟨e0, e1, e2, e3, e4⟩ | ⟨x, e0, hx, hw, e1, e2, e3, e4⟩ | ⟨x, e0, hx, hw, e1, e2, e3, e4⟩
  · obtain rfl : bi = 1 := by rw [hbi, bitsV, e4]
    obtain rfl : se = 0 := by rw [hbe, bitsE, e4]
    have HE := Lib.hid e0
    clear e0 e1 e2 e3 e4 hbi hbe
    go_enter Try.func31, Try.ntmps31
    go_wp2_with (first | (go_at_call 52; refine HO.out.mono ?_; rintro r w2 ⟨rfl, rfl⟩) | (go_at_call 53; refine HF.out.mono ?_; rintro r w2 ⟨⟨i, rfl, hi⟩, rfl⟩; rw [findR, HE.out] at hi; subst hi))
    go_ret3
    exact ⟨⟨pr, 1, rfl, fun _ => ⟨rfl, rfl⟩⟩, HS.out⟩
  · obtain rfl : se = 3 := by rw [hbe, bitsE, e4]; simp [hw]
    have o3 : needE (fl L) 258 = 3 := by rw [needE, e4]; simp [hw]
    rw [e1, o3] at HN
    have HE := Lib.hid e0
    clear e0 e1 e2 e3 e4 hbi hbe o3 hx hw
    go_enter Try.func31, Try.ntmps31
    go_wp2_with (first | (go_at_call 52; refine HO.out.mono ?_; rintro r w2 ⟨rfl, rfl⟩) | (go_at_call 53; apply stop))
    refine on (HF.out.mono ?_)
    rintro r w2 ⟨⟨i, rfl, hi⟩, rfl⟩
    rw [findR, HE.out] at hi
    obtain ⟨k, rfl, hk, hxk⟩ := hi
    have hk0 : ¬ (k : Int) < 0 := by omega
    clear hxk
    go_wp2_with (go_at_call 51; refine HN.out.mono ?_; rintro r w2 ⟨rfl, rfl⟩)
    go_ret3
    exact ⟨⟨0, 0, rfl, fun h0 => absurd h0 (by decide)⟩, HS.out⟩
  · have hvr := HV.out.vals x hx
    obtain ⟨ao, co, hos⟩ := hvr.sub
    obtain ⟨ov, o⟩ := x
    simp only at hos e1 e4 hw hvr
    subst hos
    have o3 : needE (fl L) 258 = 0 := by rw [needE, e4]; simp [hw]
    rw [e1, o3] at HN
    obtain ⟨vs, hvs⟩ : ∃ vs, o.vals = vs := ⟨_, rfl⟩
    rw [hvs] at HN hvr
    have o1 : bi = if (vs.length == pr && !badB vs) = true then vs.headD 0 else 1 := by rw [hbi, bitsV, e4]; simp [hw, hvs]
    have o2 : se = if vs.length = pr then (if badB vs then 9 else 0) else 3 := by rw [hbe, bitsE, e4]; simp [hw, hvs]
    have HE := Lib.hid e0
    clear e0 e1 e2 e3 e4 hbi hbe o3 hx hw hvs
    have HVR := Lib.hid hvr
    clear hvr
    by_cases hl : vs.length = pr
    rotate_left
    · rw [if_neg hl] at o2
      subst o2
      have hlI : ¬ (vs.length : Int) = pr := by omega
      generalize vs.length = nn at *
      clear o1 hl
      go_enter Try.func31, Try.ntmps31
      go_wp2_with (first | (go_at_call 52; refine HO.out.mono ?_; rintro r w2 ⟨rfl, rfl⟩) | (go_at_call 53; apply stop))
      refine on (HF.out.mono ?_)
      rintro r w2 ⟨⟨i, rfl, hi⟩, rfl⟩
      rw [findR, HE.out] at hi
      obtain ⟨k, rfl, hk, hxk⟩ := hi
      have hk0 : ¬ (k : Int) < 0 := by omega
      clear hxk
      go_wp2_with (go_at_call 51; refine HN.out.mono ?_; rintro r w2 ⟨rfl, rfl⟩)
      go_ret3
      exact ⟨⟨0, 0, rfl, fun h0 => absurd h0 (by decide)⟩, HS.out⟩
    rw [if_pos hl] at o2
    rw [show (vs.length == pr) = true by simpa using hl, Bool.true_and] at o1
    obtain ⟨m, hm⟩ : ∃ m, vs.headD 0 = m := ⟨_, rfl⟩
    have hm0 : vs[0]? = some m := by
      cases vs with
      | nil => simp at hl; omega
      | cons a r => simpa using hm
    rw [hm] at o1
    have hbad : badB vs = vs.any fun n => n != m || decide (n < 1) || decide (32 < n) := by rw [badB, hm]
    have HR := Lib.hid (And.intro o1 o2)
    have HBAD := Lib.hid hbad
    have HNN := Lib.hid hl
    have hv0 : 0 < vs.length := by omega
    have hvl9 : (vs.length : Int) = pr := by omega
    obtain ⟨b, off, rfl, c0⟩ := HVR.out.at_ (j := 0) hv0
    rw [List.getElem?_map, hm0] at c0
    have c0 : w.cell? ⟨b, off, none⟩ = some (.int .u64 (m : Int)) := c0
    have HC := Lib.hid (fun (k n : Nat) (hk : vs[k]? = some n) => (by
      obtain ⟨b', off', e, c⟩ := HVR.out.at_ (j := k) (List.getElem?_eq_some_iff.1 hk).1
      cases e
      rw [List.getElem?_map, hk] at c
      exact c : w.cell? ⟨b, off + k, none⟩ = some (.int .u64 (n : Int))))
    have HM0 := Lib.hid hm0
    rw [hl] at HN hvl9 hv0
    clear o1 o2 hbad hm hl hm0 HVR
    go_enter Try.func31, Try.ntmps31
    go_wp2_with (first | (go_at_call 52; refine HO.out.mono ?_; rintro r w2 ⟨rfl, rfl⟩) | (go_at_call 53; apply stop))
    refine on (HF.out.mono ?_)
    rintro r w2 ⟨⟨i, rfl, hi⟩, rfl⟩
    rw [findR, HE.out] at hi
    obtain ⟨k, rfl, hk, hxk⟩ := hi
    have hk0 : ¬ (k : Int) < 0 := by omega
    clear hxk
    go_wp2_with (go_at_call 51; refine HN.out.mono ?_; rintro r w3 ⟨rfl, rfl⟩)
    go_loopw [9] (fun vi wr => ∃ j q : Nat, j ≤ pr ∧ vi = .int .i64 j ∧ wr = w3.drewN q ∧ (vs.take j).any (fun n => n != m || decide (n < 1) || decide (32 < n)) = false) (fun vi _ => pr - (intOf vi).toNat)
    case atStart => exact ⟨0, 0, by omega, rfl, rfl, rfl⟩
    case round =>
      obtain ⟨j, q, hj, rfl, rfl, hgood⟩ := hrel
      by_cases hjn : j < pr
      · have hjv : j < vs.length := by rw [HNN.out]; exact hjn
        have hx := List.getElem?_eq_getElem hjv
        obtain ⟨n, hn⟩ : ∃ n, vs[j] = n := ⟨_, rfl⟩
        rw [hn] at hx
        have ck := HC.out j n hx
        have hjI : (j : Int) < pr := by omega
        have htk : vs.take (j + 1) = vs.take j ++ [n] := by rw [List.take_succ_eq_append_getElem hjv, hn]
        have hdrop : vs = vs.take j ++ n :: vs.drop (j + 1) := by rw [← hn, ← List.drop_eq_getElem_cons hjv, List.take_append_drop]
        by_cases hb : (n != m || decide (n < 1) || decide (32 < n)) = true
        · have hB : badB vs = true := by rw [HBAD.out, hdrop, List.any_append, List.any_cons, hb]; simp
          obtain rfl : se = 9 := by rw [HR.out.2, hB]; rfl
          clear hB htk hdrop hgood hx hn
          by_cases hnm : n = m
          · subst hnm
            have hnn : (((n : Int)) != (n : Int)) = false := by simp
            by_cases hn1 : n < 1
            · have hn1I : decide ((n : Int) < 1) = true := by simp; omega
              have hn1J : (n : Int) < 1 := by omega
              clear hb
              go_wp2_with fail
              go_quiet (fail)
              go_wp2_with fail
              go_ret3
              exact ⟨⟨0, 0, rfl, fun h0 => absurd h0 (by decide)⟩, (by first | exact HS.out.drewN _ | exact (HS.out.drewN _).drewN _)⟩
            · have hn1I : decide ((n : Int) < 1) = false := by simp; omega
              have hn2 : (32 : Int) < n := by simp at hb; omega
              clear hb
              go_wp2_with fail
              go_quiet (fail)
              go_wp2_with fail
              go_ret3
              exact ⟨⟨0, 0, rfl, fun h0 => absurd h0 (by decide)⟩, (by first | exact HS.out.drewN _ | exact (HS.out.drewN _).drewN _)⟩
          · have hnn : (((n : Int)) != (m : Int)) = true := by simp; omega
            clear hb
            go_wp2_with fail
            go_quiet (fail)
            go_wp2_with fail
            go_ret3
            exact ⟨⟨0, 0, rfl, fun h0 => absurd h0 (by decide)⟩, (by first | exact HS.out.drewN _ | exact (HS.out.drewN _).drewN _)⟩
        · have hb : (n != m || decide (n < 1) || decide (32 < n)) = false := by simpa using hb
          have hg2 : (vs.take (j + 1)).any (fun n => n != m || decide (n < 1) || decide (32 < n)) = false := by rw [htk, List.any_append, hgood, List.any_cons, hb]; rfl
          have HG := Lib.hid hg2
          simp only [Bool.or_eq_false_iff, bne_eq_false_iff_eq, decide_eq_false_iff_not] at hb
          obtain ⟨⟨rfl, hn1⟩, hn2⟩ := hb
          have hnn : (((n : Int)) != (n : Int)) = false := by simp
          have hn1I : decide ((n : Int) < 1) = false := by simp; omega
          have hn2I : ¬ (32 : Int) < n := by omega
          clear hgood hg2 htk hdrop hx hn
          go_wp2_with fail
          go_quiet (fail)
          go_wp2_with fail
          exact ⟨⟨j + 1, q + nq, by omega, by go_num, (by first | rfl | exact World.drewN_drewN _ _ _), HG.out⟩, by simp [intOf]; omega⟩
      · obtain rfl : j = pr := by omega
        rw [List.take_of_length_le (by rw [HNN.out]; exact Nat.le_refl _)] at hgood
        have hB : badB vs = false := by rw [HBAD.out]; exact hgood
        obtain rfl : bi = m := by rw [HR.out.1, hB]; rfl
        obtain rfl : se = 0 := by rw [HR.out.2, hB]; rfl
        have hm32 : bi ≤ 32 := by
          rw [List.any_eq_false] at hgood
          have := hgood bi (List.mem_of_getElem? HM0.out)
          simp at this
          omega
        have hjI : ¬ (j : Int) < j := by omega
        clear hB hgood
        go_wp2_with fail
        go_quiet (fail)
        go_wp2_with fail
        go_ret3
        first
        | exact ⟨⟨j, bi, rfl, fun _ => ⟨rfl, rfl⟩⟩, (by first | exact HS.out.drewN _ | exact (HS.out.drewN _).drewN _)⟩
        | exact ⟨rfl, (by first | exact HS.out.drewN _ | exact (HS.out.drewN _).drewN _)⟩
end Go.Proofs.Ythoegjdkeooenaa
