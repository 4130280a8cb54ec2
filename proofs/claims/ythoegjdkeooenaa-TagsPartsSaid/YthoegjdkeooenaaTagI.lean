/-
  Layer 23, the document: how a page is cut, and where its parts are (package mezzotintref23).
-/
import Derived.Test.YthoegjdkeooenaaTagH
namespace Go.Proofs.Ythoegjdkeooenaa
open Go.RowKit Go.Mz
set_option linter.unusedVariables false
set_option linter.unusedSimpArgs false
set_option maxRecDepth 100000

/-- What 'where' gives. -/
def WhereOut (w0 : World) (F : SProp) (PG : PgD) (vo vc : Value) (er : Nat) (r : Ending) (w' : World) : Prop :=
  ∃ (p' : PgD) (ao ac : Option Addr) (no co nc cc : Nat), r = .returned (.tuple #[.agg (pgC p' (.slice ao no co) (.slice ac nc cc) nilV), .int .i64 (er : Int)]) ∧ (er = 0 → p' = PG ∧ .slice ao no co = vo ∧ .slice ac nc cc = vc) ∧ St w0 w' F
theorem findR_has {L : List FV} {t : Nat} {i : Int} (h : findR L t i) : decide (0 ≤ i) = hasT (fl L) t := by
  unfold findR at h
  unfold hasT
  rw [findV_snd]
  cases hf : findV L t with
  | none => rw [hf] at h; simp only at h; subst h; rfl
  | some x => rw [hf] at h; obtain ⟨k, rfl, _⟩ := h; simp
def pgW (p : PgD) (y : LayD) (os cs : List Nat) : PgD := { p with lay := y, offs := os, cnts := cs }


set_option maxHeartbeats 40000000 in
theorem rwhere_tiled {w0 w : World} {F : SProp} (h : St w0 w F) {v : Value} {L : List FV} (hvs : Stb w0 F (fun w => FldsR w v L)) (hL : L.length ≤ 1000000) (hT : ∀ x ∈ L, x.2.tag < 65536) (hLv : ∀ x ∈ L, x.2.vals.length ≤ 1000000) (p : PgD) {per : Nat} (hper : p.per = per) (hp8 : per ≤ 8)
    {wi hi : Nat} (hw1 : 1 ≤ wi) (hwi : wi ≤ 32768) (hh1 : 1 ≤ hi) (hhi : hi ≤ 32768) {jw jh : Int} (hjw : jw = wi) (hjh : jh = hi) (ht : tiledB (fl L) = true) :
    Calls Try.prog 33 #[v, .agg (pgC p nilV nilV nilV), .int .u64 jw, .int .u64 jh] w
      (WhereOut w0 F (pgW p (layW (fl L) wi hi) (needV (fl L) (offT (fl L))) (needV (fl L) (cntT (fl L)))) (valuesV L (offT (fl L))) (valuesV L (cntT (fl L))) (firstE (layE (fl L) wi hi per p.planar))) := by
  subst hjw hjh
  have HT0 := Lib.hid ht
  clear ht
  have HNE := Lib.hid (fun (w : World) (h : St w0 w F) (t : Nat) => rneed_any (hvs w h) hL hT t rfl)
  have HFI := Lib.hid (fun (w : World) (h : St w0 w F) (t : Nat) => rfind_any (hvs w h) hL hT t rfl)
  have HON := Lib.hid (fun (w : World) (h : St w0 w F) (t least most without : Nat) (j jl jm jw : Int) (a1 : j = t) (a2 : jl = least) (a3 : jm = most) (a4 : jw = without) => rone_any (hvs w h) hL hT t least most without a1 a2 a3 a4)
  have HNV := Lib.hid (fun (t : Nat) => (needV_reads (hvs w h) t).sub)
  have HNL := Lib.hid (fun (t : Nat) => needV_len hLv t)
  obtain ⟨a, cap, rfl⟩ := (hvs w h).row.sub
  obtain ⟨PG, hPG⟩ : ∃ PG, PG = pgW p (layW (fl L) wi hi) (needV (fl L) (offT (fl L))) (needV (fl L) (cntT (fl L))) := ⟨_, rfl⟩
  obtain ⟨VO, hVO⟩ : ∃ VO, VO = valuesV L (offT (fl L)) := ⟨_, rfl⟩
  obtain ⟨VC, hVC⟩ : ∃ VC, VC = valuesV L (cntT (fl L)) := ⟨_, rfl⟩
  obtain ⟨er, her⟩ : ∃ er, er = firstE (layE (fl L) wi hi per p.planar) := ⟨_, rfl⟩
  rw [← hPG, ← hVO, ← hVC, ← her]
  have HPG := Lib.hid hPG; have HVO := Lib.hid hVO; have HVC := Lib.hid hVC; have HER := Lib.hid her
  clear hPG hVO hVC her hvs hLv
  have h1 := (h.alloc (.cells (pgC p nilV nilV nilV) 30)).alloc (.cells pg0 30)
  have hsz : (w.alloc (.cells (pgC p nilV nilV nilV) 30)).heap.size = w.heap.size + 1 := Array.size_push _
  rw [hsz] at h1
  have H1 := Lib.hid (h1.perm (star_left_comm _ _ _))
  clear h1 h hsz
  obtain ⟨⟨lw, lh, lt, lW, lH⟩, pper, bits, photo, planar, scheme, predict, low, two, offs, cnts, rest⟩ := p
  simp only at hper
  subst hper
  unfold pgC at H1
  unfold pgC
  unfold pgW at HPG
  simp only at H1 HPG HER
  simp only
  go_enter Try.func33, Try.ntmps33
  go_upto_region 1 with (fail)
  generalize hbp : w.heap.size = bp at *
  generalize hbr : bp + 1 = br at *
  clear hbp hbr
  have HS : Hid (St w0 _ (blk bp (.cells #[.int .i64 lw, .int .i64 lh, .bool lt, .int .i64 lW, .int .i64 lH, .int .i64 (per : Int), .int .i64 bits, .int .u64 (photo : Int), .bool planar, .int .i64 scheme, .bool predict, .bool low, .bool two, nilV, nilV, nilV] 30) * (blk br (.cells #[.int .i64 0, .int .i64 0, .bool false, .int .i64 0, .int .i64 0, .int .i64 0, .int .i64 0, .int .u64 0, .bool false, .int .i64 0, .bool false, .bool false, .bool false, nilV, nilV, nilV] 30) * F))) := H1
  clear H1
  generalize World.alloc _ _ = wa at *
  have c0 := HS.out.cell 0 rfl
  have f0 := HS.out.free 0
  have c1 := HS.out.cell 1 rfl
  have f1 := HS.out.free 1
  have c2 := HS.out.cell 2 rfl
  have f2 := HS.out.free 2
  have c3 := HS.out.cell 3 rfl
  have f3 := HS.out.free 3
  have c4 := HS.out.cell 4 rfl
  have f4 := HS.out.free 4
  have HS2 := Lib.hid ((((((HS.out.set 0 (.int .i64 (wi : Int))).set 1 (.int .i64 (hi : Int))).set 2 (.bool false)).set 3 (.int .i64 (wi : Int))).set 4 (.int .i64 0)))
  go_upto_region 3 with (fail)
  clear c0 f0 c1 f1 c2 f2 c3 f3 c4 f4
  have HS9 : Hid (St w0 _ (blk bp (.cells #[.int .i64 (wi : Int), .int .i64 (hi : Int), .bool false, .int .i64 (wi : Int), .int .i64 0, .int .i64 (per : Int), .int .i64 bits, .int .u64 (photo : Int), .bool planar, .int .i64 scheme, .bool predict, .bool low, .bool two, nilV, nilV, nilV] 30) * (blk br (.cells #[.int .i64 0, .int .i64 0, .bool false, .int .i64 0, .int .i64 0, .int .i64 0, .int .i64 0, .int .u64 0, .bool false, .int .i64 0, .bool false, .bool false, .bool false, nilV, nilV, nilV] 30) * F))) := HS2
  clear HS HS2
  have HS := HS9
  clear HS9
  generalize World.setCell _ _ _ = wz at *
  go_cut [51] from 34 to 51 (fun b wx => b = .bool (tiledB (fl L)) ∧ wx = wz)
  case first =>
    cases x0 : hasT (fl L) 322
    rotate_left
    · skip
      have HB := Lib.hid (show tiledB (fl L) = true by rw [tiledB]; simp [*])
      have HC2 := Lib.hid (HFI.out _ HS.out.right.right 322)
      go_wp2_with (go_at_call 53; apply stop)
      refine on (HC2.out.mono ?_)
      rintro r w9 ⟨⟨i0, rfl, hi0⟩, rfl⟩
      have hd0 := findR_has hi0
      rw [x0] at hd0
      have hI0 : 0 ≤ i0 := by simpa using hd0
      clear HC2 hi0 hd0
      go_wp2_with fail
      go_meet
      first | exact ⟨congrArg Value.bool HB.out.symm, rfl⟩ | exact ⟨congrArg Value.bool (by rw [HB.out]; simp [*]), rfl⟩
    cases x1 : hasT (fl L) 323
    rotate_left
    · skip
      have HB := Lib.hid (show tiledB (fl L) = true by rw [tiledB]; simp [*])
      have HC2 := Lib.hid (HFI.out _ HS.out.right.right 322)
      go_wp2_with (go_at_call 53; apply stop)
      refine on (HC2.out.mono ?_)
      rintro r w9 ⟨⟨i0, rfl, hi0⟩, rfl⟩
      have hd0 := findR_has hi0
      rw [x0] at hd0
      have hI0 : ¬ 0 ≤ i0 := by simpa using hd0
      clear HC2 hi0 hd0
      have HC2 := Lib.hid (HFI.out _ HS.out.right.right 323)
      go_wp2_with (go_at_call 53; apply stop)
      refine on (HC2.out.mono ?_)
      rintro r w9 ⟨⟨i1, rfl, hi1⟩, rfl⟩
      have hd1 := findR_has hi1
      rw [x1] at hd1
      have hI1 : 0 ≤ i1 := by simpa using hd1
      clear HC2 hi1 hd1
      go_wp2_with fail
      go_meet
      first | exact ⟨congrArg Value.bool HB.out.symm, rfl⟩ | exact ⟨congrArg Value.bool (by rw [HB.out]; simp [*]), rfl⟩
    cases x2 : hasT (fl L) 324
    rotate_left
    · skip
      have HB := Lib.hid (show tiledB (fl L) = true by rw [tiledB]; simp [*])
      have HC2 := Lib.hid (HFI.out _ HS.out.right.right 322)
      go_wp2_with (go_at_call 53; apply stop)
      refine on (HC2.out.mono ?_)
      rintro r w9 ⟨⟨i0, rfl, hi0⟩, rfl⟩
      have hd0 := findR_has hi0
      rw [x0] at hd0
      have hI0 : ¬ 0 ≤ i0 := by simpa using hd0
      clear HC2 hi0 hd0
      have HC2 := Lib.hid (HFI.out _ HS.out.right.right 323)
      go_wp2_with (go_at_call 53; apply stop)
      refine on (HC2.out.mono ?_)
      rintro r w9 ⟨⟨i1, rfl, hi1⟩, rfl⟩
      have hd1 := findR_has hi1
      rw [x1] at hd1
      have hI1 : ¬ 0 ≤ i1 := by simpa using hd1
      clear HC2 hi1 hd1
      have HC2 := Lib.hid (HFI.out _ HS.out.right.right 324)
      go_wp2_with (go_at_call 53; apply stop)
      refine on (HC2.out.mono ?_)
      rintro r w9 ⟨⟨i2, rfl, hi2⟩, rfl⟩
      have hd2 := findR_has hi2
      rw [x2] at hd2
      have hI2 : 0 ≤ i2 := by simpa using hd2
      clear HC2 hi2 hd2
      go_wp2_with fail
      go_meet
      first | exact ⟨congrArg Value.bool HB.out.symm, rfl⟩ | exact ⟨congrArg Value.bool (by rw [HB.out]; simp [*]), rfl⟩
    cases x3 : hasT (fl L) 325
    rotate_left
    · skip
      have HB := Lib.hid (show tiledB (fl L) = true by rw [tiledB]; simp [*])
      have HC2 := Lib.hid (HFI.out _ HS.out.right.right 322)
      go_wp2_with (go_at_call 53; apply stop)
      refine on (HC2.out.mono ?_)
      rintro r w9 ⟨⟨i0, rfl, hi0⟩, rfl⟩
      have hd0 := findR_has hi0
      rw [x0] at hd0
      have hI0 : ¬ 0 ≤ i0 := by simpa using hd0
      clear HC2 hi0 hd0
      have HC2 := Lib.hid (HFI.out _ HS.out.right.right 323)
      go_wp2_with (go_at_call 53; apply stop)
      refine on (HC2.out.mono ?_)
      rintro r w9 ⟨⟨i1, rfl, hi1⟩, rfl⟩
      have hd1 := findR_has hi1
      rw [x1] at hd1
      have hI1 : ¬ 0 ≤ i1 := by simpa using hd1
      clear HC2 hi1 hd1
      have HC2 := Lib.hid (HFI.out _ HS.out.right.right 324)
      go_wp2_with (go_at_call 53; apply stop)
      refine on (HC2.out.mono ?_)
      rintro r w9 ⟨⟨i2, rfl, hi2⟩, rfl⟩
      have hd2 := findR_has hi2
      rw [x2] at hd2
      have hI2 : ¬ 0 ≤ i2 := by simpa using hd2
      clear HC2 hi2 hd2
      have HC2 := Lib.hid (HFI.out _ HS.out.right.right 325)
      go_wp2_with (go_at_call 53; apply stop)
      refine on (HC2.out.mono ?_)
      rintro r w9 ⟨⟨i3, rfl, hi3⟩, rfl⟩
      have hd3 := findR_has hi3
      rw [x3] at hd3
      have hI3 : 0 ≤ i3 := by simpa using hd3
      clear HC2 hi3 hd3
      go_wp2_with fail
      go_meet
      first | exact ⟨congrArg Value.bool HB.out.symm, rfl⟩ | exact ⟨congrArg Value.bool (by rw [HB.out]; simp [*]), rfl⟩
    have HB := Lib.hid (show tiledB (fl L) = false by rw [tiledB]; simp [*])
    have HC2 := Lib.hid (HFI.out _ HS.out.right.right 322)
    go_wp2_with (go_at_call 53; apply stop)
    refine on (HC2.out.mono ?_)
    rintro r w9 ⟨⟨i0, rfl, hi0⟩, rfl⟩
    have hd0 := findR_has hi0
    rw [x0] at hd0
    have hI0 : ¬ 0 ≤ i0 := by simpa using hd0
    clear HC2 hi0 hd0
    have HC2 := Lib.hid (HFI.out _ HS.out.right.right 323)
    go_wp2_with (go_at_call 53; apply stop)
    refine on (HC2.out.mono ?_)
    rintro r w9 ⟨⟨i1, rfl, hi1⟩, rfl⟩
    have hd1 := findR_has hi1
    rw [x1] at hd1
    have hI1 : ¬ 0 ≤ i1 := by simpa using hd1
    clear HC2 hi1 hd1
    have HC2 := Lib.hid (HFI.out _ HS.out.right.right 324)
    go_wp2_with (go_at_call 53; apply stop)
    refine on (HC2.out.mono ?_)
    rintro r w9 ⟨⟨i2, rfl, hi2⟩, rfl⟩
    have hd2 := findR_has hi2
    rw [x2] at hd2
    have hI2 : ¬ 0 ≤ i2 := by simpa using hd2
    clear HC2 hi2 hd2
    have HC2 := Lib.hid (HFI.out _ HS.out.right.right 325)
    go_wp2_with (go_at_call 53; apply stop)
    refine on (HC2.out.mono ?_)
    rintro r w9 ⟨⟨i3, rfl, hi3⟩, rfl⟩
    have hd3 := findR_has hi3
    rw [x3] at hd3
    have hI3 : ¬ 0 ≤ i3 := by simpa using hd3
    clear HC2 hi3 hd3
    go_wp2_with fail
    go_meet
    first | exact ⟨congrArg Value.bool HB.out.symm, rfl⟩ | exact ⟨congrArg Value.bool (by rw [HB.out]; simp [*]), rfl⟩
  obtain ⟨rfl, rfl⟩ := hcut
  clear HFI
  have ht := HT0.out
  rw [ht]
  · skip
    have hot : offT (fl L) = 324 := by rw [offT, ht]; rfl
    have hct : cntT (fl L) = 325 := by rw [cntT, ht]; rfl
    have Hot := Lib.hid hot; have Hct := Lib.hid hct
    have hle : layE (fl L) wi hi per planar = [needE (fl L) 322, needE (fl L) 323, oneE (fl L) 322 1 topN, oneE (fl L) 323 1 topN, needE (fl L) 324, needE (fl L) 325, cutD (layW (fl L) wi hi) per planar (needV (fl L) 324).length (needV (fl L) 325).length] := by rw [layE, ht, hot, hct]; rfl
    have hly : layW (fl L) wi hi = ⟨wi, hi, true, oneV (fl L) 322 1 topN 16, oneV (fl L) 323 1 topN 16⟩ := by rw [layW, ht]; rfl
    have hle2 := HER.out
    rw [hle] at hle2
    have HLE0 := Lib.hid hle2; have HLY := Lib.hid hly
    clear hot hct hle hly hle2 ht
    obtain ⟨ea, hea⟩ : ∃ e, e = needE (fl L) 322 := ⟨_, rfl⟩
    obtain ⟨ana, cna, hna⟩ := HNV.out 322
    have Hea := Lib.hid hea; have Hna := Lib.hid hna
    clear hea hna
    obtain ⟨eb, heb⟩ : ∃ e, e = needE (fl L) 323 := ⟨_, rfl⟩
    obtain ⟨anb, cnb, hnb⟩ := HNV.out 323
    have Heb := Lib.hid heb; have Hnb := Lib.hid hnb
    clear heb hnb
    obtain ⟨oc, hoc⟩ : ∃ o, o = oneR (fl L) 322 1 topN 1 := ⟨_, rfl⟩
    obtain ⟨qc, hqc⟩ : ∃ e, e = oneE (fl L) 322 1 topN := ⟨_, rfl⟩
    have Hoc := Lib.hid hoc; have Hqc := Lib.hid hqc
    clear hoc hqc
    obtain ⟨od, hod⟩ : ∃ o, o = oneR (fl L) 323 1 topN 1 := ⟨_, rfl⟩
    obtain ⟨qd, hqd⟩ : ∃ e, e = oneE (fl L) 323 1 topN := ⟨_, rfl⟩
    have Hod := Lib.hid hod; have Hqd := Lib.hid hqd
    clear hod hqd
    obtain ⟨eo, heo⟩ : ∃ e, e = needE (fl L) 324 := ⟨_, rfl⟩
    obtain ⟨ano, cno, hno⟩ := HNV.out 324
    have Heo := Lib.hid heo; have Hno := Lib.hid hno
    clear heo hno
    have HnO := Hno
    clear Hno
    obtain ⟨en, hen⟩ : ∃ e, e = needE (fl L) 325 := ⟨_, rfl⟩
    obtain ⟨ann, cnn, hnn⟩ := HNV.out 325
    have Hen := Lib.hid hen; have Hnn := Lib.hid hnn
    clear hen hnn
    have hle : er = firstE [ea, eb, qc, qd, eo, en, cutD (layW (fl L) wi hi) per planar (needV (fl L) 324).length (needV (fl L) 325).length] := by rw [Hea.out, Heb.out, Hqc.out, Hqd.out, Heo.out, Hen.out]; exact HLE0.out
    have HLE := Lib.hid hle
    clear hle
    have hcv : ea = 0 → qc = 0 → oc = oneV (fl L) 322 1 topN 16 := fun h1 h2 => by rw [Hoc.out]; exact oneR_ok (by rw [← Hea.out]; exact h1) (by rw [← Hqc.out]; exact h2)
    have hdv : eb = 0 → qd = 0 → od = oneV (fl L) 323 1 topN 16 := fun h1 h2 => by rw [Hod.out]; exact oneR_ok (by rw [← Heb.out]; exact h1) (by rw [← Hqd.out]; exact h2)
    have HCV := Lib.hid hcv; have HDV := Lib.hid hdv
    clear hcv hdv
    have HC := HNE.out _ HS.out.right.right 322
    rw [Hna.out, ← Hea.out] at HC
    have HC2 := Lib.hid HC
    clear HC
    go_wp2_with (go_at_call 51; apply stop)
    refine on (HC2.out.mono ?_)
    rintro r w9 ⟨rfl, rfl⟩
    clear HC2
    have HC := HNE.out _ HS.out.right.right 323
    rw [Hnb.out, ← Heb.out] at HC
    have HC2 := Lib.hid HC
    clear HC
    go_wp2_with (go_at_call 51; apply stop)
    refine on (HC2.out.mono ?_)
    rintro r w9 ⟨rfl, rfl⟩
    clear HC2
    have HC := HON.out _ HS.out.right.right 322 1 topN 1 322 1 4294967295 1 rfl rfl rfl rfl
    rw [← Hoc.out, ← Hqc.out] at HC
    have HC2 := Lib.hid HC
    clear HC
    go_wp2_with (go_at_call 52; apply stop)
    refine on (HC2.out.mono ?_)
    rintro r w9 ⟨rfl, rfl⟩
    clear HC2
    have HC := HON.out _ HS.out.right.right 323 1 topN 1 323 1 4294967295 1 rfl rfl rfl rfl
    rw [← Hod.out, ← Hqd.out] at HC
    have HC2 := Lib.hid HC
    clear HC
    go_wp2_with (go_at_call 52; apply stop)
    refine on (HC2.out.mono ?_)
    rintro r w9 ⟨rfl, rfl⟩
    clear HC2
    by_cases zea : ea = 0
    rotate_left
    · have zI : ¬ (ea : Int) = 0 := by omega
      obtain rfl : er = ea := by
        rw [HLE.out]
        simp only [firstE_cons, orE_zero]
        exact orE_nz zea _
      have HB := Lib.hid (HS.out.perm (star_left_comm _ _ _))
      have HR := Lib.hid (HB.out.setRow #[.int .i64 (wi : Int), .int .i64 (hi : Int), .bool false, .int .i64 (wi : Int), .int .i64 0, .int .i64 (per : Int), .int .i64 bits, .int .u64 (photo : Int), .bool planar, .int .i64 scheme, .bool predict, .bool low, .bool two, nilV, nilV, nilV])
      go_wp2_with (first | (refine wpList_load_blk rfl 30 _ rfl HS.out rfl Try.underlying30 rfl (by show _ = some 16; kernel_rfl) ?_) | (refine wpList_store_blk rfl 30 _ _ rfl HB.out rfl rfl (by show _ = some 16; kernel_rfl) rfl rfl ?_))
      refine bodyPost_ret2c rfl rfl HR.out.at_ Try.underlying30 rfl (by show _ = some 16; kernel_rfl) rfl ?_
      exact ⟨⟨⟨wi, hi, false, wi, 0⟩, per, bits, photo, planar, scheme, predict, low, two, [], [], []⟩, none, none, 0, 0, 0, 0, rfl, fun h0 => absurd h0 (by first | decide | assumption), HR.out.right.right⟩
    subst zea
    by_cases zeb : eb = 0
    rotate_left
    · have zI : ¬ (eb : Int) = 0 := by omega
      obtain rfl : er = eb := by
        rw [HLE.out]
        simp only [firstE_cons, orE_zero]
        exact orE_nz zeb _
      have HB := Lib.hid (HS.out.perm (star_left_comm _ _ _))
      have HR := Lib.hid (HB.out.setRow #[.int .i64 (wi : Int), .int .i64 (hi : Int), .bool false, .int .i64 (wi : Int), .int .i64 0, .int .i64 (per : Int), .int .i64 bits, .int .u64 (photo : Int), .bool planar, .int .i64 scheme, .bool predict, .bool low, .bool two, nilV, nilV, nilV])
      go_wp2_with (first | (refine wpList_load_blk rfl 30 _ rfl HS.out rfl Try.underlying30 rfl (by show _ = some 16; kernel_rfl) ?_) | (refine wpList_store_blk rfl 30 _ _ rfl HB.out rfl rfl (by show _ = some 16; kernel_rfl) rfl rfl ?_))
      refine bodyPost_ret2c rfl rfl HR.out.at_ Try.underlying30 rfl (by show _ = some 16; kernel_rfl) rfl ?_
      exact ⟨⟨⟨wi, hi, false, wi, 0⟩, per, bits, photo, planar, scheme, predict, low, two, [], [], []⟩, none, none, 0, 0, 0, 0, rfl, fun h0 => absurd h0 (by first | decide | assumption), HR.out.right.right⟩
    subst zeb
    by_cases zqc : qc = 0
    rotate_left
    · have zI : ¬ (qc : Int) = 0 := by omega
      obtain rfl : er = qc := by
        rw [HLE.out]
        simp only [firstE_cons, orE_zero]
        exact orE_nz zqc _
      have HB := Lib.hid (HS.out.perm (star_left_comm _ _ _))
      have HR := Lib.hid (HB.out.setRow #[.int .i64 (wi : Int), .int .i64 (hi : Int), .bool false, .int .i64 (wi : Int), .int .i64 0, .int .i64 (per : Int), .int .i64 bits, .int .u64 (photo : Int), .bool planar, .int .i64 scheme, .bool predict, .bool low, .bool two, nilV, nilV, nilV])
      go_wp2_with (first | (refine wpList_load_blk rfl 30 _ rfl HS.out rfl Try.underlying30 rfl (by show _ = some 16; kernel_rfl) ?_) | (refine wpList_store_blk rfl 30 _ _ rfl HB.out rfl rfl (by show _ = some 16; kernel_rfl) rfl rfl ?_))
      refine bodyPost_ret2c rfl rfl HR.out.at_ Try.underlying30 rfl (by show _ = some 16; kernel_rfl) rfl ?_
      exact ⟨⟨⟨wi, hi, false, wi, 0⟩, per, bits, photo, planar, scheme, predict, low, two, [], [], []⟩, none, none, 0, 0, 0, 0, rfl, fun h0 => absurd h0 (by first | decide | assumption), HR.out.right.right⟩
    subst zqc
    by_cases zqd : qd = 0
    rotate_left
    · have zI : ¬ (qd : Int) = 0 := by omega
      obtain rfl : er = qd := by
        rw [HLE.out]
        simp only [firstE_cons, orE_zero]
        exact orE_nz zqd _
      have HB := Lib.hid (HS.out.perm (star_left_comm _ _ _))
      have HR := Lib.hid (HB.out.setRow #[.int .i64 (wi : Int), .int .i64 (hi : Int), .bool false, .int .i64 (wi : Int), .int .i64 0, .int .i64 (per : Int), .int .i64 bits, .int .u64 (photo : Int), .bool planar, .int .i64 scheme, .bool predict, .bool low, .bool two, nilV, nilV, nilV])
      go_wp2_with (first | (refine wpList_load_blk rfl 30 _ rfl HS.out rfl Try.underlying30 rfl (by show _ = some 16; kernel_rfl) ?_) | (refine wpList_store_blk rfl 30 _ _ rfl HB.out rfl rfl (by show _ = some 16; kernel_rfl) rfl rfl ?_))
      refine bodyPost_ret2c rfl rfl HR.out.at_ Try.underlying30 rfl (by show _ = some 16; kernel_rfl) rfl ?_
      exact ⟨⟨⟨wi, hi, false, wi, 0⟩, per, bits, photo, planar, scheme, predict, low, two, [], [], []⟩, none, none, 0, 0, 0, 0, rfl, fun h0 => absurd h0 (by first | decide | assumption), HR.out.right.right⟩
    subst zqd
    have hoc := HCV.out (by first | rfl | trivial) (by first | rfl | trivial)
    have hod := HDV.out (by first | rfl | trivial) (by first | rfl | trivial)
    have boc : oc ≤ 4294967295 := by have := (oneV_within (l := fl L) (t := 322) (least := 1) (most := topN) (without := 16) (by decide) (by decide)).2; unfold topN at *; omega
    have bod : od ≤ 4294967295 := by have := (oneV_within (l := fl L) (t := 323) (least := 1) (most := topN) (without := 16) (by decide) (by decide)).2; unfold topN at *; omega
    have hly2 : layW (fl L) wi hi = ⟨wi, hi, true, oc, od⟩ := by rw [HLY.out, hoc, hod]
    have HLY2 := Lib.hid hly2
    clear hoc hod hly2
    have c2 := HS.out.cell 2 rfl
    have f2 := HS.out.free 2
    have c3 := HS.out.cell 3 rfl
    have f3 := HS.out.free 3
    have c4 := HS.out.cell 4 rfl
    have f4 := HS.out.free 4
    have HS2 := Lib.hid ((((HS.out.set 2 (.bool true)).set 3 (.int .i64 (oc : Int))).set 4 (.int .i64 (od : Int))))
    go_upto_region 22 with (fail)
    clear c2 f2 c3 f3 c4 f4
    have HS9 : Hid (St w0 _ (blk bp (.cells #[.int .i64 (wi : Int), .int .i64 (hi : Int), .bool true, .int .i64 (oc : Int), .int .i64 (od : Int), .int .i64 (per : Int), .int .i64 bits, .int .u64 (photo : Int), .bool planar, .int .i64 scheme, .bool predict, .bool low, .bool two, nilV, nilV, nilV] 30) * (blk br (.cells #[.int .i64 0, .int .i64 0, .bool false, .int .i64 0, .int .i64 0, .int .i64 0, .int .i64 0, .int .u64 0, .bool false, .int .i64 0, .bool false, .bool false, .bool false, nilV, nilV, nilV] 30) * F))) := HS2
    clear HS HS2
    have HS := HS9
    clear HS9
    generalize World.setCell _ _ _ = wz at *
    have HC := HNE.out _ HS.out.right.right 324
    rw [HnO.out, ← Heo.out] at HC
    have HC2 := Lib.hid HC
    clear HC
    go_wp2_with (go_at_call 51; apply stop)
    refine on (HC2.out.mono ?_)
    rintro r w9 ⟨rfl, rfl⟩
    clear HC2
    by_cases zeo : eo = 0
    rotate_left
    · have zI : ¬ (eo : Int) = 0 := by omega
      obtain rfl : er = eo := by
        rw [HLE.out]
        simp only [firstE_cons, orE_zero]
        exact orE_nz zeo _
      have HB := Lib.hid (HS.out.perm (star_left_comm _ _ _))
      have HR := Lib.hid (HB.out.setRow #[.int .i64 (wi : Int), .int .i64 (hi : Int), .bool true, .int .i64 (oc : Int), .int .i64 (od : Int), .int .i64 (per : Int), .int .i64 bits, .int .u64 (photo : Int), .bool planar, .int .i64 scheme, .bool predict, .bool low, .bool two, nilV, nilV, nilV])
      go_wp2_with (first | (refine wpList_load_blk rfl 30 _ rfl HS.out rfl Try.underlying30 rfl (by show _ = some 16; kernel_rfl) ?_) | (refine wpList_store_blk rfl 30 _ _ rfl HB.out rfl rfl (by show _ = some 16; kernel_rfl) rfl rfl ?_))
      refine bodyPost_ret2c rfl rfl HR.out.at_ Try.underlying30 rfl (by show _ = some 16; kernel_rfl) rfl ?_
      exact ⟨⟨⟨wi, hi, true, oc, od⟩, per, bits, photo, planar, scheme, predict, low, two, [], [], []⟩, none, none, 0, 0, 0, 0, rfl, fun h0 => absurd h0 (by first | decide | assumption), HR.out.right.right⟩
    subst zeo
    have HC := HNE.out _ HS.out.right.right 325
    rw [Hnn.out, ← Hen.out] at HC
    have HC2 := Lib.hid HC
    clear HC
    go_wp2_with (go_at_call 51; apply stop)
    refine on (HC2.out.mono ?_)
    rintro r w9 ⟨rfl, rfl⟩
    clear HC2
    by_cases zen : en = 0
    rotate_left
    · have zI : ¬ (en : Int) = 0 := by omega
      obtain rfl : er = en := by
        rw [HLE.out]
        simp only [firstE_cons, orE_zero]
        exact orE_nz zen _
      have HB := Lib.hid (HS.out.perm (star_left_comm _ _ _))
      have HR := Lib.hid (HB.out.setRow #[.int .i64 (wi : Int), .int .i64 (hi : Int), .bool true, .int .i64 (oc : Int), .int .i64 (od : Int), .int .i64 (per : Int), .int .i64 bits, .int .u64 (photo : Int), .bool planar, .int .i64 scheme, .bool predict, .bool low, .bool two, nilV, nilV, nilV])
      go_wp2_with (first | (refine wpList_load_blk rfl 30 _ rfl HS.out rfl Try.underlying30 rfl (by show _ = some 16; kernel_rfl) ?_) | (refine wpList_store_blk rfl 30 _ _ rfl HB.out rfl rfl (by show _ = some 16; kernel_rfl) rfl rfl ?_))
      refine bodyPost_ret2c rfl rfl HR.out.at_ Try.underlying30 rfl (by show _ = some 16; kernel_rfl) rfl ?_
      exact ⟨⟨⟨wi, hi, true, oc, od⟩, per, bits, photo, planar, scheme, predict, low, two, [], [], []⟩, none, none, 0, 0, 0, 0, rfl, fun h0 => absurd h0 (by first | decide | assumption), HR.out.right.right⟩
    subst zen
    obtain ⟨no, hno⟩ : ∃ no, no = (needV (fl L) 324).length := ⟨_, rfl⟩
    obtain ⟨nc, hnc⟩ : ∃ nc, nc = (needV (fl L) 325).length := ⟨_, rfl⟩
    have hnol := HNL.out 324
    have hncl := HNL.out 325
    have Hno := Lib.hid hno; have Hnc := Lib.hid hnc
    rw [← hno] at hnol ⊢
    rw [← hnc] at hncl ⊢
    clear hno hnc
    have c13 := HS.out.cell 13 rfl
    have f13 := HS.out.free 13
    have c14 := HS.out.cell 14 rfl
    have f14 := HS.out.free 14
    have HS2 := Lib.hid (((HS.out.set 13 (.slice ano no cno)).set 14 (.slice ann nc cnn)))
    go_upto_region 29 with (fail)
    clear c13 f13 c14 f14
    have HS9 : Hid (St w0 _ (blk bp (.cells #[.int .i64 (wi : Int), .int .i64 (hi : Int), .bool true, .int .i64 (oc : Int), .int .i64 (od : Int), .int .i64 (per : Int), .int .i64 bits, .int .u64 (photo : Int), .bool planar, .int .i64 scheme, .bool predict, .bool low, .bool two, .slice ano no cno, .slice ann nc cnn, nilV] 30) * (blk br (.cells #[.int .i64 0, .int .i64 0, .bool false, .int .i64 0, .int .i64 0, .int .i64 0, .int .i64 0, .int .u64 0, .bool false, .int .i64 0, .bool false, .bool false, .bool false, nilV, nilV, nilV] 30) * F))) := HS2
    clear HS HS2
    have HS := HS9
    clear HS9
    generalize World.setCell _ _ _ = wz at *
    obtain ⟨cd, hcd⟩ : ∃ cd, cd = cutD (⟨wi, hi, true, oc, od⟩ : LayD) per planar no nc := ⟨_, rfl⟩
    have her : er = cd := by
      rw [HLE.out, HLY2.out, ← Hno.out, ← Hnc.out, hcd]
      simp only [firstE_cons, orE_zero]
      exact orE_nil _
    subst her
    have HCD := Lib.hid hcd
    clear hcd
    have hfin : (PG = ⟨⟨wi, hi, true, oc, od⟩, per, bits, photo, planar, scheme, predict, low, two, needV (fl L) 324, needV (fl L) 325, rest⟩) ∧ (VO = .slice ano no cno) ∧ (VC = .slice ann nc cnn) := ⟨by rw [HPG.out, HLY2.out, Hot.out, Hct.out], by rw [HVO.out, Hot.out, Hno.out]; exact HnO.out, by rw [HVC.out, Hct.out, Hnc.out]; exact Hnn.out⟩
    have HFIN := Lib.hid hfin
    clear hfin
    have c0 := HS.out.cell 0 rfl
    have c1 := HS.out.cell 1 rfl
    have c2 := HS.out.cell 2 rfl
    have c3 := HS.out.cell 3 rfl
    have c4 := HS.out.cell 4 rfl
    have c5 := HS.out.cell 5 rfl
    have c6 := HS.out.cell 6 rfl
    have c7 := HS.out.cell 7 rfl
    have c8 := HS.out.cell 8 rfl
    have c9 := HS.out.cell 9 rfl
    have c10 := HS.out.cell 10 rfl
    have c11 := HS.out.cell 11 rfl
    have c12 := HS.out.cell 12 rfl
    have c13 := HS.out.cell 13 rfl
    have c14 := HS.out.cell 14 rfl
    have c15 := HS.out.cell 15 rfl
    have HRI := Lib.hid (rright_any HS.out ⟨wi, hi, true, oc, od⟩)
    have HPA := Lib.hid (fun (w : World) (h : St w0 w (blk bp (.cells #[.int .i64 (wi : Int), .int .i64 (hi : Int), .bool true, .int .i64 (oc : Int), .int .i64 (od : Int), .int .i64 (per : Int), .int .i64 bits, .int .u64 (photo : Int), .bool planar, .int .i64 scheme, .bool predict, .bool low, .bool two, .slice ano no cno, .slice ann nc cnn, nilV] 30) * (blk br (.cells #[.int .i64 0, .int .i64 0, .bool false, .int .i64 0, .int .i64 0, .int .i64 0, .int .i64 0, .int .u64 0, .bool false, .int .i64 0, .bool false, .bool false, .bool false, nilV, nilV, nilV] 30) * F))) (hr : rightL ⟨wi, hi, true, oc, od⟩) => rparts_any h (p := ⟨⟨wi, hi, true, oc, od⟩, per, bits, photo, planar, scheme, predict, low, two, needV (fl L) 324, needV (fl L) 325, rest⟩) (vo := .slice ano no cno) (vc := .slice ann nc cnn) (vr := nilV) hr (by show 0 ≤ (per : Int) ∧ (per : Int) ≤ 1000; omega) rfl rfl rfl)
    by_cases hr : rightL ⟨wi, hi, true, oc, od⟩
    rotate_left
    · have hcd : er = 3 := by rw [HCD.out, cutD, if_neg (fun h => hr h.1)]
      subst hcd
      rw [show decide (rightL ⟨wi, hi, true, oc, od⟩) = false by simpa using hr] at HRI
      clear hr
      go_wp2_with (go_at_call 20; apply stop)
      refine on (HRI.out.mono ?_)
      rintro r w8 ⟨rfl, h8⟩
      have HS8 := Lib.hid h8
      clear HS h8 c0 c1 c2 c3 c4 c5 c6 c7 c8 c9 c10 c11 c12 c13 c14 c15
      have HS := HS8
      clear HS8 HRI
      go_upto_region 30 with (fail)
      have HB := Lib.hid (HS.out.perm (star_left_comm _ _ _))
      have HR := Lib.hid (HB.out.setRow #[.int .i64 (wi : Int), .int .i64 (hi : Int), .bool true, .int .i64 (oc : Int), .int .i64 (od : Int), .int .i64 (per : Int), .int .i64 bits, .int .u64 (photo : Int), .bool planar, .int .i64 scheme, .bool predict, .bool low, .bool two, .slice ano no cno, .slice ann nc cnn, nilV])
      go_wp2_with (first | (refine wpList_load_blk rfl 30 _ rfl HS.out rfl Try.underlying30 rfl (by show _ = some 16; kernel_rfl) ?_) | (refine wpList_store_blk rfl 30 _ _ rfl HB.out rfl rfl (by show _ = some 16; kernel_rfl) rfl rfl ?_))
      refine bodyPost_ret2c rfl rfl HR.out.at_ Try.underlying30 rfl (by show _ = some 16; kernel_rfl) rfl ?_
      exact ⟨⟨⟨wi, hi, true, oc, od⟩, per, bits, photo, planar, scheme, predict, low, two, [], [], []⟩, ano, ann, no, cno, nc, cnn, rfl, fun h0 => absurd h0 (by first | decide | assumption), HR.out.right.right⟩
    rw [show decide (rightL ⟨wi, hi, true, oc, od⟩) = true by simpa using hr] at HRI
    have hcl := countL_le hr
    obtain ⟨n, hn⟩ : ∃ n : Int, n = (if planar then countL ⟨wi, hi, true, oc, od⟩ * (per : Int) else countL ⟨wi, hi, true, oc, od⟩) := ⟨_, rfl⟩
    have HPN := Lib.hid (fun (w : World) (h : St w0 w (blk bp (.cells #[.int .i64 (wi : Int), .int .i64 (hi : Int), .bool true, .int .i64 (oc : Int), .int .i64 (od : Int), .int .i64 (per : Int), .int .i64 bits, .int .u64 (photo : Int), .bool planar, .int .i64 scheme, .bool predict, .bool low, .bool two, .slice ano no cno, .slice ann nc cnn, nilV] 30) * (blk br (.cells #[.int .i64 0, .int .i64 0, .bool false, .int .i64 0, .int .i64 0, .int .i64 0, .int .i64 0, .int .u64 0, .bool false, .int .i64 0, .bool false, .bool false, .bool false, nilV, nilV, nilV] 30) * F))) => (by have := HPA.out w h hr; unfold partsP at this; simp only at this; rw [← hn] at this; exact this : Calls Try.prog 21 #[.agg (pgC ⟨⟨wi, hi, true, oc, od⟩, per, bits, photo, planar, scheme, predict, low, two, needV (fl L) 324, needV (fl L) 325, rest⟩ (.slice ano no cno) (.slice ann nc cnn) nilV)] w fun r w' => r = .returned (.int .i64 n) ∧ St w0 w' (blk bp (.cells #[.int .i64 (wi : Int), .int .i64 (hi : Int), .bool true, .int .i64 (oc : Int), .int .i64 (od : Int), .int .i64 (per : Int), .int .i64 bits, .int .u64 (photo : Int), .bool planar, .int .i64 scheme, .bool predict, .bool low, .bool two, .slice ano no cno, .slice ann nc cnn, nilV] 30) * (blk br (.cells #[.int .i64 0, .int .i64 0, .bool false, .int .i64 0, .int .i64 0, .int .i64 0, .int .i64 0, .int .u64 0, .bool false, .int .i64 0, .bool false, .bool false, .bool false, nilV, nilV, nilV] 30) * F))))
    have hcd : er = if (no : Int) = n ∧ (nc : Int) = n then 0 else 3 := by
      rw [HCD.out, cutD, ← hn]
      simp [hr]
    have HCD2 := Lib.hid hcd
    clear hcd hn hcl HPA
    go_wp2_with (go_at_call 20; apply stop)
    refine on (HRI.out.mono ?_)
    rintro r w8 ⟨rfl, h8⟩
    have HS8 := Lib.hid h8
    clear HS h8 c0 c1 c2 c3 c4 c5 c6 c7 c8 c9 c10 c11 c12 c13 c14 c15
    have HS := HS8
    clear HS8 HRI
    have c0 := HS.out.cell 0 rfl
    have c1 := HS.out.cell 1 rfl
    have c2 := HS.out.cell 2 rfl
    have c3 := HS.out.cell 3 rfl
    have c4 := HS.out.cell 4 rfl
    have c5 := HS.out.cell 5 rfl
    have c6 := HS.out.cell 6 rfl
    have c7 := HS.out.cell 7 rfl
    have c8 := HS.out.cell 8 rfl
    have c9 := HS.out.cell 9 rfl
    have c10 := HS.out.cell 10 rfl
    have c11 := HS.out.cell 11 rfl
    have c12 := HS.out.cell 12 rfl
    have c13 := HS.out.cell 13 rfl
    have c14 := HS.out.cell 14 rfl
    have c15 := HS.out.cell 15 rfl
    go_wp2_with (go_at_call 21; apply stop)
    refine on ((HPN.out _ HS.out).mono ?_)
    rintro r w8 ⟨rfl, h8⟩
    have HS8 := Lib.hid h8
    clear HS h8 c0 c1 c2 c3 c4 c5 c6 c7 c8 c9 c10 c11 c12 c13 c14 c15
    have HS := HS8
    clear HS8
    by_cases g1 : (no : Int) = n
    rotate_left
    · have hcd : er = 3 := by rw [HCD2.out, if_neg (fun h => g1 h.1)]
      subst hcd
      have g1b : ((no : Int) != n) = true := by simpa using g1
      go_upto_region 30 with (fail)
      have HB := Lib.hid (HS.out.perm (star_left_comm _ _ _))
      have HR := Lib.hid (HB.out.setRow #[.int .i64 (wi : Int), .int .i64 (hi : Int), .bool true, .int .i64 (oc : Int), .int .i64 (od : Int), .int .i64 (per : Int), .int .i64 bits, .int .u64 (photo : Int), .bool planar, .int .i64 scheme, .bool predict, .bool low, .bool two, .slice ano no cno, .slice ann nc cnn, nilV])
      go_wp2_with (first | (refine wpList_load_blk rfl 30 _ rfl HS.out rfl Try.underlying30 rfl (by show _ = some 16; kernel_rfl) ?_) | (refine wpList_store_blk rfl 30 _ _ rfl HB.out rfl rfl (by show _ = some 16; kernel_rfl) rfl rfl ?_))
      refine bodyPost_ret2c rfl rfl HR.out.at_ Try.underlying30 rfl (by show _ = some 16; kernel_rfl) rfl ?_
      exact ⟨⟨⟨wi, hi, true, oc, od⟩, per, bits, photo, planar, scheme, predict, low, two, [], [], []⟩, ano, ann, no, cno, nc, cnn, rfl, fun h0 => absurd h0 (by first | decide | assumption), HR.out.right.right⟩
    have g1b : ((no : Int) != n) = false := by simpa using g1
    have c0 := HS.out.cell 0 rfl
    have c1 := HS.out.cell 1 rfl
    have c2 := HS.out.cell 2 rfl
    have c3 := HS.out.cell 3 rfl
    have c4 := HS.out.cell 4 rfl
    have c5 := HS.out.cell 5 rfl
    have c6 := HS.out.cell 6 rfl
    have c7 := HS.out.cell 7 rfl
    have c8 := HS.out.cell 8 rfl
    have c9 := HS.out.cell 9 rfl
    have c10 := HS.out.cell 10 rfl
    have c11 := HS.out.cell 11 rfl
    have c12 := HS.out.cell 12 rfl
    have c13 := HS.out.cell 13 rfl
    have c14 := HS.out.cell 14 rfl
    have c15 := HS.out.cell 15 rfl
    go_wp2_with (go_at_call 21; apply stop)
    refine on ((HPN.out _ HS.out).mono ?_)
    rintro r w8 ⟨rfl, h8⟩
    have HS8 := Lib.hid h8
    clear HS h8 c0 c1 c2 c3 c4 c5 c6 c7 c8 c9 c10 c11 c12 c13 c14 c15
    have HS := HS8
    clear HS8
    by_cases g2 : (nc : Int) = n
    rotate_left
    · have hcd : er = 3 := by rw [HCD2.out, if_neg (fun h => g2 h.2)]
      subst hcd
      have g2b : ((nc : Int) != n) = true := by simpa using g2
      go_upto_region 30 with (fail)
      have HB := Lib.hid (HS.out.perm (star_left_comm _ _ _))
      have HR := Lib.hid (HB.out.setRow #[.int .i64 (wi : Int), .int .i64 (hi : Int), .bool true, .int .i64 (oc : Int), .int .i64 (od : Int), .int .i64 (per : Int), .int .i64 bits, .int .u64 (photo : Int), .bool planar, .int .i64 scheme, .bool predict, .bool low, .bool two, .slice ano no cno, .slice ann nc cnn, nilV])
      go_wp2_with (first | (refine wpList_load_blk rfl 30 _ rfl HS.out rfl Try.underlying30 rfl (by show _ = some 16; kernel_rfl) ?_) | (refine wpList_store_blk rfl 30 _ _ rfl HB.out rfl rfl (by show _ = some 16; kernel_rfl) rfl rfl ?_))
      refine bodyPost_ret2c rfl rfl HR.out.at_ Try.underlying30 rfl (by show _ = some 16; kernel_rfl) rfl ?_
      exact ⟨⟨⟨wi, hi, true, oc, od⟩, per, bits, photo, planar, scheme, predict, low, two, [], [], []⟩, ano, ann, no, cno, nc, cnn, rfl, fun h0 => absurd h0 (by first | decide | assumption), HR.out.right.right⟩
    have hcd : er = 0 := by rw [HCD2.out, if_pos ⟨g1, g2⟩]
    subst hcd
    have g2b : ((nc : Int) != n) = false := by simpa using g2
    go_upto_region 31 with (fail)
    have HB := Lib.hid (HS.out.perm (star_left_comm _ _ _))
    have HR := Lib.hid (HB.out.setRow #[.int .i64 (wi : Int), .int .i64 (hi : Int), .bool true, .int .i64 (oc : Int), .int .i64 (od : Int), .int .i64 (per : Int), .int .i64 bits, .int .u64 (photo : Int), .bool planar, .int .i64 scheme, .bool predict, .bool low, .bool two, .slice ano no cno, .slice ann nc cnn, nilV])
    go_wp2_with (first | (refine wpList_load_blk rfl 30 _ rfl HS.out rfl Try.underlying30 rfl (by show _ = some 16; kernel_rfl) ?_) | (refine wpList_store_blk rfl 30 _ _ rfl HB.out rfl rfl (by show _ = some 16; kernel_rfl) rfl rfl ?_))
    refine bodyPost_ret2c rfl rfl HR.out.at_ Try.underlying30 rfl (by show _ = some 16; kernel_rfl) rfl ?_
    exact ⟨⟨⟨wi, hi, true, oc, od⟩, per, bits, photo, planar, scheme, predict, low, two, needV (fl L) 324, needV (fl L) 325, rest⟩, ano, ann, no, cno, nc, cnn, rfl, fun _ => ⟨HFIN.out.1.symm, HFIN.out.2.1.symm, HFIN.out.2.2.symm⟩, HR.out.right.right⟩

set_option maxHeartbeats 40000000 in
theorem rwhere_strips {w0 w : World} {F : SProp} (h : St w0 w F) {v : Value} {L : List FV} (hvs : Stb w0 F (fun w => FldsR w v L)) (hL : L.length ≤ 1000000) (hT : ∀ x ∈ L, x.2.tag < 65536) (hLv : ∀ x ∈ L, x.2.vals.length ≤ 1000000) (p : PgD) {per : Nat} (hper : p.per = per) (hp8 : per ≤ 8)
    {wi hi : Nat} (hw1 : 1 ≤ wi) (hwi : wi ≤ 32768) (hh1 : 1 ≤ hi) (hhi : hi ≤ 32768) {jw jh : Int} (hjw : jw = wi) (hjh : jh = hi) (ht : tiledB (fl L) = false) :
    Calls Try.prog 33 #[v, .agg (pgC p nilV nilV nilV), .int .u64 jw, .int .u64 jh] w
      (WhereOut w0 F (pgW p (layW (fl L) wi hi) (needV (fl L) (offT (fl L))) (needV (fl L) (cntT (fl L)))) (valuesV L (offT (fl L))) (valuesV L (cntT (fl L))) (firstE (layE (fl L) wi hi per p.planar))) := by
  subst hjw hjh
  have HT0 := Lib.hid ht
  clear ht
  have HNE := Lib.hid (fun (w : World) (h : St w0 w F) (t : Nat) => rneed_any (hvs w h) hL hT t rfl)
  have HFI := Lib.hid (fun (w : World) (h : St w0 w F) (t : Nat) => rfind_any (hvs w h) hL hT t rfl)
  have HON := Lib.hid (fun (w : World) (h : St w0 w F) (t least most without : Nat) (j jl jm jw : Int) (a1 : j = t) (a2 : jl = least) (a3 : jm = most) (a4 : jw = without) => rone_any (hvs w h) hL hT t least most without a1 a2 a3 a4)
  have HNV := Lib.hid (fun (t : Nat) => (needV_reads (hvs w h) t).sub)
  have HNL := Lib.hid (fun (t : Nat) => needV_len hLv t)
  obtain ⟨a, cap, rfl⟩ := (hvs w h).row.sub
  obtain ⟨PG, hPG⟩ : ∃ PG, PG = pgW p (layW (fl L) wi hi) (needV (fl L) (offT (fl L))) (needV (fl L) (cntT (fl L))) := ⟨_, rfl⟩
  obtain ⟨VO, hVO⟩ : ∃ VO, VO = valuesV L (offT (fl L)) := ⟨_, rfl⟩
  obtain ⟨VC, hVC⟩ : ∃ VC, VC = valuesV L (cntT (fl L)) := ⟨_, rfl⟩
  obtain ⟨er, her⟩ : ∃ er, er = firstE (layE (fl L) wi hi per p.planar) := ⟨_, rfl⟩
  rw [← hPG, ← hVO, ← hVC, ← her]
  have HPG := Lib.hid hPG; have HVO := Lib.hid hVO; have HVC := Lib.hid hVC; have HER := Lib.hid her
  clear hPG hVO hVC her hvs hLv
  have h1 := (h.alloc (.cells (pgC p nilV nilV nilV) 30)).alloc (.cells pg0 30)
  have hsz : (w.alloc (.cells (pgC p nilV nilV nilV) 30)).heap.size = w.heap.size + 1 := Array.size_push _
  rw [hsz] at h1
  have H1 := Lib.hid (h1.perm (star_left_comm _ _ _))
  clear h1 h hsz
  obtain ⟨⟨lw, lh, lt, lW, lH⟩, pper, bits, photo, planar, scheme, predict, low, two, offs, cnts, rest⟩ := p
  simp only at hper
  subst hper
  unfold pgC at H1
  unfold pgC
  unfold pgW at HPG
  simp only at H1 HPG HER
  simp only
  go_enter Try.func33, Try.ntmps33
  go_upto_region 1 with (fail)
  generalize hbp : w.heap.size = bp at *
  generalize hbr : bp + 1 = br at *
  clear hbp hbr
  have HS : Hid (St w0 _ (blk bp (.cells #[.int .i64 lw, .int .i64 lh, .bool lt, .int .i64 lW, .int .i64 lH, .int .i64 (per : Int), .int .i64 bits, .int .u64 (photo : Int), .bool planar, .int .i64 scheme, .bool predict, .bool low, .bool two, nilV, nilV, nilV] 30) * (blk br (.cells #[.int .i64 0, .int .i64 0, .bool false, .int .i64 0, .int .i64 0, .int .i64 0, .int .i64 0, .int .u64 0, .bool false, .int .i64 0, .bool false, .bool false, .bool false, nilV, nilV, nilV] 30) * F))) := H1
  clear H1
  generalize World.alloc _ _ = wa at *
  have c0 := HS.out.cell 0 rfl
  have f0 := HS.out.free 0
  have c1 := HS.out.cell 1 rfl
  have f1 := HS.out.free 1
  have c2 := HS.out.cell 2 rfl
  have f2 := HS.out.free 2
  have c3 := HS.out.cell 3 rfl
  have f3 := HS.out.free 3
  have c4 := HS.out.cell 4 rfl
  have f4 := HS.out.free 4
  have HS2 := Lib.hid ((((((HS.out.set 0 (.int .i64 (wi : Int))).set 1 (.int .i64 (hi : Int))).set 2 (.bool false)).set 3 (.int .i64 (wi : Int))).set 4 (.int .i64 0)))
  go_upto_region 3 with (fail)
  clear c0 f0 c1 f1 c2 f2 c3 f3 c4 f4
  have HS9 : Hid (St w0 _ (blk bp (.cells #[.int .i64 (wi : Int), .int .i64 (hi : Int), .bool false, .int .i64 (wi : Int), .int .i64 0, .int .i64 (per : Int), .int .i64 bits, .int .u64 (photo : Int), .bool planar, .int .i64 scheme, .bool predict, .bool low, .bool two, nilV, nilV, nilV] 30) * (blk br (.cells #[.int .i64 0, .int .i64 0, .bool false, .int .i64 0, .int .i64 0, .int .i64 0, .int .i64 0, .int .u64 0, .bool false, .int .i64 0, .bool false, .bool false, .bool false, nilV, nilV, nilV] 30) * F))) := HS2
  clear HS HS2
  have HS := HS9
  clear HS9
  generalize World.setCell _ _ _ = wz at *
  go_cut [51] from 34 to 51 (fun b wx => b = .bool (tiledB (fl L)) ∧ wx = wz)
  case first =>
    cases x0 : hasT (fl L) 322
    rotate_left
    · skip
      have HB := Lib.hid (show tiledB (fl L) = true by rw [tiledB]; simp [*])
      have HC2 := Lib.hid (HFI.out _ HS.out.right.right 322)
      go_wp2_with (go_at_call 53; apply stop)
      refine on (HC2.out.mono ?_)
      rintro r w9 ⟨⟨i0, rfl, hi0⟩, rfl⟩
      have hd0 := findR_has hi0
      rw [x0] at hd0
      have hI0 : 0 ≤ i0 := by simpa using hd0
      clear HC2 hi0 hd0
      go_wp2_with fail
      go_meet
      first | exact ⟨congrArg Value.bool HB.out.symm, rfl⟩ | exact ⟨congrArg Value.bool (by rw [HB.out]; simp [*]), rfl⟩
    cases x1 : hasT (fl L) 323
    rotate_left
    · skip
      have HB := Lib.hid (show tiledB (fl L) = true by rw [tiledB]; simp [*])
      have HC2 := Lib.hid (HFI.out _ HS.out.right.right 322)
      go_wp2_with (go_at_call 53; apply stop)
      refine on (HC2.out.mono ?_)
      rintro r w9 ⟨⟨i0, rfl, hi0⟩, rfl⟩
      have hd0 := findR_has hi0
      rw [x0] at hd0
      have hI0 : ¬ 0 ≤ i0 := by simpa using hd0
      clear HC2 hi0 hd0
      have HC2 := Lib.hid (HFI.out _ HS.out.right.right 323)
      go_wp2_with (go_at_call 53; apply stop)
      refine on (HC2.out.mono ?_)
      rintro r w9 ⟨⟨i1, rfl, hi1⟩, rfl⟩
      have hd1 := findR_has hi1
      rw [x1] at hd1
      have hI1 : 0 ≤ i1 := by simpa using hd1
      clear HC2 hi1 hd1
      go_wp2_with fail
      go_meet
      first | exact ⟨congrArg Value.bool HB.out.symm, rfl⟩ | exact ⟨congrArg Value.bool (by rw [HB.out]; simp [*]), rfl⟩
    cases x2 : hasT (fl L) 324
    rotate_left
    · skip
      have HB := Lib.hid (show tiledB (fl L) = true by rw [tiledB]; simp [*])
      have HC2 := Lib.hid (HFI.out _ HS.out.right.right 322)
      go_wp2_with (go_at_call 53; apply stop)
      refine on (HC2.out.mono ?_)
      rintro r w9 ⟨⟨i0, rfl, hi0⟩, rfl⟩
      have hd0 := findR_has hi0
      rw [x0] at hd0
      have hI0 : ¬ 0 ≤ i0 := by simpa using hd0
      clear HC2 hi0 hd0
      have HC2 := Lib.hid (HFI.out _ HS.out.right.right 323)
      go_wp2_with (go_at_call 53; apply stop)
      refine on (HC2.out.mono ?_)
      rintro r w9 ⟨⟨i1, rfl, hi1⟩, rfl⟩
      have hd1 := findR_has hi1
      rw [x1] at hd1
      have hI1 : ¬ 0 ≤ i1 := by simpa using hd1
      clear HC2 hi1 hd1
      have HC2 := Lib.hid (HFI.out _ HS.out.right.right 324)
      go_wp2_with (go_at_call 53; apply stop)
      refine on (HC2.out.mono ?_)
      rintro r w9 ⟨⟨i2, rfl, hi2⟩, rfl⟩
      have hd2 := findR_has hi2
      rw [x2] at hd2
      have hI2 : 0 ≤ i2 := by simpa using hd2
      clear HC2 hi2 hd2
      go_wp2_with fail
      go_meet
      first | exact ⟨congrArg Value.bool HB.out.symm, rfl⟩ | exact ⟨congrArg Value.bool (by rw [HB.out]; simp [*]), rfl⟩
    cases x3 : hasT (fl L) 325
    rotate_left
    · skip
      have HB := Lib.hid (show tiledB (fl L) = true by rw [tiledB]; simp [*])
      have HC2 := Lib.hid (HFI.out _ HS.out.right.right 322)
      go_wp2_with (go_at_call 53; apply stop)
      refine on (HC2.out.mono ?_)
      rintro r w9 ⟨⟨i0, rfl, hi0⟩, rfl⟩
      have hd0 := findR_has hi0
      rw [x0] at hd0
      have hI0 : ¬ 0 ≤ i0 := by simpa using hd0
      clear HC2 hi0 hd0
      have HC2 := Lib.hid (HFI.out _ HS.out.right.right 323)
      go_wp2_with (go_at_call 53; apply stop)
      refine on (HC2.out.mono ?_)
      rintro r w9 ⟨⟨i1, rfl, hi1⟩, rfl⟩
      have hd1 := findR_has hi1
      rw [x1] at hd1
      have hI1 : ¬ 0 ≤ i1 := by simpa using hd1
      clear HC2 hi1 hd1
      have HC2 := Lib.hid (HFI.out _ HS.out.right.right 324)
      go_wp2_with (go_at_call 53; apply stop)
      refine on (HC2.out.mono ?_)
      rintro r w9 ⟨⟨i2, rfl, hi2⟩, rfl⟩
      have hd2 := findR_has hi2
      rw [x2] at hd2
      have hI2 : ¬ 0 ≤ i2 := by simpa using hd2
      clear HC2 hi2 hd2
      have HC2 := Lib.hid (HFI.out _ HS.out.right.right 325)
      go_wp2_with (go_at_call 53; apply stop)
      refine on (HC2.out.mono ?_)
      rintro r w9 ⟨⟨i3, rfl, hi3⟩, rfl⟩
      have hd3 := findR_has hi3
      rw [x3] at hd3
      have hI3 : 0 ≤ i3 := by simpa using hd3
      clear HC2 hi3 hd3
      go_wp2_with fail
      go_meet
      first | exact ⟨congrArg Value.bool HB.out.symm, rfl⟩ | exact ⟨congrArg Value.bool (by rw [HB.out]; simp [*]), rfl⟩
    have HB := Lib.hid (show tiledB (fl L) = false by rw [tiledB]; simp [*])
    have HC2 := Lib.hid (HFI.out _ HS.out.right.right 322)
    go_wp2_with (go_at_call 53; apply stop)
    refine on (HC2.out.mono ?_)
    rintro r w9 ⟨⟨i0, rfl, hi0⟩, rfl⟩
    have hd0 := findR_has hi0
    rw [x0] at hd0
    have hI0 : ¬ 0 ≤ i0 := by simpa using hd0
    clear HC2 hi0 hd0
    have HC2 := Lib.hid (HFI.out _ HS.out.right.right 323)
    go_wp2_with (go_at_call 53; apply stop)
    refine on (HC2.out.mono ?_)
    rintro r w9 ⟨⟨i1, rfl, hi1⟩, rfl⟩
    have hd1 := findR_has hi1
    rw [x1] at hd1
    have hI1 : ¬ 0 ≤ i1 := by simpa using hd1
    clear HC2 hi1 hd1
    have HC2 := Lib.hid (HFI.out _ HS.out.right.right 324)
    go_wp2_with (go_at_call 53; apply stop)
    refine on (HC2.out.mono ?_)
    rintro r w9 ⟨⟨i2, rfl, hi2⟩, rfl⟩
    have hd2 := findR_has hi2
    rw [x2] at hd2
    have hI2 : ¬ 0 ≤ i2 := by simpa using hd2
    clear HC2 hi2 hd2
    have HC2 := Lib.hid (HFI.out _ HS.out.right.right 325)
    go_wp2_with (go_at_call 53; apply stop)
    refine on (HC2.out.mono ?_)
    rintro r w9 ⟨⟨i3, rfl, hi3⟩, rfl⟩
    have hd3 := findR_has hi3
    rw [x3] at hd3
    have hI3 : ¬ 0 ≤ i3 := by simpa using hd3
    clear HC2 hi3 hd3
    go_wp2_with fail
    go_meet
    first | exact ⟨congrArg Value.bool HB.out.symm, rfl⟩ | exact ⟨congrArg Value.bool (by rw [HB.out]; simp [*]), rfl⟩
  obtain ⟨rfl, rfl⟩ := hcut
  clear HFI
  have ht := HT0.out
  rw [ht]
  · skip
    have hot : offT (fl L) = 273 := by rw [offT, ht]; rfl
    have hct : cntT (fl L) = 279 := by rw [cntT, ht]; rfl
    have Hot := Lib.hid hot; have Hct := Lib.hid hct
    have hle : layE (fl L) wi hi per planar = [oneE (fl L) 278 1 topN, needE (fl L) 273, needE (fl L) 279, cutD (layW (fl L) wi hi) per planar (needV (fl L) 273).length (needV (fl L) 279).length] := by rw [layE, ht, hot, hct]; rfl
    have hly : layW (fl L) wi hi = ⟨wi, hi, false, wi, (min (oneV (fl L) 278 1 topN topN) hi : Nat)⟩ := by rw [layW, ht]; rfl
    have hle2 := HER.out
    rw [hle] at hle2
    have HLE0 := Lib.hid hle2; have HLY := Lib.hid hly
    clear hot hct hle hly hle2 ht
    obtain ⟨oc, hoc⟩ : ∃ o, o = oneR (fl L) 278 1 topN topN := ⟨_, rfl⟩
    obtain ⟨qc, hqc⟩ : ∃ e, e = oneE (fl L) 278 1 topN := ⟨_, rfl⟩
    have Hoc := Lib.hid hoc; have Hqc := Lib.hid hqc
    clear hoc hqc
    obtain ⟨eo, heo⟩ : ∃ e, e = needE (fl L) 273 := ⟨_, rfl⟩
    obtain ⟨ano, cno, hno⟩ := HNV.out 273
    have Heo := Lib.hid heo; have Hno := Lib.hid hno
    clear heo hno
    have HnO := Hno
    clear Hno
    obtain ⟨en, hen⟩ : ∃ e, e = needE (fl L) 279 := ⟨_, rfl⟩
    obtain ⟨ann, cnn, hnn⟩ := HNV.out 279
    have Hen := Lib.hid hen; have Hnn := Lib.hid hnn
    clear hen hnn
    have hle : er = firstE [qc, eo, en, cutD (layW (fl L) wi hi) per planar (needV (fl L) 273).length (needV (fl L) 279).length] := by rw [Hqc.out, Heo.out, Hen.out]; exact HLE0.out
    have HLE := Lib.hid hle
    clear hle
    have HC := HON.out _ HS.out.right.right 278 1 topN topN 278 1 4294967295 4294967295 rfl rfl rfl rfl
    rw [← Hoc.out, ← Hqc.out] at HC
    have HC2 := Lib.hid HC
    clear HC
    go_wp2_with (go_at_call 52; apply stop)
    refine on (HC2.out.mono ?_)
    rintro r w9 ⟨rfl, rfl⟩
    clear HC2
    by_cases zqc : qc = 0
    rotate_left
    · have zI : ¬ (qc : Int) = 0 := by omega
      obtain rfl : er = qc := by
        rw [HLE.out]
        simp only [firstE_cons, orE_zero]
        exact orE_nz zqc _
      have HB := Lib.hid (HS.out.perm (star_left_comm _ _ _))
      have HR := Lib.hid (HB.out.setRow #[.int .i64 (wi : Int), .int .i64 (hi : Int), .bool false, .int .i64 (wi : Int), .int .i64 0, .int .i64 (per : Int), .int .i64 bits, .int .u64 (photo : Int), .bool planar, .int .i64 scheme, .bool predict, .bool low, .bool two, nilV, nilV, nilV])
      go_wp2_with (first | (refine wpList_load_blk rfl 30 _ rfl HS.out rfl Try.underlying30 rfl (by show _ = some 16; kernel_rfl) ?_) | (refine wpList_store_blk rfl 30 _ _ rfl HB.out rfl rfl (by show _ = some 16; kernel_rfl) rfl rfl ?_))
      refine bodyPost_ret2c rfl rfl HR.out.at_ Try.underlying30 rfl (by show _ = some 16; kernel_rfl) rfl ?_
      exact ⟨⟨⟨wi, hi, false, wi, 0⟩, per, bits, photo, planar, scheme, predict, low, two, [], [], []⟩, none, none, 0, 0, 0, 0, rfl, fun h0 => absurd h0 (by first | decide | assumption), HR.out.right.right⟩
    subst zqc
    have hoc : oc = oneV (fl L) 278 1 topN topN := by rw [Hoc.out, oneR, if_pos (by rw [← Hqc.out])]
    have boc : oc ≤ 4294967295 := by have := (oneV_within (l := fl L) (t := 278) (least := 1) (most := topN) (without := topN) (by decide) (by decide)).2; unfold topN at *; omega
    obtain ⟨om, hom⟩ : ∃ om, om = min oc hi := ⟨_, rfl⟩
    have homl : om ≤ 32768 := by omega
    have hmin : (if hi < oc then (hi : Int) else (oc : Int)) = (om : Int) := by rw [hom]; split <;> omega
    have hly2 : layW (fl L) wi hi = ⟨wi, hi, false, wi, om⟩ := by rw [HLY.out, hom, hoc]
    have HLY2 := Lib.hid hly2
    clear hoc hly2 hom
    have c4 := HS.out.cell 4 rfl
    have f4 := HS.out.free 4
    have HS2 := Lib.hid ((HS.out.set 4 (.int .i64 (om : Int))))
    go_upto_region 22 with (fail)
    clear c4 f4
    have HS9 : Hid (St w0 _ (blk bp (.cells #[.int .i64 (wi : Int), .int .i64 (hi : Int), .bool false, .int .i64 (wi : Int), .int .i64 (om : Int), .int .i64 (per : Int), .int .i64 bits, .int .u64 (photo : Int), .bool planar, .int .i64 scheme, .bool predict, .bool low, .bool two, nilV, nilV, nilV] 30) * (blk br (.cells #[.int .i64 0, .int .i64 0, .bool false, .int .i64 0, .int .i64 0, .int .i64 0, .int .i64 0, .int .u64 0, .bool false, .int .i64 0, .bool false, .bool false, .bool false, nilV, nilV, nilV] 30) * F))) := HS2
    clear HS HS2
    have HS := HS9
    clear HS9
    generalize World.setCell _ _ _ = wz at *
    have HC := HNE.out _ HS.out.right.right 273
    rw [HnO.out, ← Heo.out] at HC
    have HC2 := Lib.hid HC
    clear HC
    go_wp2_with (go_at_call 51; apply stop)
    refine on (HC2.out.mono ?_)
    rintro r w9 ⟨rfl, rfl⟩
    clear HC2
    by_cases zeo : eo = 0
    rotate_left
    · have zI : ¬ (eo : Int) = 0 := by omega
      obtain rfl : er = eo := by
        rw [HLE.out]
        simp only [firstE_cons, orE_zero]
        exact orE_nz zeo _
      have HB := Lib.hid (HS.out.perm (star_left_comm _ _ _))
      have HR := Lib.hid (HB.out.setRow #[.int .i64 (wi : Int), .int .i64 (hi : Int), .bool false, .int .i64 (wi : Int), .int .i64 (om : Int), .int .i64 (per : Int), .int .i64 bits, .int .u64 (photo : Int), .bool planar, .int .i64 scheme, .bool predict, .bool low, .bool two, nilV, nilV, nilV])
      go_wp2_with (first | (refine wpList_load_blk rfl 30 _ rfl HS.out rfl Try.underlying30 rfl (by show _ = some 16; kernel_rfl) ?_) | (refine wpList_store_blk rfl 30 _ _ rfl HB.out rfl rfl (by show _ = some 16; kernel_rfl) rfl rfl ?_))
      refine bodyPost_ret2c rfl rfl HR.out.at_ Try.underlying30 rfl (by show _ = some 16; kernel_rfl) rfl ?_
      exact ⟨⟨⟨wi, hi, false, wi, om⟩, per, bits, photo, planar, scheme, predict, low, two, [], [], []⟩, none, none, 0, 0, 0, 0, rfl, fun h0 => absurd h0 (by first | decide | assumption), HR.out.right.right⟩
    subst zeo
    have HC := HNE.out _ HS.out.right.right 279
    rw [Hnn.out, ← Hen.out] at HC
    have HC2 := Lib.hid HC
    clear HC
    go_wp2_with (go_at_call 51; apply stop)
    refine on (HC2.out.mono ?_)
    rintro r w9 ⟨rfl, rfl⟩
    clear HC2
    by_cases zen : en = 0
    rotate_left
    · have zI : ¬ (en : Int) = 0 := by omega
      obtain rfl : er = en := by
        rw [HLE.out]
        simp only [firstE_cons, orE_zero]
        exact orE_nz zen _
      have HB := Lib.hid (HS.out.perm (star_left_comm _ _ _))
      have HR := Lib.hid (HB.out.setRow #[.int .i64 (wi : Int), .int .i64 (hi : Int), .bool false, .int .i64 (wi : Int), .int .i64 (om : Int), .int .i64 (per : Int), .int .i64 bits, .int .u64 (photo : Int), .bool planar, .int .i64 scheme, .bool predict, .bool low, .bool two, nilV, nilV, nilV])
      go_wp2_with (first | (refine wpList_load_blk rfl 30 _ rfl HS.out rfl Try.underlying30 rfl (by show _ = some 16; kernel_rfl) ?_) | (refine wpList_store_blk rfl 30 _ _ rfl HB.out rfl rfl (by show _ = some 16; kernel_rfl) rfl rfl ?_))
      refine bodyPost_ret2c rfl rfl HR.out.at_ Try.underlying30 rfl (by show _ = some 16; kernel_rfl) rfl ?_
      exact ⟨⟨⟨wi, hi, false, wi, om⟩, per, bits, photo, planar, scheme, predict, low, two, [], [], []⟩, none, none, 0, 0, 0, 0, rfl, fun h0 => absurd h0 (by first | decide | assumption), HR.out.right.right⟩
    subst zen
    obtain ⟨no, hno⟩ : ∃ no, no = (needV (fl L) 273).length := ⟨_, rfl⟩
    obtain ⟨nc, hnc⟩ : ∃ nc, nc = (needV (fl L) 279).length := ⟨_, rfl⟩
    have hnol := HNL.out 273
    have hncl := HNL.out 279
    have Hno := Lib.hid hno; have Hnc := Lib.hid hnc
    rw [← hno] at hnol ⊢
    rw [← hnc] at hncl ⊢
    clear hno hnc
    have c13 := HS.out.cell 13 rfl
    have f13 := HS.out.free 13
    have c14 := HS.out.cell 14 rfl
    have f14 := HS.out.free 14
    have HS2 := Lib.hid (((HS.out.set 13 (.slice ano no cno)).set 14 (.slice ann nc cnn)))
    go_upto_region 29 with (fail)
    clear c13 f13 c14 f14
    have HS9 : Hid (St w0 _ (blk bp (.cells #[.int .i64 (wi : Int), .int .i64 (hi : Int), .bool false, .int .i64 (wi : Int), .int .i64 (om : Int), .int .i64 (per : Int), .int .i64 bits, .int .u64 (photo : Int), .bool planar, .int .i64 scheme, .bool predict, .bool low, .bool two, .slice ano no cno, .slice ann nc cnn, nilV] 30) * (blk br (.cells #[.int .i64 0, .int .i64 0, .bool false, .int .i64 0, .int .i64 0, .int .i64 0, .int .i64 0, .int .u64 0, .bool false, .int .i64 0, .bool false, .bool false, .bool false, nilV, nilV, nilV] 30) * F))) := HS2
    clear HS HS2
    have HS := HS9
    clear HS9
    generalize World.setCell _ _ _ = wz at *
    obtain ⟨cd, hcd⟩ : ∃ cd, cd = cutD (⟨wi, hi, false, wi, om⟩ : LayD) per planar no nc := ⟨_, rfl⟩
    have her : er = cd := by
      rw [HLE.out, HLY2.out, ← Hno.out, ← Hnc.out, hcd]
      simp only [firstE_cons, orE_zero]
      exact orE_nil _
    subst her
    have HCD := Lib.hid hcd
    clear hcd
    have hfin : (PG = ⟨⟨wi, hi, false, wi, om⟩, per, bits, photo, planar, scheme, predict, low, two, needV (fl L) 273, needV (fl L) 279, rest⟩) ∧ (VO = .slice ano no cno) ∧ (VC = .slice ann nc cnn) := ⟨by rw [HPG.out, HLY2.out, Hot.out, Hct.out], by rw [HVO.out, Hot.out, Hno.out]; exact HnO.out, by rw [HVC.out, Hct.out, Hnc.out]; exact Hnn.out⟩
    have HFIN := Lib.hid hfin
    clear hfin
    have c0 := HS.out.cell 0 rfl
    have c1 := HS.out.cell 1 rfl
    have c2 := HS.out.cell 2 rfl
    have c3 := HS.out.cell 3 rfl
    have c4 := HS.out.cell 4 rfl
    have c5 := HS.out.cell 5 rfl
    have c6 := HS.out.cell 6 rfl
    have c7 := HS.out.cell 7 rfl
    have c8 := HS.out.cell 8 rfl
    have c9 := HS.out.cell 9 rfl
    have c10 := HS.out.cell 10 rfl
    have c11 := HS.out.cell 11 rfl
    have c12 := HS.out.cell 12 rfl
    have c13 := HS.out.cell 13 rfl
    have c14 := HS.out.cell 14 rfl
    have c15 := HS.out.cell 15 rfl
    have HRI := Lib.hid (rright_any HS.out ⟨wi, hi, false, wi, om⟩)
    have HPA := Lib.hid (fun (w : World) (h : St w0 w (blk bp (.cells #[.int .i64 (wi : Int), .int .i64 (hi : Int), .bool false, .int .i64 (wi : Int), .int .i64 (om : Int), .int .i64 (per : Int), .int .i64 bits, .int .u64 (photo : Int), .bool planar, .int .i64 scheme, .bool predict, .bool low, .bool two, .slice ano no cno, .slice ann nc cnn, nilV] 30) * (blk br (.cells #[.int .i64 0, .int .i64 0, .bool false, .int .i64 0, .int .i64 0, .int .i64 0, .int .i64 0, .int .u64 0, .bool false, .int .i64 0, .bool false, .bool false, .bool false, nilV, nilV, nilV] 30) * F))) (hr : rightL ⟨wi, hi, false, wi, om⟩) => rparts_any h (p := ⟨⟨wi, hi, false, wi, om⟩, per, bits, photo, planar, scheme, predict, low, two, needV (fl L) 273, needV (fl L) 279, rest⟩) (vo := .slice ano no cno) (vc := .slice ann nc cnn) (vr := nilV) hr (by show 0 ≤ (per : Int) ∧ (per : Int) ≤ 1000; omega) rfl rfl rfl)
    by_cases hr : rightL ⟨wi, hi, false, wi, om⟩
    rotate_left
    · have hcd : er = 3 := by rw [HCD.out, cutD, if_neg (fun h => hr h.1)]
      subst hcd
      rw [show decide (rightL ⟨wi, hi, false, wi, om⟩) = false by simpa using hr] at HRI
      clear hr
      go_wp2_with (go_at_call 20; apply stop)
      refine on (HRI.out.mono ?_)
      rintro r w8 ⟨rfl, h8⟩
      have HS8 := Lib.hid h8
      clear HS h8 c0 c1 c2 c3 c4 c5 c6 c7 c8 c9 c10 c11 c12 c13 c14 c15
      have HS := HS8
      clear HS8 HRI
      go_upto_region 30 with (fail)
      have HB := Lib.hid (HS.out.perm (star_left_comm _ _ _))
      have HR := Lib.hid (HB.out.setRow #[.int .i64 (wi : Int), .int .i64 (hi : Int), .bool false, .int .i64 (wi : Int), .int .i64 (om : Int), .int .i64 (per : Int), .int .i64 bits, .int .u64 (photo : Int), .bool planar, .int .i64 scheme, .bool predict, .bool low, .bool two, .slice ano no cno, .slice ann nc cnn, nilV])
      go_wp2_with (first | (refine wpList_load_blk rfl 30 _ rfl HS.out rfl Try.underlying30 rfl (by show _ = some 16; kernel_rfl) ?_) | (refine wpList_store_blk rfl 30 _ _ rfl HB.out rfl rfl (by show _ = some 16; kernel_rfl) rfl rfl ?_))
      refine bodyPost_ret2c rfl rfl HR.out.at_ Try.underlying30 rfl (by show _ = some 16; kernel_rfl) rfl ?_
      exact ⟨⟨⟨wi, hi, false, wi, om⟩, per, bits, photo, planar, scheme, predict, low, two, [], [], []⟩, ano, ann, no, cno, nc, cnn, rfl, fun h0 => absurd h0 (by first | decide | assumption), HR.out.right.right⟩
    rw [show decide (rightL ⟨wi, hi, false, wi, om⟩) = true by simpa using hr] at HRI
    have hcl := countL_le hr
    obtain ⟨n, hn⟩ : ∃ n : Int, n = (if planar then countL ⟨wi, hi, false, wi, om⟩ * (per : Int) else countL ⟨wi, hi, false, wi, om⟩) := ⟨_, rfl⟩
    have HPN := Lib.hid (fun (w : World) (h : St w0 w (blk bp (.cells #[.int .i64 (wi : Int), .int .i64 (hi : Int), .bool false, .int .i64 (wi : Int), .int .i64 (om : Int), .int .i64 (per : Int), .int .i64 bits, .int .u64 (photo : Int), .bool planar, .int .i64 scheme, .bool predict, .bool low, .bool two, .slice ano no cno, .slice ann nc cnn, nilV] 30) * (blk br (.cells #[.int .i64 0, .int .i64 0, .bool false, .int .i64 0, .int .i64 0, .int .i64 0, .int .i64 0, .int .u64 0, .bool false, .int .i64 0, .bool false, .bool false, .bool false, nilV, nilV, nilV] 30) * F))) => (by have := HPA.out w h hr; unfold partsP at this; simp only at this; rw [← hn] at this; exact this : Calls Try.prog 21 #[.agg (pgC ⟨⟨wi, hi, false, wi, om⟩, per, bits, photo, planar, scheme, predict, low, two, needV (fl L) 273, needV (fl L) 279, rest⟩ (.slice ano no cno) (.slice ann nc cnn) nilV)] w fun r w' => r = .returned (.int .i64 n) ∧ St w0 w' (blk bp (.cells #[.int .i64 (wi : Int), .int .i64 (hi : Int), .bool false, .int .i64 (wi : Int), .int .i64 (om : Int), .int .i64 (per : Int), .int .i64 bits, .int .u64 (photo : Int), .bool planar, .int .i64 scheme, .bool predict, .bool low, .bool two, .slice ano no cno, .slice ann nc cnn, nilV] 30) * (blk br (.cells #[.int .i64 0, .int .i64 0, .bool false, .int .i64 0, .int .i64 0, .int .i64 0, .int .i64 0, .int .u64 0, .bool false, .int .i64 0, .bool false, .bool false, .bool false, nilV, nilV, nilV] 30) * F))))
    have hcd : er = if (no : Int) = n ∧ (nc : Int) = n then 0 else 3 := by
      rw [HCD.out, cutD, ← hn]
      simp [hr]
    have HCD2 := Lib.hid hcd
    clear hcd hn hcl HPA
    go_wp2_with (go_at_call 20; apply stop)
    refine on (HRI.out.mono ?_)
    rintro r w8 ⟨rfl, h8⟩
    have HS8 := Lib.hid h8
    clear HS h8 c0 c1 c2 c3 c4 c5 c6 c7 c8 c9 c10 c11 c12 c13 c14 c15
    have HS := HS8
    clear HS8 HRI
    have c0 := HS.out.cell 0 rfl
    have c1 := HS.out.cell 1 rfl
    have c2 := HS.out.cell 2 rfl
    have c3 := HS.out.cell 3 rfl
    have c4 := HS.out.cell 4 rfl
    have c5 := HS.out.cell 5 rfl
    have c6 := HS.out.cell 6 rfl
    have c7 := HS.out.cell 7 rfl
    have c8 := HS.out.cell 8 rfl
    have c9 := HS.out.cell 9 rfl
    have c10 := HS.out.cell 10 rfl
    have c11 := HS.out.cell 11 rfl
    have c12 := HS.out.cell 12 rfl
    have c13 := HS.out.cell 13 rfl
    have c14 := HS.out.cell 14 rfl
    have c15 := HS.out.cell 15 rfl
    go_wp2_with (go_at_call 21; apply stop)
    refine on ((HPN.out _ HS.out).mono ?_)
    rintro r w8 ⟨rfl, h8⟩
    have HS8 := Lib.hid h8
    clear HS h8 c0 c1 c2 c3 c4 c5 c6 c7 c8 c9 c10 c11 c12 c13 c14 c15
    have HS := HS8
    clear HS8
    by_cases g1 : (no : Int) = n
    rotate_left
    · have hcd : er = 3 := by rw [HCD2.out, if_neg (fun h => g1 h.1)]
      subst hcd
      have g1b : ((no : Int) != n) = true := by simpa using g1
      go_upto_region 30 with (fail)
      have HB := Lib.hid (HS.out.perm (star_left_comm _ _ _))
      have HR := Lib.hid (HB.out.setRow #[.int .i64 (wi : Int), .int .i64 (hi : Int), .bool false, .int .i64 (wi : Int), .int .i64 (om : Int), .int .i64 (per : Int), .int .i64 bits, .int .u64 (photo : Int), .bool planar, .int .i64 scheme, .bool predict, .bool low, .bool two, .slice ano no cno, .slice ann nc cnn, nilV])
      go_wp2_with (first | (refine wpList_load_blk rfl 30 _ rfl HS.out rfl Try.underlying30 rfl (by show _ = some 16; kernel_rfl) ?_) | (refine wpList_store_blk rfl 30 _ _ rfl HB.out rfl rfl (by show _ = some 16; kernel_rfl) rfl rfl ?_))
      refine bodyPost_ret2c rfl rfl HR.out.at_ Try.underlying30 rfl (by show _ = some 16; kernel_rfl) rfl ?_
      exact ⟨⟨⟨wi, hi, false, wi, om⟩, per, bits, photo, planar, scheme, predict, low, two, [], [], []⟩, ano, ann, no, cno, nc, cnn, rfl, fun h0 => absurd h0 (by first | decide | assumption), HR.out.right.right⟩
    have g1b : ((no : Int) != n) = false := by simpa using g1
    have c0 := HS.out.cell 0 rfl
    have c1 := HS.out.cell 1 rfl
    have c2 := HS.out.cell 2 rfl
    have c3 := HS.out.cell 3 rfl
    have c4 := HS.out.cell 4 rfl
    have c5 := HS.out.cell 5 rfl
    have c6 := HS.out.cell 6 rfl
    have c7 := HS.out.cell 7 rfl
    have c8 := HS.out.cell 8 rfl
    have c9 := HS.out.cell 9 rfl
    have c10 := HS.out.cell 10 rfl
    have c11 := HS.out.cell 11 rfl
    have c12 := HS.out.cell 12 rfl
    have c13 := HS.out.cell 13 rfl
    have c14 := HS.out.cell 14 rfl
    have c15 := HS.out.cell 15 rfl
    go_wp2_with (go_at_call 21; apply stop)
    refine on ((HPN.out _ HS.out).mono ?_)
    rintro r w8 ⟨rfl, h8⟩
    have HS8 := Lib.hid h8
    clear HS h8 c0 c1 c2 c3 c4 c5 c6 c7 c8 c9 c10 c11 c12 c13 c14 c15
    have HS := HS8
    clear HS8
    by_cases g2 : (nc : Int) = n
    rotate_left
    · have hcd : er = 3 := by rw [HCD2.out, if_neg (fun h => g2 h.2)]
      subst hcd
      have g2b : ((nc : Int) != n) = true := by simpa using g2
      go_upto_region 30 with (fail)
      have HB := Lib.hid (HS.out.perm (star_left_comm _ _ _))
      have HR := Lib.hid (HB.out.setRow #[.int .i64 (wi : Int), .int .i64 (hi : Int), .bool false, .int .i64 (wi : Int), .int .i64 (om : Int), .int .i64 (per : Int), .int .i64 bits, .int .u64 (photo : Int), .bool planar, .int .i64 scheme, .bool predict, .bool low, .bool two, .slice ano no cno, .slice ann nc cnn, nilV])
      go_wp2_with (first | (refine wpList_load_blk rfl 30 _ rfl HS.out rfl Try.underlying30 rfl (by show _ = some 16; kernel_rfl) ?_) | (refine wpList_store_blk rfl 30 _ _ rfl HB.out rfl rfl (by show _ = some 16; kernel_rfl) rfl rfl ?_))
      refine bodyPost_ret2c rfl rfl HR.out.at_ Try.underlying30 rfl (by show _ = some 16; kernel_rfl) rfl ?_
      exact ⟨⟨⟨wi, hi, false, wi, om⟩, per, bits, photo, planar, scheme, predict, low, two, [], [], []⟩, ano, ann, no, cno, nc, cnn, rfl, fun h0 => absurd h0 (by first | decide | assumption), HR.out.right.right⟩
    have hcd : er = 0 := by rw [HCD2.out, if_pos ⟨g1, g2⟩]
    subst hcd
    have g2b : ((nc : Int) != n) = false := by simpa using g2
    go_upto_region 31 with (fail)
    have HB := Lib.hid (HS.out.perm (star_left_comm _ _ _))
    have HR := Lib.hid (HB.out.setRow #[.int .i64 (wi : Int), .int .i64 (hi : Int), .bool false, .int .i64 (wi : Int), .int .i64 (om : Int), .int .i64 (per : Int), .int .i64 bits, .int .u64 (photo : Int), .bool planar, .int .i64 scheme, .bool predict, .bool low, .bool two, .slice ano no cno, .slice ann nc cnn, nilV])
    go_wp2_with (first | (refine wpList_load_blk rfl 30 _ rfl HS.out rfl Try.underlying30 rfl (by show _ = some 16; kernel_rfl) ?_) | (refine wpList_store_blk rfl 30 _ _ rfl HB.out rfl rfl (by show _ = some 16; kernel_rfl) rfl rfl ?_))
    refine bodyPost_ret2c rfl rfl HR.out.at_ Try.underlying30 rfl (by show _ = some 16; kernel_rfl) rfl ?_
    exact ⟨⟨⟨wi, hi, false, wi, om⟩, per, bits, photo, planar, scheme, predict, low, two, needV (fl L) 273, needV (fl L) 279, rest⟩, ano, ann, no, cno, nc, cnn, rfl, fun _ => ⟨HFIN.out.1.symm, HFIN.out.2.1.symm, HFIN.out.2.2.symm⟩, HR.out.right.right⟩
theorem rwhere_any {w0 w : World} {F : SProp} (h : St w0 w F) {v : Value} {L : List FV} (hvs : Stb w0 F (fun w => FldsR w v L)) (hL : L.length ≤ 1000000) (hT : ∀ x ∈ L, x.2.tag < 65536) (hLv : ∀ x ∈ L, x.2.vals.length ≤ 1000000) (p : PgD) {per : Nat} (hper : p.per = per) (hp8 : per ≤ 8)
    {wi hi : Nat} (hw1 : 1 ≤ wi) (hwi : wi ≤ 32768) (hh1 : 1 ≤ hi) (hhi : hi ≤ 32768) {jw jh : Int} (hjw : jw = wi) (hjh : jh = hi) :
    Calls Try.prog 33 #[v, .agg (pgC p nilV nilV nilV), .int .u64 jw, .int .u64 jh] w
      (WhereOut w0 F (pgW p (layW (fl L) wi hi) (needV (fl L) (offT (fl L))) (needV (fl L) (cntT (fl L)))) (valuesV L (offT (fl L))) (valuesV L (cntT (fl L))) (firstE (layE (fl L) wi hi per p.planar))) := by
  cases ht : tiledB (fl L)
  · exact rwhere_strips h hvs hL hT hLv p hper hp8 hw1 hwi hh1 hhi hjw hjh ht
  · exact rwhere_tiled h hvs hL hT hLv p hper hp8 hw1 hwi hh1 hhi hjw hjh ht
end Go.Proofs.Ythoegjdkeooenaa
