/-
  Layer 23: the page that fields tell of (tags.Describe).
-/
import Derived.Test.YthoegjdkeooenaaTagY
import Derived.Test.YthoegjdkeooenaaReg
import Derived.Deep.CutBlock
import Derived.Deep.RegionHeld3
namespace Go.Proofs.Ythoegjdkeooenaa
open Go.RowKit Go.Mz
set_option linter.unusedVariables false
set_option linter.unusedSimpArgs false
set_option maxRecDepth 100000

/-- The cells of a page. -/
def pgC (p : PgD) (vo vc vr : Value) : Array Value :=
  #[.int .i64 p.lay.width, .int .i64 p.lay.height, .bool p.lay.tiled, .int .i64 p.lay.w, .int .i64 p.lay.h, .int .i64 p.per, .int .i64 p.bits, .int .u64 (p.photo : Int), .bool p.planar, .int .i64 p.scheme, .bool p.predict, .bool p.low, .bool p.two, vo, vc, vr]
abbrev pg0 : Array Value := #[.int .i64 0, .int .i64 0, .bool false, .int .i64 0, .int .i64 0, .int .i64 0, .int .i64 0, .int .u64 0, .bool false, .int .i64 0, .bool false, .bool false, .bool false, .slice none 0 0, .slice none 0 0, .slice none 0 0]
theorem three_alloc {w0 w : World} {F : SProp} (h : St w0 w F) (o0 o1 o2 : Obj) : St w0 (((w.alloc o0).alloc o1).alloc o2) (blk (w.heap.size + 1) o1 * (blk (w.heap.size + 1 + 1) o2 * (blk w.heap.size o0 * F))) := by
  have e1 : (w.alloc o0).heap.size = w.heap.size + 1 := Array.size_push _
  have e2 : ((w.alloc o0).alloc o1).heap.size = w.heap.size + 1 + 1 := by rw [← e1]; exact Array.size_push _
  have h3 := ((h.alloc o0).alloc o1).alloc o2
  rw [e2, e1] at h3
  exact h3.perm (star_left_comm _ _ _)
/-- The values of fields, each in a row of its own. -/
def valsP : List FV → SProp
  | [] => emp
  | x :: r => own 27 1 x.1 x.2.vals.length (x.2.vals.map u64v) * valsP r
theorem valsP_snoc (R : List FV) (x : FV) : valsP (R ++ [x]) = own 27 1 x.1 x.2.vals.length (x.2.vals.map u64v) * valsP R := by
  induction R with
  | nil => rfl
  | cons y r ih => rw [List.cons_append, valsP, ih, valsP]; ac_rfl
theorem valsP_reads {w0 w : World} : ∀ (R : List FV) (F : SProp), St w0 w (valsP R * F) → ∀ x ∈ R, Reads w 1 x.1 x.2.vals.length (x.2.vals.map u64v) := by
  intro R
  induction R with
  | nil => intro F _ x hx; cases hx
  | cons y r ih =>
    intro F h x hx
    have h : St w0 w (own 27 1 y.1 y.2.vals.length (y.2.vals.map u64v) * (valsP r * F)) := h.perm (by rw [valsP, star_assoc])
    rcases List.mem_cons.1 hx with rfl | hx
    · exact h.reads
    · exact ih _ h.right x hx
theorem valsP_nil {w0 w : World} {F : SProp} (h : St w0 w F) : St w0 w (valsP [] * F) := h.perm (emp_star F).symm
/-- Fields in a row of their own. -/
def fldsP (v : Value) (R : List FV) : SProp := own 53 3 v R.length (R.flatMap fldC) * valsP R
theorem fldsP_reads {w0 w : World} {v : Value} {R : List FV} {F : SProp} (h : St w0 w (fldsP v R * F)) : FldsR w v R :=
  have h' : St w0 w (own 53 3 v R.length (R.flatMap fldC) * (valsP R * F)) := h.perm (star_assoc _ _ _)
  ⟨h'.reads, valsP_reads R F h'.right⟩
/-- A page that reads as p, its rows where vo, vc, vr say. -/
structure PgR (w : World) (p : PgD) (vo vc vr : Value) (R : List FV) : Prop where
  offs : Reads w 1 vo p.offs.length (p.offs.map u64v)
  cnts : Reads w 1 vc p.cnts.length (p.cnts.map u64v)
  rest : FldsR w vr R
  flds : fl R = p.rest
/-- What is told of a page: the page, or what is wrong. -/
def PgOut (w0 : World) (F : SProp) (p : PgD) (er : Nat) (e : Ending) (w' : World) : Prop :=
  ∃ vo vc vr R K, e = .returned (.tuple #[.agg (pgC p vo vc vr), .int .i64 (er : Int)]) ∧ St w0 w' (K * F) ∧ Stb w0 (K * F) (fun w => PgR w p vo vc vr R)
theorem faxE_eq (l : List Fld) : faxE l = faxD (aV l) (bV l) (schV l : Nat) (perV l : Nat) (bitsV l (perV l) : Nat) (preV l == 2) := by
  unfold faxE faxD
  have h1 : ((schV l : Nat) : Int) = 3 ↔ schV l = 3 := by omega
  have h2 : ((schV l : Nat) : Int) = 4 ↔ schV l = 4 := by omega
  have h3 : ((perV l : Nat) : Int) ≠ 1 ↔ perV l ≠ 1 := by omega
  have h4 : ((bitsV l (perV l) : Nat) : Int) ≠ 1 ↔ bitsV l (perV l) ≠ 1 := by omega
  simp only [h1, h2, h3, h4, beq_iff_eq]

theorem stl2 {w0 w : World} {A B : SProp} (h : St w0 w (A * B)) : StL w0 w [A, B] := St.perm h (by rw [prodL, prodL, prodL, star_comm B emp, emp_star])
theorem stl2_out {w0 w : World} {A B : SProp} (h : StL w0 w [A, B]) : St w0 w (A * B) := St.perm h (by rw [prodL, prodL, prodL, star_comm B emp, emp_star])
theorem elemFld : ElemT Try.prog 22 53 3 40 (.agg #[.int .u16 0, .int .i64 0, .slice none 0 0]) :=
  ⟨Try.underlying22, info_parts (by kernel_rfl), rfl, by decide⟩
theorem fldC_one {a : Option Addr} {n c : Nat} {o : Fld} : ∀ u ∈ fldC (.slice a n c, o), u.oneCell' = true := by
  intro u hu
  simp only [fldC, List.mem_cons, List.not_mem_nil, or_false] at hu
  rcases hu with rfl | rfl | rfl <;> rfl
theorem star5 (A B C D E F : SProp) : A * (B * (C * (D * (E * F)))) = (A * (B * (C * (D * E)))) * F := by simp only [star_assoc]
theorem star7 (A B C D E G H F : SProp) : A * (B * (C * (D * (E * (G * (H * F)))))) = (A * (B * (C * (D * (E * (G * H)))))) * F := by simp only [star_assoc]
theorem layV_eq (l : List Fld) : layV l = layW l (if limE l = 0 then wideV l else 1) (if limE l = 0 then highV l else 1) := rfl
theorem cutE_eq (l : List Fld) : cutE l = cutD (layV l) (perV l) (oneV l 284 1 2 1 == 2) (needV l (offT l)).length (needV l (cntT l)).length := by
  unfold cutE cutD partsP pageV
  rfl
theorem wrong_eq (l : List Fld) : wrongL l = [needE l 256, oneE l 256 1 topN, needE l 257, oneE l 257 1 topN, oneE l 277 1 topN, perE l, bitsE l (perV l), oneE l 259 1 topN, if schemeL.contains (schV l) then 0 else 9, oneE l 262 0 65535, oneE l 266 1 2, oneE l 284 1 2,
    oneE l 317 1 3, if preV l = 3 then 9 else 0, oneE l 292 0 topN, oneE l 293 0 topN, faxE l, limE l] ++ layE l (if limE l = 0 then wideV l else 1) (if limE l = 0 then highV l else 1) (perV l) (oneV l 284 1 2 1 == 2) := by
  rw [wrongL, layE, ← layV_eq, ← cutE_eq, List.append_assoc]

set_option maxHeartbeats 40000000 in
theorem describe_any {w0 w : World} {F : SProp} {v : Value} {L : List FV} (h : St w0 w F) (hv : Stb w0 F (fun w => FldsR w v L)) (hL : L.length ≤ 100000) (hLv : ∀ x ∈ L, x.2.vals.length ≤ 1000000) :
    Calls Try.prog 8 #[v] w (PgOut w0 F (if descE (fl L) = 0 then pageV (fl L) else nonePg) (descE (fl L))) := by
  obtain ⟨a, cap, rfl⟩ := (hv w h).row.sub
  have H1 := Lib.hid (three_alloc h (.cells pg0 30) (.cells #[.slice a L.length cap, .int .i64 0] 56) (.cells pg0 30))
  have HV := Lib.hid hv
  have hL6 : L.length ≤ 1000000 := by omega
  have HLV := Lib.hid hLv
  clear h hv hLv
  obtain ⟨PG, hPG⟩ : ∃ PG, PG = (if descE (fl L) = 0 then pageV (fl L) else nonePg) := ⟨_, rfl⟩
  obtain ⟨er, her⟩ : ∃ er, er = descE (fl L) := ⟨_, rfl⟩
  rw [← hPG, ← her]
  have HPG := Lib.hid hPG; have Her := Lib.hid her
  clear hPG her
  go_enter Try.func8, Try.ntmps8
  go_upto_region 3 with (fail)
  generalize hb0 : w.heap.size = b0 at *
  generalize hb1 : b0 + 1 = g at *
  generalize hb2 : g + 1 = gp at *
  clear hb0 hb1 hb2
  have HS : Hid (St w0 _ (tbl g (.slice a L.length cap) 0 * (blk gp (.cells pg0 30) * (blk b0 (.cells pg0 30) * F)))) := H1
  clear H1
  unfold pg0 at HS
  generalize World.alloc _ _ = wa at *
  have HC := need_any HS.out (fun w h => HV.out w h.right.right) hL6 256 (j := 256) rfl
  have HC2 := Lib.hid HC
  clear HC
  go_wp2_with (go_at_call 23; apply stop)
  refine on (HC2.out.mono ?_)
  rintro r w' ⟨rfl, h'⟩
  clear HS HC2
  have HS := Lib.hid h'
  clear h'
  obtain ⟨wv, hwv⟩ : ∃ wv, wv = oneV (fl L) 256 1 topN 1 := ⟨_, rfl⟩
  have bwv : 1 ≤ wv ∧ wv ≤ 4294967295 := by have := oneV_within (l := fl L) (t := 256) (least := 1) (most := topN) (without := 1) (by decide) (by decide); rw [hwv]; unfold topN at *; omega
  have Hwv := Lib.hid hwv
  clear hwv
  have HC := one_any HS.out (fun w h => HV.out w h.right.right) hL6 256 1 topN 1 (j := 256) (jl := 1) (jm := 4294967295) (jw := 1) rfl rfl rfl rfl
  rw [← Hwv.out] at HC
  have HC2 := Lib.hid HC
  clear HC
  go_wp2_with (go_at_call 24; apply stop)
  refine on (HC2.out.mono ?_)
  rintro r w' ⟨rfl, h'⟩
  clear HS HC2
  have HS := Lib.hid h'
  clear h'
  have HC := need_any HS.out (fun w h => HV.out w h.right.right) hL6 257 (j := 257) rfl
  have HC2 := Lib.hid HC
  clear HC
  go_wp2_with (go_at_call 23; apply stop)
  refine on (HC2.out.mono ?_)
  rintro r w' ⟨rfl, h'⟩
  clear HS HC2
  have HS := Lib.hid h'
  clear h'
  obtain ⟨hv, hhv⟩ : ∃ hv, hv = oneV (fl L) 257 1 topN 1 := ⟨_, rfl⟩
  have bhv : 1 ≤ hv ∧ hv ≤ 4294967295 := by have := oneV_within (l := fl L) (t := 257) (least := 1) (most := topN) (without := 1) (by decide) (by decide); rw [hhv]; unfold topN at *; omega
  have Hhv := Lib.hid hhv
  clear hhv
  have HC := one_any HS.out (fun w h => HV.out w h.right.right) hL6 257 1 topN 1 (j := 257) (jl := 1) (jm := 4294967295) (jw := 1) rfl rfl rfl rfl
  rw [← Hhv.out] at HC
  have HC2 := Lib.hid HC
  clear HC
  go_wp2_with (go_at_call 24; apply stop)
  refine on (HC2.out.mono ?_)
  rintro r w' ⟨rfl, h'⟩
  clear HS HC2
  have HS := Lib.hid h'
  clear h'
  obtain ⟨pv, hpv⟩ : ∃ pv, pv = oneV (fl L) 277 1 topN 1 := ⟨_, rfl⟩
  have bpv : pv ≤ 4294967295 := by have := (oneV_within (l := fl L) (t := 277) (least := 1) (most := topN) (without := 1) (by decide) (by decide)).2; rw [hpv]; unfold topN at *; omega
  have Hpv := Lib.hid hpv
  clear hpv
  have HC := one_any HS.out (fun w h => HV.out w h.right.right) hL6 277 1 topN 1 (j := 277) (jl := 1) (jm := 4294967295) (jw := 1) rfl rfl rfl rfl
  rw [← Hpv.out] at HC
  have HC2 := Lib.hid HC
  clear HC
  go_wp2_with (go_at_call 24; apply stop)
  refine on (HC2.out.mono ?_)
  rintro r w' ⟨rfl, h'⟩
  clear HS HC2
  have HS := Lib.hid h'
  clear h'
  obtain ⟨pr, hpr⟩ : ∃ pr, pr = perV (fl L) := ⟨_, rfl⟩
  obtain ⟨pe, hpe⟩ : ∃ pe, pe = perE (fl L) := ⟨_, rfl⟩
  have hpr8 : 1 ≤ pr ∧ pr ≤ 8 := by
    have := (oneV_within (l := fl L) (t := 277) (least := 1) (most := topN) (without := 1) (by decide) (by decide)).1
    rw [hpr, perV]; split <;> omega
  obtain ⟨pr1, pr8⟩ := hpr8
  have Hpr := Lib.hid hpr; have Hpe := Lib.hid hpe
  clear hpr hpe
  go_upto_if 27 with (fail)
  go_cut [8] from 26 to 29 (fun v wx => v = .int .u64 (pr : Int) ∧ St w0 wx (tbl g (.slice a L.length cap) (orE (orE (orE (orE (orE (orE (0) (needE (fl L) 256)) (oneE (fl L) 256 1 topN)) (needE (fl L) 257)) (oneE (fl L) 257 1 topN)) (oneE (fl L) 277 1 topN)) (pe)) * (blk gp (.cells #[.int .i64 0, .int .i64 0, .bool false, .int .i64 0, .int .i64 0, .int .i64 0, .int .i64 0, .int .u64 0, .bool false, .int .i64 0, .bool false, .bool false, .bool false, .slice none 0 0, .slice none 0 0, .slice none 0 0] 30) * (blk b0 (.cells #[.int .i64 0, .int .i64 0, .bool false, .int .i64 0, .int .i64 0, .int .i64 0, .int .i64 0, .int .u64 0, .bool false, .int .i64 0, .bool false, .bool false, .bool false, .slice none 0 0, .slice none 0 0, .slice none 0 0] 30) * F))))
  case first =>
    by_cases h8 : 8 < pv
    · obtain rfl : pr = 1 := by rw [Hpr.out, perV, if_pos (by rw [← Hpv.out]; exact h8)]
      obtain rfl : pe = 9 := by rw [Hpe.out, perE, if_pos (by rw [← Hpv.out]; exact h8)]
      have h8I : (8 : Int) < pv := by omega
      go_wp2_with (go_at_call 25; refine (fail_any HS.out 9 (j := 9) rfl).mono ?_; rintro r w' ⟨rfl, h'⟩; have HS3 := Lib.hid h'; clear h')
      go_meet
      exact ⟨rfl, HS3.out⟩
    · obtain rfl : pr = pv := by rw [Hpr.out, perV, if_neg (by rw [← Hpv.out]; exact h8), ← Hpv.out]
      obtain rfl : pe = 0 := by rw [Hpe.out, perE, if_neg (by rw [← Hpv.out]; exact h8)]
      have h8I : ¬ (8 : Int) < (pr : Int) := by omega
      go_wp2_with fail
      go_meet
      exact ⟨rfl, by rw [orE_nil]; exact HS.out⟩
  obtain ⟨rfl, h2⟩ := hcut
  clear HS
  have HS := Lib.hid h2
  clear h2
  have hb := HS.out.perm (star_left_comm _ _ _)
  have c5 := hb.cell 5 rfl
  have f5 := hb.free 5
  have HS2 := Lib.hid ((hb.set 5 (.int .i64 (pr : Int))).perm (star_left_comm _ _ _))
  clear hb
  go_upto_region 12 with (fail)
  have HS9 : Hid (St w0 _ (tbl g (.slice a L.length cap) (orE (orE (orE (orE (orE (orE (0) (needE (fl L) 256)) (oneE (fl L) 256 1 topN)) (needE (fl L) 257)) (oneE (fl L) 257 1 topN)) (oneE (fl L) 277 1 topN)) (pe)) * (blk gp (.cells #[.int .i64 0, .int .i64 0, .bool false, .int .i64 0, .int .i64 0, .int .i64 (pr : Int), .int .i64 0, .int .u64 0, .bool false, .int .i64 0, .bool false, .bool false, .bool false, .slice none 0 0, .slice none 0 0, .slice none 0 0] 30) * (blk b0 (.cells #[.int .i64 0, .int .i64 0, .bool false, .int .i64 0, .int .i64 0, .int .i64 0, .int .i64 0, .int .u64 0, .bool false, .int .i64 0, .bool false, .bool false, .bool false, .slice none 0 0, .slice none 0 0, .slice none 0 0] 30) * F)))) := HS2
  clear HS2 HS c5 f5
  have HS := HS9
  clear HS9
  generalize World.setCell _ _ _ = wa at *
  have c5 := (HS.out.perm (star_left_comm _ _ _)).cell 5 rfl
  obtain ⟨bi, hbi⟩ : ∃ bi, bi = bitsV (fl L) pr := ⟨_, rfl⟩
  have bbi : 1 ≤ bi ∧ bi ≤ 32 := by rw [hbi]; exact bitsV_within _ pr1
  have Hbi := Lib.hid hbi
  clear hbi
  have HC := bits_any HS.out (fun w h => HV.out w h.right.right) hL6 pr (by omega) pr1 rfl
  rw [← Hbi.out] at HC
  have HC2 := Lib.hid HC
  clear HC
  go_wp2_with (go_at_call 26; apply stop)
  refine on (HC2.out.mono ?_)
  rintro r w' ⟨rfl, h'⟩
  clear HS HC2
  have HS := Lib.hid h'
  clear h'
  clear c5
  have hb := HS.out.perm (star_left_comm _ _ _)
  have c6 := hb.cell 6 rfl
  have f6 := hb.free 6
  have HS2 := Lib.hid ((hb.set 6 (.int .i64 (bi : Int))).perm (star_left_comm _ _ _))
  clear hb
  go_upto_region 13 with (fail)
  have HS9 : Hid (St w0 _ (tbl g (.slice a L.length cap) (orE (orE (orE (orE (orE (orE (orE (0) (needE (fl L) 256)) (oneE (fl L) 256 1 topN)) (needE (fl L) 257)) (oneE (fl L) 257 1 topN)) (oneE (fl L) 277 1 topN)) (pe)) (bitsE (fl L) pr)) * (blk gp (.cells #[.int .i64 0, .int .i64 0, .bool false, .int .i64 0, .int .i64 0, .int .i64 (pr : Int), .int .i64 (bi : Int), .int .u64 0, .bool false, .int .i64 0, .bool false, .bool false, .bool false, .slice none 0 0, .slice none 0 0, .slice none 0 0] 30) * (blk b0 (.cells #[.int .i64 0, .int .i64 0, .bool false, .int .i64 0, .int .i64 0, .int .i64 0, .int .i64 0, .int .u64 0, .bool false, .int .i64 0, .bool false, .bool false, .bool false, .slice none 0 0, .slice none 0 0, .slice none 0 0] 30) * F)))) := HS2
  clear HS2 HS c6 f6
  have HS := HS9
  clear HS9
  generalize World.setCell _ _ _ = wa at *
  obtain ⟨sv, hsv⟩ : ∃ sv, sv = oneV (fl L) 259 1 topN 1 := ⟨_, rfl⟩
  have bsv : sv ≤ 4294967295 := by have := (oneV_within (l := fl L) (t := 259) (least := 1) (most := topN) (without := 1) (by decide) (by decide)).2; rw [hsv]; unfold topN at *; omega
  have Hsv := Lib.hid hsv
  clear hsv
  have HC := one_any HS.out (fun w h => HV.out w h.right.right) hL6 259 1 topN 1 (j := 259) (jl := 1) (jm := 4294967295) (jw := 1) rfl rfl rfl rfl
  rw [← Hsv.out] at HC
  have HC2 := Lib.hid HC
  clear HC
  go_wp2_with (go_at_call 24; apply stop)
  refine on (HC2.out.mono ?_)
  rintro r w' ⟨rfl, h'⟩
  clear HS HC2
  have HS := Lib.hid h'
  clear h'
  have hsc : schemeI (sv : Int) = schemeL.contains sv := any_contains _ _
  obtain ⟨se, hse⟩ : ∃ se, se = (if schemeL.contains sv then 0 else 9) := ⟨_, rfl⟩
  have Hse := Lib.hid hse; have Hsc := Lib.hid hsc
  clear hse hsc
  have HC := scheme_any HS.out (sv : Int)
  rw [Hsc.out] at HC
  obtain ⟨sb, hsb⟩ : ∃ sb, sb = schemeL.contains sv := ⟨_, rfl⟩
  rw [← hsb] at HC
  have HC2 := Lib.hid HC
  have Hsb := Lib.hid hsb
  clear HC hsb
  go_upto_if 43 with (go_at_call 17; refine HC2.out.mono ?_; rintro r w' ⟨rfl, h'⟩; have HS8 := Lib.hid h'; clear h')
  clear HS HC2
  have HS := HS8
  clear HS8
  go_cut [] from 44 to 45 (fun wx => St w0 wx (tbl g (.slice a L.length cap) (orE (orE (orE (orE (orE (orE (orE (orE (orE (0) (needE (fl L) 256)) (oneE (fl L) 256 1 topN)) (needE (fl L) 257)) (oneE (fl L) 257 1 topN)) (oneE (fl L) 277 1 topN)) (pe)) (bitsE (fl L) pr)) (oneE (fl L) 259 1 topN)) (se)) * (blk gp (.cells #[.int .i64 0, .int .i64 0, .bool false, .int .i64 0, .int .i64 0, .int .i64 (pr : Int), .int .i64 (bi : Int), .int .u64 0, .bool false, .int .i64 0, .bool false, .bool false, .bool false, .slice none 0 0, .slice none 0 0, .slice none 0 0] 30) * (blk b0 (.cells #[.int .i64 0, .int .i64 0, .bool false, .int .i64 0, .int .i64 0, .int .i64 0, .int .i64 0, .int .u64 0, .bool false, .int .i64 0, .bool false, .bool false, .bool false, .slice none 0 0, .slice none 0 0, .slice none 0 0] 30) * F))))
  case first =>
    cases sb
    · obtain rfl : se = 9 := by rw [Hse.out, ← Hsb.out]; rfl
      go_wp2_with (go_at_call 25; refine (fail_any HS.out 9 (j := 9) rfl).mono ?_; rintro r w' ⟨rfl, h'⟩; have HS3 := Lib.hid h'; clear h')
      go_meet
      exact HS3.out
    · obtain rfl : se = 0 := by rw [Hse.out, ← Hsb.out]; rfl
      go_wp2_with fail
      go_meet
      exact (by rw [orE_nil]; exact HS.out)
  clear HS
  have HS := Lib.hid hcut
  clear hcut
  have hb := HS.out.perm (star_left_comm _ _ _)
  have c9 := hb.cell 9 rfl
  have f9 := hb.free 9
  have HS2 := Lib.hid ((hb.set 9 (.int .i64 (sv : Int))).perm (star_left_comm _ _ _))
  clear hb
  go_upto_region 17 with (fail)
  have HS9 : Hid (St w0 _ (tbl g (.slice a L.length cap) (orE (orE (orE (orE (orE (orE (orE (orE (orE (0) (needE (fl L) 256)) (oneE (fl L) 256 1 topN)) (needE (fl L) 257)) (oneE (fl L) 257 1 topN)) (oneE (fl L) 277 1 topN)) (pe)) (bitsE (fl L) pr)) (oneE (fl L) 259 1 topN)) (se)) * (blk gp (.cells #[.int .i64 0, .int .i64 0, .bool false, .int .i64 0, .int .i64 0, .int .i64 (pr : Int), .int .i64 (bi : Int), .int .u64 0, .bool false, .int .i64 (sv : Int), .bool false, .bool false, .bool false, .slice none 0 0, .slice none 0 0, .slice none 0 0] 30) * (blk b0 (.cells #[.int .i64 0, .int .i64 0, .bool false, .int .i64 0, .int .i64 0, .int .i64 0, .int .i64 0, .int .u64 0, .bool false, .int .i64 0, .bool false, .bool false, .bool false, .slice none 0 0, .slice none 0 0, .slice none 0 0] 30) * F)))) := HS2
  clear HS2 HS c9 f9
  have HS := HS9
  clear HS9
  generalize World.setCell _ _ _ = wa at *
  obtain ⟨ph, hph⟩ : ∃ ph, ph = oneV (fl L) 262 0 65535 0 := ⟨_, rfl⟩
  have Hph := Lib.hid hph
  clear hph
  have HC := one_any HS.out (fun w h => HV.out w h.right.right) hL6 262 0 65535 0 (j := 262) (jl := 0) (jm := 65535) (jw := 0) rfl rfl rfl rfl
  rw [← Hph.out] at HC
  have HC2 := Lib.hid HC
  clear HC
  go_wp2_with (go_at_call 24; apply stop)
  refine on (HC2.out.mono ?_)
  rintro r w' ⟨rfl, h'⟩
  clear HS HC2
  have HS := Lib.hid h'
  clear h'
  have hb := HS.out.perm (star_left_comm _ _ _)
  have c7 := hb.cell 7 rfl
  have f7 := hb.free 7
  have HS2 := Lib.hid ((hb.set 7 (.int .u64 (ph : Int))).perm (star_left_comm _ _ _))
  clear hb
  go_upto_region 18 with (fail)
  have HS9 : Hid (St w0 _ (tbl g (.slice a L.length cap) (orE (orE (orE (orE (orE (orE (orE (orE (orE (orE (0) (needE (fl L) 256)) (oneE (fl L) 256 1 topN)) (needE (fl L) 257)) (oneE (fl L) 257 1 topN)) (oneE (fl L) 277 1 topN)) (pe)) (bitsE (fl L) pr)) (oneE (fl L) 259 1 topN)) (se)) (oneE (fl L) 262 0 65535)) * (blk gp (.cells #[.int .i64 0, .int .i64 0, .bool false, .int .i64 0, .int .i64 0, .int .i64 (pr : Int), .int .i64 (bi : Int), .int .u64 (ph : Int), .bool false, .int .i64 (sv : Int), .bool false, .bool false, .bool false, .slice none 0 0, .slice none 0 0, .slice none 0 0] 30) * (blk b0 (.cells #[.int .i64 0, .int .i64 0, .bool false, .int .i64 0, .int .i64 0, .int .i64 0, .int .i64 0, .int .u64 0, .bool false, .int .i64 0, .bool false, .bool false, .bool false, .slice none 0 0, .slice none 0 0, .slice none 0 0] 30) * F)))) := HS2
  clear HS2 HS c7 f7
  have HS := HS9
  clear HS9
  generalize World.setCell _ _ _ = wa at *
  obtain ⟨lo, hlo⟩ : ∃ lo, lo = oneV (fl L) 266 1 2 1 := ⟨_, rfl⟩
  have Hlo := Lib.hid hlo
  clear hlo
  have HC := one_any HS.out (fun w h => HV.out w h.right.right) hL6 266 1 2 1 (j := 266) (jl := 1) (jm := 2) (jw := 1) rfl rfl rfl rfl
  rw [← Hlo.out] at HC
  have HC2 := Lib.hid HC
  clear HC
  go_wp2_with (go_at_call 24; apply stop)
  refine on (HC2.out.mono ?_)
  rintro r w' ⟨rfl, h'⟩
  clear HS HC2
  have HS := Lib.hid h'
  clear h'
  have hb := HS.out.perm (star_left_comm _ _ _)
  have c11 := hb.cell 11 rfl
  have f11 := hb.free 11
  have HS2 := Lib.hid ((hb.set 11 (.bool ((lo : Int) == 2))).perm (star_left_comm _ _ _))
  clear hb
  go_upto_region 19 with (fail)
  have HS9 : Hid (St w0 _ (tbl g (.slice a L.length cap) (orE (orE (orE (orE (orE (orE (orE (orE (orE (orE (orE (0) (needE (fl L) 256)) (oneE (fl L) 256 1 topN)) (needE (fl L) 257)) (oneE (fl L) 257 1 topN)) (oneE (fl L) 277 1 topN)) (pe)) (bitsE (fl L) pr)) (oneE (fl L) 259 1 topN)) (se)) (oneE (fl L) 262 0 65535)) (oneE (fl L) 266 1 2)) * (blk gp (.cells #[.int .i64 0, .int .i64 0, .bool false, .int .i64 0, .int .i64 0, .int .i64 (pr : Int), .int .i64 (bi : Int), .int .u64 (ph : Int), .bool false, .int .i64 (sv : Int), .bool false, .bool ((lo : Int) == 2), .bool false, .slice none 0 0, .slice none 0 0, .slice none 0 0] 30) * (blk b0 (.cells #[.int .i64 0, .int .i64 0, .bool false, .int .i64 0, .int .i64 0, .int .i64 0, .int .i64 0, .int .u64 0, .bool false, .int .i64 0, .bool false, .bool false, .bool false, .slice none 0 0, .slice none 0 0, .slice none 0 0] 30) * F)))) := HS2
  clear HS2 HS c11 f11
  have HS := HS9
  clear HS9
  generalize World.setCell _ _ _ = wa at *
  obtain ⟨pl, hpl⟩ : ∃ pl, pl = oneV (fl L) 284 1 2 1 := ⟨_, rfl⟩
  have Hpl := Lib.hid hpl
  clear hpl
  have HC := one_any HS.out (fun w h => HV.out w h.right.right) hL6 284 1 2 1 (j := 284) (jl := 1) (jm := 2) (jw := 1) rfl rfl rfl rfl
  rw [← Hpl.out] at HC
  have HC2 := Lib.hid HC
  clear HC
  go_wp2_with (go_at_call 24; apply stop)
  refine on (HC2.out.mono ?_)
  rintro r w' ⟨rfl, h'⟩
  clear HS HC2
  have HS := Lib.hid h'
  clear h'
  have hb := HS.out.perm (star_left_comm _ _ _)
  have c8 := hb.cell 8 rfl
  have f8 := hb.free 8
  have HS2 := Lib.hid ((hb.set 8 (.bool ((pl : Int) == 2))).perm (star_left_comm _ _ _))
  clear hb
  go_upto_region 20 with (fail)
  have HS9 : Hid (St w0 _ (tbl g (.slice a L.length cap) (orE (orE (orE (orE (orE (orE (orE (orE (orE (orE (orE (orE (0) (needE (fl L) 256)) (oneE (fl L) 256 1 topN)) (needE (fl L) 257)) (oneE (fl L) 257 1 topN)) (oneE (fl L) 277 1 topN)) (pe)) (bitsE (fl L) pr)) (oneE (fl L) 259 1 topN)) (se)) (oneE (fl L) 262 0 65535)) (oneE (fl L) 266 1 2)) (oneE (fl L) 284 1 2)) * (blk gp (.cells #[.int .i64 0, .int .i64 0, .bool false, .int .i64 0, .int .i64 0, .int .i64 (pr : Int), .int .i64 (bi : Int), .int .u64 (ph : Int), .bool ((pl : Int) == 2), .int .i64 (sv : Int), .bool false, .bool ((lo : Int) == 2), .bool false, .slice none 0 0, .slice none 0 0, .slice none 0 0] 30) * (blk b0 (.cells #[.int .i64 0, .int .i64 0, .bool false, .int .i64 0, .int .i64 0, .int .i64 0, .int .i64 0, .int .u64 0, .bool false, .int .i64 0, .bool false, .bool false, .bool false, .slice none 0 0, .slice none 0 0, .slice none 0 0] 30) * F)))) := HS2
  clear HS2 HS c8 f8
  have HS := HS9
  clear HS9
  generalize World.setCell _ _ _ = wa at *
  obtain ⟨pd, hpd⟩ : ∃ pd, pd = oneV (fl L) 317 1 3 1 := ⟨_, rfl⟩
  have Hpd := Lib.hid hpd
  clear hpd
  have HC := one_any HS.out (fun w h => HV.out w h.right.right) hL6 317 1 3 1 (j := 317) (jl := 1) (jm := 3) (jw := 1) rfl rfl rfl rfl
  rw [← Hpd.out] at HC
  have HC2 := Lib.hid HC
  clear HC
  go_wp2_with (go_at_call 24; apply stop)
  refine on (HC2.out.mono ?_)
  rintro r w' ⟨rfl, h'⟩
  clear HS HC2
  have HS := Lib.hid h'
  clear h'
  go_upto_block 0 with (fail)
  obtain ⟨de, hde⟩ : ∃ de, de = (if pd = 3 then 9 else 0) := ⟨_, rfl⟩
  obtain ⟨db, hdb⟩ : ∃ db, db = (pd == 2) := ⟨_, rfl⟩
  have Hde := Lib.hid hde; have Hdb := Lib.hid hdb
  clear hde hdb
  go_cut [] from 62 to 68 (fun wx => St w0 wx (tbl g (.slice a L.length cap) (orE (orE (orE (orE (orE (orE (orE (orE (orE (orE (orE (orE (orE (orE (0) (needE (fl L) 256)) (oneE (fl L) 256 1 topN)) (needE (fl L) 257)) (oneE (fl L) 257 1 topN)) (oneE (fl L) 277 1 topN)) (pe)) (bitsE (fl L) pr)) (oneE (fl L) 259 1 topN)) (se)) (oneE (fl L) 262 0 65535)) (oneE (fl L) 266 1 2)) (oneE (fl L) 284 1 2)) (oneE (fl L) 317 1 3)) (de)) * (blk gp (.cells #[.int .i64 0, .int .i64 0, .bool false, .int .i64 0, .int .i64 0, .int .i64 (pr : Int), .int .i64 (bi : Int), .int .u64 (ph : Int), .bool ((pl : Int) == 2), .int .i64 (sv : Int), .bool db, .bool ((lo : Int) == 2), .bool false, .slice none 0 0, .slice none 0 0, .slice none 0 0] 30) * (blk b0 (.cells #[.int .i64 0, .int .i64 0, .bool false, .int .i64 0, .int .i64 0, .int .i64 0, .int .i64 0, .int .u64 0, .bool false, .int .i64 0, .bool false, .bool false, .bool false, .slice none 0 0, .slice none 0 0, .slice none 0 0] 30) * F))))
  case first =>
    by_cases p2 : pd = 2
    · subst p2
      obtain rfl : de = 0 := Hde.out
      obtain rfl : db = true := Hdb.out
      have hb := HS.out.perm (star_left_comm _ _ _)
      have c10 := hb.cell 10 rfl
      have f10 := hb.free 10
      have HS2 := Lib.hid ((hb.set 10 (.bool true)).perm (star_left_comm _ _ _))
      clear hb
      go_wp2_with fail
      go_meet
      exact (by rw [orE_nil]; exact HS2.out)
    have p2I : ¬ (pd : Int) = 2 := by omega
    obtain rfl : db = false := by rw [Hdb.out]; simpa using p2
    by_cases p3 : pd = 3
    · subst p3
      obtain rfl : de = 9 := Hde.out
      go_wp2_with (go_at_call 25; refine (fail_any HS.out 9 (j := 9) rfl).mono ?_; rintro r w' ⟨rfl, h'⟩; have HS3 := Lib.hid h'; clear h')
      go_meet
      exact HS3.out
    · obtain rfl : de = 0 := by rw [Hde.out, if_neg p3]
      have p3I : ¬ (pd : Int) = 3 := by omega
      go_wp2_with fail
      go_meet
      exact (by rw [orE_nil]; exact HS.out)
  clear HS
  have HS := Lib.hid hcut
  clear hcut
  have HC := tfax_any HS.out (fun w h => HV.out w h.right) hL6
  have HC2 := Lib.hid HC
  clear HC
  go_wp2_with (go_at_call 27; apply stop)
  refine on (HC2.out.mono ?_)
  rintro r w' ⟨rfl, h'⟩
  clear HS HC2
  have HS := Lib.hid h'
  clear h'
  have HS9 : Hid (St w0 _ (tbl g (.slice a L.length cap) (orE (orE (orE (orE (orE (orE (orE (orE (orE (orE (orE (orE (orE (orE (orE (orE (orE (0) (needE (fl L) 256)) (oneE (fl L) 256 1 topN)) (needE (fl L) 257)) (oneE (fl L) 257 1 topN)) (oneE (fl L) 277 1 topN)) (pe)) (bitsE (fl L) pr)) (oneE (fl L) 259 1 topN)) (se)) (oneE (fl L) 262 0 65535)) (oneE (fl L) 266 1 2)) (oneE (fl L) 284 1 2)) (oneE (fl L) 317 1 3)) (de)) (oneE (fl L) 292 0 topN)) (oneE (fl L) 293 0 topN)) (faxD (aV (fl L)) (bV (fl L)) (sv : Int) (pr : Int) (bi : Int) db)) * (blk gp (.cells #[.int .i64 0, .int .i64 0, .bool false, .int .i64 0, .int .i64 0, .int .i64 (pr : Int), .int .i64 (bi : Int), .int .u64 (ph : Int), .bool ((pl : Int) == 2), .int .i64 (sv : Int), .bool db, .bool ((lo : Int) == 2), .bool ((sv : Int) == 3 && aV (fl L) % 2 == 1), .slice none 0 0, .slice none 0 0, .slice none 0 0] 30) * (blk b0 (.cells #[.int .i64 0, .int .i64 0, .bool false, .int .i64 0, .int .i64 0, .int .i64 0, .int .i64 0, .int .u64 0, .bool false, .int .i64 0, .bool false, .bool false, .bool false, .slice none 0 0, .slice none 0 0, .slice none 0 0] 30) * F)))) := HS
  clear HS
  have HS := HS9
  clear HS9
  obtain ⟨wv1, wv4⟩ := bwv
  obtain ⟨hv1, hv4⟩ := bhv
  obtain ⟨lb, hlb⟩ : ∃ lb, lb = decide (32768 < wv ∨ 32768 < hv ∨ 4194304 < wv * hv * pr) := ⟨_, rfl⟩
  have Hlb := Lib.hid hlb
  clear hlb
  go_upto_region 26 with (fail)
  go_cut [84] from 71 to 84 (fun b wx => b = .bool lb ∧ wx = w')
  case first =>
    by_cases g1 : 32768 < wv
    · obtain rfl : lb = true := by rw [Hlb.out]; simp [g1]
      have g1I : (32768 : Int) < wv := by omega
      go_wp2_with fail
      go_meet
      exact ⟨rfl, rfl⟩
    have g1I : ¬ (32768 : Int) < wv := by omega
    by_cases g2 : 32768 < hv
    · obtain rfl : lb = true := by rw [Hlb.out]; simp [g2]
      have g2I : (32768 : Int) < hv := by omega
      go_wp2_with fail
      go_meet
      exact ⟨rfl, rfl⟩
    have g2I : ¬ (32768 : Int) < hv := by omega
    obtain ⟨m, hm⟩ : ∃ m, m = wv * hv := ⟨_, rfl⟩
    obtain ⟨q, hq⟩ : ∃ q, q = m * pr := ⟨_, rfl⟩
    have hm9 : m ≤ 1073741824 := by rw [hm]; exact Nat.mul_le_mul (show wv ≤ 32768 by omega) (show hv ≤ 32768 by omega)
    have hq9 : q ≤ 8589934592 := by rw [hq]; exact Nat.mul_le_mul hm9 pr8
    have e1 : (wv : Int) * (hv : Int) = (m : Int) := by rw [hm]; simp
    have e2 : (m : Int) * (pr : Int) = (q : Int) := by rw [hq]; simp
    have hlb : lb = decide (4194304 < q) := by rw [Hlb.out, hq, hm]; simp [g1, g2]
    have HQ := Lib.hid hlb
    clear hm hq hlb
    by_cases g3 : 4194304 < q
    · obtain rfl : lb = true := by rw [HQ.out]; simpa using g3
      have g3I : (4194304 : Int) < q := by omega
      go_wp2_with fail
      go_meet
      exact ⟨rfl, rfl⟩
    · obtain rfl : lb = false := by rw [HQ.out]; simpa using g3
      have g3I : ¬ (4194304 : Int) < q := by omega
      go_wp2_with fail
      go_meet
      exact ⟨rfl, rfl⟩
  obtain ⟨rfl, rfl⟩ := hcut
  obtain ⟨le, hle⟩ : ∃ le, le = (if lb then 8 else 0) := ⟨_, rfl⟩
  obtain ⟨wq, hwq⟩ : ∃ wq, wq = (if lb then 1 else wv) := ⟨_, rfl⟩
  obtain ⟨hq, hhq⟩ : ∃ hq, hq = (if lb then 1 else hv) := ⟨_, rfl⟩
  have wq1 : 1 ≤ wq ∧ wq ≤ 32768 ∧ 1 ≤ hq ∧ hq ≤ 32768 := by
    rw [hwq, hhq]
    cases hb : lb
    · have h1 := Hlb.out
      rw [hb] at h1
      have h1 := of_decide_eq_false h1.symm
      simp only [Bool.false_eq_true, if_false]
      omega
    · simp only [if_true]; omega
  obtain ⟨wq1, wq9, hq1, hq9⟩ := wq1
  have Hle := Lib.hid hle; have Hwq := Lib.hid hwq; have Hhq := Lib.hid hhq
  clear hle hwq hhq
  go_upto_if 84 with (fail)
  go_cut [6, 7] from 85 to 86 (fun x y wx => x = .int .u64 (wq : Int) ∧ y = .int .u64 (hq : Int) ∧ St w0 wx (tbl g (.slice a L.length cap) (orE (orE (orE (orE (orE (orE (orE (orE (orE (orE (orE (orE (orE (orE (orE (orE (orE (orE (0) (needE (fl L) 256)) (oneE (fl L) 256 1 topN)) (needE (fl L) 257)) (oneE (fl L) 257 1 topN)) (oneE (fl L) 277 1 topN)) (pe)) (bitsE (fl L) pr)) (oneE (fl L) 259 1 topN)) (se)) (oneE (fl L) 262 0 65535)) (oneE (fl L) 266 1 2)) (oneE (fl L) 284 1 2)) (oneE (fl L) 317 1 3)) (de)) (oneE (fl L) 292 0 topN)) (oneE (fl L) 293 0 topN)) (faxD (aV (fl L)) (bV (fl L)) (sv : Int) (pr : Int) (bi : Int) db)) (le)) * (blk gp (.cells #[.int .i64 0, .int .i64 0, .bool false, .int .i64 0, .int .i64 0, .int .i64 (pr : Int), .int .i64 (bi : Int), .int .u64 (ph : Int), .bool ((pl : Int) == 2), .int .i64 (sv : Int), .bool db, .bool ((lo : Int) == 2), .bool ((sv : Int) == 3 && aV (fl L) % 2 == 1), .slice none 0 0, .slice none 0 0, .slice none 0 0] 30) * (blk b0 (.cells #[.int .i64 0, .int .i64 0, .bool false, .int .i64 0, .int .i64 0, .int .i64 0, .int .i64 0, .int .u64 0, .bool false, .int .i64 0, .bool false, .bool false, .bool false, .slice none 0 0, .slice none 0 0, .slice none 0 0] 30) * F))))
  case first =>
    cases lb
    · obtain rfl : le = 0 := Hle.out
      obtain rfl : wq = wv := Hwq.out
      obtain rfl : hq = hv := Hhq.out
      go_wp2_with fail
      go_meet
      exact ⟨rfl, rfl, by rw [orE_nil]; exact HS.out⟩
    · obtain rfl : le = 8 := Hle.out
      obtain rfl : wq = 1 := Hwq.out
      obtain rfl : hq = 1 := Hhq.out
      go_wp2_with (go_at_call 25; refine (fail_any HS.out 8 (j := 8) rfl).mono ?_; rintro r w' ⟨rfl, h'⟩; have HS3 := Lib.hid h'; clear h')
      go_meet
      exact ⟨rfl, rfl, HS3.out⟩
  obtain ⟨rfl, rfl, h2⟩ := hcut
  clear HS
  have HS := Lib.hid h2
  clear h2
  have HC := layout_any HS.out (fun w h => HV.out w h.right) hL6 HLV.out (wi := wq) (hi := hq) (per := pr) wq1 wq9 hq1 hq9 pr8 rfl rfl
  have HC2 := Lib.hid HC
  clear HC
  go_wp2_with (go_at_call 28; apply stop)
  refine on (HC2.out.mono ?_)
  rintro r w' ⟨vo, vc, rfl, h'⟩
  clear HS HC2
  have HS := Lib.hid h'
  clear h'
  obtain ⟨ly, hly⟩ : ∃ ly, ly = layW (fl L) wq hq := ⟨_, rfl⟩
  rw [← hly] at HS
  have Hly := Lib.hid hly
  clear hly
  obtain ⟨ofs, hofs⟩ : ∃ ofs, ofs = needV (fl L) (offT (fl L)) := ⟨_, rfl⟩
  obtain ⟨cts, hcts⟩ : ∃ cts, cts = needV (fl L) (cntT (fl L)) := ⟨_, rfl⟩
  rw [← hofs, ← hcts] at HS
  have Hofs := Lib.hid hofs; have Hcts := Lib.hid hcts
  clear hofs hcts
  have hlim : limE (fl L) = le := by rw [limE, show wideV (fl L) = wv from Hwv.out.symm, show highV (fl L) = hv from Hhv.out.symm, ← Hpr.out, Hle.out, Hlb.out]; simp only [decide_eq_true_eq]
  have hwq : (if limE (fl L) = 0 then wideV (fl L) else 1) = wq := by rw [hlim, show wideV (fl L) = wv from Hwv.out.symm, Hwq.out, Hle.out]; cases lb <;> rfl
  have hhq : (if limE (fl L) = 0 then highV (fl L) else 1) = hq := by rw [hlim, show highV (fl L) = hv from Hhv.out.symm, Hhq.out, Hle.out]; cases lb <;> rfl
  have hpl : ((pl : Int) == 2) = (oneV (fl L) 284 1 2 1 == 2) := by rw [← Hpl.out]; exact cast_beq pl 2
  have HLY := Lib.hid (show layV (fl L) = ly by rw [layV_eq, hwq, hhq, Hly.out])
  have HPL := Lib.hid hpl
  have hE : (layE (fl L) wq hq pr ((pl : Int) == 2)).foldl orE (orE (orE (orE (orE (orE (orE (orE (orE (orE (orE (orE (orE (orE (orE (orE (orE (orE (orE (0) (needE (fl L) 256)) (oneE (fl L) 256 1 topN)) (needE (fl L) 257)) (oneE (fl L) 257 1 topN)) (oneE (fl L) 277 1 topN)) (pe)) (bitsE (fl L) pr)) (oneE (fl L) 259 1 topN)) (se)) (oneE (fl L) 262 0 65535)) (oneE (fl L) 266 1 2)) (oneE (fl L) 284 1 2)) (oneE (fl L) 317 1 3)) (de)) (oneE (fl L) 292 0 topN)) (oneE (fl L) 293 0 topN)) (faxD (aV (fl L)) (bV (fl L)) (sv : Int) (pr : Int) (bi : Int) db)) (le)) = er := by
    have hfx : faxD (aV (fl L)) (bV (fl L)) (sv : Int) (pr : Int) (bi : Int) db = faxE (fl L) := by rw [faxE_eq, show schV (fl L) = sv from Hsv.out.symm, ← Hpr.out, ← Hbi.out, show preV (fl L) = pd from Hpd.out.symm, Hdb.out]
    rw [Her.out, descE, firstE, wrong_eq, List.foldl_append]
    rw [hwq, hhq, ← hpl, hlim, ← hfx, ← Hpr.out, show schV (fl L) = sv from Hsv.out.symm, show preV (fl L) = pd from Hpd.out.symm, ← Hpe.out, ← Hse.out, ← Hde.out]
    simp only [List.foldl_cons, List.foldl_nil]
  clear hlim hwq hhq hpl
  rw [hE] at HS
  clear hE
  have hro := (HS.out.perm (show _ = own 27 1 vo ofs.length (ofs.map u64v) * (blk gp _ * (tbl g _ _ * (own 27 1 vc cts.length (cts.map u64v) * (blk b0 (.cells #[.int .i64 0, .int .i64 0, .bool false, .int .i64 0, .int .i64 0, .int .i64 0, .int .i64 0, .int .u64 0, .bool false, .int .i64 0, .bool false, .bool false, .bool false, .slice none 0 0, .slice none 0 0, .slice none 0 0] 30) * F)))) by ac_rfl)).reads
  have hrc := (HS.out.perm (show _ = own 27 1 vc cts.length (cts.map u64v) * (blk gp _ * (tbl g _ _ * (own 27 1 vo ofs.length (ofs.map u64v) * (blk b0 (.cells #[.int .i64 0, .int .i64 0, .bool false, .int .i64 0, .int .i64 0, .int .i64 0, .int .i64 0, .int .u64 0, .bool false, .int .i64 0, .bool false, .bool false, .bool false, .slice none 0 0, .slice none 0 0, .slice none 0 0] 30) * F)))) by ac_rfl)).reads
  obtain ⟨ao, co, rfl⟩ := hro.sub
  obtain ⟨ac, cc, rfl⟩ := hrc.sub
  clear hro hrc
  have t1 := St.cell HS.out 1 rfl
  by_cases hz : er = 0
  rotate_left
  · have hzI : ¬ (er : Int) = 0 := by omega
    have hb := HS.out.perm (show _ = blk b0 (.cells #[.int .i64 0, .int .i64 0, .bool false, .int .i64 0, .int .i64 0, .int .i64 0, .int .i64 0, .int .u64 0, .bool false, .int .i64 0, .bool false, .bool false, .bool false, .slice none 0 0, .slice none 0 0, .slice none 0 0] 30) * (tbl g _ _ * (blk gp _ * (own 27 1 (.slice ao ofs.length co) ofs.length (ofs.map u64v) * (own 27 1 (.slice ac cts.length cc) cts.length (cts.map u64v) * F)))) by ac_rfl)
    have hng0 : b0 ≠ g := by have h := hb; unfold tbl at h; exact h.ne
    have c0 := hb.cell 0 rfl
    have f0 := hb.free 0
    have c1 := hb.cell 1 rfl
    have f1 := hb.free 1
    have c2 := hb.cell 2 rfl
    have f2 := hb.free 2
    have c3 := hb.cell 3 rfl
    have f3 := hb.free 3
    have c4 := hb.cell 4 rfl
    have f4 := hb.free 4
    have c5 := hb.cell 5 rfl
    have f5 := hb.free 5
    have c6 := hb.cell 6 rfl
    have f6 := hb.free 6
    have c7 := hb.cell 7 rfl
    have f7 := hb.free 7
    have c8 := hb.cell 8 rfl
    have f8 := hb.free 8
    have c9 := hb.cell 9 rfl
    have f9 := hb.free 9
    have c10 := hb.cell 10 rfl
    have f10 := hb.free 10
    have c11 := hb.cell 11 rfl
    have f11 := hb.free 11
    have c12 := hb.cell 12 rfl
    have f12 := hb.free 12
    have c13 := hb.cell 13 rfl
    have f13 := hb.free 13
    have c14 := hb.cell 14 rfl
    have f14 := hb.free 14
    have c15 := hb.cell 15 rfl
    have f15 := hb.free 15
    have HF := Lib.hid (((((((((((((((((hb.set 0 (.int .i64 0)).set 1 (.int .i64 0)).set 2 (.bool false)).set 3 (.int .i64 0)).set 4 (.int .i64 0)).set 5 (.int .i64 0)).set 6 (.int .i64 0)).set 7 (.int .u64 0)).set 8 (.bool false)).set 9 (.int .i64 0)).set 10 (.bool false)).set 11 (.bool false)).set 12 (.bool false)).set 13 (.slice none 0 0)).set 14 (.slice none 0 0)).set 15 (.slice none 0 0)))
    clear hb HS
    have hng : ¬ b0 = g := hng0
    have hng2 : ¬ g = b0 := fun h => hng h.symm
    have HP2 := Lib.hid (show PG = nonePg by rw [HPG.out, if_neg (by rw [← Her.out]; exact hz)])
    clear hz
    go_wp2_with fail
    go_region
    all_goals
      go_wp2_with fail
      refine bodyPost_ret2c rfl rfl HF.out.drew.at_ Try.underlying30 rfl (by show _ = some 16; kernel_rfl) rfl ?_
      rw [HP2.out]
      refine ⟨.slice none 0 0, .slice none 0 0, .slice none 0 0, [], _, rfl, HF.out.drew.perm (star5 _ _ _ _ _ _), fun w h => ⟨⟨rfl, .inl ⟨rfl, rfl⟩⟩, ⟨rfl, .inl ⟨rfl, rfl⟩⟩, ⟨⟨rfl, .inl ⟨rfl, rfl⟩⟩, fun x hx => by cases hx⟩, rfl⟩⟩
  subst hz
  have h1 := valsP_nil (HS.out.own_nil 53 3)
  have HS9 : Hid (St w0 _ (blk gp (.cells #[.int .i64 ly.width, .int .i64 ly.height, .bool ly.tiled, .int .i64 ly.w, .int .i64 ly.h, .int .i64 (pr : Int), .int .i64 (bi : Int), .int .u64 (ph : Int), .bool ((pl : Int) == 2), .int .i64 (sv : Int), .bool db, .bool ((lo : Int) == 2), .bool ((sv : Int) == 3 && aV (fl L) % 2 == 1), .slice ao ofs.length co, .slice ac cts.length cc, .slice none 0 0] 30) * (own 53 3 (.slice none 0 0) 0 [] * (valsP [] * (own 27 1 (.slice ao ofs.length co) ofs.length (ofs.map u64v) * (own 27 1 (.slice ac cts.length cc) cts.length (cts.map u64v) * (tbl g (.slice a L.length cap) 0 * (blk b0 (.cells #[.int .i64 0, .int .i64 0, .bool false, .int .i64 0, .int .i64 0, .int .i64 0, .int .i64 0, .int .u64 0, .bool false, .int .i64 0, .bool false, .bool false, .bool false, .slice none 0 0, .slice none 0 0, .slice none 0 0] 30) * F)))))))) := h1.perm (by ac_rfl)
  clear h1 HS
  have HS := HS9
  clear HS9
  go_wp2_with fail
  go_loopw [105] (fun vi wr => ∃ (k : Nat) (R : List FV) (ar : Option Addr) (cr : Nat), k ≤ L.length ∧ vi = .int .i64 k ∧ R.length ≤ k ∧ fl R = ((fl L).take k).filter (fun f => !knownL.contains f.tag) ∧ St w0 wr (blk gp (.cells #[.int .i64 ly.width, .int .i64 ly.height, .bool ly.tiled, .int .i64 ly.w, .int .i64 ly.h, .int .i64 (pr : Int), .int .i64 (bi : Int), .int .u64 (ph : Int), .bool ((pl : Int) == 2), .int .i64 (sv : Int), .bool db, .bool ((lo : Int) == 2), .bool ((sv : Int) == 3 && aV (fl L) % 2 == 1), .slice ao ofs.length co, .slice ac cts.length cc, .slice ar R.length cr] 30) * (own 53 3 (.slice ar R.length cr) R.length (R.flatMap fldC) * (valsP R * (own 27 1 (.slice ao ofs.length co) ofs.length (ofs.map u64v) * (own 27 1 (.slice ac cts.length cc) cts.length (cts.map u64v) * (tbl g (.slice a L.length cap) 0 * (blk b0 (.cells #[.int .i64 0, .int .i64 0, .bool false, .int .i64 0, .int .i64 0, .int .i64 0, .int .i64 0, .int .u64 0, .bool false, .int .i64 0, .bool false, .bool false, .bool false, .slice none 0 0, .slice none 0 0, .slice none 0 0] 30) * F)))))))) (fun vi _ => L.length - (intOf vi).toNat)
  case atStart => exact ⟨0, [], none, 0, by omega, rfl, by simp, rfl, HS.out⟩
  case round =>
    clear HS t1
    obtain ⟨k, R, ar, cr, hk, rfl, hRk, hRf, hst⟩ := hrel
    by_cases hkn : k < L.length
    · have hx := List.getElem?_eq_getElem hkn
      obtain ⟨b, off, rfl, c0, c1, c2⟩ := reads_fld (HV.out _ hst.right.right.right.right.right.right.right).row hx
      obtain ⟨av, cv, hos⟩ := ((HV.out _ hst.right.right.right.right.right.right.right).vals _ (List.getElem_mem hkn)).sub
      have hvl := HLV.out _ (List.getElem_mem hkn)
      have hkI : (k : Int) < L.length := by omega
      have htk : (fl L).take (k + 1) = (fl L).take k ++ [L[k].2] := by rw [List.take_succ_eq_append_getElem (by simpa using hkn), List.getElem_map]
      have hrv : Stb w0 F (fun w => Reads w 1 L[k].1 L[k].2.vals.length (L[k].2.vals.map u64v)) := fun w h => (HV.out w h).vals _ (List.getElem_mem hkn)
      generalize L[k] = o at *
      obtain ⟨ov, o⟩ := o
      simp only at hos
      subst hos
      simp only at c0 c1 c2 htk hvl hrv
      have HTK := Lib.hid htk; have HRF := Lib.hid hRf; have HRV := Lib.hid hrv
      clear hx htk hRf hrv
      have HA := Lib.hid (hst.alloc (.cells #[.int .u16 (o.tag : Int), .int .i64 o.kind, .slice av o.vals.length cv] 53))
      have HST := Lib.hid hst
      clear hst
      have HK := Lib.hid (known_any HA.out o.tag rfl)
      obtain ⟨kb, hkb⟩ : ∃ kb, kb = knownL.contains o.tag := ⟨_, rfl⟩
      rw [← hkb] at HK
      have Hkb := Lib.hid hkb
      clear hkb
      go_wp2_with (go_at_call 15; apply stop)
      refine on (HK.out.mono ?_)
      rintro r wr2 ⟨rfl, h2⟩
      have HS := Lib.hid h2
      clear h2 HK HA HST c0 c1 c2
      generalize wr.heap.size = fb at *
      cases kb
      rotate_left
      · go_wp2_with fail
        refine ⟨⟨k + 1, R, ar, cr, by omega, by go_num, by omega, ?_, HS.out.right⟩, by simp [intOf]; omega⟩
        rw [HTK.out, List.filter_append, ← HRF.out, List.filter_cons, ← Hkb.out]; simp
      have hsp : ∀ W, St w0 W (blk fb (.cells #[.int .u16 (o.tag : Int), .int .i64 o.kind, .slice av o.vals.length cv] 53) * ((blk gp (.cells #[.int .i64 ly.width, .int .i64 ly.height, .bool ly.tiled, .int .i64 ly.w, .int .i64 ly.h, .int .i64 (pr : Int), .int .i64 (bi : Int), .int .u64 (ph : Int), .bool ((pl : Int) == 2), .int .i64 (sv : Int), .bool db, .bool ((lo : Int) == 2), .bool ((sv : Int) == 3 && aV (fl L) % 2 == 1), .slice ao ofs.length co, .slice ac cts.length cc, .slice ar R.length cr] 30) * (own 53 3 (.slice ar R.length cr) R.length (R.flatMap fldC) * (valsP R * (own 27 1 (.slice ao ofs.length co) ofs.length (ofs.map u64v) * (own 27 1 (.slice ac cts.length cc) cts.length (cts.map u64v) * (tbl g (.slice (some ⟨b, off, none⟩) L.length cap) 0 * (blk b0 (.cells #[.int .i64 0, .int .i64 0, .bool false, .int .i64 0, .int .i64 0, .int .i64 0, .int .i64 0, .int .u64 0, .bool false, .int .i64 0, .bool false, .bool false, .bool false, .slice none 0 0, .slice none 0 0, .slice none 0 0] 30) * F))))))))) → (W.cell? ⟨gp, 15, none⟩ = some (.slice ar R.length cr) ∧ W.cell? ⟨fb, 0, none⟩ = some (.int .u16 (o.tag : Int)) ∧ W.cell? ⟨fb, 1, none⟩ = some (.int .i64 o.kind) ∧ W.cell? ⟨fb, 2, none⟩ = some (.slice av o.vals.length cv)) := fun W h => ⟨h.right.cell 15 rfl, h.cell 0 rfl, h.cell 1 rfl, h.cell 2 rfl⟩
      go_upto_region 36 with (fail)
      refine wp_region_noPanic ?_
      refine region_till (S := fun W : World => W.cell? ⟨gp, 15, none⟩ = some (.slice ar R.length cr) ∧ W.cell? ⟨fb, 0, none⟩ = some (.int .u16 (o.tag : Int)) ∧ W.cell? ⟨fb, 1, none⟩ = some (.int .i64 o.kind) ∧ W.cell? ⟨fb, 2, none⟩ = some (.slice av o.vals.length cv)) (k := 13) (by kernel_rfl) ?_
      have HSP := Lib.hid hsp
      have hS := hsp _ HS.out.drew
      clear hsp
      have HD := Lib.hid HS.out.drew
      clear HS
      refine till_take0 (i := 0) (oi := ?_) (v := ?_) ?_ (by kernel_rfl) (by kernel_rfl) (by kernel_rfl) (by decide) (fun _ _ _ h => h.elim) (by assumption) (.inl ⟨?_, fun w => ?_⟩) ?_
      rotate_left 2
      · (simp only [List.getElem?_toArray, List.getElem?_cons_succ, List.getElem?_cons_zero]; rfl)
      · rfl
      · (go_simp; try with_reducible rfl)
      simp only [Act.put, List.setIfInBounds_toArray, List.set_cons_zero, List.set_cons_succ]
      refine till_take (i := 1) (oi := ?_) (v := ?_) ?_ (by kernel_rfl) (by kernel_rfl) (by kernel_rfl) (by kernel_rfl) (by kernel_rfl) (fun _ _ _ h => h.elim) (by assumption) (.inl ⟨?_, fun w hSw => ?_⟩) ?_
      rotate_left 2
      · (simp only [List.getElem?_toArray, List.getElem?_cons_succ, List.getElem?_cons_zero]; rfl)
      · rfl
      · (obtain ⟨s1, s2, s3, s4⟩ := hSw; go_simp; try with_reducible rfl)
      simp only [Act.put, List.setIfInBounds_toArray, List.set_cons_zero, List.set_cons_succ]
      refine till_take0 (i := 2) (oi := ?_) (v := ?_) ?_ (by kernel_rfl) (by kernel_rfl) (by kernel_rfl) (by decide) (fun _ _ _ h => h.elim) (by assumption) (.inl ⟨?_, fun w => ?_⟩) ?_
      rotate_left 2
      · (simp only [List.getElem?_toArray, List.getElem?_cons_succ, List.getElem?_cons_zero]; rfl)
      · rfl
      · (go_simp; try with_reducible rfl)
      simp only [Act.put, List.setIfInBounds_toArray, List.set_cons_zero, List.set_cons_succ]
      refine till_take (i := 3) (oi := ?_) (v := ?_) ?_ (by kernel_rfl) (by kernel_rfl) (by kernel_rfl) (by kernel_rfl) (by kernel_rfl) (fun _ _ _ h => h.elim) (by assumption) (.inl ⟨?_, fun w hSw => ?_⟩) ?_
      rotate_left 2
      · (simp only [List.getElem?_toArray, List.getElem?_cons_succ, List.getElem?_cons_zero]; rfl)
      · rfl
      · (obtain ⟨s1, s2, s3, s4⟩ := hSw; go_simp; try with_reducible rfl)
      simp only [Act.put, List.setIfInBounds_toArray, List.set_cons_zero, List.set_cons_succ]
      refine till_take0 (i := 4) (oi := ?_) (v := ?_) ?_ (by kernel_rfl) (by kernel_rfl) (by kernel_rfl) (by decide) (fun _ _ _ h => h.elim) (by assumption) (.inl ⟨?_, fun w => ?_⟩) ?_
      rotate_left 2
      · (simp only [List.getElem?_toArray, List.getElem?_cons_succ, List.getElem?_cons_zero]; rfl)
      · rfl
      · (go_simp; try with_reducible rfl)
      simp only [Act.put, List.setIfInBounds_toArray, List.set_cons_zero, List.set_cons_succ]
      refine till_take (i := 5) (oi := ?_) (v := ?_) ?_ (by kernel_rfl) (by kernel_rfl) (by kernel_rfl) (by kernel_rfl) (by kernel_rfl) (fun _ _ _ h => h.elim) (by assumption) (.inl ⟨?_, fun w hSw => ?_⟩) ?_
      rotate_left 2
      · (simp only [List.getElem?_toArray, List.getElem?_cons_succ, List.getElem?_cons_zero]; rfl)
      · rfl
      · (obtain ⟨s1, s2, s3, s4⟩ := hSw; go_simp; try with_reducible rfl)
      simp only [Act.put, List.setIfInBounds_toArray, List.set_cons_zero, List.set_cons_succ]
      refine till_take0 (i := 6) (oi := ?_) (v := ?_) ?_ (by kernel_rfl) (by kernel_rfl) (by kernel_rfl) (by decide) (fun _ _ _ h => h.elim) (by assumption) (.inl ⟨?_, fun w => ?_⟩) ?_
      rotate_left 2
      · (simp only [List.getElem?_toArray, List.getElem?_cons_succ, List.getElem?_cons_zero]; rfl)
      · rfl
      · (go_simp; try with_reducible rfl)
      simp only [Act.put, List.setIfInBounds_toArray, List.set_cons_zero, List.set_cons_succ]
      refine till_take (i := 7) (oi := ?_) (v := ?_) ?_ (by kernel_rfl) (by kernel_rfl) (by kernel_rfl) (by kernel_rfl) (by kernel_rfl) (fun _ _ _ h => h.elim) (by assumption) (.inl ⟨?_, fun w hSw => ?_⟩) ?_
      rotate_left 2
      · (simp only [List.getElem?_toArray, List.getElem?_cons_succ, List.getElem?_cons_zero]; rfl)
      · rfl
      · (obtain ⟨s1, s2, s3, s4⟩ := hSw; go_simp; try with_reducible rfl)
      simp only [Act.put, List.setIfInBounds_toArray, List.set_cons_zero, List.set_cons_succ]
      clear hS
      generalize wr2.drew = W5 at *
      have HCL := Lib.hid (clone_any HD.out (v := .slice av o.vals.length cv) (l := o.vals) (fun w h => HRV.out w h.right.right.right.right.right.right.right.right) (by omega))
      refine till_one (i := 8) (by kernel_rfl) ?_
      refine wpOp_step (by rfl) fun K hK => ?_
      go_simp
      refine HCL.out.mono ?_
      rintro e W7 ⟨v7, rfl, h7⟩
      refine hK _ _ ⟨fun e => HSP.out _ h7.right, ?_⟩
      clear hK K HCL HD
      obtain ⟨a7, k7, rfl⟩ := h7.reads.sub
      have HC := Lib.hid h7
      clear h7
      refine till_one (i := 9) (by kernel_rfl) ?_
      refine wpOp_step (by rfl) fun K hK => ?_
      go_simp
      refine hK _ _ ⟨fun e => HSP.out _ HC.out.right, ?_⟩
      clear hK K
      refine till_one (i := 10) (by kernel_rfl) ?_
      refine wpOp_step (by rfl) fun K hK => ?_
      have h8 := (HC.out.alloc (.cells #[.int .u16 (o.tag : Int), .int .i64 o.kind, .slice a7 o.vals.length k7] 53)).own_blk (size := 3) (n := 1) (cap := 1) (xs := fldC (.slice a7 o.vals.length k7, o)) (Nat.le_refl _) (by decide) rfl rfl
      go_simp
      refine hK _ _ ⟨fun e => HSP.out _ h8.right.right, ?_⟩
      clear hK K
      have hx8 := h8.reads
      have H8 := Lib.hid h8
      have HX8 := Lib.hid hx8
      clear h8 hx8 HC
      generalize hgg : W7.heap.size = g8 at *
      generalize hww : W7.alloc _ = W8 at *
      clear hgg hww
      have h8 : St w0 W8 (own 53 3 (.slice ar R.length cr) R.length (R.flatMap fldC) * (own 53 3 (.slice (some ⟨g8, 0, none⟩) 1 1) 1 (fldC (.slice a7 o.vals.length k7, o)) * (own 27 1 (.slice a7 o.vals.length k7) o.vals.length (o.vals.map u64v) * (blk fb (.cells #[.int .u16 (o.tag : Int), .int .i64 o.kind, .slice av o.vals.length cv] 53) * (blk gp (.cells #[.int .i64 ly.width, .int .i64 ly.height, .bool ly.tiled, .int .i64 ly.w, .int .i64 ly.h, .int .i64 (pr : Int), .int .i64 (bi : Int), .int .u64 (ph : Int), .bool ((pl : Int) == 2), .int .i64 (sv : Int), .bool db, .bool ((lo : Int) == 2), .bool ((sv : Int) == 3 && aV (fl L) % 2 == 1), .slice ao ofs.length co, .slice ac cts.length cc, .slice ar R.length cr] 30) * (valsP R * (own 27 1 (.slice ao ofs.length co) ofs.length (ofs.map u64v) * (own 27 1 (.slice ac cts.length cc) cts.length (cts.map u64v) * (tbl g (.slice (some ⟨b, off, none⟩) L.length cap) 0 * (blk b0 (.cells #[.int .i64 0, .int .i64 0, .bool false, .int .i64 0, .int .i64 0, .int .i64 0, .int .i64 0, .int .u64 0, .bool false, .int .i64 0, .bool false, .bool false, .bool false, .slice none 0 0, .slice none 0 0, .slice none 0 0] 30) * F)))))))))) := H8.out.perm (by ac_rfl)
      clear H8
      have H8 := Lib.hid h8
      clear h8
      have T := elemFld
      refine till_one (i := 11) (by kernel_rfl) ?_
      refine wpOp_step (by rfl) fun K hK => ?_
      refine step_append_L T rfl _ _ rfl rfl (stl2 H8.out) 0 rfl (x := .slice (some ⟨g8, 0, none⟩) 1 1) rfl (m := 1) (news := fldC (.slice a7 o.vals.length k7, o)) HX8.out fldC_one (by unfold maxLen; omega) (by omega) fun v9 W9 h90 _ => ?_
      have h9 : St w0 W9 (own 53 3 v9 (R.length + 1) (R.flatMap fldC ++ fldC (.slice a7 o.vals.length k7, o)) * (own 53 3 (.slice (some ⟨g8, 0, none⟩) 1 1) 1 (fldC (.slice a7 o.vals.length k7, o)) * (own 27 1 (.slice a7 o.vals.length k7) o.vals.length (o.vals.map u64v) * (blk fb (.cells #[.int .u16 (o.tag : Int), .int .i64 o.kind, .slice av o.vals.length cv] 53) * (blk gp (.cells #[.int .i64 ly.width, .int .i64 ly.height, .bool ly.tiled, .int .i64 ly.w, .int .i64 ly.h, .int .i64 (pr : Int), .int .i64 (bi : Int), .int .u64 (ph : Int), .bool ((pl : Int) == 2), .int .i64 (sv : Int), .bool db, .bool ((lo : Int) == 2), .bool ((sv : Int) == 3 && aV (fl L) % 2 == 1), .slice ao ofs.length co, .slice ac cts.length cc, .slice ar R.length cr] 30) * (valsP R * (own 27 1 (.slice ao ofs.length co) ofs.length (ofs.map u64v) * (own 27 1 (.slice ac cts.length cc) cts.length (cts.map u64v) * (tbl g (.slice (some ⟨b, off, none⟩) L.length cap) 0 * (blk b0 (.cells #[.int .i64 0, .int .i64 0, .bool false, .int .i64 0, .int .i64 0, .int .i64 0, .int .i64 0, .int .u64 0, .bool false, .int .i64 0, .bool false, .bool false, .bool false, .slice none 0 0, .slice none 0 0, .slice none 0 0] 30) * F)))))))))) := stl2_out h90
      have hq15 := (h9.perm (show _ = blk gp (.cells #[.int .i64 ly.width, .int .i64 ly.height, .bool ly.tiled, .int .i64 ly.w, .int .i64 ly.h, .int .i64 (pr : Int), .int .i64 (bi : Int), .int .u64 (ph : Int), .bool ((pl : Int) == 2), .int .i64 (sv : Int), .bool db, .bool ((lo : Int) == 2), .bool ((sv : Int) == 3 && aV (fl L) % 2 == 1), .slice ao ofs.length co, .slice ac cts.length cc, .slice ar R.length cr] 30) * (own 53 3 v9 (R.length + 1) (R.flatMap fldC ++ fldC (.slice a7 o.vals.length k7, o)) * (own 53 3 (.slice (some ⟨g8, 0, none⟩) 1 1) 1 (fldC (.slice a7 o.vals.length k7, o)) * (own 27 1 (.slice a7 o.vals.length k7) o.vals.length (o.vals.map u64v) * (blk fb (.cells #[.int .u16 (o.tag : Int), .int .i64 o.kind, .slice av o.vals.length cv] 53) * (valsP R * (own 27 1 (.slice ao ofs.length co) ofs.length (ofs.map u64v) * (own 27 1 (.slice ac cts.length cc) cts.length (cts.map u64v) * (tbl g (.slice (some ⟨b, off, none⟩) L.length cap) 0 * (blk b0 (.cells #[.int .i64 0, .int .i64 0, .bool false, .int .i64 0, .int .i64 0, .int .i64 0, .int .i64 0, .int .u64 0, .bool false, .int .i64 0, .bool false, .bool false, .bool false, .slice none 0 0, .slice none 0 0, .slice none 0 0] 30) * F))))))))) by ac_rfl))
      have hqfb := (h9.perm (show _ = blk fb (.cells #[.int .u16 (o.tag : Int), .int .i64 o.kind, .slice av o.vals.length cv] 53) * (own 53 3 v9 (R.length + 1) (R.flatMap fldC ++ fldC (.slice a7 o.vals.length k7, o)) * (own 53 3 (.slice (some ⟨g8, 0, none⟩) 1 1) 1 (fldC (.slice a7 o.vals.length k7, o)) * (own 27 1 (.slice a7 o.vals.length k7) o.vals.length (o.vals.map u64v) * (blk gp (.cells #[.int .i64 ly.width, .int .i64 ly.height, .bool ly.tiled, .int .i64 ly.w, .int .i64 ly.h, .int .i64 (pr : Int), .int .i64 (bi : Int), .int .u64 (ph : Int), .bool ((pl : Int) == 2), .int .i64 (sv : Int), .bool db, .bool ((lo : Int) == 2), .bool ((sv : Int) == 3 && aV (fl L) % 2 == 1), .slice ao ofs.length co, .slice ac cts.length cc, .slice ar R.length cr] 30) * (valsP R * (own 27 1 (.slice ao ofs.length co) ofs.length (ofs.map u64v) * (own 27 1 (.slice ac cts.length cc) cts.length (cts.map u64v) * (tbl g (.slice (some ⟨b, off, none⟩) L.length cap) 0 * (blk b0 (.cells #[.int .i64 0, .int .i64 0, .bool false, .int .i64 0, .int .i64 0, .int .i64 0, .int .i64 0, .int .u64 0, .bool false, .int .i64 0, .bool false, .bool false, .bool false, .slice none 0 0, .slice none 0 0, .slice none 0 0] 30) * F))))))))) by ac_rfl))
      refine hK _ _ ⟨fun e => ⟨hq15.cell 15 rfl, hqfb.cell 0 rfl, hqfb.cell 1 rfl, hqfb.cell 2 rfl⟩, ?_⟩
      clear hK K h90
      refine till_one (i := 12) (by kernel_rfl) ?_
      refine wpOp_step (by rfl) fun K hK => ?_
      go_simp
      refine hK _ _ ⟨fun e => ⟨hq15.cell 15 rfl, hqfb.cell 0 rfl, hqfb.cell 1 rfl, hqfb.cell 2 rfl⟩, ?_⟩
      clear hK K hqfb
      obtain ⟨a9, k9, rfl⟩ := h9.reads.sub
      have c15 := hq15.cell 15 rfl
      have f15 := hq15.free 15
      have HF := Lib.hid (hq15.set 15 (.slice a9 (R.length + 1) k9))
      clear h9 hq15 H8 HX8
      refine till_one (i := 13) (by kernel_rfl) ?_
      refine wpOp_step (by rfl) fun K hK => ?_
      go_simp
      refine hK _ _ ⟨fun e => (by first | exact absurd e (by decide) | (simp at e)), ?_⟩
      clear hK K
      refine ⟨(by kernel_rfl), NoPanic.normal ?_⟩
      go_wp2_with fail
      have hRl : (R ++ [((.slice a7 o.vals.length k7, o) : FV)]).length = R.length + 1 := by simp
      refine ⟨⟨k + 1, R ++ [(.slice a7 o.vals.length k7, o)], a9, k9, by omega, by go_num, by rw [hRl]; omega, ?_, ?_⟩, by simp [intOf]; omega⟩
      · rw [HTK.out, List.filter_append, ← HRF.out, List.filter_cons, ← Hkb.out]; simp
      · rw [hRl, List.flatMap_append, valsP_snoc]
        have h := HF.out.perm (show _ = (own 53 3 (.slice (some ⟨g8, 0, none⟩) 1 1) 1 (fldC (.slice a7 o.vals.length k7, o)) * blk fb (.cells #[.int .u16 (o.tag : Int), .int .i64 o.kind, .slice av o.vals.length cv] 53)) * (blk gp _ * (own 53 3 (.slice a9 (R.length + 1) k9) (R.length + 1) (R.flatMap fldC ++ fldC (.slice a7 o.vals.length k7, o)) * ((own 27 1 (.slice a7 o.vals.length k7) o.vals.length (o.vals.map u64v) * valsP R) * (own 27 1 (.slice ao ofs.length co) ofs.length (ofs.map u64v) * (own 27 1 (.slice ac cts.length cc) cts.length (cts.map u64v) * (tbl g (.slice (some ⟨b, off, none⟩) L.length cap) 0 * (blk b0 (.cells #[.int .i64 0, .int .i64 0, .bool false, .int .i64 0, .int .i64 0, .int .i64 0, .int .i64 0, .int .u64 0, .bool false, .int .i64 0, .bool false, .bool false, .bool false, .slice none 0 0, .slice none 0 0, .slice none 0 0] 30) * F))))))) by ac_rfl)
        have h := h.right
        simpa using h
    · obtain rfl : k = L.length := by omega
      have hkI : ¬ ((L.length : Int) < L.length) := by omega
      rw [List.take_of_length_le (by simp)] at hRf
      have hPG : PG = ⟨ly, (pr : Int), (bi : Int), ph, ((pl : Int) == 2), (sv : Int), db, ((lo : Int) == 2), ((sv : Int) == 3 && aV (fl L) % 2 == 1), ofs, cts, fl R⟩ := by
        rw [HPG.out, if_pos (by rw [← Her.out]), pageV, HLY.out, ← Hpr.out, ← Hbi.out, ← Hph.out, ← HPL.out, show schV (fl L) = sv from Hsv.out.symm, show preV (fl L) = pd from Hpd.out.symm, ← Hdb.out, ← Hofs.out, ← Hcts.out, ← hRf, ← Hlo.out]
        have e1 : ((sv : Int) == 3) = (sv == 3) := cast_beq sv 3
        have e2 : ((lo : Int) == 2) = (lo == 2) := cast_beq lo 2
        rw [e1, e2]
      have HPG2 := Lib.hid hPG
      clear hPG hRf
      have d0 := hst.cell 0 rfl
      have d1 := hst.cell 1 rfl
      have d2 := hst.cell 2 rfl
      have d3 := hst.cell 3 rfl
      have d4 := hst.cell 4 rfl
      have d5 := hst.cell 5 rfl
      have d6 := hst.cell 6 rfl
      have d7 := hst.cell 7 rfl
      have d8 := hst.cell 8 rfl
      have d9 := hst.cell 9 rfl
      have d10 := hst.cell 10 rfl
      have d11 := hst.cell 11 rfl
      have d12 := hst.cell 12 rfl
      have d13 := hst.cell 13 rfl
      have d14 := hst.cell 14 rfl
      have d15 := hst.cell 15 rfl
      have hb : St w0 wr (blk b0 (.cells #[.int .i64 0, .int .i64 0, .bool false, .int .i64 0, .int .i64 0, .int .i64 0, .int .i64 0, .int .u64 0, .bool false, .int .i64 0, .bool false, .bool false, .bool false, .slice none 0 0, .slice none 0 0, .slice none 0 0] 30) * (blk gp (.cells #[.int .i64 ly.width, .int .i64 ly.height, .bool ly.tiled, .int .i64 ly.w, .int .i64 ly.h, .int .i64 (pr : Int), .int .i64 (bi : Int), .int .u64 (ph : Int), .bool ((pl : Int) == 2), .int .i64 (sv : Int), .bool db, .bool ((lo : Int) == 2), .bool ((sv : Int) == 3 && aV (fl L) % 2 == 1), .slice ao ofs.length co, .slice ac cts.length cc, .slice ar R.length cr] 30) * (own 53 3 (.slice ar R.length cr) R.length (R.flatMap fldC) * (valsP R * (own 27 1 (.slice ao ofs.length co) ofs.length (ofs.map u64v) * (own 27 1 (.slice ac cts.length cc) cts.length (cts.map u64v) * (tbl g (.slice a L.length cap) 0 * F))))))) := hst.perm (by ac_rfl)
      have c0 := hb.cell 0 rfl
      have f0 := hb.free 0
      have c1 := hb.cell 1 rfl
      have f1 := hb.free 1
      have c2 := hb.cell 2 rfl
      have f2 := hb.free 2
      have c3 := hb.cell 3 rfl
      have f3 := hb.free 3
      have c4 := hb.cell 4 rfl
      have f4 := hb.free 4
      have c5 := hb.cell 5 rfl
      have f5 := hb.free 5
      have c6 := hb.cell 6 rfl
      have f6 := hb.free 6
      have c7 := hb.cell 7 rfl
      have f7 := hb.free 7
      have c8 := hb.cell 8 rfl
      have f8 := hb.free 8
      have c9 := hb.cell 9 rfl
      have f9 := hb.free 9
      have c10 := hb.cell 10 rfl
      have f10 := hb.free 10
      have c11 := hb.cell 11 rfl
      have f11 := hb.free 11
      have c12 := hb.cell 12 rfl
      have f12 := hb.free 12
      have c13 := hb.cell 13 rfl
      have f13 := hb.free 13
      have c14 := hb.cell 14 rfl
      have f14 := hb.free 14
      have c15 := hb.cell 15 rfl
      have f15 := hb.free 15
      have hF := (((((((((((((((((hb.set 0 (.int .i64 ly.width)).set 1 (.int .i64 ly.height)).set 2 (.bool ly.tiled)).set 3 (.int .i64 ly.w)).set 4 (.int .i64 ly.h)).set 5 (.int .i64 (pr : Int))).set 6 (.int .i64 (bi : Int))).set 7 (.int .u64 (ph : Int))).set 8 (.bool ((pl : Int) == 2))).set 9 (.int .i64 (sv : Int))).set 10 (.bool db)).set 11 (.bool ((lo : Int) == 2))).set 12 (.bool ((sv : Int) == 3 && aV (fl L) % 2 == 1))).set 13 (.slice ao ofs.length co)).set 14 (.slice ac cts.length cc)).set 15 (.slice ar R.length cr)))
      simp only [List.setIfInBounds_toArray, List.set_cons_zero, List.set_cons_succ] at hF
      have HF := Lib.hid hF
      clear hb hst hF
      go_wp2_with fail
      refine bodyPost_ret2c rfl rfl HF.out.at_ Try.underlying30 rfl (by show _ = some 16; kernel_rfl) rfl ?_
      rw [HPG2.out]
      refine ⟨.slice ao ofs.length co, .slice ac cts.length cc, .slice ar R.length cr, R, _, rfl, HF.out.perm (star7 _ _ _ _ _ _ _ _), fun W h => ?_⟩
      have h := h.perm (star7 _ _ _ _ _ _ _ _).symm
      refine ⟨h.right.right.right.right.reads, h.right.right.right.right.right.reads, ?_, rfl⟩
      exact fldsP_reads (h.right.right.perm (show _ = fldsP (.slice ar R.length cr) R * _ by unfold fldsP; rw [star_assoc]))
end Go.Proofs.Ythoegjdkeooenaa
