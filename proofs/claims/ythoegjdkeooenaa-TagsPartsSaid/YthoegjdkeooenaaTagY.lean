/-
  Layer 23: how a page is cut, and where its parts are, taken of the table of fields (package tags).
-/
import Derived.Test.YthoegjdkeooenaaTagX
import Derived.RegionTactic
import Derived.BigRegion
import Derived.Deep.Cut
import Derived.Deep.CutRange
namespace Go.Proofs.Ythoegjdkeooenaa
open Go.RowKit Go.Mz
set_option linter.unusedVariables false
set_option linter.unusedSimpArgs false
set_option maxRecDepth 100000

theorem needV_reads {w : World} {v : Value} {L : List FV} (h : FldsR w v L) (t : Nat) : Reads w 1 (valuesV L t) (needV (fl L) t).length ((needV (fl L) t).map u64v) := by
  rcases values_cases L t with ⟨_, e1, _, _, e4⟩ | ⟨x, _, _, hw, e1, _, _, e4⟩ | ⟨x, _, hx, hw, e1, _, _, e4⟩
  · rw [e1, needV, e4]; exact ⟨rfl, .inl ⟨rfl, rfl⟩⟩
  · rw [e1, needV, e4]; simp only [hw]; exact ⟨rfl, .inl ⟨rfl, rfl⟩⟩
  · rw [e1, needV, e4]; simp only [hw]; exact h.vals x hx
theorem needV_len {L : List FV} {n : Nat} (h : ∀ x ∈ L, x.2.vals.length ≤ n) (t : Nat) : (needV (fl L) t).length ≤ n := by
  rcases values_cases L t with ⟨_, e1, _, _, e4⟩ | ⟨x, _, _, hw, e1, _, _, e4⟩ | ⟨x, _, hx, hw, e1, _, _, e4⟩
  · rw [needV, e4]; exact Nat.zero_le _
  · rw [needV, e4]; simp [hw]
  · rw [needV, e4]; simpa [hw] using h x hx
/-- The layout that fields tell, of a page so wide and high. -/
def layW (l : List Fld) (w h : Nat) : LayD :=
  if tiledB l then ⟨w, h, true, oneV l 322 1 topN 16, oneV l 323 1 topN 16⟩ else ⟨w, h, false, w, (min (oneV l 278 1 topN topN) h : Nat)⟩
def cutD (y : LayD) (per : Nat) (pl : Bool) (no nc : Nat) : Nat :=
  if rightL y ∧ (no : Int) = (if pl then countL y * per else countL y) ∧ (nc : Int) = (if pl then countL y * per else countL y) then 0 else 3
/-- What may be wrong there. -/
def layE (l : List Fld) (w h per : Nat) (pl : Bool) : List Nat :=
  (if tiledB l then [needE l 322, needE l 323, oneE l 322 1 topN, oneE l 323 1 topN] else [oneE l 278 1 topN]) ++ [needE l (offT l), needE l (cntT l), cutD (layW l w h) per pl (needV l (offT l)).length (needV l (cntT l)).length]

/-- What stands behind 'n, e := chunks.Count(p.Layout)'. -/
theorem cut_vals {y : LayD} {per no nc : Nat} {pl : Bool} (hper : per ≤ 8) :
    ∃ n : Int, (if rightL y then countL y else 0) = n ∧ 0 ≤ n ∧ n ≤ 1073741824 := by
  refine ⟨_, rfl, ?_⟩
  split
  · rename_i h; have := countL_le h; omega
  · omega

set_option maxHeartbeats 40000000 in
theorem layout_any {w0 w : World} {F : SProp} {g e gp : Nat} {v : Value} {L : List FV} {v0 v1 v2 v3 v4 v6 v7 v9 v10 v11 v12 v13 v14 v15 : Value} {per : Nat} {pl : Bool} {ty : TypeId}
    (h : St w0 w (tbl g v e * (blk gp (.cells #[v0, v1, v2, v3, v4, .int .i64 (per : Int), v6, v7, .bool pl, v9, v10, v11, v12, v13, v14, v15] ty) * F))) (hv : Stb w0 F (fun w => FldsR w v L)) (hL : L.length ≤ 1000000) (hLv : ∀ x ∈ L, x.2.vals.length ≤ 1000000)
    {wi hi : Nat} (hw1 : 1 ≤ wi) (hwi : wi ≤ 32768) (hh1 : 1 ≤ hi) (hhi : hi ≤ 32768) (hper : per ≤ 8) {ji jh : Int} (hji : ji = wi) (hjh : jh = hi) :
    Calls Try.prog 28 #[.pointer (some ⟨g, 0, none⟩), .pointer (some ⟨gp, 0, none⟩), .int .i64 ji, .int .i64 jh] w fun r w' => ∃ vo vc, r = .returned (.tuple #[]) ∧
      St w0 w' (tbl g v ((layE (fl L) wi hi per pl).foldl orE e) * (blk gp (.cells #[.int .i64 (layW (fl L) wi hi).width, .int .i64 (layW (fl L) wi hi).height, .bool (layW (fl L) wi hi).tiled, .int .i64 (layW (fl L) wi hi).w, .int .i64 (layW (fl L) wi hi).h, .int .i64 (per : Int), v6, v7, .bool pl, v9, v10, v11, v12, vo, vc, v15] ty) *
        (own 27 1 vo (needV (fl L) (offT (fl L))).length ((needV (fl L) (offT (fl L))).map u64v) * (own 27 1 vc (needV (fl L) (cntT (fl L))).length ((needV (fl L) (cntT (fl L))).map u64v) * F)))) := by
  subst hji hjh
  have HV := Lib.hid hv
  have HNE := Lib.hid (fun (w : World) (e : Nat) (G : SProp) (h : St w0 w (tbl g v e * G)) (hG : Stb w0 G (fun w => FldsR w v L)) (t : Nat) => need_any h hG hL t rfl)
  have HON := Lib.hid (fun (w : World) (e : Nat) (G : SProp) (h : St w0 w (tbl g v e * G)) (hG : Stb w0 G (fun w => FldsR w v L)) (t least most without : Nat) => one_any h hG hL t least most without rfl rfl rfl rfl)
  have HHA := Lib.hid (fun (w : World) (e : Nat) (G : SProp) (h : St w0 w (tbl g v e * G)) (hG : Stb w0 G (fun w => FldsR w v L)) (t : Nat) => has_any h hG hL t rfl)
  have HCL := Lib.hid (fun (w : World) (G : SProp) (h : St w0 w G) (hG : Stb w0 G (fun w => FldsR w v L)) (t : Nat) => clone_any h (fun w h => needV_reads (hG w h) t) (Nat.le_trans (needV_len hLv t) (by decide)))
  have hb := h.perm (star_left_comm _ _ _)
  have c0 := hb.cell 0 rfl
  have f0 := hb.free 0
  have c1 := hb.cell 1 rfl
  have f1 := hb.free 1
  have c2 := hb.cell 2 rfl
  have f2 := hb.free 2
  have c3 := hb.cell 3 rfl
  have f3 := hb.free 3
  have c4 := hb.cell 4 rfl
  have f4 := hb.free 4
  have HS0 := Lib.hid ((((((hb.set 0 (.int .i64 (wi : Int))).set 1 (.int .i64 (hi : Int))).set 2 (.bool false)).set 3 (.int .i64 (wi : Int))).set 4 (.int .i64 0)).perm (star_left_comm _ _ _))
  clear h hb hv
  go_enter Try.func28, Try.ntmps28
  go_upto_region 1 with (fail)
  clear c0 f0 c1 f1 c2 f2 c3 f3 c4 f4
  have HS : Hid (St w0 _ (tbl g v e * (blk gp (.cells #[.int .i64 (wi : Int), .int .i64 (hi : Int), .bool false, .int .i64 (wi : Int), .int .i64 0, .int .i64 (per : Int), v6, v7, .bool pl, v9, v10, v11, v12, v13, v14, v15] ty) * F))) := HS0
  clear HS0
  generalize World.setCell _ _ _ = w1 at *
  go_cut [30] from 17 to 30 (fun b wx => b = .bool (tiledB (fl L)) ∧ St w0 wx (tbl g v e * (blk gp (.cells #[.int .i64 (wi : Int), .int .i64 (hi : Int), .bool false, .int .i64 (wi : Int), .int .i64 0, .int .i64 (per : Int), v6, v7, .bool pl, v9, v10, v11, v12, v13, v14, v15] ty) * F)))
  case first =>
    cases x0 : hasT (fl L) 322
    rotate_left
    · skip
      have HB := Lib.hid (show tiledB (fl L) = true by rw [tiledB]; simp [*])
      have HC := HHA.out _ _ _ HS.out (fun w h => HV.out w h.right) 322
      rw [x0] at HC
      have HC0 := Lib.hid HC
      clear HC
      go_wp2_with (go_at_call 50; apply stop)
      refine on (HC0.out.mono ?_)
      rintro r w' ⟨rfl, h'⟩
      clear HS
      have HS := Lib.hid h'
      clear h'
      go_wp2_with fail
      go_meet
      exact ⟨congrArg Value.bool HB.out.symm, HS.out⟩
    cases x1 : hasT (fl L) 323
    rotate_left
    · skip
      have HB := Lib.hid (show tiledB (fl L) = true by rw [tiledB]; simp [*])
      have HC := HHA.out _ _ _ HS.out (fun w h => HV.out w h.right) 322
      rw [x0] at HC
      have HC0 := Lib.hid HC
      clear HC
      go_wp2_with (go_at_call 50; apply stop)
      refine on (HC0.out.mono ?_)
      rintro r w' ⟨rfl, h'⟩
      clear HS
      have HS := Lib.hid h'
      clear h'
      have HC := HHA.out _ _ _ HS.out (fun w h => HV.out w h.right) 323
      rw [x1] at HC
      have HC1 := Lib.hid HC
      clear HC
      go_wp2_with (go_at_call 50; apply stop)
      refine on (HC1.out.mono ?_)
      rintro r w' ⟨rfl, h'⟩
      clear HS
      have HS := Lib.hid h'
      clear h'
      go_wp2_with fail
      go_meet
      exact ⟨congrArg Value.bool HB.out.symm, HS.out⟩
    cases x2 : hasT (fl L) 324
    rotate_left
    · skip
      have HB := Lib.hid (show tiledB (fl L) = true by rw [tiledB]; simp [*])
      have HC := HHA.out _ _ _ HS.out (fun w h => HV.out w h.right) 322
      rw [x0] at HC
      have HC0 := Lib.hid HC
      clear HC
      go_wp2_with (go_at_call 50; apply stop)
      refine on (HC0.out.mono ?_)
      rintro r w' ⟨rfl, h'⟩
      clear HS
      have HS := Lib.hid h'
      clear h'
      have HC := HHA.out _ _ _ HS.out (fun w h => HV.out w h.right) 323
      rw [x1] at HC
      have HC1 := Lib.hid HC
      clear HC
      go_wp2_with (go_at_call 50; apply stop)
      refine on (HC1.out.mono ?_)
      rintro r w' ⟨rfl, h'⟩
      clear HS
      have HS := Lib.hid h'
      clear h'
      have HC := HHA.out _ _ _ HS.out (fun w h => HV.out w h.right) 324
      rw [x2] at HC
      have HC2 := Lib.hid HC
      clear HC
      go_wp2_with (go_at_call 50; apply stop)
      refine on (HC2.out.mono ?_)
      rintro r w' ⟨rfl, h'⟩
      clear HS
      have HS := Lib.hid h'
      clear h'
      go_wp2_with fail
      go_meet
      exact ⟨congrArg Value.bool HB.out.symm, HS.out⟩
    cases x3 : hasT (fl L) 325
    rotate_left
    · skip
      have HB := Lib.hid (show tiledB (fl L) = true by rw [tiledB]; simp [*])
      have HC := HHA.out _ _ _ HS.out (fun w h => HV.out w h.right) 322
      rw [x0] at HC
      have HC0 := Lib.hid HC
      clear HC
      go_wp2_with (go_at_call 50; apply stop)
      refine on (HC0.out.mono ?_)
      rintro r w' ⟨rfl, h'⟩
      clear HS
      have HS := Lib.hid h'
      clear h'
      have HC := HHA.out _ _ _ HS.out (fun w h => HV.out w h.right) 323
      rw [x1] at HC
      have HC1 := Lib.hid HC
      clear HC
      go_wp2_with (go_at_call 50; apply stop)
      refine on (HC1.out.mono ?_)
      rintro r w' ⟨rfl, h'⟩
      clear HS
      have HS := Lib.hid h'
      clear h'
      have HC := HHA.out _ _ _ HS.out (fun w h => HV.out w h.right) 324
      rw [x2] at HC
      have HC2 := Lib.hid HC
      clear HC
      go_wp2_with (go_at_call 50; apply stop)
      refine on (HC2.out.mono ?_)
      rintro r w' ⟨rfl, h'⟩
      clear HS
      have HS := Lib.hid h'
      clear h'
      have HC := HHA.out _ _ _ HS.out (fun w h => HV.out w h.right) 325
      rw [x3] at HC
      have HC3 := Lib.hid HC
      clear HC
      go_wp2_with (go_at_call 50; apply stop)
      refine on (HC3.out.mono ?_)
      rintro r w' ⟨rfl, h'⟩
      clear HS
      have HS := Lib.hid h'
      clear h'
      go_wp2_with fail
      go_meet
      exact ⟨congrArg Value.bool HB.out.symm, HS.out⟩
    have HB := Lib.hid (show tiledB (fl L) = false by rw [tiledB]; simp [*])
    have HC := HHA.out _ _ _ HS.out (fun w h => HV.out w h.right) 322
    rw [x0] at HC
    have HC0 := Lib.hid HC
    clear HC
    go_wp2_with (go_at_call 50; apply stop)
    refine on (HC0.out.mono ?_)
    rintro r w' ⟨rfl, h'⟩
    clear HS
    have HS := Lib.hid h'
    clear h'
    have HC := HHA.out _ _ _ HS.out (fun w h => HV.out w h.right) 323
    rw [x1] at HC
    have HC1 := Lib.hid HC
    clear HC
    go_wp2_with (go_at_call 50; apply stop)
    refine on (HC1.out.mono ?_)
    rintro r w' ⟨rfl, h'⟩
    clear HS
    have HS := Lib.hid h'
    clear h'
    have HC := HHA.out _ _ _ HS.out (fun w h => HV.out w h.right) 324
    rw [x2] at HC
    have HC2 := Lib.hid HC
    clear HC
    go_wp2_with (go_at_call 50; apply stop)
    refine on (HC2.out.mono ?_)
    rintro r w' ⟨rfl, h'⟩
    clear HS
    have HS := Lib.hid h'
    clear h'
    have HC := HHA.out _ _ _ HS.out (fun w h => HV.out w h.right) 325
    rw [x3] at HC
    have HC3 := Lib.hid HC
    clear HC
    go_wp2_with (go_at_call 50; apply stop)
    refine on (HC3.out.mono ?_)
    rintro r w' ⟨rfl, h'⟩
    clear HS
    have HS := Lib.hid h'
    clear h'
    go_wp2_with fail
    go_meet
    exact ⟨congrArg Value.bool HB.out.symm, HS.out⟩
  case rest =>
    obtain ⟨rfl, h2⟩ := hcut
    clear HS
    have HS := Lib.hid h2
    clear h2 HHA
    cases ht : tiledB (fl L)
    rotate_left
    · have hot : offT (fl L) = 324 := by rw [offT, ht]; rfl
      have hct : cntT (fl L) = 325 := by rw [cntT, ht]; rfl
      obtain ⟨ow, how⟩ : ∃ ow, ow = oneV (fl L) 322 1 topN 16 := ⟨_, rfl⟩
      obtain ⟨oh, hoh⟩ : ∃ oh, oh = oneV (fl L) 323 1 topN 16 := ⟨_, rfl⟩
      have hob : ow ≤ 4294967295 := by have := (oneV_within (l := fl L) (t := 322) (least := 1) (most := topN) (without := 16) (by decide) (by decide)).2; unfold topN at *; omega
      have hoc : oh ≤ 4294967295 := by have := (oneV_within (l := fl L) (t := 323) (least := 1) (most := topN) (without := 16) (by decide) (by decide)).2; unfold topN at *; omega
      have hly : layW (fl L) wi hi = ⟨wi, hi, true, ow, oh⟩ := by rw [layW, ht, how, hoh]; rfl
      have hle : layE (fl L) wi hi per pl = [needE (fl L) 322, needE (fl L) 323, oneE (fl L) 322 1 topN, oneE (fl L) 323 1 topN, needE (fl L) 324, needE (fl L) 325, cutD (layW (fl L) wi hi) per pl (needV (fl L) 324).length (needV (fl L) 325).length] := by rw [layE, ht, hot, hct]; rfl
      have Hly := Lib.hid hly; have Hle := Lib.hid hle; have Hot := Lib.hid hot; have Hct := Lib.hid hct; have How := Lib.hid how; have Hoh := Lib.hid hoh
      clear hly hle hot hct how hoh ht
      have HC := Lib.hid (need_any HS.out (fun w h => HV.out w h.right) hL 322 (j := 322) rfl)
      go_wp2_with (go_at_call 23; apply stop)
      refine on (HC.out.mono ?_)
      rintro r w' ⟨rfl, h'⟩
      clear HS HC
      have HS := Lib.hid h'
      clear h'
      obtain ⟨an322, cn322, hn322⟩ := (needV_reads (HV.out _ HS.out.right.right) 322).sub
      rw [hn322]
      have Hn322 := Lib.hid hn322
      clear hn322
      have HC := Lib.hid (need_any HS.out (fun w h => HV.out w h.right) hL 323 (j := 323) rfl)
      go_wp2_with (go_at_call 23; apply stop)
      refine on (HC.out.mono ?_)
      rintro r w' ⟨rfl, h'⟩
      clear HS HC
      have HS := Lib.hid h'
      clear h'
      obtain ⟨an323, cn323, hn323⟩ := (needV_reads (HV.out _ HS.out.right.right) 323).sub
      rw [hn323]
      have Hn323 := Lib.hid hn323
      clear hn323
      have hb := HS.out.perm (star_left_comm _ _ _)
      have c2 := hb.cell 2 rfl
      have f2 := hb.free 2
      have HS2 := Lib.hid ((hb.set 2 (.bool true)))
      clear hb HS
      have HS := Lib.hid (HS2.out.perm (star_left_comm _ _ _))
      clear HS2
      go_upto_region 5 with (fail)
      clear c2 f2
      have HC := one_any HS.out (fun w h => HV.out w h.right) hL 322 1 topN 16 (j := 322) (jl := 1) (jm := 4294967295) (jw := 16) rfl rfl rfl rfl
      rw [← How.out] at HC
      have HC2 := Lib.hid HC
      clear HC
      go_wp2_with (go_at_call 24; apply stop)
      refine on (HC2.out.mono ?_)
      rintro r w' ⟨rfl, h'⟩
      clear HS HC2
      have HS := Lib.hid h'
      clear h'
      have HC := one_any HS.out (fun w h => HV.out w h.right) hL 323 1 topN 16 (j := 323) (jl := 1) (jm := 4294967295) (jw := 16) rfl rfl rfl rfl
      rw [← Hoh.out] at HC
      have HC2 := Lib.hid HC
      clear HC
      go_wp2_with (go_at_call 24; apply stop)
      refine on (HC2.out.mono ?_)
      rintro r w' ⟨rfl, h'⟩
      clear HS HC2
      have HS := Lib.hid h'
      clear h'
      have hb := HS.out.perm (star_left_comm _ _ _)
      have c3 := hb.cell 3 rfl
      have f3 := hb.free 3
      have c4 := hb.cell 4 rfl
      have f4 := hb.free 4
      have HS2 := Lib.hid (((hb.set 3 (.int .i64 (ow : Int))).set 4 (.int .i64 (oh : Int))))
      clear hb HS
      have HS := Lib.hid (HS2.out.perm (star_left_comm _ _ _))
      clear HS2
      go_upto_region 6 with (fail)
      clear c3 f3 c4 f4
      have HC := Lib.hid (need_any HS.out (fun w h => HV.out w h.right) hL 324 (j := 324) rfl)
      go_wp2_with (go_at_call 23; apply stop)
      refine on (HC.out.mono ?_)
      rintro r w' ⟨rfl, h'⟩
      clear HS HC
      have HS := Lib.hid h'
      clear h'
      obtain ⟨an324, cn324, hn324⟩ := (needV_reads (HV.out _ HS.out.right.right) 324).sub
      rw [hn324]
      have Hn324 := Lib.hid hn324
      clear hn324
      have HC := HCL.out _ _ HS.out (fun w h => HV.out w h.right.right) 324
      rw [Hn324.out] at HC
      have HC2 := Lib.hid HC
      clear HC
      go_wp2_with (go_at_call 29; apply stop)
      refine on (HC2.out.mono ?_)
      rintro r w' ⟨vo, rfl, h'⟩
      clear HS HC2
      obtain ⟨ao, co, rfl⟩ := h'.reads.sub
      have HS := Lib.hid (h'.perm (star_left_comm _ _ _))
      clear h'
      have HC := Lib.hid (need_any HS.out (fun w h => HV.out w h.right.right) hL 325 (j := 325) rfl)
      go_wp2_with (go_at_call 23; apply stop)
      refine on (HC.out.mono ?_)
      rintro r w' ⟨rfl, h'⟩
      clear HS HC
      have HS := Lib.hid h'
      clear h'
      obtain ⟨an325, cn325, hn325⟩ := (needV_reads (HV.out _ HS.out.right.right.right) 325).sub
      rw [hn325]
      have Hn325 := Lib.hid hn325
      clear hn325
      have HC := HCL.out _ _ HS.out (fun w h => HV.out w h.right.right.right) 325
      rw [Hn325.out] at HC
      have HC2 := Lib.hid HC
      clear HC
      go_wp2_with (go_at_call 29; apply stop)
      refine on (HC2.out.mono ?_)
      rintro r w' ⟨vc, rfl, h'⟩
      clear HS HC2
      obtain ⟨ac, cc, rfl⟩ := h'.reads.sub
      have HS := Lib.hid (h'.perm (star_left_comm _ _ _))
      clear h'
      obtain ⟨no, hno⟩ : ∃ no, no = (needV (fl L) 324).length := ⟨_, rfl⟩
      obtain ⟨nc, hnc⟩ : ∃ nc, nc = (needV (fl L) 325).length := ⟨_, rfl⟩
      rw [← hno, ← hnc] at HS
      have Hno := Lib.hid hno; have Hnc := Lib.hid hnc
      rw [← hno, ← hnc]
      clear hno hnc
      have hb := HS.out.perm (show _ = blk gp _ * (tbl g v _ * (own 27 1 (.slice ao no co) no ((needV (fl L) 324).map u64v) * (own 27 1 (.slice ac nc cc) nc ((needV (fl L) 325).map u64v) * F))) by ac_rfl)
      clear HS
      have HS := Lib.hid hb
      clear hb
      have c13 := HS.out.cell 13 rfl
      have f13 := HS.out.free 13
      have c14 := HS.out.cell 14 rfl
      have f14 := HS.out.free 14
      have HS2 := Lib.hid ((HS.out.set 13 (.slice ao no co)).set 14 (.slice ac nc cc))
      clear HS
      go_upto_region 9 with (fail)
      clear c13 f13 c14 f14
      have HS : Hid (St w0 _ (blk gp (.cells #[.int .i64 (wi : Int), .int .i64 (hi : Int), .bool true, .int .i64 (ow : Int), .int .i64 (oh : Int), .int .i64 (per : Int), v6, v7, .bool pl, v9, v10, v11, v12, .slice ao no co, .slice ac nc cc, v15] ty) * (tbl g v _ * (own 27 1 (.slice ao no co) no ((needV (fl L) 324).map u64v) * (own 27 1 (.slice ac nc cc) nc ((needV (fl L) 325).map u64v) * F))))) := HS2
      clear HS2
      generalize World.setCell _ _ _ = wq at *
      have c0 := HS.out.cell 0 rfl
      have c1 := HS.out.cell 1 rfl
      have c2 := HS.out.cell 2 rfl
      have c3 := HS.out.cell 3 rfl
      have c4 := HS.out.cell 4 rfl
      obtain ⟨E, hE⟩ : ∃ E, E = orE (orE (orE (orE (orE (orE (e) (needE (fl L) 322)) (needE (fl L) 323)) (oneE (fl L) 322 1 topN)) (oneE (fl L) 323 1 topN)) (needE (fl L) 324)) (needE (fl L) 325) := ⟨_, rfl⟩
      obtain ⟨cd, hcd⟩ : ∃ cd, cd = cutD ⟨wi, hi, true, ow, oh⟩ per pl no nc := ⟨_, rfl⟩
      have HCD := Lib.hid hcd
      clear hcd
      have HFIN := Lib.hid (fun (w' : World) (h : St w0 w' (tbl g v (orE E cd) * (blk gp (.cells #[.int .i64 (wi : Int), .int .i64 (hi : Int), .bool true, .int .i64 (ow : Int), .int .i64 (oh : Int), .int .i64 (per : Int), v6, v7, .bool pl, v9, v10, v11, v12, .slice ao no co, .slice ac nc cc, v15] ty) * (own 27 1 (.slice ao no co) no ((needV (fl L) 324).map u64v) * (own 27 1 (.slice ac nc cc) nc ((needV (fl L) 325).map u64v) * F))))) => (show St w0 w' (tbl g v ((layE (fl L) wi hi per pl).foldl orE e) * (blk gp (.cells #[.int .i64 (layW (fl L) wi hi).width, .int .i64 (layW (fl L) wi hi).height, .bool (layW (fl L) wi hi).tiled, .int .i64 (layW (fl L) wi hi).w, .int .i64 (layW (fl L) wi hi).h, .int .i64 (per : Int), v6, v7, .bool pl, v9, v10, v11, v12, .slice ao no co, .slice ac nc cc, v15] ty) * (own 27 1 (.slice ao no co) (needV (fl L) (offT (fl L))).length ((needV (fl L) (offT (fl L))).map u64v) * (own 27 1 (.slice ac nc cc) (needV (fl L) (cntT (fl L))).length ((needV (fl L) (cntT (fl L))).map u64v) * F)))) by
        rw [Hot.out, Hct.out, Hle.out, Hly.out, ← Hno.out, ← Hnc.out]
        rw [hE, HCD.out] at h
        exact h))
      rw [← hE] at HS
      clear hE Hle Hly Hot Hct HNE HON HCL
      have HC := count_any HS.out ⟨wi, hi, true, ow, oh⟩
      by_cases hr : rightL ⟨wi, hi, true, ow, oh⟩
      · rw [if_pos hr, if_pos hr] at HC
        have hcl := countL_le hr
        obtain ⟨n, hn⟩ : ∃ n, n = countL ⟨wi, hi, true, ow, oh⟩ := ⟨_, rfl⟩
        rw [← hn] at HC hcl
        have Hn := Lib.hid hn
        obtain ⟨n1, n2⟩ := hcl
        have Hr := Lib.hid hr
        have HC2 := Lib.hid HC
        clear HC hn hr
        cases pl
        · skip
          by_cases g1 : (no : Int) = n
          · skip
            by_cases g2 : (nc : Int) = n
            · skip
              obtain rfl : cd = 0 := by
                rw [HCD.out, cutD]
                have hr := Hr.out
                have hq : n = countL ⟨wi, hi, true, ow, oh⟩ := by rw [Hn.out]
                simp only [Bool.false_eq_true, if_false, if_true]
                rw [← hq]
                simp [hr, g1, g2]
              go_wp2_with (go_at_call 45; apply stop)
              refine on (HC2.out.mono ?_)
              rintro r wk ⟨rfl, h'⟩
              have k5 := h'.cell 5 rfl
              have k8 := h'.cell 8 rfl
              have k13 := h'.cell 13 rfl
              have k14 := h'.cell 14 rfl
              clear HS HC2 c0 c1 c2 c3 c4
              have HS := Lib.hid (h'.perm (star_left_comm _ _ _))
              clear h'
              go_wp2_with fail
              go_end0
              exact ⟨_, _, rfl, HFIN.out _ (by rw [orE_nil]; exact HS.out)⟩
            · skip
              obtain rfl : cd = 3 := by
                rw [HCD.out, cutD]
                have hr := Hr.out
                have hq : n = countL ⟨wi, hi, true, ow, oh⟩ := by rw [Hn.out]
                simp only [Bool.false_eq_true, if_false, if_true]
                rw [← hq]
                simp [hr, g1, g2]
              go_wp2_with (go_at_call 45; apply stop)
              refine on (HC2.out.mono ?_)
              rintro r wk ⟨rfl, h'⟩
              have k5 := h'.cell 5 rfl
              have k8 := h'.cell 8 rfl
              have k13 := h'.cell 13 rfl
              have k14 := h'.cell 14 rfl
              clear HS HC2 c0 c1 c2 c3 c4
              have HS := Lib.hid (h'.perm (star_left_comm _ _ _))
              clear h'
              go_wp2_with (go_at_call 25; refine (fail_any HS.out 3 (j := 3) rfl).mono ?_; rintro r wz ⟨rfl, h'⟩; have H9 := Lib.hid h'; clear h')
              go_end0
              exact ⟨_, _, rfl, HFIN.out _ H9.out⟩
          · skip
            obtain rfl : cd = 3 := by
              rw [HCD.out, cutD]
              have hr := Hr.out
              have hq : n = countL ⟨wi, hi, true, ow, oh⟩ := by rw [Hn.out]
              simp only [Bool.false_eq_true, if_false, if_true]
              rw [← hq]
              simp [hr, g1]
            go_wp2_with (go_at_call 45; apply stop)
            refine on (HC2.out.mono ?_)
            rintro r wk ⟨rfl, h'⟩
            have k5 := h'.cell 5 rfl
            have k8 := h'.cell 8 rfl
            have k13 := h'.cell 13 rfl
            have k14 := h'.cell 14 rfl
            clear HS HC2 c0 c1 c2 c3 c4
            have HS := Lib.hid (h'.perm (star_left_comm _ _ _))
            clear h'
            go_wp2_with (go_at_call 25; refine (fail_any HS.out 3 (j := 3) rfl).mono ?_; rintro r wz ⟨rfl, h'⟩; have H9 := Lib.hid h'; clear h')
            go_end0
            exact ⟨_, _, rfl, HFIN.out _ H9.out⟩
        · skip
          obtain ⟨m, hm⟩ : ∃ m, m = n * (per : Int) := ⟨_, rfl⟩
          have m0 : 0 ≤ m := by rw [hm]; exact Int.mul_nonneg (by omega) (by omega)
          have m9 : m ≤ 8589934592 := by
            rw [hm]
            exact Int.le_trans (Int.mul_le_mul n2 (show (per : Int) ≤ 8 by omega) (by omega) (by omega)) (by decide)
          have hwm : IntKind.i64.wrap (n * (per : Int)) = m := by rw [← hm]; exact IntWalk.i64_in _ (by omega)
          have Hm := Lib.hid hm
          clear hm
          by_cases g1 : (no : Int) = m
          · skip
            by_cases g2 : (nc : Int) = m
            · skip
              obtain rfl : cd = 0 := by
                rw [HCD.out, cutD]
                have hr := Hr.out
                have hq : m = countL ⟨wi, hi, true, ow, oh⟩ * (per : Int) := by rw [Hm.out, Hn.out]
                simp only [Bool.false_eq_true, if_false, if_true]
                rw [← hq]
                simp [hr, g1, g2]
              go_wp2_with (go_at_call 45; apply stop)
              refine on (HC2.out.mono ?_)
              rintro r wk ⟨rfl, h'⟩
              have k5 := h'.cell 5 rfl
              have k8 := h'.cell 8 rfl
              have k13 := h'.cell 13 rfl
              have k14 := h'.cell 14 rfl
              clear HS HC2 c0 c1 c2 c3 c4
              have HS := Lib.hid (h'.perm (star_left_comm _ _ _))
              clear h'
              go_wp2_with fail
              go_end0
              exact ⟨_, _, rfl, HFIN.out _ (by rw [orE_nil]; exact HS.out)⟩
            · skip
              obtain rfl : cd = 3 := by
                rw [HCD.out, cutD]
                have hr := Hr.out
                have hq : m = countL ⟨wi, hi, true, ow, oh⟩ * (per : Int) := by rw [Hm.out, Hn.out]
                simp only [Bool.false_eq_true, if_false, if_true]
                rw [← hq]
                simp [hr, g1, g2]
              go_wp2_with (go_at_call 45; apply stop)
              refine on (HC2.out.mono ?_)
              rintro r wk ⟨rfl, h'⟩
              have k5 := h'.cell 5 rfl
              have k8 := h'.cell 8 rfl
              have k13 := h'.cell 13 rfl
              have k14 := h'.cell 14 rfl
              clear HS HC2 c0 c1 c2 c3 c4
              have HS := Lib.hid (h'.perm (star_left_comm _ _ _))
              clear h'
              go_wp2_with (go_at_call 25; refine (fail_any HS.out 3 (j := 3) rfl).mono ?_; rintro r wz ⟨rfl, h'⟩; have H9 := Lib.hid h'; clear h')
              go_end0
              exact ⟨_, _, rfl, HFIN.out _ H9.out⟩
          · skip
            obtain rfl : cd = 3 := by
              rw [HCD.out, cutD]
              have hr := Hr.out
              have hq : m = countL ⟨wi, hi, true, ow, oh⟩ * (per : Int) := by rw [Hm.out, Hn.out]
              simp only [Bool.false_eq_true, if_false, if_true]
              rw [← hq]
              simp [hr, g1]
            go_wp2_with (go_at_call 45; apply stop)
            refine on (HC2.out.mono ?_)
            rintro r wk ⟨rfl, h'⟩
            have k5 := h'.cell 5 rfl
            have k8 := h'.cell 8 rfl
            have k13 := h'.cell 13 rfl
            have k14 := h'.cell 14 rfl
            clear HS HC2 c0 c1 c2 c3 c4
            have HS := Lib.hid (h'.perm (star_left_comm _ _ _))
            clear h'
            go_wp2_with (go_at_call 25; refine (fail_any HS.out 3 (j := 3) rfl).mono ?_; rintro r wz ⟨rfl, h'⟩; have H9 := Lib.hid h'; clear h')
            go_end0
            exact ⟨_, _, rfl, HFIN.out _ H9.out⟩
      · rw [if_neg hr, if_neg hr] at HC
        have HC2 := Lib.hid HC
        obtain rfl : cd = 3 := by rw [HCD.out, cutD]; simp [hr]
        clear HC hr
        cases pl
        · skip
          go_wp2_with (go_at_call 45; apply stop)
          refine on (HC2.out.mono ?_)
          rintro r wk ⟨rfl, h'⟩
          have k5 := h'.cell 5 rfl
          have k8 := h'.cell 8 rfl
          have k13 := h'.cell 13 rfl
          have k14 := h'.cell 14 rfl
          clear HS HC2 c0 c1 c2 c3 c4
          have HS := Lib.hid (h'.perm (star_left_comm _ _ _))
          clear h'
          go_wp2_with (go_at_call 25; refine (fail_any HS.out 3 (j := 3) rfl).mono ?_; rintro r wz ⟨rfl, h'⟩; have H9 := Lib.hid h'; clear h')
          go_end0
          exact ⟨_, _, rfl, HFIN.out _ H9.out⟩
        · skip
          go_wp2_with (go_at_call 45; apply stop)
          refine on (HC2.out.mono ?_)
          rintro r wk ⟨rfl, h'⟩
          have k5 := h'.cell 5 rfl
          have k8 := h'.cell 8 rfl
          have k13 := h'.cell 13 rfl
          have k14 := h'.cell 14 rfl
          clear HS HC2 c0 c1 c2 c3 c4
          have HS := Lib.hid (h'.perm (star_left_comm _ _ _))
          clear h'
          go_wp2_with (go_at_call 25; refine (fail_any HS.out 3 (j := 3) rfl).mono ?_; rintro r wz ⟨rfl, h'⟩; have H9 := Lib.hid h'; clear h')
          go_end0
          exact ⟨_, _, rfl, HFIN.out _ H9.out⟩

    · have hot : offT (fl L) = 273 := by rw [offT, ht]; rfl
      have hct : cntT (fl L) = 279 := by rw [cntT, ht]; rfl
      obtain ⟨oh, hoh⟩ : ∃ oh, oh = oneV (fl L) 278 1 topN topN := ⟨_, rfl⟩
      have hob : oh ≤ 4294967295 := by have := (oneV_within (l := fl L) (t := 278) (least := 1) (most := topN) (without := topN) (by decide) (by decide)).2; unfold topN at *; omega
      obtain ⟨om, hom⟩ : ∃ om, om = min oh hi := ⟨_, rfl⟩
      have homl : om ≤ 32768 := by omega
      have hmin : (if hi < oh then (hi : Int) else (oh : Int)) = (om : Int) := by rw [hom]; split <;> omega
      have hly : layW (fl L) wi hi = ⟨wi, hi, false, wi, om⟩ := by rw [layW, ht, hom, hoh]; rfl
      have hle : layE (fl L) wi hi per pl = [oneE (fl L) 278 1 topN, needE (fl L) 273, needE (fl L) 279, cutD (layW (fl L) wi hi) per pl (needV (fl L) 273).length (needV (fl L) 279).length] := by rw [layE, ht, hot, hct]; rfl
      have Hly := Lib.hid hly; have Hle := Lib.hid hle; have Hot := Lib.hid hot; have Hct := Lib.hid hct; have Hoh := Lib.hid hoh
      clear hly hle hot hct hoh ht hom
      have HC := one_any HS.out (fun w h => HV.out w h.right) hL 278 1 topN topN (j := 278) (jl := 1) (jm := 4294967295) (jw := 4294967295) rfl rfl rfl rfl
      rw [← Hoh.out] at HC
      have HC2 := Lib.hid HC
      clear HC
      go_wp2_with (go_at_call 24; apply stop)
      refine on (HC2.out.mono ?_)
      rintro r w' ⟨rfl, h'⟩
      clear HS HC2
      have HS := Lib.hid h'
      clear h'
      have hb := HS.out.perm (star_left_comm _ _ _)
      have c4 := hb.cell 4 rfl
      have f4 := hb.free 4
      have HS2 := Lib.hid ((hb.set 4 (.int .i64 (om : Int))))
      clear hb HS
      have HS := Lib.hid (HS2.out.perm (star_left_comm _ _ _))
      clear HS2
      go_upto_region 8 with (fail)
      clear c4 f4
      have HC := Lib.hid (need_any HS.out (fun w h => HV.out w h.right) hL 273 (j := 273) rfl)
      go_wp2_with (go_at_call 23; apply stop)
      refine on (HC.out.mono ?_)
      rintro r w' ⟨rfl, h'⟩
      clear HS HC
      have HS := Lib.hid h'
      clear h'
      obtain ⟨an273, cn273, hn273⟩ := (needV_reads (HV.out _ HS.out.right.right) 273).sub
      rw [hn273]
      have Hn273 := Lib.hid hn273
      clear hn273
      have HC := HCL.out _ _ HS.out (fun w h => HV.out w h.right.right) 273
      rw [Hn273.out] at HC
      have HC2 := Lib.hid HC
      clear HC
      go_wp2_with (go_at_call 29; apply stop)
      refine on (HC2.out.mono ?_)
      rintro r w' ⟨vo, rfl, h'⟩
      clear HS HC2
      obtain ⟨ao, co, rfl⟩ := h'.reads.sub
      have HS := Lib.hid (h'.perm (star_left_comm _ _ _))
      clear h'
      have HC := Lib.hid (need_any HS.out (fun w h => HV.out w h.right.right) hL 279 (j := 279) rfl)
      go_wp2_with (go_at_call 23; apply stop)
      refine on (HC.out.mono ?_)
      rintro r w' ⟨rfl, h'⟩
      clear HS HC
      have HS := Lib.hid h'
      clear h'
      obtain ⟨an279, cn279, hn279⟩ := (needV_reads (HV.out _ HS.out.right.right.right) 279).sub
      rw [hn279]
      have Hn279 := Lib.hid hn279
      clear hn279
      have HC := HCL.out _ _ HS.out (fun w h => HV.out w h.right.right.right) 279
      rw [Hn279.out] at HC
      have HC2 := Lib.hid HC
      clear HC
      go_wp2_with (go_at_call 29; apply stop)
      refine on (HC2.out.mono ?_)
      rintro r w' ⟨vc, rfl, h'⟩
      clear HS HC2
      obtain ⟨ac, cc, rfl⟩ := h'.reads.sub
      have HS := Lib.hid (h'.perm (star_left_comm _ _ _))
      clear h'
      obtain ⟨no, hno⟩ : ∃ no, no = (needV (fl L) 273).length := ⟨_, rfl⟩
      obtain ⟨nc, hnc⟩ : ∃ nc, nc = (needV (fl L) 279).length := ⟨_, rfl⟩
      rw [← hno, ← hnc] at HS
      have Hno := Lib.hid hno; have Hnc := Lib.hid hnc
      rw [← hno, ← hnc]
      clear hno hnc
      have hb := HS.out.perm (show _ = blk gp _ * (tbl g v _ * (own 27 1 (.slice ao no co) no ((needV (fl L) 273).map u64v) * (own 27 1 (.slice ac nc cc) nc ((needV (fl L) 279).map u64v) * F))) by ac_rfl)
      clear HS
      have HS := Lib.hid hb
      clear hb
      have c13 := HS.out.cell 13 rfl
      have f13 := HS.out.free 13
      have c14 := HS.out.cell 14 rfl
      have f14 := HS.out.free 14
      have HS2 := Lib.hid ((HS.out.set 13 (.slice ao no co)).set 14 (.slice ac nc cc))
      clear HS
      go_upto_region 9 with (fail)
      clear c13 f13 c14 f14
      have HS : Hid (St w0 _ (blk gp (.cells #[.int .i64 (wi : Int), .int .i64 (hi : Int), .bool false, .int .i64 (wi : Int), .int .i64 (om : Int), .int .i64 (per : Int), v6, v7, .bool pl, v9, v10, v11, v12, .slice ao no co, .slice ac nc cc, v15] ty) * (tbl g v _ * (own 27 1 (.slice ao no co) no ((needV (fl L) 273).map u64v) * (own 27 1 (.slice ac nc cc) nc ((needV (fl L) 279).map u64v) * F))))) := HS2
      clear HS2
      generalize World.setCell _ _ _ = wq at *
      have c0 := HS.out.cell 0 rfl
      have c1 := HS.out.cell 1 rfl
      have c2 := HS.out.cell 2 rfl
      have c3 := HS.out.cell 3 rfl
      have c4 := HS.out.cell 4 rfl
      obtain ⟨E, hE⟩ : ∃ E, E = orE (orE (orE (e) (oneE (fl L) 278 1 topN)) (needE (fl L) 273)) (needE (fl L) 279) := ⟨_, rfl⟩
      obtain ⟨cd, hcd⟩ : ∃ cd, cd = cutD ⟨wi, hi, false, wi, om⟩ per pl no nc := ⟨_, rfl⟩
      have HCD := Lib.hid hcd
      clear hcd
      have HFIN := Lib.hid (fun (w' : World) (h : St w0 w' (tbl g v (orE E cd) * (blk gp (.cells #[.int .i64 (wi : Int), .int .i64 (hi : Int), .bool false, .int .i64 (wi : Int), .int .i64 (om : Int), .int .i64 (per : Int), v6, v7, .bool pl, v9, v10, v11, v12, .slice ao no co, .slice ac nc cc, v15] ty) * (own 27 1 (.slice ao no co) no ((needV (fl L) 273).map u64v) * (own 27 1 (.slice ac nc cc) nc ((needV (fl L) 279).map u64v) * F))))) => (show St w0 w' (tbl g v ((layE (fl L) wi hi per pl).foldl orE e) * (blk gp (.cells #[.int .i64 (layW (fl L) wi hi).width, .int .i64 (layW (fl L) wi hi).height, .bool (layW (fl L) wi hi).tiled, .int .i64 (layW (fl L) wi hi).w, .int .i64 (layW (fl L) wi hi).h, .int .i64 (per : Int), v6, v7, .bool pl, v9, v10, v11, v12, .slice ao no co, .slice ac nc cc, v15] ty) * (own 27 1 (.slice ao no co) (needV (fl L) (offT (fl L))).length ((needV (fl L) (offT (fl L))).map u64v) * (own 27 1 (.slice ac nc cc) (needV (fl L) (cntT (fl L))).length ((needV (fl L) (cntT (fl L))).map u64v) * F)))) by
        rw [Hot.out, Hct.out, Hle.out, Hly.out, ← Hno.out, ← Hnc.out]
        rw [hE, HCD.out] at h
        exact h))
      rw [← hE] at HS
      clear hE Hle Hly Hot Hct HNE HON HCL
      have HC := count_any HS.out ⟨wi, hi, false, wi, om⟩
      by_cases hr : rightL ⟨wi, hi, false, wi, om⟩
      · rw [if_pos hr, if_pos hr] at HC
        have hcl := countL_le hr
        obtain ⟨n, hn⟩ : ∃ n, n = countL ⟨wi, hi, false, wi, om⟩ := ⟨_, rfl⟩
        rw [← hn] at HC hcl
        have Hn := Lib.hid hn
        obtain ⟨n1, n2⟩ := hcl
        have Hr := Lib.hid hr
        have HC2 := Lib.hid HC
        clear HC hn hr
        cases pl
        · skip
          by_cases g1 : (no : Int) = n
          · skip
            by_cases g2 : (nc : Int) = n
            · skip
              obtain rfl : cd = 0 := by
                rw [HCD.out, cutD]
                have hr := Hr.out
                have hq : n = countL ⟨wi, hi, false, wi, om⟩ := by rw [Hn.out]
                simp only [Bool.false_eq_true, if_false, if_true]
                rw [← hq]
                simp [hr, g1, g2]
              go_wp2_with (go_at_call 45; apply stop)
              refine on (HC2.out.mono ?_)
              rintro r wk ⟨rfl, h'⟩
              have k5 := h'.cell 5 rfl
              have k8 := h'.cell 8 rfl
              have k13 := h'.cell 13 rfl
              have k14 := h'.cell 14 rfl
              clear HS HC2 c0 c1 c2 c3 c4
              have HS := Lib.hid (h'.perm (star_left_comm _ _ _))
              clear h'
              go_wp2_with fail
              go_end0
              exact ⟨_, _, rfl, HFIN.out _ (by rw [orE_nil]; exact HS.out)⟩
            · skip
              obtain rfl : cd = 3 := by
                rw [HCD.out, cutD]
                have hr := Hr.out
                have hq : n = countL ⟨wi, hi, false, wi, om⟩ := by rw [Hn.out]
                simp only [Bool.false_eq_true, if_false, if_true]
                rw [← hq]
                simp [hr, g1, g2]
              go_wp2_with (go_at_call 45; apply stop)
              refine on (HC2.out.mono ?_)
              rintro r wk ⟨rfl, h'⟩
              have k5 := h'.cell 5 rfl
              have k8 := h'.cell 8 rfl
              have k13 := h'.cell 13 rfl
              have k14 := h'.cell 14 rfl
              clear HS HC2 c0 c1 c2 c3 c4
              have HS := Lib.hid (h'.perm (star_left_comm _ _ _))
              clear h'
              go_wp2_with (go_at_call 25; refine (fail_any HS.out 3 (j := 3) rfl).mono ?_; rintro r wz ⟨rfl, h'⟩; have H9 := Lib.hid h'; clear h')
              go_end0
              exact ⟨_, _, rfl, HFIN.out _ H9.out⟩
          · skip
            obtain rfl : cd = 3 := by
              rw [HCD.out, cutD]
              have hr := Hr.out
              have hq : n = countL ⟨wi, hi, false, wi, om⟩ := by rw [Hn.out]
              simp only [Bool.false_eq_true, if_false, if_true]
              rw [← hq]
              simp [hr, g1]
            go_wp2_with (go_at_call 45; apply stop)
            refine on (HC2.out.mono ?_)
            rintro r wk ⟨rfl, h'⟩
            have k5 := h'.cell 5 rfl
            have k8 := h'.cell 8 rfl
            have k13 := h'.cell 13 rfl
            have k14 := h'.cell 14 rfl
            clear HS HC2 c0 c1 c2 c3 c4
            have HS := Lib.hid (h'.perm (star_left_comm _ _ _))
            clear h'
            go_wp2_with (go_at_call 25; refine (fail_any HS.out 3 (j := 3) rfl).mono ?_; rintro r wz ⟨rfl, h'⟩; have H9 := Lib.hid h'; clear h')
            go_end0
            exact ⟨_, _, rfl, HFIN.out _ H9.out⟩
        · skip
          obtain ⟨m, hm⟩ : ∃ m, m = n * (per : Int) := ⟨_, rfl⟩
          have m0 : 0 ≤ m := by rw [hm]; exact Int.mul_nonneg (by omega) (by omega)
          have m9 : m ≤ 8589934592 := by
            rw [hm]
            exact Int.le_trans (Int.mul_le_mul n2 (show (per : Int) ≤ 8 by omega) (by omega) (by omega)) (by decide)
          have hwm : IntKind.i64.wrap (n * (per : Int)) = m := by rw [← hm]; exact IntWalk.i64_in _ (by omega)
          have Hm := Lib.hid hm
          clear hm
          by_cases g1 : (no : Int) = m
          · skip
            by_cases g2 : (nc : Int) = m
            · skip
              obtain rfl : cd = 0 := by
                rw [HCD.out, cutD]
                have hr := Hr.out
                have hq : m = countL ⟨wi, hi, false, wi, om⟩ * (per : Int) := by rw [Hm.out, Hn.out]
                simp only [Bool.false_eq_true, if_false, if_true]
                rw [← hq]
                simp [hr, g1, g2]
              go_wp2_with (go_at_call 45; apply stop)
              refine on (HC2.out.mono ?_)
              rintro r wk ⟨rfl, h'⟩
              have k5 := h'.cell 5 rfl
              have k8 := h'.cell 8 rfl
              have k13 := h'.cell 13 rfl
              have k14 := h'.cell 14 rfl
              clear HS HC2 c0 c1 c2 c3 c4
              have HS := Lib.hid (h'.perm (star_left_comm _ _ _))
              clear h'
              go_wp2_with fail
              go_end0
              exact ⟨_, _, rfl, HFIN.out _ (by rw [orE_nil]; exact HS.out)⟩
            · skip
              obtain rfl : cd = 3 := by
                rw [HCD.out, cutD]
                have hr := Hr.out
                have hq : m = countL ⟨wi, hi, false, wi, om⟩ * (per : Int) := by rw [Hm.out, Hn.out]
                simp only [Bool.false_eq_true, if_false, if_true]
                rw [← hq]
                simp [hr, g1, g2]
              go_wp2_with (go_at_call 45; apply stop)
              refine on (HC2.out.mono ?_)
              rintro r wk ⟨rfl, h'⟩
              have k5 := h'.cell 5 rfl
              have k8 := h'.cell 8 rfl
              have k13 := h'.cell 13 rfl
              have k14 := h'.cell 14 rfl
              clear HS HC2 c0 c1 c2 c3 c4
              have HS := Lib.hid (h'.perm (star_left_comm _ _ _))
              clear h'
              go_wp2_with (go_at_call 25; refine (fail_any HS.out 3 (j := 3) rfl).mono ?_; rintro r wz ⟨rfl, h'⟩; have H9 := Lib.hid h'; clear h')
              go_end0
              exact ⟨_, _, rfl, HFIN.out _ H9.out⟩
          · skip
            obtain rfl : cd = 3 := by
              rw [HCD.out, cutD]
              have hr := Hr.out
              have hq : m = countL ⟨wi, hi, false, wi, om⟩ * (per : Int) := by rw [Hm.out, Hn.out]
              simp only [Bool.false_eq_true, if_false, if_true]
              rw [← hq]
              simp [hr, g1]
            go_wp2_with (go_at_call 45; apply stop)
            refine on (HC2.out.mono ?_)
            rintro r wk ⟨rfl, h'⟩
            have k5 := h'.cell 5 rfl
            have k8 := h'.cell 8 rfl
            have k13 := h'.cell 13 rfl
            have k14 := h'.cell 14 rfl
            clear HS HC2 c0 c1 c2 c3 c4
            have HS := Lib.hid (h'.perm (star_left_comm _ _ _))
            clear h'
            go_wp2_with (go_at_call 25; refine (fail_any HS.out 3 (j := 3) rfl).mono ?_; rintro r wz ⟨rfl, h'⟩; have H9 := Lib.hid h'; clear h')
            go_end0
            exact ⟨_, _, rfl, HFIN.out _ H9.out⟩
      · rw [if_neg hr, if_neg hr] at HC
        have HC2 := Lib.hid HC
        obtain rfl : cd = 3 := by rw [HCD.out, cutD]; simp [hr]
        clear HC hr
        cases pl
        · skip
          go_wp2_with (go_at_call 45; apply stop)
          refine on (HC2.out.mono ?_)
          rintro r wk ⟨rfl, h'⟩
          have k5 := h'.cell 5 rfl
          have k8 := h'.cell 8 rfl
          have k13 := h'.cell 13 rfl
          have k14 := h'.cell 14 rfl
          clear HS HC2 c0 c1 c2 c3 c4
          have HS := Lib.hid (h'.perm (star_left_comm _ _ _))
          clear h'
          go_wp2_with (go_at_call 25; refine (fail_any HS.out 3 (j := 3) rfl).mono ?_; rintro r wz ⟨rfl, h'⟩; have H9 := Lib.hid h'; clear h')
          go_end0
          exact ⟨_, _, rfl, HFIN.out _ H9.out⟩
        · skip
          go_wp2_with (go_at_call 45; apply stop)
          refine on (HC2.out.mono ?_)
          rintro r wk ⟨rfl, h'⟩
          have k5 := h'.cell 5 rfl
          have k8 := h'.cell 8 rfl
          have k13 := h'.cell 13 rfl
          have k14 := h'.cell 14 rfl
          clear HS HC2 c0 c1 c2 c3 c4
          have HS := Lib.hid (h'.perm (star_left_comm _ _ _))
          clear h'
          go_wp2_with (go_at_call 25; refine (fail_any HS.out 3 (j := 3) rfl).mono ?_; rintro r wz ⟨rfl, h'⟩; have H9 := Lib.hid h'; clear h')
          go_end0
          exact ⟨_, _, rfl, HFIN.out _ H9.out⟩
end Go.Proofs.Ythoegjdkeooenaa
