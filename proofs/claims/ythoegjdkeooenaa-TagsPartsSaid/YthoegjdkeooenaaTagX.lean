/-
  Layer 23: what belongs to schemes of white and black, taken of the table of fields (package tags).
-/
import Derived.Test.YthoegjdkeooenaaTagL
import Derived.Laws.BitsAllLaws
namespace Go.Proofs.Ythoegjdkeooenaa
open Go.RowKit Go.Mz
set_option linter.unusedVariables false
set_option linter.unusedSimpArgs false
set_option maxRecDepth 100000

theorem nand2 (a : Nat) : a &&& 2 = a / 2 % 2 * 2 := by
  have h1 : (a &&& 2) % 2 = 0 := by
    have := Nat.and_mod_two_pow (a := a) (b := 2) (n := 1)
    rw [Nat.pow_one] at this
    rw [this]; simp
  have h2 : (a &&& 2) / 2 = a / 2 % 2 := by
    have := Nat.shiftRight_and_distrib (a := a) (b := 2) (i := 1)
    rw [Nat.shiftRight_eq_div_pow, Nat.shiftRight_eq_div_pow, Nat.pow_one] at this
    rw [this]; exact Nat.and_one_is_mod _
  omega
theorem nand1 (a : Nat) : a &&& 1 = a % 2 := Nat.and_one_is_mod a
theorem bw2 (a : Nat) (h : a < 18446744073709551616) : bits .and .u64 (a : Int) 2 = ((a / 2 % 2 * 2 : Nat) : Int) := by
  have := u64_and_nat a 2 h (by decide); rw [nand2] at this; exact this
theorem bw1 (a : Nat) (h : a < 18446744073709551616) : bits .and .u64 (a : Int) 1 = ((a % 2 : Nat) : Int) := by
  have := u64_and_nat a 1 h (by decide); rw [nand1] at this; exact this

/-- What is wrong with options, for a scheme. -/
def faxD (a b : Nat) (sch per bts : Int) (pr : Bool) : Nat :=
  if (sch = 3 ∧ a / 2 % 2 = 1) ∨ (sch = 4 ∧ b / 2 % 2 = 1) then 9
  else if (faxN sch = true ∧ (per ≠ 1 ∨ bts ≠ 1)) ∨ (pr = true ∧ predB sch bts = false) then 3 else 0

set_option maxHeartbeats 40000000 in
theorem tfax_any {w0 w : World} {F : SProp} {g e gp : Nat} {v : Value} {L : List FV} {v0 v1 v2 v3 v4 v7 v8 v11 v13 v14 v15 : Value} {per bts sch : Int} {pr tw : Bool} {ty : TypeId}
    (h : St w0 w (tbl g v e * (blk gp (.cells #[v0, v1, v2, v3, v4, .int .i64 per, .int .i64 bts, v7, v8, .int .i64 sch, .bool pr, v11, .bool tw, v13, v14, v15] ty) * F))) (hv : Stb w0 F (fun w => FldsR w v L)) (hL : L.length ≤ 1000000) :
    Calls Try.prog 27 #[.pointer (some ⟨g, 0, none⟩), .pointer (some ⟨gp, 0, none⟩)] w fun r w' => r = .returned (.tuple #[]) ∧
      St w0 w' (tbl g v (orE (orE (orE e (oneE (fl L) 292 0 topN)) (oneE (fl L) 293 0 topN)) (faxD (aV (fl L)) (bV (fl L)) sch per bts pr)) *
        (blk gp (.cells #[v0, v1, v2, v3, v4, .int .i64 per, .int .i64 bts, v7, v8, .int .i64 sch, .bool pr, v11, .bool (sch == 3 && aV (fl L) % 2 == 1), v13, v14, v15] ty) * F)) := by
  have hv2 : Stb w0 (blk gp (.cells #[v0, v1, v2, v3, v4, .int .i64 per, .int .i64 bts, v7, v8, .int .i64 sch, .bool pr, v11, .bool tw, v13, v14, v15] ty) * F) (fun w => FldsR w v L) := fun w h => hv w h.right
  have HO1 := Lib.hid (one_any h hv2 hL 292 0 topN 0 (j := 292) (jl := 0) (jm := 4294967295) (jw := 0) rfl rfl rfl rfl)
  have HO2 := Lib.hid (fun (w : World) (e : Nat) (h : St w0 w (tbl g v e * (blk gp (.cells #[v0, v1, v2, v3, v4, .int .i64 per, .int .i64 bts, v7, v8, .int .i64 sch, .bool pr, v11, .bool tw, v13, v14, v15] ty) * F))) => one_any h hv2 hL 293 0 topN 0 (j := 293) (jl := 0) (jm := 4294967295) (jw := 0) rfl rfl rfl rfl)
  have HFL := Lib.hid (fun (w : World) (e x : Nat) (h : St w0 w (tbl g v e * (blk gp (.cells #[v0, v1, v2, v3, v4, .int .i64 per, .int .i64 bts, v7, v8, .int .i64 sch, .bool pr, v11, .bool tw, v13, v14, v15] ty) * F))) => fail_any h x rfl)
  have ha : aV (fl L) < 18446744073709551616 := by
    have := (oneV_within (l := fl L) (t := 292) (least := 0) (most := topN) (without := 0) (by decide) (by decide)).2
    unfold aV; unfold topN at *; omega
  have hb : bV (fl L) < 18446744073709551616 := by
    have := (oneV_within (l := fl L) (t := 293) (least := 0) (most := topN) (without := 0) (by decide) (by decide)).2
    unfold bV; unfold topN at *; omega
  rw [show oneV (fl L) 292 0 topN 0 = aV (fl L) from rfl] at HO1
  rw [show oneV (fl L) 293 0 topN 0 = bV (fl L) from rfl] at HO2
  have ha2 := bw2 _ ha
  have hb2 := bw2 _ hb
  have ha1 := bw1 _ ha
  obtain ⟨fd, hfd⟩ : ∃ fd, fd = faxD (aV (fl L)) (bV (fl L)) sch per bts pr := ⟨_, rfl⟩
  obtain ⟨tf, htf⟩ : ∃ tf, tf = (sch == 3 && aV (fl L) % 2 == 1) := ⟨_, rfl⟩
  rw [← hfd, ← htf]
  clear ha hb hv2
  generalize aV (fl L) = a at *
  generalize bV (fl L) = b at *
  generalize oneE (fl L) 292 0 topN = e1 at *
  generalize oneE (fl L) 293 0 topN = e2 at *
  have HFD := Lib.hid hfd; have HTF := Lib.hid htf
  clear h hfd htf
  go_enter Try.func27, Try.ntmps27
  go_wp2_with (first | (go_at_call_of 24 (Value.int .u16 293); refine (HO2.out _ _ H1.out).mono ?_; rintro r w2 ⟨rfl, h2⟩; have H2 := Lib.hid h2; clear h2; apply stop) | (go_at_call 24; refine HO1.out.mono ?_; rintro r w1 ⟨rfl, h1⟩; have H1 := Lib.hid h1; clear h1))
  refine on ?_
  have HPD := Lib.hid (fun w => predicts_any sch bts w)
  by_cases s3 : sch = 3
  · subst s3
    obtain rfl : tf = (((a % 2 : Nat) : Int) == ((1 : Nat) : Int)) := by rw [HTF.out, cast_beq]; rfl
    have hb9 := H2.out.perm (star_left_comm _ _ _)
    have c5 := hb9.cell 5 rfl
    have c6 := hb9.cell 6 rfl
    have c9 := hb9.cell 9 rfl
    have c10 := hb9.cell 10 rfl
    have c12 := hb9.cell 12 rfl
    have f12 := hb9.free 12
    have HST := Lib.hid ((hb9.set 12 (.bool ((((a % 2 : Nat) : Int) == ((1 : Nat) : Int))))).perm (star_left_comm _ _ _))
    clear hb9
    rcases Nat.mod_two_eq_zero_or_one (a / 2) with x2 | x2
    · rw [x2] at ha2
      have HFX : Hid (∀ w, Calls Try.prog 19 #[.int .i64 3] w fun r w' => r = .returned (.bool true) ∧ w' = w) := Lib.hid (fun w => fax_any 3 w)
      have HPX : Hid (∀ b w, Calls Try.prog 49 #[.int .i64 3, .int .i64 b] w fun r w' => r = .returned (.bool false) ∧ w' = w) := Lib.hid (fun b w => predicts_any 3 b w)
      by_cases p1 : per = 1
      · subst p1
        by_cases b1 : bts = 1
        · subst b1
          cases pr
          · skip
            obtain rfl : fd = 0 := by rw [HFD.out]; unfold faxD; first | (simp [*]; done) | (simp [faxN, predB, *]; done)
            try clear x2
            clear hv hL
            go_wp2_with fail
            go_quiet (first | (go_at_call 19; exact Calls.quiet_of_same (HFX.out _)) | (go_at_call 49; exact Calls.quiet_of_same (HPX.out _ _)))
            have HD := Lib.hid (H2.out.drewN nq)
            have HST2 := Lib.hid (((HD.out.perm (star_left_comm _ _ _)).set 12 (.bool ((((a % 2 : Nat) : Int) == ((1 : Nat) : Int))))).perm (star_left_comm _ _ _))
            go_wp2_with fail
            go_end0
            exact ⟨rfl, by first | exact HST2.out | (rw [orE_nil]; exact HST2.out)⟩
          · skip
            obtain rfl : fd = 3 := by rw [HFD.out]; unfold faxD; first | (simp [*]; done) | (simp [faxN, predB, *]; done)
            try clear x2
            clear hv hL
            go_wp2_with fail
            go_quiet (first | (go_at_call 19; exact Calls.quiet_of_same (HFX.out _)) | (go_at_call 49; exact Calls.quiet_of_same (HPX.out _ _)))
            have HD := Lib.hid (H2.out.drewN nq)
            clear c5 c6 c9 c10 c12 f12 HST
            go_wp2_with (go_at_call 25; refine (HFL.out _ _ 3 HD.out).mono ?_; rintro r w3 ⟨rfl, h3⟩; have H3 := Lib.hid h3; clear h3; apply stop)
            refine on ?_
            have hb9 := H3.out.perm (star_left_comm _ _ _)
            have c5 := hb9.cell 5 rfl
            have c6 := hb9.cell 6 rfl
            have c9 := hb9.cell 9 rfl
            have c10 := hb9.cell 10 rfl
            have c12 := hb9.cell 12 rfl
            have f12 := hb9.free 12
            have HST := Lib.hid ((hb9.set 12 (.bool ((((a % 2 : Nat) : Int) == ((1 : Nat) : Int))))).perm (star_left_comm _ _ _))
            clear hb9
            go_wp2_with fail
            go_end0
            exact ⟨rfl, by first | exact HST.out | (rw [orE_nil]; exact HST.out)⟩
        · have hq : (bts != 1) = true := by simpa using b1
          obtain rfl : fd = 3 := by rw [HFD.out]; unfold faxD; first | (simp [*]; done) | (simp [faxN, predB, *]; done)
          try clear x2
          clear hv hL
          go_wp2_with fail
          go_quiet (first | (go_at_call 19; exact Calls.quiet_of_same (HFX.out _)) | (go_at_call 49; exact Calls.quiet_of_same (HPX.out _ _)))
          have HD := Lib.hid (H2.out.drewN nq)
          clear c5 c6 c9 c10 c12 f12 HST
          go_wp2_with (go_at_call 25; refine (HFL.out _ _ 3 HD.out).mono ?_; rintro r w3 ⟨rfl, h3⟩; have H3 := Lib.hid h3; clear h3; apply stop)
          refine on ?_
          have hb9 := H3.out.perm (star_left_comm _ _ _)
          have c5 := hb9.cell 5 rfl
          have c6 := hb9.cell 6 rfl
          have c9 := hb9.cell 9 rfl
          have c10 := hb9.cell 10 rfl
          have c12 := hb9.cell 12 rfl
          have f12 := hb9.free 12
          have HST := Lib.hid ((hb9.set 12 (.bool ((((a % 2 : Nat) : Int) == ((1 : Nat) : Int))))).perm (star_left_comm _ _ _))
          clear hb9
          go_wp2_with fail
          go_end0
          exact ⟨rfl, by first | exact HST.out | (rw [orE_nil]; exact HST.out)⟩
      · have hq : (per != 1) = true := by simpa using p1
        obtain rfl : fd = 3 := by rw [HFD.out]; unfold faxD; first | (simp [*]; done) | (simp [faxN, predB, *]; done)
        try clear x2
        clear hv hL
        go_wp2_with fail
        go_quiet (first | (go_at_call 19; exact Calls.quiet_of_same (HFX.out _)) | (go_at_call 49; exact Calls.quiet_of_same (HPX.out _ _)))
        have HD := Lib.hid (H2.out.drewN nq)
        clear c5 c6 c9 c10 c12 f12 HST
        go_wp2_with (go_at_call 25; refine (HFL.out _ _ 3 HD.out).mono ?_; rintro r w3 ⟨rfl, h3⟩; have H3 := Lib.hid h3; clear h3; apply stop)
        refine on ?_
        have hb9 := H3.out.perm (star_left_comm _ _ _)
        have c5 := hb9.cell 5 rfl
        have c6 := hb9.cell 6 rfl
        have c9 := hb9.cell 9 rfl
        have c10 := hb9.cell 10 rfl
        have c12 := hb9.cell 12 rfl
        have f12 := hb9.free 12
        have HST := Lib.hid ((hb9.set 12 (.bool ((((a % 2 : Nat) : Int) == ((1 : Nat) : Int))))).perm (star_left_comm _ _ _))
        clear hb9
        go_wp2_with fail
        go_end0
        exact ⟨rfl, by first | exact HST.out | (rw [orE_nil]; exact HST.out)⟩
    · rw [x2] at ha2
      obtain rfl : fd = 9 := by rw [HFD.out]; unfold faxD; first | (simp [*]; done) | (simp [faxN, predB, *]; done)
      go_wp2_with (go_at_call 25; refine (HFL.out _ _ 9 H2.out).mono ?_; rintro r w3 ⟨rfl, h3⟩; have H3 := Lib.hid h3; clear h3; apply stop)
      refine on ?_
      clear c5 c6 c9 c10 c12 f12 HST
      have hb9 := H3.out.perm (star_left_comm _ _ _)
      have c5 := hb9.cell 5 rfl
      have c6 := hb9.cell 6 rfl
      have c9 := hb9.cell 9 rfl
      have c10 := hb9.cell 10 rfl
      have c12 := hb9.cell 12 rfl
      have f12 := hb9.free 12
      have HST := Lib.hid ((hb9.set 12 (.bool ((((a % 2 : Nat) : Int) == ((1 : Nat) : Int))))).perm (star_left_comm _ _ _))
      clear hb9
      go_wp2_with fail
      go_end0
      exact ⟨rfl, by first | exact HST.out | (rw [orE_nil]; exact HST.out)⟩
  obtain rfl : tf = false := by rw [HTF.out]; simp [s3]
  have hb9 := H2.out.perm (star_left_comm _ _ _)
  have c5 := hb9.cell 5 rfl
  have c6 := hb9.cell 6 rfl
  have c9 := hb9.cell 9 rfl
  have c10 := hb9.cell 10 rfl
  have c12 := hb9.cell 12 rfl
  have f12 := hb9.free 12
  have HST := Lib.hid ((hb9.set 12 (.bool false)).perm (star_left_comm _ _ _))
  clear hb9
  by_cases s4 : sch = 4
  · subst s4
    rcases Nat.mod_two_eq_zero_or_one (b / 2) with x2 | x2
    · rw [x2] at hb2
      have HFX : Hid (∀ w, Calls Try.prog 19 #[.int .i64 4] w fun r w' => r = .returned (.bool true) ∧ w' = w) := Lib.hid (fun w => fax_any 4 w)
      have HPX : Hid (∀ b w, Calls Try.prog 49 #[.int .i64 4, .int .i64 b] w fun r w' => r = .returned (.bool false) ∧ w' = w) := Lib.hid (fun b w => predicts_any 4 b w)
      by_cases p1 : per = 1
      · subst p1
        by_cases b1 : bts = 1
        · subst b1
          cases pr
          · skip
            obtain rfl : fd = 0 := by rw [HFD.out]; unfold faxD; first | (simp [*]; done) | (simp [faxN, predB, *]; done)
            try clear x2
            clear hv hL
            go_wp2_with fail
            go_quiet (first | (go_at_call 19; exact Calls.quiet_of_same (HFX.out _)) | (go_at_call 49; exact Calls.quiet_of_same (HPX.out _ _)))
            have HD := Lib.hid (H2.out.drewN nq)
            have HST2 := Lib.hid (((HD.out.perm (star_left_comm _ _ _)).set 12 (.bool false)).perm (star_left_comm _ _ _))
            go_wp2_with fail
            go_end0
            exact ⟨rfl, by first | exact HST2.out | (rw [orE_nil]; exact HST2.out)⟩
          · skip
            obtain rfl : fd = 3 := by rw [HFD.out]; unfold faxD; first | (simp [*]; done) | (simp [faxN, predB, *]; done)
            try clear x2
            clear hv hL
            go_wp2_with fail
            go_quiet (first | (go_at_call 19; exact Calls.quiet_of_same (HFX.out _)) | (go_at_call 49; exact Calls.quiet_of_same (HPX.out _ _)))
            have HD := Lib.hid (H2.out.drewN nq)
            clear c5 c6 c9 c10 c12 f12 HST
            go_wp2_with (go_at_call 25; refine (HFL.out _ _ 3 HD.out).mono ?_; rintro r w3 ⟨rfl, h3⟩; have H3 := Lib.hid h3; clear h3; apply stop)
            refine on ?_
            have hb9 := H3.out.perm (star_left_comm _ _ _)
            have c5 := hb9.cell 5 rfl
            have c6 := hb9.cell 6 rfl
            have c9 := hb9.cell 9 rfl
            have c10 := hb9.cell 10 rfl
            have c12 := hb9.cell 12 rfl
            have f12 := hb9.free 12
            have HST := Lib.hid ((hb9.set 12 (.bool false)).perm (star_left_comm _ _ _))
            clear hb9
            go_wp2_with fail
            go_end0
            exact ⟨rfl, by first | exact HST.out | (rw [orE_nil]; exact HST.out)⟩
        · have hq : (bts != 1) = true := by simpa using b1
          obtain rfl : fd = 3 := by rw [HFD.out]; unfold faxD; first | (simp [*]; done) | (simp [faxN, predB, *]; done)
          try clear x2
          clear hv hL
          go_wp2_with fail
          go_quiet (first | (go_at_call 19; exact Calls.quiet_of_same (HFX.out _)) | (go_at_call 49; exact Calls.quiet_of_same (HPX.out _ _)))
          have HD := Lib.hid (H2.out.drewN nq)
          clear c5 c6 c9 c10 c12 f12 HST
          go_wp2_with (go_at_call 25; refine (HFL.out _ _ 3 HD.out).mono ?_; rintro r w3 ⟨rfl, h3⟩; have H3 := Lib.hid h3; clear h3; apply stop)
          refine on ?_
          have hb9 := H3.out.perm (star_left_comm _ _ _)
          have c5 := hb9.cell 5 rfl
          have c6 := hb9.cell 6 rfl
          have c9 := hb9.cell 9 rfl
          have c10 := hb9.cell 10 rfl
          have c12 := hb9.cell 12 rfl
          have f12 := hb9.free 12
          have HST := Lib.hid ((hb9.set 12 (.bool false)).perm (star_left_comm _ _ _))
          clear hb9
          go_wp2_with fail
          go_end0
          exact ⟨rfl, by first | exact HST.out | (rw [orE_nil]; exact HST.out)⟩
      · have hq : (per != 1) = true := by simpa using p1
        obtain rfl : fd = 3 := by rw [HFD.out]; unfold faxD; first | (simp [*]; done) | (simp [faxN, predB, *]; done)
        try clear x2
        clear hv hL
        go_wp2_with fail
        go_quiet (first | (go_at_call 19; exact Calls.quiet_of_same (HFX.out _)) | (go_at_call 49; exact Calls.quiet_of_same (HPX.out _ _)))
        have HD := Lib.hid (H2.out.drewN nq)
        clear c5 c6 c9 c10 c12 f12 HST
        go_wp2_with (go_at_call 25; refine (HFL.out _ _ 3 HD.out).mono ?_; rintro r w3 ⟨rfl, h3⟩; have H3 := Lib.hid h3; clear h3; apply stop)
        refine on ?_
        have hb9 := H3.out.perm (star_left_comm _ _ _)
        have c5 := hb9.cell 5 rfl
        have c6 := hb9.cell 6 rfl
        have c9 := hb9.cell 9 rfl
        have c10 := hb9.cell 10 rfl
        have c12 := hb9.cell 12 rfl
        have f12 := hb9.free 12
        have HST := Lib.hid ((hb9.set 12 (.bool false)).perm (star_left_comm _ _ _))
        clear hb9
        go_wp2_with fail
        go_end0
        exact ⟨rfl, by first | exact HST.out | (rw [orE_nil]; exact HST.out)⟩
    · rw [x2] at hb2
      obtain rfl : fd = 9 := by rw [HFD.out]; unfold faxD; first | (simp [*]; done) | (simp [faxN, predB, *]; done)
      go_wp2_with (go_at_call 25; refine (HFL.out _ _ 9 H2.out).mono ?_; rintro r w3 ⟨rfl, h3⟩; have H3 := Lib.hid h3; clear h3; apply stop)
      refine on ?_
      clear c5 c6 c9 c10 c12 f12 HST
      have hb9 := H3.out.perm (star_left_comm _ _ _)
      have c5 := hb9.cell 5 rfl
      have c6 := hb9.cell 6 rfl
      have c9 := hb9.cell 9 rfl
      have c10 := hb9.cell 10 rfl
      have c12 := hb9.cell 12 rfl
      have f12 := hb9.free 12
      have HST := Lib.hid ((hb9.set 12 (.bool false)).perm (star_left_comm _ _ _))
      clear hb9
      go_wp2_with fail
      go_end0
      exact ⟨rfl, by first | exact HST.out | (rw [orE_nil]; exact HST.out)⟩
  by_cases s2 : sch = 2
  · subst s2
    have HFX : Hid (∀ w, Calls Try.prog 19 #[.int .i64 2] w fun r w' => r = .returned (.bool true) ∧ w' = w) := Lib.hid (fun w => fax_any 2 w)
    have HPX : Hid (∀ b w, Calls Try.prog 49 #[.int .i64 2, .int .i64 b] w fun r w' => r = .returned (.bool false) ∧ w' = w) := Lib.hid (fun b w => predicts_any 2 b w)
    by_cases p1 : per = 1
    · subst p1
      by_cases b1 : bts = 1
      · subst b1
        cases pr
        · skip
          obtain rfl : fd = 0 := by rw [HFD.out]; unfold faxD; first | (simp [*]; done) | (simp [faxN, predB, *]; done)
          try clear x2
          clear hv hL
          go_wp2_with fail
          go_quiet (first | (go_at_call 19; exact Calls.quiet_of_same (HFX.out _)) | (go_at_call 49; exact Calls.quiet_of_same (HPX.out _ _)))
          have HD := Lib.hid (H2.out.drewN nq)
          have HST2 := Lib.hid (((HD.out.perm (star_left_comm _ _ _)).set 12 (.bool false)).perm (star_left_comm _ _ _))
          go_wp2_with fail
          go_end0
          exact ⟨rfl, by first | exact HST2.out | (rw [orE_nil]; exact HST2.out)⟩
        · skip
          obtain rfl : fd = 3 := by rw [HFD.out]; unfold faxD; first | (simp [*]; done) | (simp [faxN, predB, *]; done)
          try clear x2
          clear hv hL
          go_wp2_with fail
          go_quiet (first | (go_at_call 19; exact Calls.quiet_of_same (HFX.out _)) | (go_at_call 49; exact Calls.quiet_of_same (HPX.out _ _)))
          have HD := Lib.hid (H2.out.drewN nq)
          clear c5 c6 c9 c10 c12 f12 HST
          go_wp2_with (go_at_call 25; refine (HFL.out _ _ 3 HD.out).mono ?_; rintro r w3 ⟨rfl, h3⟩; have H3 := Lib.hid h3; clear h3; apply stop)
          refine on ?_
          have hb9 := H3.out.perm (star_left_comm _ _ _)
          have c5 := hb9.cell 5 rfl
          have c6 := hb9.cell 6 rfl
          have c9 := hb9.cell 9 rfl
          have c10 := hb9.cell 10 rfl
          have c12 := hb9.cell 12 rfl
          have f12 := hb9.free 12
          have HST := Lib.hid ((hb9.set 12 (.bool false)).perm (star_left_comm _ _ _))
          clear hb9
          go_wp2_with fail
          go_end0
          exact ⟨rfl, by first | exact HST.out | (rw [orE_nil]; exact HST.out)⟩
      · have hq : (bts != 1) = true := by simpa using b1
        obtain rfl : fd = 3 := by rw [HFD.out]; unfold faxD; first | (simp [*]; done) | (simp [faxN, predB, *]; done)
        try clear x2
        clear hv hL
        go_wp2_with fail
        go_quiet (first | (go_at_call 19; exact Calls.quiet_of_same (HFX.out _)) | (go_at_call 49; exact Calls.quiet_of_same (HPX.out _ _)))
        have HD := Lib.hid (H2.out.drewN nq)
        clear c5 c6 c9 c10 c12 f12 HST
        go_wp2_with (go_at_call 25; refine (HFL.out _ _ 3 HD.out).mono ?_; rintro r w3 ⟨rfl, h3⟩; have H3 := Lib.hid h3; clear h3; apply stop)
        refine on ?_
        have hb9 := H3.out.perm (star_left_comm _ _ _)
        have c5 := hb9.cell 5 rfl
        have c6 := hb9.cell 6 rfl
        have c9 := hb9.cell 9 rfl
        have c10 := hb9.cell 10 rfl
        have c12 := hb9.cell 12 rfl
        have f12 := hb9.free 12
        have HST := Lib.hid ((hb9.set 12 (.bool false)).perm (star_left_comm _ _ _))
        clear hb9
        go_wp2_with fail
        go_end0
        exact ⟨rfl, by first | exact HST.out | (rw [orE_nil]; exact HST.out)⟩
    · have hq : (per != 1) = true := by simpa using p1
      obtain rfl : fd = 3 := by rw [HFD.out]; unfold faxD; first | (simp [*]; done) | (simp [faxN, predB, *]; done)
      try clear x2
      clear hv hL
      go_wp2_with fail
      go_quiet (first | (go_at_call 19; exact Calls.quiet_of_same (HFX.out _)) | (go_at_call 49; exact Calls.quiet_of_same (HPX.out _ _)))
      have HD := Lib.hid (H2.out.drewN nq)
      clear c5 c6 c9 c10 c12 f12 HST
      go_wp2_with (go_at_call 25; refine (HFL.out _ _ 3 HD.out).mono ?_; rintro r w3 ⟨rfl, h3⟩; have H3 := Lib.hid h3; clear h3; apply stop)
      refine on ?_
      have hb9 := H3.out.perm (star_left_comm _ _ _)
      have c5 := hb9.cell 5 rfl
      have c6 := hb9.cell 6 rfl
      have c9 := hb9.cell 9 rfl
      have c10 := hb9.cell 10 rfl
      have c12 := hb9.cell 12 rfl
      have f12 := hb9.free 12
      have HST := Lib.hid ((hb9.set 12 (.bool false)).perm (star_left_comm _ _ _))
      clear hb9
      go_wp2_with fail
      go_end0
      exact ⟨rfl, by first | exact HST.out | (rw [orE_nil]; exact HST.out)⟩
  have hfx : faxN sch = false := by simp [faxN, s2, s3, s4]
  have HFX := Lib.hid (fun w => fax_any sch w)
  rw [hfx] at HFX
  cases pr
  · skip
    obtain rfl : fd = 0 := by rw [HFD.out]; unfold faxD; first | (simp [*]; done) | (simp [faxN, predB, *]; done)
    try clear x2
    clear hv hL
    go_wp2_with fail
    go_quiet (first | (go_at_call 19; exact Calls.quiet_of_same (HFX.out _)) | (go_at_call 49; exact Calls.quiet_of_same (HPD.out _)))
    have HD := Lib.hid (H2.out.drewN nq)
    have HST2 := Lib.hid (((HD.out.perm (star_left_comm _ _ _)).set 12 (.bool false)).perm (star_left_comm _ _ _))
    go_wp2_with fail
    go_end0
    exact ⟨rfl, by first | exact HST2.out | (rw [orE_nil]; exact HST2.out)⟩
  · skip
    cases hpb : predB sch bts
    · rw [hpb] at HPD
      obtain rfl : fd = 3 := by rw [HFD.out]; unfold faxD; first | (simp [*]; done) | (simp [faxN, predB, *]; done)
      try clear x2
      clear hv hL
      go_wp2_with fail
      go_quiet (first | (go_at_call 19; exact Calls.quiet_of_same (HFX.out _)) | (go_at_call 49; exact Calls.quiet_of_same (HPD.out _)))
      have HD := Lib.hid (H2.out.drewN nq)
      clear c5 c6 c9 c10 c12 f12 HST
      go_wp2_with (go_at_call 25; refine (HFL.out _ _ 3 HD.out).mono ?_; rintro r w3 ⟨rfl, h3⟩; have H3 := Lib.hid h3; clear h3; apply stop)
      refine on ?_
      have hb9 := H3.out.perm (star_left_comm _ _ _)
      have c5 := hb9.cell 5 rfl
      have c6 := hb9.cell 6 rfl
      have c9 := hb9.cell 9 rfl
      have c10 := hb9.cell 10 rfl
      have c12 := hb9.cell 12 rfl
      have f12 := hb9.free 12
      have HST := Lib.hid ((hb9.set 12 (.bool false)).perm (star_left_comm _ _ _))
      clear hb9
      go_wp2_with fail
      go_end0
      exact ⟨rfl, by first | exact HST.out | (rw [orE_nil]; exact HST.out)⟩
    · rw [hpb] at HPD
      obtain rfl : fd = 0 := by rw [HFD.out]; unfold faxD; first | (simp [*]; done) | (simp [faxN, predB, *]; done)
      try clear x2
      clear hv hL
      go_wp2_with fail
      go_quiet (first | (go_at_call 19; exact Calls.quiet_of_same (HFX.out _)) | (go_at_call 49; exact Calls.quiet_of_same (HPD.out _)))
      have HD := Lib.hid (H2.out.drewN nq)
      have HST2 := Lib.hid (((HD.out.perm (star_left_comm _ _ _)).set 12 (.bool false)).perm (star_left_comm _ _ _))
      go_wp2_with fail
      go_end0
      exact ⟨rfl, by first | exact HST2.out | (rw [orE_nil]; exact HST2.out)⟩
end Go.Proofs.Ythoegjdkeooenaa
