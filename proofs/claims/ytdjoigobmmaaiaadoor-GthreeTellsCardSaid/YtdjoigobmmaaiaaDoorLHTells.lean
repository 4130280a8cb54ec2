/-
  Layer 15: any page, with any options, as the document tells it.
-/
import Derived.Test.YtdjoigobmmaaiaaDoorG3V
import Derived.Test.YtdjoigobmmaaiaaDoorG3W
import Derived.Deep.RegionWith
namespace Go.Proofs.YtdjoigobmmaaiaaDoor.htells
open Go.RowKit Go.Mz
set_option linter.unusedVariables false
set_option linter.unusedSimpArgs false
set_option maxRecDepth 100000


theorem encode15_bad {w0 w : World} {F : SProp} (h : St w0 w F) (v : Value) (two al fin : Bool) (every : Int) {width : Int} (hb : (decide (1 ≤ every) || !two) = false ∨ width < 1) :
    Calls Tryd.prog 20 #[v, .int .i64 width, .agg #[.bool two, .int .i64 every, .bool al, .bool fin]] w fun e w' => e = .returned (.tuple #[.slice none 0 0, .int .i64 1]) ∧ St w0 w' F := by
  have h2 : St w0 (w.alloc (.cells #[.bool two, .int .i64 every, .bool al, .bool fin] 46)) F := h.drop_alloc _
  have H := Lib.hid (right15_any h2 two al fin every); clear h h2
  cases hr : (decide (1 ≤ every) || !two) with
  | false =>
    rw [hr] at H
    clear hr hb
    go_enter Tryd.func20, Tryd.ntmps20
    go_wp2_with fail
    refine H.out.mono ?_
    rintro e w2 ⟨rfl, h2⟩
    have H2 := Lib.hid h2; clear h2 H
    go_wp2_with fail
    go_ret2
    exact ⟨rfl, H2.out⟩
  | true =>
    have hw : width < 1 := by
      rcases hb with h | h
      · rw [hr] at h; cases h
      · exact h
    have hd : decide (width < 1) = true := decide_eq_true hw
    rw [hr] at H
    clear hr hb
    go_enter Tryd.func20, Tryd.ntmps20
    go_wp2_with fail
    refine H.out.mono ?_
    rintro e w2 ⟨rfl, h2⟩
    have H2 := Lib.hid h2; clear h2 H
    go_wp2_with fail
    go_ret2
    exact ⟨rfl, H2.out⟩

set_option maxHeartbeats 40000000 in
theorem walk (vL : Value) (L : List (Value × List UInt8)) (wid : Int) (y : Bool × Int × Bool × Bool) (w : World) (hL : Reads w 1 vL L.length (L.map Prod.fst)) (hLs : textsIn w L) (htab : Lib.TabIs Tryd.prog w "strings.asciiSpace" .u8 Lib.asciiSpaceTab) :
    Calls Tryd.prog 7 #[vL, .int .i64 wid, optV y] w fun e w' => e = .returned (.bool true) ∧ Below w.heap.size w w' := by
  obtain ⟨two, every, al, fin⟩ := y
  simp only [optV]
  have HT := Lib.hid (tab_old htab); clear htab
  have HL := Lib.hid (Stb.of_old hL)
  have HX := Lib.hid (fun x hx => Stb.of_old (hLs x hx))
  obtain ⟨a0, c0, rfl⟩ := hL.sub
  have hm := hL.len_le
  unfold maxLen at hm
  clear hL hLs
  have H := Lib.hid ((St.init w).alloc (.cells #[.bool two, .int .i64 every, .bool al, .bool fin] 46))
  obtain ⟨bO, hbO⟩ : ∃ bO, bO = w.heap.size := ⟨_, rfl⟩
  rw [← hbO] at H
  have fin : ∀ w', St w w' (Mz.old w) → Below w.heap.size w w' := fun w' h => (h.perm ((emp_star _).symm.trans (star_comm _ _))).below
  have FIN := Lib.hid fin; clear fin
  go_enter Tryd.func7, Tryd.ntmps7
  go_wp2_with fail
  refine (lives15 H.out (fun w h => HT.out w h.right)).mono ?_
  rintro e w1 ⟨rfl, h2⟩
  rw [← hbO]
  have HBO := Lib.hid hbO
  clear hbO
  have H2 := Lib.hid h2; clear h2 H
  by_cases hbad : 12 < L.length ∨ 300 < wid
  · have hd : (12 : Int) < L.length ∨ (¬ (12 : Int) < L.length ∧ 300 < wid) := by omega
    clear hbad
    rcases hd with h1 | ⟨h1, h2⟩
    · go_wp2_with fail
      refine (lives15 H2.out (fun w h => HT.out w h.right)).mono ?_
      rintro e w2 ⟨rfl, h3⟩
      have H3 := Lib.hid h3; clear h3
      go_wp2_with fail
      go_ret
      exact ⟨rfl, FIN.out _ H3.out.right⟩
    · have h1d : decide ((12 : Int) < L.length) = false := decide_eq_false h1
      have h2d : decide (300 < wid) = true := decide_eq_true h2
      go_wp2_with fail
      refine (lives15 H2.out (fun w h => HT.out w h.right)).mono ?_
      rintro e w2 ⟨rfl, h3⟩
      have H3 := Lib.hid h3; clear h3
      go_wp2_with fail
      go_ret
      exact ⟨rfl, FIN.out _ H3.out.right⟩
  have h1 : ¬ (12 : Int) < L.length := by omega
  have h2 : ¬ 300 < wid := by omega
  have h1d : decide ((12 : Int) < L.length) = false := decide_eq_false h1
  have h2d : decide (300 < wid) = false := decide_eq_false h2
  have hL12 : L.length ≤ 12 := by omega
  clear hbad
  obtain ⟨width, hwd⟩ : ∃ width : Nat, width = (max wid 0).toNat := ⟨_, rfl⟩
  have hwm : max wid 0 = (width : Int) := by omega
  have hw3 : width ≤ 300 := by omega
  have HC := Lib.hid (texts15_any H2.out (HL.out.more _) (fun x hx => (HX.out x hx).more _) (by omega) (width := width) (by omega))
  rw [← hwm] at HC
  have HWD := Lib.hid hwd
  clear H2 hwd hwm
  go_wp2_with fail
  refine HC.out.mono ?_
  clear h1d h2d h1 HC
  rintro e w2 (⟨rfl, h3⟩ | ⟨vs, vl, Ps, R, rfl, hPl, hRP, hPs, h3⟩)
  · have HF := Lib.hid (FIN.out _ h3.right); clear h3
    go_wp2_with fail
    go_ret
    exact ⟨rfl, HF.out⟩
  obtain ⟨aS, cS, rfl⟩ := h3.reads.sub
  obtain ⟨aL, cL, rfl⟩ := h3.right.reads.sub
  have hRl : R.length = Ps.length := by have := congrArg List.length hRP; simpa using this
  have hRl2 : R.length ≤ 12 := by omega
  have hPl2 : Ps.length ≤ 12 := by omega
  have b0 := h3.right.right.right.cell 0 rfl
  have b1 := h3.right.right.right.cell 1 rfl
  have b2 := h3.right.right.right.cell 2 rfl
  have b3 := h3.right.right.right.cell 3 rfl
  have HCB := Lib.hid (fun w' (G : SProp) (h : St w w' (G * (blk bO (.cells #[.bool two, .int .i64 every, .bool al, .bool fin] 46 (0, 0)) * Mz.old w))) => (⟨h.right.cell 0 rfl, h.right.cell 1 rfl, h.right.cell 2 rfl, h.right.cell 3 rfl⟩ : _ ∧ _ ∧ _ ∧ _))
  have hcase : two = false ∨ (two = true ∧ 1 ≤ every) ∨ (two = true ∧ ¬ 1 ≤ every) := by
    cases two
    · exact .inl rfl
    · by_cases h : 1 ≤ every
      · exact .inr (.inl ⟨rfl, h⟩)
      · exact .inr (.inr ⟨rfl, h⟩)
  have hro : 1 ≤ wid → ∀ x ∈ R, RowOk width x.2 := fun hw x hx => by
    have h1 : x.2 ∈ R.map Prod.snd := List.mem_map_of_mem hx
    rw [hRP] at h1
    obtain ⟨P, hP, e⟩ := List.mem_map.1 h1
    rw [← e]
    exact rowOk_chg (hPs P hP).1 (by omega)
  rcases hcase with rfl | ⟨rfl, hev⟩ | ⟨rfl, hev⟩
  · by_cases hw1 : wid < 1
    · have hw1d : decide (wid < 1) = true := decide_eq_true hw1
      have HE := Lib.hid (encode15_bad h3 (.slice aL R.length cL) false al fin every (width := wid) (.inr hw1))
      clear h3 hRP hPs hPl hRl hro
      go_wp2_with fail
      refine HE.out.mono ?_
      rintro e w3 ⟨rfl, h4⟩
      obtain ⟨d0, d1, d2, d3⟩ := HCB.out _ (own 9 1 (.slice aS Ps.length cS) Ps.length (Ps.map txv) * (own 41 1 (.slice aL R.length cL) R.length (R.map Prod.fst) * rowsP R)) (h4.perm (by simp only [star_assoc]))
      have HR := Lib.hid (right15_any h4 false al fin every)
      clear HE b0 b1 b2 b3
      have hdr : (decide (1 ≤ every) || !false) = true := by simp
      rw [hdr] at HR
      clear h4
      go_wp2_with fail
      refine HR.out.mono ?_
      rintro e w4 ⟨rfl, h5⟩
      have HF := Lib.hid (FIN.out _ h5.right.right.right.right)
      clear h5 HR d0 d1 d2 d3 hdr
      go_wp2_with fail
      go_ret
      exact ⟨rfl, HF.out⟩
    · have hw1d : decide (wid < 1) = false := decide_eq_false hw1
      obtain rfl : wid = (width : Int) := by have := HWD.out; omega
      have HE := Lib.hid (encode15_false (width := width) h3 (fun w h => HT.out w h.right.right.right.right) (v := .slice aL R.length cL) (fun w h => h.right.reads) (fun w h => rowsP_reads R _ h.right.right) (by omega) (by omega) (hro (by omega)) (by omega) al fin every )
      rw [hRP] at HE
      have HRE := Lib.hid (fun (w' : World) (G : SProp) (h : St w w' G) (hv : Stb w G (fun w => Reads w 1 (.slice aS Ps.length cS) Ps.length (Ps.map txv))) => rencode15_false h hv (width := width) (by omega) (by omega) hPs (by omega) al fin every )
      have HR := Lib.hid (fun (w' : World) (G : SProp) (h : St w w' G) => by
        have C := right15_any h false al fin every
        rw [show (decide (1 ≤ every) || !false) = true from by simp] at C
        exact C)
      generalize bytesB false (enc3 width false al fin every (Ps.map chg)) = B at *
      clear h3 hRP hPs hro hPl hRl HWD
      go_wp2_with fail
      refine HE.out.mono ?_
      rintro e w5 ⟨v5, rfl, h5⟩
      obtain ⟨a5, c5, rfl⟩ := h5.reads.sub
      obtain ⟨d0, d1, d2, d3⟩ := HCB.out _ (own 5 1 (.slice a5 B.length c5) B.length (B.map bv) * (own 9 1 (.slice aS Ps.length cS) Ps.length (Ps.map txv) * (own 41 1 (.slice aL R.length cL) R.length (R.map Prod.fst) * rowsP R))) (h5.perm (by simp only [star_assoc]))
      have HR2 := Lib.hid (HR.out _ _ h5)
      clear HE h5 b0 b1 b2 b3 HR
      go_wp2_with fail
      refine HR2.out.mono ?_
      rintro e w6 ⟨rfl, h6⟩
      obtain ⟨d0, d1, d2, d3⟩ := HCB.out _ (own 5 1 (.slice a5 B.length c5) B.length (B.map bv) * (own 9 1 (.slice aS Ps.length cS) Ps.length (Ps.map txv) * (own 41 1 (.slice aL R.length cL) R.length (R.map Prod.fst) * rowsP R))) (h6.perm (by simp only [star_assoc]))
      have K := fun (W : World) (v : Value) (n : Nat) (bs : List UInt8) (hr : Reads W 1 v n (bs.map bv)) => run_b2s (P := Tryd.prog) Tryd.underlying28 Tryd.underlying5 Tryd.underlying9 hr
      have HK := Lib.hid K; clear K
      have h7 := (h6.drop_alloc (.cells #[.bool false, .int .i64 every, .bool al, .bool fin] 49)).drew
      have q0 := HK.out _ _ _ _ h7.reads
      have HR3 := Lib.hid (HRE.out _ _ h7 (fun w' h => h.right.reads))
      clear HR2 HCB HRE h6 h7
      go_wp2_with fail
      clear d0 d1 d2 d3
      go_region_with (go_at_call 22; refine HR3.out.mono ?_; rintro e w8 ⟨rfl, h8⟩; have q1 := HK.out _ _ _ _ h8.reads; have H8 := Lib.hid h8.right.right.right.right.right; clear h8)
      all_goals
        go_wp2_with fail
        go_ret
        exact ⟨rfl, FIN.out _ H8.out⟩
  · have hevd : decide (1 ≤ every) = true := decide_eq_true hev
    by_cases hw1 : wid < 1
    · have hw1d : decide (wid < 1) = true := decide_eq_true hw1
      have HE := Lib.hid (encode15_bad h3 (.slice aL R.length cL) true al fin every (width := wid) (.inr hw1))
      clear h3 hRP hPs hPl hRl hro
      go_wp2_with fail
      refine HE.out.mono ?_
      rintro e w3 ⟨rfl, h4⟩
      obtain ⟨d0, d1, d2, d3⟩ := HCB.out _ (own 9 1 (.slice aS Ps.length cS) Ps.length (Ps.map txv) * (own 41 1 (.slice aL R.length cL) R.length (R.map Prod.fst) * rowsP R)) (h4.perm (by simp only [star_assoc]))
      have HR := Lib.hid (right15_any h4 true al fin every)
      clear HE b0 b1 b2 b3
      have hdr : (decide (1 ≤ every) || !true) = true := by simp [hev]
      rw [hdr] at HR
      clear h4
      go_wp2_with fail
      refine HR.out.mono ?_
      rintro e w4 ⟨rfl, h5⟩
      have HF := Lib.hid (FIN.out _ h5.right.right.right.right)
      clear h5 HR d0 d1 d2 d3 hdr
      go_wp2_with fail
      go_ret
      exact ⟨rfl, HF.out⟩
    · have hw1d : decide (wid < 1) = false := decide_eq_false hw1
      obtain rfl : wid = (width : Int) := by have := HWD.out; omega
      have HE := Lib.hid (encode15_true (width := width) h3 (fun w h => HT.out w h.right.right.right.right) (v := .slice aL R.length cL) (fun w h => h.right.reads) (fun w h => rowsP_reads R _ h.right.right) (by omega) (by omega) (hro (by omega)) (by omega) al fin every hev)
      rw [hRP] at HE
      have HRE := Lib.hid (fun (w' : World) (G : SProp) (h : St w w' G) (hv : Stb w G (fun w => Reads w 1 (.slice aS Ps.length cS) Ps.length (Ps.map txv))) => rencode15_true h hv (width := width) (by omega) (by omega) hPs (by omega) al fin every hev)
      have HR := Lib.hid (fun (w' : World) (G : SProp) (h : St w w' G) => by
        have C := right15_any h true al fin every
        rw [show (decide (1 ≤ every) || !true) = true from by simp [hev]] at C
        exact C)
      generalize bytesB false (enc3 width true al fin every (Ps.map chg)) = B at *
      clear h3 hRP hPs hro hPl hRl HWD
      go_wp2_with fail
      refine HE.out.mono ?_
      rintro e w5 ⟨v5, rfl, h5⟩
      obtain ⟨a5, c5, rfl⟩ := h5.reads.sub
      obtain ⟨d0, d1, d2, d3⟩ := HCB.out _ (own 5 1 (.slice a5 B.length c5) B.length (B.map bv) * (own 9 1 (.slice aS Ps.length cS) Ps.length (Ps.map txv) * (own 41 1 (.slice aL R.length cL) R.length (R.map Prod.fst) * rowsP R))) (h5.perm (by simp only [star_assoc]))
      have HR2 := Lib.hid (HR.out _ _ h5)
      clear HE h5 b0 b1 b2 b3 HR
      go_wp2_with fail
      refine HR2.out.mono ?_
      rintro e w6 ⟨rfl, h6⟩
      obtain ⟨d0, d1, d2, d3⟩ := HCB.out _ (own 5 1 (.slice a5 B.length c5) B.length (B.map bv) * (own 9 1 (.slice aS Ps.length cS) Ps.length (Ps.map txv) * (own 41 1 (.slice aL R.length cL) R.length (R.map Prod.fst) * rowsP R))) (h6.perm (by simp only [star_assoc]))
      have K := fun (W : World) (v : Value) (n : Nat) (bs : List UInt8) (hr : Reads W 1 v n (bs.map bv)) => run_b2s (P := Tryd.prog) Tryd.underlying28 Tryd.underlying5 Tryd.underlying9 hr
      have HK := Lib.hid K; clear K
      have h7 := (h6.drop_alloc (.cells #[.bool true, .int .i64 every, .bool al, .bool fin] 49)).drew
      have q0 := HK.out _ _ _ _ h7.reads
      have HR3 := Lib.hid (HRE.out _ _ h7 (fun w' h => h.right.reads))
      clear HR2 HCB HRE h6 h7
      go_wp2_with fail
      clear d0 d1 d2 d3
      go_region_with (go_at_call 22; refine HR3.out.mono ?_; rintro e w8 ⟨rfl, h8⟩; have q1 := HK.out _ _ _ _ h8.reads; have H8 := Lib.hid h8.right.right.right.right.right; clear h8)
      all_goals
        go_wp2_with fail
        go_ret
        exact ⟨rfl, FIN.out _ H8.out⟩
  · have hevd : decide (1 ≤ every) = false := decide_eq_false hev
    by_cases hw1 : wid < 1
    · have hw1d : decide (wid < 1) = true := decide_eq_true hw1
      have HE := Lib.hid (encode15_bad h3 (.slice aL R.length cL) true al fin every (width := wid) (.inr hw1))
      clear h3 hRP hPs hPl hRl hro
      go_wp2_with fail
      refine HE.out.mono ?_
      rintro e w3 ⟨rfl, h4⟩
      obtain ⟨d0, d1, d2, d3⟩ := HCB.out _ (own 9 1 (.slice aS Ps.length cS) Ps.length (Ps.map txv) * (own 41 1 (.slice aL R.length cL) R.length (R.map Prod.fst) * rowsP R)) (h4.perm (by simp only [star_assoc]))
      have HR := Lib.hid (right15_any h4 true al fin every)
      clear HE b0 b1 b2 b3
      have hdr : (decide (1 ≤ every) || !true) = false := by simp [hevd]
      rw [hdr] at HR
      clear h4
      go_wp2_with fail
      refine HR.out.mono ?_
      rintro e w4 ⟨rfl, h5⟩
      have HF := Lib.hid (FIN.out _ h5.right.right.right.right)
      clear h5 HR d0 d1 d2 d3 hdr
      go_wp2_with fail
      go_ret
      exact ⟨rfl, HF.out⟩
    · have hw1d : decide (wid < 1) = false := decide_eq_false hw1
      have HE := Lib.hid (encode15_bad h3 (.slice aL R.length cL) true al fin every (width := wid) (.inl (by simp [hevd])))
      clear h3 hRP hPs hPl hRl hro
      go_wp2_with fail
      refine HE.out.mono ?_
      rintro e w3 ⟨rfl, h4⟩
      obtain ⟨d0, d1, d2, d3⟩ := HCB.out _ (own 9 1 (.slice aS Ps.length cS) Ps.length (Ps.map txv) * (own 41 1 (.slice aL R.length cL) R.length (R.map Prod.fst) * rowsP R)) (h4.perm (by simp only [star_assoc]))
      have HR := Lib.hid (right15_any h4 true al fin every)
      clear HE b0 b1 b2 b3
      have hdr : (decide (1 ≤ every) || !true) = false := by simp [hevd]
      rw [hdr] at HR
      clear h4
      go_wp2_with fail
      refine HR.out.mono ?_
      rintro e w4 ⟨rfl, h5⟩
      have HF := Lib.hid (FIN.out _ h5.right.right.right.right)
      clear h5 HR d0 d1 d2 d3 hdr
      go_wp2_with fail
      go_ret
      exact ⟨rfl, HF.out⟩
end Go.Proofs.YtdjoigobmmaaiaaDoor.htells
