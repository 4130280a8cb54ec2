/-
  Layer 15: what is told is read, also with noughts ahead of it, and whatever stands behind.
-/
import Derived.Test.YtdjoigobmmaaiaaDoorG3V
import Derived.Test.YtdjoigobmmaaiaaDoorReg
import Derived.Deep.QuietTactic
import Derived.BigQuiet
namespace Go.Proofs.YtdjoigobmmaaiaaDoor.iagain
open Go.RowKit Go.Mz
set_option linter.unusedVariables false
set_option linter.unusedSimpArgs false
set_option maxRecDepth 100000

theorem till_two {P : Program} {ops : Array Oper} {Q : Exit → Act → World → Prop} {md : Region.Mode} {S : World → Prop} {k : Nat} {i j fuel : Nat} {listed : Array Bool} {a : Act} {w : World} (hr : Region.ready md ops listed = [i, j])
    (h : wpOp P ops Q i (fun a' w' => ((listed.setIfInBounds i true).getD k false = false → S w') ∧ anyTill P md ops Q S k fuel (listed.setIfInBounds i true) a' w') a w)
    (h2 : wpOp P ops Q j (fun a' w' => ((listed.setIfInBounds j true).getD k false = false → S w') ∧ anyTill P md ops Q S k fuel (listed.setIfInBounds j true) a' w') a w) : anyTill P md ops Q S k (fuel + 1) listed a w :=
  till_all hr (by simp) fun n hn => by
    rcases List.mem_cons.1 hn with rfl | hn
    · exact h
    · obtain rfl := List.mem_singleton.1 hn
      exact h2
theorem stl2 {w0 w : World} {A B : SProp} (h : StL w0 w [A, B]) : St w0 w (A * B) :=
  St.perm h (show A * (B * emp) = A * B by rw [star_comm B emp, emp_star])
theorem stl2' {w0 w : World} {A B : SProp} (h : St w0 w (A * B)) : StL w0 w [A, B] :=
  h.perm (show A * B = A * (B * emp) by rw [star_comm B emp, emp_star])
theorem encode15_any {w0 w : World} {F : SProp} (h : St w0 w F) (htab : Tab w0 F) {R : List (Value × List Nat)} {v : Value} (hv : Stb w0 F (fun w => Reads w 1 v R.length (R.map Prod.fst))) (hr : Stb w0 F (fun w => ∀ x ∈ R, Reads w 1 x.1 x.2.length (x.2.map nv))) {width : Nat} (h1 : 1 ≤ width) (hw : width ≤ 400) (hR : ∀ x ∈ R, RowOk width x.2) (hN : R.length ≤ 100) (two al fin : Bool) (every : Int) (hev : (decide (1 ≤ every) || !two) = true) :
    Calls Tryd.prog 20 #[v, .int .i64 (width : Int), .agg #[.bool two, .int .i64 every, .bool al, .bool fin]] w fun e w' => ∃ v', e = .returned (.tuple #[v', .int .i64 0]) ∧ St w0 w' (own 5 1 v' (bytesB false (enc3 width two al fin every (R.map Prod.snd))).length ((bytesB false (enc3 width two al fin every (R.map Prod.snd))).map bv) * F) := by
  cases two
  · exact encode15_false h htab hv hr h1 hw hR hN al fin every
  · exact encode15_true h htab hv hr h1 hw hR hN al fin every (by simpa using hev)

set_option maxHeartbeats 40000000 in
theorem walk (vL : Value) (L : List (Value × List UInt8)) (wid : Int) (y : Bool × Int × Bool × Bool) (w : World) (hL : Reads w 1 vL L.length (L.map Prod.fst)) (hLs : textsIn w L) (htab : Lib.TabIs Tryd.prog w "strings.asciiSpace" .u8 Lib.asciiSpaceTab) :
    Calls Tryd.prog 9 #[vL, .int .i64 wid, optV y] w fun e w' => e = .returned (.bool true) ∧ Below w.heap.size w w' := by
  obtain ⟨two, every, al, fin⟩ := y
  simp only [optV]
  have HT := Lib.hid (tab_old htab); clear htab
  have HL := Lib.hid (Stb.of_old hL)
  have HX := Lib.hid (fun x hx => Stb.of_old (hLs x hx))
  obtain ⟨a0, c0, rfl⟩ := hL.sub
  have hm := hL.len_le
  unfold maxLen at hm
  clear hL hLs
  have H := Lib.hid ((St.init w).alloc (.cells #[.bool two, .int .i64 every, .bool al, .bool fin] 46))
  obtain ⟨bO, hbO⟩ : ∃ bO, bO = w.heap.size := ⟨_, rfl⟩
  rw [← hbO] at H
  have fin' : ∀ w', St w w' (Mz.old w) → Below w.heap.size w w' := fun w' h => (h.perm ((emp_star _).symm.trans (star_comm _ _))).below
  have FIN := Lib.hid fin'; clear fin'
  have T := elemBytes
  go_enter Tryd.func9, Tryd.ntmps9
  go_wp2_with fail
  refine (lives15 H.out (fun w h => HT.out w h.right)).mono ?_
  rintro e w1 ⟨rfl, h2⟩
  rw [← hbO]
  clear hbO
  have b0 := h2.cell 0 rfl
  have b1 := h2.cell 1 rfl
  have b2 := h2.cell 2 rfl
  have b3 := h2.cell 3 rfl
  have HRT := Lib.hid (right15_any h2 two al fin every)
  have H2 := Lib.hid h2; clear h2 H
  by_cases hbad : 20 < L.length ∨ wid < 1 ∨ 300 < wid
  · have hd : (20 : Int) < L.length ∨ (¬ (20 : Int) < L.length ∧ wid < 1) ∨ (¬ (20 : Int) < L.length ∧ ¬ wid < 1 ∧ 300 < wid) := by omega
    clear hbad HRT b0 b1 b2 b3
    rcases hd with h1 | ⟨h1, h2⟩ | ⟨h1, h2, h3⟩
    · go_wp2_with fail
      refine (lives15 H2.out (fun w h => HT.out w h.right)).mono ?_
      rintro e w2 ⟨rfl, h3⟩
      have H3 := Lib.hid h3; clear h3
      go_wp2_with fail
      go_ret
      exact ⟨rfl, FIN.out _ H3.out.right⟩
    · have h1d : decide ((20 : Int) < L.length) = false := decide_eq_false h1
      have h2d : decide (wid < 1) = true := decide_eq_true h2
      go_wp2_with fail
      refine (lives15 H2.out (fun w h => HT.out w h.right)).mono ?_
      rintro e w2 ⟨rfl, h3⟩
      have H3 := Lib.hid h3; clear h3
      go_wp2_with fail
      go_ret
      exact ⟨rfl, FIN.out _ H3.out.right⟩
    · have h1d : decide ((20 : Int) < L.length) = false := decide_eq_false h1
      have h2d : decide (wid < 1) = false := decide_eq_false h2
      have h3d : decide (300 < wid) = true := decide_eq_true h3
      go_wp2_with fail
      refine (lives15 H2.out (fun w h => HT.out w h.right)).mono ?_
      rintro e w2 ⟨rfl, h3⟩
      have H3 := Lib.hid h3; clear h3
      go_wp2_with fail
      go_ret
      exact ⟨rfl, FIN.out _ H3.out.right⟩
  have h1 : ¬ (20 : Int) < L.length := by omega
  have h2 : ¬ wid < 1 := by omega
  have h3 : ¬ 300 < wid := by omega
  have h1d : decide ((20 : Int) < L.length) = false := decide_eq_false h1
  have h2d : decide (wid < 1) = false := decide_eq_false h2
  have h3d : decide (300 < wid) = false := decide_eq_false h3
  have hL20 : L.length ≤ 20 := by omega
  clear hbad
  cases hrt : (decide (1 ≤ every) || !two) with
  | false =>
    rw [hrt] at HRT
    clear hrt
    go_wp2_with fail
    refine HRT.out.mono ?_
    rintro e w2 ⟨rfl, h3⟩
    have H3 := Lib.hid h3; clear h3 H2 HRT b0 b1 b2 b3
    go_wp2_with fail
    refine (lives15 H3.out (fun w h => HT.out w h.right)).mono ?_
    rintro e w3 ⟨rfl, h4⟩
    have H4 := Lib.hid h4; clear h4 H3
    go_wp2_with fail
    go_ret
    exact ⟨rfl, FIN.out _ H4.out.right⟩
  | true =>
  rw [hrt] at HRT
  have HEV := Lib.hid hrt
  clear hrt
  obtain ⟨width, rfl⟩ : ∃ width : Nat, wid = width := ⟨wid.toNat, by omega⟩
  have hw1 : 1 ≤ width := by omega
  have hw3 : width ≤ 300 := by omega
  go_wp2_with fail
  refine HRT.out.mono ?_
  rintro e w2 ⟨rfl, h3⟩
  have HC := Lib.hid (texts15_any h3 (HL.out.more _) (fun x hx => (HX.out x hx).more _) (by omega) (width := width) (by omega))
  clear h3 H2 HRT b0 b1 b2 b3
  go_wp2_with fail
  refine HC.out.mono ?_
  clear h1d h2d h3d h1 h2 h3 HC
  rintro e w2 (⟨rfl, h3⟩ | ⟨vs, vl, Ps, R, rfl, hPl, hRP, hPs, h3⟩)
  · have HF := Lib.hid (FIN.out _ h3.right); clear h3
    go_wp2_with fail
    go_ret
    exact ⟨rfl, HF.out⟩
  have h3 := h3.right
  obtain ⟨al', cl, rfl⟩ := h3.reads.sub
  have hRl : R.length = Ps.length := by have := congrArg List.length hRP; simpa using this
  have hRl2 : R.length ≤ 20 := by omega
  have hro : ∀ x ∈ R, RowOk width x.2 := fun x hx => by
    have h1 : x.2 ∈ R.map Prod.snd := List.mem_map_of_mem hx
    rw [hRP] at h1
    obtain ⟨P, hP, e⟩ := List.mem_map.1 h1
    rw [← e]
    exact rowOk_chg (hPs P hP).1 (by omega)
  have HE := Lib.hid (encode15_any (width := width) h3 (fun w h => HT.out w h.right.right.right) (v := .slice al' R.length cl) (fun w h => h.reads) (fun w h => rowsP_reads R _ h.right) (by omega) (by omega) hro (by omega) two al fin every HEV.out)
  rw [hRP] at HE
  have hE1 := enc3_told (width := width) (two := two) (al := al) (fin := fin) (every := every) hw1 (by omega) hPs [3, 4]
  rw [← hRl] at hE1
  have hBl : (bytesB false (enc3 width two al fin every (Ps.map chg))).length ≤ 10000000 := by
    have h1 : (bytesB false (enc3 width two al fin every (Ps.map chg))).length = ((enc3 width two al fin every (Ps.map chg)).length + 7) / 8 := length_bytesB _ _
    have h2 := enc3F_len (width := width) (by omega) (two := two) (al := al) (every := every) (Ps.map chg) 0 [] [] (fun l hl => by obtain ⟨P, hP, rfl⟩ := List.mem_map.1 hl; exact rowOk_chg (hPs P hP).1 (by omega)) ⟨List.Pairwise.nil, fun x hx => by cases hx⟩
    rw [List.length_map] at h2
    have h3 := fin3_len (two := two) (al := al) (fin := fin) (acc := enc3F width two al every 0 [] (Ps.map chg) [])
    simp only [List.length_nil, Nat.zero_add] at h2
    rw [h1, enc3]; omega
  generalize bytesB false (enc3 width two al fin every (Ps.map chg)) = B at *
  have HQ := Lib.hid (⟨hE1, hRP⟩ : _ ∧ _)
  have c0' := h3.right.right.cell 0 rfl
  have c1' := h3.right.right.cell 1 rfl
  have c2' := h3.right.right.cell 2 rfl
  have c3' := h3.right.right.cell 3 rfl
  clear h3 hRP hPs hro hPl hRl hE1
  go_wp2_with fail
  refine HE.out.mono ?_
  rintro e w5 ⟨v5, rfl, h5⟩
  obtain ⟨a5, c5, rfl⟩ := h5.reads.sub
  clear c0' c1' c2' c3' HE
  have h5 := h5.drew
  have d0 := h5.right.right.right.cell 0 rfl
  have H5 := Lib.hid h5
  clear h5
  have hdec : ∀ (W : World) (v : Value) (G : SProp), St w W (own 5 1 v (2 + B.length + 2) ([bv 0, bv 0] ++ B.map bv ++ [bv 3, bv 4]) * (G * (blk bO (.cells #[.bool two, .int .i64 every, .bool al, .bool fin] 46 (0, 0)) * Mz.old w))) →
      Calls Tryd.prog 23 #[v, .int .i64 (width : Int), .int .i64 (R.length : Int), .bool two] W fun e w' => ∃ (v' : Value) (R' : List (Value × List Nat)), e = .returned (.tuple #[v', .int .i64 (erD (.inl Ps : List (List Nat) ⊕ Nat) : Nat)]) ∧ R'.map Prod.snd = (okD (.inl Ps)).map chg ∧ St w w' (own 41 1 v' R'.length (R'.map Prod.fst) * (rowsP R' * (G * (blk bO (.cells #[.bool two, .int .i64 every, .bool al, .bool fin] 46 (0, 0)) * Mz.old w)))) := fun W v G h => by
    have h9 : St w W (own 5 1 v ([0, 0] ++ (B ++ [3, 4])).length (([0, 0] ++ (B ++ [3, 4])).map bv) * (G * (blk bO (.cells #[.bool two, .int .i64 every, .bool al, .bool fin] 46 (0, 0)) * Mz.old w))) := by
      have e1 : ([0, 0] ++ (B ++ [3, 4])).length = 2 + B.length + 2 := by simp; omega
      have e2 : (([0, 0] ++ (B ++ [3, 4])).map bv) = [bv 0, bv 0] ++ B.map bv ++ [bv 3, bv 4] := by simp
      rw [e1, e2]; exact h
    have C := decode15_any h9 (fun w h => HT.out w h.right.right.right) (bs := [0, 0] ++ (B ++ [3, 4])) (vb := v) Stb.of_own (by simp; omega) (width := width) (N := R.length) two hw1 (by omega) (by omega)
    rw [HQ.out.1] at C
    refine C.mono ?_
    rintro e w' ⟨v', R', rfl, hm', h'⟩
    exact ⟨v', R', rfl, hm', (h'.perm (show _ = own 5 1 v ([0, 0] ++ (B ++ [3, 4])).length (([0, 0] ++ (B ++ [3, 4])).map bv) * (own 41 1 v' R'.length (R'.map Prod.fst) * (rowsP R' * (G * (blk bO (.cells #[.bool two, .int .i64 every, .bool al, .bool fin] 46 (0, 0)) * Mz.old w)))) by generalize own 5 1 v ([0, 0] ++ (B ++ [3, 4])).length (([0, 0] ++ (B ++ [3, 4])).map bv) = O9; ac_rfl)).right⟩
  have HDEC := Lib.hid hdec
  clear hdec
  go_wp2_with fail
  refine wp_region_noPanic ?_
  refine region_till (S := fun w' : World => w'.cell? ⟨bO, 0, none⟩ = some (.bool two)) (k := 10) (by kernel_rfl) ?_
  have hS : (fun w' : World => w'.cell? ⟨bO, 0, none⟩ = some (.bool two)) w5.drew := d0
  refine till_take0 (i := 1) (oi := ?_) (v := ?_) ?_ (by kernel_rfl) (by kernel_rfl) (by kernel_rfl) (by decide) (fun _ _ _ h => h.elim) (by assumption) (.inl ⟨?_, fun w => ?_⟩) ?_
  rotate_left 2
  · (simp only [List.getElem?_toArray, List.getElem?_cons_succ, List.getElem?_cons_zero]; rfl)
  · rfl
  · (go_simp; try with_reducible rfl)
  simp only [Act.put, List.setIfInBounds_toArray, List.set_cons_zero, List.set_cons_succ]
  refine till_take0 (i := 5) (oi := ?_) (v := ?_) ?_ (by kernel_rfl) (by kernel_rfl) (by kernel_rfl) (by decide) (fun _ _ _ h => h.elim) (by assumption) (.inl ⟨?_, fun w => ?_⟩) ?_
  rotate_left 2
  · (simp only [List.getElem?_toArray, List.getElem?_cons_succ, List.getElem?_cons_zero]; rfl)
  · rfl
  · (go_simp; try with_reducible rfl)
  simp only [Act.put, List.setIfInBounds_toArray, List.set_cons_zero, List.set_cons_succ]
  refine till_take0 (i := 6) (oi := ?_) (v := ?_) ?_ (by kernel_rfl) (by kernel_rfl) (by kernel_rfl) (by decide) (fun _ _ _ h => h.elim) (by assumption) (.inl ⟨?_, fun w => ?_⟩) ?_
  rotate_left 2
  · (simp only [List.getElem?_toArray, List.getElem?_cons_succ, List.getElem?_cons_zero]; rfl)
  · rfl
  · (go_simp; try with_reducible rfl)
  simp only [Act.put, List.setIfInBounds_toArray, List.set_cons_zero, List.set_cons_succ]
  refine till_take0 (i := 7) (oi := ?_) (v := ?_) ?_ (by kernel_rfl) (by kernel_rfl) (by kernel_rfl) (by decide) (fun _ _ _ h => h.elim) (by assumption) (.inl ⟨?_, fun w => ?_⟩) ?_
  rotate_left 2
  · (simp only [List.getElem?_toArray, List.getElem?_cons_succ, List.getElem?_cons_zero]; rfl)
  · rfl
  · (go_simp; try with_reducible rfl)
  simp only [Act.put, List.setIfInBounds_toArray, List.set_cons_zero, List.set_cons_succ]
  refine till_take0 (i := 8) (oi := ?_) (v := ?_) ?_ (by kernel_rfl) (by kernel_rfl) (by kernel_rfl) (by decide) (fun _ _ _ h => h.elim) (by assumption) (.inl ⟨?_, fun w => ?_⟩) ?_
  rotate_left 2
  · (simp only [List.getElem?_toArray, List.getElem?_cons_succ, List.getElem?_cons_zero]; rfl)
  · rfl
  · (go_simp; try with_reducible rfl)
  simp only [Act.put, List.setIfInBounds_toArray, List.set_cons_zero, List.set_cons_succ]
  refine till_take (i := 9) (oi := ?_) (v := ?_) ?_ (by kernel_rfl) (by kernel_rfl) (by kernel_rfl) (by kernel_rfl) (by kernel_rfl) (fun _ _ _ h => h.elim) (by assumption) (.inl ⟨?_, fun w hSw => ?_⟩) ?_
  rotate_left 2
  · (simp only [List.getElem?_toArray, List.getElem?_cons_succ, List.getElem?_cons_zero]; rfl)
  · rfl
  · ((try dsimp only at hSw); go_simp; try with_reducible rfl)
  simp only [Act.put, List.setIfInBounds_toArray, List.set_cons_zero, List.set_cons_succ]
  have HC := Lib.hid (H5.out)
  have CELL := Lib.hid (fun (W : World) (h : St w W (blk bO (.cells #[.bool two, .int .i64 every, .bool al, .bool fin] 46 (0, 0)) * Mz.old w)) => (h.cell 0 rfl : W.cell? ⟨bO, 0, none⟩ = some (.bool two)))
  clear d0 H5
  generalize w5.drew = W5 at *
  refine till_two (i := 0) (j := 3) (by kernel_rfl) ?_ ?_
  · refine wpOp_step (by rfl) fun K hK => ?_
    have hA : St w (W5.alloc (.cells #[.int .u8 0, .int .u8 0] 5)) (own 5 1 (.slice (some ⟨W5.heap.size, 0, none⟩) 2 2) 2 [bv 0, bv 0] * ((own 5 1 (.slice a5 B.length c5) B.length (B.map bv) * (own 41 1 (.slice al' R.length cl) R.length (R.map Prod.fst) * (rowsP R * (blk bO (.cells #[.bool two, .int .i64 every, .bool al, .bool fin] 46 (0, 0)) * Mz.old w)))))) := HC.out.lit #[.int .u8 0, .int .u8 0] 5 2 rfl (by decide)
    go_simp
    refine hK _ _ ⟨fun e => CELL.out _ hA.right.right.right.right, ?_⟩
    clear hK K
    generalize hgg : W5.heap.size = gA at *
    generalize hww : W5.alloc (.cells #[.int .u8 0, .int .u8 0] 5) = W6 at *
    clear hgg hww
    refine till_two (i := 2) (j := 3) (by kernel_rfl) ?_ ?_
    · refine wpOp_step (by rfl) fun K hK => ?_
      refine step_append_L elemBytes rfl _ _ rfl rfl (stl2' hA) 0 rfl (x := .slice a5 B.length c5) rfl (m := B.length) (news := (B.map bv)) hA.right.reads (bv_oneCell B) (by unfold maxLen; omega) (by omega) fun v7 W7 h70 _ => ?_
      have h7 : St w W7 (own 5 1 v7 (2 + B.length) ([bv 0, bv 0] ++ (B.map bv)) * ((own 5 1 (.slice a5 B.length c5) B.length (B.map bv) * (own 41 1 (.slice al' R.length cl) R.length (R.map Prod.fst) * (rowsP R * (blk bO (.cells #[.bool two, .int .i64 every, .bool al, .bool fin] 46 (0, 0)) * Mz.old w)))))) := stl2 h70
      refine hK _ _ ⟨fun e => CELL.out _ h7.right.right.right.right, ?_⟩
      clear hK K
      obtain ⟨a7, c7', rfl⟩ := h7.reads.sub
      refine till_one (i := 3) (by kernel_rfl) ?_
      refine wpOp_step (by rfl) fun K hK => ?_
      have h8 : St w (W7.alloc (.cells #[.int .u8 3, .int .u8 4] 5)) (own 5 1 (.slice (some ⟨W7.heap.size, 0, none⟩) 2 2) 2 [bv 3, bv 4] * (own 5 1 (.slice a7 (2 + B.length) c7') (2 + B.length) ([bv 0, bv 0] ++ B.map bv) * (own 5 1 (.slice a5 B.length c5) B.length (B.map bv) * (own 41 1 (.slice al' R.length cl) R.length (R.map Prod.fst) * (rowsP R * (blk bO (.cells #[.bool two, .int .i64 every, .bool al, .bool fin] 46 (0, 0)) * Mz.old w)))))) := h7.lit #[.int .u8 3, .int .u8 4] 5 2 rfl (by decide)
      go_simp
      refine hK _ _ ⟨fun e => CELL.out _ h8.right.right.right.right.right, ?_⟩
      clear hK K
      generalize hgg : W7.heap.size = gL at *
      generalize hww : W7.alloc (.cells #[.int .u8 3, .int .u8 4] 5) = W8 at *
      clear hgg hww
      have HR34 := h8.reads
      have h8 := h8.perm (star_left_comm _ _ _)
      refine till_one (i := 4) (by kernel_rfl) ?_
      refine wpOp_step (by rfl) fun K hK => ?_
      refine step_append_L elemBytes rfl _ _ rfl rfl (stl2' h8) 0 rfl (x := .slice (some ⟨gL, 0, none⟩) 2 2) rfl (m := 2) (news := [bv 3, bv 4]) HR34 (bv_oneCell [3, 4]) (by unfold maxLen; omega) (by omega) fun v9 W9 h90 _ => ?_
      have h9 : St w W9 (own 5 1 v9 ((2 + B.length) + 2) (([bv 0, bv 0] ++ B.map bv) ++ [bv 3, bv 4]) * (own 5 1 (.slice (some ⟨gL, 0, none⟩) 2 2) 2 [bv 3, bv 4] * (own 5 1 (.slice a5 B.length c5) B.length (B.map bv) * (own 41 1 (.slice al' R.length cl) R.length (R.map Prod.fst) * (rowsP R * (blk bO (.cells #[.bool two, .int .i64 every, .bool al, .bool fin] 46 (0, 0)) * Mz.old w)))))) := stl2 h90
      refine hK _ _ ⟨fun e => CELL.out _ h9.right.right.right.right.right, ?_⟩
      clear hK K
      clear HR34
      obtain ⟨a9, c9', rfl⟩ := h9.reads.sub
      refine till_one (i := 10) (by kernel_rfl) ?_
      refine wpOp_step (by rfl) fun K hK => ?_
      go_simp
      have HD := HDEC.out _ _ (own 5 1 (.slice (some ⟨gL, 0, none⟩) 2 2) 2 [bv 3, bv 4] * (own 5 1 (.slice a5 B.length c5) B.length (B.map bv) * (own 41 1 (.slice al' R.length cl) R.length (R.map Prod.fst) * rowsP R))) (h9.perm (by generalize own 5 1 (.slice a9 (2 + B.length + 2) c9') (2 + B.length + 2) ([bv 0, bv 0] ++ B.map bv ++ [bv 3, bv 4]) = O9; ac_rfl))
      refine HD.mono ?_
      rintro e W10 ⟨v10, R2, rfl, hR2, h10⟩
      have hS2 : (fun w' : World => w'.cell? ⟨bO, 0, none⟩ = some (.bool two)) W10 := h10.right.right.right.cell 0 rfl
      refine hK _ _ ⟨fun e => hS2, ?_⟩
      clear hK K hS HD
      refine till_take0 (i := 11) (oi := ?_) (v := ?_) ?_ (by kernel_rfl) (by kernel_rfl) (by kernel_rfl) (by decide) (fun _ _ _ h => h.elim) (by assumption) (.inl ⟨?_, fun w => ?_⟩) ?_
      rotate_left 2
      · (simp only [List.getElem?_toArray, List.getElem?_cons_succ, List.getElem?_cons_zero]; rfl)
      · rfl
      · (go_simp; try with_reducible rfl)
      simp only [Act.put, List.setIfInBounds_toArray, List.set_cons_zero, List.set_cons_succ]
      refine till_take0 (i := 12) (oi := ?_) (v := ?_) ?_ (by kernel_rfl) (by kernel_rfl) (by kernel_rfl) (by decide) (fun _ _ _ h => h.elim) (by assumption) (.inl ⟨?_, fun w => ?_⟩) ?_
      rotate_left 2
      · (simp only [List.getElem?_toArray, List.getElem?_cons_succ, List.getElem?_cons_zero]; rfl)
      · rfl
      · (go_simp; try with_reducible rfl)
      simp only [Act.put, List.setIfInBounds_toArray, List.set_cons_zero, List.set_cons_succ]
      refine till_take0 (i := 13) (oi := ?_) (v := ?_) ?_ (by kernel_rfl) (by kernel_rfl) (by kernel_rfl) (by decide) (fun _ _ _ h => h.elim) (by assumption) (.inl ⟨?_, fun w => ?_⟩) ?_
      rotate_left 2
      · (simp only [List.getElem?_toArray, List.getElem?_cons_succ, List.getElem?_cons_zero]; rfl)
      · rfl
      · (go_simp; try with_reducible rfl)
      simp only [Act.put, List.setIfInBounds_toArray, List.set_cons_zero, List.set_cons_succ]
      refine till_take0 (i := 14) (oi := ?_) (v := ?_) ?_ (by kernel_rfl) (by kernel_rfl) (by kernel_rfl) (by decide) (fun _ _ _ h => h.elim) (by assumption) (.inl ⟨?_, fun w => ?_⟩) ?_
      rotate_left 2
      · (simp only [List.getElem?_toArray, List.getElem?_cons_succ, List.getElem?_cons_zero]; rfl)
      · rfl
      · (go_simp; try with_reducible rfl)
      simp only [Act.put, List.setIfInBounds_toArray, List.set_cons_zero, List.set_cons_succ]
      refine till_take0 (i := 15) (oi := ?_) (v := ?_) ?_ (by kernel_rfl) (by kernel_rfl) (by kernel_rfl) (by decide) (fun _ _ _ h => h.elim) (by assumption) (.inl ⟨?_, fun w => ?_⟩) ?_
      rotate_left 2
      · (simp only [List.getElem?_toArray, List.getElem?_cons_succ, List.getElem?_cons_zero]; rfl)
      · rfl
      · (go_simp; try with_reducible rfl)
      simp only [Act.put, List.setIfInBounds_toArray, List.set_cons_zero, List.set_cons_succ]
      refine ⟨by kernel_rfl, NoPanic.normal ?_⟩
      clear hS2
      have hRR : R2.map Prod.snd = R.map Prod.snd := by rw [hR2, HQ.out.2]; rfl
      have hR2l : R2.length = R.length := by have := congrArg List.length hRR; simpa using this
      rw [hR2l] at h10
      obtain ⟨a10, c10, rfl⟩ := h10.reads.sub
      have h10 := h10.perm (show _ = own 41 1 (.slice a10 R.length c10) R.length (R2.map Prod.fst) * (rowsP R2 * (own 41 1 (.slice al' R.length cl) R.length (R.map Prod.fst) * (rowsP R * ((own 5 1 (.slice (some ⟨gL, 0, none⟩) 2 2) 2 [bv 3, bv 4] * own 5 1 (.slice a5 B.length c5) B.length (B.map bv)) * (blk bO (.cells #[.bool two, .int .i64 every, .bool al, .bool fin] 46 (0, 0)) * Mz.old w))))) by ac_rfl)
      have HQ2 := Lib.hid (⟨hRR, hR2l⟩ : _ ∧ _)
      obtain ⟨EX, hEX⟩ : ∃ EX, EX = (own 5 1 (.slice (some ⟨gL, 0, none⟩) 2 2) 2 [bv 3, bv 4] * own 5 1 (.slice a5 B.length c5) B.length (B.map bv)) := ⟨_, rfl⟩
      rw [← hEX] at h10
      have H9 := Lib.hid h10
      clear h10 hRR hR2l hR2 h9 hEX
      simp only [erD]
      go_wp2_with fail
      go_loopw [81] (fun vi wr => ∃ k : Nat, k ≤ R.length ∧ vi = .int .i64 k ∧ St w wr (own 41 1 (.slice a10 R.length c10) R.length (R2.map Prod.fst) * (rowsP R2 * (own 41 1 (.slice al' R.length cl) R.length (R.map Prod.fst) * (rowsP R * (EX * (blk bO (.cells #[.bool two, .int .i64 every, .bool al, .bool fin] 46 (0, 0)) * Mz.old w))))))) (fun vi _ => R.length - (intOf vi).toNat)
      case atStart => exact ⟨0, by omega, rfl, H9.out⟩
      case round =>
        clear H9
        obtain ⟨k, hk, rfl, hst⟩ := hrel
        by_cases hkn : k < R.length
        · have hkl : (k : Int) < R.length := by omega
          have hk2 : k < R2.length := by rw [HQ2.out.2]; exact hkn
          obtain ⟨g, o, rfl, e1⟩ := (hst.reads).at_ hkn
          obtain ⟨g2, o2, rfl, e2⟩ := (hst.right.right.reads).at_ hkn
          have hx := List.getElem?_eq_getElem hkn
          have hy := List.getElem?_eq_getElem hk2
          have hz := congrArg (fun l => l[k]?) HQ2.out.1
          simp only [List.getElem?_map] at hz
          rw [hx, hy] at hz
          rw [List.getElem?_map, hy] at e1
          rw [List.getElem?_map, hx] at e2
          simp only [Option.map_some, Option.some.injEq] at e1 e2 hz
          have hm1 : R[k] ∈ R := List.getElem_mem hkn
          have hm2 : R2[k] ∈ R2 := List.getElem_mem hk2
          clear hx hy
          generalize R[k] = x at *
          generalize R2[k] = y at *
          obtain ⟨xv, xl⟩ := x
          obtain ⟨yv, yl⟩ := y
          simp only at hz e1 e2
          subst hz
          have r1 : ∀ n, Reads (wr.drewN n) 1 xv yl.length (yl.map nv) := fun n => rowsP_reads R _ (hst.drewN n).right.right.right _ hm1
          have r2 : ∀ n, Reads (wr.drewN n) 1 yv yl.length (yl.map nv) := fun n => rowsP_reads R2 _ (hst.drewN n).right _ hm2
          obtain ⟨ax, cx, rfl⟩ := (r1 0).sub
          obtain ⟨ay, cy, rfl⟩ := (r2 0).sub
          have HS := Lib.hid (fun n => Calls.quiet_of (by have C := same_any (r1 n) (r2 n); rw [decide_eq_true rfl] at C; exact C))
          have HST2 := Lib.hid hst
          clear hst r1 r2 hm1 hm2 hk2
          go_wp2_with fail
          go_quiet ((go_at_call 17; exact HS.out _))
          have H10 := Lib.hid (HST2.out.drewN nq)
          generalize wr.drewN nq = w12 at *
          go_wp2_with fail
          exact ⟨⟨k + 1, by omega, by go_num, H10.out⟩, by simp [intOf]; omega⟩
        · obtain rfl : k = R.length := by omega
          have HF := Lib.hid (FIN.out _ hst.right.right.right.right.right.right)
          clear hst
          go_wp2_with fail
          go_ret
          exact ⟨rfl, HF.out⟩
    · refine wpOp_step (by rfl) fun K hK => ?_
      have hAL : St w (W6.alloc (.cells #[.int .u8 3, .int .u8 4] 5)) (own 5 1 (.slice (some ⟨W6.heap.size, 0, none⟩) 2 2) 2 [bv 3, bv 4] * (own 5 1 (.slice (some ⟨gA, 0, none⟩) 2 2) 2 [bv 0, bv 0] * (own 5 1 (.slice a5 B.length c5) B.length (B.map bv) * (own 41 1 (.slice al' R.length cl) R.length (R.map Prod.fst) * (rowsP R * (blk bO (.cells #[.bool two, .int .i64 every, .bool al, .bool fin] 46 (0, 0)) * Mz.old w)))))) := hA.lit #[.int .u8 3, .int .u8 4] 5 2 rfl (by decide)
      go_simp
      refine hK _ _ ⟨fun e => CELL.out _ hAL.right.right.right.right.right, ?_⟩
      clear hK K
      generalize hgg : W6.heap.size = gL at *
      generalize hww : W6.alloc (.cells #[.int .u8 3, .int .u8 4] 5) = W7 at *
      clear hgg hww
      have h6 := hAL.perm (star_left_comm _ _ _)
      refine till_one (i := 2) (by kernel_rfl) ?_
      refine wpOp_step (by rfl) fun K hK => ?_
      refine step_append_L elemBytes rfl _ _ rfl rfl (stl2' h6) 0 rfl (x := .slice a5 B.length c5) rfl (m := B.length) (news := (B.map bv)) h6.right.right.reads (bv_oneCell B) (by unfold maxLen; omega) (by omega) fun v7 W8 h80 _ => ?_
      have h8 : St w W8 (own 5 1 v7 (2 + B.length) ([bv 0, bv 0] ++ (B.map bv)) * (own 5 1 (.slice (some ⟨gL, 0, none⟩) 2 2) 2 [bv 3, bv 4] * (own 5 1 (.slice a5 B.length c5) B.length (B.map bv) * (own 41 1 (.slice al' R.length cl) R.length (R.map Prod.fst) * (rowsP R * (blk bO (.cells #[.bool two, .int .i64 every, .bool al, .bool fin] 46 (0, 0)) * Mz.old w)))))) := stl2 h80
      refine hK _ _ ⟨fun e => CELL.out _ h8.right.right.right.right.right, ?_⟩
      clear hK K
      obtain ⟨a7, c7', rfl⟩ := h8.reads.sub
      have HR34 := h8.right.reads
      refine till_one (i := 4) (by kernel_rfl) ?_
      refine wpOp_step (by rfl) fun K hK => ?_
      refine step_append_L elemBytes rfl _ _ rfl rfl (stl2' h8) 0 rfl (x := .slice (some ⟨gL, 0, none⟩) 2 2) rfl (m := 2) (news := [bv 3, bv 4]) HR34 (bv_oneCell [3, 4]) (by unfold maxLen; omega) (by omega) fun v9 W9 h90 _ => ?_
      have h9 : St w W9 (own 5 1 v9 ((2 + B.length) + 2) (([bv 0, bv 0] ++ B.map bv) ++ [bv 3, bv 4]) * (own 5 1 (.slice (some ⟨gL, 0, none⟩) 2 2) 2 [bv 3, bv 4] * (own 5 1 (.slice a5 B.length c5) B.length (B.map bv) * (own 41 1 (.slice al' R.length cl) R.length (R.map Prod.fst) * (rowsP R * (blk bO (.cells #[.bool two, .int .i64 every, .bool al, .bool fin] 46 (0, 0)) * Mz.old w)))))) := stl2 h90
      refine hK _ _ ⟨fun e => CELL.out _ h9.right.right.right.right.right, ?_⟩
      clear hK K
      clear HR34
      obtain ⟨a9, c9', rfl⟩ := h9.reads.sub
      refine till_one (i := 10) (by kernel_rfl) ?_
      refine wpOp_step (by rfl) fun K hK => ?_
      go_simp
      have HD := HDEC.out _ _ (own 5 1 (.slice (some ⟨gL, 0, none⟩) 2 2) 2 [bv 3, bv 4] * (own 5 1 (.slice a5 B.length c5) B.length (B.map bv) * (own 41 1 (.slice al' R.length cl) R.length (R.map Prod.fst) * rowsP R))) (h9.perm (by generalize own 5 1 (.slice a9 (2 + B.length + 2) c9') (2 + B.length + 2) ([bv 0, bv 0] ++ B.map bv ++ [bv 3, bv 4]) = O9; ac_rfl))
      refine HD.mono ?_
      rintro e W10 ⟨v10, R2, rfl, hR2, h10⟩
      have hS2 : (fun w' : World => w'.cell? ⟨bO, 0, none⟩ = some (.bool two)) W10 := h10.right.right.right.cell 0 rfl
      refine hK _ _ ⟨fun e => hS2, ?_⟩
      clear hK K hS HD
      refine till_take0 (i := 11) (oi := ?_) (v := ?_) ?_ (by kernel_rfl) (by kernel_rfl) (by kernel_rfl) (by decide) (fun _ _ _ h => h.elim) (by assumption) (.inl ⟨?_, fun w => ?_⟩) ?_
      rotate_left 2
      · (simp only [List.getElem?_toArray, List.getElem?_cons_succ, List.getElem?_cons_zero]; rfl)
      · rfl
      · (go_simp; try with_reducible rfl)
      simp only [Act.put, List.setIfInBounds_toArray, List.set_cons_zero, List.set_cons_succ]
      refine till_take0 (i := 12) (oi := ?_) (v := ?_) ?_ (by kernel_rfl) (by kernel_rfl) (by kernel_rfl) (by decide) (fun _ _ _ h => h.elim) (by assumption) (.inl ⟨?_, fun w => ?_⟩) ?_
      rotate_left 2
      · (simp only [List.getElem?_toArray, List.getElem?_cons_succ, List.getElem?_cons_zero]; rfl)
      · rfl
      · (go_simp; try with_reducible rfl)
      simp only [Act.put, List.setIfInBounds_toArray, List.set_cons_zero, List.set_cons_succ]
      refine till_take0 (i := 13) (oi := ?_) (v := ?_) ?_ (by kernel_rfl) (by kernel_rfl) (by kernel_rfl) (by decide) (fun _ _ _ h => h.elim) (by assumption) (.inl ⟨?_, fun w => ?_⟩) ?_
      rotate_left 2
      · (simp only [List.getElem?_toArray, List.getElem?_cons_succ, List.getElem?_cons_zero]; rfl)
      · rfl
      · (go_simp; try with_reducible rfl)
      simp only [Act.put, List.setIfInBounds_toArray, List.set_cons_zero, List.set_cons_succ]
      refine till_take0 (i := 14) (oi := ?_) (v := ?_) ?_ (by kernel_rfl) (by kernel_rfl) (by kernel_rfl) (by decide) (fun _ _ _ h => h.elim) (by assumption) (.inl ⟨?_, fun w => ?_⟩) ?_
      rotate_left 2
      · (simp only [List.getElem?_toArray, List.getElem?_cons_succ, List.getElem?_cons_zero]; rfl)
      · rfl
      · (go_simp; try with_reducible rfl)
      simp only [Act.put, List.setIfInBounds_toArray, List.set_cons_zero, List.set_cons_succ]
      refine till_take0 (i := 15) (oi := ?_) (v := ?_) ?_ (by kernel_rfl) (by kernel_rfl) (by kernel_rfl) (by decide) (fun _ _ _ h => h.elim) (by assumption) (.inl ⟨?_, fun w => ?_⟩) ?_
      rotate_left 2
      · (simp only [List.getElem?_toArray, List.getElem?_cons_succ, List.getElem?_cons_zero]; rfl)
      · rfl
      · (go_simp; try with_reducible rfl)
      simp only [Act.put, List.setIfInBounds_toArray, List.set_cons_zero, List.set_cons_succ]
      refine ⟨by kernel_rfl, NoPanic.normal ?_⟩
      clear hS2
      have hRR : R2.map Prod.snd = R.map Prod.snd := by rw [hR2, HQ.out.2]; rfl
      have hR2l : R2.length = R.length := by have := congrArg List.length hRR; simpa using this
      rw [hR2l] at h10
      obtain ⟨a10, c10, rfl⟩ := h10.reads.sub
      have h10 := h10.perm (show _ = own 41 1 (.slice a10 R.length c10) R.length (R2.map Prod.fst) * (rowsP R2 * (own 41 1 (.slice al' R.length cl) R.length (R.map Prod.fst) * (rowsP R * ((own 5 1 (.slice (some ⟨gL, 0, none⟩) 2 2) 2 [bv 3, bv 4] * own 5 1 (.slice a5 B.length c5) B.length (B.map bv)) * (blk bO (.cells #[.bool two, .int .i64 every, .bool al, .bool fin] 46 (0, 0)) * Mz.old w))))) by ac_rfl)
      have HQ2 := Lib.hid (⟨hRR, hR2l⟩ : _ ∧ _)
      obtain ⟨EX, hEX⟩ : ∃ EX, EX = (own 5 1 (.slice (some ⟨gL, 0, none⟩) 2 2) 2 [bv 3, bv 4] * own 5 1 (.slice a5 B.length c5) B.length (B.map bv)) := ⟨_, rfl⟩
      rw [← hEX] at h10
      have H9 := Lib.hid h10
      clear h10 hRR hR2l hR2 h9 hEX
      simp only [erD]
      go_wp2_with fail
      go_loopw [81] (fun vi wr => ∃ k : Nat, k ≤ R.length ∧ vi = .int .i64 k ∧ St w wr (own 41 1 (.slice a10 R.length c10) R.length (R2.map Prod.fst) * (rowsP R2 * (own 41 1 (.slice al' R.length cl) R.length (R.map Prod.fst) * (rowsP R * (EX * (blk bO (.cells #[.bool two, .int .i64 every, .bool al, .bool fin] 46 (0, 0)) * Mz.old w))))))) (fun vi _ => R.length - (intOf vi).toNat)
      case atStart => exact ⟨0, by omega, rfl, H9.out⟩
      case round =>
        clear H9
        obtain ⟨k, hk, rfl, hst⟩ := hrel
        by_cases hkn : k < R.length
        · have hkl : (k : Int) < R.length := by omega
          have hk2 : k < R2.length := by rw [HQ2.out.2]; exact hkn
          obtain ⟨g, o, rfl, e1⟩ := (hst.reads).at_ hkn
          obtain ⟨g2, o2, rfl, e2⟩ := (hst.right.right.reads).at_ hkn
          have hx := List.getElem?_eq_getElem hkn
          have hy := List.getElem?_eq_getElem hk2
          have hz := congrArg (fun l => l[k]?) HQ2.out.1
          simp only [List.getElem?_map] at hz
          rw [hx, hy] at hz
          rw [List.getElem?_map, hy] at e1
          rw [List.getElem?_map, hx] at e2
          simp only [Option.map_some, Option.some.injEq] at e1 e2 hz
          have hm1 : R[k] ∈ R := List.getElem_mem hkn
          have hm2 : R2[k] ∈ R2 := List.getElem_mem hk2
          clear hx hy
          generalize R[k] = x at *
          generalize R2[k] = y at *
          obtain ⟨xv, xl⟩ := x
          obtain ⟨yv, yl⟩ := y
          simp only at hz e1 e2
          subst hz
          have r1 : ∀ n, Reads (wr.drewN n) 1 xv yl.length (yl.map nv) := fun n => rowsP_reads R _ (hst.drewN n).right.right.right _ hm1
          have r2 : ∀ n, Reads (wr.drewN n) 1 yv yl.length (yl.map nv) := fun n => rowsP_reads R2 _ (hst.drewN n).right _ hm2
          obtain ⟨ax, cx, rfl⟩ := (r1 0).sub
          obtain ⟨ay, cy, rfl⟩ := (r2 0).sub
          have HS := Lib.hid (fun n => Calls.quiet_of (by have C := same_any (r1 n) (r2 n); rw [decide_eq_true rfl] at C; exact C))
          have HST2 := Lib.hid hst
          clear hst r1 r2 hm1 hm2 hk2
          go_wp2_with fail
          go_quiet ((go_at_call 17; exact HS.out _))
          have H10 := Lib.hid (HST2.out.drewN nq)
          generalize wr.drewN nq = w12 at *
          go_wp2_with fail
          exact ⟨⟨k + 1, by omega, by go_num, H10.out⟩, by simp [intOf]; omega⟩
        · obtain rfl : k = R.length := by omega
          have HF := Lib.hid (FIN.out _ hst.right.right.right.right.right.right)
          clear hst
          go_wp2_with fail
          go_ret
          exact ⟨rfl, HF.out⟩
  · refine wpOp_step (by rfl) fun K hK => ?_
    have hB : St w (W5.alloc (.cells #[.int .u8 3, .int .u8 4] 5)) (own 5 1 (.slice (some ⟨W5.heap.size, 0, none⟩) 2 2) 2 [bv 3, bv 4] * ((own 5 1 (.slice a5 B.length c5) B.length (B.map bv) * (own 41 1 (.slice al' R.length cl) R.length (R.map Prod.fst) * (rowsP R * (blk bO (.cells #[.bool two, .int .i64 every, .bool al, .bool fin] 46 (0, 0)) * Mz.old w)))))) := HC.out.lit #[.int .u8 3, .int .u8 4] 5 2 rfl (by decide)
    go_simp
    refine hK _ _ ⟨fun e => CELL.out _ hB.right.right.right.right, ?_⟩
    clear hK K
    generalize hgg : W5.heap.size = gL at *
    generalize hww : W5.alloc (.cells #[.int .u8 3, .int .u8 4] 5) = W6 at *
    clear hgg hww
    refine till_one (i := 0) (by kernel_rfl) ?_
    refine wpOp_step (by rfl) fun K hK => ?_
    have h6 : St w (W6.alloc (.cells #[.int .u8 0, .int .u8 0] 5)) (own 5 1 (.slice (some ⟨W6.heap.size, 0, none⟩) 2 2) 2 [bv 0, bv 0] * (own 5 1 (.slice (some ⟨gL, 0, none⟩) 2 2) 2 [bv 3, bv 4] * (own 5 1 (.slice a5 B.length c5) B.length (B.map bv) * (own 41 1 (.slice al' R.length cl) R.length (R.map Prod.fst) * (rowsP R * (blk bO (.cells #[.bool two, .int .i64 every, .bool al, .bool fin] 46 (0, 0)) * Mz.old w)))))) := hB.lit #[.int .u8 0, .int .u8 0] 5 2 rfl (by decide)
    go_simp
    refine hK _ _ ⟨fun e => CELL.out _ h6.right.right.right.right.right, ?_⟩
    clear hK K
    generalize hgg : W6.heap.size = gA at *
    generalize hww : W6.alloc (.cells #[.int .u8 0, .int .u8 0] 5) = W7 at *
    clear hgg hww
    refine till_one (i := 2) (by kernel_rfl) ?_
    refine wpOp_step (by rfl) fun K hK => ?_
    refine step_append_L elemBytes rfl _ _ rfl rfl (stl2' h6) 0 rfl (x := .slice a5 B.length c5) rfl (m := B.length) (news := (B.map bv)) h6.right.right.reads (bv_oneCell B) (by unfold maxLen; omega) (by omega) fun v7 W8 h80 _ => ?_
    have h8 : St w W8 (own 5 1 v7 (2 + B.length) ([bv 0, bv 0] ++ (B.map bv)) * (own 5 1 (.slice (some ⟨gL, 0, none⟩) 2 2) 2 [bv 3, bv 4] * (own 5 1 (.slice a5 B.length c5) B.length (B.map bv) * (own 41 1 (.slice al' R.length cl) R.length (R.map Prod.fst) * (rowsP R * (blk bO (.cells #[.bool two, .int .i64 every, .bool al, .bool fin] 46 (0, 0)) * Mz.old w)))))) := stl2 h80
    refine hK _ _ ⟨fun e => CELL.out _ h8.right.right.right.right.right, ?_⟩
    clear hK K
    obtain ⟨a7, c7', rfl⟩ := h8.reads.sub
    have HR34 := h8.right.reads
    refine till_one (i := 4) (by kernel_rfl) ?_
    refine wpOp_step (by rfl) fun K hK => ?_
    refine step_append_L elemBytes rfl _ _ rfl rfl (stl2' h8) 0 rfl (x := .slice (some ⟨gL, 0, none⟩) 2 2) rfl (m := 2) (news := [bv 3, bv 4]) HR34 (bv_oneCell [3, 4]) (by unfold maxLen; omega) (by omega) fun v9 W9 h90 _ => ?_
    have h9 : St w W9 (own 5 1 v9 ((2 + B.length) + 2) (([bv 0, bv 0] ++ B.map bv) ++ [bv 3, bv 4]) * (own 5 1 (.slice (some ⟨gL, 0, none⟩) 2 2) 2 [bv 3, bv 4] * (own 5 1 (.slice a5 B.length c5) B.length (B.map bv) * (own 41 1 (.slice al' R.length cl) R.length (R.map Prod.fst) * (rowsP R * (blk bO (.cells #[.bool two, .int .i64 every, .bool al, .bool fin] 46 (0, 0)) * Mz.old w)))))) := stl2 h90
    refine hK _ _ ⟨fun e => CELL.out _ h9.right.right.right.right.right, ?_⟩
    clear hK K
    clear HR34
    obtain ⟨a9, c9', rfl⟩ := h9.reads.sub
    refine till_one (i := 10) (by kernel_rfl) ?_
    refine wpOp_step (by rfl) fun K hK => ?_
    go_simp
    have HD := HDEC.out _ _ (own 5 1 (.slice (some ⟨gL, 0, none⟩) 2 2) 2 [bv 3, bv 4] * (own 5 1 (.slice a5 B.length c5) B.length (B.map bv) * (own 41 1 (.slice al' R.length cl) R.length (R.map Prod.fst) * rowsP R))) (h9.perm (by generalize own 5 1 (.slice a9 (2 + B.length + 2) c9') (2 + B.length + 2) ([bv 0, bv 0] ++ B.map bv ++ [bv 3, bv 4]) = O9; ac_rfl))
    refine HD.mono ?_
    rintro e W10 ⟨v10, R2, rfl, hR2, h10⟩
    have hS2 : (fun w' : World => w'.cell? ⟨bO, 0, none⟩ = some (.bool two)) W10 := h10.right.right.right.cell 0 rfl
    refine hK _ _ ⟨fun e => hS2, ?_⟩
    clear hK K hS HD
    refine till_take0 (i := 11) (oi := ?_) (v := ?_) ?_ (by kernel_rfl) (by kernel_rfl) (by kernel_rfl) (by decide) (fun _ _ _ h => h.elim) (by assumption) (.inl ⟨?_, fun w => ?_⟩) ?_
    rotate_left 2
    · (simp only [List.getElem?_toArray, List.getElem?_cons_succ, List.getElem?_cons_zero]; rfl)
    · rfl
    · (go_simp; try with_reducible rfl)
    simp only [Act.put, List.setIfInBounds_toArray, List.set_cons_zero, List.set_cons_succ]
    refine till_take0 (i := 12) (oi := ?_) (v := ?_) ?_ (by kernel_rfl) (by kernel_rfl) (by kernel_rfl) (by decide) (fun _ _ _ h => h.elim) (by assumption) (.inl ⟨?_, fun w => ?_⟩) ?_
    rotate_left 2
    · (simp only [List.getElem?_toArray, List.getElem?_cons_succ, List.getElem?_cons_zero]; rfl)
    · rfl
    · (go_simp; try with_reducible rfl)
    simp only [Act.put, List.setIfInBounds_toArray, List.set_cons_zero, List.set_cons_succ]
    refine till_take0 (i := 13) (oi := ?_) (v := ?_) ?_ (by kernel_rfl) (by kernel_rfl) (by kernel_rfl) (by decide) (fun _ _ _ h => h.elim) (by assumption) (.inl ⟨?_, fun w => ?_⟩) ?_
    rotate_left 2
    · (simp only [List.getElem?_toArray, List.getElem?_cons_succ, List.getElem?_cons_zero]; rfl)
    · rfl
    · (go_simp; try with_reducible rfl)
    simp only [Act.put, List.setIfInBounds_toArray, List.set_cons_zero, List.set_cons_succ]
    refine till_take0 (i := 14) (oi := ?_) (v := ?_) ?_ (by kernel_rfl) (by kernel_rfl) (by kernel_rfl) (by decide) (fun _ _ _ h => h.elim) (by assumption) (.inl ⟨?_, fun w => ?_⟩) ?_
    rotate_left 2
    · (simp only [List.getElem?_toArray, List.getElem?_cons_succ, List.getElem?_cons_zero]; rfl)
    · rfl
    · (go_simp; try with_reducible rfl)
    simp only [Act.put, List.setIfInBounds_toArray, List.set_cons_zero, List.set_cons_succ]
    refine till_take0 (i := 15) (oi := ?_) (v := ?_) ?_ (by kernel_rfl) (by kernel_rfl) (by kernel_rfl) (by decide) (fun _ _ _ h => h.elim) (by assumption) (.inl ⟨?_, fun w => ?_⟩) ?_
    rotate_left 2
    · (simp only [List.getElem?_toArray, List.getElem?_cons_succ, List.getElem?_cons_zero]; rfl)
    · rfl
    · (go_simp; try with_reducible rfl)
    simp only [Act.put, List.setIfInBounds_toArray, List.set_cons_zero, List.set_cons_succ]
    refine ⟨by kernel_rfl, NoPanic.normal ?_⟩
    clear hS2
    have hRR : R2.map Prod.snd = R.map Prod.snd := by rw [hR2, HQ.out.2]; rfl
    have hR2l : R2.length = R.length := by have := congrArg List.length hRR; simpa using this
    rw [hR2l] at h10
    obtain ⟨a10, c10, rfl⟩ := h10.reads.sub
    have h10 := h10.perm (show _ = own 41 1 (.slice a10 R.length c10) R.length (R2.map Prod.fst) * (rowsP R2 * (own 41 1 (.slice al' R.length cl) R.length (R.map Prod.fst) * (rowsP R * ((own 5 1 (.slice (some ⟨gL, 0, none⟩) 2 2) 2 [bv 3, bv 4] * own 5 1 (.slice a5 B.length c5) B.length (B.map bv)) * (blk bO (.cells #[.bool two, .int .i64 every, .bool al, .bool fin] 46 (0, 0)) * Mz.old w))))) by ac_rfl)
    have HQ2 := Lib.hid (⟨hRR, hR2l⟩ : _ ∧ _)
    obtain ⟨EX, hEX⟩ : ∃ EX, EX = (own 5 1 (.slice (some ⟨gL, 0, none⟩) 2 2) 2 [bv 3, bv 4] * own 5 1 (.slice a5 B.length c5) B.length (B.map bv)) := ⟨_, rfl⟩
    rw [← hEX] at h10
    have H9 := Lib.hid h10
    clear h10 hRR hR2l hR2 h9 hEX
    simp only [erD]
    go_wp2_with fail
    go_loopw [81] (fun vi wr => ∃ k : Nat, k ≤ R.length ∧ vi = .int .i64 k ∧ St w wr (own 41 1 (.slice a10 R.length c10) R.length (R2.map Prod.fst) * (rowsP R2 * (own 41 1 (.slice al' R.length cl) R.length (R.map Prod.fst) * (rowsP R * (EX * (blk bO (.cells #[.bool two, .int .i64 every, .bool al, .bool fin] 46 (0, 0)) * Mz.old w))))))) (fun vi _ => R.length - (intOf vi).toNat)
    case atStart => exact ⟨0, by omega, rfl, H9.out⟩
    case round =>
      clear H9
      obtain ⟨k, hk, rfl, hst⟩ := hrel
      by_cases hkn : k < R.length
      · have hkl : (k : Int) < R.length := by omega
        have hk2 : k < R2.length := by rw [HQ2.out.2]; exact hkn
        obtain ⟨g, o, rfl, e1⟩ := (hst.reads).at_ hkn
        obtain ⟨g2, o2, rfl, e2⟩ := (hst.right.right.reads).at_ hkn
        have hx := List.getElem?_eq_getElem hkn
        have hy := List.getElem?_eq_getElem hk2
        have hz := congrArg (fun l => l[k]?) HQ2.out.1
        simp only [List.getElem?_map] at hz
        rw [hx, hy] at hz
        rw [List.getElem?_map, hy] at e1
        rw [List.getElem?_map, hx] at e2
        simp only [Option.map_some, Option.some.injEq] at e1 e2 hz
        have hm1 : R[k] ∈ R := List.getElem_mem hkn
        have hm2 : R2[k] ∈ R2 := List.getElem_mem hk2
        clear hx hy
        generalize R[k] = x at *
        generalize R2[k] = y at *
        obtain ⟨xv, xl⟩ := x
        obtain ⟨yv, yl⟩ := y
        simp only at hz e1 e2
        subst hz
        have r1 : ∀ n, Reads (wr.drewN n) 1 xv yl.length (yl.map nv) := fun n => rowsP_reads R _ (hst.drewN n).right.right.right _ hm1
        have r2 : ∀ n, Reads (wr.drewN n) 1 yv yl.length (yl.map nv) := fun n => rowsP_reads R2 _ (hst.drewN n).right _ hm2
        obtain ⟨ax, cx, rfl⟩ := (r1 0).sub
        obtain ⟨ay, cy, rfl⟩ := (r2 0).sub
        have HS := Lib.hid (fun n => Calls.quiet_of (by have C := same_any (r1 n) (r2 n); rw [decide_eq_true rfl] at C; exact C))
        have HST2 := Lib.hid hst
        clear hst r1 r2 hm1 hm2 hk2
        go_wp2_with fail
        go_quiet ((go_at_call 17; exact HS.out _))
        have H10 := Lib.hid (HST2.out.drewN nq)
        generalize wr.drewN nq = w12 at *
        go_wp2_with fail
        exact ⟨⟨k + 1, by omega, by go_num, H10.out⟩, by simp [intOf]; omega⟩
      · obtain rfl : k = R.length := by omega
        have HF := Lib.hid (FIN.out _ hst.right.right.right.right.right.right)
        clear hst
        go_wp2_with fail
        go_ret
        exact ⟨rfl, HF.out⟩
end Go.Proofs.YtdjoigobmmaaiaaDoor.iagain
