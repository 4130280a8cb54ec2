/-
  Layer 16: what is told is read, whatever stands behind; more rows than there are, aren't.
-/
import Derived.Test.YtdjoigobmmaaiaaDoorG4V
import Derived.Deep.QuietTactic
import Derived.BigQuiet
namespace Go.Proofs.YtdjoigobmmaaiaaDoor.gagain
open Go.RowKit Go.Mz
set_option linter.unusedVariables false
set_option linter.unusedSimpArgs false
set_option maxRecDepth 100000

set_option maxHeartbeats 40000000 in
theorem walk (vL : Value) (L : List (Value × List UInt8)) (wid : Int) (vm : Value) (ms : List UInt8) (w : World) (hL : Reads w 1 vL L.length (L.map Prod.fst)) (hLs : textsIn w L) (hM : Reads w 1 vm ms.length (ms.map bv)) (htab : Lib.TabIs Tryd.prog w "strings.asciiSpace" .u8 Lib.asciiSpaceTab) :
    Calls Tryd.prog 5 #[vL, .int .i64 wid, vm] w fun e w' => e = .returned (.bool true) ∧ Below w.heap.size w w' := by
  have HT := Lib.hid (tab_old htab); clear htab
  have HL := Lib.hid (Stb.of_old hL)
  have HM := Lib.hid (Stb.of_old hM)
  have HX := Lib.hid (fun x hx => Stb.of_old (hLs x hx))
  obtain ⟨a0, c0, rfl⟩ := hL.sub
  obtain ⟨am, cm, rfl⟩ := hM.sub
  have hm := hL.len_le
  have hm2 := hM.len_le
  unfold maxLen at hm hm2
  clear hL hLs hM
  have H := Lib.hid (St.init w)
  have fin : ∀ w', St w w' (Mz.old w) → Below w.heap.size w w' := fun w' h => (h.perm ((emp_star _).symm.trans (star_comm _ _))).below
  have FIN := Lib.hid fin; clear fin
  have T := elemBytes
  go_enter Tryd.func5, Tryd.ntmps5
  go_wp2_with fail
  refine (lives16 H.out HT.out).mono ?_
  rintro e w1 ⟨rfl, h2⟩
  have H2 := Lib.hid h2; clear h2 H
  by_cases hbad : 20 < L.length ∨ wid < 1 ∨ 300 < wid ∨ 50 < ms.length
  · have hd : (20 : Int) < L.length ∨ (¬ (20 : Int) < L.length ∧ wid < 1) ∨ (¬ (20 : Int) < L.length ∧ ¬ wid < 1 ∧ 300 < wid) ∨ (¬ (20 : Int) < L.length ∧ ¬ wid < 1 ∧ ¬ 300 < wid ∧ (50 : Int) < ms.length) := by omega
    clear hbad
    rcases hd with h1 | ⟨h1, h2⟩ | ⟨h1, h2, h3⟩ | ⟨h1, h2, h3, h4⟩
    · go_wp2_with fail
      refine (lives16 H2.out HT.out).mono ?_
      rintro e w2 ⟨rfl, h3⟩
      have H3 := Lib.hid h3; clear h3
      go_wp2_with fail
      go_ret
      exact ⟨rfl, FIN.out _ H3.out⟩
    · have h1d : decide ((20 : Int) < L.length) = false := decide_eq_false h1
      have h2d : decide (wid < 1) = true := decide_eq_true h2
      go_wp2_with fail
      refine (lives16 H2.out HT.out).mono ?_
      rintro e w2 ⟨rfl, h3⟩
      have H3 := Lib.hid h3; clear h3
      go_wp2_with fail
      go_ret
      exact ⟨rfl, FIN.out _ H3.out⟩
    · have h1d : decide ((20 : Int) < L.length) = false := decide_eq_false h1
      have h2d : decide (wid < 1) = false := decide_eq_false h2
      have h3d : decide (300 < wid) = true := decide_eq_true h3
      go_wp2_with fail
      refine (lives16 H2.out HT.out).mono ?_
      rintro e w2 ⟨rfl, h3⟩
      have H3 := Lib.hid h3; clear h3
      go_wp2_with fail
      go_ret
      exact ⟨rfl, FIN.out _ H3.out⟩
    · have h1d : decide ((20 : Int) < L.length) = false := decide_eq_false h1
      have h2d : decide (wid < 1) = false := decide_eq_false h2
      have h3d : decide (300 < wid) = false := decide_eq_false h3
      go_wp2_with fail
      refine (lives16 H2.out HT.out).mono ?_
      rintro e w2 ⟨rfl, h3⟩
      have H3 := Lib.hid h3; clear h3
      go_wp2_with fail
      go_ret
      exact ⟨rfl, FIN.out _ H3.out⟩
  have h1 : ¬ (20 : Int) < L.length := by omega
  have h2 : ¬ wid < 1 := by omega
  have h3 : ¬ 300 < wid := by omega
  have h4 : ¬ (50 : Int) < ms.length := by omega
  have h1d : decide ((20 : Int) < L.length) = false := decide_eq_false h1
  have h2d : decide (wid < 1) = false := decide_eq_false h2
  have h3d : decide (300 < wid) = false := decide_eq_false h3
  have hL20 : L.length ≤ 20 := by omega
  have hM50 : ms.length ≤ 50 := by omega
  clear hbad
  obtain ⟨width, rfl⟩ : ∃ width : Nat, wid = width := ⟨wid.toNat, by omega⟩
  have hw1 : 1 ≤ width := by omega
  have hw3 : width ≤ 300 := by omega
  have HC := Lib.hid (texts16_any H2.out HL.out HX.out (by omega) (width := width) (by omega))
  clear H2
  go_wp2_with fail
  refine HC.out.mono ?_
  clear h1d h2d h3d h1 h2 h3 h4 HC
  rintro e w2 (⟨rfl, h3⟩ | ⟨vs, vl, Ps, R, rfl, hPl, hRP, hPs, h3⟩)
  · have HF := Lib.hid (FIN.out _ h3); clear h3
    go_wp2_with fail
    go_ret
    exact ⟨rfl, HF.out⟩
  have h3 := h3.right
  obtain ⟨al, cl, rfl⟩ := h3.reads.sub
  have hRl : R.length = Ps.length := by have := congrArg List.length hRP; simpa using this
  have hRl2 : R.length ≤ 20 := by omega
  have hro : ∀ x ∈ R, RowOk width x.2 := fun x hx => by
    have h1 : x.2 ∈ R.map Prod.snd := List.mem_map_of_mem hx
    rw [hRP] at h1
    obtain ⟨P, hP, e⟩ := List.mem_map.1 h1
    rw [← e]
    exact rowOk_chg (hPs P hP).1 (by omega)
  have HE := Lib.hid (encode16_any (width := width) h3 (fun w h => HT.out w h.right.right) (v := .slice al R.length cl) (fun w h => h.reads) (fun w h => rowsP_reads R _ h.right) (by omega) (by omega) hro (by omega))
  rw [hRP] at HE
  have hE1 := (enc4_told (width := width) hw1 (by omega) hPs ms R.length).1 (by omega)
  have hE2 := (enc4_told (width := width) hw1 (by omega) hPs [] 0).2
  rw [List.take_of_length_le (by omega)] at hE1
  rw [List.append_nil, ← hRl] at hE2
  have hBl : (bytesB false (enc4 width (Ps.map chg))).length ≤ 10000000 := by
    have h1 : (bytesB false (enc4 width (Ps.map chg))).length = ((enc4 width (Ps.map chg)).length + 7) / 8 := length_bytesB _ _
    have h2 := agAll_len (width := width) (by omega) (Ps.map chg) [] (fun l hl => by obtain ⟨P, hP, rfl⟩ := List.mem_map.1 hl; exact rowOk_chg (hPs P hP).1 (by omega)) ⟨List.Pairwise.nil, fun x hx => by cases hx⟩
    rw [List.length_map] at h2
    rw [h1, enc4, List.length_append, endW_len]; omega
  generalize bytesB false (enc4 width (Ps.map chg)) = B at *
  have HQ := Lib.hid (⟨hE1, hE2, hRP⟩ : _ ∧ _ ∧ _)
  clear h3 hRP hPs hro hPl hRl hE1 hE2
  go_wp2_with fail
  refine HE.out.mono ?_
  rintro e w5 ⟨v5, rfl, h5⟩
  obtain ⟨a5, c5, rfl⟩ := h5.reads.sub
  have h6 := h5.lit #[] 5 0 rfl (by decide)
  have H6 := Lib.hid h6; clear h5 h6 HE
  obtain ⟨gE, hgE⟩ : ∃ gE, gE = w5.heap.size := ⟨_, rfl⟩
  rw [← hgE] at H6
  go_wp2_with (at_builtin; apply stop)
  rw [← hgE]
  refine on (wpList_append_sep T rfl _ _ rfl rfl H6.out rfl H6.out.right.reads (bv_oneCell B) (by unfold maxLen; omega) (by omega) ?_)
  intro v7 w7 h7 _
  have h7 : St w w7 (own 5 1 v7 B.length (B.map bv) * (own 5 1 (.slice a5 B.length c5) B.length (B.map bv) * (own 41 1 (.slice al R.length cl) R.length (R.map Prod.fst) * (rowsP R * Mz.old w)))) := by
    rw [Nat.zero_add] at h7; exact h7
  obtain ⟨a7, c7, rfl⟩ := h7.reads.sub
  have H7 := Lib.hid h7; clear h7 H6 hgE
  simp only [Nat.zero_add]
  go_wp2_with (at_builtin; apply stop)
  refine on (wpList_append_sep T rfl _ _ rfl rfl H7.out rfl (HM.out _ H7.out.right.right.right.right) (bv_oneCell ms) (by unfold maxLen; omega) (by omega) ?_)
  intro v8 w8 h8 _
  have h8 : St w w8 (own 5 1 v8 (B ++ ms).length ((B ++ ms).map bv) * (own 5 1 (.slice a5 B.length c5) B.length (B.map bv) * (own 41 1 (.slice al R.length cl) R.length (R.map Prod.fst) * (rowsP R * Mz.old w)))) := by
    rw [List.length_append, List.map_append]; exact h8
  obtain ⟨a8, c8, rfl⟩ := h8.reads.sub
  have hBm : (B ++ ms).length = B.length + ms.length := List.length_append
  have C1 := decode16_any h8 (fun w h => HT.out w h.right.right.right.right) (bs := B ++ ms) (vb := .slice a8 (B ++ ms).length c8) Stb.of_own (by omega) (width := width) (N := R.length) hw1 (by omega) (by omega)
  rw [HQ.out.1] at C1
  have HC1 := Lib.hid C1
  have hBm2 : (B.length : Int) + ms.length = ((B ++ ms).length : Nat) := by omega
  clear C1 h8 H7
  try rw [← hBm]
  generalize hBM : B ++ ms = BM at *
  clear hBM hBm
  have HBM := Lib.hid hBm2; clear hBm2
  go_wp2_with fail
  refine HC1.out.mono ?_
  rintro e w9 ⟨v9, R2, rfl, hR2, h9⟩
  have hRR : R2.map Prod.snd = R.map Prod.snd := by rw [hR2, HQ.out.2.2]; rfl
  have hR2l : R2.length = R.length := by have := congrArg List.length hRR; simpa using this
  rw [hR2l] at h9
  obtain ⟨a9, c9, rfl⟩ := h9.reads.sub
  have h9 := h9.perm (show _ = own 5 1 (.slice a8 BM.length c8) BM.length (BM.map bv) * (own 41 1 (.slice a9 R.length c9) R.length (R2.map Prod.fst) * (rowsP R2 * (own 41 1 (.slice al R.length cl) R.length (R.map Prod.fst) * (rowsP R * (own 5 1 (.slice a5 B.length c5) B.length (B.map bv) * Mz.old w))))) by ac_rfl)
  have HQ2 := Lib.hid (⟨hRR, hR2l⟩ : _ ∧ _)
  have H9 := Lib.hid h9.right
  clear h9 hRR hR2l hR2 HC1
  simp only [erD]
  go_wp2_with fail
  go_loopw [80] (fun vi wr => ∃ k : Nat, k ≤ R.length ∧ vi = .int .i64 k ∧ St w wr (own 41 1 (.slice a9 R.length c9) R.length (R2.map Prod.fst) * (rowsP R2 * (own 41 1 (.slice al R.length cl) R.length (R.map Prod.fst) * (rowsP R * (own 5 1 (.slice a5 B.length c5) B.length (B.map bv) * Mz.old w)))))) (fun vi _ => R.length - (intOf vi).toNat)
  case atStart => exact ⟨0, by omega, rfl, H9.out⟩
  case round =>
    clear H9
    obtain ⟨k, hk, rfl, hst⟩ := hrel
    by_cases hkn : k < R.length
    · have hkl : (k : Int) < R.length := by omega
      have hk2 : k < R2.length := by rw [HQ2.out.2]; exact hkn
      obtain ⟨g, o, rfl, e1⟩ := (hst.reads).at_ hkn
      obtain ⟨g2, o2, rfl, e2⟩ := (hst.right.right.reads).at_ hkn
      have hx := List.getElem?_eq_getElem hkn
      have hy := List.getElem?_eq_getElem hk2
      have hz := congrArg (fun l => l[k]?) HQ2.out.1
      simp only [List.getElem?_map] at hz
      rw [hx, hy] at hz
      rw [List.getElem?_map, hy] at e1
      rw [List.getElem?_map, hx] at e2
      simp only [Option.map_some, Option.some.injEq] at e1 e2 hz
      have hm1 : R[k] ∈ R := List.getElem_mem hkn
      have hm2 : R2[k] ∈ R2 := List.getElem_mem hk2
      clear hx hy
      generalize R[k] = x at *
      generalize R2[k] = y at *
      obtain ⟨xv, xl⟩ := x
      obtain ⟨yv, yl⟩ := y
      simp only at hz e1 e2
      subst hz
      have r1 : ∀ n, Reads (wr.drewN n) 1 xv yl.length (yl.map nv) := fun n => rowsP_reads R _ (hst.drewN n).right.right.right _ hm1
      have r2 : ∀ n, Reads (wr.drewN n) 1 yv yl.length (yl.map nv) := fun n => rowsP_reads R2 _ (hst.drewN n).right _ hm2
      obtain ⟨ax, cx, rfl⟩ := (r1 0).sub
      obtain ⟨ay, cy, rfl⟩ := (r2 0).sub
      have HS := Lib.hid (fun n => Calls.quiet_of (by have C := same_any (r1 n) (r2 n); rw [decide_eq_true rfl] at C; exact C))
      have HST2 := Lib.hid hst
      clear hst r1 r2 hm1 hm2 hk2
      go_wp2_with fail
      go_quiet ((go_at_call 17; exact HS.out _))
      have H10 := Lib.hid (HST2.out.drewN nq)
      generalize wr.drewN nq = w12 at *
      go_wp2_with fail
      exact ⟨⟨k + 1, by omega, by go_num, H10.out⟩, by simp [intOf]; omega⟩
    · obtain rfl : k = R.length := by omega
      have h10 := hst.right.right.right.right
      have C2 := decode16_any h10 (fun w h => HT.out w h.right) (bs := B) (vb := .slice a5 B.length c5) Stb.of_own (by omega) (width := width) (N := R.length + 1) hw1 (by omega) (by omega)
      rw [HQ.out.2.1] at C2
      have hN1 : (R.length : Int) + 1 = ((R.length + 1 : Nat) : Int) := by omega
      have HC2 := Lib.hid C2
      have HN1 := Lib.hid hN1
      clear hst h10 C2 hN1
      go_wp2_with fail
      try rw [HN1.out]
      refine HC2.out.mono ?_
      rintro e w13 ⟨v13, R3, rfl, _, h13⟩
      obtain ⟨a13, c13, rfl⟩ := h13.reads.sub
      have HF := Lib.hid (FIN.out _ h13.right.right.right)
      clear h13 HC2
      simp only [erD]
      go_wp2_with fail
      go_ret
      exact ⟨rfl, HF.out⟩
end Go.Proofs.YtdjoigobmmaaiaaDoor.gagain
