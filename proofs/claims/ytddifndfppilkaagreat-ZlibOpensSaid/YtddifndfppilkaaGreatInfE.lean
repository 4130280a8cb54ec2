/-
  Layer 8 (inflate): so many lengths, told by words.
-/
import Derived.Test.YtddifndfppilkaaGreatInfD
namespace Go.Proofs.YtddifndfppilkaaGreat
open Go.RowKit Go.Mz
set_option linter.unusedVariables false
set_option linter.unusedSimpArgs false
set_option maxRecDepth 100000

section
variable {w0 w : World} {S Rb B : Nat} {bs : List UInt8} {p : Nat} {out : List UInt8} {most : Nat} {W : List (List Nat)} {F : SProp}
theorem stm_cell0 (h : St w0 w (stm S Rb bs p out most * F)) : w.cell? ⟨S, 0, none⟩ = some (.pointer (some ⟨Rb, 0, none⟩)) := by
  obtain ⟨ao, co, h1⟩ := stm_open h
  exact h1.cell 0 rfl
theorem stm_le (h : St w0 w (stm S Rb bs p out most * F)) : p ≤ 8 * bs.length := by
  obtain ⟨ao, co, h1⟩ := stm_open h
  exact (rdr_open h1.right).2.1
theorem stm_bread (h : St w0 w (stm S Rb bs p out most * (bkS B W * F))) :
    Calls Tryz.prog 53 #[.pointer (some ⟨B, 0, none⟩), .pointer (some ⟨Rb, 0, none⟩)] w fun e w' => ∃ (z : Int) (x p' : Nat),
      e = .returned (.tuple #[.int .i64 z, .int .i64 x]) ∧ RdR (rdW W [] ((bitsL true bs).drop p)) p z x p' ∧ St w0 w' (stm S Rb bs p' out most * (bkS B W * F)) := by
  have hp := stm_le h
  obtain ⟨ao, co, h1⟩ := stm_open h
  have h2 := h1.perm (show _ = bkS B W * (rdr Rb bs p true * (blk S (.cells #[.pointer (some ⟨Rb, 0, none⟩), .slice ao out.length co, .int .i64 (most : Int)] 50) * (own 5 1 (.slice ao out.length co) out.length (out.map bv) * F))) by ac_rfl)
  refine (bread_any h2 hp).mono ?_
  rintro e w' ⟨z, x, p', he, hr, h3⟩
  exact ⟨z, x, p', he, hr, stm_shut (h3.perm (by ac_rfl))⟩
theorem stm_read_ok (h : St w0 w (stm S Rb bs p out most * F)) {j : Int} (n : Nat) (hj : j = n) (hn : n ≤ 32) (hp : p + n ≤ 8 * bs.length) :
    Calls Tryz.prog 22 #[.pointer (some ⟨Rb, 0, none⟩), .int .i64 j] w fun e w' => e = .returned (.tuple #[.int .u32 (vl (bitsL true bs) p n : Nat), .int .i64 0]) ∧ St w0 w' (stm S Rb bs (p + n) out most * F) := by
  obtain ⟨ao, co, h1⟩ := stm_open h
  refine (read_ok (h1.perm (star_left_comm _ _ _)) n hj hn hp).mono ?_
  rintro e w' ⟨he, h2⟩
  rw [← peekV_vl]
  exact ⟨he, stm_shut (h2.perm (star_left_comm _ _ _))⟩
theorem stm_read_cut (h : St w0 w (stm S Rb bs p out most * F)) {j : Int} (n : Nat) (hj : j = n) (hn : n ≤ 32) (hp : 8 * bs.length < p + n) :
    Calls Tryz.prog 22 #[.pointer (some ⟨Rb, 0, none⟩), .int .i64 j] w fun e w' => e = .returned (.tuple #[.int .u32 0, .int .i64 2]) ∧ St w0 w' (stm S Rb bs p out most * F) := by
  obtain ⟨ao, co, h1⟩ := stm_open h
  refine (read_cut_st (h1.perm (star_left_comm _ _ _)) n hj hn hp).mono ?_
  rintro e w' ⟨he, h2⟩
  exact ⟨he, stm_shut (h2.perm (star_left_comm _ _ _))⟩
end
def LenR (r : Nat ⊕ (Nat × List Nat)) (v : Value) (x p' : Nat) (w0 w' : World) (G : Nat → SProp) : Prop :=
  match r with
  | .inl e => x = e ∧ e ≠ 0 ∧ St w0 w' (G p')
  | .inr (q, all) => x = 0 ∧ p' = q ∧ St w0 w' (own 3 1 v all.length (nvs all) * G p')

set_option maxHeartbeats 40000000 in
theorem lengths_any {w0 w : World} {S Rb B : Nat} {bs : List UInt8} {p : Nat} {out : List UInt8} {most : Nat} {W : List (List Nat)} {F : SProp} (h : St w0 w (stm S Rb bs p out most * (bkS B W * F))) (n : Nat) (hn : n ≤ 100000) (hW : W.length ≤ 1000) :
    Calls Tryz.prog 57 #[.pointer (some ⟨S, 0, none⟩), .pointer (some ⟨B, 0, none⟩), .int .i64 n] w fun e w' => ∃ (v : Value) (x p' : Nat), e = .returned (.tuple #[v, .int .i64 x]) ∧
      LenR (lengthsF (bitsL true bs) W n (n + 1) [] p) v x p' w0 w' (fun p' => stm S Rb bs p' out most * (bkS B W * F)) := by
  have T := elemI
  generalize hRES : lengthsF (bitsL true bs) W n (n + 1) [] p = RES at *
  have HRES := Lib.hid hRES; clear hRES
  have H := Lib.hid (St.own_nil 3 1 h); clear h
  go_enter Tryz.func57, Tryz.ntmps57
  go_wp2_with fail
  go_loopg [8] (n + 1) (fun g va wr => ∃ (all : List Nat) (a : Option Addr) (c q : Nat), va = .slice a all.length c ∧ n + 1 ≤ g + all.length ∧ 1 ≤ g ∧ all.length ≤ n + 300 ∧ lengthsF (bitsL true bs) W n g all q = RES ∧ St w0 wr (own 3 1 (.slice a all.length c) all.length (nvs all) * (stm S Rb bs q out most * (bkS B W * F))))
  case atStart => exact ⟨[], none, 0, p, rfl, by simp, by omega, by simp, HRES.out, H.out⟩
  case round =>
    clear H HRES
    obtain ⟨all, a, c, q, rfl, hg, hg1, hal, hres, hst⟩ := hrel
    obtain ⟨g, rfl⟩ : ∃ g, gk = g + 1 := ⟨gk - 1, by omega⟩
    rw [lengthsF] at hres
    have HG := Lib.hid hg; clear hg
    by_cases hln : all.length < n
    · rw [if_pos hln] at hres
      have hln2 : (all.length : Int) < n := by omega
      have c0 := stm_cell0 hst.right
      have hlen := rdW_len W ((bitsL true bs).drop q) []
      have C := stm_bread (hst.perm (show _ = stm S Rb bs q out most * (bkS B W * (own 3 1 (.slice a all.length c) all.length (nvs all) * F)) by ac_rfl))
      generalize rdW W [] ((bitsL true bs).drop q) = r at *
      obtain ⟨k, r⟩ := r
      have HC := Lib.hid C; clear C hst
      have HRS := Lib.hid hres; clear hres
      go_wp2_with fail
      refine HC.out.mono ?_
      rintro e w2 ⟨z, x, p1, rfl, hrd, h3⟩
      clear HC
      cases r with
      | inr er =>
        have her := hlen.2.2.2.2 er rfl
        obtain ⟨rfl, hx⟩ := hrd
        simp only at hx HRS
        subst hx
        have hx2 : ¬ (x : Int) = 0 := by omega
        have H3 := Lib.hid (h3.perm (show _ = own 3 1 (.slice a all.length c) all.length (nvs all) * (stm S Rb bs (q + k) out most * (bkS B W * F)) by ac_rfl)); clear h3 hlen
        go_wp2_with fail
        go_ret2
        rw [← HRS.out]
        exact ⟨_, x, q + k, rfl, rfl, by omega, H3.out.right⟩
      | inl i =>
        have hi := (hlen.2.2.2.1 i rfl).2
        obtain ⟨rfl, hx, hz⟩ := hrd
        subst hx hz
        simp only at HRS h3
        clear hlen
        have h4 := h3.perm (show _ = own 3 1 (.slice a all.length c) all.length (nvs all) * (stm S Rb bs (q + k) out most * (bkS B W * F)) by ac_rfl)
        by_cases h16 : i < 16
        · have h16' : (i : Int) < 16 := by omega
          have hres := HRS.out
          rw [if_pos h16] at hres
          have HRR := Lib.hid hres; clear hres HRS h3
          have HX := Lib.hid (show nvs all ++ [(i : Int)].map iv = nvs (all ++ [i]) by rw [nvs, nvs, List.map_append]; rfl)
          have H4 := Lib.hid h4; clear h4
          go_wp2_with (at_builtin; apply stop)
          refine on (wpList_append_sep T rfl _ _ rfl rfl (H4.out.drop_alloc (.cells #[.int .i64 (i : Int)] 3)) rfl (reads_int1 w2 i) (iv_oneCell [(i : Int)]) ?_ ?_ ?_)
          · unfold maxLen; omega
          · omega
          intro v' w7 h9 _
          rw [HX.out] at h9
          have hl1 : (all ++ [i]).length = all.length + 1 := by simp
          rw [← hl1] at h9
          obtain ⟨aN, cN, rfl⟩ := h9.reads.sub
          have H9 := Lib.hid h9; clear h9
          go_wp2_with fail
          go_roundg g
          case measure => omega
          case rel => exact ⟨all ++ [i], aN, cN, q + k, by rw [hl1], by rw [hl1]; have := HG.out; omega, by have := HG.out; omega, by rw [hl1]; omega, HRR.out, H9.out⟩
        · have h16' : ¬ (i : Int) < 16 := by omega
          have hres := HRS.out
          rw [if_neg h16] at hres
          clear HRS h3
          have H4 := Lib.hid h4; clear h4
          by_cases hi16 : i = 16
          · subst hi16
            by_cases hall : all = []
            · rw [if_pos ⟨rfl, hall⟩] at hres
              have HRR := Lib.hid hres; clear hres
              subst hall
              go_wp2_with fail
              go_ret2
              rw [← HRR.out]
              first | exact ⟨_, 3, rfl, q + k, rfl, by decide, H4.out.right⟩ | exact ⟨_, 3, q + k, rfl, rfl, by decide, H4.out.right⟩
            · simp only [hall, and_false, ↓reduceIte, Nat.reduceEqDiff] at hres
              have hpos : 0 < all.length := List.length_pos_iff.2 hall
              have hpos2 : ¬ (all.length : Int) = 0 := by omega
              obtain ⟨ga, rfl⟩ := own_at H4.out hpos
              have hcl : w2.cell? ⟨ga, all.length - 1, none⟩ = some (.int .i64 (all.getD (all.length - 1) 0 : Nat)) := H4.out.own_cell (i := all.length - 1) (by
                rw [nvs, List.getElem?_map, List.getD_eq_getElem?_getD, List.getElem?_eq_getElem (by omega)]; rfl)
              generalize all.getD (all.length - 1) 0 = val at *
              have HRR := Lib.hid hres; clear hres hall
              have hsb : (all.length : Int) - 1 = ((all.length - 1 : Nat) : Int) := by omega
              have hsb2 : ((all.length - 1 : Nat) : Int) < all.length := by omega
              generalize all.length - 1 = la at *
              have c1 := stm_cell0 H4.out.right
              go_wp2_with fail
              by_cases hcut : 8 * bs.length < q + k + 2
              · have hres := HRR.out
                rw [length_bitsL, if_pos hcut] at hres
                have HRX := Lib.hid hres; clear hres HRR
                refine (stm_read_cut H4.out.right 2 rfl (by omega) hcut).mono ?_
                rintro e w3 ⟨rfl, h5⟩
                have H5 := Lib.hid h5; clear h5
                go_wp2_with fail
                go_ret2
                rw [← HRX.out]
                first | exact ⟨_, 2, rfl, q + k, rfl, by decide, H5.out.right⟩ | exact ⟨_, 2, q + k, rfl, rfl, by decide, H5.out.right⟩ | exact ⟨_, 2, rfl, q + k, rfl, by decide, H5.out⟩ | exact ⟨_, 2, q + k, rfl, rfl, by decide, H5.out⟩
              · have hres := HRR.out
                rw [length_bitsL, if_neg hcut] at hres
                have HRX := Lib.hid hres; clear hres HRR
                have hv := vl_lt bs (q + k) 2
                refine (stm_read_ok (H4.out.perm (show _ = stm S Rb bs (q + k) out most * (own 3 1 (.slice (some ⟨ga, 0, none⟩) all.length c) all.length (nvs all) * (bkS B W * F)) by ac_rfl)) 2 rfl (by omega) (by omega)).mono ?_
                rintro e w3 ⟨rfl, h5⟩
                generalize vl (bitsL true bs) (q + k) 2 = m at *
                have H5 := Lib.hid (h5.perm (star_left_comm _ _ _)); clear h5
                have hm9 : m ≤ 127 := by omega
                have hmm : wrap64 (m : Int) = m := by unfold wrap64; omega
                have hmm2 : (3 : Int) + m = ((3 + m : Nat) : Int) := by omega
                have hmm3 : 3 + m ≤ 138 := by omega
                generalize hM : 3 + m = M at *
                have HM := Lib.hid hM; clear hM
                go_wp2_with fail
                go_loopw [8, 67] (fun vo vi wr => ∃ (j : Nat) (aj : Option Addr) (cj : Nat), j ≤ M ∧ vi = .int .i64 j ∧ vo = .slice aj (all.length + j) cj ∧ St w0 wr (own 3 1 (.slice aj (all.length + j) cj) (all.length + j) (nvs (all ++ List.replicate j val)) * (stm S Rb bs (q + k + 2) out most * (bkS B W * F)))) (fun _ vi _ => M - (intOf vi).toNat)
                case atStart => exact ⟨0, _, _, by omega, rfl, rfl, by simpa using H5.out⟩
                case round =>
                  clear H5
                  obtain ⟨j, aj, cj, hj, rfl, rfl, hst⟩ := hrel
                  by_cases hjM : j < M
                  · have hj2 : (j : Int) < M := by omega
                    have HX := Lib.hid (show nvs (all ++ List.replicate j val) ++ [((val : Nat) : Int)].map iv = nvs (all ++ List.replicate (j + 1) val) by rw [List.replicate_succ', ← List.append_assoc, nvs, nvs, List.map_append (l₂ := [val])]; rfl)
                    have HST := Lib.hid hst; clear hst
                    go_wp2_with (at_builtin; apply stop)
                    refine on (wpList_append_sep T rfl _ _ rfl rfl (HST.out.drop_alloc (.cells #[.int .i64 ((val : Nat) : Int)] 3)) rfl (reads_int1 _ (val : Nat)) (iv_oneCell [((val : Nat) : Int)]) ?_ ?_ ?_)
                    · unfold maxLen; omega
                    · omega
                    intro v' w7 h9 _
                    rw [HX.out, Nat.add_assoc] at h9
                    obtain ⟨aN, cN, rfl⟩ := h9.reads.sub
                    have H9 := Lib.hid h9; clear h9
                    go_wp2_with fail
                    go_roundw
                    case rel => exact ⟨j + 1, aN, cN, by omega, by go_num, rfl, H9.out⟩
                    case measure => simp [intOf]; omega
                  · obtain rfl : j = M := by omega
                    have hl1 : (all ++ List.replicate j val).length = all.length + j := by simp
                    have hMp : 1 ≤ j := by have := HM.out; omega
                    have h9 := hst
                    rw [← hl1] at h9
                    have H9 := Lib.hid h9; clear h9 hst
                    have HRY := Lib.hid HRX.out; clear HRX
                    go_wp2_with fail
                    go_roundg g
                    case measure => omega
                    case rel => exact ⟨all ++ List.replicate j val, aj, cj, q + k + 2, by rw [hl1], by rw [hl1]; have := HG.out; omega, by have := HG.out; omega, by rw [hl1]; omega, HRY.out, H9.out⟩
          · simp only [hi16, false_and, ↓reduceIte] at hres
            have hi16' : ¬ (i : Int) = 16 := by omega
            by_cases hi18 : i = 18
            · subst hi18
              simp only [↓reduceIte] at hres
              have HRR := Lib.hid hres; clear hres hi16
              have c1 := stm_cell0 H4.out.right
              go_wp2_with fail
              by_cases hcut : 8 * bs.length < q + k + 7
              · have hres := HRR.out
                rw [length_bitsL, if_pos hcut] at hres
                have HRX := Lib.hid hres; clear hres HRR
                refine (stm_read_cut H4.out.right 7 rfl (by omega) hcut).mono ?_
                rintro e w3 ⟨rfl, h5⟩
                have H5 := Lib.hid h5; clear h5
                go_wp2_with fail
                go_ret2
                rw [← HRX.out]
                first | exact ⟨_, 2, rfl, q + k, rfl, by decide, H5.out.right⟩ | exact ⟨_, 2, q + k, rfl, rfl, by decide, H5.out.right⟩ | exact ⟨_, 2, rfl, q + k, rfl, by decide, H5.out⟩ | exact ⟨_, 2, q + k, rfl, rfl, by decide, H5.out⟩
              · have hres := HRR.out
                rw [length_bitsL, if_neg hcut] at hres
                have HRX := Lib.hid hres; clear hres HRR
                have hv := vl_lt bs (q + k) 7
                refine (stm_read_ok (H4.out.perm (show _ = stm S Rb bs (q + k) out most * (own 3 1 (.slice a all.length c) all.length (nvs all) * (bkS B W * F)) by ac_rfl)) 7 rfl (by omega) (by omega)).mono ?_
                rintro e w3 ⟨rfl, h5⟩
                generalize vl (bitsL true bs) (q + k) 7 = m at *
                have H5 := Lib.hid (h5.perm (star_left_comm _ _ _)); clear h5
                have hm9 : m ≤ 127 := by omega
                have hmm : wrap64 (m : Int) = m := by unfold wrap64; omega
                have hmm2 : (11 : Int) + m = ((11 + m : Nat) : Int) := by omega
                have hmm3 : 11 + m ≤ 138 := by omega
                generalize hM : 11 + m = M at *
                have HM := Lib.hid hM; clear hM
                go_wp2_with fail
                go_loopw [8, 67] (fun vo vi wr => ∃ (j : Nat) (aj : Option Addr) (cj : Nat), j ≤ M ∧ vi = .int .i64 j ∧ vo = .slice aj (all.length + j) cj ∧ St w0 wr (own 3 1 (.slice aj (all.length + j) cj) (all.length + j) (nvs (all ++ List.replicate j 0)) * (stm S Rb bs (q + k + 7) out most * (bkS B W * F)))) (fun _ vi _ => M - (intOf vi).toNat)
                case atStart => exact ⟨0, _, _, by omega, rfl, rfl, by simpa using H5.out⟩
                case round =>
                  clear H5
                  obtain ⟨j, aj, cj, hj, rfl, rfl, hst⟩ := hrel
                  by_cases hjM : j < M
                  · have hj2 : (j : Int) < M := by omega
                    have HX := Lib.hid (show nvs (all ++ List.replicate j 0) ++ [(0 : Int)].map iv = nvs (all ++ List.replicate (j + 1) 0) by rw [List.replicate_succ', ← List.append_assoc, nvs, nvs, List.map_append (l₂ := [0])]; rfl)
                    have HST := Lib.hid hst; clear hst
                    go_wp2_with (at_builtin; apply stop)
                    refine on (wpList_append_sep T rfl _ _ rfl rfl (HST.out.drop_alloc (.cells #[.int .i64 (0 : Int)] 3)) rfl (reads_int1 _ 0) (iv_oneCell [(0 : Int)]) ?_ ?_ ?_)
                    · unfold maxLen; omega
                    · omega
                    intro v' w7 h9 _
                    rw [HX.out, Nat.add_assoc] at h9
                    obtain ⟨aN, cN, rfl⟩ := h9.reads.sub
                    have H9 := Lib.hid h9; clear h9
                    go_wp2_with fail
                    go_roundw
                    case rel => exact ⟨j + 1, aN, cN, by omega, by go_num, rfl, H9.out⟩
                    case measure => simp [intOf]; omega
                  · obtain rfl : j = M := by omega
                    have hl1 : (all ++ List.replicate j 0).length = all.length + j := by simp
                    have hMp : 1 ≤ j := by have := HM.out; omega
                    have h9 := hst
                    rw [← hl1] at h9
                    have H9 := Lib.hid h9; clear h9 hst
                    have HRY := Lib.hid HRX.out; clear HRX
                    go_wp2_with fail
                    go_roundg g
                    case measure => omega
                    case rel => exact ⟨all ++ List.replicate j 0, aj, cj, q + k + 7, by rw [hl1], by rw [hl1]; have := HG.out; omega, by have := HG.out; omega, by rw [hl1]; omega, HRY.out, H9.out⟩
            · simp only [hi18, ↓reduceIte] at hres
              have hi18' : ¬ (i : Int) = 18 := by omega
              have HRR := Lib.hid hres; clear hres hi16 hi18
              have c1 := stm_cell0 H4.out.right
              go_wp2_with fail
              by_cases hcut : 8 * bs.length < q + k + 3
              · have hres := HRR.out
                rw [length_bitsL, if_pos hcut] at hres
                have HRX := Lib.hid hres; clear hres HRR
                refine (stm_read_cut H4.out.right 3 rfl (by omega) hcut).mono ?_
                rintro e w3 ⟨rfl, h5⟩
                have H5 := Lib.hid h5; clear h5
                go_wp2_with fail
                go_ret2
                rw [← HRX.out]
                first | exact ⟨_, 2, rfl, q + k, rfl, by decide, H5.out.right⟩ | exact ⟨_, 2, q + k, rfl, rfl, by decide, H5.out.right⟩ | exact ⟨_, 2, rfl, q + k, rfl, by decide, H5.out⟩ | exact ⟨_, 2, q + k, rfl, rfl, by decide, H5.out⟩
              · have hres := HRR.out
                rw [length_bitsL, if_neg hcut] at hres
                have HRX := Lib.hid hres; clear hres HRR
                have hv := vl_lt bs (q + k) 3
                refine (stm_read_ok (H4.out.perm (show _ = stm S Rb bs (q + k) out most * (own 3 1 (.slice a all.length c) all.length (nvs all) * (bkS B W * F)) by ac_rfl)) 3 rfl (by omega) (by omega)).mono ?_
                rintro e w3 ⟨rfl, h5⟩
                generalize vl (bitsL true bs) (q + k) 3 = m at *
                have H5 := Lib.hid (h5.perm (star_left_comm _ _ _)); clear h5
                have hm9 : m ≤ 127 := by omega
                have hmm : wrap64 (m : Int) = m := by unfold wrap64; omega
                have hmm2 : (3 : Int) + m = ((3 + m : Nat) : Int) := by omega
                have hmm3 : 3 + m ≤ 138 := by omega
                generalize hM : 3 + m = M at *
                have HM := Lib.hid hM; clear hM
                go_wp2_with fail
                go_loopw [8, 67] (fun vo vi wr => ∃ (j : Nat) (aj : Option Addr) (cj : Nat), j ≤ M ∧ vi = .int .i64 j ∧ vo = .slice aj (all.length + j) cj ∧ St w0 wr (own 3 1 (.slice aj (all.length + j) cj) (all.length + j) (nvs (all ++ List.replicate j 0)) * (stm S Rb bs (q + k + 3) out most * (bkS B W * F)))) (fun _ vi _ => M - (intOf vi).toNat)
                case atStart => exact ⟨0, _, _, by omega, rfl, rfl, by simpa using H5.out⟩
                case round =>
                  clear H5
                  obtain ⟨j, aj, cj, hj, rfl, rfl, hst⟩ := hrel
                  by_cases hjM : j < M
                  · have hj2 : (j : Int) < M := by omega
                    have HX := Lib.hid (show nvs (all ++ List.replicate j 0) ++ [(0 : Int)].map iv = nvs (all ++ List.replicate (j + 1) 0) by rw [List.replicate_succ', ← List.append_assoc, nvs, nvs, List.map_append (l₂ := [0])]; rfl)
                    have HST := Lib.hid hst; clear hst
                    go_wp2_with (at_builtin; apply stop)
                    refine on (wpList_append_sep T rfl _ _ rfl rfl (HST.out.drop_alloc (.cells #[.int .i64 (0 : Int)] 3)) rfl (reads_int1 _ 0) (iv_oneCell [(0 : Int)]) ?_ ?_ ?_)
                    · unfold maxLen; omega
                    · omega
                    intro v' w7 h9 _
                    rw [HX.out, Nat.add_assoc] at h9
                    obtain ⟨aN, cN, rfl⟩ := h9.reads.sub
                    have H9 := Lib.hid h9; clear h9
                    go_wp2_with fail
                    go_roundw
                    case rel => exact ⟨j + 1, aN, cN, by omega, by go_num, rfl, H9.out⟩
                    case measure => simp [intOf]; omega
                  · obtain rfl : j = M := by omega
                    have hl1 : (all ++ List.replicate j 0).length = all.length + j := by simp
                    have hMp : 1 ≤ j := by have := HM.out; omega
                    have h9 := hst
                    rw [← hl1] at h9
                    have H9 := Lib.hid h9; clear h9 hst
                    have HRY := Lib.hid HRX.out; clear HRX
                    go_wp2_with fail
                    go_roundg g
                    case measure => omega
                    case rel => exact ⟨all ++ List.replicate j 0, aj, cj, q + k + 3, by rw [hl1], by rw [hl1]; have := HG.out; omega, by have := HG.out; omega, by rw [hl1]; omega, HRY.out, H9.out⟩
    · rw [if_neg hln] at hres
      have hln2 : ¬ (all.length : Int) < n := by omega
      have HST := Lib.hid hst; clear hst
      by_cases hgt : n < all.length
      · have hgt2 : (n : Int) < all.length := by omega
        rw [if_pos hgt] at hres
        have HRS := Lib.hid hres; clear hres
        go_wp2_with fail
        go_ret2
        rw [← HRS.out]
        exact ⟨_, 3, rfl, q, rfl, by decide, HST.out.right⟩
      · have hgt2 : ¬ (n : Int) < all.length := by omega
        rw [if_neg hgt] at hres
        have HRS := Lib.hid hres; clear hres
        go_wp2_with fail
        go_ret2
        rw [← HRS.out]
        exact ⟨_, 0, rfl, q, rfl, rfl, HST.out⟩
end Go.Proofs.YtddifndfppilkaaGreat
