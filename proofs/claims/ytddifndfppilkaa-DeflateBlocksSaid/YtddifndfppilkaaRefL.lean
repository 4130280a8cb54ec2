/-
  The document's lengths that words tell (package mezzotintref08).
-/
import Derived.Test.YtddifndfppilkaaRefN
import Derived.Test.YtddifndfppilkaaInfE
namespace Go.Proofs.Ytddifndfppilkaa
open Go.RowKit Go.Mz
set_option linter.unusedVariables false
set_option linter.unusedSimpArgs false
set_option maxRecDepth 100000

set_option maxHeartbeats 40000000 in
theorem rlengths_any {w0 w : World} {F : SProp} (h : St w0 w F) {t : List Nat} (ht : Bit t) (hl : t.length ≤ 1000000000) {p : Nat} (hp : p ≤ t.length) {W : List (List Nat)} (hb : ∀ v ∈ W, Bit v) (hW : W.length ≤ 19) {vw : Value} (hv : Stb w0 F (fun w => Reads w 1 vw W.length (W.map txv))) (n : Nat) (hn : n ≤ 100000) {ao : Option Addr} {no co : Nat} {most : Int} {sb : ByteArray} (hsb : sb = ⟨(tx t).toArray⟩) :
    Calls Try.prog 80 #[.agg (rstC sb p (.slice ao no co) most), vw, .int .i64 n] w fun e w' => ∃ (v : Value) (x p' : Nat),
      e = .returned (.tuple #[.agg (rstC sb p' (.slice ao no co) most), v, .int .i64 (x : Nat)]) ∧ LenR (lengthsF t W n (n + 1) [] p) v x p' w0 w' (fun _ => F) ∧ p' ≤ t.length := by
  have T := elemI
  have h1 := (h.alloc (.cells (rstC sb p (.slice ao no co) most) 85)).alloc (.cells rst0 85)
  have hsz : (w.alloc (.cells (rstC sb p (.slice ao no co) most) 85)).heap.size = w.heap.size + 1 := by
    show (w.heap.push _).size = _
    exact Array.size_push _
  rw [hsz] at h1
  obtain ⟨aw, cw, rfl⟩ := (hv w h).sub
  have HNUM := Lib.hid (fun (w : World) (G : SProp) (h : St w0 w G) (q : Nat) (hq : q ≤ t.length) (n : Nat) (hn : n ≤ 31) => rnum_any h ht hl hq n hn (ao := ao) (no := no) (co := co) (most := most) hsb (j := (n : Int)) rfl)
  have HNXT := Lib.hid (fun (w : World) (G : SProp) (h : St w0 w G) (hv : Stb w0 G (fun w => Reads w 1 (.slice aw W.length cw) W.length (W.map txv))) (q : Nat) (hq : q ≤ t.length) => rnext_any h ht hl hq hb (by omega) hv (ao := ao) (no := no) (co := co) (most := most) hsb)
  have HV := Lib.hid hv
  generalize hRES : lengthsF t W n (n + 1) [] p = RES at *
  have HRES := Lib.hid hRES; clear hRES
  unfold rstC rst0 at h1
  clear h hsz hsb hv
  have H1 := Lib.hid (St.own_nil 3 1 h1); clear h1
  unfold rstC at HNUM HNXT ⊢
  go_enter Try.func80, Try.ntmps80
  go_upto_region 1 with (fail)
  have h1 := H1.out
  clear H1
  generalize hb0 : w.heap.size = b0 at *
  generalize hb1 : b0 + 1 = b1 at *
  generalize hWW : (w.alloc (.cells #[.string sb, .int .i64 (p : Int), .slice ao no co, .int .i64 most] 85)).alloc (.cells #[.string ⟨#[]⟩, .int .i64 0, .slice none 0 0, .int .i64 0] 85) = Ww at *
  have hne : ¬ b0 = b1 := by omega
  have hne' : ¬ b1 = b0 := by omega
  clear hb0 hb1 hWW
  have H2 := Lib.hid (h1.perm (show _ = own 3 1 (.slice none 0 0) 0 [] * (blk b0 (.cells #[.string sb, .int .i64 (p : Int), .slice ao no co, .int .i64 most] 85) * (blk b1 (.cells #[.string ⟨#[]⟩, .int .i64 0, .slice none 0 0, .int .i64 0] 85) * F)) by ac_rfl)); clear h1
  go_wp2_with fail
  go_loopg [9] (n + 1) (fun g va wr => ∃ (all : List Nat) (a : Option Addr) (c q : Nat), va = .slice a all.length c ∧ n + 1 ≤ g + all.length ∧ 1 ≤ g ∧ all.length ≤ n + 300 ∧ lengthsF t W n g all q = RES ∧ q ≤ t.length ∧ St w0 wr (own 3 1 (.slice a all.length c) all.length (nvs all) * (blk b0 (.cells #[.string sb, .int .i64 (q : Int), .slice ao no co, .int .i64 most] 85) * (blk b1 (.cells #[.string ⟨#[]⟩, .int .i64 0, .slice none 0 0, .int .i64 0] 85) * F))))
  case atStart => exact ⟨[], none, 0, p, rfl, by simp, by omega, by simp, HRES.out, hp, H2.out⟩
  case round =>
    clear H2 HRES
    obtain ⟨all, a, c, q, rfl, hg, hg1, hal, hres, hq, hst⟩ := hrel
    obtain ⟨g, rfl⟩ : ∃ g, gk = g + 1 := ⟨gk - 1, by omega⟩
    rw [lengthsF] at hres
    have HG := Lib.hid hg; clear hg
    by_cases hln : all.length < n
    · rw [if_pos hln] at hres
      have hln2 : (all.length : Int) < n := by omega
      have hA := hst.perm (star_left_comm _ _ _)
      have c0 := hA.cell 0 rfl
      have c1 := hA.cell 1 rfl
      have c2 := hA.cell 2 rfl
      have c3 := hA.cell 3 rfl
      have hlen := rdW_len W (t.drop q) []
      have hdl : (t.drop q).length = t.length - q := List.length_drop
      have C := HNXT.out wr _ hst (fun w h => HV.out w h.right.right.right) q hq
      generalize rdW W [] (t.drop q) = r at *
      obtain ⟨k, r⟩ := r
      have hk1 : q + k ≤ t.length := by have := hlen.2.1; simp only [List.length_nil, hdl] at this; omega
      have HC := Lib.hid C; clear C hst hA hdl
      have HRS := Lib.hid hres; clear hres
      go_wp2_with fail
      refine HC.out.mono ?_
      rintro e w2 ⟨z, x, p1, rfl, hrd, h3⟩
      have hA := h3.alloc (.cells #[.string sb, .int .i64 (p1 : Int), .slice ao no co, .int .i64 most] 85)
      clear h3 c0 c1 c2 c3 HC
      go_upto_region 4 with (fail)
      generalize w2.heap.size = bt at *
      generalize w2.alloc (.cells #[.string sb, .int .i64 (p1 : Int), .slice ao no co, .int .i64 most] 85) = W3 at *
      have t0 := hA.cell 0 rfl
      have t1 := hA.cell 1 rfl
      have t2 := hA.cell 2 rfl
      have t3 := hA.cell 3 rfl
      cases r with
      | inr er =>
        have her := hlen.2.2.2.2 er rfl
        obtain ⟨hp1, hx⟩ := hrd
        have HP1 := Lib.hid (show p1 ≤ t.length by rw [hp1]; exact hk1)
        simp only at hx HRS
        subst hx
        have hx2 : ¬ (x : Int) = 0 := by omega
        have hB := hA.perm (show _ = blk b1 (.cells #[.string ⟨#[]⟩, .int .i64 0, .slice none 0 0, .int .i64 0] 85) * (blk bt (.cells #[.string sb, .int .i64 (p1 : Int), .slice ao no co, .int .i64 most] 85) * (blk b0 (.cells #[.string sb, .int .i64 (q : Int), .slice ao no co, .int .i64 most] 85) * (own 3 1 (.slice a all.length c) all.length (nvs all) * F))) by ac_rfl)
        have r0 := hB.cell 0 rfl
        have r1 := hB.cell 1 rfl
        have r2 := hB.cell 2 rfl
        have r3 := hB.cell 3 rfl
        have rf0 := hB.free 0
        have rf1 := hB.free 1
        have rf2 := hB.free 2
        have rf3 := hB.free 3
        have HF := Lib.hid (set4 hB rfl (.string sb) (.int .i64 (p1 : Int)) (.slice ao no co) (.int .i64 most))
        clear hA hB hlen hp1 hk1
        go_wp2_with fail
        refine bodyPost_ret3c rfl rfl HF.out.at_ Try.underlying85 rfl (by show _ = some 4; kernel_rfl) rfl ?_
        rw [← HRS.out]
        exact ⟨_, x, p1, rfl, ⟨rfl, by omega, HF.out.right.right.right.right⟩, HP1.out⟩
      | inl i =>
        obtain ⟨hp1, hx, hz⟩ := hrd
        subst hx hz
        have HP1 := Lib.hid (show p1 ≤ t.length by rw [hp1]; exact hk1)
        simp only at HRS
        rw [← hp1] at HRS
        have hi19 := (hlen.2.2.2.1 i rfl).2
        have hB := hA.perm (show _ = blk b0 (.cells #[.string sb, .int .i64 (q : Int), .slice ao no co, .int .i64 most] 85) * (blk bt (.cells #[.string sb, .int .i64 (p1 : Int), .slice ao no co, .int .i64 most] 85) * (own 3 1 (.slice a all.length c) all.length (nvs all) * (blk b1 (.cells #[.string ⟨#[]⟩, .int .i64 0, .slice none 0 0, .int .i64 0] 85) * F))) by ac_rfl)
        have r0 := hB.cell 0 rfl
        have r1 := hB.cell 1 rfl
        have r2 := hB.cell 2 rfl
        have r3 := hB.cell 3 rfl
        have rf0 := hB.free 0
        have rf1 := hB.free 1
        have rf2 := hB.free 2
        have rf3 := hB.free 3
        have h6 := ((set4 hB rfl (.string sb) (.int .i64 (p1 : Int)) (.slice ao no co) (.int .i64 most)).perm (show _ = blk bt (.cells #[.string sb, .int .i64 (p1 : Int), .slice ao no co, .int .i64 most] 85) * (blk b0 (.cells #[.string sb, .int .i64 (p1 : Int), .slice ao no co, .int .i64 most] 85) * (own 3 1 (.slice a all.length c) all.length (nvs all) * (blk b1 (.cells #[.string ⟨#[]⟩, .int .i64 0, .slice none 0 0, .int .i64 0] 85) * F))) by ac_rfl)).right
        have H6 := Lib.hid h6
        clear hA hB h6 hlen hp1 hk1
        go_upto_region 7 with (fail)
        generalize (((W3.setCell ⟨b0, 0, none⟩ (.string sb)).setCell ⟨b0, 1, none⟩ (.int .i64 (p1 : Int))).setCell ⟨b0, 2, none⟩ (.slice ao no co)).setCell ⟨b0, 3, none⟩ (.int .i64 most) = W4 at *
        clear t0 t1 t2 t3 r0 r1 r2 r3 rf0 rf1 rf2 rf3
        have h7 := H6.out
        clear H6
        have d0 := h7.cell 0 rfl
        have d1 := h7.cell 1 rfl
        have d2 := h7.cell 2 rfl
        have d3 := h7.cell 3 rfl
        have hres := HRS.out
        clear HRS
        by_cases h16 : i < 16
        · rw [if_pos h16] at hres
          have g16 : ¬ (i : Int) = 16 := by omega
          have g17 : ¬ (i : Int) = 17 := by omega
          have g18 : ¬ (i : Int) = 18 := by omega
          have hres : (if t.length < p1 + 0 then .inl 2 else lengthsF t W n g (all ++ List.replicate (1 + vl t p1 0) i) (p1 + 0)) = RES := by
            have := HP1.out
            rw [if_neg (by omega)]; exact hres
          have C := HNUM.out W4 _ h7 p1 HP1.out 0 (by omega)
          have HRR := Lib.hid hres; clear hres
          by_cases hcut : t.length < p1 + 0
          · rw [if_pos hcut, if_pos hcut, if_pos hcut] at C
            have hr := HRR.out
            rw [if_pos hcut] at hr
            have HRX := Lib.hid hr; clear hr HRR
            have HC := Lib.hid C; clear C h7
            go_wp2_with fail
            refine HC.out.mono ?_
            rintro e w5 ⟨rfl, h8⟩
            have hD := h8.alloc (.cells #[.string sb, .int .i64 (p1 : Int), .slice ao no co, .int .i64 most] 85)
            clear h8 d0 d1 d2 d3 HC
            go_upto_region 17 with (fail)
            generalize w5.heap.size = bu at *
            generalize w5.alloc (.cells #[.string sb, .int .i64 (p1 : Int), .slice ao no co, .int .i64 most] 85) = W5 at *
            have u0 := hD.cell 0 rfl
            have u1 := hD.cell 1 rfl
            have u2 := hD.cell 2 rfl
            have u3 := hD.cell 3 rfl
            have hE := hD.perm (show _ = blk b1 (.cells #[.string ⟨#[]⟩, .int .i64 0, .slice none 0 0, .int .i64 0] 85) * (blk bu (.cells #[.string sb, .int .i64 (p1 : Int), .slice ao no co, .int .i64 most] 85) * (blk b0 (.cells #[.string sb, .int .i64 (p1 : Int), .slice ao no co, .int .i64 most] 85) * (own 3 1 (.slice a all.length c) all.length (nvs all) * F))) by ac_rfl)
            have r0 := hE.cell 0 rfl
            have r1 := hE.cell 1 rfl
            have r2 := hE.cell 2 rfl
            have r3 := hE.cell 3 rfl
            have rf0 := hE.free 0
            have rf1 := hE.free 1
            have rf2 := hE.free 2
            have rf3 := hE.free 3
            have HF := Lib.hid (set4 hE rfl (.string sb) (.int .i64 (p1 : Int)) (.slice ao no co) (.int .i64 most))
            clear hD hE
            go_wp2_with fail
            refine bodyPost_ret3c rfl rfl HF.out.at_ Try.underlying85 rfl (by show _ = some 4; kernel_rfl) rfl ?_
            rw [← HRX.out]
            exact ⟨_, 2, p1, rfl, ⟨rfl, by decide, HF.out.right.right.right.right⟩, HP1.out⟩
          · rw [if_neg hcut, if_neg hcut, if_neg hcut] at C
            have hr := HRR.out
            rw [if_neg hcut] at hr
            obtain ⟨p2, hp2⟩ : ∃ p2, p2 = p1 + 0 := ⟨_, rfl⟩
            rw [← hp2] at C hr
            have HP2 := Lib.hid (show p2 ≤ t.length by omega); clear hp2
            have hmv : vl t p1 0 < 2 ^ 0 := numV_lt true (fun i => t.getD (p1 + i) 0) (fun i => ht.getD _) 0
            generalize vl t p1 0 = mr at *
            have hmr : mr ≤ 127 := by simp only [Nat.reducePow] at hmv; omega
            have HRX := Lib.hid hr; clear hr HRR hmv
            have HC := Lib.hid C; clear C h7
            obtain ⟨M, hM⟩ : ∃ M, M = 1 + mr := ⟨_, rfl⟩
            have hMi : (1 : Int) + mr = (M : Int) := by omega
            have hM2 : M ≤ 138 := by omega
            have HM := Lib.hid hM
            rw [← hM] at HRX
            clear hM
            go_wp2_with fail
            refine HC.out.mono ?_
            rintro e w5 ⟨rfl, h8⟩
            have hD := h8.alloc (.cells #[.string sb, .int .i64 (p2 : Int), .slice ao no co, .int .i64 most] 85)
            clear h8 d0 d1 d2 d3 HC
            go_upto_region 17 with (fail)
            generalize w5.heap.size = bu at *
            generalize w5.alloc (.cells #[.string sb, .int .i64 (p2 : Int), .slice ao no co, .int .i64 most] 85) = W5 at *
            have u0 := hD.cell 0 rfl
            have u1 := hD.cell 1 rfl
            have u2 := hD.cell 2 rfl
            have u3 := hD.cell 3 rfl
            have hE := hD.perm (show _ = blk b0 (.cells #[.string sb, .int .i64 (p1 : Int), .slice ao no co, .int .i64 most] 85) * (blk bu (.cells #[.string sb, .int .i64 (p2 : Int), .slice ao no co, .int .i64 most] 85) * (own 3 1 (.slice a all.length c) all.length (nvs all) * (blk b1 (.cells #[.string ⟨#[]⟩, .int .i64 0, .slice none 0 0, .int .i64 0] 85) * F))) by ac_rfl)
            have r0 := hE.cell 0 rfl
            have r1 := hE.cell 1 rfl
            have r2 := hE.cell 2 rfl
            have r3 := hE.cell 3 rfl
            have rf0 := hE.free 0
            have rf1 := hE.free 1
            have rf2 := hE.free 2
            have rf3 := hE.free 3
            have h9 := ((set4 hE rfl (.string sb) (.int .i64 (p2 : Int)) (.slice ao no co) (.int .i64 most)).perm (show _ = blk bu (.cells #[.string sb, .int .i64 (p2 : Int), .slice ao no co, .int .i64 most] 85) * (own 3 1 (.slice a all.length c) all.length (nvs all) * (blk b0 (.cells #[.string sb, .int .i64 (p2 : Int), .slice ao no co, .int .i64 most] 85) * (blk b1 (.cells #[.string ⟨#[]⟩, .int .i64 0, .slice none 0 0, .int .i64 0] 85) * F))) by ac_rfl)).right
            have H9 := Lib.hid h9
            clear hD hE h9
            go_upto_region 20 with (fail)
            generalize (((W5.setCell ⟨b0, 0, none⟩ (.string sb)).setCell ⟨b0, 1, none⟩ (.int .i64 (p2 : Int))).setCell ⟨b0, 2, none⟩ (.slice ao no co)).setCell ⟨b0, 3, none⟩ (.int .i64 most) = W6 at *
            clear u0 u1 u2 u3 r0 r1 r2 r3 rf0 rf1 rf2 rf3
            go_wp2_with fail
            go_loopw [9, 19] (fun vo vi wr => ∃ (m : Nat) (aj : Option Addr) (cj : Nat), m ≤ M ∧ vi = .int .i64 m ∧ vo = .slice aj (all.length + m) cj ∧ St w0 wr (own 3 1 (.slice aj (all.length + m) cj) (all.length + m) (nvs (all ++ List.replicate m i)) * (blk b0 (.cells #[.string sb, .int .i64 (p2 : Int), .slice ao no co, .int .i64 most] 85) * (blk b1 (.cells #[.string ⟨#[]⟩, .int .i64 0, .slice none 0 0, .int .i64 0] 85) * F)))) (fun _ vi _ => M - (intOf vi).toNat)
            case atStart => exact ⟨0, _, _, by omega, rfl, rfl, by simpa using H9.out⟩
            case round =>
              clear H9
              obtain ⟨m, aj, cj, hj, rfl, rfl, hst⟩ := hrel
              by_cases hjM : m < M
              · have hj2 : (m : Int) < M := by omega
                have HX := Lib.hid (show nvs (all ++ List.replicate m i) ++ [((i : Nat) : Int)].map iv = nvs (all ++ List.replicate (m + 1) i) by rw [List.replicate_succ', ← List.append_assoc, nvs, nvs, List.map_append (l₂ := [i])]; rfl)
                have HST := Lib.hid hst; clear hst
                go_wp2_with (at_builtin; apply stop)
                refine on (wpList_append_sep T rfl _ _ rfl rfl (HST.out.drop_alloc (.cells #[.int .i64 ((i : Nat) : Int)] 3)) rfl (reads_int1 _ (i : Nat)) (iv_oneCell [((i : Nat) : Int)]) ?_ ?_ ?_)
                · unfold maxLen; omega
                · omega
                intro v' w7 h9 _
                rw [HX.out, Nat.add_assoc] at h9
                obtain ⟨aN, cN, rfl⟩ := h9.reads.sub
                have H9 := Lib.hid h9; clear h9
                go_wp2_with fail
                go_roundw
                case rel => exact ⟨m + 1, aN, cN, by omega, by go_num, rfl, H9.out⟩
                case measure => simp [intOf]; omega
              · obtain rfl : m = M := by omega
                have hl1 : (all ++ List.replicate m i).length = all.length + m := by simp
                have hMp : 1 ≤ m := by have := HM.out; omega
                have h9 := hst
                rw [← hl1] at h9
                have H9 := Lib.hid h9; clear h9 hst
                have HRY := Lib.hid HRX.out; clear HRX
                go_wp2_with fail
                go_roundg g
                case measure => omega
                case rel => exact ⟨all ++ List.replicate m i, aj, cj, p2, by rw [hl1], by rw [hl1]; have := HG.out; omega, by have := HG.out; omega, by rw [hl1]; omega, HRY.out, HP2.out, H9.out⟩
        rw [if_neg h16] at hres
        by_cases hi16 : i = 16
        · subst hi16
          by_cases hall : all = []
          · rw [if_pos ⟨rfl, hall⟩] at hres
            have HRX := Lib.hid hres; clear hres
            subst hall
            have hE := h7.perm (show _ = blk b1 (.cells #[.string ⟨#[]⟩, .int .i64 0, .slice none 0 0, .int .i64 0] 85) * (blk b0 (.cells #[.string sb, .int .i64 (p1 : Int), .slice ao no co, .int .i64 most] 85) * (own 3 1 (.slice a 0 c) 0 (nvs []) * F)) by ac_rfl)
            have r0 := hE.cell 0 rfl
            have r1 := hE.cell 1 rfl
            have r2 := hE.cell 2 rfl
            have r3 := hE.cell 3 rfl
            have rf0 := hE.free 0
            have rf1 := hE.free 1
            have rf2 := hE.free 2
            have rf3 := hE.free 3
            have HF := Lib.hid (set4 hE rfl (.string sb) (.int .i64 (p1 : Int)) (.slice ao no co) (.int .i64 most))
            clear hE h7
            go_wp2_with fail
            refine bodyPost_ret3c rfl rfl HF.out.at_ Try.underlying85 rfl (by show _ = some 4; kernel_rfl) rfl ?_
            rw [← HRX.out]
            exact ⟨_, 3, p1, rfl, ⟨rfl, by decide, HF.out.right.right.right⟩, HP1.out⟩
          · simp only [hall, and_false, ↓reduceIte, Nat.reduceEqDiff] at hres
            have hpos : 0 < all.length := List.length_pos_iff.2 hall
            have hpos2 : ¬ (all.length : Int) = 0 := by omega
            have hoo := h7.right
            obtain ⟨ga, rfl⟩ := own_at hoo hpos
            have hcl : W4.cell? ⟨ga, all.length - 1, none⟩ = some (.int .i64 (all.getD (all.length - 1) 0 : Nat)) := hoo.own_cell (i := all.length - 1) (by
              rw [nvs, List.getElem?_map, List.getD_eq_getElem?_getD, List.getElem?_eq_getElem (by omega)]; rfl)
            generalize all.getD (all.length - 1) 0 = val at *
            have hsb : (all.length : Int) - 1 = ((all.length - 1 : Nat) : Int) := by omega
            have hsb2 : ((all.length - 1 : Nat) : Int) < all.length := by omega
            clear hall hoo
            generalize all.length - 1 = la at *
            go_upto_region 11 with (fail)
            go_quiet (fail)
            have h17 := h7.drewN nq
            clear d0 d1 d2 d3 hcl h7 hsb
            generalize W4.drewN nq = W40 at *
            have h7 := h17
            clear h17
            have d0 := h7.cell 0 rfl
            have d1 := h7.cell 1 rfl
            have d2 := h7.cell 2 rfl
            have d3 := h7.cell 3 rfl
            have C := HNUM.out W40 _ h7 p1 HP1.out 2 (by omega)
            have HRR := Lib.hid hres; clear hres
            by_cases hcut : t.length < p1 + 2
            · rw [if_pos hcut, if_pos hcut, if_pos hcut] at C
              have hr := HRR.out
              rw [if_pos hcut] at hr
              have HRX := Lib.hid hr; clear hr HRR
              have HC := Lib.hid C; clear C h7
              go_wp2_with fail
              refine HC.out.mono ?_
              rintro e w5 ⟨rfl, h8⟩
              have hD := h8.alloc (.cells #[.string sb, .int .i64 (p1 : Int), .slice ao no co, .int .i64 most] 85)
              clear h8 d0 d1 d2 d3 HC
              go_upto_region 17 with (fail)
              generalize w5.heap.size = bu at *
              generalize w5.alloc (.cells #[.string sb, .int .i64 (p1 : Int), .slice ao no co, .int .i64 most] 85) = W5 at *
              have u0 := hD.cell 0 rfl
              have u1 := hD.cell 1 rfl
              have u2 := hD.cell 2 rfl
              have u3 := hD.cell 3 rfl
              have hE := hD.perm (show _ = blk b1 (.cells #[.string ⟨#[]⟩, .int .i64 0, .slice none 0 0, .int .i64 0] 85) * (blk bu (.cells #[.string sb, .int .i64 (p1 : Int), .slice ao no co, .int .i64 most] 85) * (blk b0 (.cells #[.string sb, .int .i64 (p1 : Int), .slice ao no co, .int .i64 most] 85) * (own 3 1 (.slice (some ⟨ga, 0, none⟩) all.length c) all.length (nvs all) * F))) by ac_rfl)
              have r0 := hE.cell 0 rfl
              have r1 := hE.cell 1 rfl
              have r2 := hE.cell 2 rfl
              have r3 := hE.cell 3 rfl
              have rf0 := hE.free 0
              have rf1 := hE.free 1
              have rf2 := hE.free 2
              have rf3 := hE.free 3
              have HF := Lib.hid (set4 hE rfl (.string sb) (.int .i64 (p1 : Int)) (.slice ao no co) (.int .i64 most))
              clear hD hE
              go_wp2_with fail
              refine bodyPost_ret3c rfl rfl HF.out.at_ Try.underlying85 rfl (by show _ = some 4; kernel_rfl) rfl ?_
              rw [← HRX.out]
              exact ⟨_, 2, p1, rfl, ⟨rfl, by decide, HF.out.right.right.right.right⟩, HP1.out⟩
            · rw [if_neg hcut, if_neg hcut, if_neg hcut] at C
              have hr := HRR.out
              rw [if_neg hcut] at hr
              obtain ⟨p2, hp2⟩ : ∃ p2, p2 = p1 + 2 := ⟨_, rfl⟩
              rw [← hp2] at C hr
              have HP2 := Lib.hid (show p2 ≤ t.length by omega); clear hp2
              have hmv : vl t p1 2 < 2 ^ 2 := numV_lt true (fun i => t.getD (p1 + i) 0) (fun i => ht.getD _) 2
              generalize vl t p1 2 = mr at *
              have hmr : mr ≤ 127 := by simp only [Nat.reducePow] at hmv; omega
              have HRX := Lib.hid hr; clear hr HRR hmv
              have HC := Lib.hid C; clear C h7
              obtain ⟨M, hM⟩ : ∃ M, M = 3 + mr := ⟨_, rfl⟩
              have hMi : (3 : Int) + mr = (M : Int) := by omega
              have hM2 : M ≤ 138 := by omega
              have HM := Lib.hid hM
              rw [← hM] at HRX
              clear hM
              go_wp2_with fail
              refine HC.out.mono ?_
              rintro e w5 ⟨rfl, h8⟩
              have hD := h8.alloc (.cells #[.string sb, .int .i64 (p2 : Int), .slice ao no co, .int .i64 most] 85)
              clear h8 d0 d1 d2 d3 HC
              go_upto_region 17 with (fail)
              generalize w5.heap.size = bu at *
              generalize w5.alloc (.cells #[.string sb, .int .i64 (p2 : Int), .slice ao no co, .int .i64 most] 85) = W5 at *
              have u0 := hD.cell 0 rfl
              have u1 := hD.cell 1 rfl
              have u2 := hD.cell 2 rfl
              have u3 := hD.cell 3 rfl
              have hE := hD.perm (show _ = blk b0 (.cells #[.string sb, .int .i64 (p1 : Int), .slice ao no co, .int .i64 most] 85) * (blk bu (.cells #[.string sb, .int .i64 (p2 : Int), .slice ao no co, .int .i64 most] 85) * (own 3 1 (.slice (some ⟨ga, 0, none⟩) all.length c) all.length (nvs all) * (blk b1 (.cells #[.string ⟨#[]⟩, .int .i64 0, .slice none 0 0, .int .i64 0] 85) * F))) by ac_rfl)
              have r0 := hE.cell 0 rfl
              have r1 := hE.cell 1 rfl
              have r2 := hE.cell 2 rfl
              have r3 := hE.cell 3 rfl
              have rf0 := hE.free 0
              have rf1 := hE.free 1
              have rf2 := hE.free 2
              have rf3 := hE.free 3
              have h9 := ((set4 hE rfl (.string sb) (.int .i64 (p2 : Int)) (.slice ao no co) (.int .i64 most)).perm (show _ = blk bu (.cells #[.string sb, .int .i64 (p2 : Int), .slice ao no co, .int .i64 most] 85) * (own 3 1 (.slice (some ⟨ga, 0, none⟩) all.length c) all.length (nvs all) * (blk b0 (.cells #[.string sb, .int .i64 (p2 : Int), .slice ao no co, .int .i64 most] 85) * (blk b1 (.cells #[.string ⟨#[]⟩, .int .i64 0, .slice none 0 0, .int .i64 0] 85) * F))) by ac_rfl)).right
              have H9 := Lib.hid h9
              clear hD hE h9
              go_upto_region 20 with (fail)
              generalize (((W5.setCell ⟨b0, 0, none⟩ (.string sb)).setCell ⟨b0, 1, none⟩ (.int .i64 (p2 : Int))).setCell ⟨b0, 2, none⟩ (.slice ao no co)).setCell ⟨b0, 3, none⟩ (.int .i64 most) = W6 at *
              clear u0 u1 u2 u3 r0 r1 r2 r3 rf0 rf1 rf2 rf3
              go_wp2_with fail
              go_loopw [9, 19] (fun vo vi wr => ∃ (m : Nat) (aj : Option Addr) (cj : Nat), m ≤ M ∧ vi = .int .i64 m ∧ vo = .slice aj (all.length + m) cj ∧ St w0 wr (own 3 1 (.slice aj (all.length + m) cj) (all.length + m) (nvs (all ++ List.replicate m val)) * (blk b0 (.cells #[.string sb, .int .i64 (p2 : Int), .slice ao no co, .int .i64 most] 85) * (blk b1 (.cells #[.string ⟨#[]⟩, .int .i64 0, .slice none 0 0, .int .i64 0] 85) * F)))) (fun _ vi _ => M - (intOf vi).toNat)
              case atStart => exact ⟨0, _, _, by omega, rfl, rfl, by simpa using H9.out⟩
              case round =>
                clear H9
                obtain ⟨m, aj, cj, hj, rfl, rfl, hst⟩ := hrel
                by_cases hjM : m < M
                · have hj2 : (m : Int) < M := by omega
                  have HX := Lib.hid (show nvs (all ++ List.replicate m val) ++ [((val : Nat) : Int)].map iv = nvs (all ++ List.replicate (m + 1) val) by rw [List.replicate_succ', ← List.append_assoc, nvs, nvs, List.map_append (l₂ := [val])]; rfl)
                  have HST := Lib.hid hst; clear hst
                  go_wp2_with (at_builtin; apply stop)
                  refine on (wpList_append_sep T rfl _ _ rfl rfl (HST.out.drop_alloc (.cells #[.int .i64 ((val : Nat) : Int)] 3)) rfl (reads_int1 _ (val : Nat)) (iv_oneCell [((val : Nat) : Int)]) ?_ ?_ ?_)
                  · unfold maxLen; omega
                  · omega
                  intro v' w7 h9 _
                  rw [HX.out, Nat.add_assoc] at h9
                  obtain ⟨aN, cN, rfl⟩ := h9.reads.sub
                  have H9 := Lib.hid h9; clear h9
                  go_wp2_with fail
                  go_roundw
                  case rel => exact ⟨m + 1, aN, cN, by omega, by go_num, rfl, H9.out⟩
                  case measure => simp [intOf]; omega
                · obtain rfl : m = M := by omega
                  have hl1 : (all ++ List.replicate m val).length = all.length + m := by simp
                  have hMp : 1 ≤ m := by have := HM.out; omega
                  have h9 := hst
                  rw [← hl1] at h9
                  have H9 := Lib.hid h9; clear h9 hst
                  have HRY := Lib.hid HRX.out; clear HRX
                  go_wp2_with fail
                  go_roundg g
                  case measure => omega
                  case rel => exact ⟨all ++ List.replicate m val, aj, cj, p2, by rw [hl1], by rw [hl1]; have := HG.out; omega, by have := HG.out; omega, by rw [hl1]; omega, HRY.out, HP2.out, H9.out⟩
        · have g16 : ¬ (i : Int) = 16 := by omega
          simp only [hi16, false_and, ↓reduceIte] at hres
          by_cases hi18 : i = 18
          · subst hi18
            simp only [↓reduceIte] at hres
            have C := HNUM.out W4 _ h7 p1 HP1.out 7 (by omega)
            have HRR := Lib.hid hres; clear hres
            by_cases hcut : t.length < p1 + 7
            · rw [if_pos hcut, if_pos hcut, if_pos hcut] at C
              have hr := HRR.out
              rw [if_pos hcut] at hr
              have HRX := Lib.hid hr; clear hr HRR
              have HC := Lib.hid C; clear C h7
              go_wp2_with fail
              refine HC.out.mono ?_
              rintro e w5 ⟨rfl, h8⟩
              have hD := h8.alloc (.cells #[.string sb, .int .i64 (p1 : Int), .slice ao no co, .int .i64 most] 85)
              clear h8 d0 d1 d2 d3 HC
              go_upto_region 17 with (fail)
              generalize w5.heap.size = bu at *
              generalize w5.alloc (.cells #[.string sb, .int .i64 (p1 : Int), .slice ao no co, .int .i64 most] 85) = W5 at *
              have u0 := hD.cell 0 rfl
              have u1 := hD.cell 1 rfl
              have u2 := hD.cell 2 rfl
              have u3 := hD.cell 3 rfl
              have hE := hD.perm (show _ = blk b1 (.cells #[.string ⟨#[]⟩, .int .i64 0, .slice none 0 0, .int .i64 0] 85) * (blk bu (.cells #[.string sb, .int .i64 (p1 : Int), .slice ao no co, .int .i64 most] 85) * (blk b0 (.cells #[.string sb, .int .i64 (p1 : Int), .slice ao no co, .int .i64 most] 85) * (own 3 1 (.slice a all.length c) all.length (nvs all) * F))) by ac_rfl)
              have r0 := hE.cell 0 rfl
              have r1 := hE.cell 1 rfl
              have r2 := hE.cell 2 rfl
              have r3 := hE.cell 3 rfl
              have rf0 := hE.free 0
              have rf1 := hE.free 1
              have rf2 := hE.free 2
              have rf3 := hE.free 3
              have HF := Lib.hid (set4 hE rfl (.string sb) (.int .i64 (p1 : Int)) (.slice ao no co) (.int .i64 most))
              clear hD hE
              go_wp2_with fail
              refine bodyPost_ret3c rfl rfl HF.out.at_ Try.underlying85 rfl (by show _ = some 4; kernel_rfl) rfl ?_
              rw [← HRX.out]
              exact ⟨_, 2, p1, rfl, ⟨rfl, by decide, HF.out.right.right.right.right⟩, HP1.out⟩
            · rw [if_neg hcut, if_neg hcut, if_neg hcut] at C
              have hr := HRR.out
              rw [if_neg hcut] at hr
              obtain ⟨p2, hp2⟩ : ∃ p2, p2 = p1 + 7 := ⟨_, rfl⟩
              rw [← hp2] at C hr
              have HP2 := Lib.hid (show p2 ≤ t.length by omega); clear hp2
              have hmv : vl t p1 7 < 2 ^ 7 := numV_lt true (fun i => t.getD (p1 + i) 0) (fun i => ht.getD _) 7
              generalize vl t p1 7 = mr at *
              have hmr : mr ≤ 127 := by simp only [Nat.reducePow] at hmv; omega
              have HRX := Lib.hid hr; clear hr HRR hmv
              have HC := Lib.hid C; clear C h7
              obtain ⟨M, hM⟩ : ∃ M, M = 11 + mr := ⟨_, rfl⟩
              have hMi : (11 : Int) + mr = (M : Int) := by omega
              have hM2 : M ≤ 138 := by omega
              have HM := Lib.hid hM
              rw [← hM] at HRX
              clear hM
              go_wp2_with fail
              refine HC.out.mono ?_
              rintro e w5 ⟨rfl, h8⟩
              have hD := h8.alloc (.cells #[.string sb, .int .i64 (p2 : Int), .slice ao no co, .int .i64 most] 85)
              clear h8 d0 d1 d2 d3 HC
              go_upto_region 17 with (fail)
              generalize w5.heap.size = bu at *
              generalize w5.alloc (.cells #[.string sb, .int .i64 (p2 : Int), .slice ao no co, .int .i64 most] 85) = W5 at *
              have u0 := hD.cell 0 rfl
              have u1 := hD.cell 1 rfl
              have u2 := hD.cell 2 rfl
              have u3 := hD.cell 3 rfl
              have hE := hD.perm (show _ = blk b0 (.cells #[.string sb, .int .i64 (p1 : Int), .slice ao no co, .int .i64 most] 85) * (blk bu (.cells #[.string sb, .int .i64 (p2 : Int), .slice ao no co, .int .i64 most] 85) * (own 3 1 (.slice a all.length c) all.length (nvs all) * (blk b1 (.cells #[.string ⟨#[]⟩, .int .i64 0, .slice none 0 0, .int .i64 0] 85) * F))) by ac_rfl)
              have r0 := hE.cell 0 rfl
              have r1 := hE.cell 1 rfl
              have r2 := hE.cell 2 rfl
              have r3 := hE.cell 3 rfl
              have rf0 := hE.free 0
              have rf1 := hE.free 1
              have rf2 := hE.free 2
              have rf3 := hE.free 3
              have h9 := ((set4 hE rfl (.string sb) (.int .i64 (p2 : Int)) (.slice ao no co) (.int .i64 most)).perm (show _ = blk bu (.cells #[.string sb, .int .i64 (p2 : Int), .slice ao no co, .int .i64 most] 85) * (own 3 1 (.slice a all.length c) all.length (nvs all) * (blk b0 (.cells #[.string sb, .int .i64 (p2 : Int), .slice ao no co, .int .i64 most] 85) * (blk b1 (.cells #[.string ⟨#[]⟩, .int .i64 0, .slice none 0 0, .int .i64 0] 85) * F))) by ac_rfl)).right
              have H9 := Lib.hid h9
              clear hD hE h9
              go_upto_region 20 with (fail)
              generalize (((W5.setCell ⟨b0, 0, none⟩ (.string sb)).setCell ⟨b0, 1, none⟩ (.int .i64 (p2 : Int))).setCell ⟨b0, 2, none⟩ (.slice ao no co)).setCell ⟨b0, 3, none⟩ (.int .i64 most) = W6 at *
              clear u0 u1 u2 u3 r0 r1 r2 r3 rf0 rf1 rf2 rf3
              go_wp2_with fail
              go_loopw [9, 19] (fun vo vi wr => ∃ (m : Nat) (aj : Option Addr) (cj : Nat), m ≤ M ∧ vi = .int .i64 m ∧ vo = .slice aj (all.length + m) cj ∧ St w0 wr (own 3 1 (.slice aj (all.length + m) cj) (all.length + m) (nvs (all ++ List.replicate m 0)) * (blk b0 (.cells #[.string sb, .int .i64 (p2 : Int), .slice ao no co, .int .i64 most] 85) * (blk b1 (.cells #[.string ⟨#[]⟩, .int .i64 0, .slice none 0 0, .int .i64 0] 85) * F)))) (fun _ vi _ => M - (intOf vi).toNat)
              case atStart => exact ⟨0, _, _, by omega, rfl, rfl, by simpa using H9.out⟩
              case round =>
                clear H9
                obtain ⟨m, aj, cj, hj, rfl, rfl, hst⟩ := hrel
                by_cases hjM : m < M
                · have hj2 : (m : Int) < M := by omega
                  have HX := Lib.hid (show nvs (all ++ List.replicate m 0) ++ [(0 : Int)].map iv = nvs (all ++ List.replicate (m + 1) 0) by rw [List.replicate_succ', ← List.append_assoc, nvs, nvs, List.map_append (l₂ := [0])]; rfl)
                  have HST := Lib.hid hst; clear hst
                  go_wp2_with (at_builtin; apply stop)
                  refine on (wpList_append_sep T rfl _ _ rfl rfl (HST.out.drop_alloc (.cells #[.int .i64 (0 : Int)] 3)) rfl (reads_int1 _ 0) (iv_oneCell [(0 : Int)]) ?_ ?_ ?_)
                  · unfold maxLen; omega
                  · omega
                  intro v' w7 h9 _
                  rw [HX.out, Nat.add_assoc] at h9
                  obtain ⟨aN, cN, rfl⟩ := h9.reads.sub
                  have H9 := Lib.hid h9; clear h9
                  go_wp2_with fail
                  go_roundw
                  case rel => exact ⟨m + 1, aN, cN, by omega, by go_num, rfl, H9.out⟩
                  case measure => simp [intOf]; omega
                · obtain rfl : m = M := by omega
                  have hl1 : (all ++ List.replicate m 0).length = all.length + m := by simp
                  have hMp : 1 ≤ m := by have := HM.out; omega
                  have h9 := hst
                  rw [← hl1] at h9
                  have H9 := Lib.hid h9; clear h9 hst
                  have HRY := Lib.hid HRX.out; clear HRX
                  go_wp2_with fail
                  go_roundg g
                  case measure => omega
                  case rel => exact ⟨all ++ List.replicate m 0, aj, cj, p2, by rw [hl1], by rw [hl1]; have := HG.out; omega, by have := HG.out; omega, by rw [hl1]; omega, HRY.out, HP2.out, H9.out⟩
          · have hi17 : i = 17 := by omega
            subst hi17
            simp only [Nat.reduceEqDiff, ↓reduceIte] at hres
            have C := HNUM.out W4 _ h7 p1 HP1.out 3 (by omega)
            have HRR := Lib.hid hres; clear hres
            by_cases hcut : t.length < p1 + 3
            · rw [if_pos hcut, if_pos hcut, if_pos hcut] at C
              have hr := HRR.out
              rw [if_pos hcut] at hr
              have HRX := Lib.hid hr; clear hr HRR
              have HC := Lib.hid C; clear C h7
              go_wp2_with fail
              refine HC.out.mono ?_
              rintro e w5 ⟨rfl, h8⟩
              have hD := h8.alloc (.cells #[.string sb, .int .i64 (p1 : Int), .slice ao no co, .int .i64 most] 85)
              clear h8 d0 d1 d2 d3 HC
              go_upto_region 17 with (fail)
              generalize w5.heap.size = bu at *
              generalize w5.alloc (.cells #[.string sb, .int .i64 (p1 : Int), .slice ao no co, .int .i64 most] 85) = W5 at *
              have u0 := hD.cell 0 rfl
              have u1 := hD.cell 1 rfl
              have u2 := hD.cell 2 rfl
              have u3 := hD.cell 3 rfl
              have hE := hD.perm (show _ = blk b1 (.cells #[.string ⟨#[]⟩, .int .i64 0, .slice none 0 0, .int .i64 0] 85) * (blk bu (.cells #[.string sb, .int .i64 (p1 : Int), .slice ao no co, .int .i64 most] 85) * (blk b0 (.cells #[.string sb, .int .i64 (p1 : Int), .slice ao no co, .int .i64 most] 85) * (own 3 1 (.slice a all.length c) all.length (nvs all) * F))) by ac_rfl)
              have r0 := hE.cell 0 rfl
              have r1 := hE.cell 1 rfl
              have r2 := hE.cell 2 rfl
              have r3 := hE.cell 3 rfl
              have rf0 := hE.free 0
              have rf1 := hE.free 1
              have rf2 := hE.free 2
              have rf3 := hE.free 3
              have HF := Lib.hid (set4 hE rfl (.string sb) (.int .i64 (p1 : Int)) (.slice ao no co) (.int .i64 most))
              clear hD hE
              go_wp2_with fail
              refine bodyPost_ret3c rfl rfl HF.out.at_ Try.underlying85 rfl (by show _ = some 4; kernel_rfl) rfl ?_
              rw [← HRX.out]
              exact ⟨_, 2, p1, rfl, ⟨rfl, by decide, HF.out.right.right.right.right⟩, HP1.out⟩
            · rw [if_neg hcut, if_neg hcut, if_neg hcut] at C
              have hr := HRR.out
              rw [if_neg hcut] at hr
              obtain ⟨p2, hp2⟩ : ∃ p2, p2 = p1 + 3 := ⟨_, rfl⟩
              rw [← hp2] at C hr
              have HP2 := Lib.hid (show p2 ≤ t.length by omega); clear hp2
              have hmv : vl t p1 3 < 2 ^ 3 := numV_lt true (fun i => t.getD (p1 + i) 0) (fun i => ht.getD _) 3
              generalize vl t p1 3 = mr at *
              have hmr : mr ≤ 127 := by simp only [Nat.reducePow] at hmv; omega
              have HRX := Lib.hid hr; clear hr HRR hmv
              have HC := Lib.hid C; clear C h7
              obtain ⟨M, hM⟩ : ∃ M, M = 3 + mr := ⟨_, rfl⟩
              have hMi : (3 : Int) + mr = (M : Int) := by omega
              have hM2 : M ≤ 138 := by omega
              have HM := Lib.hid hM
              rw [← hM] at HRX
              clear hM
              go_wp2_with fail
              refine HC.out.mono ?_
              rintro e w5 ⟨rfl, h8⟩
              have hD := h8.alloc (.cells #[.string sb, .int .i64 (p2 : Int), .slice ao no co, .int .i64 most] 85)
              clear h8 d0 d1 d2 d3 HC
              go_upto_region 17 with (fail)
              generalize w5.heap.size = bu at *
              generalize w5.alloc (.cells #[.string sb, .int .i64 (p2 : Int), .slice ao no co, .int .i64 most] 85) = W5 at *
              have u0 := hD.cell 0 rfl
              have u1 := hD.cell 1 rfl
              have u2 := hD.cell 2 rfl
              have u3 := hD.cell 3 rfl
              have hE := hD.perm (show _ = blk b0 (.cells #[.string sb, .int .i64 (p1 : Int), .slice ao no co, .int .i64 most] 85) * (blk bu (.cells #[.string sb, .int .i64 (p2 : Int), .slice ao no co, .int .i64 most] 85) * (own 3 1 (.slice a all.length c) all.length (nvs all) * (blk b1 (.cells #[.string ⟨#[]⟩, .int .i64 0, .slice none 0 0, .int .i64 0] 85) * F))) by ac_rfl)
              have r0 := hE.cell 0 rfl
              have r1 := hE.cell 1 rfl
              have r2 := hE.cell 2 rfl
              have r3 := hE.cell 3 rfl
              have rf0 := hE.free 0
              have rf1 := hE.free 1
              have rf2 := hE.free 2
              have rf3 := hE.free 3
              have h9 := ((set4 hE rfl (.string sb) (.int .i64 (p2 : Int)) (.slice ao no co) (.int .i64 most)).perm (show _ = blk bu (.cells #[.string sb, .int .i64 (p2 : Int), .slice ao no co, .int .i64 most] 85) * (own 3 1 (.slice a all.length c) all.length (nvs all) * (blk b0 (.cells #[.string sb, .int .i64 (p2 : Int), .slice ao no co, .int .i64 most] 85) * (blk b1 (.cells #[.string ⟨#[]⟩, .int .i64 0, .slice none 0 0, .int .i64 0] 85) * F))) by ac_rfl)).right
              have H9 := Lib.hid h9
              clear hD hE h9
              go_upto_region 20 with (fail)
              generalize (((W5.setCell ⟨b0, 0, none⟩ (.string sb)).setCell ⟨b0, 1, none⟩ (.int .i64 (p2 : Int))).setCell ⟨b0, 2, none⟩ (.slice ao no co)).setCell ⟨b0, 3, none⟩ (.int .i64 most) = W6 at *
              clear u0 u1 u2 u3 r0 r1 r2 r3 rf0 rf1 rf2 rf3
              go_wp2_with fail
              go_loopw [9, 19] (fun vo vi wr => ∃ (m : Nat) (aj : Option Addr) (cj : Nat), m ≤ M ∧ vi = .int .i64 m ∧ vo = .slice aj (all.length + m) cj ∧ St w0 wr (own 3 1 (.slice aj (all.length + m) cj) (all.length + m) (nvs (all ++ List.replicate m 0)) * (blk b0 (.cells #[.string sb, .int .i64 (p2 : Int), .slice ao no co, .int .i64 most] 85) * (blk b1 (.cells #[.string ⟨#[]⟩, .int .i64 0, .slice none 0 0, .int .i64 0] 85) * F)))) (fun _ vi _ => M - (intOf vi).toNat)
              case atStart => exact ⟨0, _, _, by omega, rfl, rfl, by simpa using H9.out⟩
              case round =>
                clear H9
                obtain ⟨m, aj, cj, hj, rfl, rfl, hst⟩ := hrel
                by_cases hjM : m < M
                · have hj2 : (m : Int) < M := by omega
                  have HX := Lib.hid (show nvs (all ++ List.replicate m 0) ++ [(0 : Int)].map iv = nvs (all ++ List.replicate (m + 1) 0) by rw [List.replicate_succ', ← List.append_assoc, nvs, nvs, List.map_append (l₂ := [0])]; rfl)
                  have HST := Lib.hid hst; clear hst
                  go_wp2_with (at_builtin; apply stop)
                  refine on (wpList_append_sep T rfl _ _ rfl rfl (HST.out.drop_alloc (.cells #[.int .i64 (0 : Int)] 3)) rfl (reads_int1 _ 0) (iv_oneCell [(0 : Int)]) ?_ ?_ ?_)
                  · unfold maxLen; omega
                  · omega
                  intro v' w7 h9 _
                  rw [HX.out, Nat.add_assoc] at h9
                  obtain ⟨aN, cN, rfl⟩ := h9.reads.sub
                  have H9 := Lib.hid h9; clear h9
                  go_wp2_with fail
                  go_roundw
                  case rel => exact ⟨m + 1, aN, cN, by omega, by go_num, rfl, H9.out⟩
                  case measure => simp [intOf]; omega
                · obtain rfl : m = M := by omega
                  have hl1 : (all ++ List.replicate m 0).length = all.length + m := by simp
                  have hMp : 1 ≤ m := by have := HM.out; omega
                  have h9 := hst
                  rw [← hl1] at h9
                  have H9 := Lib.hid h9; clear h9 hst
                  have HRY := Lib.hid HRX.out; clear HRX
                  go_wp2_with fail
                  go_roundg g
                  case measure => omega
                  case rel => exact ⟨all ++ List.replicate m 0, aj, cj, p2, by rw [hl1], by rw [hl1]; have := HG.out; omega, by have := HG.out; omega, by rw [hl1]; omega, HRY.out, HP2.out, H9.out⟩
    · rw [if_neg hln] at hres
      have hln2 : ¬ (all.length : Int) < n := by omega
      have hA := hst.perm (star_left_comm _ _ _)
      have c0 := hA.cell 0 rfl
      have c1 := hA.cell 1 rfl
      have c2 := hA.cell 2 rfl
      have c3 := hA.cell 3 rfl
      have hB := hA.perm (show _ = blk b1 (.cells #[.string ⟨#[]⟩, .int .i64 0, .slice none 0 0, .int .i64 0] 85) * (blk b0 (.cells #[.string sb, .int .i64 (q : Int), .slice ao no co, .int .i64 most] 85) * (own 3 1 (.slice a all.length c) all.length (nvs all) * F)) by ac_rfl)
      have r0 := hB.cell 0 rfl
      have r1 := hB.cell 1 rfl
      have r2 := hB.cell 2 rfl
      have r3 := hB.cell 3 rfl
      have rf0 := hB.free 0
      have rf1 := hB.free 1
      have rf2 := hB.free 2
      have rf3 := hB.free 3
      have HF := Lib.hid (set4 hB rfl (.string sb) (.int .i64 (q : Int)) (.slice ao no co) (.int .i64 most))
      clear hst hA hB
      by_cases hgt : n < all.length
      · have hgt2 : (n : Int) < all.length := by omega
        rw [if_pos hgt] at hres
        have HRS := Lib.hid hres; clear hres
        go_wp2_with fail
        refine bodyPost_ret3c rfl rfl HF.out.at_ Try.underlying85 rfl (by show _ = some 4; kernel_rfl) rfl ?_
        rw [← HRS.out]
        exact ⟨_, 3, q, rfl, ⟨rfl, by decide, HF.out.right.right.right⟩, hq⟩
      · have hgt2 : ¬ (n : Int) < all.length := by omega
        rw [if_neg hgt] at hres
        have HRS := Lib.hid hres; clear hres
        go_wp2_with fail
        refine bodyPost_ret3c rfl rfl HF.out.at_ Try.underlying85 rfl (by show _ = some 4; kernel_rfl) rfl ?_
        rw [← HRS.out]
        exact ⟨_, 0, q, rfl, ⟨rfl, rfl, HF.out.right.right⟩, hq⟩
end Go.Proofs.Ytddifndfppilkaa
