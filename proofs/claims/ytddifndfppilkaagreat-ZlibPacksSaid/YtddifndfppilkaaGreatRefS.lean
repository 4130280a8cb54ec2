/-
  The document's block of bytes that stand as they are (package mezzotintref08).
  The document's lengths that words tell (package mezzotintref08).
-/
import Derived.Test.YtddifndfppilkaaGreatRefH
import Derived.Test.YtddifndfppilkaaGreatInfD
import Derived.Test.YtddifndfppilkaaGreatInfE
namespace Go.Proofs.YtddifndfppilkaaGreat
open Go.RowKit Go.Mz
set_option linter.unusedVariables false
set_option linter.unusedSimpArgs false
set_option maxRecDepth 100000

set_option maxHeartbeats 40000000 in
theorem rstored_any {w0 w : World} {F : SProp} {t : List Nat} (ht : Bit t) (hl : t.length ≤ 1000000000) {p : Nat} (hp : p ≤ t.length) {out : List UInt8} {most : Nat} (hom : out.length ≤ most) (hm : most ≤ 10000000000000) {ao : Option Addr} {co : Nat} (h : St w0 w (own 5 1 (.slice ao out.length co) out.length (out.map bv) * F)) {sb : ByteArray} (hsb : sb = ⟨(tx t).toArray⟩) :
    Calls Tryz.prog 33 #[.agg (rstC sb p (.slice ao out.length co) most)] w fun e w' => ∃ (x p' : Nat) (out' : List UInt8) (ao' : Option Addr) (co' : Nat),
      e = .returned (.tuple #[.agg (rstC sb p' (.slice ao' out'.length co') most), .int .i64 (x : Nat)]) ∧ ResR (storedF t most p out) x p' out' ∧ (x = 0 → p' ≤ t.length) ∧ out'.length ≤ most ∧ St w0 w' (own 5 1 (.slice ao' out'.length co') out'.length (out'.map bv) * F) := by
  have h1 := (h.alloc (.cells (rstC sb p (.slice ao out.length co) most) 64)).alloc (.cells rst0 64)
  have hsz : (w.alloc (.cells (rstC sb p (.slice ao out.length co) most) 64)).heap.size = w.heap.size + 1 := by
    show (w.heap.push _).size = _
    exact Array.size_push _
  rw [hsz] at h1
  have HNUM := Lib.hid (fun (w : World) (G : SProp) (h : St w0 w G) (q : Nat) (hq : q ≤ t.length) (ao : Option Addr) (no co : Nat) (n : Nat) (hn : n ≤ 31) => rnum_any h ht hl hq n hn (ao := ao) (no := no) (co := co) (most := (most : Int)) hsb (j := (n : Int)) rfl)
  have hsbl : sb.size = t.length := by rw [hsb, Lib.size_eq]; simp
  have HR := Lib.hid (show storedF t most p out = (if t.length < (p + 7) / 8 * 8 + 32 then .inl 2 else if vl t ((p + 7) / 8 * 8) 16 + vl t ((p + 7) / 8 * 8 + 16) 16 ≠ 65535 then .inl 3 else bytesF t most (vl t ((p + 7) / 8 * 8) 16) ((p + 7) / 8 * 8 + 32) out) from rfl)
  have hq : ((p : Int) + 7) / 8 * 8 = (((p + 7) / 8 * 8 : Nat) : Int) := by omega
  have hq2 : (p + 7) / 8 * 8 ≤ t.length + 8 := by omega
  generalize (p + 7) / 8 * 8 = q at *
  unfold rstC rst0 at h1
  clear h hsz hsb
  have H1 := Lib.hid h1; clear h1
  unfold rstC at HNUM ⊢
  go_enter Tryz.func33, Tryz.ntmps33
  go_upto_region 1 with (fail)
  have h1 := H1.out
  clear H1
  generalize hb0 : w.heap.size = b0 at *
  generalize hb1 : b0 + 1 = b1 at *
  generalize hW : (w.alloc (.cells #[.string sb, .int .i64 (p : Int), .slice ao out.length co, .int .i64 (most : Int)] 64)).alloc (.cells #[.string ⟨#[]⟩, .int .i64 0, .slice none 0 0, .int .i64 0] 64) = W at *
  have hne : ¬ b0 = b1 := by omega
  have hne' : ¬ b1 = b0 := by omega
  clear hb0 hb1 hW
  have h2 := h1.perm (show _ = blk b0 (.cells #[.string sb, .int .i64 (p : Int), .slice ao out.length co, .int .i64 (most : Int)] 64) * (blk b1 (.cells #[.string ⟨#[]⟩, .int .i64 0, .slice none 0 0, .int .i64 0] 64) * (own 5 1 (.slice ao out.length co) out.length (out.map bv) * F)) by ac_rfl)
  have c1 := h2.cell 1 rfl
  have g1 := h2.free 1
  have HQ := Lib.hid (h2.set 1 (.int .i64 (q : Int)))
  clear h1 h2
  go_upto_region 2 with (fail)
  generalize W.setCell ⟨b0, 1, none⟩ (.int .i64 (q : Int)) = W2 at *
  have h2 : St w0 W2 (blk b0 (.cells #[.string sb, .int .i64 (q : Int), .slice ao out.length co, .int .i64 (most : Int)] 64) * (blk b1 (.cells #[.string ⟨#[]⟩, .int .i64 0, .slice none 0 0, .int .i64 0] 64) * (own 5 1 (.slice ao out.length co) out.length (out.map bv) * F))) := HQ.out
  clear HQ c1 g1 hq
  have c0 := h2.cell 0 rfl
  have c1 := h2.cell 1 rfl
  have c2 := h2.cell 2 rfl
  have c3 := h2.cell 3 rfl
  have h3 := h2.perm (star_left_comm _ _ _)
  have r0 := h3.cell 0 rfl
  have r1 := h3.cell 1 rfl
  have r2 := h3.cell 2 rfl
  have r3 := h3.cell 3 rfl
  have rf0 := h3.free 0
  have rf1 := h3.free 1
  have rf2 := h3.free 2
  have rf3 := h3.free 3
  have HF := Lib.hid (set4 h3 rfl (.string sb) (.int .i64 (q : Int)) (.slice ao out.length co) (.int .i64 (most : Int)))
  have H2 := Lib.hid h2; clear h2 h3
  by_cases hcut : t.length < q + 32
  · have hc2 : (t.length : Int) < (q : Int) + 32 := by omega
    rw [if_pos hcut] at HR
    go_wp2_with fail
    refine bodyPost_ret2c rfl rfl HF.out.at_ Tryz.underlying64 rfl (by show _ = some 4; kernel_rfl) rfl ?_
    exact ⟨2, q, out, ao, co, rfl, by rw [HR.out]; exact ⟨rfl, by decide⟩, (fun h => by cases h), hom, HF.out.right.right⟩
  · have hc2 : ¬ (t.length : Int) < (q : Int) + 32 := by omega
    rw [if_neg hcut] at HR
    have C1 := HNUM.out W2 _ H2.out q (by omega) ao out.length co 16 (by omega)
    rw [if_neg (by omega), if_neg (by omega), if_neg (by omega)] at C1
    obtain ⟨q1, hq1⟩ : ∃ q1, q1 = q + 16 := ⟨_, rfl⟩
    obtain ⟨q3, hq3⟩ : ∃ q3, q3 = q1 + 16 := ⟨_, rfl⟩
    rw [← hq1] at C1
    have hq1l : q1 + 16 ≤ t.length := by omega
    have HQ1 := Lib.hid hq1; have HQ3 := Lib.hid hq3; clear hq1 hq3
    have HC1 := Lib.hid C1; clear C1 HF r0 r1 r2 r3 rf0 rf1 rf2 rf3
    go_wp2_with fail
    refine HC1.out.mono ?_
    rintro e w3 ⟨rfl, h5⟩
    have d0 := h5.cell 0 rfl
    have d1 := h5.cell 1 rfl
    have d2 := h5.cell 2 rfl
    have d3 := h5.cell 3 rfl
    have df0 := h5.free 0
    have df1 := h5.free 1
    have df2 := h5.free 2
    have df3 := h5.free 3
    have HF3 := Lib.hid (set4 h5 rfl (.string sb) (.int .i64 (q1 : Int)) (.slice ao out.length co) (.int .i64 (most : Int)))
    clear h5 HC1
    go_upto_region 5 with (fail)
    generalize (((w3.setCell ⟨b0, 0, none⟩ (.string sb)).setCell ⟨b0, 1, none⟩ (.int .i64 (q1 : Int))).setCell ⟨b0, 2, none⟩ (.slice ao out.length co)).setCell ⟨b0, 3, none⟩ (.int .i64 (most : Int)) = W5 at *
    clear c0 c1 c2 c3 d0 d1 d2 d3 df0 df1 df2 df3
    have h6 := HF3.out
    have c0 := h6.cell 0 rfl
    have c1 := h6.cell 1 rfl
    have c2 := h6.cell 2 rfl
    have c3 := h6.cell 3 rfl
    have C2 := HNUM.out W5 _ h6 q1 (by omega) ao out.length co 16 (by omega)
    rw [if_neg (by omega), if_neg (by omega), if_neg (by omega)] at C2
    rw [← HQ3.out] at C2
    have HC2 := Lib.hid C2; clear C2 HF3 h6
    go_wp2_with fail
    refine HC2.out.mono ?_
    rintro e w6 ⟨rfl, h7⟩
    have d0 := h7.cell 0 rfl
    have d1 := h7.cell 1 rfl
    have d2 := h7.cell 2 rfl
    have d3 := h7.cell 3 rfl
    have df0 := h7.free 0
    have df1 := h7.free 1
    have df2 := h7.free 2
    have df3 := h7.free 3
    have HF7 := Lib.hid (set4 h7 rfl (.string sb) (.int .i64 (q3 : Int)) (.slice ao out.length co) (.int .i64 (most : Int)))
    clear h7 HC2
    go_upto_region 6 with (fail)
    generalize (((w6.setCell ⟨b0, 0, none⟩ (.string sb)).setCell ⟨b0, 1, none⟩ (.int .i64 (q3 : Int))).setCell ⟨b0, 2, none⟩ (.slice ao out.length co)).setCell ⟨b0, 3, none⟩ (.int .i64 (most : Int)) = W7 at *
    clear c0 c1 c2 c3 d0 d1 d2 d3 df0 df1 df2 df3
    have hn16 : vl t q 16 < 2 ^ 16 := numV_lt true (fun i => t.getD (q + i) 0) (fun i => ht.getD _) 16
    have hm16 : vl t q1 16 < 2 ^ 16 := numV_lt true (fun i => t.getD (q1 + i) 0) (fun i => ht.getD _) 16
    rw [← HQ1.out, show q + 32 = q3 by have := HQ1.out; have := HQ3.out; omega] at HR
    generalize vl t q 16 = n at *
    generalize vl t q1 16 = m at *
    have h8 := HF7.out
    clear HF7
    by_cases hnm : n + m = 65535
    · rw [if_neg (by omega)] at HR
      have hnm2 : ((n : Int) + m != 65535) = false := by rw [bne_eq_false_iff_eq]; omega
      generalize hRES : bytesF t most n q3 out = RES at *
      have HRES := Lib.hid hRES; clear hRES
      have HQ3L := Lib.hid (show q3 ≤ t.length by rw [HQ3.out]; exact hq1l)
      have T := elemBytes
      go_wp2_with fail
      go_loopw [8] (fun vi wr => ∃ (j q5 : Nat) (o : List UInt8) (aj : Option Addr) (cj : Nat), j ≤ n ∧ vi = .int .i64 j ∧ bytesF t most (n - j) q5 o = RES ∧ q5 ≤ t.length ∧ o.length ≤ most ∧
        St w0 wr (blk b0 (.cells #[.string sb, .int .i64 (q5 : Int), .slice aj o.length cj, .int .i64 (most : Int)] 64) * (blk b1 (.cells #[.string ⟨#[]⟩, .int .i64 0, .slice none 0 0, .int .i64 0] 64) * (own 5 1 (.slice aj o.length cj) o.length (o.map bv) * F)))) (fun vi _ => n - (intOf vi).toNat)
      case atStart => exact ⟨0, q3, out, ao, co, by omega, rfl, HRES.out, HQ3L.out, hom, h8⟩
      case round =>
        clear h8 HRES HQ3L
        obtain ⟨j, q5, o, aj, cj, hj, rfl, hres, hq5, hol, hst⟩ := hrel
        by_cases hjn : j < n
        · have hjj : (j : Int) < n := by omega
          rw [show n - j = (n - (j + 1)) + 1 by omega, bytesF] at hres
          have c0 := hst.cell 0 rfl
          have c1 := hst.cell 1 rfl
          have c2 := hst.cell 2 rfl
          have c3 := hst.cell 3 rfl
          have C := HNUM.out wr _ hst q5 hq5 aj o.length cj 8 (by omega)
          have HRS := Lib.hid hres; clear hres hst
          by_cases hcut5 : t.length < q5 + 8
          · rw [if_pos hcut5, if_pos hcut5, if_pos hcut5] at C
            have hres := HRS.out
            rw [if_pos hcut5] at hres
            have HRX := Lib.hid hres; clear hres HRS
            have HC := Lib.hid C; clear C
            go_wp2_with fail
            refine HC.out.mono ?_
            rintro e w9 ⟨rfl, h9⟩
            have hA := h9.alloc (.cells #[.string sb, .int .i64 (q5 : Int), .slice aj o.length cj, .int .i64 (most : Int)] 64)
            clear h9 c0 c1 c2 c3 HC
            go_upto_region 12 with (fail)
            generalize w9.heap.size = bt at *
            generalize w9.alloc (.cells #[.string sb, .int .i64 (q5 : Int), .slice aj o.length cj, .int .i64 (most : Int)] 64) = W10 at *
            have c0 := hA.right.cell 0 rfl
            have c1 := hA.right.cell 1 rfl
            have c2 := hA.right.cell 2 rfl
            have c3 := hA.right.cell 3 rfl
            have hB := hA.perm (show _ = blk b1 (.cells #[.string ⟨#[]⟩, .int .i64 0, .slice none 0 0, .int .i64 0] 64) * (blk bt (.cells #[.string sb, .int .i64 (q5 : Int), .slice aj o.length cj, .int .i64 (most : Int)] 64) * (blk b0 (.cells #[.string sb, .int .i64 (q5 : Int), .slice aj o.length cj, .int .i64 (most : Int)] 64) * (own 5 1 (.slice aj o.length cj) o.length (o.map bv) * F))) by ac_rfl)
            have r0 := hB.cell 0 rfl
            have r1 := hB.cell 1 rfl
            have r2 := hB.cell 2 rfl
            have r3 := hB.cell 3 rfl
            have rf0 := hB.free 0
            have rf1 := hB.free 1
            have rf2 := hB.free 2
            have rf3 := hB.free 3
            have HF := Lib.hid (set4 hB rfl (.string sb) (.int .i64 (q5 : Int)) (.slice aj o.length cj) (.int .i64 (most : Int)))
            clear hA hB
            go_wp2_with fail
            refine bodyPost_ret2c rfl rfl HF.out.at_ Tryz.underlying64 rfl (by show _ = some 4; kernel_rfl) rfl ?_
            exact ⟨2, q5, o, aj, cj, rfl, by rw [HR.out, ← HRX.out]; exact ⟨rfl, by decide⟩, (fun h => by cases h), hol, HF.out.right.right.right⟩
          · rw [if_neg hcut5, if_neg hcut5, if_neg hcut5] at C
            have hres := HRS.out
            rw [if_neg hcut5] at hres
            obtain ⟨q8, hq8⟩ : ∃ q8, q8 = q5 + 8 := ⟨_, rfl⟩
            rw [← hq8] at C hres
            have HQ8 := Lib.hid (show q8 ≤ t.length by omega); clear hq8
            have hc8 : vl t q5 8 < 2 ^ 8 := numV_lt true (fun i => t.getD (q5 + i) 0) (fun i => ht.getD _) 8
            generalize vl t q5 8 = c at *
            have hc256 : c < 256 := hc8
            have hw8 := wrap_u8n (c := c)
            generalize UInt8.ofNat c = ch at *
            have HRS2 := Lib.hid hres; clear hres HRS hc8
            have HC := Lib.hid C; clear C
            go_wp2_with fail
            refine HC.out.mono ?_
            rintro e w9 ⟨rfl, h9⟩
            have hA := h9.alloc (.cells #[.string sb, .int .i64 (q8 : Int), .slice aj o.length cj, .int .i64 (most : Int)] 64)
            clear h9 c0 c1 c2 c3 HC
            go_upto_region 12 with (fail)
            generalize w9.heap.size = bt at *
            generalize w9.alloc (.cells #[.string sb, .int .i64 (q8 : Int), .slice aj o.length cj, .int .i64 (most : Int)] 64) = W10 at *
            have t2 := hA.cell 2 rfl
            have t3 := hA.cell 3 rfl
            by_cases hlim : most ≤ o.length
            · have hl2 : (most : Int) ≤ o.length := by omega
              have hres := HRS2.out
              rw [if_pos hlim] at hres
              have HRX := Lib.hid hres; clear hres HRS2
              have c0 := hA.right.cell 0 rfl
              have c1 := hA.right.cell 1 rfl
              have c2 := hA.right.cell 2 rfl
              have c3 := hA.right.cell 3 rfl
              have hB := hA.perm (show _ = blk b1 (.cells #[.string ⟨#[]⟩, .int .i64 0, .slice none 0 0, .int .i64 0] 64) * (blk bt (.cells #[.string sb, .int .i64 (q8 : Int), .slice aj o.length cj, .int .i64 (most : Int)] 64) * (blk b0 (.cells #[.string sb, .int .i64 (q5 : Int), .slice aj o.length cj, .int .i64 (most : Int)] 64) * (own 5 1 (.slice aj o.length cj) o.length (o.map bv) * F))) by ac_rfl)
              have r0 := hB.cell 0 rfl
              have r1 := hB.cell 1 rfl
              have r2 := hB.cell 2 rfl
              have r3 := hB.cell 3 rfl
              have rf0 := hB.free 0
              have rf1 := hB.free 1
              have rf2 := hB.free 2
              have rf3 := hB.free 3
              have HF := Lib.hid (set4 hB rfl (.string sb) (.int .i64 (q5 : Int)) (.slice aj o.length cj) (.int .i64 (most : Int)))
              clear hA hB
              go_wp2_with fail
              refine bodyPost_ret2c rfl rfl HF.out.at_ Tryz.underlying64 rfl (by show _ = some 4; kernel_rfl) rfl ?_
              exact ⟨8, q5, o, aj, cj, rfl, by rw [HR.out, ← HRX.out]; exact ⟨rfl, by decide⟩, (fun h => by cases h), hol, HF.out.right.right.right⟩
            · have hl2 : ¬ (most : Int) ≤ o.length := by omega
              have hres := HRS2.out
              rw [if_neg hlim] at hres
              have HRX := Lib.hid hres; clear hres HRS2
              have HA := Lib.hid hA; clear hA
              go_wp2_with (at_builtin; apply stop)
              refine on (wpList_append_sep T rfl _ _ rfl rfl ((HA.out.drop_alloc (.cells #[.int .u8 (ch.toNat : Int)] 5)).perm (show _ = own 5 1 (.slice aj o.length cj) o.length (o.map bv) * (blk bt (.cells #[.string sb, .int .i64 (q8 : Int), .slice aj o.length cj, .int .i64 (most : Int)] 64) * (blk b0 (.cells #[.string sb, .int .i64 (q5 : Int), .slice aj o.length cj, .int .i64 (most : Int)] 64) * (blk b1 (.cells #[.string ⟨#[]⟩, .int .i64 0, .slice none 0 0, .int .i64 0] 64) * F))) by ac_rfl)) rfl (reads_u8 W10 ch) (bv_oneCell [ch]) ?_ ?_ ?_)
              · unfold maxLen; omega
              · omega
              intro v' w11 h11 _
              obtain ⟨a7, c7, rfl⟩ := h11.reads.sub
              have u2 := h11.right.cell 2 rfl
              have uf2 := h11.right.free 2
              have h12 := (h11.perm (star_left_comm _ _ _)).set 2 (.slice a7 (o.length + 1 : Nat) c7)
              clear t2 t3
              have H12 := Lib.hid h12; clear h12 h11 HA
              go_upto_region 17 with (fail)
              generalize w11.setCell ⟨bt, 2, none⟩ (.slice a7 (o.length + 1 : Nat) c7) = W12 at *
              clear u2 uf2
              have h13 : St w0 W12 (blk bt (.cells #[.string sb, .int .i64 (q8 : Int), .slice a7 (o.length + 1) c7, .int .i64 (most : Int)] 64) * (own 5 1 (.slice a7 (o.length + 1) c7) (o.length + 1) (o.map bv ++ [ch].map bv) * (blk b0 (.cells #[.string sb, .int .i64 (q5 : Int), .slice aj o.length cj, .int .i64 (most : Int)] 64) * (blk b1 (.cells #[.string ⟨#[]⟩, .int .i64 0, .slice none 0 0, .int .i64 0] 64) * F)))) := H12.out
              have c0 := h13.cell 0 rfl
              have c1 := h13.cell 1 rfl
              have c2 := h13.cell 2 rfl
              have c3 := h13.cell 3 rfl
              have h14 := h13.perm (show _ = blk b0 (.cells #[.string sb, .int .i64 (q5 : Int), .slice aj o.length cj, .int .i64 (most : Int)] 64) * (blk bt (.cells #[.string sb, .int .i64 (q8 : Int), .slice a7 (o.length + 1) c7, .int .i64 (most : Int)] 64) * (blk b1 (.cells #[.string ⟨#[]⟩, .int .i64 0, .slice none 0 0, .int .i64 0] 64) * (own 5 1 (.slice a7 (o.length + 1) c7) (o.length + 1) (o.map bv ++ [ch].map bv) * F))) by ac_rfl)
              have r0 := h14.cell 0 rfl
              have r1 := h14.cell 1 rfl
              have r2 := h14.cell 2 rfl
              have r3 := h14.cell 3 rfl
              have rf0 := h14.free 0
              have rf1 := h14.free 1
              have rf2 := h14.free 2
              have rf3 := h14.free 3
              have h15 := set4 h14 rfl (.string sb) (.int .i64 (q8 : Int)) (.slice a7 (o.length + 1) c7) (.int .i64 (most : Int))
              have h16 := (h15.perm (star_left_comm _ _ _)).right
              have e1 : (o ++ [ch]).length = o.length + 1 := by simp
              have e2 : (o ++ [ch]).map bv = o.map bv ++ [ch].map bv := by simp
              have h17 : St w0 ((((W12.setCell ⟨b0, 0, none⟩ (.string sb)).setCell ⟨b0, 1, none⟩ (.int .i64 (q8 : Int))).setCell ⟨b0, 2, none⟩ (.slice a7 (o.length + 1) c7)).setCell ⟨b0, 3, none⟩ (.int .i64 (most : Int))) (blk b0 (.cells #[.string sb, .int .i64 (q8 : Int), .slice a7 (o ++ [ch]).length c7, .int .i64 (most : Int)] 64) * (blk b1 (.cells #[.string ⟨#[]⟩, .int .i64 0, .slice none 0 0, .int .i64 0] 64) * (own 5 1 (.slice a7 (o ++ [ch]).length c7) (o ++ [ch]).length ((o ++ [ch]).map bv) * F))) := by
                rw [e1, e2]; exact h16
              have H16 := Lib.hid h17
              have HE1 := Lib.hid e1
              clear h13 h14 h15 h16 h17 e1 e2 H12
              go_wp2_with fail
              go_roundw
              case rel => exact ⟨j + 1, q8, o ++ [ch], a7, c7, by omega, by go_num, HRX.out, HQ8.out, by rw [HE1.out]; omega, H16.out⟩
              case measure => simp [intOf]; omega
        · obtain rfl : j = n := by omega
          rw [Nat.sub_self, bytesF] at hres
          have HRX := Lib.hid hres; clear hres
          have c0 := hst.cell 0 rfl
          have c1 := hst.cell 1 rfl
          have c2 := hst.cell 2 rfl
          have c3 := hst.cell 3 rfl
          have hB := hst.perm (star_left_comm _ _ _)
          have r0 := hB.cell 0 rfl
          have r1 := hB.cell 1 rfl
          have r2 := hB.cell 2 rfl
          have r3 := hB.cell 3 rfl
          have rf0 := hB.free 0
          have rf1 := hB.free 1
          have rf2 := hB.free 2
          have rf3 := hB.free 3
          have HF := Lib.hid (set4 hB rfl (.string sb) (.int .i64 (q5 : Int)) (.slice aj o.length cj) (.int .i64 (most : Int)))
          clear hst hB
          go_wp2_with fail
          refine bodyPost_ret2c rfl rfl HF.out.at_ Tryz.underlying64 rfl (by show _ = some 4; kernel_rfl) rfl ?_
          exact ⟨0, q5, o, aj, cj, rfl, by rw [HR.out, ← HRX.out]; exact ⟨rfl, rfl, rfl⟩, (fun _ => hq5), hol, HF.out.right.right⟩
    · rw [if_pos (by omega)] at HR
      have hnm2 : ((n : Int) + m != 65535) = true := by rw [bne_iff_ne]; omega
      have c0 := h8.cell 0 rfl
      have c1 := h8.cell 1 rfl
      have c2 := h8.cell 2 rfl
      have c3 := h8.cell 3 rfl
      have h9 := h8.perm (star_left_comm _ _ _)
      have r0 := h9.cell 0 rfl
      have r1 := h9.cell 1 rfl
      have r2 := h9.cell 2 rfl
      have r3 := h9.cell 3 rfl
      have rf0 := h9.free 0
      have rf1 := h9.free 1
      have rf2 := h9.free 2
      have rf3 := h9.free 3
      have HF8 := Lib.hid (set4 h9 rfl (.string sb) (.int .i64 (q3 : Int)) (.slice ao out.length co) (.int .i64 (most : Int)))
      clear h8 h9
      go_wp2_with fail
      refine bodyPost_ret2c rfl rfl HF8.out.at_ Tryz.underlying64 rfl (by show _ = some 4; kernel_rfl) rfl ?_
      exact ⟨3, q3, out, ao, co, rfl, by rw [HR.out]; exact ⟨rfl, by decide⟩, (fun h => by cases h), hom, HF8.out.right.right⟩
end Go.Proofs.YtddifndfppilkaaGreat

namespace Go.Proofs.YtddifndfppilkaaGreat
open Go.RowKit Go.Mz
set_option linter.unusedVariables false
set_option linter.unusedSimpArgs false
set_option maxRecDepth 100000

set_option maxHeartbeats 40000000 in
theorem rlengths_any {w0 w : World} {F : SProp} (h : St w0 w F) {t : List Nat} (ht : Bit t) (hl : t.length ≤ 1000000000) {p : Nat} (hp : p ≤ t.length) {W : List (List Nat)} (hb : ∀ v ∈ W, Bit v) (hW : W.length ≤ 19) {vw : Value} (hv : Stb w0 F (fun w => Reads w 1 vw W.length (W.map txv))) (n : Nat) (hn : n ≤ 100000) {ao : Option Addr} {no co : Nat} {most : Int} {sb : ByteArray} (hsb : sb = ⟨(tx t).toArray⟩) :
    Calls Tryz.prog 66 #[.agg (rstC sb p (.slice ao no co) most), vw, .int .i64 n] w fun e w' => ∃ (v : Value) (x p' : Nat),
      e = .returned (.tuple #[.agg (rstC sb p' (.slice ao no co) most), v, .int .i64 (x : Nat)]) ∧ LenR (lengthsF t W n (n + 1) [] p) v x p' w0 w' (fun _ => F) ∧ p' ≤ t.length := by
  have T := elemI
  have h1 := (h.alloc (.cells (rstC sb p (.slice ao no co) most) 64)).alloc (.cells rst0 64)
  have hsz : (w.alloc (.cells (rstC sb p (.slice ao no co) most) 64)).heap.size = w.heap.size + 1 := by
    show (w.heap.push _).size = _
    exact Array.size_push _
  rw [hsz] at h1
  obtain ⟨aw, cw, rfl⟩ := (hv w h).sub
  have HNUM := Lib.hid (fun (w : World) (G : SProp) (h : St w0 w G) (q : Nat) (hq : q ≤ t.length) (n : Nat) (hn : n ≤ 31) => rnum_any h ht hl hq n hn (ao := ao) (no := no) (co := co) (most := most) hsb (j := (n : Int)) rfl)
  have HNXT := Lib.hid (fun (w : World) (G : SProp) (h : St w0 w G) (hv : Stb w0 G (fun w => Reads w 1 (.slice aw W.length cw) W.length (W.map txv))) (q : Nat) (hq : q ≤ t.length) => rnext_any h ht hl hq hb (by omega) hv (ao := ao) (no := no) (co := co) (most := most) hsb)
  have HV := Lib.hid hv
  generalize hRES : lengthsF t W n (n + 1) [] p = RES at *
  have HRES := Lib.hid hRES; clear hRES
  unfold rstC rst0 at h1
  clear h hsz hsb hv
  have H1 := Lib.hid (St.own_nil 3 1 h1); clear h1
  unfold rstC at HNUM HNXT ⊢
  go_enter Tryz.func66, Tryz.ntmps66
  go_upto_region 1 with (fail)
  have h1 := H1.out
  clear H1
  generalize hb0 : w.heap.size = b0 at *
  generalize hb1 : b0 + 1 = b1 at *
  generalize hWW : (w.alloc (.cells #[.string sb, .int .i64 (p : Int), .slice ao no co, .int .i64 most] 64)).alloc (.cells #[.string ⟨#[]⟩, .int .i64 0, .slice none 0 0, .int .i64 0] 64) = Ww at *
  have hne : ¬ b0 = b1 := by omega
  have hne' : ¬ b1 = b0 := by omega
  clear hb0 hb1 hWW
  have H2 := Lib.hid (h1.perm (show _ = own 3 1 (.slice none 0 0) 0 [] * (blk b0 (.cells #[.string sb, .int .i64 (p : Int), .slice ao no co, .int .i64 most] 64) * (blk b1 (.cells #[.string ⟨#[]⟩, .int .i64 0, .slice none 0 0, .int .i64 0] 64) * F)) by ac_rfl)); clear h1
  go_wp2_with fail
  go_loopg [9] (n + 1) (fun g va wr => ∃ (all : List Nat) (a : Option Addr) (c q : Nat), va = .slice a all.length c ∧ n + 1 ≤ g + all.length ∧ 1 ≤ g ∧ all.length ≤ n + 300 ∧ lengthsF t W n g all q = RES ∧ q ≤ t.length ∧ St w0 wr (own 3 1 (.slice a all.length c) all.length (nvs all) * (blk b0 (.cells #[.string sb, .int .i64 (q : Int), .slice ao no co, .int .i64 most] 64) * (blk b1 (.cells #[.string ⟨#[]⟩, .int .i64 0, .slice none 0 0, .int .i64 0] 64) * F))))
  case atStart => exact ⟨[], none, 0, p, rfl, by simp, by omega, by simp, HRES.out, hp, H2.out⟩
  case round =>
    clear H2 HRES
    obtain ⟨all, a, c, q, rfl, hg, hg1, hal, hres, hq, hst⟩ := hrel
    obtain ⟨g, rfl⟩ : ∃ g, gk = g + 1 := ⟨gk - 1, by omega⟩
    rw [lengthsF] at hres
    have HG := Lib.hid hg; clear hg
    by_cases hln : all.length < n
    · rw [if_pos hln] at hres
      have hln2 : (all.length : Int) < n := by omega
      have hA := hst.perm (star_left_comm _ _ _)
      have c0 := hA.cell 0 rfl
      have c1 := hA.cell 1 rfl
      have c2 := hA.cell 2 rfl
      have c3 := hA.cell 3 rfl
      have hlen := rdW_len W (t.drop q) []
      have hdl : (t.drop q).length = t.length - q := List.length_drop
      have C := HNXT.out wr _ hst (fun w h => HV.out w h.right.right.right) q hq
      generalize rdW W [] (t.drop q) = r at *
      obtain ⟨k, r⟩ := r
      have hk1 : q + k ≤ t.length := by have := hlen.2.1; simp only [List.length_nil, hdl] at this; omega
      have HC := Lib.hid C; clear C hst hA hdl
      have HRS := Lib.hid hres; clear hres
      go_wp2_with fail
      refine HC.out.mono ?_
      rintro e w2 ⟨z, x, p1, rfl, hrd, h3⟩
      have hA := h3.alloc (.cells #[.string sb, .int .i64 (p1 : Int), .slice ao no co, .int .i64 most] 64)
      clear h3 c0 c1 c2 c3 HC
      go_upto_region 4 with (fail)
      generalize w2.heap.size = bt at *
      generalize w2.alloc (.cells #[.string sb, .int .i64 (p1 : Int), .slice ao no co, .int .i64 most] 64) = W3 at *
      have t0 := hA.cell 0 rfl
      have t1 := hA.cell 1 rfl
      have t2 := hA.cell 2 rfl
      have t3 := hA.cell 3 rfl
      cases r with
      | inr er =>
        have her := hlen.2.2.2.2 er rfl
        obtain ⟨hp1, hx⟩ := hrd
        have HP1 := Lib.hid (show p1 ≤ t.length by rw [hp1]; exact hk1)
        simp only at hx HRS
        subst hx
        have hx2 : ¬ (x : Int) = 0 := by omega
        have hB := hA.perm (show _ = blk b1 (.cells #[.string ⟨#[]⟩, .int .i64 0, .slice none 0 0, .int .i64 0] 64) * (blk bt (.cells #[.string sb, .int .i64 (p1 : Int), .slice ao no co, .int .i64 most] 64) * (blk b0 (.cells #[.string sb, .int .i64 (q : Int), .slice ao no co, .int .i64 most] 64) * (own 3 1 (.slice a all.length c) all.length (nvs all) * F))) by ac_rfl)
        have r0 := hB.cell 0 rfl
        have r1 := hB.cell 1 rfl
        have r2 := hB.cell 2 rfl
        have r3 := hB.cell 3 rfl
        have rf0 := hB.free 0
        have rf1 := hB.free 1
        have rf2 := hB.free 2
        have rf3 := hB.free 3
        have HF := Lib.hid (set4 hB rfl (.string sb) (.int .i64 (p1 : Int)) (.slice ao no co) (.int .i64 most))
        clear hA hB hlen hp1 hk1
        go_wp2_with fail
        refine bodyPost_ret3c rfl rfl HF.out.at_ Tryz.underlying64 rfl (by show _ = some 4; kernel_rfl) rfl ?_
        rw [← HRS.out]
        exact ⟨_, x, p1, rfl, ⟨rfl, by omega, HF.out.right.right.right.right⟩, HP1.out⟩
      | inl i =>
        obtain ⟨hp1, hx, hz⟩ := hrd
        subst hx hz
        have HP1 := Lib.hid (show p1 ≤ t.length by rw [hp1]; exact hk1)
        simp only at HRS
        rw [← hp1] at HRS
        have hi19 := (hlen.2.2.2.1 i rfl).2
        have hB := hA.perm (show _ = blk b0 (.cells #[.string sb, .int .i64 (q : Int), .slice ao no co, .int .i64 most] 64) * (blk bt (.cells #[.string sb, .int .i64 (p1 : Int), .slice ao no co, .int .i64 most] 64) * (own 3 1 (.slice a all.length c) all.length (nvs all) * (blk b1 (.cells #[.string ⟨#[]⟩, .int .i64 0, .slice none 0 0, .int .i64 0] 64) * F))) by ac_rfl)
        have r0 := hB.cell 0 rfl
        have r1 := hB.cell 1 rfl
        have r2 := hB.cell 2 rfl
        have r3 := hB.cell 3 rfl
        have rf0 := hB.free 0
        have rf1 := hB.free 1
        have rf2 := hB.free 2
        have rf3 := hB.free 3
        have h6 := ((set4 hB rfl (.string sb) (.int .i64 (p1 : Int)) (.slice ao no co) (.int .i64 most)).perm (show _ = blk bt (.cells #[.string sb, .int .i64 (p1 : Int), .slice ao no co, .int .i64 most] 64) * (blk b0 (.cells #[.string sb, .int .i64 (p1 : Int), .slice ao no co, .int .i64 most] 64) * (own 3 1 (.slice a all.length c) all.length (nvs all) * (blk b1 (.cells #[.string ⟨#[]⟩, .int .i64 0, .slice none 0 0, .int .i64 0] 64) * F))) by ac_rfl)).right
        have H6 := Lib.hid h6
        clear hA hB h6 hlen hp1 hk1
        go_upto_region 7 with (fail)
        generalize (((W3.setCell ⟨b0, 0, none⟩ (.string sb)).setCell ⟨b0, 1, none⟩ (.int .i64 (p1 : Int))).setCell ⟨b0, 2, none⟩ (.slice ao no co)).setCell ⟨b0, 3, none⟩ (.int .i64 most) = W4 at *
        clear t0 t1 t2 t3 r0 r1 r2 r3 rf0 rf1 rf2 rf3
        have h7 := H6.out
        clear H6
        have d0 := h7.cell 0 rfl
        have d1 := h7.cell 1 rfl
        have d2 := h7.cell 2 rfl
        have d3 := h7.cell 3 rfl
        have hres := HRS.out
        clear HRS
        by_cases h16 : i < 16
        · rw [if_pos h16] at hres
          have g16 : ¬ (i : Int) = 16 := by omega
          have g17 : ¬ (i : Int) = 17 := by omega
          have g18 : ¬ (i : Int) = 18 := by omega
          have hres : (if t.length < p1 + 0 then .inl 2 else lengthsF t W n g (all ++ List.replicate (1 + vl t p1 0) i) (p1 + 0)) = RES := by
            have := HP1.out
            rw [if_neg (by omega)]; exact hres
          have C := HNUM.out W4 _ h7 p1 HP1.out 0 (by omega)
          have HRR := Lib.hid hres; clear hres
          by_cases hcut : t.length < p1 + 0
          · rw [if_pos hcut, if_pos hcut, if_pos hcut] at C
            have hr := HRR.out
            rw [if_pos hcut] at hr
            have HRX := Lib.hid hr; clear hr HRR
            have HC := Lib.hid C; clear C h7
            go_wp2_with fail
            refine HC.out.mono ?_
            rintro e w5 ⟨rfl, h8⟩
            have hD := h8.alloc (.cells #[.string sb, .int .i64 (p1 : Int), .slice ao no co, .int .i64 most] 64)
            clear h8 d0 d1 d2 d3 HC
            go_upto_region 17 with (fail)
            generalize w5.heap.size = bu at *
            generalize w5.alloc (.cells #[.string sb, .int .i64 (p1 : Int), .slice ao no co, .int .i64 most] 64) = W5 at *
            have u0 := hD.cell 0 rfl
            have u1 := hD.cell 1 rfl
            have u2 := hD.cell 2 rfl
            have u3 := hD.cell 3 rfl
            have hE := hD.perm (show _ = blk b1 (.cells #[.string ⟨#[]⟩, .int .i64 0, .slice none 0 0, .int .i64 0] 64) * (blk bu (.cells #[.string sb, .int .i64 (p1 : Int), .slice ao no co, .int .i64 most] 64) * (blk b0 (.cells #[.string sb, .int .i64 (p1 : Int), .slice ao no co, .int .i64 most] 64) * (own 3 1 (.slice a all.length c) all.length (nvs all) * F))) by ac_rfl)
            have r0 := hE.cell 0 rfl
            have r1 := hE.cell 1 rfl
            have r2 := hE.cell 2 rfl
            have r3 := hE.cell 3 rfl
            have rf0 := hE.free 0
            have rf1 := hE.free 1
            have rf2 := hE.free 2
            have rf3 := hE.free 3
            have HF := Lib.hid (set4 hE rfl (.string sb) (.int .i64 (p1 : Int)) (.slice ao no co) (.int .i64 most))
            clear hD hE
            go_wp2_with fail
            refine bodyPost_ret3c rfl rfl HF.out.at_ Tryz.underlying64 rfl (by show _ = some 4; kernel_rfl) rfl ?_
            rw [← HRX.out]
            exact ⟨_, 2, p1, rfl, ⟨rfl, by decide, HF.out.right.right.right.right⟩, HP1.out⟩
          · rw [if_neg hcut, if_neg hcut, if_neg hcut] at C
            have hr := HRR.out
            rw [if_neg hcut] at hr
            obtain ⟨p2, hp2⟩ : ∃ p2, p2 = p1 + 0 := ⟨_, rfl⟩
            rw [← hp2] at C hr
            have HP2 := Lib.hid (show p2 ≤ t.length by omega); clear hp2
            have hmv : vl t p1 0 < 2 ^ 0 := numV_lt true (fun i => t.getD (p1 + i) 0) (fun i => ht.getD _) 0
            generalize vl t p1 0 = mr at *
            have hmr : mr ≤ 127 := by simp only [Nat.reducePow] at hmv; omega
            have HRX := Lib.hid hr; clear hr HRR hmv
            have HC := Lib.hid C; clear C h7
            obtain ⟨M, hM⟩ : ∃ M, M = 1 + mr := ⟨_, rfl⟩
            have hMi : (1 : Int) + mr = (M : Int) := by omega
            have hM2 : M ≤ 138 := by omega
            have HM := Lib.hid hM
            rw [← hM] at HRX
            clear hM
            go_wp2_with fail
            refine HC.out.mono ?_
            rintro e w5 ⟨rfl, h8⟩
            have hD := h8.alloc (.cells #[.string sb, .int .i64 (p2 : Int), .slice ao no co, .int .i64 most] 64)
            clear h8 d0 d1 d2 d3 HC
            go_upto_region 17 with (fail)
            generalize w5.heap.size = bu at *
            generalize w5.alloc (.cells #[.string sb, .int .i64 (p2 : Int), .slice ao no co, .int .i64 most] 64) = W5 at *
            have u0 := hD.cell 0 rfl
            have u1 := hD.cell 1 rfl
            have u2 := hD.cell 2 rfl
            have u3 := hD.cell 3 rfl
            have hE := hD.perm (show _ = blk b0 (.cells #[.string sb, .int .i64 (p1 : Int), .slice ao no co, .int .i64 most] 64) * (blk bu (.cells #[.string sb, .int .i64 (p2 : Int), .slice ao no co, .int .i64 most] 64) * (own 3 1 (.slice a all.length c) all.length (nvs all) * (blk b1 (.cells #[.string ⟨#[]⟩, .int .i64 0, .slice none 0 0, .int .i64 0] 64) * F))) by ac_rfl)
            have r0 := hE.cell 0 rfl
            have r1 := hE.cell 1 rfl
            have r2 := hE.cell 2 rfl
            have r3 := hE.cell 3 rfl
            have rf0 := hE.free 0
            have rf1 := hE.free 1
            have rf2 := hE.free 2
            have rf3 := hE.free 3
            have h9 := ((set4 hE rfl (.string sb) (.int .i64 (p2 : Int)) (.slice ao no co) (.int .i64 most)).perm (show _ = blk bu (.cells #[.string sb, .int .i64 (p2 : Int), .slice ao no co, .int .i64 most] 64) * (own 3 1 (.slice a all.length c) all.length (nvs all) * (blk b0 (.cells #[.string sb, .int .i64 (p2 : Int), .slice ao no co, .int .i64 most] 64) * (blk b1 (.cells #[.string ⟨#[]⟩, .int .i64 0, .slice none 0 0, .int .i64 0] 64) * F))) by ac_rfl)).right
            have H9 := Lib.hid h9
            clear hD hE h9
            go_upto_region 20 with (fail)
            generalize (((W5.setCell ⟨b0, 0, none⟩ (.string sb)).setCell ⟨b0, 1, none⟩ (.int .i64 (p2 : Int))).setCell ⟨b0, 2, none⟩ (.slice ao no co)).setCell ⟨b0, 3, none⟩ (.int .i64 most) = W6 at *
            clear u0 u1 u2 u3 r0 r1 r2 r3 rf0 rf1 rf2 rf3
            go_wp2_with fail
            go_loopw [9, 19] (fun vo vi wr => ∃ (m : Nat) (aj : Option Addr) (cj : Nat), m ≤ M ∧ vi = .int .i64 m ∧ vo = .slice aj (all.length + m) cj ∧ St w0 wr (own 3 1 (.slice aj (all.length + m) cj) (all.length + m) (nvs (all ++ List.replicate m i)) * (blk b0 (.cells #[.string sb, .int .i64 (p2 : Int), .slice ao no co, .int .i64 most] 64) * (blk b1 (.cells #[.string ⟨#[]⟩, .int .i64 0, .slice none 0 0, .int .i64 0] 64) * F)))) (fun _ vi _ => M - (intOf vi).toNat)
            case atStart => exact ⟨0, _, _, by omega, rfl, rfl, by simpa using H9.out⟩
            case round =>
              clear H9
              obtain ⟨m, aj, cj, hj, rfl, rfl, hst⟩ := hrel
              by_cases hjM : m < M
              · have hj2 : (m : Int) < M := by omega
                have HX := Lib.hid (show nvs (all ++ List.replicate m i) ++ [((i : Nat) : Int)].map iv = nvs (all ++ List.replicate (m + 1) i) by rw [List.replicate_succ', ← List.append_assoc, nvs, nvs, List.map_append (l₂ := [i])]; rfl)
                have HST := Lib.hid hst; clear hst
                go_wp2_with (at_builtin; apply stop)
                refine on (wpList_append_sep T rfl _ _ rfl rfl (HST.out.drop_alloc (.cells #[.int .i64 ((i : Nat) : Int)] 3)) rfl (reads_int1 _ (i : Nat)) (iv_oneCell [((i : Nat) : Int)]) ?_ ?_ ?_)
                · unfold maxLen; omega
                · omega
                intro v' w7 h9 _
                rw [HX.out, Nat.add_assoc] at h9
                obtain ⟨aN, cN, rfl⟩ := h9.reads.sub
                have H9 := Lib.hid h9; clear h9
                go_wp2_with fail
                go_roundw
                case rel => exact ⟨m + 1, aN, cN, by omega, by go_num, rfl, H9.out⟩
                case measure => simp [intOf]; omega
              · obtain rfl : m = M := by omega
                have hl1 : (all ++ List.replicate m i).length = all.length + m := by simp
                have hMp : 1 ≤ m := by have := HM.out; omega
                have h9 := hst
                rw [← hl1] at h9
                have H9 := Lib.hid h9; clear h9 hst
                have HRY := Lib.hid HRX.out; clear HRX
                go_wp2_with fail
                go_roundg g
                case measure => omega
                case rel => exact ⟨all ++ List.replicate m i, aj, cj, p2, by rw [hl1], by rw [hl1]; have := HG.out; omega, by have := HG.out; omega, by rw [hl1]; omega, HRY.out, HP2.out, H9.out⟩
        rw [if_neg h16] at hres
        by_cases hi16 : i = 16
        · subst hi16
          by_cases hall : all = []
          · rw [if_pos ⟨rfl, hall⟩] at hres
            have HRX := Lib.hid hres; clear hres
            subst hall
            have hE := h7.perm (show _ = blk b1 (.cells #[.string ⟨#[]⟩, .int .i64 0, .slice none 0 0, .int .i64 0] 64) * (blk b0 (.cells #[.string sb, .int .i64 (p1 : Int), .slice ao no co, .int .i64 most] 64) * (own 3 1 (.slice a 0 c) 0 (nvs []) * F)) by ac_rfl)
            have r0 := hE.cell 0 rfl
            have r1 := hE.cell 1 rfl
            have r2 := hE.cell 2 rfl
            have r3 := hE.cell 3 rfl
            have rf0 := hE.free 0
            have rf1 := hE.free 1
            have rf2 := hE.free 2
            have rf3 := hE.free 3
            have HF := Lib.hid (set4 hE rfl (.string sb) (.int .i64 (p1 : Int)) (.slice ao no co) (.int .i64 most))
            clear hE h7
            go_wp2_with fail
            refine bodyPost_ret3c rfl rfl HF.out.at_ Tryz.underlying64 rfl (by show _ = some 4; kernel_rfl) rfl ?_
            rw [← HRX.out]
            exact ⟨_, 3, p1, rfl, ⟨rfl, by decide, HF.out.right.right.right⟩, HP1.out⟩
          · simp only [hall, and_false, ↓reduceIte, Nat.reduceEqDiff] at hres
            have hpos : 0 < all.length := List.length_pos_iff.2 hall
            have hpos2 : ¬ (all.length : Int) = 0 := by omega
            have hoo := h7.right
            obtain ⟨ga, rfl⟩ := own_at hoo hpos
            have hcl : W4.cell? ⟨ga, all.length - 1, none⟩ = some (.int .i64 (all.getD (all.length - 1) 0 : Nat)) := hoo.own_cell (i := all.length - 1) (by
              rw [nvs, List.getElem?_map, List.getD_eq_getElem?_getD, List.getElem?_eq_getElem (by omega)]; rfl)
            generalize all.getD (all.length - 1) 0 = val at *
            have hsb : (all.length : Int) - 1 = ((all.length - 1 : Nat) : Int) := by omega
            have hsb2 : ((all.length - 1 : Nat) : Int) < all.length := by omega
            clear hall hoo
            generalize all.length - 1 = la at *
            go_upto_region 11 with (fail)
            go_quiet (fail)
            have h17 := h7.drewN nq
            clear d0 d1 d2 d3 hcl h7 hsb
            generalize W4.drewN nq = W40 at *
            have h7 := h17
            clear h17
            have d0 := h7.cell 0 rfl
            have d1 := h7.cell 1 rfl
            have d2 := h7.cell 2 rfl
            have d3 := h7.cell 3 rfl
            have C := HNUM.out W40 _ h7 p1 HP1.out 2 (by omega)
            have HRR := Lib.hid hres; clear hres
            by_cases hcut : t.length < p1 + 2
            · rw [if_pos hcut, if_pos hcut, if_pos hcut] at C
              have hr := HRR.out
              rw [if_pos hcut] at hr
              have HRX := Lib.hid hr; clear hr HRR
              have HC := Lib.hid C; clear C h7
              go_wp2_with fail
              refine HC.out.mono ?_
              rintro e w5 ⟨rfl, h8⟩
              have hD := h8.alloc (.cells #[.string sb, .int .i64 (p1 : Int), .slice ao no co, .int .i64 most] 64)
              clear h8 d0 d1 d2 d3 HC
              go_upto_region 17 with (fail)
              generalize w5.heap.size = bu at *
              generalize w5.alloc (.cells #[.string sb, .int .i64 (p1 : Int), .slice ao no co, .int .i64 most] 64) = W5 at *
              have u0 := hD.cell 0 rfl
              have u1 := hD.cell 1 rfl
              have u2 := hD.cell 2 rfl
              have u3 := hD.cell 3 rfl
              have hE := hD.perm (show _ = blk b1 (.cells #[.string ⟨#[]⟩, .int .i64 0, .slice none 0 0, .int .i64 0] 64) * (blk bu (.cells #[.string sb, .int .i64 (p1 : Int), .slice ao no co, .int .i64 most] 64) * (blk b0 (.cells #[.string sb, .int .i64 (p1 : Int), .slice ao no co, .int .i64 most] 64) * (own 3 1 (.slice (some ⟨ga, 0, none⟩) all.length c) all.length (nvs all) * F))) by ac_rfl)
              have r0 := hE.cell 0 rfl
              have r1 := hE.cell 1 rfl
              have r2 := hE.cell 2 rfl
              have r3 := hE.cell 3 rfl
              have rf0 := hE.free 0
              have rf1 := hE.free 1
              have rf2 := hE.free 2
              have rf3 := hE.free 3
              have HF := Lib.hid (set4 hE rfl (.string sb) (.int .i64 (p1 : Int)) (.slice ao no co) (.int .i64 most))
              clear hD hE
              go_wp2_with fail
              refine bodyPost_ret3c rfl rfl HF.out.at_ Tryz.underlying64 rfl (by show _ = some 4; kernel_rfl) rfl ?_
              rw [← HRX.out]
              exact ⟨_, 2, p1, rfl, ⟨rfl, by decide, HF.out.right.right.right.right⟩, HP1.out⟩
            · rw [if_neg hcut, if_neg hcut, if_neg hcut] at C
              have hr := HRR.out
              rw [if_neg hcut] at hr
              obtain ⟨p2, hp2⟩ : ∃ p2, p2 = p1 + 2 := ⟨_, rfl⟩
              rw [← hp2] at C hr
              have HP2 := Lib.hid (show p2 ≤ t.length by omega); clear hp2
              have hmv : vl t p1 2 < 2 ^ 2 := numV_lt true (fun i => t.getD (p1 + i) 0) (fun i => ht.getD _) 2
              generalize vl t p1 2 = mr at *
              have hmr : mr ≤ 127 := by simp only [Nat.reducePow] at hmv; omega
              have HRX := Lib.hid hr; clear hr HRR hmv
              have HC := Lib.hid C; clear C h7
              obtain ⟨M, hM⟩ : ∃ M, M = 3 + mr := ⟨_, rfl⟩
              have hMi : (3 : Int) + mr = (M : Int) := by omega
              have hM2 : M ≤ 138 := by omega
              have HM := Lib.hid hM
              rw [← hM] at HRX
              clear hM
              go_wp2_with fail
              refine HC.out.mono ?_
              rintro e w5 ⟨rfl, h8⟩
              have hD := h8.alloc (.cells #[.string sb, .int .i64 (p2 : Int), .slice ao no co, .int .i64 most] 64)
              clear h8 d0 d1 d2 d3 HC
              go_upto_region 17 with (fail)
              generalize w5.heap.size = bu at *
              generalize w5.alloc (.cells #[.string sb, .int .i64 (p2 : Int), .slice ao no co, .int .i64 most] 64) = W5 at *
              have u0 := hD.cell 0 rfl
              have u1 := hD.cell 1 rfl
              have u2 := hD.cell 2 rfl
              have u3 := hD.cell 3 rfl
              have hE := hD.perm (show _ = blk b0 (.cells #[.string sb, .int .i64 (p1 : Int), .slice ao no co, .int .i64 most] 64) * (blk bu (.cells #[.string sb, .int .i64 (p2 : Int), .slice ao no co, .int .i64 most] 64) * (own 3 1 (.slice (some ⟨ga, 0, none⟩) all.length c) all.length (nvs all) * (blk b1 (.cells #[.string ⟨#[]⟩, .int .i64 0, .slice none 0 0, .int .i64 0] 64) * F))) by ac_rfl)
              have r0 := hE.cell 0 rfl
              have r1 := hE.cell 1 rfl
              have r2 := hE.cell 2 rfl
              have r3 := hE.cell 3 rfl
              have rf0 := hE.free 0
              have rf1 := hE.free 1
              have rf2 := hE.free 2
              have rf3 := hE.free 3
              have h9 := ((set4 hE rfl (.string sb) (.int .i64 (p2 : Int)) (.slice ao no co) (.int .i64 most)).perm (show _ = blk bu (.cells #[.string sb, .int .i64 (p2 : Int), .slice ao no co, .int .i64 most] 64) * (own 3 1 (.slice (some ⟨ga, 0, none⟩) all.length c) all.length (nvs all) * (blk b0 (.cells #[.string sb, .int .i64 (p2 : Int), .slice ao no co, .int .i64 most] 64) * (blk b1 (.cells #[.string ⟨#[]⟩, .int .i64 0, .slice none 0 0, .int .i64 0] 64) * F))) by ac_rfl)).right
              have H9 := Lib.hid h9
              clear hD hE h9
              go_upto_region 20 with (fail)
              generalize (((W5.setCell ⟨b0, 0, none⟩ (.string sb)).setCell ⟨b0, 1, none⟩ (.int .i64 (p2 : Int))).setCell ⟨b0, 2, none⟩ (.slice ao no co)).setCell ⟨b0, 3, none⟩ (.int .i64 most) = W6 at *
              clear u0 u1 u2 u3 r0 r1 r2 r3 rf0 rf1 rf2 rf3
              go_wp2_with fail
              go_loopw [9, 19] (fun vo vi wr => ∃ (m : Nat) (aj : Option Addr) (cj : Nat), m ≤ M ∧ vi = .int .i64 m ∧ vo = .slice aj (all.length + m) cj ∧ St w0 wr (own 3 1 (.slice aj (all.length + m) cj) (all.length + m) (nvs (all ++ List.replicate m val)) * (blk b0 (.cells #[.string sb, .int .i64 (p2 : Int), .slice ao no co, .int .i64 most] 64) * (blk b1 (.cells #[.string ⟨#[]⟩, .int .i64 0, .slice none 0 0, .int .i64 0] 64) * F)))) (fun _ vi _ => M - (intOf vi).toNat)
              case atStart => exact ⟨0, _, _, by omega, rfl, rfl, by simpa using H9.out⟩
              case round =>
                clear H9
                obtain ⟨m, aj, cj, hj, rfl, rfl, hst⟩ := hrel
                by_cases hjM : m < M
                · have hj2 : (m : Int) < M := by omega
                  have HX := Lib.hid (show nvs (all ++ List.replicate m val) ++ [((val : Nat) : Int)].map iv = nvs (all ++ List.replicate (m + 1) val) by rw [List.replicate_succ', ← List.append_assoc, nvs, nvs, List.map_append (l₂ := [val])]; rfl)
                  have HST := Lib.hid hst; clear hst
                  go_wp2_with (at_builtin; apply stop)
                  refine on (wpList_append_sep T rfl _ _ rfl rfl (HST.out.drop_alloc (.cells #[.int .i64 ((val : Nat) : Int)] 3)) rfl (reads_int1 _ (val : Nat)) (iv_oneCell [((val : Nat) : Int)]) ?_ ?_ ?_)
                  · unfold maxLen; omega
                  · omega
                  intro v' w7 h9 _
                  rw [HX.out, Nat.add_assoc] at h9
                  obtain ⟨aN, cN, rfl⟩ := h9.reads.sub
                  have H9 := Lib.hid h9; clear h9
                  go_wp2_with fail
                  go_roundw
                  case rel => exact ⟨m + 1, aN, cN, by omega, by go_num, rfl, H9.out⟩
                  case measure => simp [intOf]; omega
                · obtain rfl : m = M := by omega
                  have hl1 : (all ++ List.replicate m val).length = all.length + m := by simp
                  have hMp : 1 ≤ m := by have := HM.out; omega
                  have h9 := hst
                  rw [← hl1] at h9
                  have H9 := Lib.hid h9; clear h9 hst
                  have HRY := Lib.hid HRX.out; clear HRX
                  go_wp2_with fail
                  go_roundg g
                  case measure => omega
                  case rel => exact ⟨all ++ List.replicate m val, aj, cj, p2, by rw [hl1], by rw [hl1]; have := HG.out; omega, by have := HG.out; omega, by rw [hl1]; omega, HRY.out, HP2.out, H9.out⟩
        · have g16 : ¬ (i : Int) = 16 := by omega
          simp only [hi16, false_and, ↓reduceIte] at hres
          by_cases hi18 : i = 18
          · subst hi18
            simp only [↓reduceIte] at hres
            have C := HNUM.out W4 _ h7 p1 HP1.out 7 (by omega)
            have HRR := Lib.hid hres; clear hres
            by_cases hcut : t.length < p1 + 7
            · rw [if_pos hcut, if_pos hcut, if_pos hcut] at C
              have hr := HRR.out
              rw [if_pos hcut] at hr
              have HRX := Lib.hid hr; clear hr HRR
              have HC := Lib.hid C; clear C h7
              go_wp2_with fail
              refine HC.out.mono ?_
              rintro e w5 ⟨rfl, h8⟩
              have hD := h8.alloc (.cells #[.string sb, .int .i64 (p1 : Int), .slice ao no co, .int .i64 most] 64)
              clear h8 d0 d1 d2 d3 HC
              go_upto_region 17 with (fail)
              generalize w5.heap.size = bu at *
              generalize w5.alloc (.cells #[.string sb, .int .i64 (p1 : Int), .slice ao no co, .int .i64 most] 64) = W5 at *
              have u0 := hD.cell 0 rfl
              have u1 := hD.cell 1 rfl
              have u2 := hD.cell 2 rfl
              have u3 := hD.cell 3 rfl
              have hE := hD.perm (show _ = blk b1 (.cells #[.string ⟨#[]⟩, .int .i64 0, .slice none 0 0, .int .i64 0] 64) * (blk bu (.cells #[.string sb, .int .i64 (p1 : Int), .slice ao no co, .int .i64 most] 64) * (blk b0 (.cells #[.string sb, .int .i64 (p1 : Int), .slice ao no co, .int .i64 most] 64) * (own 3 1 (.slice a all.length c) all.length (nvs all) * F))) by ac_rfl)
              have r0 := hE.cell 0 rfl
              have r1 := hE.cell 1 rfl
              have r2 := hE.cell 2 rfl
              have r3 := hE.cell 3 rfl
              have rf0 := hE.free 0
              have rf1 := hE.free 1
              have rf2 := hE.free 2
              have rf3 := hE.free 3
              have HF := Lib.hid (set4 hE rfl (.string sb) (.int .i64 (p1 : Int)) (.slice ao no co) (.int .i64 most))
              clear hD hE
              go_wp2_with fail
              refine bodyPost_ret3c rfl rfl HF.out.at_ Tryz.underlying64 rfl (by show _ = some 4; kernel_rfl) rfl ?_
              rw [← HRX.out]
              exact ⟨_, 2, p1, rfl, ⟨rfl, by decide, HF.out.right.right.right.right⟩, HP1.out⟩
            · rw [if_neg hcut, if_neg hcut, if_neg hcut] at C
              have hr := HRR.out
              rw [if_neg hcut] at hr
              obtain ⟨p2, hp2⟩ : ∃ p2, p2 = p1 + 7 := ⟨_, rfl⟩
              rw [← hp2] at C hr
              have HP2 := Lib.hid (show p2 ≤ t.length by omega); clear hp2
              have hmv : vl t p1 7 < 2 ^ 7 := numV_lt true (fun i => t.getD (p1 + i) 0) (fun i => ht.getD _) 7
              generalize vl t p1 7 = mr at *
              have hmr : mr ≤ 127 := by simp only [Nat.reducePow] at hmv; omega
              have HRX := Lib.hid hr; clear hr HRR hmv
              have HC := Lib.hid C; clear C h7
              obtain ⟨M, hM⟩ : ∃ M, M = 11 + mr := ⟨_, rfl⟩
              have hMi : (11 : Int) + mr = (M : Int) := by omega
              have hM2 : M ≤ 138 := by omega
              have HM := Lib.hid hM
              rw [← hM] at HRX
              clear hM
              go_wp2_with fail
              refine HC.out.mono ?_
              rintro e w5 ⟨rfl, h8⟩
              have hD := h8.alloc (.cells #[.string sb, .int .i64 (p2 : Int), .slice ao no co, .int .i64 most] 64)
              clear h8 d0 d1 d2 d3 HC
              go_upto_region 17 with (fail)
              generalize w5.heap.size = bu at *
              generalize w5.alloc (.cells #[.string sb, .int .i64 (p2 : Int), .slice ao no co, .int .i64 most] 64) = W5 at *
              have u0 := hD.cell 0 rfl
              have u1 := hD.cell 1 rfl
              have u2 := hD.cell 2 rfl
              have u3 := hD.cell 3 rfl
              have hE := hD.perm (show _ = blk b0 (.cells #[.string sb, .int .i64 (p1 : Int), .slice ao no co, .int .i64 most] 64) * (blk bu (.cells #[.string sb, .int .i64 (p2 : Int), .slice ao no co, .int .i64 most] 64) * (own 3 1 (.slice a all.length c) all.length (nvs all) * (blk b1 (.cells #[.string ⟨#[]⟩, .int .i64 0, .slice none 0 0, .int .i64 0] 64) * F))) by ac_rfl)
              have r0 := hE.cell 0 rfl
              have r1 := hE.cell 1 rfl
              have r2 := hE.cell 2 rfl
              have r3 := hE.cell 3 rfl
              have rf0 := hE.free 0
              have rf1 := hE.free 1
              have rf2 := hE.free 2
              have rf3 := hE.free 3
              have h9 := ((set4 hE rfl (.string sb) (.int .i64 (p2 : Int)) (.slice ao no co) (.int .i64 most)).perm (show _ = blk bu (.cells #[.string sb, .int .i64 (p2 : Int), .slice ao no co, .int .i64 most] 64) * (own 3 1 (.slice a all.length c) all.length (nvs all) * (blk b0 (.cells #[.string sb, .int .i64 (p2 : Int), .slice ao no co, .int .i64 most] 64) * (blk b1 (.cells #[.string ⟨#[]⟩, .int .i64 0, .slice none 0 0, .int .i64 0] 64) * F))) by ac_rfl)).right
              have H9 := Lib.hid h9
              clear hD hE h9
              go_upto_region 20 with (fail)
              generalize (((W5.setCell ⟨b0, 0, none⟩ (.string sb)).setCell ⟨b0, 1, none⟩ (.int .i64 (p2 : Int))).setCell ⟨b0, 2, none⟩ (.slice ao no co)).setCell ⟨b0, 3, none⟩ (.int .i64 most) = W6 at *
              clear u0 u1 u2 u3 r0 r1 r2 r3 rf0 rf1 rf2 rf3
              go_wp2_with fail
              go_loopw [9, 19] (fun vo vi wr => ∃ (m : Nat) (aj : Option Addr) (cj : Nat), m ≤ M ∧ vi = .int .i64 m ∧ vo = .slice aj (all.length + m) cj ∧ St w0 wr (own 3 1 (.slice aj (all.length + m) cj) (all.length + m) (nvs (all ++ List.replicate m 0)) * (blk b0 (.cells #[.string sb, .int .i64 (p2 : Int), .slice ao no co, .int .i64 most] 64) * (blk b1 (.cells #[.string ⟨#[]⟩, .int .i64 0, .slice none 0 0, .int .i64 0] 64) * F)))) (fun _ vi _ => M - (intOf vi).toNat)
              case atStart => exact ⟨0, _, _, by omega, rfl, rfl, by simpa using H9.out⟩
              case round =>
                clear H9
                obtain ⟨m, aj, cj, hj, rfl, rfl, hst⟩ := hrel
                by_cases hjM : m < M
                · have hj2 : (m : Int) < M := by omega
                  have HX := Lib.hid (show nvs (all ++ List.replicate m 0) ++ [(0 : Int)].map iv = nvs (all ++ List.replicate (m + 1) 0) by rw [List.replicate_succ', ← List.append_assoc, nvs, nvs, List.map_append (l₂ := [0])]; rfl)
                  have HST := Lib.hid hst; clear hst
                  go_wp2_with (at_builtin; apply stop)
                  refine on (wpList_append_sep T rfl _ _ rfl rfl (HST.out.drop_alloc (.cells #[.int .i64 (0 : Int)] 3)) rfl (reads_int1 _ 0) (iv_oneCell [(0 : Int)]) ?_ ?_ ?_)
                  · unfold maxLen; omega
                  · omega
                  intro v' w7 h9 _
                  rw [HX.out, Nat.add_assoc] at h9
                  obtain ⟨aN, cN, rfl⟩ := h9.reads.sub
                  have H9 := Lib.hid h9; clear h9
                  go_wp2_with fail
                  go_roundw
                  case rel => exact ⟨m + 1, aN, cN, by omega, by go_num, rfl, H9.out⟩
                  case measure => simp [intOf]; omega
                · obtain rfl : m = M := by omega
                  have hl1 : (all ++ List.replicate m 0).length = all.length + m := by simp
                  have hMp : 1 ≤ m := by have := HM.out; omega
                  have h9 := hst
                  rw [← hl1] at h9
                  have H9 := Lib.hid h9; clear h9 hst
                  have HRY := Lib.hid HRX.out; clear HRX
                  go_wp2_with fail
                  go_roundg g
                  case measure => omega
                  case rel => exact ⟨all ++ List.replicate m 0, aj, cj, p2, by rw [hl1], by rw [hl1]; have := HG.out; omega, by have := HG.out; omega, by rw [hl1]; omega, HRY.out, HP2.out, H9.out⟩
          · have hi17 : i = 17 := by omega
            subst hi17
            simp only [Nat.reduceEqDiff, ↓reduceIte] at hres
            have C := HNUM.out W4 _ h7 p1 HP1.out 3 (by omega)
            have HRR := Lib.hid hres; clear hres
            by_cases hcut : t.length < p1 + 3
            · rw [if_pos hcut, if_pos hcut, if_pos hcut] at C
              have hr := HRR.out
              rw [if_pos hcut] at hr
              have HRX := Lib.hid hr; clear hr HRR
              have HC := Lib.hid C; clear C h7
              go_wp2_with fail
              refine HC.out.mono ?_
              rintro e w5 ⟨rfl, h8⟩
              have hD := h8.alloc (.cells #[.string sb, .int .i64 (p1 : Int), .slice ao no co, .int .i64 most] 64)
              clear h8 d0 d1 d2 d3 HC
              go_upto_region 17 with (fail)
              generalize w5.heap.size = bu at *
              generalize w5.alloc (.cells #[.string sb, .int .i64 (p1 : Int), .slice ao no co, .int .i64 most] 64) = W5 at *
              have u0 := hD.cell 0 rfl
              have u1 := hD.cell 1 rfl
              have u2 := hD.cell 2 rfl
              have u3 := hD.cell 3 rfl
              have hE := hD.perm (show _ = blk b1 (.cells #[.string ⟨#[]⟩, .int .i64 0, .slice none 0 0, .int .i64 0] 64) * (blk bu (.cells #[.string sb, .int .i64 (p1 : Int), .slice ao no co, .int .i64 most] 64) * (blk b0 (.cells #[.string sb, .int .i64 (p1 : Int), .slice ao no co, .int .i64 most] 64) * (own 3 1 (.slice a all.length c) all.length (nvs all) * F))) by ac_rfl)
              have r0 := hE.cell 0 rfl
              have r1 := hE.cell 1 rfl
              have r2 := hE.cell 2 rfl
              have r3 := hE.cell 3 rfl
              have rf0 := hE.free 0
              have rf1 := hE.free 1
              have rf2 := hE.free 2
              have rf3 := hE.free 3
              have HF := Lib.hid (set4 hE rfl (.string sb) (.int .i64 (p1 : Int)) (.slice ao no co) (.int .i64 most))
              clear hD hE
              go_wp2_with fail
              refine bodyPost_ret3c rfl rfl HF.out.at_ Tryz.underlying64 rfl (by show _ = some 4; kernel_rfl) rfl ?_
              rw [← HRX.out]
              exact ⟨_, 2, p1, rfl, ⟨rfl, by decide, HF.out.right.right.right.right⟩, HP1.out⟩
            · rw [if_neg hcut, if_neg hcut, if_neg hcut] at C
              have hr := HRR.out
              rw [if_neg hcut] at hr
              obtain ⟨p2, hp2⟩ : ∃ p2, p2 = p1 + 3 := ⟨_, rfl⟩
              rw [← hp2] at C hr
              have HP2 := Lib.hid (show p2 ≤ t.length by omega); clear hp2
              have hmv : vl t p1 3 < 2 ^ 3 := numV_lt true (fun i => t.getD (p1 + i) 0) (fun i => ht.getD _) 3
              generalize vl t p1 3 = mr at *
              have hmr : mr ≤ 127 := by simp only [Nat.reducePow] at hmv; omega
              have HRX := Lib.hid hr; clear hr HRR hmv
              have HC := Lib.hid C; clear C h7
              obtain ⟨M, hM⟩ : ∃ M, M = 3 + mr := ⟨_, rfl⟩
              have hMi : (3 : Int) + mr = (M : Int) := by omega
              have hM2 : M ≤ 138 := by omega
              have HM := Lib.hid hM
              rw [← hM] at HRX
              clear hM
              go_wp2_with fail
              refine HC.out.mono ?_
              rintro e w5 ⟨rfl, h8⟩
              have hD := h8.alloc (.cells #[.string sb, .int .i64 (p2 : Int), .slice ao no co, .int .i64 most] 64)
              clear h8 d0 d1 d2 d3 HC
              go_upto_region 17 with (fail)
              generalize w5.heap.size = bu at *
              generalize w5.alloc (.cells #[.string sb, .int .i64 (p2 : Int), .slice ao no co, .int .i64 most] 64) = W5 at *
              have u0 := hD.cell 0 rfl
              have u1 := hD.cell 1 rfl
              have u2 := hD.cell 2 rfl
              have u3 := hD.cell 3 rfl
              have hE := hD.perm (show _ = blk b0 (.cells #[.string sb, .int .i64 (p1 : Int), .slice ao no co, .int .i64 most] 64) * (blk bu (.cells #[.string sb, .int .i64 (p2 : Int), .slice ao no co, .int .i64 most] 64) * (own 3 1 (.slice a all.length c) all.length (nvs all) * (blk b1 (.cells #[.string ⟨#[]⟩, .int .i64 0, .slice none 0 0, .int .i64 0] 64) * F))) by ac_rfl)
              have r0 := hE.cell 0 rfl
              have r1 := hE.cell 1 rfl
              have r2 := hE.cell 2 rfl
              have r3 := hE.cell 3 rfl
              have rf0 := hE.free 0
              have rf1 := hE.free 1
              have rf2 := hE.free 2
              have rf3 := hE.free 3
              have h9 := ((set4 hE rfl (.string sb) (.int .i64 (p2 : Int)) (.slice ao no co) (.int .i64 most)).perm (show _ = blk bu (.cells #[.string sb, .int .i64 (p2 : Int), .slice ao no co, .int .i64 most] 64) * (own 3 1 (.slice a all.length c) all.length (nvs all) * (blk b0 (.cells #[.string sb, .int .i64 (p2 : Int), .slice ao no co, .int .i64 most] 64) * (blk b1 (.cells #[.string ⟨#[]⟩, .int .i64 0, .slice none 0 0, .int .i64 0] 64) * F))) by ac_rfl)).right
              have H9 := Lib.hid h9
              clear hD hE h9
              go_upto_region 20 with (fail)
              generalize (((W5.setCell ⟨b0, 0, none⟩ (.string sb)).setCell ⟨b0, 1, none⟩ (.int .i64 (p2 : Int))).setCell ⟨b0, 2, none⟩ (.slice ao no co)).setCell ⟨b0, 3, none⟩ (.int .i64 most) = W6 at *
              clear u0 u1 u2 u3 r0 r1 r2 r3 rf0 rf1 rf2 rf3
              go_wp2_with fail
              go_loopw [9, 19] (fun vo vi wr => ∃ (m : Nat) (aj : Option Addr) (cj : Nat), m ≤ M ∧ vi = .int .i64 m ∧ vo = .slice aj (all.length + m) cj ∧ St w0 wr (own 3 1 (.slice aj (all.length + m) cj) (all.length + m) (nvs (all ++ List.replicate m 0)) * (blk b0 (.cells #[.string sb, .int .i64 (p2 : Int), .slice ao no co, .int .i64 most] 64) * (blk b1 (.cells #[.string ⟨#[]⟩, .int .i64 0, .slice none 0 0, .int .i64 0] 64) * F)))) (fun _ vi _ => M - (intOf vi).toNat)
              case atStart => exact ⟨0, _, _, by omega, rfl, rfl, by simpa using H9.out⟩
              case round =>
                clear H9
                obtain ⟨m, aj, cj, hj, rfl, rfl, hst⟩ := hrel
                by_cases hjM : m < M
                · have hj2 : (m : Int) < M := by omega
                  have HX := Lib.hid (show nvs (all ++ List.replicate m 0) ++ [(0 : Int)].map iv = nvs (all ++ List.replicate (m + 1) 0) by rw [List.replicate_succ', ← List.append_assoc, nvs, nvs, List.map_append (l₂ := [0])]; rfl)
                  have HST := Lib.hid hst; clear hst
                  go_wp2_with (at_builtin; apply stop)
                  refine on (wpList_append_sep T rfl _ _ rfl rfl (HST.out.drop_alloc (.cells #[.int .i64 (0 : Int)] 3)) rfl (reads_int1 _ 0) (iv_oneCell [(0 : Int)]) ?_ ?_ ?_)
                  · unfold maxLen; omega
                  · omega
                  intro v' w7 h9 _
                  rw [HX.out, Nat.add_assoc] at h9
                  obtain ⟨aN, cN, rfl⟩ := h9.reads.sub
                  have H9 := Lib.hid h9; clear h9
                  go_wp2_with fail
                  go_roundw
                  case rel => exact ⟨m + 1, aN, cN, by omega, by go_num, rfl, H9.out⟩
                  case measure => simp [intOf]; omega
                · obtain rfl : m = M := by omega
                  have hl1 : (all ++ List.replicate m 0).length = all.length + m := by simp
                  have hMp : 1 ≤ m := by have := HM.out; omega
                  have h9 := hst
                  rw [← hl1] at h9
                  have H9 := Lib.hid h9; clear h9 hst
                  have HRY := Lib.hid HRX.out; clear HRX
                  go_wp2_with fail
                  go_roundg g
                  case measure => omega
                  case rel => exact ⟨all ++ List.replicate m 0, aj, cj, p2, by rw [hl1], by rw [hl1]; have := HG.out; omega, by have := HG.out; omega, by rw [hl1]; omega, HRY.out, HP2.out, H9.out⟩
    · rw [if_neg hln] at hres
      have hln2 : ¬ (all.length : Int) < n := by omega
      have hA := hst.perm (star_left_comm _ _ _)
      have c0 := hA.cell 0 rfl
      have c1 := hA.cell 1 rfl
      have c2 := hA.cell 2 rfl
      have c3 := hA.cell 3 rfl
      have hB := hA.perm (show _ = blk b1 (.cells #[.string ⟨#[]⟩, .int .i64 0, .slice none 0 0, .int .i64 0] 64) * (blk b0 (.cells #[.string sb, .int .i64 (q : Int), .slice ao no co, .int .i64 most] 64) * (own 3 1 (.slice a all.length c) all.length (nvs all) * F)) by ac_rfl)
      have r0 := hB.cell 0 rfl
      have r1 := hB.cell 1 rfl
      have r2 := hB.cell 2 rfl
      have r3 := hB.cell 3 rfl
      have rf0 := hB.free 0
      have rf1 := hB.free 1
      have rf2 := hB.free 2
      have rf3 := hB.free 3
      have HF := Lib.hid (set4 hB rfl (.string sb) (.int .i64 (q : Int)) (.slice ao no co) (.int .i64 most))
      clear hst hA hB
      by_cases hgt : n < all.length
      · have hgt2 : (n : Int) < all.length := by omega
        rw [if_pos hgt] at hres
        have HRS := Lib.hid hres; clear hres
        go_wp2_with fail
        refine bodyPost_ret3c rfl rfl HF.out.at_ Tryz.underlying64 rfl (by show _ = some 4; kernel_rfl) rfl ?_
        rw [← HRS.out]
        exact ⟨_, 3, q, rfl, ⟨rfl, by decide, HF.out.right.right.right⟩, hq⟩
      · have hgt2 : ¬ (n : Int) < all.length := by omega
        rw [if_neg hgt] at hres
        have HRS := Lib.hid hres; clear hres
        go_wp2_with fail
        refine bodyPost_ret3c rfl rfl HF.out.at_ Tryz.underlying64 rfl (by show _ = some 4; kernel_rfl) rfl ?_
        rw [← HRS.out]
        exact ⟨_, 0, q, rfl, ⟨rfl, rfl, HF.out.right.right⟩, hq⟩
end Go.Proofs.YtddifndfppilkaaGreat
