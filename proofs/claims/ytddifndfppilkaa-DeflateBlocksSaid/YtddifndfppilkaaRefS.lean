/-
  The document's block of bytes that stand as they are (package mezzotintref08).
-/
import Derived.Test.YtddifndfppilkaaRefN
import Derived.Test.YtddifndfppilkaaInfD
namespace Go.Proofs.Ytddifndfppilkaa
open Go.RowKit Go.Mz
set_option linter.unusedVariables false
set_option linter.unusedSimpArgs false
set_option maxRecDepth 100000

set_option maxHeartbeats 40000000 in
theorem rstored_any {w0 w : World} {F : SProp} {t : List Nat} (ht : Bit t) (hl : t.length ≤ 1000000000) {p : Nat} (hp : p ≤ t.length) {out : List UInt8} {most : Nat} (hom : out.length ≤ most) (hm : most ≤ 10000000000000) {ao : Option Addr} {co : Nat} (h : St w0 w (own 5 1 (.slice ao out.length co) out.length (out.map bv) * F)) {sb : ByteArray} (hsb : sb = ⟨(tx t).toArray⟩) :
    Calls Try.prog 45 #[.agg (rstC sb p (.slice ao out.length co) most)] w fun e w' => ∃ (x p' : Nat) (out' : List UInt8) (ao' : Option Addr) (co' : Nat),
      e = .returned (.tuple #[.agg (rstC sb p' (.slice ao' out'.length co') most), .int .i64 (x : Nat)]) ∧ ResR (storedF t most p out) x p' out' ∧ (x = 0 → p' ≤ t.length) ∧ out'.length ≤ most ∧ St w0 w' (own 5 1 (.slice ao' out'.length co') out'.length (out'.map bv) * F) := by
  have h1 := (h.alloc (.cells (rstC sb p (.slice ao out.length co) most) 85)).alloc (.cells rst0 85)
  have hsz : (w.alloc (.cells (rstC sb p (.slice ao out.length co) most) 85)).heap.size = w.heap.size + 1 := by
    show (w.heap.push _).size = _
    exact Array.size_push _
  rw [hsz] at h1
  have HNUM := Lib.hid (fun (w : World) (G : SProp) (h : St w0 w G) (q : Nat) (hq : q ≤ t.length) (ao : Option Addr) (no co : Nat) (n : Nat) (hn : n ≤ 31) => rnum_any h ht hl hq n hn (ao := ao) (no := no) (co := co) (most := (most : Int)) hsb (j := (n : Int)) rfl)
  have hsbl : sb.size = t.length := by rw [hsb, Lib.size_eq]; simp
  have HR := Lib.hid (show storedF t most p out = (if t.length < (p + 7) / 8 * 8 + 32 then .inl 2 else if vl t ((p + 7) / 8 * 8) 16 + vl t ((p + 7) / 8 * 8 + 16) 16 ≠ 65535 then .inl 3 else bytesF t most (vl t ((p + 7) / 8 * 8) 16) ((p + 7) / 8 * 8 + 32) out) from rfl)
  have hq : ((p : Int) + 7) / 8 * 8 = (((p + 7) / 8 * 8 : Nat) : Int) := by omega
  have hq2 : (p + 7) / 8 * 8 ≤ t.length + 8 := by omega
  generalize (p + 7) / 8 * 8 = q at *
  unfold rstC rst0 at h1
  clear h hsz hsb
  have H1 := Lib.hid h1; clear h1
  unfold rstC at HNUM ⊢
  go_enter Try.func45, Try.ntmps45
  go_upto_region 1 with (fail)
  have h1 := H1.out
  clear H1
  generalize hb0 : w.heap.size = b0 at *
  generalize hb1 : b0 + 1 = b1 at *
  generalize hW : (w.alloc (.cells #[.string sb, .int .i64 (p : Int), .slice ao out.length co, .int .i64 (most : Int)] 85)).alloc (.cells #[.string ⟨#[]⟩, .int .i64 0, .slice none 0 0, .int .i64 0] 85) = W at *
  have hne : ¬ b0 = b1 := by omega
  have hne' : ¬ b1 = b0 := by omega
  clear hb0 hb1 hW
  have h2 := h1.perm (show _ = blk b0 (.cells #[.string sb, .int .i64 (p : Int), .slice ao out.length co, .int .i64 (most : Int)] 85) * (blk b1 (.cells #[.string ⟨#[]⟩, .int .i64 0, .slice none 0 0, .int .i64 0] 85) * (own 5 1 (.slice ao out.length co) out.length (out.map bv) * F)) by ac_rfl)
  have c1 := h2.cell 1 rfl
  have g1 := h2.free 1
  have HQ := Lib.hid (h2.set 1 (.int .i64 (q : Int)))
  clear h1 h2
  go_upto_region 2 with (fail)
  generalize W.setCell ⟨b0, 1, none⟩ (.int .i64 (q : Int)) = W2 at *
  have h2 : St w0 W2 (blk b0 (.cells #[.string sb, .int .i64 (q : Int), .slice ao out.length co, .int .i64 (most : Int)] 85) * (blk b1 (.cells #[.string ⟨#[]⟩, .int .i64 0, .slice none 0 0, .int .i64 0] 85) * (own 5 1 (.slice ao out.length co) out.length (out.map bv) * F))) := HQ.out
  clear HQ c1 g1 hq
  have c0 := h2.cell 0 rfl
  have c1 := h2.cell 1 rfl
  have c2 := h2.cell 2 rfl
  have c3 := h2.cell 3 rfl
  have h3 := h2.perm (star_left_comm _ _ _)
  have r0 := h3.cell 0 rfl
  have r1 := h3.cell 1 rfl
  have r2 := h3.cell 2 rfl
  have r3 := h3.cell 3 rfl
  have rf0 := h3.free 0
  have rf1 := h3.free 1
  have rf2 := h3.free 2
  have rf3 := h3.free 3
  have HF := Lib.hid (set4 h3 rfl (.string sb) (.int .i64 (q : Int)) (.slice ao out.length co) (.int .i64 (most : Int)))
  have H2 := Lib.hid h2; clear h2 h3
  by_cases hcut : t.length < q + 32
  · have hc2 : (t.length : Int) < (q : Int) + 32 := by omega
    rw [if_pos hcut] at HR
    go_wp2_with fail
    refine bodyPost_ret2c rfl rfl HF.out.at_ Try.underlying85 rfl (by show _ = some 4; kernel_rfl) rfl ?_
    exact ⟨2, q, out, ao, co, rfl, by rw [HR.out]; exact ⟨rfl, by decide⟩, (fun h => by cases h), hom, HF.out.right.right⟩
  · have hc2 : ¬ (t.length : Int) < (q : Int) + 32 := by omega
    rw [if_neg hcut] at HR
    have C1 := HNUM.out W2 _ H2.out q (by omega) ao out.length co 16 (by omega)
    rw [if_neg (by omega), if_neg (by omega), if_neg (by omega)] at C1
    obtain ⟨q1, hq1⟩ : ∃ q1, q1 = q + 16 := ⟨_, rfl⟩
    obtain ⟨q3, hq3⟩ : ∃ q3, q3 = q1 + 16 := ⟨_, rfl⟩
    rw [← hq1] at C1
    have hq1l : q1 + 16 ≤ t.length := by omega
    have HQ1 := Lib.hid hq1; have HQ3 := Lib.hid hq3; clear hq1 hq3
    have HC1 := Lib.hid C1; clear C1 HF r0 r1 r2 r3 rf0 rf1 rf2 rf3
    go_wp2_with fail
    refine HC1.out.mono ?_
    rintro e w3 ⟨rfl, h5⟩
    have d0 := h5.cell 0 rfl
    have d1 := h5.cell 1 rfl
    have d2 := h5.cell 2 rfl
    have d3 := h5.cell 3 rfl
    have df0 := h5.free 0
    have df1 := h5.free 1
    have df2 := h5.free 2
    have df3 := h5.free 3
    have HF3 := Lib.hid (set4 h5 rfl (.string sb) (.int .i64 (q1 : Int)) (.slice ao out.length co) (.int .i64 (most : Int)))
    clear h5 HC1
    go_upto_region 5 with (fail)
    generalize (((w3.setCell ⟨b0, 0, none⟩ (.string sb)).setCell ⟨b0, 1, none⟩ (.int .i64 (q1 : Int))).setCell ⟨b0, 2, none⟩ (.slice ao out.length co)).setCell ⟨b0, 3, none⟩ (.int .i64 (most : Int)) = W5 at *
    clear c0 c1 c2 c3 d0 d1 d2 d3 df0 df1 df2 df3
    have h6 := HF3.out
    have c0 := h6.cell 0 rfl
    have c1 := h6.cell 1 rfl
    have c2 := h6.cell 2 rfl
    have c3 := h6.cell 3 rfl
    have C2 := HNUM.out W5 _ h6 q1 (by omega) ao out.length co 16 (by omega)
    rw [if_neg (by omega), if_neg (by omega), if_neg (by omega)] at C2
    rw [← HQ3.out] at C2
    have HC2 := Lib.hid C2; clear C2 HF3 h6
    go_wp2_with fail
    refine HC2.out.mono ?_
    rintro e w6 ⟨rfl, h7⟩
    have d0 := h7.cell 0 rfl
    have d1 := h7.cell 1 rfl
    have d2 := h7.cell 2 rfl
    have d3 := h7.cell 3 rfl
    have df0 := h7.free 0
    have df1 := h7.free 1
    have df2 := h7.free 2
    have df3 := h7.free 3
    have HF7 := Lib.hid (set4 h7 rfl (.string sb) (.int .i64 (q3 : Int)) (.slice ao out.length co) (.int .i64 (most : Int)))
    clear h7 HC2
    go_upto_region 6 with (fail)
    generalize (((w6.setCell ⟨b0, 0, none⟩ (.string sb)).setCell ⟨b0, 1, none⟩ (.int .i64 (q3 : Int))).setCell ⟨b0, 2, none⟩ (.slice ao out.length co)).setCell ⟨b0, 3, none⟩ (.int .i64 (most : Int)) = W7 at *
    clear c0 c1 c2 c3 d0 d1 d2 d3 df0 df1 df2 df3
    have hn16 : vl t q 16 < 2 ^ 16 := numV_lt true (fun i => t.getD (q + i) 0) (fun i => ht.getD _) 16
    have hm16 : vl t q1 16 < 2 ^ 16 := numV_lt true (fun i => t.getD (q1 + i) 0) (fun i => ht.getD _) 16
    rw [← HQ1.out, show q + 32 = q3 by have := HQ1.out; have := HQ3.out; omega] at HR
    generalize vl t q 16 = n at *
    generalize vl t q1 16 = m at *
    have h8 := HF7.out
    clear HF7
    by_cases hnm : n + m = 65535
    · rw [if_neg (by omega)] at HR
      have hnm2 : ((n : Int) + m != 65535) = false := by rw [bne_eq_false_iff_eq]; omega
      generalize hRES : bytesF t most n q3 out = RES at *
      have HRES := Lib.hid hRES; clear hRES
      have HQ3L := Lib.hid (show q3 ≤ t.length by rw [HQ3.out]; exact hq1l)
      have T := elemBytes
      go_wp2_with fail
      go_loopw [8] (fun vi wr => ∃ (j q5 : Nat) (o : List UInt8) (aj : Option Addr) (cj : Nat), j ≤ n ∧ vi = .int .i64 j ∧ bytesF t most (n - j) q5 o = RES ∧ q5 ≤ t.length ∧ o.length ≤ most ∧
        St w0 wr (blk b0 (.cells #[.string sb, .int .i64 (q5 : Int), .slice aj o.length cj, .int .i64 (most : Int)] 85) * (blk b1 (.cells #[.string ⟨#[]⟩, .int .i64 0, .slice none 0 0, .int .i64 0] 85) * (own 5 1 (.slice aj o.length cj) o.length (o.map bv) * F)))) (fun vi _ => n - (intOf vi).toNat)
      case atStart => exact ⟨0, q3, out, ao, co, by omega, rfl, HRES.out, HQ3L.out, hom, h8⟩
      case round =>
        clear h8 HRES HQ3L
        obtain ⟨j, q5, o, aj, cj, hj, rfl, hres, hq5, hol, hst⟩ := hrel
        by_cases hjn : j < n
        · have hjj : (j : Int) < n := by omega
          rw [show n - j = (n - (j + 1)) + 1 by omega, bytesF] at hres
          have c0 := hst.cell 0 rfl
          have c1 := hst.cell 1 rfl
          have c2 := hst.cell 2 rfl
          have c3 := hst.cell 3 rfl
          have C := HNUM.out wr _ hst q5 hq5 aj o.length cj 8 (by omega)
          have HRS := Lib.hid hres; clear hres hst
          by_cases hcut5 : t.length < q5 + 8
          · rw [if_pos hcut5, if_pos hcut5, if_pos hcut5] at C
            have hres := HRS.out
            rw [if_pos hcut5] at hres
            have HRX := Lib.hid hres; clear hres HRS
            have HC := Lib.hid C; clear C
            go_wp2_with fail
            refine HC.out.mono ?_
            rintro e w9 ⟨rfl, h9⟩
            have hA := h9.alloc (.cells #[.string sb, .int .i64 (q5 : Int), .slice aj o.length cj, .int .i64 (most : Int)] 85)
            clear h9 c0 c1 c2 c3 HC
            go_upto_region 12 with (fail)
            generalize w9.heap.size = bt at *
            generalize w9.alloc (.cells #[.string sb, .int .i64 (q5 : Int), .slice aj o.length cj, .int .i64 (most : Int)] 85) = W10 at *
            have c0 := hA.right.cell 0 rfl
            have c1 := hA.right.cell 1 rfl
            have c2 := hA.right.cell 2 rfl
            have c3 := hA.right.cell 3 rfl
            have hB := hA.perm (show _ = blk b1 (.cells #[.string ⟨#[]⟩, .int .i64 0, .slice none 0 0, .int .i64 0] 85) * (blk bt (.cells #[.string sb, .int .i64 (q5 : Int), .slice aj o.length cj, .int .i64 (most : Int)] 85) * (blk b0 (.cells #[.string sb, .int .i64 (q5 : Int), .slice aj o.length cj, .int .i64 (most : Int)] 85) * (own 5 1 (.slice aj o.length cj) o.length (o.map bv) * F))) by ac_rfl)
            have r0 := hB.cell 0 rfl
            have r1 := hB.cell 1 rfl
            have r2 := hB.cell 2 rfl
            have r3 := hB.cell 3 rfl
            have rf0 := hB.free 0
            have rf1 := hB.free 1
            have rf2 := hB.free 2
            have rf3 := hB.free 3
            have HF := Lib.hid (set4 hB rfl (.string sb) (.int .i64 (q5 : Int)) (.slice aj o.length cj) (.int .i64 (most : Int)))
            clear hA hB
            go_wp2_with fail
            refine bodyPost_ret2c rfl rfl HF.out.at_ Try.underlying85 rfl (by show _ = some 4; kernel_rfl) rfl ?_
            exact ⟨2, q5, o, aj, cj, rfl, by rw [HR.out, ← HRX.out]; exact ⟨rfl, by decide⟩, (fun h => by cases h), hol, HF.out.right.right.right⟩
          · rw [if_neg hcut5, if_neg hcut5, if_neg hcut5] at C
            have hres := HRS.out
            rw [if_neg hcut5] at hres
            obtain ⟨q8, hq8⟩ : ∃ q8, q8 = q5 + 8 := ⟨_, rfl⟩
            rw [← hq8] at C hres
            have HQ8 := Lib.hid (show q8 ≤ t.length by omega); clear hq8
            have hc8 : vl t q5 8 < 2 ^ 8 := numV_lt true (fun i => t.getD (q5 + i) 0) (fun i => ht.getD _) 8
            generalize vl t q5 8 = c at *
            have hc256 : c < 256 := hc8
            have hw8 := wrap_u8n (c := c)
            generalize UInt8.ofNat c = ch at *
            have HRS2 := Lib.hid hres; clear hres HRS hc8
            have HC := Lib.hid C; clear C
            go_wp2_with fail
            refine HC.out.mono ?_
            rintro e w9 ⟨rfl, h9⟩
            have hA := h9.alloc (.cells #[.string sb, .int .i64 (q8 : Int), .slice aj o.length cj, .int .i64 (most : Int)] 85)
            clear h9 c0 c1 c2 c3 HC
            go_upto_region 12 with (fail)
            generalize w9.heap.size = bt at *
            generalize w9.alloc (.cells #[.string sb, .int .i64 (q8 : Int), .slice aj o.length cj, .int .i64 (most : Int)] 85) = W10 at *
            have t2 := hA.cell 2 rfl
            have t3 := hA.cell 3 rfl
            by_cases hlim : most ≤ o.length
            · have hl2 : (most : Int) ≤ o.length := by omega
              have hres := HRS2.out
              rw [if_pos hlim] at hres
              have HRX := Lib.hid hres; clear hres HRS2
              have c0 := hA.right.cell 0 rfl
              have c1 := hA.right.cell 1 rfl
              have c2 := hA.right.cell 2 rfl
              have c3 := hA.right.cell 3 rfl
              have hB := hA.perm (show _ = blk b1 (.cells #[.string ⟨#[]⟩, .int .i64 0, .slice none 0 0, .int .i64 0] 85) * (blk bt (.cells #[.string sb, .int .i64 (q8 : Int), .slice aj o.length cj, .int .i64 (most : Int)] 85) * (blk b0 (.cells #[.string sb, .int .i64 (q5 : Int), .slice aj o.length cj, .int .i64 (most : Int)] 85) * (own 5 1 (.slice aj o.length cj) o.length (o.map bv) * F))) by ac_rfl)
              have r0 := hB.cell 0 rfl
              have r1 := hB.cell 1 rfl
              have r2 := hB.cell 2 rfl
              have r3 := hB.cell 3 rfl
              have rf0 := hB.free 0
              have rf1 := hB.free 1
              have rf2 := hB.free 2
              have rf3 := hB.free 3
              have HF := Lib.hid (set4 hB rfl (.string sb) (.int .i64 (q5 : Int)) (.slice aj o.length cj) (.int .i64 (most : Int)))
              clear hA hB
              go_wp2_with fail
              refine bodyPost_ret2c rfl rfl HF.out.at_ Try.underlying85 rfl (by show _ = some 4; kernel_rfl) rfl ?_
              exact ⟨8, q5, o, aj, cj, rfl, by rw [HR.out, ← HRX.out]; exact ⟨rfl, by decide⟩, (fun h => by cases h), hol, HF.out.right.right.right⟩
            · have hl2 : ¬ (most : Int) ≤ o.length := by omega
              have hres := HRS2.out
              rw [if_neg hlim] at hres
              have HRX := Lib.hid hres; clear hres HRS2
              have HA := Lib.hid hA; clear hA
              go_wp2_with (at_builtin; apply stop)
              refine on (wpList_append_sep T rfl _ _ rfl rfl ((HA.out.drop_alloc (.cells #[.int .u8 (ch.toNat : Int)] 5)).perm (show _ = own 5 1 (.slice aj o.length cj) o.length (o.map bv) * (blk bt (.cells #[.string sb, .int .i64 (q8 : Int), .slice aj o.length cj, .int .i64 (most : Int)] 85) * (blk b0 (.cells #[.string sb, .int .i64 (q5 : Int), .slice aj o.length cj, .int .i64 (most : Int)] 85) * (blk b1 (.cells #[.string ⟨#[]⟩, .int .i64 0, .slice none 0 0, .int .i64 0] 85) * F))) by ac_rfl)) rfl (reads_u8 W10 ch) (bv_oneCell [ch]) ?_ ?_ ?_)
              · unfold maxLen; omega
              · omega
              intro v' w11 h11 _
              obtain ⟨a7, c7, rfl⟩ := h11.reads.sub
              have u2 := h11.right.cell 2 rfl
              have uf2 := h11.right.free 2
              have h12 := (h11.perm (star_left_comm _ _ _)).set 2 (.slice a7 (o.length + 1 : Nat) c7)
              clear t2 t3
              have H12 := Lib.hid h12; clear h12 h11 HA
              go_upto_region 17 with (fail)
              generalize w11.setCell ⟨bt, 2, none⟩ (.slice a7 (o.length + 1 : Nat) c7) = W12 at *
              clear u2 uf2
              have h13 : St w0 W12 (blk bt (.cells #[.string sb, .int .i64 (q8 : Int), .slice a7 (o.length + 1) c7, .int .i64 (most : Int)] 85) * (own 5 1 (.slice a7 (o.length + 1) c7) (o.length + 1) (o.map bv ++ [ch].map bv) * (blk b0 (.cells #[.string sb, .int .i64 (q5 : Int), .slice aj o.length cj, .int .i64 (most : Int)] 85) * (blk b1 (.cells #[.string ⟨#[]⟩, .int .i64 0, .slice none 0 0, .int .i64 0] 85) * F)))) := H12.out
              have c0 := h13.cell 0 rfl
              have c1 := h13.cell 1 rfl
              have c2 := h13.cell 2 rfl
              have c3 := h13.cell 3 rfl
              have h14 := h13.perm (show _ = blk b0 (.cells #[.string sb, .int .i64 (q5 : Int), .slice aj o.length cj, .int .i64 (most : Int)] 85) * (blk bt (.cells #[.string sb, .int .i64 (q8 : Int), .slice a7 (o.length + 1) c7, .int .i64 (most : Int)] 85) * (blk b1 (.cells #[.string ⟨#[]⟩, .int .i64 0, .slice none 0 0, .int .i64 0] 85) * (own 5 1 (.slice a7 (o.length + 1) c7) (o.length + 1) (o.map bv ++ [ch].map bv) * F))) by ac_rfl)
              have r0 := h14.cell 0 rfl
              have r1 := h14.cell 1 rfl
              have r2 := h14.cell 2 rfl
              have r3 := h14.cell 3 rfl
              have rf0 := h14.free 0
              have rf1 := h14.free 1
              have rf2 := h14.free 2
              have rf3 := h14.free 3
              have h15 := set4 h14 rfl (.string sb) (.int .i64 (q8 : Int)) (.slice a7 (o.length + 1) c7) (.int .i64 (most : Int))
              have h16 := (h15.perm (star_left_comm _ _ _)).right
              have e1 : (o ++ [ch]).length = o.length + 1 := by simp
              have e2 : (o ++ [ch]).map bv = o.map bv ++ [ch].map bv := by simp
              have h17 : St w0 ((((W12.setCell ⟨b0, 0, none⟩ (.string sb)).setCell ⟨b0, 1, none⟩ (.int .i64 (q8 : Int))).setCell ⟨b0, 2, none⟩ (.slice a7 (o.length + 1) c7)).setCell ⟨b0, 3, none⟩ (.int .i64 (most : Int))) (blk b0 (.cells #[.string sb, .int .i64 (q8 : Int), .slice a7 (o ++ [ch]).length c7, .int .i64 (most : Int)] 85) * (blk b1 (.cells #[.string ⟨#[]⟩, .int .i64 0, .slice none 0 0, .int .i64 0] 85) * (own 5 1 (.slice a7 (o ++ [ch]).length c7) (o ++ [ch]).length ((o ++ [ch]).map bv) * F))) := by
                rw [e1, e2]; exact h16
              have H16 := Lib.hid h17
              have HE1 := Lib.hid e1
              clear h13 h14 h15 h16 h17 e1 e2 H12
              go_wp2_with fail
              go_roundw
              case rel => exact ⟨j + 1, q8, o ++ [ch], a7, c7, by omega, by go_num, HRX.out, HQ8.out, by rw [HE1.out]; omega, H16.out⟩
              case measure => simp [intOf]; omega
        · obtain rfl : j = n := by omega
          rw [Nat.sub_self, bytesF] at hres
          have HRX := Lib.hid hres; clear hres
          have c0 := hst.cell 0 rfl
          have c1 := hst.cell 1 rfl
          have c2 := hst.cell 2 rfl
          have c3 := hst.cell 3 rfl
          have hB := hst.perm (star_left_comm _ _ _)
          have r0 := hB.cell 0 rfl
          have r1 := hB.cell 1 rfl
          have r2 := hB.cell 2 rfl
          have r3 := hB.cell 3 rfl
          have rf0 := hB.free 0
          have rf1 := hB.free 1
          have rf2 := hB.free 2
          have rf3 := hB.free 3
          have HF := Lib.hid (set4 hB rfl (.string sb) (.int .i64 (q5 : Int)) (.slice aj o.length cj) (.int .i64 (most : Int)))
          clear hst hB
          go_wp2_with fail
          refine bodyPost_ret2c rfl rfl HF.out.at_ Try.underlying85 rfl (by show _ = some 4; kernel_rfl) rfl ?_
          exact ⟨0, q5, o, aj, cj, rfl, by rw [HR.out, ← HRX.out]; exact ⟨rfl, rfl, rfl⟩, (fun _ => hq5), hol, HF.out.right.right⟩
    · rw [if_pos (by omega)] at HR
      have hnm2 : ((n : Int) + m != 65535) = true := by rw [bne_iff_ne]; omega
      have c0 := h8.cell 0 rfl
      have c1 := h8.cell 1 rfl
      have c2 := h8.cell 2 rfl
      have c3 := h8.cell 3 rfl
      have h9 := h8.perm (star_left_comm _ _ _)
      have r0 := h9.cell 0 rfl
      have r1 := h9.cell 1 rfl
      have r2 := h9.cell 2 rfl
      have r3 := h9.cell 3 rfl
      have rf0 := h9.free 0
      have rf1 := h9.free 1
      have rf2 := h9.free 2
      have rf3 := h9.free 3
      have HF8 := Lib.hid (set4 h9 rfl (.string sb) (.int .i64 (q3 : Int)) (.slice ao out.length co) (.int .i64 (most : Int)))
      clear h8 h9
      go_wp2_with fail
      refine bodyPost_ret2c rfl rfl HF8.out.at_ Try.underlying85 rfl (by show _ = some 4; kernel_rfl) rfl ?_
      exact ⟨3, q3, out, ao, co, rfl, by rw [HR.out]; exact ⟨rfl, by decide⟩, (fun h => by cases h), hom, HF8.out.right.right⟩
end Go.Proofs.Ytddifndfppilkaa
