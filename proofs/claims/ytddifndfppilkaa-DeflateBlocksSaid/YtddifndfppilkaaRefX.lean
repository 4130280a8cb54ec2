/-
  The document's Inflate (package mezzotintref08).
-/
import Derived.Test.YtddifndfppilkaaRefD
import Derived.Test.YtddifndfppilkaaRefS
import Derived.Test.YtddifndfppilkaaInfH
namespace Go.Proofs.Ytddifndfppilkaa
open Go.RowKit Go.Mz
set_option linter.unusedVariables false
set_option linter.unusedSimpArgs false
set_option maxRecDepth 100000

theorem fixA_canon : (canonI (fixA.map fun (n : Nat) => (n : Int))).2 = (true, 0) := by decide +kernel
theorem wordsF_fixA : ∃ W, wordsF fixA 0 = .inr W ∧ wordsF fixA 2 = .inr W := by
  refine ⟨(canonI (fixA.map fun (n : Nat) => (n : Int))).1, ?_, ?_⟩
  · rw [wordsF, fixA_canon, if_neg (by simp), if_neg (by simp)]
  · rw [wordsF, fixA_canon, if_neg (by simp), if_neg (by simp)]
theorem fixB_canon : (canonI (fixB.map fun (n : Nat) => (n : Int))).2.2 = 0 := by decide +kernel
theorem wordsF_fixB : ∃ W, wordsF fixB 2 = .inr W := by
  refine ⟨(canonI (fixB.map fun (n : Nat) => (n : Int))).1, ?_⟩
  rw [wordsF, fixB_canon, if_neg (by simp), if_neg (by simp)]

def RInfR (r : Nat ⊕ (List UInt8 × Nat)) (s : List UInt8) (n x : Nat) : Prop :=
  match r with
  | .inl e => s = [] ∧ n = 0 ∧ x = e
  | .inr (o, k) => s = o ∧ n = k ∧ x = 0
theorem vl_bit {t : List Nat} (ht : Bit t) (p : Nat) : vl t p 3 < 8 := by
  have : vl t p 3 < 2 ^ 3 := numV_lt true (fun i => t.getD (p + i) 0) (fun i => ht.getD _) 3
  exact this

set_option maxHeartbeats 80000000 in
theorem rinflate_any {w0 w : World} {F : SProp} (h : St w0 w F) (bs : List UInt8) (most : Int) (hl : bs.length ≤ 100000000) (hm : most ≤ 10000000000000) :
    Calls Try.prog 23 #[.string ⟨bs.toArray⟩, .int .i64 most] w fun e w' => ∃ (s : List UInt8) (n x : Nat), e = .returned (.tuple #[.string ⟨s.toArray⟩, .int .i64 (n : Nat), .int .i64 (x : Nat)]) ∧ RInfR (inflI bs most) s n x ∧ St w0 w' F := by
  by_cases hneg : most < 0
  · have HR := Lib.hid (show inflI bs most = .inl 1 by rw [inflI, if_pos hneg])
    have H := Lib.hid h; clear h
    go_enter Try.func23, Try.ntmps23
    go_wp2_with fail
    go_ret3
    exact ⟨[], 0, 1, rfl, by rw [HR.out]; exact ⟨rfl, rfl, rfl⟩, H.out⟩
  obtain ⟨M, rfl⟩ : ∃ M : Nat, most = M := ⟨most.toNat, by omega⟩
  obtain ⟨t, htt⟩ : ∃ t, t = bitsL true bs := ⟨_, rfl⟩
  have HR := Lib.hid (show inflI bs M = (match inflF t M (8 * bs.length + 1) 0 [] with | .inl e => .inl e | .inr (q, o) => .inr (o, (q + 7) / 8)) by rw [inflI, if_neg hneg, Int.toNat_natCast, htt]; rfl)
  have ht : Bit t := by rw [htt]; exact bit_bitsL true bs
  have htl : t.length = 8 * bs.length := by rw [htt, length_bitsL]
  have hl9 : t.length ≤ 1000000000 := by omega
  obtain ⟨sb, hsb⟩ : ∃ sb : ByteArray, sb = ⟨(tx t).toArray⟩ := ⟨_, rfl⟩
  have HOF := Lib.hid (by have C := of_any bs true h hl; rw [← htt, ← hsb] at C; exact C : Calls Try.prog 43 #[.string ⟨bs.toArray⟩, .bool true] w fun e w' => e = .returned (.string sb) ∧ St w0 w' F)
  have hM : M ≤ 10000000000000 := by omega
  obtain ⟨WA, hWA0, hWA2⟩ := wordsF_fixA
  obtain ⟨WB, hWB⟩ := wordsF_fixB
  have HWAl := Lib.hid (by have := wordsF_len hWA0; rw [fixA_len] at this; omega : WA.length ≤ 900)
  have HWBl := Lib.hid (by have := wordsF_len hWB; rw [fixB_len] at this; omega : WB.length ≤ 900)
  have HWAb := Lib.hid (wordsF_bit hWA0)
  have HWBb := Lib.hid (wordsF_bit hWB)
  have HBL := Lib.hid (fun (p : Nat) (o : List UInt8) => (by rw [blockL, hWA0, hWB] : blockL t fixA fixB 2 M p o = blockF t WA WB M (t.length + 1 - p) p o))
  have hNF : rhow false false = 2 := rfl
  have HWRA := Lib.hid (fun (w : World) (G : SProp) (h : St w0 w G) (v : Value) (hv : Stb w0 G (fun w => Reads w 1 v 288 (nvs fixA))) => (by
    have C := rwords_any h fixA false false (by rw [fixA_len]; omega) fixA_le (v := v) (by rw [fixA_len]; exact hv)
    rw [hNF, hWA2] at C; exact C : Calls Try.prog 47 #[v, .bool false, .bool false] w fun e w' => RWordsR (.inr WA) w0 w' G e))
  have HWRB := Lib.hid (fun (w : World) (G : SProp) (h : St w0 w G) (v : Value) (hv : Stb w0 G (fun w => Reads w 1 v 30 (nvs fixB))) => (by
    have C := rwords_any h fixB false false (by rw [fixB_len]; omega) fixB_le (v := v) (by rw [fixB_len]; exact hv)
    rw [hNF, hWB] at C; exact C : Calls Try.prog 47 #[v, .bool false, .bool false] w fun e w' => RWordsR (.inr WB) w0 w' G e))
  have HNUM := Lib.hid (fun (w : World) (G : SProp) (h : St w0 w G) (q : Nat) (hq : q ≤ t.length) (ao : Option Addr) (no co : Nat) => rnum_any h ht hl9 hq 3 (by omega) (ao := ao) (no := no) (co := co) (most := (M : Int)) hsb (j := (3 : Int)) rfl)
  have HSTO := Lib.hid (fun (w : World) (G : SProp) (q : Nat) (hq : q ≤ t.length) (o : List UInt8) (ho : o.length ≤ M) (aj : Option Addr) (cj : Nat) (h : St w0 w (own 5 1 (.slice aj o.length cj) (o.length) (o.map bv) * G)) => rstored_any ht hl9 hq ho hM h hsb)
  have HDYN := Lib.hid (fun (w : World) (G : SProp) (q : Nat) (hq : q ≤ t.length) (o : List UInt8) (ho : o.length ≤ M) (aj : Option Addr) (cj : Nat) (h : St w0 w (own 5 1 (.slice aj o.length cj) (o.length) (o.map bv) * G)) => rdynamic_any ht hl9 hq ho hM h hsb)
  have HBLK := Lib.hid (fun (w : World) (G : SProp) (q : Nat) (hq : q ≤ t.length) (o : List UInt8) (ho : o.length ≤ M) (aj : Option Addr) (cj : Nat) (h : St w0 w (own 5 1 (.slice aj o.length cj) (o.length) (o.map bv) * G)) (va vb : Value) (hva : Stb w0 G (fun w => Reads w 1 va WA.length (WA.map txv))) (hvb : Stb w0 G (fun w => Reads w 1 vb WB.length (WB.map txv))) => rblock_any ht hl9 hq HWAb.out HWBb.out HWAl.out HWBl.out ho hM h hva hvb hsb)
  generalize hRES : inflF t M (8 * bs.length + 1) 0 [] = RES at *
  have HRES := Lib.hid hRES; clear hRES
  rw [← htl] at HRES
  have HTL := Lib.hid htl
  clear h htt hsb hWA0 hWA2 hWB hNF htl
  unfold rstC at HNUM HSTO HDYN HBLK
  go_enter Try.func23, Try.ntmps23
  go_wp2_with fail
  refine HOF.out.mono ?_
  rintro e w2 ⟨rfl, h2⟩
  have h3 := (St.own_nil 5 1 h2).alloc (.cells #[.string sb, .int .i64 0, .slice none 0 0, .int .i64 (M : Int)] 85)
  have H3 := Lib.hid h3; clear h2 h3 HOF
  go_wp2_with fail
  generalize w2.heap.size = b0 at *
  generalize w2.alloc (.cells #[.string sb, .int .i64 0, .slice none 0 0, .int .i64 (M : Int)] 85) = W2 at *
  go_loopg [10] (t.length + 1) (fun g u wr => ∃ (q : Nat) (o : List UInt8) (aj : Option Addr) (cj : Nat), t.length + 1 ≤ g + q ∧ o.length ≤ M ∧ inflF t M g q o = RES ∧ q ≤ t.length ∧ St w0 wr (blk b0 (.cells #[.string sb, .int .i64 (q : Int), .slice aj o.length cj, .int .i64 (M : Int)] 85) * (own 5 1 (.slice aj o.length cj) (o.length) (o.map bv) * F)))
  case atStart => exact ⟨0, [], none, 0, by omega, by simp, HRES.out, by omega, H3.out⟩
  case round =>
    clear H3 HRES
    obtain ⟨q, o, aj, cj, hg, hol, hres, hq, hst⟩ := hrel
    obtain ⟨g, rfl⟩ : ∃ g, gk = g + 1 := ⟨gk - 1, by omega⟩
    rw [inflF] at hres
    have HG := Lib.hid hg; clear hg
    have c0 := hst.cell 0 rfl
    have c1 := hst.cell 1 rfl
    have c2 := hst.cell 2 rfl
    have c3 := hst.cell 3 rfl
    have C := HNUM.out wr _ hst q hq aj o.length cj
    by_cases hcut : t.length < q + 3
    · rw [if_pos hcut, if_pos hcut, if_pos hcut] at C
      rw [if_pos hcut] at hres
      have HRX := Lib.hid hres; clear hres
      have HC := Lib.hid C; clear C hst
      go_wp2_with fail
      refine HC.out.mono ?_
      rintro e w4 ⟨rfl, h4⟩
      have H4 := Lib.hid ((h4.alloc (.cells #[.string sb, .int .i64 (q : Int), .slice aj o.length cj, .int .i64 (M : Int)] 85)).right.right.right); clear h4
      go_wp2_with fail
      go_ret3
      first | exact ⟨[], 0, 2, rfl, by rw [HR.out, ← HRX.out]; exact ⟨rfl, rfl, rfl⟩, H4.out⟩ | exact ⟨[], rfl, 0, 2, rfl, by rw [HR.out, ← HRX.out]; exact ⟨rfl, rfl, rfl⟩, H4.out⟩
    · rw [if_neg hcut, if_neg hcut, if_neg hcut] at C
      rw [if_neg hcut] at hres
      obtain ⟨q1, hq1⟩ : ∃ q1, q1 = q + 3 := ⟨_, rfl⟩
      rw [← hq1] at C hres
      have HQ1 := Lib.hid hq1
      have hq1l : q1 ≤ t.length := by omega
      clear hcut hq1
      have hd8 := vl_bit ht q
      generalize vl t q 3 = hd at *
      have hb1 : hd % 2 = 0 ∨ hd % 2 = 1 := by omega
      have hcs : hd / 2 = 0 ∨ hd / 2 = 1 ∨ hd / 2 = 2 ∨ hd / 2 = 3 := by omega
      have HRS := Lib.hid hres; clear hres
      have HC := Lib.hid C; clear C hst
      go_wp2_with fail
      refine HC.out.mono ?_
      rintro e w4 ⟨rfl, h4⟩
      have hA := h4.alloc (.cells #[.string sb, .int .i64 (q1 : Int), .slice aj o.length cj, .int .i64 (M : Int)] 85)
      clear h4 c0 c1 c2 c3 HC
      go_upto_region 7 with (fail)
      generalize w4.heap.size = bt at *
      generalize w4.alloc (.cells #[.string sb, .int .i64 (q1 : Int), .slice aj o.length cj, .int .i64 (M : Int)] 85) = W3 at *
      have t0 := hA.cell 0 rfl
      have t1 := hA.cell 1 rfl
      have t2 := hA.cell 2 rfl
      have t3 := hA.cell 3 rfl
      have hB := hA.perm (star_left_comm _ _ _)
      have r0 := hB.cell 0 rfl
      have r1 := hB.cell 1 rfl
      have r2 := hB.cell 2 rfl
      have r3 := hB.cell 3 rfl
      have rf0 := hB.free 0
      have rf1 := hB.free 1
      have rf2 := hB.free 2
      have rf3 := hB.free 3
      have h6 := set4 hB rfl (.string sb) (.int .i64 (q1 : Int)) (.slice aj o.length cj) (.int .i64 (M : Int))
      have h6 := (h6.perm (show _ = blk bt (.cells #[.string sb, .int .i64 (q1 : Int), .slice aj o.length cj, .int .i64 (M : Int)] 85) * (blk b0 (.cells #[.string sb, .int .i64 (q1 : Int), .slice aj o.length cj, .int .i64 (M : Int)] 85) * (own 5 1 (.slice aj o.length cj) (o.length) (o.map bv) * F)) by ac_rfl)).right
      clear hA hB
      go_upto_region 8 with (fail)
      generalize (((W3.setCell ⟨b0, 0, none⟩ (.string sb)).setCell ⟨b0, 1, none⟩ (.int .i64 (q1 : Int))).setCell ⟨b0, 2, none⟩ (.slice aj o.length cj)).setCell ⟨b0, 3, none⟩ (.int .i64 (M : Int)) = W4 at *
      clear t0 t1 t2 t3 r0 r1 r2 r3 rf0 rf1 rf2 rf3
      have h6 : St w0 W4 (blk b0 (.cells #[.string sb, .int .i64 (q1 : Int), .slice aj o.length cj, .int .i64 (M : Int)] 85) * (own 5 1 (.slice aj o.length cj) (o.length) (o.map bv) * F)) := h6
      have c0 := h6.cell 0 rfl
      have c1 := h6.cell 1 rfl
      have c2 := h6.cell 2 rfl
      have c3 := h6.cell 3 rfl
      rcases hcs with h0 | h0 | h0 | h0
      · have hdv : (hd : Int) / 2 = 0 := by omega
        have hres := HRS.out
        rw [partF, if_pos h0] at hres
        have C := HSTO.out W4 _ q1 hq1l o hol aj cj (h6.perm (star_left_comm _ _ _))
        have HGE := Lib.hid (fun q' o' (h : storedF t M q1 o = .inr (q', o')) => storedF_ge h)
        generalize storedF t M q1 o = r at *
        have HRT := Lib.hid hres; clear hres HRS h6
        have HC := Lib.hid C; clear C
        clear h0 HSTO HDYN HBLK
        go_wp2_with fail
        refine HC.out.mono ?_
        rintro e w5 ⟨x, q5, o5, a5, c5, rfl, hr, hq5, ho5, h7⟩
        clear HC c0 c1 c2 c3
        have h7 := h7.perm (show _ = blk b0 (.cells #[.string sb, .int .i64 (q1 : Int), .slice aj o.length cj, .int .i64 (M : Int)] 85) * (own 5 1 (.slice a5 o5.length c5) (o5.length) (o5.map bv) * (F)) by ac_rfl)
        have d0 := h7.cell 0 rfl
        have d1 := h7.cell 1 rfl
        have d2 := h7.cell 2 rfl
        have d3 := h7.cell 3 rfl
        have df0 := h7.free 0
        have df1 := h7.free 1
        have df2 := h7.free 2
        have df3 := h7.free 3
        have h8 := set4 h7 rfl (.string sb) (.int .i64 (q5 : Int)) (.slice a5 o5.length c5) (.int .i64 (M : Int))
        clear h7
        go_upto_region 19 with (fail)
        generalize (((w5.setCell ⟨b0, 0, none⟩ (.string sb)).setCell ⟨b0, 1, none⟩ (.int .i64 (q5 : Int))).setCell ⟨b0, 2, none⟩ (.slice a5 o5.length c5)).setCell ⟨b0, 3, none⟩ (.int .i64 (M : Int)) = W5 at *
        clear d0 d1 d2 d3 df0 df1 df2 df3
        have h8 : St w0 W5 (blk b0 (.cells #[.string sb, .int .i64 (q5 : Int), .slice a5 o5.length c5, .int .i64 (M : Int)] 85) * (own 5 1 (.slice a5 o5.length c5) (o5.length) (o5.map bv) * (F))) := h8
        cases r with
        | inl er =>
          obtain ⟨hx, hne0⟩ := hr
          subst hx
          simp only at HRT
          have hne2 : ¬ (x : Int) = 0 := by omega
          have H8 := Lib.hid (h8.right.right); clear h8
          go_wp2_with fail
          go_ret3
          first | exact ⟨[], 0, x, rfl, by rw [HR.out, ← HRT.out]; exact ⟨rfl, rfl, rfl⟩, H8.out⟩ | exact ⟨[], rfl, 0, x, rfl, by rw [HR.out, ← HRT.out]; exact ⟨rfl, rfl, rfl⟩, H8.out⟩ | exact ⟨[], 0, rfl, x, rfl, by rw [HR.out, ← HRT.out]; exact ⟨rfl, rfl, rfl⟩, H8.out⟩
        | inr qo =>
          obtain ⟨q6, o6⟩ := qo
          obtain ⟨hx, hq6, ho6⟩ := hr
          subst hx hq6 ho6
          simp only at HRT
          have hge := HGE.out q5 o5 rfl
          have hq55 := hq5 rfl
          clear hq5
          have h9 := h8.perm (show _ = blk b0 (.cells #[.string sb, .int .i64 (q5 : Int), .slice a5 o5.length c5, .int .i64 (M : Int)] 85) * (own 5 1 (.slice a5 o5.length c5) (o5.length) (o5.map bv) * (F)) by ac_rfl)
          have h9 := h9
          clear h8
          rcases hb1 with hb1 | hb1
          · have hres := HRT.out
            rw [if_neg (by omega)] at hres
            have HRX := Lib.hid hres; clear hres HRT
            have hne : ¬ (hd : Int) % 2 = 1 := by omega
            have H9 := Lib.hid h9; clear h9
            go_wp2_with fail
            go_roundg g
            case measure => omega
            case rel => exact ⟨q5, o5, a5, c5, by have := HG.out; have := HQ1.out; omega, ho5, HRX.out, hq55, H9.out⟩
          · have hres := HRT.out
            rw [if_pos hb1] at hres
            have HRX := Lib.hid hres; clear hres HRT
            have hne : (hd : Int) % 2 = 1 := by omega
            have d1 := h9.cell 1 rfl
            have d2 := h9.cell 2 rfl
            have hq7 : ((q5 : Int) + 7) / 8 = (((q5 + 7) / 8 : Nat) : Int) := by omega
            have hconv : ∀ m, (convert 22 9 (.slice a5 o5.length c5)).run Try.prog (W5.drewN m) = .ok (.string ⟨o5.toArray⟩) (W5.drewN m) := fun m => run_b2s Try.underlying22 Try.underlying5 Try.underlying9 (h9.drewN m).right.reads
            have H9 := Lib.hid h9; clear h9
            go_wp2_with fail
            go_quiet (fail)
            have h10 := (H9.out.drewN nq).right.right
            clear d1 d2
            generalize W5.drewN nq = w9 at *
            have H10 := Lib.hid h10; clear h10 H9 hconv
            go_wp2_with fail
            go_ret3
            refine ⟨o5, (q5 + 7) / 8, 0, ?_, by rw [HR.out, ← HRX.out]; exact ⟨rfl, rfl, rfl⟩, H10.out⟩
            first | rfl | (rw [hq7]; rfl)
      · have hdv : (hd : Int) / 2 = 1 := by omega
        have hres := HRS.out
        rw [partF, if_neg (by omega), if_pos h0, HBL.out] at hres
        have HGE := Lib.hid (fun q' o' (h : blockF t WA WB M (t.length + 1 - q1) q1 o = .inr (q', o')) => blockF_ge _ _ _ _ _ h)
        generalize hRR : blockF t WA WB M (t.length + 1 - q1) q1 o = r at *
        have HRR := Lib.hid hRR; clear hRR
        have HRT := Lib.hid hres; clear hres HRS
        clear h0
        have H6 := Lib.hid h6; clear h6 c0 c1 c2 c3
        go_wp2_with fail
        refine (rfixed_any H6.out).mono ?_
        rintro e w41 ⟨va, vb, rfl, h61⟩
        obtain ⟨aa, ca, rfl⟩ := h61.reads.sub
        obtain ⟨ab, cb, rfl⟩ := h61.right.reads.sub
        have HCA := Lib.hid (HWRA.out w41 _ h61 (.slice aa 288 ca) (fun w h => h.reads)); clear h61 H6
        go_wp2_with fail
        refine HCA.out.mono ?_
        rintro e w42 ⟨va2, rfl, h62⟩
        obtain ⟨a2, c2', rfl⟩ := h62.reads.sub
        have HCB := Lib.hid (HWRB.out w42 _ h62 (.slice ab 30 cb) (fun w h => h.right.right.reads)); clear h62 HCA
        go_wp2_with fail
        refine HCB.out.mono ?_
        rintro e w43 ⟨vb2, rfl, h63⟩
        obtain ⟨a3, c3', rfl⟩ := h63.reads.sub
        have h64 := (h63.perm (show _ = own 3 1 (.slice aa 288 ca) 288 (nvs fixA) * (own 3 1 (.slice ab 30 cb) 30 (nvs fixB) * (own 5 1 (.slice aj o.length cj) (o.length) (o.map bv) * (blk b0 (.cells #[.string sb, .int .i64 (q1 : Int), .slice aj o.length cj, .int .i64 (M : Int)] 85) * (own 9 1 (.slice a2 WA.length c2') WA.length (WA.map txv) * (own 9 1 (.slice a3 WB.length c3') WB.length (WB.map txv) * F))))) by ac_rfl)).right.right
        have c0 := h64.right.cell 0 rfl
        have c1 := h64.right.cell 1 rfl
        have c2 := h64.right.cell 2 rfl
        have c3 := h64.right.cell 3 rfl
        have C := HBLK.out w43 _ q1 hq1l o hol aj cj h64 (.slice a2 WA.length c2') (.slice a3 WB.length c3') (fun w h => h.right.reads) (fun w h => h.right.right.reads)
        have HRRR := HRR.out
        rw [HRRR] at C
        have HC := Lib.hid C; clear C h63 h64 HCB HRRR HSTO HDYN HBLK
        go_wp2_with fail
        refine HC.out.mono ?_
        rintro e w5 ⟨x, q5, o5, a5, c5, rfl, hr, hq5, ho5, h7⟩
        clear HC c0 c1 c2 c3
        have h7 := h7.perm (show _ = blk b0 (.cells #[.string sb, .int .i64 (q1 : Int), .slice aj o.length cj, .int .i64 (M : Int)] 85) * (own 5 1 (.slice a5 o5.length c5) (o5.length) (o5.map bv) * (own 9 1 (.slice a2 WA.length c2') WA.length (WA.map txv) * (own 9 1 (.slice a3 WB.length c3') WB.length (WB.map txv) * (F)))) by ac_rfl)
        have d0 := h7.cell 0 rfl
        have d1 := h7.cell 1 rfl
        have d2 := h7.cell 2 rfl
        have d3 := h7.cell 3 rfl
        have df0 := h7.free 0
        have df1 := h7.free 1
        have df2 := h7.free 2
        have df3 := h7.free 3
        have h8 := set4 h7 rfl (.string sb) (.int .i64 (q5 : Int)) (.slice a5 o5.length c5) (.int .i64 (M : Int))
        clear h7
        go_upto_region 19 with (fail)
        generalize (((w5.setCell ⟨b0, 0, none⟩ (.string sb)).setCell ⟨b0, 1, none⟩ (.int .i64 (q5 : Int))).setCell ⟨b0, 2, none⟩ (.slice a5 o5.length c5)).setCell ⟨b0, 3, none⟩ (.int .i64 (M : Int)) = W5 at *
        clear d0 d1 d2 d3 df0 df1 df2 df3
        have h8 : St w0 W5 (blk b0 (.cells #[.string sb, .int .i64 (q5 : Int), .slice a5 o5.length c5, .int .i64 (M : Int)] 85) * (own 5 1 (.slice a5 o5.length c5) (o5.length) (o5.map bv) * (own 9 1 (.slice a2 WA.length c2') WA.length (WA.map txv) * (own 9 1 (.slice a3 WB.length c3') WB.length (WB.map txv) * (F))))) := h8
        cases r with
        | inl er =>
          obtain ⟨hx, hne0⟩ := hr
          subst hx
          simp only at HRT
          have hne2 : ¬ (x : Int) = 0 := by omega
          have H8 := Lib.hid (h8.right.right.right.right); clear h8
          go_wp2_with fail
          go_ret3
          first | exact ⟨[], 0, x, rfl, by rw [HR.out, ← HRT.out]; exact ⟨rfl, rfl, rfl⟩, H8.out⟩ | exact ⟨[], rfl, 0, x, rfl, by rw [HR.out, ← HRT.out]; exact ⟨rfl, rfl, rfl⟩, H8.out⟩ | exact ⟨[], 0, rfl, x, rfl, by rw [HR.out, ← HRT.out]; exact ⟨rfl, rfl, rfl⟩, H8.out⟩
        | inr qo =>
          obtain ⟨q6, o6⟩ := qo
          obtain ⟨hx, hq6, ho6⟩ := hr
          subst hx hq6 ho6
          simp only at HRT
          have hge := HGE.out q5 o5 rfl
          have hq55 := hq5 rfl
          clear hq5
          have h9 := h8.perm (show _ = own 9 1 (.slice a2 WA.length c2') WA.length (WA.map txv) * (own 9 1 (.slice a3 WB.length c3') WB.length (WB.map txv) * (blk b0 (.cells #[.string sb, .int .i64 (q5 : Int), .slice a5 o5.length c5, .int .i64 (M : Int)] 85) * (own 5 1 (.slice a5 o5.length c5) (o5.length) (o5.map bv) * (F)))) by ac_rfl)
          have h9 := h9.right.right
          clear h8
          rcases hb1 with hb1 | hb1
          · have hres := HRT.out
            rw [if_neg (by omega)] at hres
            have HRX := Lib.hid hres; clear hres HRT
            have hne : ¬ (hd : Int) % 2 = 1 := by omega
            have H9 := Lib.hid h9; clear h9
            go_wp2_with fail
            go_roundg g
            case measure => omega
            case rel => exact ⟨q5, o5, a5, c5, by have := HG.out; have := HQ1.out; omega, ho5, HRX.out, hq55, H9.out⟩
          · have hres := HRT.out
            rw [if_pos hb1] at hres
            have HRX := Lib.hid hres; clear hres HRT
            have hne : (hd : Int) % 2 = 1 := by omega
            have d1 := h9.cell 1 rfl
            have d2 := h9.cell 2 rfl
            have hq7 : ((q5 : Int) + 7) / 8 = (((q5 + 7) / 8 : Nat) : Int) := by omega
            have hconv : ∀ m, (convert 22 9 (.slice a5 o5.length c5)).run Try.prog (W5.drewN m) = .ok (.string ⟨o5.toArray⟩) (W5.drewN m) := fun m => run_b2s Try.underlying22 Try.underlying5 Try.underlying9 (h9.drewN m).right.reads
            have H9 := Lib.hid h9; clear h9
            go_wp2_with fail
            go_quiet (fail)
            have h10 := (H9.out.drewN nq).right.right
            clear d1 d2
            generalize W5.drewN nq = w9 at *
            have H10 := Lib.hid h10; clear h10 H9 hconv
            go_wp2_with fail
            go_ret3
            refine ⟨o5, (q5 + 7) / 8, 0, ?_, by rw [HR.out, ← HRX.out]; exact ⟨rfl, rfl, rfl⟩, H10.out⟩
            first | rfl | (rw [hq7]; rfl)
      · have hdv : (hd : Int) / 2 = 2 := by omega
        have hres := HRS.out
        rw [partF, if_neg (by omega), if_neg (by omega), if_pos h0] at hres
        have C := HDYN.out W4 _ q1 hq1l o hol aj cj (h6.perm (star_left_comm _ _ _))
        have HGE := Lib.hid (fun q' o' (h : dynamicF t M q1 o = .inr (q', o')) => dynamicF_ge h)
        generalize dynamicF t M q1 o = r at *
        have HRT := Lib.hid hres; clear hres HRS h6
        have HC := Lib.hid C; clear C
        clear h0 HSTO HDYN HBLK
        go_wp2_with fail
        refine HC.out.mono ?_
        rintro e w5 ⟨x, q5, o5, a5, c5, rfl, hr, hq5, ho5, h7⟩
        clear HC c0 c1 c2 c3
        have h7 := h7.perm (show _ = blk b0 (.cells #[.string sb, .int .i64 (q1 : Int), .slice aj o.length cj, .int .i64 (M : Int)] 85) * (own 5 1 (.slice a5 o5.length c5) (o5.length) (o5.map bv) * (F)) by ac_rfl)
        have d0 := h7.cell 0 rfl
        have d1 := h7.cell 1 rfl
        have d2 := h7.cell 2 rfl
        have d3 := h7.cell 3 rfl
        have df0 := h7.free 0
        have df1 := h7.free 1
        have df2 := h7.free 2
        have df3 := h7.free 3
        have h8 := set4 h7 rfl (.string sb) (.int .i64 (q5 : Int)) (.slice a5 o5.length c5) (.int .i64 (M : Int))
        clear h7
        go_upto_region 19 with (fail)
        generalize (((w5.setCell ⟨b0, 0, none⟩ (.string sb)).setCell ⟨b0, 1, none⟩ (.int .i64 (q5 : Int))).setCell ⟨b0, 2, none⟩ (.slice a5 o5.length c5)).setCell ⟨b0, 3, none⟩ (.int .i64 (M : Int)) = W5 at *
        clear d0 d1 d2 d3 df0 df1 df2 df3
        have h8 : St w0 W5 (blk b0 (.cells #[.string sb, .int .i64 (q5 : Int), .slice a5 o5.length c5, .int .i64 (M : Int)] 85) * (own 5 1 (.slice a5 o5.length c5) (o5.length) (o5.map bv) * (F))) := h8
        cases r with
        | inl er =>
          obtain ⟨hx, hne0⟩ := hr
          subst hx
          simp only at HRT
          have hne2 : ¬ (x : Int) = 0 := by omega
          have H8 := Lib.hid (h8.right.right); clear h8
          go_wp2_with fail
          go_ret3
          first | exact ⟨[], 0, x, rfl, by rw [HR.out, ← HRT.out]; exact ⟨rfl, rfl, rfl⟩, H8.out⟩ | exact ⟨[], rfl, 0, x, rfl, by rw [HR.out, ← HRT.out]; exact ⟨rfl, rfl, rfl⟩, H8.out⟩ | exact ⟨[], 0, rfl, x, rfl, by rw [HR.out, ← HRT.out]; exact ⟨rfl, rfl, rfl⟩, H8.out⟩
        | inr qo =>
          obtain ⟨q6, o6⟩ := qo
          obtain ⟨hx, hq6, ho6⟩ := hr
          subst hx hq6 ho6
          simp only at HRT
          have hge := HGE.out q5 o5 rfl
          have hq55 := hq5 rfl
          clear hq5
          have h9 := h8.perm (show _ = blk b0 (.cells #[.string sb, .int .i64 (q5 : Int), .slice a5 o5.length c5, .int .i64 (M : Int)] 85) * (own 5 1 (.slice a5 o5.length c5) (o5.length) (o5.map bv) * (F)) by ac_rfl)
          have h9 := h9
          clear h8
          rcases hb1 with hb1 | hb1
          · have hres := HRT.out
            rw [if_neg (by omega)] at hres
            have HRX := Lib.hid hres; clear hres HRT
            have hne : ¬ (hd : Int) % 2 = 1 := by omega
            have H9 := Lib.hid h9; clear h9
            go_wp2_with fail
            go_roundg g
            case measure => omega
            case rel => exact ⟨q5, o5, a5, c5, by have := HG.out; have := HQ1.out; omega, ho5, HRX.out, hq55, H9.out⟩
          · have hres := HRT.out
            rw [if_pos hb1] at hres
            have HRX := Lib.hid hres; clear hres HRT
            have hne : (hd : Int) % 2 = 1 := by omega
            have d1 := h9.cell 1 rfl
            have d2 := h9.cell 2 rfl
            have hq7 : ((q5 : Int) + 7) / 8 = (((q5 + 7) / 8 : Nat) : Int) := by omega
            have hconv : ∀ m, (convert 22 9 (.slice a5 o5.length c5)).run Try.prog (W5.drewN m) = .ok (.string ⟨o5.toArray⟩) (W5.drewN m) := fun m => run_b2s Try.underlying22 Try.underlying5 Try.underlying9 (h9.drewN m).right.reads
            have H9 := Lib.hid h9; clear h9
            go_wp2_with fail
            go_quiet (fail)
            have h10 := (H9.out.drewN nq).right.right
            clear d1 d2
            generalize W5.drewN nq = w9 at *
            have H10 := Lib.hid h10; clear h10 H9 hconv
            go_wp2_with fail
            go_ret3
            refine ⟨o5, (q5 + 7) / 8, 0, ?_, by rw [HR.out, ← HRX.out]; exact ⟨rfl, rfl, rfl⟩, H10.out⟩
            first | rfl | (rw [hq7]; rfl)
      · have hdv : (hd : Int) / 2 = 3 := by omega
        have hres := HRS.out
        rw [partF, if_neg (by omega), if_neg (by omega), if_neg (by omega)] at hres
        have HRX := Lib.hid hres; clear hres HRS h0
        have H6 := Lib.hid h6; clear h6 c0 c1 c2 c3
        go_wp2_with fail
        go_ret3
        first | exact ⟨[], 0, 3, rfl, by rw [HR.out, ← HRX.out]; exact ⟨rfl, rfl, rfl⟩, H6.out.right.right⟩ | exact ⟨[], rfl, 0, 3, rfl, by rw [HR.out, ← HRX.out]; exact ⟨rfl, rfl, rfl⟩, H6.out.right.right⟩
end Go.Proofs.Ytddifndfppilkaa
