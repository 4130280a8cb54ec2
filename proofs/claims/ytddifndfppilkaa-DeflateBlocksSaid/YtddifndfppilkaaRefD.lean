/-
  The document's block that tells its words' lengths (package mezzotintref08).
-/
import Derived.Test.YtddifndfppilkaaRefB
import Derived.Test.YtddifndfppilkaaRefL
import Derived.Test.YtddifndfppilkaaRefW
import Derived.Test.YtddifndfppilkaaInfG
namespace Go.Proofs.Ytddifndfppilkaa
open Go.RowKit Go.Mz
set_option linter.unusedVariables false
set_option linter.unusedSimpArgs false
set_option maxRecDepth 100000

theorem wordsF_bit {l : List Nat} {how : Nat} {W : List (List Nat)} (h : wordsF l how = .inr W) : ∀ v ∈ W, Bit v := by
  rw [wordsF] at h
  split at h
  · cases h
  · split at h
    · cases h
    · rename_i h0 _
      rcases canon_casesQ (l.map fun (n : Nat) => (n : Int)) with ⟨h1, _⟩ | ⟨l', h1, _, _, h2⟩
      · exact absurd h1 h0
      · rw [h2] at h
        have := Sum.inr.inj h
        rw [← this]
        exact bit_wordsC l'
theorem rsmall3 {t : List Nat} (ht : Bit t) (p : Nat) : vl t p 3 ≤ 7 := by
  have : vl t p 3 < 2 ^ 3 := numV_lt true (fun i => t.getD (p + i) 0) (fun i => ht.getD _) 3
  have : vl t p 3 < 8 := this
  omega

set_option maxHeartbeats 80000000 in
theorem rdynamic_any {w0 w : World} {F : SProp} {t : List Nat} (ht : Bit t) (hl : t.length ≤ 1000000000) {p : Nat} (hp : p ≤ t.length) {out : List UInt8} {most : Nat} (hom : out.length ≤ most) (hm : most ≤ 10000000000000) {ao : Option Addr} {co : Nat} (h : St w0 w (own 5 1 (.slice ao out.length co) (out.length) (out.map bv) * F)) {sb : ByteArray} (hsb : sb = ⟨(tx t).toArray⟩) :
    Calls Try.prog 49 #[.agg (rstC sb p (.slice ao out.length co) most)] w fun e w' => ∃ (x p' : Nat) (out' : List UInt8) (ao' : Option Addr) (co' : Nat),
      e = .returned (.tuple #[.agg (rstC sb p' (.slice ao' out'.length co') most), .int .i64 (x : Nat)]) ∧ ResR (dynamicF t most p out) x p' out' ∧ (x = 0 → p' ≤ t.length) ∧ out'.length ≤ most ∧ St w0 w' (own 5 1 (.slice ao' out'.length co') out'.length (out'.map bv) * F) := by
  have T := elemI
  have h1 := (h.alloc (.cells (rstC sb p (.slice ao out.length co) most) 85)).alloc (.cells rst0 85)
  have hsz : (w.alloc (.cells (rstC sb p (.slice ao out.length co) most) 85)).heap.size = w.heap.size + 1 := by
    show (w.heap.push _).size = _
    exact Array.size_push _
  rw [hsz] at h1
  have HNUM := Lib.hid (fun (w : World) (G : SProp) (h : St w0 w G) (q : Nat) (hq : q ≤ t.length) (n : Nat) (hn : n ≤ 31) => rnum_any h ht hl hq n hn (ao := ao) (no := out.length) (co := co) (most := (most : Int)) hsb (j := (n : Int)) rfl)
  have HLNG := Lib.hid (fun (w : World) (G : SProp) (h : St w0 w G) (q : Nat) (hq : q ≤ t.length) (W : List (List Nat)) (hb : ∀ v ∈ W, Bit v) (hW : W.length ≤ 19) (vw : Value) (hv : Stb w0 G (fun w => Reads w 1 vw W.length (W.map txv))) (n : Nat) (hn : n ≤ 100000) => rlengths_any h ht hl hq hb hW hv n hn (ao := ao) (no := out.length) (co := co) (most := (most : Int)) hsb)
  have HBLK := Lib.hid (fun (w : World) (G : SProp) (q : Nat) (hq : q ≤ t.length) (A B : List (List Nat)) (hbA : ∀ v ∈ A, Bit v) (hbB : ∀ v ∈ B, Bit v) (hA : A.length ≤ 900) (hB : B.length ≤ 900) (h : St w0 w (own 5 1 (.slice ao out.length co) (out.length) (out.map bv) * G)) (va vb : Value) (hva : Stb w0 G (fun w => Reads w 1 va A.length (A.map txv))) (hvb : Stb w0 G (fun w => Reads w 1 vb B.length (B.map txv))) => rblock_any ht hl hq hbA hbB hA hB hom hm h hva hvb hsb)
  have hsbl : sb.size = t.length := by rw [hsb, Lib.size_eq]; simp
  have HR := Lib.hid (show dynamicF t most p out = (if t.length < p + 14 then .inl 2 else
      if 286 < vl t p 5 + 257 ∨ 30 < vl t (p + 5) 5 + 1 then .inl 3 else
      match metaF t (orderL.take (vl t (p + 10) 4 + 4)) (p + 14) (List.replicate 19 0) with
      | .inl e => .inl e
      | .inr (q, lens) =>
        match wordsF lens 0 with
        | .inl e => .inl e
        | .inr W =>
          match lengthsF t W (vl t p 5 + 257 + (vl t (p + 5) 5 + 1)) (vl t p 5 + 257 + (vl t (p + 5) 5 + 1) + 1) [] q with
          | .inl e => .inl e
          | .inr (q', all) => if all.getD 256 0 = 0 then .inl 3 else blockL t (all.take (vl t p 5 + 257)) (all.drop (vl t p 5 + 257)) 1 most q' out) from rfl)
  unfold rstC rst0 at h1
  clear h hsz hsb
  have H1 := Lib.hid h1; clear h1
  unfold rstC at HNUM HLNG HBLK ⊢
  go_enter Try.func49, Try.ntmps49
  go_upto_region 1 with (fail)
  have h1 := H1.out
  clear H1
  generalize hb0 : w.heap.size = b0 at *
  generalize hb1 : b0 + 1 = b1 at *
  generalize hWW : (w.alloc (.cells #[.string sb, .int .i64 (p : Int), .slice ao out.length co, .int .i64 (most : Int)] 85)).alloc (.cells #[.string ⟨#[]⟩, .int .i64 0, .slice none 0 0, .int .i64 0] 85) = Ww at *
  have hne : ¬ b0 = b1 := by omega
  have hne' : ¬ b1 = b0 := by omega
  clear hb0 hb1 hWW
  have h2 := h1.perm (show _ = blk b0 (.cells #[.string sb, .int .i64 (p : Int), .slice ao out.length co, .int .i64 (most : Int)] 85) * (own 5 1 (.slice ao out.length co) (out.length) (out.map bv) * (blk b1 (.cells #[.string ⟨#[]⟩, .int .i64 0, .slice none 0 0, .int .i64 0] 85) * F)) by ac_rfl)
  clear h1
  have c0 := h2.cell 0 rfl
  have c1 := h2.cell 1 rfl
  have c2 := h2.cell 2 rfl
  have c3 := h2.cell 3 rfl
  by_cases hcut : t.length < p + 14
  · have hc2 : (t.length : Int) < (p : Int) + 14 := by omega
    rw [if_pos hcut] at HR
    have hB9 := h2.perm (show _ = blk b1 (.cells #[.string ⟨#[]⟩, .int .i64 0, .slice none 0 0, .int .i64 0] 85) * (blk b0 (.cells #[.string sb, .int .i64 (p : Int), .slice ao out.length co, .int .i64 (most : Int)] 85) * (own 5 1 (.slice ao out.length co) (out.length) (out.map bv) * F)) by ac_rfl)
    have hS9 := hB9.perm (star_left_comm _ _ _)
    have s0 := hS9.cell 0 rfl
    have s1 := hS9.cell 1 rfl
    have s2 := hS9.cell 2 rfl
    have s3 := hS9.cell 3 rfl
    have r0 := hB9.cell 0 rfl
    have r1 := hB9.cell 1 rfl
    have r2 := hB9.cell 2 rfl
    have r3 := hB9.cell 3 rfl
    have rf0 := hB9.free 0
    have rf1 := hB9.free 1
    have rf2 := hB9.free 2
    have rf3 := hB9.free 3
    have HF := Lib.hid (set4 hB9 rfl (.string sb) (.int .i64 (p : Int)) (.slice ao out.length co) (.int .i64 (most : Int)))
    clear hB9 hS9 h2
    go_wp2_with fail
    refine bodyPost_ret2c rfl rfl HF.out.at_ Try.underlying85 rfl (by show _ = some 4; kernel_rfl) rfl ?_
    exact ⟨2, p, out, ao, co, rfl, by rw [HR.out]; exact ⟨rfl, by decide⟩, (fun h => by cases h), hom, HF.out.right.right⟩
  have hc2 : ¬ (t.length : Int) < (p : Int) + 14 := by omega
  rw [if_neg hcut] at HR
  obtain ⟨q1, hq1⟩ : ∃ q1, q1 = p + 5 := ⟨_, rfl⟩
  obtain ⟨q2, hq2⟩ : ∃ q2, q2 = q1 + 5 := ⟨_, rfl⟩
  obtain ⟨q3, hq3⟩ : ∃ q3, q3 = q2 + 4 := ⟨_, rfl⟩
  rw [← hq1, show p + 10 = q2 by omega, show p + 14 = q3 by omega] at HR
  have HQ3L := Lib.hid (show q3 ≤ t.length by omega)
  have HQ2L := Lib.hid (show q2 ≤ t.length by omega)
  have HQ1L := Lib.hid (show q1 ≤ t.length by omega)
  have C1 := HNUM.out Ww _ h2 p hp 5 (by omega)
  rw [if_neg (by omega), if_neg (by omega), if_neg (by omega), ← hq1] at C1
  have hv1 : vl t p 5 < 2 ^ 5 := numV_lt true (fun i => t.getD (p + i) 0) (fun i => ht.getD _) 5
  have hv2 : vl t q1 5 < 2 ^ 5 := numV_lt true (fun i => t.getD (q1 + i) 0) (fun i => ht.getD _) 5
  have hv3 : vl t q2 4 < 2 ^ 4 := numV_lt true (fun i => t.getD (q2 + i) 0) (fun i => ht.getD _) 4
  have C2 := Lib.hid (fun (w : World) (G : SProp) (h : St w0 w G) => (by have C := HNUM.out w _ h q1 HQ1L.out 5 (by omega); rw [if_neg (by omega), if_neg (by omega), if_neg (by omega), ← hq2] at C; exact C :
    Calls Try.prog 44 #[.agg #[.string sb, .int .i64 (q1 : Int), .slice ao out.length co, .int .i64 (most : Int)], .int .i64 5] w fun e w' =>
      e = .returned (.tuple #[.agg #[.string sb, .int .i64 (q2 : Int), .slice ao out.length co, .int .i64 (most : Int)], .int .i64 (vl t q1 5 : Nat), .int .i64 (0 : Nat)]) ∧ St w0 w' G))
  have C3 := Lib.hid (fun (w : World) (G : SProp) (h : St w0 w G) => (by have C := HNUM.out w _ h q2 HQ2L.out 4 (by omega); rw [if_neg (by omega), if_neg (by omega), if_neg (by omega), ← hq3] at C; exact C :
    Calls Try.prog 44 #[.agg #[.string sb, .int .i64 (q2 : Int), .slice ao out.length co, .int .i64 (most : Int)], .int .i64 4] w fun e w' =>
      e = .returned (.tuple #[.agg #[.string sb, .int .i64 (q3 : Int), .slice ao out.length co, .int .i64 (most : Int)], .int .i64 (vl t q2 4 : Nat), .int .i64 (0 : Nat)]) ∧ St w0 w' G))
  generalize vl t p 5 = v1 at *
  generalize vl t q1 5 = v2 at *
  generalize vl t q2 4 = v3 at *
  have hw1 : (v1 : Int) + 257 = ((v1 + 257 : Nat) : Int) := by omega
  have hw2 : (v2 : Int) + 1 = ((v2 + 1 : Nat) : Int) := by omega
  have hw3 : (v3 : Int) + 4 = ((v3 + 4 : Nat) : Int) := by omega
  have hv1 : v1 < 32 := hv1
  have hv2 : v2 < 32 := hv2
  have hv3 : v3 < 16 := hv3
  have hlit : 257 ≤ v1 + 257 ∧ v1 + 257 ≤ 288 := by omega
  have hdis : 1 ≤ v2 + 1 ∧ v2 + 1 ≤ 32 := by omega
  have hmt : 4 ≤ v3 + 4 ∧ v3 + 4 ≤ 19 := by omega
  generalize v1 + 257 = lits at *
  generalize v2 + 1 = dists at *
  generalize v3 + 4 = mt at *
  have HC1 := Lib.hid C1; clear C1 h2 hq1 hq2 hq3 hcut
  go_wp2_with fail
  refine HC1.out.mono ?_
  rintro e w3 ⟨rfl, h3⟩
  have d0 := h3.cell 0 rfl
  have d1 := h3.cell 1 rfl
  have d2 := h3.cell 2 rfl
  have d3 := h3.cell 3 rfl
  have df0 := h3.free 0
  have df1 := h3.free 1
  have df2 := h3.free 2
  have df3 := h3.free 3
  have h4 := set4 h3 rfl (.string sb) (.int .i64 (q1 : Int)) (.slice ao out.length co) (.int .i64 (most : Int))
  clear h3 HC1
  go_upto_region 4 with (fail)
  generalize (((w3.setCell ⟨b0, 0, none⟩ (.string sb)).setCell ⟨b0, 1, none⟩ (.int .i64 (q1 : Int))).setCell ⟨b0, 2, none⟩ (.slice ao out.length co)).setCell ⟨b0, 3, none⟩ (.int .i64 (most : Int)) = W3 at *
  clear c0 c1 c2 c3 d0 d1 d2 d3 df0 df1 df2 df3
  have h4 : St w0 W3 (blk b0 (.cells #[.string sb, .int .i64 (q1 : Int), .slice ao out.length co, .int .i64 (most : Int)] 85) * (own 5 1 (.slice ao out.length co) (out.length) (out.map bv) * (blk b1 (.cells #[.string ⟨#[]⟩, .int .i64 0, .slice none 0 0, .int .i64 0] 85) * F))) := h4
  have c0 := h4.cell 0 rfl
  have c1 := h4.cell 1 rfl
  have c2 := h4.cell 2 rfl
  have c3 := h4.cell 3 rfl
  have HC2 := Lib.hid (C2.out W3 _ h4); clear h4 C2
  go_wp2_with fail
  refine HC2.out.mono ?_
  rintro e w4 ⟨rfl, h3⟩
  have d0 := h3.cell 0 rfl
  have d1 := h3.cell 1 rfl
  have d2 := h3.cell 2 rfl
  have d3 := h3.cell 3 rfl
  have df0 := h3.free 0
  have df1 := h3.free 1
  have df2 := h3.free 2
  have df3 := h3.free 3
  have h4 := set4 h3 rfl (.string sb) (.int .i64 (q2 : Int)) (.slice ao out.length co) (.int .i64 (most : Int))
  clear h3 HC2
  go_upto_region 5 with (fail)
  generalize (((w4.setCell ⟨b0, 0, none⟩ (.string sb)).setCell ⟨b0, 1, none⟩ (.int .i64 (q2 : Int))).setCell ⟨b0, 2, none⟩ (.slice ao out.length co)).setCell ⟨b0, 3, none⟩ (.int .i64 (most : Int)) = W4 at *
  clear c0 c1 c2 c3 d0 d1 d2 d3 df0 df1 df2 df3
  have h4 : St w0 W4 (blk b0 (.cells #[.string sb, .int .i64 (q2 : Int), .slice ao out.length co, .int .i64 (most : Int)] 85) * (own 5 1 (.slice ao out.length co) (out.length) (out.map bv) * (blk b1 (.cells #[.string ⟨#[]⟩, .int .i64 0, .slice none 0 0, .int .i64 0] 85) * F))) := h4
  have c0 := h4.cell 0 rfl
  have c1 := h4.cell 1 rfl
  have c2 := h4.cell 2 rfl
  have c3 := h4.cell 3 rfl
  have HC3 := Lib.hid (C3.out W4 _ h4); clear h4 C3
  go_wp2_with fail
  refine HC3.out.mono ?_
  rintro e w5 ⟨rfl, h3⟩
  have d0 := h3.cell 0 rfl
  have d1 := h3.cell 1 rfl
  have d2 := h3.cell 2 rfl
  have d3 := h3.cell 3 rfl
  have df0 := h3.free 0
  have df1 := h3.free 1
  have df2 := h3.free 2
  have df3 := h3.free 3
  have h4 := set4 h3 rfl (.string sb) (.int .i64 (q3 : Int)) (.slice ao out.length co) (.int .i64 (most : Int))
  clear h3 HC3
  go_upto_region 7 with (fail)
  generalize (((w5.setCell ⟨b0, 0, none⟩ (.string sb)).setCell ⟨b0, 1, none⟩ (.int .i64 (q3 : Int))).setCell ⟨b0, 2, none⟩ (.slice ao out.length co)).setCell ⟨b0, 3, none⟩ (.int .i64 (most : Int)) = W5 at *
  clear c0 c1 c2 c3 d0 d1 d2 d3 df0 df1 df2 df3
  have h4 : St w0 W5 (blk b0 (.cells #[.string sb, .int .i64 (q3 : Int), .slice ao out.length co, .int .i64 (most : Int)] 85) * (own 5 1 (.slice ao out.length co) (out.length) (out.map bv) * (blk b1 (.cells #[.string ⟨#[]⟩, .int .i64 0, .slice none 0 0, .int .i64 0] 85) * F))) := h4
  clear hv1 hv2 hv3
  by_cases hbad : 286 < lits ∨ 30 < dists
  · rw [if_pos hbad] at HR
    by_cases hb1' : 286 < lits
    · have hb2' : 286 < (lits : Int) := by omega
      have hB9 := h4.perm (show _ = blk b1 (.cells #[.string ⟨#[]⟩, .int .i64 0, .slice none 0 0, .int .i64 0] 85) * (blk b0 (.cells #[.string sb, .int .i64 (q3 : Int), .slice ao out.length co, .int .i64 (most : Int)] 85) * (own 5 1 (.slice ao out.length co) (out.length) (out.map bv) * F)) by ac_rfl)
      have hS9 := hB9.perm (star_left_comm _ _ _)
      have s0 := hS9.cell 0 rfl
      have s1 := hS9.cell 1 rfl
      have s2 := hS9.cell 2 rfl
      have s3 := hS9.cell 3 rfl
      have r0 := hB9.cell 0 rfl
      have r1 := hB9.cell 1 rfl
      have r2 := hB9.cell 2 rfl
      have r3 := hB9.cell 3 rfl
      have rf0 := hB9.free 0
      have rf1 := hB9.free 1
      have rf2 := hB9.free 2
      have rf3 := hB9.free 3
      have HF := Lib.hid (set4 hB9 rfl (.string sb) (.int .i64 (q3 : Int)) (.slice ao out.length co) (.int .i64 (most : Int)))
      clear hB9 hS9 h4
      go_wp2_with fail
      refine bodyPost_ret2c rfl rfl HF.out.at_ Try.underlying85 rfl (by show _ = some 4; kernel_rfl) rfl ?_
      exact ⟨3, q3, out, ao, co, rfl, by rw [HR.out]; exact ⟨rfl, by decide⟩, (fun h => by cases h), hom, HF.out.right.right⟩
    · have hb2' : ¬ 286 < (lits : Int) := by omega
      have hb3' : 30 < (dists : Int) := by omega
      have hB9 := h4.perm (show _ = blk b1 (.cells #[.string ⟨#[]⟩, .int .i64 0, .slice none 0 0, .int .i64 0] 85) * (blk b0 (.cells #[.string sb, .int .i64 (q3 : Int), .slice ao out.length co, .int .i64 (most : Int)] 85) * (own 5 1 (.slice ao out.length co) (out.length) (out.map bv) * F)) by ac_rfl)
      have hS9 := hB9.perm (star_left_comm _ _ _)
      have s0 := hS9.cell 0 rfl
      have s1 := hS9.cell 1 rfl
      have s2 := hS9.cell 2 rfl
      have s3 := hS9.cell 3 rfl
      have r0 := hB9.cell 0 rfl
      have r1 := hB9.cell 1 rfl
      have r2 := hB9.cell 2 rfl
      have r3 := hB9.cell 3 rfl
      have rf0 := hB9.free 0
      have rf1 := hB9.free 1
      have rf2 := hB9.free 2
      have rf3 := hB9.free 3
      have HF := Lib.hid (set4 hB9 rfl (.string sb) (.int .i64 (q3 : Int)) (.slice ao out.length co) (.int .i64 (most : Int)))
      clear hB9 hS9 h4
      go_wp2_with fail
      refine bodyPost_ret2c rfl rfl HF.out.at_ Try.underlying85 rfl (by show _ = some 4; kernel_rfl) rfl ?_
      exact ⟨3, q3, out, ao, co, rfl, by rw [HR.out]; exact ⟨rfl, by decide⟩, (fun h => by cases h), hom, HF.out.right.right⟩
  rw [if_neg hbad] at HR
  have hb2' : ¬ 286 < (lits : Int) := by omega
  have hb3' : ¬ 30 < (dists : Int) := by omega
  have H4 := Lib.hid h4; clear h4
  go_wp2_with (at_make; apply stop)
  refine on (wpList_make_sep T rfl _ _ rfl 19 rfl rfl rfl rfl H4.out (by decide) (by decide) ?_)
  intro v6 w6 h6
  have h6' : St w0 w6 (own 3 1 v6 19 (nvs (List.replicate 19 0)) * (blk b0 (.cells #[.string sb, .int .i64 (q3 : Int), .slice ao out.length co, .int .i64 (most : Int)] 85) * (own 5 1 (.slice ao out.length co) (out.length) (out.map bv) * (blk b1 (.cells #[.string ⟨#[]⟩, .int .i64 0, .slice none 0 0, .int .i64 0] 85) * F)))) := by
    have e : (madeCells (iv 0).cells (19 * 1)).toList = nvs (List.replicate 19 0) := by
      rw [Nat.mul_one]; simp [iv, Value.cells, toList_madeCells_one, nvs]; rfl
    rw [← e]; exact h6
  obtain ⟨a6, c6, rfl⟩ := h6'.reads.sub
  obtain ⟨g6, rfl⟩ := own_at h6' (by omega)
  have H6 := Lib.hid (h6'.perm (show _ = blk b0 (.cells #[.string sb, .int .i64 (q3 : Int), .slice ao out.length co, .int .i64 (most : Int)] 85) * (own 3 1 (.slice (some ⟨g6, 0, none⟩) 19 c6) 19 (nvs (List.replicate 19 0)) * (own 5 1 (.slice ao out.length co) (out.length) (out.map bv) * (blk b1 (.cells #[.string ⟨#[]⟩, .int .i64 0, .slice none 0 0, .int .i64 0] 85) * F))) by ac_rfl)); clear h6 h6' H4
  go_wp2_with fail
  obtain ⟨RM, hRM⟩ : ∃ RM, metaF t (orderL.take mt) q3 (List.replicate 19 0) = RM := ⟨_, rfl⟩
  rw [hRM] at HR
  have HRM := Lib.hid hRM; clear hRM
  have hotl : (orderL.take mt).length = mt := by rw [List.length_take]; exact Nat.min_eq_left hmt.2
  have HOT := Lib.hid hotl; clear hotl
  go_loopw [11] (fun vi wr => ∃ (j q : Nat) (lens : List Nat), j ≤ mt ∧ vi = .int .i64 j ∧ lens.length = 19 ∧ (∀ x ∈ lens, x ≤ 7) ∧ metaF t ((orderL.take mt).drop j) q lens = RM ∧ q ≤ t.length ∧
    St w0 wr (blk b0 (.cells #[.string sb, .int .i64 (q : Int), .slice ao out.length co, .int .i64 (most : Int)] 85) * (own 3 1 (.slice (some ⟨g6, 0, none⟩) 19 c6) 19 (nvs lens) * (own 5 1 (.slice ao out.length co) (out.length) (out.map bv) * (blk b1 (.cells #[.string ⟨#[]⟩, .int .i64 0, .slice none 0 0, .int .i64 0] 85) * F))))) (fun vi _ => mt - (intOf vi).toNat)
  case atStart => exact ⟨0, q3, List.replicate 19 0, by omega, rfl, by simp, (fun x hx => by rw [List.mem_replicate] at hx; omega), HRM.out, HQ3L.out, H6.out⟩
  case round =>
    clear H6 HRM HQ3L HQ2L HQ1L
    obtain ⟨j, q, lens, hj, rfl, hll, hl7, hmeta, hq, hst⟩ := hrel
    have c0 := hst.cell 0 rfl
    have c1 := hst.cell 1 rfl
    have c2 := hst.cell 2 rfl
    have c3 := hst.cell 3 rfl
    by_cases hjm : j < mt
    · have hjm2 : (j : Int) < mt := by omega
      have hj19 : j < 19 := by omega
      have hjo : j < orderL.length := hj19
      have hx := List.getElem?_eq_getElem hjo
      have hdrop : (orderL.take mt).drop j = orderL[j] :: (orderL.take mt).drop (j + 1) := by
        rw [List.drop_eq_getElem_cons (by rw [HOT.out]; exact hjm), List.getElem_take]
      have hoc : (nvs orderL)[j]? = some (.int .i64 (orderL[j] : Nat)) := by rw [nvs, List.getElem?_map, hx]; rfl
      have hol := orderL_lt orderL[j] (List.getElem_mem _)
      rw [hdrop, metaF] at hmeta
      generalize orderL[j] = oi at *
      clear hx hdrop hjo
      have HOC := Lib.hid hoc; clear hoc
      have C := HNUM.out wr _ hst q hq 3 (by omega)
      have HLL := Lib.hid hll; have HL7 := Lib.hid hl7; clear hll hl7
      by_cases hcut : t.length < q + 3
      · rw [if_pos hcut, if_pos hcut, if_pos hcut] at C
        rw [if_pos hcut] at hmeta
        have HMX := Lib.hid hmeta; clear hmeta
        have HC := Lib.hid C; clear C hst
        go_wp2_with fail
        refine HC.out.mono ?_
        rintro e w7 ⟨rfl, h7⟩
        have hA := h7.alloc (.cells #[.string sb, .int .i64 (q : Int), .slice ao out.length co, .int .i64 (most : Int)] 85)
        clear h7 c0 c1 c2 c3 HC
        go_upto_region 14 with (fail)
        generalize w7.heap.size = bt at *
        generalize w7.alloc (.cells #[.string sb, .int .i64 (q : Int), .slice ao out.length co, .int .i64 (most : Int)] 85) = W7 at *
        have hB9 := hA.perm (show _ = blk b1 (.cells #[.string ⟨#[]⟩, .int .i64 0, .slice none 0 0, .int .i64 0] 85) * (blk bt (.cells #[.string sb, .int .i64 (q : Int), .slice ao out.length co, .int .i64 (most : Int)] 85) * (blk b0 (.cells #[.string sb, .int .i64 (q : Int), .slice ao out.length co, .int .i64 (most : Int)] 85) * (own 3 1 (.slice (some ⟨g6, 0, none⟩) 19 c6) 19 (nvs lens) * (own 5 1 (.slice ao out.length co) (out.length) (out.map bv) * F)))) by ac_rfl)
        have hS9 := hB9.perm (star_left_comm _ _ _)
        have s0 := hS9.cell 0 rfl
        have s1 := hS9.cell 1 rfl
        have s2 := hS9.cell 2 rfl
        have s3 := hS9.cell 3 rfl
        have r0 := hB9.cell 0 rfl
        have r1 := hB9.cell 1 rfl
        have r2 := hB9.cell 2 rfl
        have r3 := hB9.cell 3 rfl
        have rf0 := hB9.free 0
        have rf1 := hB9.free 1
        have rf2 := hB9.free 2
        have rf3 := hB9.free 3
        have HF := Lib.hid (set4 hB9 rfl (.string sb) (.int .i64 (q : Int)) (.slice ao out.length co) (.int .i64 (most : Int)))
        clear hB9 hS9 hA
        go_wp2_with fail
        refine bodyPost_ret2c rfl rfl HF.out.at_ Try.underlying85 rfl (by show _ = some 4; kernel_rfl) rfl ?_
        exact ⟨2, q, out, ao, co, rfl, by rw [HR.out, ← HMX.out]; exact ⟨rfl, by decide⟩, (fun h => by cases h), hom, HF.out.right.right.right.right⟩
      · rw [if_neg hcut, if_neg hcut, if_neg hcut] at C
        rw [if_neg hcut] at hmeta
        obtain ⟨q4, hq4⟩ : ∃ q4, q4 = q + 3 := ⟨_, rfl⟩
        rw [← hq4] at C hmeta
        have HQ4 := Lib.hid (show q4 ≤ t.length by omega); clear hq4 hcut
        have hn7 := rsmall3 ht q
        generalize vl t q 3 = n3 at *
        have HMX := Lib.hid hmeta; clear hmeta
        have HC := Lib.hid C; clear C hst
        go_wp2_with fail
        refine HC.out.mono ?_
        rintro e w7 ⟨rfl, h7⟩
        have hA := h7.alloc (.cells #[.string sb, .int .i64 (q4 : Int), .slice ao out.length co, .int .i64 (most : Int)] 85)
        clear h7 c0 c1 c2 c3 HC
        go_upto_region 16 with (fail)
        generalize w7.heap.size = bt at *
        generalize w7.alloc (.cells #[.string sb, .int .i64 (q4 : Int), .slice ao out.length co, .int .i64 (most : Int)] 85) = W7 at *
        have HA := Lib.hid hA; clear hA
        go_wp2_with fail
        refine (rorder_any HA.out).mono ?_
        rintro e w8 ⟨v8, rfl, h8⟩
        obtain ⟨a8, c8, rfl⟩ := h8.reads.sub
        obtain ⟨g8, rfl⟩ := own_at h8 (by omega)
        have o8 := h8.own_cell HOC.out
        have h9 := h8.right.perm (show _ = own 3 1 (.slice (some ⟨g6, 0, none⟩) 19 c6) 19 (nvs lens) * (blk bt (.cells #[.string sb, .int .i64 (q4 : Int), .slice ao out.length co, .int .i64 (most : Int)] 85) * (blk b0 (.cells #[.string sb, .int .i64 (q : Int), .slice ao out.length co, .int .i64 (most : Int)] 85) * (own 5 1 (.slice ao out.length co) (out.length) (out.map bv) * (blk b1 (.cells #[.string ⟨#[]⟩, .int .i64 0, .slice none 0 0, .int .i64 0] 85) * F)))) by ac_rfl)
        obtain ⟨u, hu⟩ : ∃ u, (nvs lens)[oi]? = some u := ⟨(nvs lens)[oi]'(by rw [length_nvs, HLL.out]; exact hol), List.getElem?_eq_getElem _⟩
        have x8 := h9.own_cell hu
        have f8 := h9.own_free oi
        have h10 := h9.own_set oi (.int .i64 (n3 : Int))
        have e8 : (nvs lens).set oi (.int .i64 (n3 : Int)) = nvs (lens.set oi n3) := by rw [nvs, nvs, List.map_set]; rfl
        rw [e8] at h10
        have hol2 : (oi : Int) < 19 := by omega
        have H10 := Lib.hid h10
        clear h8 h9 h10 hu e8 HA
        have HML := Lib.hid hmt; clear hmt hbad hlit hdis hb2' hb3' hw1 hw2 hw3
        go_upto_region 17 with (fail)
        clear o8 x8 f8
        generalize w8.setCell ⟨g6, oi, none⟩ (.int .i64 (n3 : Int)) = W8 at *
        have h11 : St w0 W8 (own 3 1 (.slice (some ⟨g6, 0, none⟩) 19 c6) 19 (nvs (lens.set oi n3)) * (blk bt (.cells #[.string sb, .int .i64 (q4 : Int), .slice ao out.length co, .int .i64 (most : Int)] 85) * (blk b0 (.cells #[.string sb, .int .i64 (q : Int), .slice ao out.length co, .int .i64 (most : Int)] 85) * (own 5 1 (.slice ao out.length co) (out.length) (out.map bv) * (blk b1 (.cells #[.string ⟨#[]⟩, .int .i64 0, .slice none 0 0, .int .i64 0] 85) * F))))) := H10.out
        clear H10
        have h12 := h11.perm (show _ = blk bt (.cells #[.string sb, .int .i64 (q4 : Int), .slice ao out.length co, .int .i64 (most : Int)] 85) * (blk b0 (.cells #[.string sb, .int .i64 (q : Int), .slice ao out.length co, .int .i64 (most : Int)] 85) * (own 3 1 (.slice (some ⟨g6, 0, none⟩) 19 c6) 19 (nvs (lens.set oi n3)) * (own 5 1 (.slice ao out.length co) (out.length) (out.map bv) * (blk b1 (.cells #[.string ⟨#[]⟩, .int .i64 0, .slice none 0 0, .int .i64 0] 85) * F)))) by ac_rfl)
        have h13 := h12.perm (star_left_comm _ _ _)
        have t0 := h12.cell 0 rfl
        have t1 := h12.cell 1 rfl
        have t2 := h12.cell 2 rfl
        have t3 := h12.cell 3 rfl
        have r0 := h13.cell 0 rfl
        have r1 := h13.cell 1 rfl
        have r2 := h13.cell 2 rfl
        have r3 := h13.cell 3 rfl
        have rf0 := h13.free 0
        have rf1 := h13.free 1
        have rf2 := h13.free 2
        have rf3 := h13.free 3
        have h14 := set4 h13 rfl (.string sb) (.int .i64 (q4 : Int)) (.slice ao out.length co) (.int .i64 (most : Int))
        have H14 := Lib.hid ((h14.perm (star_left_comm _ _ _)).right); clear h11 h12 h13 h14
        have HLS : (lens.set oi n3).length = 19 := by rw [List.length_set]; exact HLL.out
        have HL8 : ∀ x ∈ lens.set oi n3, x ≤ 7 := fun x hx => by
          rcases List.mem_or_eq_of_mem_set hx with h | h
          · exact HL7.out x h
          · rw [h]; exact hn7
        have HLS' := Lib.hid HLS; have HL8' := Lib.hid HL8; clear HLS HL8
        go_wp2_with fail
        exact ⟨⟨j + 1, q4, lens.set oi n3, hjm, by go_num, HLS'.out, HL8'.out, HMX.out, HQ4.out, H14.out⟩, by simp [intOf]; omega⟩
    · obtain rfl : j = mt := by omega
      rw [List.drop_eq_nil_of_le (by rw [HOT.out]; exact Nat.le_refl _), metaF] at hmeta
      have hR := HR.out
      rw [← hmeta] at hR
      simp only at hR
      have HRY := Lib.hid hR; clear hR hmeta HR HOT HNUM
      have C := rwords_any hst lens true false (by omega) (fun n hn => by have := hl7 n hn; omega) (v := .slice (some ⟨g6, 0, none⟩) 19 c6) (by rw [hll]; exact fun w h => h.right.reads)
      have hrh : rhow true false = 0 := rfl
      rw [hrh] at C
      have HWL := Lib.hid (fun W (h : wordsF lens 0 = .inr W) => wordsF_len h)
      have HWB := Lib.hid (fun W (h : wordsF lens 0 = .inr W) => wordsF_bit h)
      generalize wordsF lens 0 = ra at *
      have HC := Lib.hid C; clear C hst hrh
      have HBD := Lib.hid hbad
      clear hl7 hmt hjm hj hbad hw1 hw2 hw3
      go_wp2_with fail
      refine HC.out.mono ?_
      rintro e w7 hw
      clear HC c0 c1 c2 c3
      cases ra with
      | inl er =>
        obtain ⟨hne0, rfl, h7⟩ := hw
        simp only at HRY
        have hne2 : ¬ (er : Int) = 0 := by omega
        have hB9 := h7.perm (show _ = blk b1 (.cells #[.string ⟨#[]⟩, .int .i64 0, .slice none 0 0, .int .i64 0] 85) * (blk b0 (.cells #[.string sb, .int .i64 (q : Int), .slice ao out.length co, .int .i64 (most : Int)] 85) * (own 3 1 (.slice (some ⟨g6, 0, none⟩) 19 c6) 19 (nvs lens) * (own 5 1 (.slice ao out.length co) (out.length) (out.map bv) * F))) by ac_rfl)
        have hS9 := hB9.perm (star_left_comm _ _ _)
        have s0 := hS9.cell 0 rfl
        have s1 := hS9.cell 1 rfl
        have s2 := hS9.cell 2 rfl
        have s3 := hS9.cell 3 rfl
        have r0 := hB9.cell 0 rfl
        have r1 := hB9.cell 1 rfl
        have r2 := hB9.cell 2 rfl
        have r3 := hB9.cell 3 rfl
        have rf0 := hB9.free 0
        have rf1 := hB9.free 1
        have rf2 := hB9.free 2
        have rf3 := hB9.free 3
        have HF := Lib.hid (set4 hB9 rfl (.string sb) (.int .i64 (q : Int)) (.slice ao out.length co) (.int .i64 (most : Int)))
        clear hB9 hS9 h7
        go_wp2_with fail
        refine bodyPost_ret2c rfl rfl HF.out.at_ Try.underlying85 rfl (by show _ = some 4; kernel_rfl) rfl ?_
        exact ⟨er, q, out, ao, co, rfl, by rw [HRY.out]; exact ⟨rfl, hne0⟩, (fun h => by omega), hom, HF.out.right.right.right⟩
      | inr W =>
        obtain ⟨v7, rfl, h7⟩ := hw
        simp only at HRY
        have hWl := HWL.out W rfl
        have hWb := HWB.out W rfl
        have hW19 : W.length ≤ 19 := by omega
        clear HWL HWB
        obtain ⟨a7, c7, rfl⟩ := h7.reads.sub
        have h8 := (h7.perm (show _ = own 3 1 (.slice (some ⟨g6, 0, none⟩) 19 c6) 19 (nvs lens) * (blk b0 (.cells #[.string sb, .int .i64 (q : Int), .slice ao out.length co, .int .i64 (most : Int)] 85) * (own 9 1 (.slice a7 W.length c7) W.length (W.map txv) * (own 5 1 (.slice ao out.length co) (out.length) (out.map bv) * (blk b1 (.cells #[.string ⟨#[]⟩, .int .i64 0, .slice none 0 0, .int .i64 0] 85) * F)))) by ac_rfl)).right
        have c0 := h8.cell 0 rfl
        have c1 := h8.cell 1 rfl
        have c2 := h8.cell 2 rfl
        have c3 := h8.cell 3 rfl
        obtain ⟨nn, hnn⟩ : ∃ nn, nn = lits + dists := ⟨_, rfl⟩
        have C := HLNG.out w7 _ h8 q hq W hWb hW19 (.slice a7 W.length c7) (fun w h => h.right.reads) nn (by omega)
        rw [← hnn] at HRY
        have HLF := Lib.hid (fun q' all (h : lengthsF t W nn (nn + 1) [] q = .inr (q', all)) => lengthsF_len (nn + 1) [] q q' all h (by simp))
        generalize lengthsF t W nn (nn + 1) [] q = rl at *
        have HC := Lib.hid C; clear C h7 h8 hWl hll
        have hsum : (lits : Int) + dists = (nn : Int) := by omega
        have HNN := Lib.hid hnn; clear hnn
        go_wp2_with fail
        refine HC.out.mono ?_
        rintro e w8 ⟨v8, x, q5, rfl, hlr, hq5⟩
        clear HC c0 c1 c2 c3 hsum
        cases rl with
        | inl er =>
          obtain ⟨hx, hne0, h9⟩ := hlr
          subst hx
          simp only at HRY
          have hne2 : ¬ (x : Int) = 0 := by omega
          have d0 := h9.cell 0 rfl
          have d1 := h9.cell 1 rfl
          have d2 := h9.cell 2 rfl
          have d3 := h9.cell 3 rfl
          have df0 := h9.free 0
          have df1 := h9.free 1
          have df2 := h9.free 2
          have df3 := h9.free 3
          have h10 := set4 h9 rfl (.string sb) (.int .i64 (q5 : Int)) (.slice ao out.length co) (.int .i64 (most : Int))
          clear h9
          go_upto_region 22 with (fail)
          generalize (((w8.setCell ⟨b0, 0, none⟩ (.string sb)).setCell ⟨b0, 1, none⟩ (.int .i64 (q5 : Int))).setCell ⟨b0, 2, none⟩ (.slice ao out.length co)).setCell ⟨b0, 3, none⟩ (.int .i64 (most : Int)) = W8 at *
          clear d0 d1 d2 d3 df0 df1 df2 df3
          have h10 : St w0 W8 (blk b0 (.cells #[.string sb, .int .i64 (q5 : Int), .slice ao out.length co, .int .i64 (most : Int)] 85) * (own 9 1 (.slice a7 W.length c7) W.length (W.map txv) * (own 5 1 (.slice ao out.length co) (out.length) (out.map bv) * (blk b1 (.cells #[.string ⟨#[]⟩, .int .i64 0, .slice none 0 0, .int .i64 0] 85) * F)))) := h10
          have hB9 := h10.perm (show _ = blk b1 (.cells #[.string ⟨#[]⟩, .int .i64 0, .slice none 0 0, .int .i64 0] 85) * (blk b0 (.cells #[.string sb, .int .i64 (q5 : Int), .slice ao out.length co, .int .i64 (most : Int)] 85) * (own 9 1 (.slice a7 W.length c7) W.length (W.map txv) * (own 5 1 (.slice ao out.length co) (out.length) (out.map bv) * F))) by ac_rfl)
          have hS9 := hB9.perm (star_left_comm _ _ _)
          have s0 := hS9.cell 0 rfl
          have s1 := hS9.cell 1 rfl
          have s2 := hS9.cell 2 rfl
          have s3 := hS9.cell 3 rfl
          have r0 := hB9.cell 0 rfl
          have r1 := hB9.cell 1 rfl
          have r2 := hB9.cell 2 rfl
          have r3 := hB9.cell 3 rfl
          have rf0 := hB9.free 0
          have rf1 := hB9.free 1
          have rf2 := hB9.free 2
          have rf3 := hB9.free 3
          have HF := Lib.hid (set4 hB9 rfl (.string sb) (.int .i64 (q5 : Int)) (.slice ao out.length co) (.int .i64 (most : Int)))
          clear hB9 hS9 h10
          go_wp2_with fail
          refine bodyPost_ret2c rfl rfl HF.out.at_ Try.underlying85 rfl (by show _ = some 4; kernel_rfl) rfl ?_
          exact ⟨x, q5, out, ao, co, rfl, by rw [HRY.out]; exact ⟨rfl, hne0⟩, (fun h => by omega), hom, HF.out.right.right.right⟩
        | inr qa =>
          obtain ⟨q6, all⟩ := qa
          obtain ⟨hx, hq6, h9⟩ := hlr
          subst hx hq6
          simp only at HRY
          obtain ⟨hal, hal15⟩ := HLF.out q5 all rfl
          rw [HNN.out] at hal
          have h9 : St w0 w8 (own 3 1 v8 all.length (nvs all) * (blk b0 (.cells #[.string sb, .int .i64 (q : Int), .slice ao out.length co, .int .i64 (most : Int)] 85) * (own 9 1 (.slice a7 W.length c7) W.length (W.map txv) * (own 5 1 (.slice ao out.length co) (out.length) (out.map bv) * (blk b1 (.cells #[.string ⟨#[]⟩, .int .i64 0, .slice none 0 0, .int .i64 0] 85) * F))))) := h9
          clear HLF
          obtain ⟨a8, c8, rfl⟩ := h9.reads.sub
          have hown : ∃ g8, a8 = some ⟨g8, 0, none⟩ ∧ all.length ≤ c8 := by
            obtain ⟨_, ⟨_, h0, _⟩ | ⟨g', cap', cur, e1, e2, _⟩⟩ := h9.own_split
            · omega
            · cases e1; exact ⟨g', rfl, e2⟩
          obtain ⟨g8, rfl, hc8⟩ := hown
          have hl256 : (256 : Int) < all.length := by omega
          have hl256' : 256 < all.length := by omega
          have htk : (all.take lits).length = lits := by rw [List.length_take]; omega
          have hdk : (all.drop lits).length = all.length - lits := by rw [List.length_drop]
          have hls : (lits : Int) ≤ all.length := by omega
          have hls2 : lits ≤ all.length := by omega
          have hls3 : lits ≤ c8 := by omega
          have hls4 : (lits : Int) ≤ c8 := by omega
          have hac : (all.length : Int) ≤ c8 := by omega
          have hcne : ¬ c8 = lits := by omega
          have HTK := Lib.hid htk; have HDK := Lib.hid hdk; have HAL := Lib.hid hal; have HA15 := Lib.hid hal15
          have HLIT := Lib.hid hlit; have HDIS := Lib.hid hdis
          clear htk hdk hal hal15 hlit hdis
          have h9 := (h9.perm (show _ = own 9 1 (.slice a7 W.length c7) W.length (W.map txv) * (blk b0 (.cells #[.string sb, .int .i64 (q : Int), .slice ao out.length co, .int .i64 (most : Int)] 85) * (own 3 1 (.slice (some ⟨g8, 0, none⟩) all.length c8) all.length (nvs all) * (own 5 1 (.slice ao out.length co) (out.length) (out.map bv) * (blk b1 (.cells #[.string ⟨#[]⟩, .int .i64 0, .slice none 0 0, .int .i64 0] 85) * F)))) by ac_rfl)).right
          have d0 := h9.cell 0 rfl
          have d1 := h9.cell 1 rfl
          have d2 := h9.cell 2 rfl
          have d3 := h9.cell 3 rfl
          have df0 := h9.free 0
          have df1 := h9.free 1
          have df2 := h9.free 2
          have df3 := h9.free 3
          have h10 := set4 h9 rfl (.string sb) (.int .i64 (q5 : Int)) (.slice ao out.length co) (.int .i64 (most : Int))
          clear h9
          go_upto_region 22 with (fail)
          generalize (((w8.setCell ⟨b0, 0, none⟩ (.string sb)).setCell ⟨b0, 1, none⟩ (.int .i64 (q5 : Int))).setCell ⟨b0, 2, none⟩ (.slice ao out.length co)).setCell ⟨b0, 3, none⟩ (.int .i64 (most : Int)) = W8 at *
          clear d0 d1 d2 d3 df0 df1 df2 df3
          have h10 : St w0 W8 (blk b0 (.cells #[.string sb, .int .i64 (q5 : Int), .slice ao out.length co, .int .i64 (most : Int)] 85) * (own 3 1 (.slice (some ⟨g8, 0, none⟩) all.length c8) all.length (nvs all) * (own 5 1 (.slice ao out.length co) (out.length) (out.map bv) * (blk b1 (.cells #[.string ⟨#[]⟩, .int .i64 0, .slice none 0 0, .int .i64 0] 85) * F)))) := h10
          have h256 : W8.cell? ⟨g8, 256, none⟩ = some (.int .i64 (all.getD 256 0 : Nat)) := h10.right.own_cell (i := 256) (by
            rw [nvs, List.getElem?_map, List.getD_eq_getElem?_getD, List.getElem?_eq_getElem hl256']; rfl)
          by_cases hz : all.getD 256 0 = 0
          · rw [if_pos hz] at HRY
            rw [hz] at h256
            have hB9 := h10.perm (show _ = blk b1 (.cells #[.string ⟨#[]⟩, .int .i64 0, .slice none 0 0, .int .i64 0] 85) * (blk b0 (.cells #[.string sb, .int .i64 (q5 : Int), .slice ao out.length co, .int .i64 (most : Int)] 85) * (own 3 1 (.slice (some ⟨g8, 0, none⟩) all.length c8) all.length (nvs all) * (own 5 1 (.slice ao out.length co) (out.length) (out.map bv) * F))) by ac_rfl)
            have hS9 := hB9.perm (star_left_comm _ _ _)
            have s0 := hS9.cell 0 rfl
            have s1 := hS9.cell 1 rfl
            have s2 := hS9.cell 2 rfl
            have s3 := hS9.cell 3 rfl
            have r0 := hB9.cell 0 rfl
            have r1 := hB9.cell 1 rfl
            have r2 := hB9.cell 2 rfl
            have r3 := hB9.cell 3 rfl
            have rf0 := hB9.free 0
            have rf1 := hB9.free 1
            have rf2 := hB9.free 2
            have rf3 := hB9.free 3
            have HF := Lib.hid (set4 hB9 rfl (.string sb) (.int .i64 (q5 : Int)) (.slice ao out.length co) (.int .i64 (most : Int)))
            clear hB9 hS9 h10
            go_wp2_with fail
            refine bodyPost_ret2c rfl rfl HF.out.at_ Try.underlying85 rfl (by show _ = some 4; kernel_rfl) rfl ?_
            exact ⟨3, q5, out, ao, co, rfl, by rw [HRY.out]; exact ⟨rfl, by decide⟩, (fun h => by cases h), hom, HF.out.right.right.right⟩
          rw [if_neg hz, blockL] at HRY
          generalize all.getD 256 0 = z256 at *
          have hz2 : ¬ (z256 : Int) = 0 := by omega
          have C := rwords_any h10 (all.take lits) true false (by rw [HTK.out]; have := HLIT.out; omega) (fun n hn => by have := HA15.out n (List.mem_of_mem_take hn); omega) (v := .slice (some ⟨g8, 0, none⟩) lits c8) (by
              rw [HTK.out]
              intro w h
              have := Reads.take h.right.reads (k := lits) (by omega)
              rw [nvs, ← List.map_take] at this
              exact this)
          have hrh : rhow true false = 0 := rfl
          rw [hrh] at C
          have HWL := Lib.hid (fun W (h : wordsF (all.take lits) 0 = .inr W) => wordsF_len h)
          have HWB := Lib.hid (fun W (h : wordsF (all.take lits) 0 = .inr W) => wordsF_bit h)
          generalize wordsF (all.take lits) 0 = ra at *
          have HC := Lib.hid C; clear C hrh
          have HZ := Lib.hid hz
          clear hz
          go_wp2_with fail
          refine HC.out.mono ?_
          rintro e w9 hw
          clear HC h256
          cases ra with
          | inl er =>
            obtain ⟨hne0, rfl, h11⟩ := hw
            simp only at HRY
            have hne2 : ¬ (er : Int) = 0 := by omega
            clear h10
            have hB9 := h11.perm (show _ = blk b1 (.cells #[.string ⟨#[]⟩, .int .i64 0, .slice none 0 0, .int .i64 0] 85) * (blk b0 (.cells #[.string sb, .int .i64 (q5 : Int), .slice ao out.length co, .int .i64 (most : Int)] 85) * (own 3 1 (.slice (some ⟨g8, 0, none⟩) all.length c8) all.length (nvs all) * (own 5 1 (.slice ao out.length co) (out.length) (out.map bv) * F))) by ac_rfl)
            have hS9 := hB9.perm (star_left_comm _ _ _)
            have s0 := hS9.cell 0 rfl
            have s1 := hS9.cell 1 rfl
            have s2 := hS9.cell 2 rfl
            have s3 := hS9.cell 3 rfl
            have r0 := hB9.cell 0 rfl
            have r1 := hB9.cell 1 rfl
            have r2 := hB9.cell 2 rfl
            have r3 := hB9.cell 3 rfl
            have rf0 := hB9.free 0
            have rf1 := hB9.free 1
            have rf2 := hB9.free 2
            have rf3 := hB9.free 3
            have HF := Lib.hid (set4 hB9 rfl (.string sb) (.int .i64 (q5 : Int)) (.slice ao out.length co) (.int .i64 (most : Int)))
            clear hB9 hS9 h11
            go_wp2_with fail
            refine bodyPost_ret2c rfl rfl HF.out.at_ Try.underlying85 rfl (by show _ = some 4; kernel_rfl) rfl ?_
            exact ⟨er, q5, out, ao, co, rfl, by rw [HRY.out]; exact ⟨rfl, hne0⟩, (fun h => by omega), hom, HF.out.right.right.right⟩
          | inr A =>
            obtain ⟨v9, rfl, h11⟩ := hw
            simp only at HRY
            have hAl := HWL.out A rfl
            have hAb := HWB.out A rfl
            have hA9 : A.length ≤ 900 := by rw [hAl, HTK.out]; have := HLIT.out; omega
            clear HWL HWB h10 hAl
            obtain ⟨a9, c9, rfl⟩ := h11.reads.sub
            have h12 := h11.perm (show _ = blk b0 (.cells #[.string sb, .int .i64 (q5 : Int), .slice ao out.length co, .int .i64 (most : Int)] 85) * (own 3 1 (.slice (some ⟨g8, 0, none⟩) all.length c8) all.length (nvs all) * (own 9 1 (.slice a9 A.length c9) A.length (A.map txv) * (own 5 1 (.slice ao out.length co) (out.length) (out.map bv) * (blk b1 (.cells #[.string ⟨#[]⟩, .int .i64 0, .slice none 0 0, .int .i64 0] 85) * F)))) by ac_rfl)
            have C := rwords_any h12 (all.drop lits) true true (by rw [HDK.out]; have := HAL.out; have := HDIS.out; omega) (fun n hn => by have := HA15.out n (List.mem_of_mem_drop hn); omega) (v := .slice (some ⟨g8, lits, none⟩) (all.length - lits) (c8 - lits)) (by
                rw [HDK.out]
                intro w h
                have := Reads.drop h.right.reads (k := lits) (by omega)
                rw [nvs, ← List.map_drop] at this
                exact this)
            have hrh : rhow true true = 1 := rfl
            rw [hrh] at C
            have HWL := Lib.hid (fun W (h : wordsF (all.drop lits) 1 = .inr W) => wordsF_len h)
            have HWB := Lib.hid (fun W (h : wordsF (all.drop lits) 1 = .inr W) => wordsF_bit h)
            generalize wordsF (all.drop lits) 1 = rb at *
            have HC := Lib.hid C; clear C hrh h11 h12
            go_wp2_with fail
            refine HC.out.mono ?_
            rintro e w10 hw
            clear HC
            cases rb with
            | inl er =>
              obtain ⟨hne0, rfl, h13⟩ := hw
              simp only at HRY
              have hne2 : ¬ (er : Int) = 0 := by omega
              have hB9 := h13.perm (show _ = blk b1 (.cells #[.string ⟨#[]⟩, .int .i64 0, .slice none 0 0, .int .i64 0] 85) * (blk b0 (.cells #[.string sb, .int .i64 (q5 : Int), .slice ao out.length co, .int .i64 (most : Int)] 85) * (own 3 1 (.slice (some ⟨g8, 0, none⟩) all.length c8) all.length (nvs all) * (own 9 1 (.slice a9 A.length c9) A.length (A.map txv) * (own 5 1 (.slice ao out.length co) (out.length) (out.map bv) * F)))) by ac_rfl)
              have hS9 := hB9.perm (star_left_comm _ _ _)
              have s0 := hS9.cell 0 rfl
              have s1 := hS9.cell 1 rfl
              have s2 := hS9.cell 2 rfl
              have s3 := hS9.cell 3 rfl
              have r0 := hB9.cell 0 rfl
              have r1 := hB9.cell 1 rfl
              have r2 := hB9.cell 2 rfl
              have r3 := hB9.cell 3 rfl
              have rf0 := hB9.free 0
              have rf1 := hB9.free 1
              have rf2 := hB9.free 2
              have rf3 := hB9.free 3
              have HF := Lib.hid (set4 hB9 rfl (.string sb) (.int .i64 (q5 : Int)) (.slice ao out.length co) (.int .i64 (most : Int)))
              clear hB9 hS9 h13
              go_wp2_with fail
              refine bodyPost_ret2c rfl rfl HF.out.at_ Try.underlying85 rfl (by show _ = some 4; kernel_rfl) rfl ?_
              exact ⟨er, q5, out, ao, co, rfl, by rw [HRY.out]; exact ⟨rfl, hne0⟩, (fun h => by omega), hom, HF.out.right.right.right.right⟩
            | inr B =>
              obtain ⟨v10, rfl, h13⟩ := hw
              simp only at HRY
              have hBl := HWL.out B rfl
              have hBb := HWB.out B rfl
              have hB9 : B.length ≤ 900 := by rw [hBl, HDK.out]; have := HAL.out; have := HDIS.out; omega
              clear HWL HWB hBl
              obtain ⟨a10, c10, rfl⟩ := h13.reads.sub
              have h14 := (h13.perm (show _ = own 3 1 (.slice (some ⟨g8, 0, none⟩) all.length c8) all.length (nvs all) * (own 5 1 (.slice ao out.length co) (out.length) (out.map bv) * (blk b0 (.cells #[.string sb, .int .i64 (q5 : Int), .slice ao out.length co, .int .i64 (most : Int)] 85) * (blk b1 (.cells #[.string ⟨#[]⟩, .int .i64 0, .slice none 0 0, .int .i64 0] 85) * (own 9 1 (.slice a9 A.length c9) A.length (A.map txv) * (own 9 1 (.slice a10 B.length c10) B.length (B.map txv) * F))))) by ac_rfl)).right
              have c0 := h14.right.cell 0 rfl
              have c1 := h14.right.cell 1 rfl
              have c2 := h14.right.cell 2 rfl
              have c3 := h14.right.cell 3 rfl
              have C := HBLK.out w10 _ q5 hq5 A B hAb hBb hA9 hB9 h14 (.slice a9 A.length c9) (.slice a10 B.length c10) (fun w h => h.right.right.reads) (fun w h => h.right.right.right.reads)
              have HC := Lib.hid C; clear C h13 h14 HBLK HLNG
              clear hls hls2 hls3 hls4 hac hcne hb2' hb3'
              go_wp2_with fail
              refine HC.out.mono ?_
              rintro e w11 ⟨x, p8, o8, a11, c11, rfl, hres, hp8, ho8, h15⟩
              clear HC c0 c1 c2 c3
              have hB9' := h15.perm (show _ = blk b1 (.cells #[.string ⟨#[]⟩, .int .i64 0, .slice none 0 0, .int .i64 0] 85) * (own 5 1 (.slice a11 o8.length c11) o8.length (o8.map bv) * (blk b0 (.cells #[.string sb, .int .i64 (q5 : Int), .slice ao out.length co, .int .i64 (most : Int)] 85) * (own 9 1 (.slice a9 A.length c9) A.length (A.map txv) * (own 9 1 (.slice a10 B.length c10) B.length (B.map txv) * F)))) by ac_rfl)
              have r0 := hB9'.cell 0 rfl
              have r1 := hB9'.cell 1 rfl
              have r2 := hB9'.cell 2 rfl
              have r3 := hB9'.cell 3 rfl
              have rf0 := hB9'.free 0
              have rf1 := hB9'.free 1
              have rf2 := hB9'.free 2
              have rf3 := hB9'.free 3
              have HF := Lib.hid (set4 hB9' rfl (.string sb) (.int .i64 (p8 : Int)) (.slice a11 o8.length c11) (.int .i64 (most : Int)))
              clear h15 hB9'
              have HRES := Lib.hid hres; have HP8 := Lib.hid hp8; clear hres hp8
              go_wp2_with fail
              refine bodyPost_ret2c rfl rfl HF.out.at_ Try.underlying85 rfl (by show _ = some 4; kernel_rfl) rfl ?_
              exact ⟨x, p8, o8, a11, c11, rfl, by rw [HRY.out]; exact HRES.out, HP8.out, ho8, (HF.out.right.perm (show _ = blk b0 (.cells #[.string sb, .int .i64 (q5 : Int), .slice ao out.length co, .int .i64 (most : Int)] 85) * (own 9 1 (.slice a9 A.length c9) A.length (A.map txv) * (own 9 1 (.slice a10 B.length c10) B.length (B.map txv) * (own 5 1 (.slice a11 o8.length c11) o8.length (o8.map bv) * F))) by ac_rfl)).right.right.right⟩
end Go.Proofs.Ytddifndfppilkaa
