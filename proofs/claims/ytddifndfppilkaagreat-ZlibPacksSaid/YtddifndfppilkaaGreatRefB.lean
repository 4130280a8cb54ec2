/-
  The document's block of words (package mezzotintref08).
  The document's block that tells its words' lengths (package mezzotintref08).
  The document's Inflate (package mezzotintref08).
-/
import Derived.Test.YtddifndfppilkaaGreatRefH
import Derived.Test.YtddifndfppilkaaGreatInfF
import Derived.Test.YtddifndfppilkaaGreatRefS
import Derived.Test.YtddifndfppilkaaGreatRefW
import Derived.Test.YtddifndfppilkaaGreatInfG
import Derived.Test.YtddifndfppilkaaGreatInfH
namespace Go.Proofs.YtddifndfppilkaaGreat
open Go.RowKit Go.Mz
set_option linter.unusedVariables false
set_option linter.unusedSimpArgs false
set_option maxRecDepth 100000

theorem rnumF_le {t : List Nat} (ht : Bit t) {l : List (Nat × Nat)} (hl : ∀ b ∈ l, b.1 ≤ 100000 ∧ b.2 ≤ 13) {i p q d : Nat} (h : numberF t l i p = .inr (q, d)) : d ≤ 200000 := by
  rw [numberF] at h
  cases e : l[i]? with
  | none => rw [e] at h; cases h
  | some b =>
    rw [e] at h
    simp only at h
    have h1 := hl b (List.mem_of_getElem? e)
    split at h
    · cases h
    · have h2 := (Prod.mk.inj (Sum.inr.inj h)).2
      have h3 : vl t p b.2 < 2 ^ b.2 := numV_lt true (fun i => t.getD (p + i) 0) (fun i => ht.getD _) b.2
      have h4 : 2 ^ b.2 ≤ 2 ^ 13 := Nat.pow_le_pow_right (by decide) h1.2
      omega

set_option maxHeartbeats 80000000 in
theorem rblock_any {w0 w : World} {F : SProp} {t : List Nat} (ht : Bit t) (hl : t.length ≤ 1000000000) {p : Nat} (hp : p ≤ t.length) {A B : List (List Nat)} (hbA : ∀ v ∈ A, Bit v) (hbB : ∀ v ∈ B, Bit v) (hA : A.length ≤ 900) (hB : B.length ≤ 900)
    {out : List UInt8} {most : Nat} (hom : out.length ≤ most) (hm : most ≤ 10000000000000) {ao : Option Addr} {co : Nat} (h : St w0 w (own 5 1 (.slice ao out.length co) (out.length) (out.map bv) * F)) {va vb : Value} (hva : Stb w0 F (fun w => Reads w 1 va A.length (A.map txv))) (hvb : Stb w0 F (fun w => Reads w 1 vb B.length (B.map txv))) {sb : ByteArray} (hsb : sb = ⟨(tx t).toArray⟩) :
    Calls Tryz.prog 36 #[.agg (rstC sb p (.slice ao out.length co) most), va, vb] w fun e w' => ∃ (x p' : Nat) (out' : List UInt8) (ao' : Option Addr) (co' : Nat),
      e = .returned (.tuple #[.agg (rstC sb p' (.slice ao' out'.length co') most), .int .i64 (x : Nat)]) ∧ ResR (blockF t A B most (t.length + 1 - p) p out) x p' out' ∧ (x = 0 → p' ≤ t.length) ∧ out'.length ≤ most ∧ St w0 w' (own 5 1 (.slice ao' out'.length co') out'.length (out'.map bv) * F) := by
  have T := elemBytes
  have h1 := (h.alloc (.cells (rstC sb p (.slice ao out.length co) most) 64)).alloc (.cells rst0 64)
  have hsz : (w.alloc (.cells (rstC sb p (.slice ao out.length co) most) 64)).heap.size = w.heap.size + 1 := by
    show (w.heap.push _).size = _
    exact Array.size_push _
  rw [hsz] at h1
  obtain ⟨aa, ca, rfl⟩ := (hva w h.right).sub
  obtain ⟨ab, cb, rfl⟩ := (hvb w h.right).sub
  have HNXA := Lib.hid (fun (w : World) (G : SProp) (h : St w0 w G) (hv : Stb w0 G (fun w => Reads w 1 (.slice aa A.length ca) A.length (A.map txv))) (q : Nat) (hq : q ≤ t.length) (ao : Option Addr) (no co : Nat) => rnext_any h ht hl hq hbA (by omega) hv (ao := ao) (no := no) (co := co) (most := (most : Int)) hsb)
  have HNXB := Lib.hid (fun (w : World) (G : SProp) (h : St w0 w G) (hv : Stb w0 G (fun w => Reads w 1 (.slice ab B.length cb) B.length (B.map txv))) (q : Nat) (hq : q ≤ t.length) (ao : Option Addr) (no co : Nat) => rnext_any h ht hl hq hbB (by omega) hv (ao := ao) (no := no) (co := co) (most := (most : Int)) hsb)
  have HNBR := Lib.hid (fun (w : World) (G : SProp) (h : St w0 w G) (q : Nat) (hq : q ≤ t.length) (i : Nat) (hi : i ≤ 100000) (far : Bool) (ao : Option Addr) (no co : Nat) => rnumber_any h ht hl hq i hi far (ao := ao) (no := no) (co := co) (most := (most : Int)) hsb)
  have HLEL := Lib.hid (fun (i p q d : Nat) => rnumF_le ht lensB_ok (i := i) (p := p) (q := q) (d := d))
  have HLED := Lib.hid (fun (i p q d : Nat) => rnumF_le ht distsB_ok (i := i) (p := p) (q := q) (d := d))
  have HPOS := Lib.hid (fun (i p q d : Nat) => numberF_pos (t := t) (i := i) (p := p) (q := q) (d := d))
  have HVA := Lib.hid hva; have HVB := Lib.hid hvb
  generalize hRES : blockF t A B most (t.length + 1 - p) p out = RES at *
  have HRES := Lib.hid hRES; clear hRES
  unfold rstC rst0 at h1
  clear h hsz hsb hva hvb
  have H1 := Lib.hid h1; clear h1
  unfold rstC at HNXA HNXB HNBR ⊢
  go_enter Tryz.func36, Tryz.ntmps36
  go_upto_region 1 with (fail)
  have h1 := H1.out
  clear H1
  generalize hb0 : w.heap.size = b0 at *
  generalize hb1 : b0 + 1 = b1 at *
  generalize hWW : (w.alloc (.cells #[.string sb, .int .i64 (p : Int), .slice ao out.length co, .int .i64 (most : Int)] 64)).alloc (.cells #[.string ⟨#[]⟩, .int .i64 0, .slice none 0 0, .int .i64 0] 64) = Ww at *
  have hne : ¬ b0 = b1 := by omega
  have hne' : ¬ b1 = b0 := by omega
  clear hb0 hb1 hWW
  have H2 := Lib.hid (h1.perm (show _ = blk b0 (.cells #[.string sb, .int .i64 (p : Int), .slice ao out.length co, .int .i64 (most : Int)] 64) * (own 5 1 (.slice ao out.length co) (out.length) (out.map bv) * (blk b1 (.cells #[.string ⟨#[]⟩, .int .i64 0, .slice none 0 0, .int .i64 0] 64) * F)) by ac_rfl)); clear h1
  go_wp2_with fail
  go_loopg [7] (t.length + 1 - p) (fun g u wr => ∃ (q : Nat) (o : List UInt8) (aj : Option Addr) (cj : Nat), t.length + 1 ≤ g + q ∧ o.length ≤ most ∧ blockF t A B most g q o = RES ∧ q ≤ t.length ∧ St w0 wr (blk b0 (.cells #[.string sb, .int .i64 (q : Int), .slice aj o.length cj, .int .i64 (most : Int)] 64) * (own 5 1 (.slice aj o.length cj) (o.length) (o.map bv) * (blk b1 (.cells #[.string ⟨#[]⟩, .int .i64 0, .slice none 0 0, .int .i64 0] 64) * F))))
  case atStart => exact ⟨p, out, ao, co, by omega, hom, HRES.out, hp, H2.out⟩
  case round =>
    clear H2 HRES
    obtain ⟨q, o, aj, cj, hg, hol, hres, hq, hst⟩ := hrel
    obtain ⟨g, rfl⟩ : ∃ g, gk = g + 1 := ⟨gk - 1, by omega⟩
    rw [blockF, blockS] at hres
    have HG := Lib.hid hg; clear hg
    have c0 := hst.cell 0 rfl
    have c1 := hst.cell 1 rfl
    have c2 := hst.cell 2 rfl
    have c3 := hst.cell 3 rfl
    have hlen := rdW_len A (t.drop q) []
    have hdl : (t.drop q).length = t.length - q := List.length_drop
    have C := HNXA.out wr _ hst (fun w h => HVA.out w h.right.right.right) q hq aj o.length cj
    generalize rdW A [] (t.drop q) = r at *
    obtain ⟨k, r⟩ := r
    have hk1 : q + k ≤ t.length := by have := hlen.2.1; simp only [List.length_nil, hdl] at this; omega
    have HC := Lib.hid C; clear C hst hdl
    have HRS := Lib.hid hres; clear hres
    go_wp2_with fail
    refine HC.out.mono ?_
    rintro e w2 ⟨z, x, p1, rfl, hrd, h3⟩
    have hA1 := h3.alloc (.cells #[.string sb, .int .i64 (p1 : Int), .slice aj o.length cj, .int .i64 (most : Int)] 64)
    clear h3 c0 c1 c2 c3 HC
    go_upto_region 2 with (fail)
    generalize w2.heap.size = bt at *
    generalize w2.alloc (.cells #[.string sb, .int .i64 (p1 : Int), .slice aj o.length cj, .int .i64 (most : Int)] 64) = W3 at *
    cases r with
    | inr er =>
      have her := hlen.2.2.2.2 er rfl
      obtain ⟨hp1, hx⟩ := hrd
      simp only at hx HRS
      subst hx
      have hx2 : ¬ (x : Int) = 0 := by omega
      clear hlen hp1 hk1
      have hB9 := hA1.perm (show _ = blk b1 (.cells #[.string ⟨#[]⟩, .int .i64 0, .slice none 0 0, .int .i64 0] 64) * (blk bt (.cells #[.string sb, .int .i64 (p1 : Int), .slice aj o.length cj, .int .i64 (most : Int)] 64) * (blk b0 (.cells #[.string sb, .int .i64 (q : Int), .slice aj o.length cj, .int .i64 (most : Int)] 64) * (own 5 1 (.slice aj o.length cj) (o.length) (o.map bv) * F))) by ac_rfl)
      have hS9 := hB9.perm (star_left_comm _ _ _)
      have s0 := hS9.cell 0 rfl
      have s1 := hS9.cell 1 rfl
      have s2 := hS9.cell 2 rfl
      have s3 := hS9.cell 3 rfl
      have r0 := hB9.cell 0 rfl
      have r1 := hB9.cell 1 rfl
      have r2 := hB9.cell 2 rfl
      have r3 := hB9.cell 3 rfl
      have rf0 := hB9.free 0
      have rf1 := hB9.free 1
      have rf2 := hB9.free 2
      have rf3 := hB9.free 3
      have HF := Lib.hid (set4 hB9 rfl (.string sb) (.int .i64 (p1 : Int)) (.slice aj o.length cj) (.int .i64 (most : Int)))
      clear hB9 hS9 hA1
      go_wp2_with fail
      refine bodyPost_ret2c rfl rfl HF.out.at_ Tryz.underlying64 rfl (by show _ = some 4; kernel_rfl) rfl ?_
      exact ⟨x, p1, o, aj, cj, rfl, by rw [← HRS.out]; exact ⟨rfl, by omega⟩, (fun h => by omega), hol, HF.out.right.right.right⟩
    | inl i =>
      obtain ⟨hk0, hi⟩ := hlen.2.2.2.1 i rfl
      obtain ⟨hp1, hx, hz⟩ := hrd
      subst hx hz
      simp only [List.length_nil] at HRS hk0
      rw [← hp1] at HRS
      have HP1 := Lib.hid (show p1 ≤ t.length by rw [hp1]; exact hk1)
      have HQ1 := Lib.hid (show q + 1 ≤ p1 by omega)
      clear hlen hp1 hk1 hk0
      have hbt := hA1.perm (show _ = blk b0 (.cells #[.string sb, .int .i64 (q : Int), .slice aj o.length cj, .int .i64 (most : Int)] 64) * (blk bt (.cells #[.string sb, .int .i64 (p1 : Int), .slice aj o.length cj, .int .i64 (most : Int)] 64) * (own 5 1 (.slice aj o.length cj) (o.length) (o.map bv) * (blk b1 (.cells #[.string ⟨#[]⟩, .int .i64 0, .slice none 0 0, .int .i64 0] 64) * F))) by ac_rfl)
      have t0 := hA1.cell 0 rfl
      have t1 := hA1.cell 1 rfl
      have t2 := hA1.cell 2 rfl
      have t3 := hA1.cell 3 rfl
      have r0 := hbt.cell 0 rfl
      have r1 := hbt.cell 1 rfl
      have r2 := hbt.cell 2 rfl
      have r3 := hbt.cell 3 rfl
      have rf0 := hbt.free 0
      have rf1 := hbt.free 1
      have rf2 := hbt.free 2
      have rf3 := hbt.free 3
      have h6 := set4 hbt rfl (.string sb) (.int .i64 (p1 : Int)) (.slice aj o.length cj) (.int .i64 (most : Int))
      clear hA1 hbt
      go_upto_region 5 with (fail)
      generalize (((W3.setCell ⟨b0, 0, none⟩ (.string sb)).setCell ⟨b0, 1, none⟩ (.int .i64 (p1 : Int))).setCell ⟨b0, 2, none⟩ (.slice aj o.length cj)).setCell ⟨b0, 3, none⟩ (.int .i64 (most : Int)) = W4 at *
      clear t0 t1 t2 t3 r0 r1 r2 r3 rf0 rf1 rf2 rf3
      have h7 : St w0 W4 (blk b0 (.cells #[.string sb, .int .i64 (p1 : Int), .slice aj o.length cj, .int .i64 (most : Int)] 64) * (blk bt (.cells #[.string sb, .int .i64 (p1 : Int), .slice aj o.length cj, .int .i64 (most : Int)] 64) * (own 5 1 (.slice aj o.length cj) (o.length) (o.map bv) * (blk b1 (.cells #[.string ⟨#[]⟩, .int .i64 0, .slice none 0 0, .int .i64 0] 64) * F)))) := h6
      clear h6
      by_cases hi256 : i = 256
      · subst hi256
        have hres := HRS.out
        rw [if_pos rfl] at hres
        have HRX := Lib.hid hres; clear hres HRS
        have hB9 := h7.perm (show _ = blk b1 (.cells #[.string ⟨#[]⟩, .int .i64 0, .slice none 0 0, .int .i64 0] 64) * (blk b0 (.cells #[.string sb, .int .i64 (p1 : Int), .slice aj o.length cj, .int .i64 (most : Int)] 64) * (blk bt (.cells #[.string sb, .int .i64 (p1 : Int), .slice aj o.length cj, .int .i64 (most : Int)] 64) * (own 5 1 (.slice aj o.length cj) (o.length) (o.map bv) * F))) by ac_rfl)
        have hS9 := hB9.perm (star_left_comm _ _ _)
        have s0 := hS9.cell 0 rfl
        have s1 := hS9.cell 1 rfl
        have s2 := hS9.cell 2 rfl
        have s3 := hS9.cell 3 rfl
        have r0 := hB9.cell 0 rfl
        have r1 := hB9.cell 1 rfl
        have r2 := hB9.cell 2 rfl
        have r3 := hB9.cell 3 rfl
        have rf0 := hB9.free 0
        have rf1 := hB9.free 1
        have rf2 := hB9.free 2
        have rf3 := hB9.free 3
        have HF := Lib.hid (set4 hB9 rfl (.string sb) (.int .i64 (p1 : Int)) (.slice aj o.length cj) (.int .i64 (most : Int)))
        clear hB9 hS9 h7
        go_wp2_with fail
        refine bodyPost_ret2c rfl rfl HF.out.at_ Tryz.underlying64 rfl (by show _ = some 4; kernel_rfl) rfl ?_
        exact ⟨0, p1, o, aj, cj, rfl, by rw [← HRX.out]; exact ⟨rfl, rfl, rfl⟩, (fun _ => HP1.out), hol, HF.out.right.right.right⟩
      have hi256' : ¬ (i : Int) = 256 := by omega
      have hi256b : ((i : Int) == 256) = false := by rw [beq_eq_false_iff_ne]; exact hi256'
      have hres := HRS.out
      rw [if_neg hi256] at hres
      clear HRS
      by_cases hlt : i < 256
      · have hlt2 : (i : Int) < 256 := by omega
        rw [if_pos hlt] at hres
        by_cases hlim : most ≤ o.length
        · rw [if_pos hlim] at hres
          have HRX := Lib.hid hres; clear hres
          have hl2 : (most : Int) ≤ o.length := by omega
          have hB9 := h7.perm (show _ = blk b1 (.cells #[.string ⟨#[]⟩, .int .i64 0, .slice none 0 0, .int .i64 0] 64) * (blk b0 (.cells #[.string sb, .int .i64 (p1 : Int), .slice aj o.length cj, .int .i64 (most : Int)] 64) * (blk bt (.cells #[.string sb, .int .i64 (p1 : Int), .slice aj o.length cj, .int .i64 (most : Int)] 64) * (own 5 1 (.slice aj o.length cj) (o.length) (o.map bv) * F))) by ac_rfl)
          have hS9 := hB9.perm (star_left_comm _ _ _)
          have s0 := hS9.cell 0 rfl
          have s1 := hS9.cell 1 rfl
          have s2 := hS9.cell 2 rfl
          have s3 := hS9.cell 3 rfl
          have r0 := hB9.cell 0 rfl
          have r1 := hB9.cell 1 rfl
          have r2 := hB9.cell 2 rfl
          have r3 := hB9.cell 3 rfl
          have rf0 := hB9.free 0
          have rf1 := hB9.free 1
          have rf2 := hB9.free 2
          have rf3 := hB9.free 3
          have HF := Lib.hid (set4 hB9 rfl (.string sb) (.int .i64 (p1 : Int)) (.slice aj o.length cj) (.int .i64 (most : Int)))
          clear hB9 hS9 h7
          go_wp2_with fail
          refine bodyPost_ret2c rfl rfl HF.out.at_ Tryz.underlying64 rfl (by show _ = some 4; kernel_rfl) rfl ?_
          exact ⟨8, p1, o, aj, cj, rfl, by rw [← HRX.out]; exact ⟨rfl, by decide⟩, (fun h => by cases h), hol, HF.out.right.right.right⟩
        · rw [if_neg hlim] at hres
          have HRX := Lib.hid hres; clear hres
          have hl2 : ¬ (most : Int) ≤ o.length := by omega
          have c0 := h7.cell 0 rfl
          have c1 := h7.cell 1 rfl
          have c2 := h7.cell 2 rfl
          have c3 := h7.cell 3 rfl
          have hw8 := wrap_u8n (c := i)
          generalize UInt8.ofNat i = ch at *
          have H7 := Lib.hid h7; clear h7
          go_wp2_with (at_builtin; apply stop)
          refine on (wpList_append_sep T rfl _ _ rfl rfl ((H7.out.drop_alloc (.cells #[.int .u8 (ch.toNat : Int)] 5)).perm (show _ = own 5 1 (.slice aj o.length cj) (o.length) (o.map bv) * (blk b0 (.cells #[.string sb, .int .i64 (p1 : Int), .slice aj o.length cj, .int .i64 (most : Int)] 64) * (blk bt (.cells #[.string sb, .int .i64 (p1 : Int), .slice aj o.length cj, .int .i64 (most : Int)] 64) * (blk b1 (.cells #[.string ⟨#[]⟩, .int .i64 0, .slice none 0 0, .int .i64 0] 64) * F))) by ac_rfl)) rfl (reads_u8 W4 ch) (bv_oneCell [ch]) ?_ ?_ ?_)
          · unfold maxLen; omega
          · omega
          intro v' w11 h11 _
          obtain ⟨a7, c7, rfl⟩ := h11.reads.sub
          have u2 := h11.right.cell 2 rfl
          have uf2 := h11.right.free 2
          have h12 := (h11.perm (star_left_comm _ _ _)).set 2 (.slice a7 (o.length + 1 : Nat) c7)
          have h13 : St w0 (w11.setCell ⟨b0, 2, none⟩ (.slice a7 (o.length + 1 : Nat) c7)) (blk b0 (.cells #[.string sb, .int .i64 (p1 : Int), .slice a7 (o ++ [ch]).length c7, .int .i64 (most : Int)] 64) * (own 5 1 (.slice a7 (o ++ [ch]).length c7) (o ++ [ch]).length ((o ++ [ch]).map bv) * (blk b1 (.cells #[.string ⟨#[]⟩, .int .i64 0, .slice none 0 0, .int .i64 0] 64) * F))) := by
            have e1 : (o ++ [ch]).length = o.length + 1 := by simp
            have e2 : (o ++ [ch]).map bv = o.map bv ++ [ch].map bv := by simp
            rw [e1, e2]
            exact ((h12.perm (show _ = blk bt (.cells #[.string sb, .int .i64 (p1 : Int), .slice aj o.length cj, .int .i64 (most : Int)] 64) * (blk b0 (.cells #[.string sb, .int .i64 (p1 : Int), .slice a7 (o.length + 1) c7, .int .i64 (most : Int)] 64) * (own 5 1 (.slice a7 (o.length + 1) c7) (o.length + 1) (o.map bv ++ [ch].map bv) * (blk b1 (.cells #[.string ⟨#[]⟩, .int .i64 0, .slice none 0 0, .int .i64 0] 64) * F))) by ac_rfl)).right)
          have H13 := Lib.hid h13; clear h13 h12 h11 H7 c0 c1 c2 c3
          go_wp2_with fail
          go_roundg g
          case measure => omega
          case rel => exact ⟨p1, o ++ [ch], a7, c7, by have := HG.out; have := HQ1.out; omega, by simp; omega, HRX.out, HP1.out, H13.out⟩
      · have hlt2 : ¬ (i : Int) < 256 := by omega
        rw [if_neg hlt] at hres
        have hsub : (i : Int) - 257 = ((i - 257 : Nat) : Int) := by omega
        have hnn : 0 ≤ ((i - 257 : Nat) : Int) := by omega
        have him : i - 257 ≤ 100000 := by omega
        have him2 : (i : Int) ≤ 100000 := by omega
        have c0 := h7.cell 0 rfl
        have c1 := h7.cell 1 rfl
        have c2 := h7.cell 2 rfl
        have c3 := h7.cell 3 rfl
        have C := HNBR.out W4 _ h7 p1 HP1.out (i - 257) him false aj o.length cj
        have C2 : fromsL false = lensB := rfl
        rw [C2] at C
        have HLN := Lib.hid (HLEL.out (i - 257) p1)
        have HNGE := Lib.hid (fun q d (h : numberF t lensB (i - 257) p1 = .inr (q, d)) => numberF_ge h)
        generalize numberF t lensB (i - 257) p1 = r at *
        generalize i - 257 = im at *
        have HC := Lib.hid C; clear C C2 h7
        have HRS := Lib.hid hres; clear hres
        clear hi256 hlt
        go_wp2_with fail
        refine HC.out.mono ?_
        rintro e w5 ⟨z, x, p2, rfl, hnr, hp2, h8⟩
        have HP2 := Lib.hid hp2; clear hp2 HC c0 c1 c2 c3
        have h9 := h8.perm (show _ = blk bt (.cells #[.string sb, .int .i64 (p1 : Int), .slice aj o.length cj, .int .i64 (most : Int)] 64) * (blk b0 (.cells #[.string sb, .int .i64 (p1 : Int), .slice aj o.length cj, .int .i64 (most : Int)] 64) * (own 5 1 (.slice aj o.length cj) (o.length) (o.map bv) * (blk b1 (.cells #[.string ⟨#[]⟩, .int .i64 0, .slice none 0 0, .int .i64 0] 64) * F))) by ac_rfl)
        have t0 := h9.cell 0 rfl
        have t1 := h9.cell 1 rfl
        have t2 := h9.cell 2 rfl
        have t3 := h9.cell 3 rfl
        have tf0 := h9.free 0
        have tf1 := h9.free 1
        have tf2 := h9.free 2
        have tf3 := h9.free 3
        have h10 := set4 h9 rfl (.string sb) (.int .i64 (p2 : Int)) (.slice aj o.length cj) (.int .i64 (most : Int))
        clear h8 h9
        go_upto_region 12 with (fail)
        generalize (((w5.setCell ⟨bt, 0, none⟩ (.string sb)).setCell ⟨bt, 1, none⟩ (.int .i64 (p2 : Int))).setCell ⟨bt, 2, none⟩ (.slice aj o.length cj)).setCell ⟨bt, 3, none⟩ (.int .i64 (most : Int)) = W5 at *
        clear t0 t1 t2 t3 tf0 tf1 tf2 tf3
        have h10 : St w0 W5 (blk bt (.cells #[.string sb, .int .i64 (p2 : Int), .slice aj o.length cj, .int .i64 (most : Int)] 64) * (blk b0 (.cells #[.string sb, .int .i64 (p1 : Int), .slice aj o.length cj, .int .i64 (most : Int)] 64) * (own 5 1 (.slice aj o.length cj) (o.length) (o.map bv) * (blk b1 (.cells #[.string ⟨#[]⟩, .int .i64 0, .slice none 0 0, .int .i64 0] 64) * F)))) := h10
        cases r with
        | inl er =>
          obtain ⟨hx, hne0⟩ := hnr
          subst hx
          simp only at HRS
          have hx2 : ¬ (x : Int) = 0 := by omega
          have hB9 := h10.perm (show _ = blk b1 (.cells #[.string ⟨#[]⟩, .int .i64 0, .slice none 0 0, .int .i64 0] 64) * (blk bt (.cells #[.string sb, .int .i64 (p2 : Int), .slice aj o.length cj, .int .i64 (most : Int)] 64) * (blk b0 (.cells #[.string sb, .int .i64 (p1 : Int), .slice aj o.length cj, .int .i64 (most : Int)] 64) * (own 5 1 (.slice aj o.length cj) (o.length) (o.map bv) * F))) by ac_rfl)
          have hS9 := hB9.perm (star_left_comm _ _ _)
          have s0 := hS9.cell 0 rfl
          have s1 := hS9.cell 1 rfl
          have s2 := hS9.cell 2 rfl
          have s3 := hS9.cell 3 rfl
          have r0 := hB9.cell 0 rfl
          have r1 := hB9.cell 1 rfl
          have r2 := hB9.cell 2 rfl
          have r3 := hB9.cell 3 rfl
          have rf0 := hB9.free 0
          have rf1 := hB9.free 1
          have rf2 := hB9.free 2
          have rf3 := hB9.free 3
          have HF := Lib.hid (set4 hB9 rfl (.string sb) (.int .i64 (p2 : Int)) (.slice aj o.length cj) (.int .i64 (most : Int)))
          clear hB9 hS9 h10
          go_wp2_with fail
          refine bodyPost_ret2c rfl rfl HF.out.at_ Tryz.underlying64 rfl (by show _ = some 4; kernel_rfl) rfl ?_
          exact ⟨x, p2, o, aj, cj, rfl, by rw [← HRS.out]; exact ⟨rfl, hne0⟩, (fun h => by omega), hol, HF.out.right.right.right⟩
        | inr qd =>
          obtain ⟨q', n⟩ := qd
          obtain ⟨hx, hq', hz⟩ := hnr
          subst hx hq' hz
          simp only at HRS
          have hn2 := HLN.out p2 n rfl
          have HGE1 := Lib.hid (show p1 ≤ p2 from HNGE.out p2 n rfl)
          clear HLN HNGE
          have HCR := Lib.hid (show copyR t B most n p2 o = match rdW B [] (t.drop p2) with
            | (_, .inr e) => .inl e
            | (k, .inl v) => (match numberF t distsB v (p2 + k) with
              | .inl e => .inl e
              | .inr (q, d) => if o.length < d then .inl 3 else if most < o.length + n then .inl 8 else .inr (q, copyF d n o)) from rfl)
          generalize copyR t B most n p2 o = CR at *
          have c0 := h10.cell 0 rfl
          have c1 := h10.cell 1 rfl
          have c2 := h10.cell 2 rfl
          have c3 := h10.cell 3 rfl
          have hlen := rdW_len B (t.drop p2) []
          have hdl : (t.drop p2).length = t.length - p2 := List.length_drop
          have C := HNXB.out W5 _ h10 (fun w h => HVB.out w h.right.right.right.right) p2 HP2.out aj o.length cj
          generalize rdW B [] (t.drop p2) = r at *
          obtain ⟨k, r⟩ := r
          have hk1 : p2 + k ≤ t.length := by have hx1 := HP2.out; have := hlen.2.1; simp only [List.length_nil, hdl] at this; omega
          have HC := Lib.hid C; clear C h10 hdl
          go_wp2_with fail
          refine HC.out.mono ?_
          rintro e w6 ⟨z, x, p3, rfl, hrd, h11⟩
          clear HC c0 c1 c2 c3
          have t0 := h11.cell 0 rfl
          have t1 := h11.cell 1 rfl
          have t2 := h11.cell 2 rfl
          have t3 := h11.cell 3 rfl
          have tf0 := h11.free 0
          have tf1 := h11.free 1
          have tf2 := h11.free 2
          have tf3 := h11.free 3
          have h12 := set4 h11 rfl (.string sb) (.int .i64 (p3 : Int)) (.slice aj o.length cj) (.int .i64 (most : Int))
          clear h11
          go_upto_region 15 with (fail)
          generalize (((w6.setCell ⟨bt, 0, none⟩ (.string sb)).setCell ⟨bt, 1, none⟩ (.int .i64 (p3 : Int))).setCell ⟨bt, 2, none⟩ (.slice aj o.length cj)).setCell ⟨bt, 3, none⟩ (.int .i64 (most : Int)) = W6 at *
          clear t0 t1 t2 t3 tf0 tf1 tf2 tf3
          have h12 : St w0 W6 (blk bt (.cells #[.string sb, .int .i64 (p3 : Int), .slice aj o.length cj, .int .i64 (most : Int)] 64) * (blk b0 (.cells #[.string sb, .int .i64 (p1 : Int), .slice aj o.length cj, .int .i64 (most : Int)] 64) * (own 5 1 (.slice aj o.length cj) (o.length) (o.map bv) * (blk b1 (.cells #[.string ⟨#[]⟩, .int .i64 0, .slice none 0 0, .int .i64 0] 64) * F)))) := h12
          cases r with
          | inr er =>
            have her := hlen.2.2.2.2 er rfl
            obtain ⟨hp3, hx⟩ := hrd
            have hcr := HCR.out
            simp only at hx hcr
            subst hx
            have hx2 : ¬ (x : Int) = 0 := by omega
            clear hlen hp3 hk1 HCR
            have hB9 := h12.perm (show _ = blk b1 (.cells #[.string ⟨#[]⟩, .int .i64 0, .slice none 0 0, .int .i64 0] 64) * (blk bt (.cells #[.string sb, .int .i64 (p3 : Int), .slice aj o.length cj, .int .i64 (most : Int)] 64) * (blk b0 (.cells #[.string sb, .int .i64 (p1 : Int), .slice aj o.length cj, .int .i64 (most : Int)] 64) * (own 5 1 (.slice aj o.length cj) (o.length) (o.map bv) * F))) by ac_rfl)
            have hS9 := hB9.perm (star_left_comm _ _ _)
            have s0 := hS9.cell 0 rfl
            have s1 := hS9.cell 1 rfl
            have s2 := hS9.cell 2 rfl
            have s3 := hS9.cell 3 rfl
            have r0 := hB9.cell 0 rfl
            have r1 := hB9.cell 1 rfl
            have r2 := hB9.cell 2 rfl
            have r3 := hB9.cell 3 rfl
            have rf0 := hB9.free 0
            have rf1 := hB9.free 1
            have rf2 := hB9.free 2
            have rf3 := hB9.free 3
            have HF := Lib.hid (set4 hB9 rfl (.string sb) (.int .i64 (p3 : Int)) (.slice aj o.length cj) (.int .i64 (most : Int)))
            clear hB9 hS9 h12
            go_wp2_with fail
            refine bodyPost_ret2c rfl rfl HF.out.at_ Tryz.underlying64 rfl (by show _ = some 4; kernel_rfl) rfl ?_
            have hres := HRS.out
            rw [hcr] at hres
            simp only at hres
            exact ⟨x, p3, o, aj, cj, rfl, by rw [← hres]; exact ⟨rfl, by omega⟩, (fun h => by omega), hol, HF.out.right.right.right⟩
          | inl kk =>
            have hkk := (hlen.2.2.2.1 kk rfl).2
            obtain ⟨hp3, hx, hz⟩ := hrd
            subst hx hz
            have hcr := HCR.out
            clear HCR
            simp only at hcr
            rw [← hp3] at hcr
            have HP3 := Lib.hid (show p3 ≤ t.length by rw [hp3]; exact hk1)
            have HGE2 := Lib.hid (show p2 ≤ p3 by omega)
            clear hlen hp3 hk1
            have c0 := h12.cell 0 rfl
            have c1 := h12.cell 1 rfl
            have c2 := h12.cell 2 rfl
            have c3 := h12.cell 3 rfl
            have C := HNBR.out W6 _ h12 p3 HP3.out kk (by omega) true aj o.length cj
            have C2 : fromsL true = distsB := rfl
            rw [C2] at C
            have HLN := Lib.hid (HLED.out kk p3)
            have HPS := Lib.hid (HPOS.out kk p3)
            have HNGE := Lib.hid (fun q d (h : numberF t distsB kk p3 = .inr (q, d)) => numberF_ge h)
            generalize numberF t distsB kk p3 = r at *
            have HC := Lib.hid C; clear C C2 h12
            have HCR := Lib.hid hcr; clear hcr
            have hkk2 : kk ≤ 900 := by omega
            go_wp2_with fail
            refine HC.out.mono ?_
            rintro e w7 ⟨z, x, p4, rfl, hnr, hp4, h13⟩
            have HP4 := Lib.hid hp4; clear hp4 HC c0 c1 c2 c3
            have t0 := h13.cell 0 rfl
            have t1 := h13.cell 1 rfl
            have t2 := h13.cell 2 rfl
            have t3 := h13.cell 3 rfl
            have tf0 := h13.free 0
            have tf1 := h13.free 1
            have tf2 := h13.free 2
            have tf3 := h13.free 3
            have h14 := set4 h13 rfl (.string sb) (.int .i64 (p4 : Int)) (.slice aj o.length cj) (.int .i64 (most : Int))
            clear h13
            go_upto_region 18 with (fail)
            generalize (((w7.setCell ⟨bt, 0, none⟩ (.string sb)).setCell ⟨bt, 1, none⟩ (.int .i64 (p4 : Int))).setCell ⟨bt, 2, none⟩ (.slice aj o.length cj)).setCell ⟨bt, 3, none⟩ (.int .i64 (most : Int)) = W7 at *
            clear t0 t1 t2 t3 tf0 tf1 tf2 tf3
            have h14 : St w0 W7 (blk bt (.cells #[.string sb, .int .i64 (p4 : Int), .slice aj o.length cj, .int .i64 (most : Int)] 64) * (blk b0 (.cells #[.string sb, .int .i64 (p1 : Int), .slice aj o.length cj, .int .i64 (most : Int)] 64) * (own 5 1 (.slice aj o.length cj) (o.length) (o.map bv) * (blk b1 (.cells #[.string ⟨#[]⟩, .int .i64 0, .slice none 0 0, .int .i64 0] 64) * F)))) := h14
            cases r with
            | inl er =>
              obtain ⟨hx, hne0⟩ := hnr
              subst hx
              have hcr := HCR.out
              simp only at hcr
              have hx2 : ¬ (x : Int) = 0 := by omega
              have hB9 := h14.perm (show _ = blk b1 (.cells #[.string ⟨#[]⟩, .int .i64 0, .slice none 0 0, .int .i64 0] 64) * (blk bt (.cells #[.string sb, .int .i64 (p4 : Int), .slice aj o.length cj, .int .i64 (most : Int)] 64) * (blk b0 (.cells #[.string sb, .int .i64 (p1 : Int), .slice aj o.length cj, .int .i64 (most : Int)] 64) * (own 5 1 (.slice aj o.length cj) (o.length) (o.map bv) * F))) by ac_rfl)
              have hS9 := hB9.perm (star_left_comm _ _ _)
              have s0 := hS9.cell 0 rfl
              have s1 := hS9.cell 1 rfl
              have s2 := hS9.cell 2 rfl
              have s3 := hS9.cell 3 rfl
              have r0 := hB9.cell 0 rfl
              have r1 := hB9.cell 1 rfl
              have r2 := hB9.cell 2 rfl
              have r3 := hB9.cell 3 rfl
              have rf0 := hB9.free 0
              have rf1 := hB9.free 1
              have rf2 := hB9.free 2
              have rf3 := hB9.free 3
              have HF := Lib.hid (set4 hB9 rfl (.string sb) (.int .i64 (p4 : Int)) (.slice aj o.length cj) (.int .i64 (most : Int)))
              clear hB9 hS9 h14
              go_wp2_with fail
              refine bodyPost_ret2c rfl rfl HF.out.at_ Tryz.underlying64 rfl (by show _ = some 4; kernel_rfl) rfl ?_
              have hres := HRS.out
              rw [hcr] at hres
              simp only at hres
              exact ⟨x, p4, o, aj, cj, rfl, by rw [← hres]; exact ⟨rfl, hne0⟩, (fun h => by omega), hol, HF.out.right.right.right⟩
            | inr qd =>
              obtain ⟨q', d⟩ := qd
              obtain ⟨hx, hq', hz⟩ := hnr
              subst hx hq' hz
              have hcr := HCR.out
              simp only at hcr
              have hd2 := HLN.out p4 d rfl
              have hd1 := HPS.out p4 d rfl
              have HGE3 := Lib.hid (show p3 ≤ p4 from HNGE.out p4 d rfl)
              clear HLN HPS HNGE HCR
              have h15 := h14.perm (star_left_comm _ _ _)
              have t0 := h14.cell 0 rfl
              have t1 := h14.cell 1 rfl
              have t2 := h14.cell 2 rfl
              have t3 := h14.cell 3 rfl
              have r0 := h15.cell 0 rfl
              have r1 := h15.cell 1 rfl
              have r2 := h15.cell 2 rfl
              have r3 := h15.cell 3 rfl
              have rf0 := h15.free 0
              have rf1 := h15.free 1
              have rf2 := h15.free 2
              have rf3 := h15.free 3
              have h16 := set4 h15 rfl (.string sb) (.int .i64 (p4 : Int)) (.slice aj o.length cj) (.int .i64 (most : Int))
              clear h14 h15
              go_upto_region 21 with (fail)
              generalize (((W7.setCell ⟨b0, 0, none⟩ (.string sb)).setCell ⟨b0, 1, none⟩ (.int .i64 (p4 : Int))).setCell ⟨b0, 2, none⟩ (.slice aj o.length cj)).setCell ⟨b0, 3, none⟩ (.int .i64 (most : Int)) = W8 at *
              clear t0 t1 t2 t3 r0 r1 r2 r3 rf0 rf1 rf2 rf3
              have h16 : St w0 W8 (blk b0 (.cells #[.string sb, .int .i64 (p4 : Int), .slice aj o.length cj, .int .i64 (most : Int)] 64) * (blk bt (.cells #[.string sb, .int .i64 (p4 : Int), .slice aj o.length cj, .int .i64 (most : Int)] 64) * (own 5 1 (.slice aj o.length cj) (o.length) (o.map bv) * (blk b1 (.cells #[.string ⟨#[]⟩, .int .i64 0, .slice none 0 0, .int .i64 0] 64) * F)))) := h16
              by_cases hdo : o.length < d
              · have hdo2 : (o.length : Int) < d := by omega
                rw [if_pos hdo] at hcr
                have hB9 := h16.perm (show _ = blk b1 (.cells #[.string ⟨#[]⟩, .int .i64 0, .slice none 0 0, .int .i64 0] 64) * (blk b0 (.cells #[.string sb, .int .i64 (p4 : Int), .slice aj o.length cj, .int .i64 (most : Int)] 64) * (blk bt (.cells #[.string sb, .int .i64 (p4 : Int), .slice aj o.length cj, .int .i64 (most : Int)] 64) * (own 5 1 (.slice aj o.length cj) (o.length) (o.map bv) * F))) by ac_rfl)
                have hS9 := hB9.perm (star_left_comm _ _ _)
                have s0 := hS9.cell 0 rfl
                have s1 := hS9.cell 1 rfl
                have s2 := hS9.cell 2 rfl
                have s3 := hS9.cell 3 rfl
                have r0 := hB9.cell 0 rfl
                have r1 := hB9.cell 1 rfl
                have r2 := hB9.cell 2 rfl
                have r3 := hB9.cell 3 rfl
                have rf0 := hB9.free 0
                have rf1 := hB9.free 1
                have rf2 := hB9.free 2
                have rf3 := hB9.free 3
                have HF := Lib.hid (set4 hB9 rfl (.string sb) (.int .i64 (p4 : Int)) (.slice aj o.length cj) (.int .i64 (most : Int)))
                clear hB9 hS9 h16
                go_wp2_with fail
                refine bodyPost_ret2c rfl rfl HF.out.at_ Tryz.underlying64 rfl (by show _ = some 4; kernel_rfl) rfl ?_
                have hres := HRS.out
                rw [hcr] at hres
                simp only at hres
                exact ⟨3, p4, o, aj, cj, rfl, by rw [← hres]; exact ⟨rfl, by decide⟩, (fun h => by cases h), hol, HF.out.right.right.right⟩
              have hdo2 : ¬ (o.length : Int) < d := by omega
              rw [if_neg hdo] at hcr
              by_cases hlim : most < o.length + n
              · have hl2 : (most : Int) < o.length + n := by omega
                rw [if_pos hlim] at hcr
                have hB9 := h16.perm (show _ = blk b1 (.cells #[.string ⟨#[]⟩, .int .i64 0, .slice none 0 0, .int .i64 0] 64) * (blk b0 (.cells #[.string sb, .int .i64 (p4 : Int), .slice aj o.length cj, .int .i64 (most : Int)] 64) * (blk bt (.cells #[.string sb, .int .i64 (p4 : Int), .slice aj o.length cj, .int .i64 (most : Int)] 64) * (own 5 1 (.slice aj o.length cj) (o.length) (o.map bv) * F))) by ac_rfl)
                have hS9 := hB9.perm (star_left_comm _ _ _)
                have s0 := hS9.cell 0 rfl
                have s1 := hS9.cell 1 rfl
                have s2 := hS9.cell 2 rfl
                have s3 := hS9.cell 3 rfl
                have r0 := hB9.cell 0 rfl
                have r1 := hB9.cell 1 rfl
                have r2 := hB9.cell 2 rfl
                have r3 := hB9.cell 3 rfl
                have rf0 := hB9.free 0
                have rf1 := hB9.free 1
                have rf2 := hB9.free 2
                have rf3 := hB9.free 3
                have HF := Lib.hid (set4 hB9 rfl (.string sb) (.int .i64 (p4 : Int)) (.slice aj o.length cj) (.int .i64 (most : Int)))
                clear hB9 hS9 h16
                go_wp2_with fail
                refine bodyPost_ret2c rfl rfl HF.out.at_ Tryz.underlying64 rfl (by show _ = some 4; kernel_rfl) rfl ?_
                have hres := HRS.out
                rw [hcr] at hres
                simp only at hres
                exact ⟨8, p4, o, aj, cj, rfl, by rw [← hres]; exact ⟨rfl, by decide⟩, (fun h => by cases h), hol, HF.out.right.right.right⟩
              have hl2 : ¬ (most : Int) < o.length + n := by omega
              rw [if_neg hlim] at hcr
              rw [hcr] at HRS
              simp only at HRS
              have c0 := h16.cell 0 rfl
              have c1 := h16.cell 1 rfl
              have c2 := h16.cell 2 rfl
              have c3 := h16.cell 3 rfl
              have H16 := Lib.hid h16; clear h16 hcr
              go_upto_region 25 with (fail)
              clear c0 c1 c2 c3
              go_wp2_with fail
              go_loopw [14] (fun vi wr => ∃ (j : Nat) (a5 : Option Addr) (c5 : Nat), j ≤ n ∧ vi = .int .i64 j ∧ St w0 wr (blk b0 (.cells #[.string sb, .int .i64 (p4 : Int), .slice a5 (copyF d j o).length c5, .int .i64 (most : Int)] 64) * (blk bt (.cells #[.string sb, .int .i64 (p4 : Int), .slice aj o.length cj, .int .i64 (most : Int)] 64) * (own 5 1 (.slice a5 (copyF d j o).length c5) ((copyF d j o).length) ((copyF d j o).map bv) * (blk b1 (.cells #[.string ⟨#[]⟩, .int .i64 0, .slice none 0 0, .int .i64 0] 64) * F))))) (fun vi _ => n - (intOf vi).toNat)
              case atStart => exact ⟨0, aj, cj, by omega, rfl, H16.out⟩
              case round =>
                clear H16
                obtain ⟨j, a5, c5, hj, rfl, hst⟩ := hrel
                by_cases hjn : j < n
                · have hcl := copyF_len d j o
                  have HSN := Lib.hid (copyF_snoc d j o)
                  generalize copyF d j o = o5 at *
                  have c2 := hst.cell 2 rfl
                  have hst2 := hst.perm (show _ = own 5 1 (.slice a5 o5.length c5) (o5.length) (o5.map bv) * (blk b0 (.cells #[.string sb, .int .i64 (p4 : Int), .slice a5 o5.length c5, .int .i64 (most : Int)] 64) * (blk bt (.cells #[.string sb, .int .i64 (p4 : Int), .slice aj o.length cj, .int .i64 (most : Int)] 64) * (blk b1 (.cells #[.string ⟨#[]⟩, .int .i64 0, .slice none 0 0, .int .i64 0] 64) * F))) by ac_rfl)
                  obtain ⟨go, rfl⟩ := own_at hst2 (by omega)
                  have hbc := hst2.own_cell (bv_cell o5 (i := o5.length - d) (by omega))
                  have hjj : (j : Int) < n := by omega
                  have hL5 : StL w0 wr [own 5 1 (.slice (some ⟨go, 0, none⟩) o5.length c5) (o5.length) (o5.map bv), blk b0 (.cells #[.string sb, .int .i64 (p4 : Int), .slice (some ⟨go, 0, none⟩) o5.length c5, .int .i64 (most : Int)] 64), blk bt (.cells #[.string sb, .int .i64 (p4 : Int), .slice aj o.length cj, .int .i64 (most : Int)] 64) * (blk b1 (.cells #[.string ⟨#[]⟩, .int .i64 0, .slice none 0 0, .int .i64 0] 64) * F)] := hst2.perm (by simp only [prodL]; rw [star_comm _ emp, emp_star])
                  have HL5 := Lib.hid hL5; clear hL5 hst hst2
                  generalize o5.getD (o5.length - d) 0 = ch at *
                  have hsub : IntKind.i64.wrap ((o5.length - d : Nat) : Int) = ((o5.length - d : Nat) : Int) := IntWalk.i64_in _ (by omega)
                  have hod0 : 0 ≤ (((o5.length - d : Nat) : Nat) : Int) := by omega
                  have hod1 : ((o5.length - d : Nat) : Int) < o5.length := by omega
                  have holen : o5.length ≤ 10000000000000 := by omega
                  have hsub2 : ((o5.length : Int) - d) = ((o5.length - d : Nat) : Int) := by omega
                  have HCL := Lib.hid hcl; clear hcl
                  have hlt9 : o5.length - d < o5.length := by omega
                  generalize o5.length - d = od at *
                  simp only [bv] at hbc
                  go_upto_region 29 with (fail)
                  refine wp_region_noPanic ?_
                  refine region_till (S := fun w' : World => w'.cell? ⟨b0, 2, none⟩ = some (.slice (some ⟨go, 0, none⟩) o5.length c5)) (k := 9) (by kernel_rfl) ?_
                  have hS : (fun w' : World => w'.cell? ⟨b0, 2, none⟩ = some (.slice (some ⟨go, 0, none⟩) o5.length c5)) wr.drew := c2
                  refine till_take0 (i := 0) (oi := ?_) (v := ?_) ?_ (by kernel_rfl) (by kernel_rfl) (by kernel_rfl) (by decide) (fun _ _ _ h => h.elim) (by assumption) (.inl ⟨?_, fun w => ?_⟩) ?_
                  rotate_left 2
                  · (simp only [List.getElem?_toArray, List.getElem?_cons_succ, List.getElem?_cons_zero]; rfl)
                  · rfl
                  · (go_simp; try with_reducible rfl)
                  simp only [Act.put, List.setIfInBounds_toArray, List.set_cons_zero, List.set_cons_succ]
                  refine till_take (i := 1) (oi := ?_) (v := ?_) ?_ (by kernel_rfl) (by kernel_rfl) (by kernel_rfl) (by kernel_rfl) (by kernel_rfl) (fun _ _ _ h => h.elim) (by assumption) (.inl ⟨?_, fun w hSw => ?_⟩) ?_
                  rotate_left 2
                  · (simp only [List.getElem?_toArray, List.getElem?_cons_succ, List.getElem?_cons_zero]; rfl)
                  · rfl
                  · ((try dsimp only at hSw); go_simp; try with_reducible rfl)
                  simp only [Act.put, List.setIfInBounds_toArray, List.set_cons_zero, List.set_cons_succ]
                  refine till_take0 (i := 2) (oi := ?_) (v := ?_) ?_ (by kernel_rfl) (by kernel_rfl) (by kernel_rfl) (by decide) (fun _ _ _ h => h.elim) (by assumption) (.inl ⟨?_, fun w => ?_⟩) ?_
                  rotate_left 2
                  · (simp only [List.getElem?_toArray, List.getElem?_cons_succ, List.getElem?_cons_zero]; rfl)
                  · rfl
                  · (go_simp; try with_reducible rfl)
                  simp only [Act.put, List.setIfInBounds_toArray, List.set_cons_zero, List.set_cons_succ]
                  refine till_take (i := 3) (oi := ?_) (v := ?_) ?_ (by kernel_rfl) (by kernel_rfl) (by kernel_rfl) (by kernel_rfl) (by kernel_rfl) (fun _ _ _ h => h.elim) (by assumption) (.inl ⟨?_, fun w hSw => ?_⟩) ?_
                  rotate_left 2
                  · (simp only [List.getElem?_toArray, List.getElem?_cons_succ, List.getElem?_cons_zero]; rfl)
                  · rfl
                  · ((try dsimp only at hSw); go_simp; try with_reducible rfl)
                  simp only [Act.put, List.setIfInBounds_toArray, List.set_cons_zero, List.set_cons_succ]
                  refine till_take0 (i := 4) (oi := ?_) (v := ?_) ?_ (by kernel_rfl) (by kernel_rfl) (by kernel_rfl) (by decide) (fun _ _ _ h => h.elim) (by assumption) (.inl ⟨?_, fun w => ?_⟩) ?_
                  rotate_left 2
                  · (simp only [List.getElem?_toArray, List.getElem?_cons_succ, List.getElem?_cons_zero]; rfl)
                  · rfl
                  · (go_simp; try with_reducible rfl)
                  simp only [Act.put, List.setIfInBounds_toArray, List.set_cons_zero, List.set_cons_succ]
                  refine till_take0 (i := 5) (oi := ?_) (v := ?_) ?_ (by kernel_rfl) (by kernel_rfl) (by kernel_rfl) (by decide) (fun _ _ _ h => h.elim) (by assumption) (.inl ⟨?_, fun w => ?_⟩) ?_
                  rotate_left 2
                  · (simp only [List.getElem?_toArray, List.getElem?_cons_succ, List.getElem?_cons_zero]; rfl)
                  · rfl
                  · (go_simp; try with_reducible rfl)
                  simp only [Act.put, List.setIfInBounds_toArray, List.set_cons_zero, List.set_cons_succ]
                  refine till_one (i := 6) (by kernel_rfl) ?_
                  refine wpOp_step (by rfl) fun K hK => ?_
                  go_simp
                  refine hK _ _ ⟨fun e => hS, ?_⟩
                  clear hK K
                  refine till_one (i := 7) (by kernel_rfl) ?_
                  refine wpOp_step (by rfl) fun K hK => ?_
                  go_simp
                  have hL6 := (HL5.out.alloc rfl (.cells #[.int .u8 (ch.toNat : Int)] 5)).drew
                  simp only [List.cons_append, List.nil_append] at hL6
                  have c6 := hL6.cell (i := 1) rfl 2 rfl
                  refine hK _ _ ⟨fun e => c6, ?_⟩
                  clear hK K hS c2 hbc
                  generalize hB6 : wr.heap.size = b6 at *
                  generalize hW6 : (wr.alloc (Obj.cells #[Value.int .u8 (ch.toNat : Int)] 5)).drew = W9 at *
                  clear hB6 hW6
                  refine till_one (i := 8) (by kernel_rfl) ?_
                  refine wpOp_step (by rfl) fun K hK => ?_
                  refine step_append_L elemBytes rfl _ _ rfl rfl hL6 0 rfl (x := .slice (some ⟨b6, 0, none⟩) 1 1) rfl (m := 1) (news := [bv ch]) (hL6.one (i := 3) rfl) (by intro u hu; simp at hu; subst hu; rfl) (by unfold maxLen; omega) (by omega) fun v' W10 h7 _ => ?_
                  have c7 := h7.cell (i := 1) rfl 2 rfl
                  refine hK _ _ ⟨fun e => c7, ?_⟩
                  clear hK K
                  simp only [List.set_cons_zero] at h7
                  simp only [Act.put, List.setIfInBounds_toArray, List.set_cons_zero, List.set_cons_succ]
                  refine till_one (i := 9) (by kernel_rfl) ?_
                  refine wpOp_step (by rfl) fun K hK => ?_
                  go_simp
                  refine hK _ _ ⟨fun e => (by cases e), ?_⟩
                  clear hK K
                  obtain ⟨a7, c7', rfl⟩ := (h7.reads (i := 0) rfl).sub
                  have e0 := h7.cell (i := 1) rfl 2 rfl
                  have f0 := h7.free (i := 1) rfl 2
                  have h8 := h7.set (i := 1) rfl 2 (.slice a7 (o5.length + 1 : Nat) c7')
                  refine till_one (i := 10) (by kernel_rfl) ?_
                  refine wpOp_step (by rfl) fun K hK => ?_
                  go_simp
                  refine hK _ _ ⟨fun e => (by cases e), ?_⟩
                  clear hK K e0 f0
                  refine ⟨by kernel_rfl, NoPanic.normal ?_⟩
                  simp only [List.set_cons_zero, List.set_cons_succ, List.setIfInBounds_toArray] at h8
                  generalize W10.setCell ⟨b0, 2, none⟩ (.slice a7 (o5.length + 1 : Nat) c7') = W11 at *
                  have h9 : St w0 W11 (blk b0 (.cells #[.string sb, .int .i64 (p4 : Int), .slice a7 (o5 ++ [ch]).length c7', .int .i64 (most : Int)] 64) * (blk bt (.cells #[.string sb, .int .i64 (p4 : Int), .slice aj o.length cj, .int .i64 (most : Int)] 64) * (own 5 1 (.slice a7 (o5 ++ [ch]).length c7') (o5 ++ [ch]).length ((o5 ++ [ch]).map bv) * (blk b1 (.cells #[.string ⟨#[]⟩, .int .i64 0, .slice none 0 0, .int .i64 0] 64) * F)))) := by
                    have e1 : (o5 ++ [ch]).length = o5.length + 1 := by simp
                    have e2 : (o5 ++ [ch]).map bv = o5.map bv ++ [bv ch] := by simp
                    rw [e1, e2]
                    have h10 : St w0 W11 (own 5 1 (.slice a7 (o5.length + 1) c7') (o5.length + 1) (o5.map bv ++ [bv ch]) * (blk b0 (.cells #[.string sb, .int .i64 (p4 : Int), .slice a7 (o5.length + 1) c7', .int .i64 (most : Int)] 64) * ((blk bt (.cells #[.string sb, .int .i64 (p4 : Int), .slice aj o.length cj, .int .i64 (most : Int)] 64) * (blk b1 (.cells #[.string ⟨#[]⟩, .int .i64 0, .slice none 0 0, .int .i64 0] 64) * F)) * (blk b6 (.cells #[.int .u8 (ch.toNat : Int)] 5) * emp)))) := h8
                    have h11 := h10.perm (show _ = blk b6 (.cells #[.int .u8 (ch.toNat : Int)] 5) * (emp * (blk b0 (.cells #[.string sb, .int .i64 (p4 : Int), .slice a7 (o5.length + 1) c7', .int .i64 (most : Int)] 64) * (blk bt (.cells #[.string sb, .int .i64 (p4 : Int), .slice aj o.length cj, .int .i64 (most : Int)] 64) * (own 5 1 (.slice a7 (o5.length + 1) c7') (o5.length + 1) (o5.map bv ++ [bv ch]) * (blk b1 (.cells #[.string ⟨#[]⟩, .int .i64 0, .slice none 0 0, .int .i64 0] 64) * F))))) by ac_rfl)
                    exact h11.right.right
                  rw [← HSN.out] at h9
                  have H9 := Lib.hid h9; clear h9 h8 h7 hL6 c6 c7
                  go_wp2_with fail
                  exact ⟨⟨j + 1, a7, c7', by omega, by go_num, H9.out⟩, by simp [intOf]; omega⟩
                · obtain rfl : j = n := by omega
                  have hcl := copyF_len d j o
                  have H17 := Lib.hid (hst.perm (show _ = blk bt (.cells #[.string sb, .int .i64 (p4 : Int), .slice aj o.length cj, .int .i64 (most : Int)] 64) * (blk b0 (.cells #[.string sb, .int .i64 (p4 : Int), .slice a5 (copyF d j o).length c5, .int .i64 (most : Int)] 64) * (own 5 1 (.slice a5 (copyF d j o).length c5) ((copyF d j o).length) ((copyF d j o).map bv) * (blk b1 (.cells #[.string ⟨#[]⟩, .int .i64 0, .slice none 0 0, .int .i64 0] 64) * F))) by ac_rfl)).right; clear hst
                  go_wp2_with fail
                  go_roundg g
                  case measure => omega
                  case rel => exact ⟨p4, copyF d j o, a5, c5, by have := HG.out; have := HQ1.out; have := HGE1.out; have := HGE2.out; have := HGE3.out; omega, by omega, HRS.out, HP4.out, H17.out⟩
end Go.Proofs.YtddifndfppilkaaGreat

namespace Go.Proofs.YtddifndfppilkaaGreat
open Go.RowKit Go.Mz
set_option linter.unusedVariables false
set_option linter.unusedSimpArgs false
set_option maxRecDepth 100000

theorem wordsF_bit {l : List Nat} {how : Nat} {W : List (List Nat)} (h : wordsF l how = .inr W) : ∀ v ∈ W, Bit v := by
  rw [wordsF] at h
  split at h
  · cases h
  · split at h
    · cases h
    · rename_i h0 _
      rcases canon_casesQ (l.map fun (n : Nat) => (n : Int)) with ⟨h1, _⟩ | ⟨l', h1, _, _, h2⟩
      · exact absurd h1 h0
      · rw [h2] at h
        have := Sum.inr.inj h
        rw [← this]
        exact bit_wordsC l'
theorem rsmall3 {t : List Nat} (ht : Bit t) (p : Nat) : vl t p 3 ≤ 7 := by
  have : vl t p 3 < 2 ^ 3 := numV_lt true (fun i => t.getD (p + i) 0) (fun i => ht.getD _) 3
  have : vl t p 3 < 8 := this
  omega

set_option maxHeartbeats 80000000 in
theorem rdynamic_any {w0 w : World} {F : SProp} {t : List Nat} (ht : Bit t) (hl : t.length ≤ 1000000000) {p : Nat} (hp : p ≤ t.length) {out : List UInt8} {most : Nat} (hom : out.length ≤ most) (hm : most ≤ 10000000000000) {ao : Option Addr} {co : Nat} (h : St w0 w (own 5 1 (.slice ao out.length co) (out.length) (out.map bv) * F)) {sb : ByteArray} (hsb : sb = ⟨(tx t).toArray⟩) :
    Calls Tryz.prog 37 #[.agg (rstC sb p (.slice ao out.length co) most)] w fun e w' => ∃ (x p' : Nat) (out' : List UInt8) (ao' : Option Addr) (co' : Nat),
      e = .returned (.tuple #[.agg (rstC sb p' (.slice ao' out'.length co') most), .int .i64 (x : Nat)]) ∧ ResR (dynamicF t most p out) x p' out' ∧ (x = 0 → p' ≤ t.length) ∧ out'.length ≤ most ∧ St w0 w' (own 5 1 (.slice ao' out'.length co') out'.length (out'.map bv) * F) := by
  have T := elemI
  have h1 := (h.alloc (.cells (rstC sb p (.slice ao out.length co) most) 64)).alloc (.cells rst0 64)
  have hsz : (w.alloc (.cells (rstC sb p (.slice ao out.length co) most) 64)).heap.size = w.heap.size + 1 := by
    show (w.heap.push _).size = _
    exact Array.size_push _
  rw [hsz] at h1
  have HNUM := Lib.hid (fun (w : World) (G : SProp) (h : St w0 w G) (q : Nat) (hq : q ≤ t.length) (n : Nat) (hn : n ≤ 31) => rnum_any h ht hl hq n hn (ao := ao) (no := out.length) (co := co) (most := (most : Int)) hsb (j := (n : Int)) rfl)
  have HLNG := Lib.hid (fun (w : World) (G : SProp) (h : St w0 w G) (q : Nat) (hq : q ≤ t.length) (W : List (List Nat)) (hb : ∀ v ∈ W, Bit v) (hW : W.length ≤ 19) (vw : Value) (hv : Stb w0 G (fun w => Reads w 1 vw W.length (W.map txv))) (n : Nat) (hn : n ≤ 100000) => rlengths_any h ht hl hq hb hW hv n hn (ao := ao) (no := out.length) (co := co) (most := (most : Int)) hsb)
  have HBLK := Lib.hid (fun (w : World) (G : SProp) (q : Nat) (hq : q ≤ t.length) (A B : List (List Nat)) (hbA : ∀ v ∈ A, Bit v) (hbB : ∀ v ∈ B, Bit v) (hA : A.length ≤ 900) (hB : B.length ≤ 900) (h : St w0 w (own 5 1 (.slice ao out.length co) (out.length) (out.map bv) * G)) (va vb : Value) (hva : Stb w0 G (fun w => Reads w 1 va A.length (A.map txv))) (hvb : Stb w0 G (fun w => Reads w 1 vb B.length (B.map txv))) => rblock_any ht hl hq hbA hbB hA hB hom hm h hva hvb hsb)
  have hsbl : sb.size = t.length := by rw [hsb, Lib.size_eq]; simp
  have HR := Lib.hid (show dynamicF t most p out = (if t.length < p + 14 then .inl 2 else
      if 286 < vl t p 5 + 257 ∨ 30 < vl t (p + 5) 5 + 1 then .inl 3 else
      match metaF t (orderL.take (vl t (p + 10) 4 + 4)) (p + 14) (List.replicate 19 0) with
      | .inl e => .inl e
      | .inr (q, lens) =>
        match wordsF lens 0 with
        | .inl e => .inl e
        | .inr W =>
          match lengthsF t W (vl t p 5 + 257 + (vl t (p + 5) 5 + 1)) (vl t p 5 + 257 + (vl t (p + 5) 5 + 1) + 1) [] q with
          | .inl e => .inl e
          | .inr (q', all) => if all.getD 256 0 = 0 then .inl 3 else blockL t (all.take (vl t p 5 + 257)) (all.drop (vl t p 5 + 257)) 1 most q' out) from rfl)
  unfold rstC rst0 at h1
  clear h hsz hsb
  have H1 := Lib.hid h1; clear h1
  unfold rstC at HNUM HLNG HBLK ⊢
  go_enter Tryz.func37, Tryz.ntmps37
  go_upto_region 1 with (fail)
  have h1 := H1.out
  clear H1
  generalize hb0 : w.heap.size = b0 at *
  generalize hb1 : b0 + 1 = b1 at *
  generalize hWW : (w.alloc (.cells #[.string sb, .int .i64 (p : Int), .slice ao out.length co, .int .i64 (most : Int)] 64)).alloc (.cells #[.string ⟨#[]⟩, .int .i64 0, .slice none 0 0, .int .i64 0] 64) = Ww at *
  have hne : ¬ b0 = b1 := by omega
  have hne' : ¬ b1 = b0 := by omega
  clear hb0 hb1 hWW
  have h2 := h1.perm (show _ = blk b0 (.cells #[.string sb, .int .i64 (p : Int), .slice ao out.length co, .int .i64 (most : Int)] 64) * (own 5 1 (.slice ao out.length co) (out.length) (out.map bv) * (blk b1 (.cells #[.string ⟨#[]⟩, .int .i64 0, .slice none 0 0, .int .i64 0] 64) * F)) by ac_rfl)
  clear h1
  have c0 := h2.cell 0 rfl
  have c1 := h2.cell 1 rfl
  have c2 := h2.cell 2 rfl
  have c3 := h2.cell 3 rfl
  by_cases hcut : t.length < p + 14
  · have hc2 : (t.length : Int) < (p : Int) + 14 := by omega
    rw [if_pos hcut] at HR
    have hB9 := h2.perm (show _ = blk b1 (.cells #[.string ⟨#[]⟩, .int .i64 0, .slice none 0 0, .int .i64 0] 64) * (blk b0 (.cells #[.string sb, .int .i64 (p : Int), .slice ao out.length co, .int .i64 (most : Int)] 64) * (own 5 1 (.slice ao out.length co) (out.length) (out.map bv) * F)) by ac_rfl)
    have hS9 := hB9.perm (star_left_comm _ _ _)
    have s0 := hS9.cell 0 rfl
    have s1 := hS9.cell 1 rfl
    have s2 := hS9.cell 2 rfl
    have s3 := hS9.cell 3 rfl
    have r0 := hB9.cell 0 rfl
    have r1 := hB9.cell 1 rfl
    have r2 := hB9.cell 2 rfl
    have r3 := hB9.cell 3 rfl
    have rf0 := hB9.free 0
    have rf1 := hB9.free 1
    have rf2 := hB9.free 2
    have rf3 := hB9.free 3
    have HF := Lib.hid (set4 hB9 rfl (.string sb) (.int .i64 (p : Int)) (.slice ao out.length co) (.int .i64 (most : Int)))
    clear hB9 hS9 h2
    go_wp2_with fail
    refine bodyPost_ret2c rfl rfl HF.out.at_ Tryz.underlying64 rfl (by show _ = some 4; kernel_rfl) rfl ?_
    exact ⟨2, p, out, ao, co, rfl, by rw [HR.out]; exact ⟨rfl, by decide⟩, (fun h => by cases h), hom, HF.out.right.right⟩
  have hc2 : ¬ (t.length : Int) < (p : Int) + 14 := by omega
  rw [if_neg hcut] at HR
  obtain ⟨q1, hq1⟩ : ∃ q1, q1 = p + 5 := ⟨_, rfl⟩
  obtain ⟨q2, hq2⟩ : ∃ q2, q2 = q1 + 5 := ⟨_, rfl⟩
  obtain ⟨q3, hq3⟩ : ∃ q3, q3 = q2 + 4 := ⟨_, rfl⟩
  rw [← hq1, show p + 10 = q2 by omega, show p + 14 = q3 by omega] at HR
  have HQ3L := Lib.hid (show q3 ≤ t.length by omega)
  have HQ2L := Lib.hid (show q2 ≤ t.length by omega)
  have HQ1L := Lib.hid (show q1 ≤ t.length by omega)
  have C1 := HNUM.out Ww _ h2 p hp 5 (by omega)
  rw [if_neg (by omega), if_neg (by omega), if_neg (by omega), ← hq1] at C1
  have hv1 : vl t p 5 < 2 ^ 5 := numV_lt true (fun i => t.getD (p + i) 0) (fun i => ht.getD _) 5
  have hv2 : vl t q1 5 < 2 ^ 5 := numV_lt true (fun i => t.getD (q1 + i) 0) (fun i => ht.getD _) 5
  have hv3 : vl t q2 4 < 2 ^ 4 := numV_lt true (fun i => t.getD (q2 + i) 0) (fun i => ht.getD _) 4
  have C2 := Lib.hid (fun (w : World) (G : SProp) (h : St w0 w G) => (by have C := HNUM.out w _ h q1 HQ1L.out 5 (by omega); rw [if_neg (by omega), if_neg (by omega), if_neg (by omega), ← hq2] at C; exact C :
    Calls Tryz.prog 32 #[.agg #[.string sb, .int .i64 (q1 : Int), .slice ao out.length co, .int .i64 (most : Int)], .int .i64 5] w fun e w' =>
      e = .returned (.tuple #[.agg #[.string sb, .int .i64 (q2 : Int), .slice ao out.length co, .int .i64 (most : Int)], .int .i64 (vl t q1 5 : Nat), .int .i64 (0 : Nat)]) ∧ St w0 w' G))
  have C3 := Lib.hid (fun (w : World) (G : SProp) (h : St w0 w G) => (by have C := HNUM.out w _ h q2 HQ2L.out 4 (by omega); rw [if_neg (by omega), if_neg (by omega), if_neg (by omega), ← hq3] at C; exact C :
    Calls Tryz.prog 32 #[.agg #[.string sb, .int .i64 (q2 : Int), .slice ao out.length co, .int .i64 (most : Int)], .int .i64 4] w fun e w' =>
      e = .returned (.tuple #[.agg #[.string sb, .int .i64 (q3 : Int), .slice ao out.length co, .int .i64 (most : Int)], .int .i64 (vl t q2 4 : Nat), .int .i64 (0 : Nat)]) ∧ St w0 w' G))
  generalize vl t p 5 = v1 at *
  generalize vl t q1 5 = v2 at *
  generalize vl t q2 4 = v3 at *
  have hw1 : (v1 : Int) + 257 = ((v1 + 257 : Nat) : Int) := by omega
  have hw2 : (v2 : Int) + 1 = ((v2 + 1 : Nat) : Int) := by omega
  have hw3 : (v3 : Int) + 4 = ((v3 + 4 : Nat) : Int) := by omega
  have hv1 : v1 < 32 := hv1
  have hv2 : v2 < 32 := hv2
  have hv3 : v3 < 16 := hv3
  have hlit : 257 ≤ v1 + 257 ∧ v1 + 257 ≤ 288 := by omega
  have hdis : 1 ≤ v2 + 1 ∧ v2 + 1 ≤ 32 := by omega
  have hmt : 4 ≤ v3 + 4 ∧ v3 + 4 ≤ 19 := by omega
  generalize v1 + 257 = lits at *
  generalize v2 + 1 = dists at *
  generalize v3 + 4 = mt at *
  have HC1 := Lib.hid C1; clear C1 h2 hq1 hq2 hq3 hcut
  go_wp2_with fail
  refine HC1.out.mono ?_
  rintro e w3 ⟨rfl, h3⟩
  have d0 := h3.cell 0 rfl
  have d1 := h3.cell 1 rfl
  have d2 := h3.cell 2 rfl
  have d3 := h3.cell 3 rfl
  have df0 := h3.free 0
  have df1 := h3.free 1
  have df2 := h3.free 2
  have df3 := h3.free 3
  have h4 := set4 h3 rfl (.string sb) (.int .i64 (q1 : Int)) (.slice ao out.length co) (.int .i64 (most : Int))
  clear h3 HC1
  go_upto_region 4 with (fail)
  generalize (((w3.setCell ⟨b0, 0, none⟩ (.string sb)).setCell ⟨b0, 1, none⟩ (.int .i64 (q1 : Int))).setCell ⟨b0, 2, none⟩ (.slice ao out.length co)).setCell ⟨b0, 3, none⟩ (.int .i64 (most : Int)) = W3 at *
  clear c0 c1 c2 c3 d0 d1 d2 d3 df0 df1 df2 df3
  have h4 : St w0 W3 (blk b0 (.cells #[.string sb, .int .i64 (q1 : Int), .slice ao out.length co, .int .i64 (most : Int)] 64) * (own 5 1 (.slice ao out.length co) (out.length) (out.map bv) * (blk b1 (.cells #[.string ⟨#[]⟩, .int .i64 0, .slice none 0 0, .int .i64 0] 64) * F))) := h4
  have c0 := h4.cell 0 rfl
  have c1 := h4.cell 1 rfl
  have c2 := h4.cell 2 rfl
  have c3 := h4.cell 3 rfl
  have HC2 := Lib.hid (C2.out W3 _ h4); clear h4 C2
  go_wp2_with fail
  refine HC2.out.mono ?_
  rintro e w4 ⟨rfl, h3⟩
  have d0 := h3.cell 0 rfl
  have d1 := h3.cell 1 rfl
  have d2 := h3.cell 2 rfl
  have d3 := h3.cell 3 rfl
  have df0 := h3.free 0
  have df1 := h3.free 1
  have df2 := h3.free 2
  have df3 := h3.free 3
  have h4 := set4 h3 rfl (.string sb) (.int .i64 (q2 : Int)) (.slice ao out.length co) (.int .i64 (most : Int))
  clear h3 HC2
  go_upto_region 5 with (fail)
  generalize (((w4.setCell ⟨b0, 0, none⟩ (.string sb)).setCell ⟨b0, 1, none⟩ (.int .i64 (q2 : Int))).setCell ⟨b0, 2, none⟩ (.slice ao out.length co)).setCell ⟨b0, 3, none⟩ (.int .i64 (most : Int)) = W4 at *
  clear c0 c1 c2 c3 d0 d1 d2 d3 df0 df1 df2 df3
  have h4 : St w0 W4 (blk b0 (.cells #[.string sb, .int .i64 (q2 : Int), .slice ao out.length co, .int .i64 (most : Int)] 64) * (own 5 1 (.slice ao out.length co) (out.length) (out.map bv) * (blk b1 (.cells #[.string ⟨#[]⟩, .int .i64 0, .slice none 0 0, .int .i64 0] 64) * F))) := h4
  have c0 := h4.cell 0 rfl
  have c1 := h4.cell 1 rfl
  have c2 := h4.cell 2 rfl
  have c3 := h4.cell 3 rfl
  have HC3 := Lib.hid (C3.out W4 _ h4); clear h4 C3
  go_wp2_with fail
  refine HC3.out.mono ?_
  rintro e w5 ⟨rfl, h3⟩
  have d0 := h3.cell 0 rfl
  have d1 := h3.cell 1 rfl
  have d2 := h3.cell 2 rfl
  have d3 := h3.cell 3 rfl
  have df0 := h3.free 0
  have df1 := h3.free 1
  have df2 := h3.free 2
  have df3 := h3.free 3
  have h4 := set4 h3 rfl (.string sb) (.int .i64 (q3 : Int)) (.slice ao out.length co) (.int .i64 (most : Int))
  clear h3 HC3
  go_upto_region 7 with (fail)
  generalize (((w5.setCell ⟨b0, 0, none⟩ (.string sb)).setCell ⟨b0, 1, none⟩ (.int .i64 (q3 : Int))).setCell ⟨b0, 2, none⟩ (.slice ao out.length co)).setCell ⟨b0, 3, none⟩ (.int .i64 (most : Int)) = W5 at *
  clear c0 c1 c2 c3 d0 d1 d2 d3 df0 df1 df2 df3
  have h4 : St w0 W5 (blk b0 (.cells #[.string sb, .int .i64 (q3 : Int), .slice ao out.length co, .int .i64 (most : Int)] 64) * (own 5 1 (.slice ao out.length co) (out.length) (out.map bv) * (blk b1 (.cells #[.string ⟨#[]⟩, .int .i64 0, .slice none 0 0, .int .i64 0] 64) * F))) := h4
  clear hv1 hv2 hv3
  by_cases hbad : 286 < lits ∨ 30 < dists
  · rw [if_pos hbad] at HR
    by_cases hb1' : 286 < lits
    · have hb2' : 286 < (lits : Int) := by omega
      have hB9 := h4.perm (show _ = blk b1 (.cells #[.string ⟨#[]⟩, .int .i64 0, .slice none 0 0, .int .i64 0] 64) * (blk b0 (.cells #[.string sb, .int .i64 (q3 : Int), .slice ao out.length co, .int .i64 (most : Int)] 64) * (own 5 1 (.slice ao out.length co) (out.length) (out.map bv) * F)) by ac_rfl)
      have hS9 := hB9.perm (star_left_comm _ _ _)
      have s0 := hS9.cell 0 rfl
      have s1 := hS9.cell 1 rfl
      have s2 := hS9.cell 2 rfl
      have s3 := hS9.cell 3 rfl
      have r0 := hB9.cell 0 rfl
      have r1 := hB9.cell 1 rfl
      have r2 := hB9.cell 2 rfl
      have r3 := hB9.cell 3 rfl
      have rf0 := hB9.free 0
      have rf1 := hB9.free 1
      have rf2 := hB9.free 2
      have rf3 := hB9.free 3
      have HF := Lib.hid (set4 hB9 rfl (.string sb) (.int .i64 (q3 : Int)) (.slice ao out.length co) (.int .i64 (most : Int)))
      clear hB9 hS9 h4
      go_wp2_with fail
      refine bodyPost_ret2c rfl rfl HF.out.at_ Tryz.underlying64 rfl (by show _ = some 4; kernel_rfl) rfl ?_
      exact ⟨3, q3, out, ao, co, rfl, by rw [HR.out]; exact ⟨rfl, by decide⟩, (fun h => by cases h), hom, HF.out.right.right⟩
    · have hb2' : ¬ 286 < (lits : Int) := by omega
      have hb3' : 30 < (dists : Int) := by omega
      have hB9 := h4.perm (show _ = blk b1 (.cells #[.string ⟨#[]⟩, .int .i64 0, .slice none 0 0, .int .i64 0] 64) * (blk b0 (.cells #[.string sb, .int .i64 (q3 : Int), .slice ao out.length co, .int .i64 (most : Int)] 64) * (own 5 1 (.slice ao out.length co) (out.length) (out.map bv) * F)) by ac_rfl)
      have hS9 := hB9.perm (star_left_comm _ _ _)
      have s0 := hS9.cell 0 rfl
      have s1 := hS9.cell 1 rfl
      have s2 := hS9.cell 2 rfl
      have s3 := hS9.cell 3 rfl
      have r0 := hB9.cell 0 rfl
      have r1 := hB9.cell 1 rfl
      have r2 := hB9.cell 2 rfl
      have r3 := hB9.cell 3 rfl
      have rf0 := hB9.free 0
      have rf1 := hB9.free 1
      have rf2 := hB9.free 2
      have rf3 := hB9.free 3
      have HF := Lib.hid (set4 hB9 rfl (.string sb) (.int .i64 (q3 : Int)) (.slice ao out.length co) (.int .i64 (most : Int)))
      clear hB9 hS9 h4
      go_wp2_with fail
      refine bodyPost_ret2c rfl rfl HF.out.at_ Tryz.underlying64 rfl (by show _ = some 4; kernel_rfl) rfl ?_
      exact ⟨3, q3, out, ao, co, rfl, by rw [HR.out]; exact ⟨rfl, by decide⟩, (fun h => by cases h), hom, HF.out.right.right⟩
  rw [if_neg hbad] at HR
  have hb2' : ¬ 286 < (lits : Int) := by omega
  have hb3' : ¬ 30 < (dists : Int) := by omega
  have H4 := Lib.hid h4; clear h4
  go_wp2_with (at_make; apply stop)
  refine on (wpList_make_sep T rfl _ _ rfl 19 rfl rfl rfl rfl H4.out (by decide) (by decide) ?_)
  intro v6 w6 h6
  have h6' : St w0 w6 (own 3 1 v6 19 (nvs (List.replicate 19 0)) * (blk b0 (.cells #[.string sb, .int .i64 (q3 : Int), .slice ao out.length co, .int .i64 (most : Int)] 64) * (own 5 1 (.slice ao out.length co) (out.length) (out.map bv) * (blk b1 (.cells #[.string ⟨#[]⟩, .int .i64 0, .slice none 0 0, .int .i64 0] 64) * F)))) := by
    have e : (madeCells (iv 0).cells (19 * 1)).toList = nvs (List.replicate 19 0) := by
      rw [Nat.mul_one]; simp [iv, Value.cells, toList_madeCells_one, nvs]; rfl
    rw [← e]; exact h6
  obtain ⟨a6, c6, rfl⟩ := h6'.reads.sub
  obtain ⟨g6, rfl⟩ := own_at h6' (by omega)
  have H6 := Lib.hid (h6'.perm (show _ = blk b0 (.cells #[.string sb, .int .i64 (q3 : Int), .slice ao out.length co, .int .i64 (most : Int)] 64) * (own 3 1 (.slice (some ⟨g6, 0, none⟩) 19 c6) 19 (nvs (List.replicate 19 0)) * (own 5 1 (.slice ao out.length co) (out.length) (out.map bv) * (blk b1 (.cells #[.string ⟨#[]⟩, .int .i64 0, .slice none 0 0, .int .i64 0] 64) * F))) by ac_rfl)); clear h6 h6' H4
  go_wp2_with fail
  obtain ⟨RM, hRM⟩ : ∃ RM, metaF t (orderL.take mt) q3 (List.replicate 19 0) = RM := ⟨_, rfl⟩
  rw [hRM] at HR
  have HRM := Lib.hid hRM; clear hRM
  have hotl : (orderL.take mt).length = mt := by rw [List.length_take]; exact Nat.min_eq_left hmt.2
  have HOT := Lib.hid hotl; clear hotl
  go_loopw [11] (fun vi wr => ∃ (j q : Nat) (lens : List Nat), j ≤ mt ∧ vi = .int .i64 j ∧ lens.length = 19 ∧ (∀ x ∈ lens, x ≤ 7) ∧ metaF t ((orderL.take mt).drop j) q lens = RM ∧ q ≤ t.length ∧
    St w0 wr (blk b0 (.cells #[.string sb, .int .i64 (q : Int), .slice ao out.length co, .int .i64 (most : Int)] 64) * (own 3 1 (.slice (some ⟨g6, 0, none⟩) 19 c6) 19 (nvs lens) * (own 5 1 (.slice ao out.length co) (out.length) (out.map bv) * (blk b1 (.cells #[.string ⟨#[]⟩, .int .i64 0, .slice none 0 0, .int .i64 0] 64) * F))))) (fun vi _ => mt - (intOf vi).toNat)
  case atStart => exact ⟨0, q3, List.replicate 19 0, by omega, rfl, by simp, (fun x hx => by rw [List.mem_replicate] at hx; omega), HRM.out, HQ3L.out, H6.out⟩
  case round =>
    clear H6 HRM HQ3L HQ2L HQ1L
    obtain ⟨j, q, lens, hj, rfl, hll, hl7, hmeta, hq, hst⟩ := hrel
    have c0 := hst.cell 0 rfl
    have c1 := hst.cell 1 rfl
    have c2 := hst.cell 2 rfl
    have c3 := hst.cell 3 rfl
    by_cases hjm : j < mt
    · have hjm2 : (j : Int) < mt := by omega
      have hj19 : j < 19 := by omega
      have hjo : j < orderL.length := hj19
      have hx := List.getElem?_eq_getElem hjo
      have hdrop : (orderL.take mt).drop j = orderL[j] :: (orderL.take mt).drop (j + 1) := by
        rw [List.drop_eq_getElem_cons (by rw [HOT.out]; exact hjm), List.getElem_take]
      have hoc : (nvs orderL)[j]? = some (.int .i64 (orderL[j] : Nat)) := by rw [nvs, List.getElem?_map, hx]; rfl
      have hol := orderL_lt orderL[j] (List.getElem_mem _)
      rw [hdrop, metaF] at hmeta
      generalize orderL[j] = oi at *
      clear hx hdrop hjo
      have HOC := Lib.hid hoc; clear hoc
      have C := HNUM.out wr _ hst q hq 3 (by omega)
      have HLL := Lib.hid hll; have HL7 := Lib.hid hl7; clear hll hl7
      by_cases hcut : t.length < q + 3
      · rw [if_pos hcut, if_pos hcut, if_pos hcut] at C
        rw [if_pos hcut] at hmeta
        have HMX := Lib.hid hmeta; clear hmeta
        have HC := Lib.hid C; clear C hst
        go_wp2_with fail
        refine HC.out.mono ?_
        rintro e w7 ⟨rfl, h7⟩
        have hA := h7.alloc (.cells #[.string sb, .int .i64 (q : Int), .slice ao out.length co, .int .i64 (most : Int)] 64)
        clear h7 c0 c1 c2 c3 HC
        go_upto_region 14 with (fail)
        generalize w7.heap.size = bt at *
        generalize w7.alloc (.cells #[.string sb, .int .i64 (q : Int), .slice ao out.length co, .int .i64 (most : Int)] 64) = W7 at *
        have hB9 := hA.perm (show _ = blk b1 (.cells #[.string ⟨#[]⟩, .int .i64 0, .slice none 0 0, .int .i64 0] 64) * (blk bt (.cells #[.string sb, .int .i64 (q : Int), .slice ao out.length co, .int .i64 (most : Int)] 64) * (blk b0 (.cells #[.string sb, .int .i64 (q : Int), .slice ao out.length co, .int .i64 (most : Int)] 64) * (own 3 1 (.slice (some ⟨g6, 0, none⟩) 19 c6) 19 (nvs lens) * (own 5 1 (.slice ao out.length co) (out.length) (out.map bv) * F)))) by ac_rfl)
        have hS9 := hB9.perm (star_left_comm _ _ _)
        have s0 := hS9.cell 0 rfl
        have s1 := hS9.cell 1 rfl
        have s2 := hS9.cell 2 rfl
        have s3 := hS9.cell 3 rfl
        have r0 := hB9.cell 0 rfl
        have r1 := hB9.cell 1 rfl
        have r2 := hB9.cell 2 rfl
        have r3 := hB9.cell 3 rfl
        have rf0 := hB9.free 0
        have rf1 := hB9.free 1
        have rf2 := hB9.free 2
        have rf3 := hB9.free 3
        have HF := Lib.hid (set4 hB9 rfl (.string sb) (.int .i64 (q : Int)) (.slice ao out.length co) (.int .i64 (most : Int)))
        clear hB9 hS9 hA
        go_wp2_with fail
        refine bodyPost_ret2c rfl rfl HF.out.at_ Tryz.underlying64 rfl (by show _ = some 4; kernel_rfl) rfl ?_
        exact ⟨2, q, out, ao, co, rfl, by rw [HR.out, ← HMX.out]; exact ⟨rfl, by decide⟩, (fun h => by cases h), hom, HF.out.right.right.right.right⟩
      · rw [if_neg hcut, if_neg hcut, if_neg hcut] at C
        rw [if_neg hcut] at hmeta
        obtain ⟨q4, hq4⟩ : ∃ q4, q4 = q + 3 := ⟨_, rfl⟩
        rw [← hq4] at C hmeta
        have HQ4 := Lib.hid (show q4 ≤ t.length by omega); clear hq4 hcut
        have hn7 := rsmall3 ht q
        generalize vl t q 3 = n3 at *
        have HMX := Lib.hid hmeta; clear hmeta
        have HC := Lib.hid C; clear C hst
        go_wp2_with fail
        refine HC.out.mono ?_
        rintro e w7 ⟨rfl, h7⟩
        have hA := h7.alloc (.cells #[.string sb, .int .i64 (q4 : Int), .slice ao out.length co, .int .i64 (most : Int)] 64)
        clear h7 c0 c1 c2 c3 HC
        go_upto_region 16 with (fail)
        generalize w7.heap.size = bt at *
        generalize w7.alloc (.cells #[.string sb, .int .i64 (q4 : Int), .slice ao out.length co, .int .i64 (most : Int)] 64) = W7 at *
        have HA := Lib.hid hA; clear hA
        go_wp2_with fail
        refine (rorder_any HA.out).mono ?_
        rintro e w8 ⟨v8, rfl, h8⟩
        obtain ⟨a8, c8, rfl⟩ := h8.reads.sub
        obtain ⟨g8, rfl⟩ := own_at h8 (by omega)
        have o8 := h8.own_cell HOC.out
        have h9 := h8.right.perm (show _ = own 3 1 (.slice (some ⟨g6, 0, none⟩) 19 c6) 19 (nvs lens) * (blk bt (.cells #[.string sb, .int .i64 (q4 : Int), .slice ao out.length co, .int .i64 (most : Int)] 64) * (blk b0 (.cells #[.string sb, .int .i64 (q : Int), .slice ao out.length co, .int .i64 (most : Int)] 64) * (own 5 1 (.slice ao out.length co) (out.length) (out.map bv) * (blk b1 (.cells #[.string ⟨#[]⟩, .int .i64 0, .slice none 0 0, .int .i64 0] 64) * F)))) by ac_rfl)
        obtain ⟨u, hu⟩ : ∃ u, (nvs lens)[oi]? = some u := ⟨(nvs lens)[oi]'(by rw [length_nvs, HLL.out]; exact hol), List.getElem?_eq_getElem _⟩
        have x8 := h9.own_cell hu
        have f8 := h9.own_free oi
        have h10 := h9.own_set oi (.int .i64 (n3 : Int))
        have e8 : (nvs lens).set oi (.int .i64 (n3 : Int)) = nvs (lens.set oi n3) := by rw [nvs, nvs, List.map_set]; rfl
        rw [e8] at h10
        have hol2 : (oi : Int) < 19 := by omega
        have H10 := Lib.hid h10
        clear h8 h9 h10 hu e8 HA
        have HML := Lib.hid hmt; clear hmt hbad hlit hdis hb2' hb3' hw1 hw2 hw3
        go_upto_region 17 with (fail)
        clear o8 x8 f8
        generalize w8.setCell ⟨g6, oi, none⟩ (.int .i64 (n3 : Int)) = W8 at *
        have h11 : St w0 W8 (own 3 1 (.slice (some ⟨g6, 0, none⟩) 19 c6) 19 (nvs (lens.set oi n3)) * (blk bt (.cells #[.string sb, .int .i64 (q4 : Int), .slice ao out.length co, .int .i64 (most : Int)] 64) * (blk b0 (.cells #[.string sb, .int .i64 (q : Int), .slice ao out.length co, .int .i64 (most : Int)] 64) * (own 5 1 (.slice ao out.length co) (out.length) (out.map bv) * (blk b1 (.cells #[.string ⟨#[]⟩, .int .i64 0, .slice none 0 0, .int .i64 0] 64) * F))))) := H10.out
        clear H10
        have h12 := h11.perm (show _ = blk bt (.cells #[.string sb, .int .i64 (q4 : Int), .slice ao out.length co, .int .i64 (most : Int)] 64) * (blk b0 (.cells #[.string sb, .int .i64 (q : Int), .slice ao out.length co, .int .i64 (most : Int)] 64) * (own 3 1 (.slice (some ⟨g6, 0, none⟩) 19 c6) 19 (nvs (lens.set oi n3)) * (own 5 1 (.slice ao out.length co) (out.length) (out.map bv) * (blk b1 (.cells #[.string ⟨#[]⟩, .int .i64 0, .slice none 0 0, .int .i64 0] 64) * F)))) by ac_rfl)
        have h13 := h12.perm (star_left_comm _ _ _)
        have t0 := h12.cell 0 rfl
        have t1 := h12.cell 1 rfl
        have t2 := h12.cell 2 rfl
        have t3 := h12.cell 3 rfl
        have r0 := h13.cell 0 rfl
        have r1 := h13.cell 1 rfl
        have r2 := h13.cell 2 rfl
        have r3 := h13.cell 3 rfl
        have rf0 := h13.free 0
        have rf1 := h13.free 1
        have rf2 := h13.free 2
        have rf3 := h13.free 3
        have h14 := set4 h13 rfl (.string sb) (.int .i64 (q4 : Int)) (.slice ao out.length co) (.int .i64 (most : Int))
        have H14 := Lib.hid ((h14.perm (star_left_comm _ _ _)).right); clear h11 h12 h13 h14
        have HLS : (lens.set oi n3).length = 19 := by rw [List.length_set]; exact HLL.out
        have HL8 : ∀ x ∈ lens.set oi n3, x ≤ 7 := fun x hx => by
          rcases List.mem_or_eq_of_mem_set hx with h | h
          · exact HL7.out x h
          · rw [h]; exact hn7
        have HLS' := Lib.hid HLS; have HL8' := Lib.hid HL8; clear HLS HL8
        go_wp2_with fail
        exact ⟨⟨j + 1, q4, lens.set oi n3, hjm, by go_num, HLS'.out, HL8'.out, HMX.out, HQ4.out, H14.out⟩, by simp [intOf]; omega⟩
    · obtain rfl : j = mt := by omega
      rw [List.drop_eq_nil_of_le (by rw [HOT.out]; exact Nat.le_refl _), metaF] at hmeta
      have hR := HR.out
      rw [← hmeta] at hR
      simp only at hR
      have HRY := Lib.hid hR; clear hR hmeta HR HOT HNUM
      have C := rwords_any hst lens true false (by omega) (fun n hn => by have := hl7 n hn; omega) (v := .slice (some ⟨g6, 0, none⟩) 19 c6) (by rw [hll]; exact fun w h => h.right.reads)
      have hrh : rhow true false = 0 := rfl
      rw [hrh] at C
      have HWL := Lib.hid (fun W (h : wordsF lens 0 = .inr W) => wordsF_len h)
      have HWB := Lib.hid (fun W (h : wordsF lens 0 = .inr W) => wordsF_bit h)
      generalize wordsF lens 0 = ra at *
      have HC := Lib.hid C; clear C hst hrh
      have HBD := Lib.hid hbad
      clear hl7 hmt hjm hj hbad hw1 hw2 hw3
      go_wp2_with fail
      refine HC.out.mono ?_
      rintro e w7 hw
      clear HC c0 c1 c2 c3
      cases ra with
      | inl er =>
        obtain ⟨hne0, rfl, h7⟩ := hw
        simp only at HRY
        have hne2 : ¬ (er : Int) = 0 := by omega
        have hB9 := h7.perm (show _ = blk b1 (.cells #[.string ⟨#[]⟩, .int .i64 0, .slice none 0 0, .int .i64 0] 64) * (blk b0 (.cells #[.string sb, .int .i64 (q : Int), .slice ao out.length co, .int .i64 (most : Int)] 64) * (own 3 1 (.slice (some ⟨g6, 0, none⟩) 19 c6) 19 (nvs lens) * (own 5 1 (.slice ao out.length co) (out.length) (out.map bv) * F))) by ac_rfl)
        have hS9 := hB9.perm (star_left_comm _ _ _)
        have s0 := hS9.cell 0 rfl
        have s1 := hS9.cell 1 rfl
        have s2 := hS9.cell 2 rfl
        have s3 := hS9.cell 3 rfl
        have r0 := hB9.cell 0 rfl
        have r1 := hB9.cell 1 rfl
        have r2 := hB9.cell 2 rfl
        have r3 := hB9.cell 3 rfl
        have rf0 := hB9.free 0
        have rf1 := hB9.free 1
        have rf2 := hB9.free 2
        have rf3 := hB9.free 3
        have HF := Lib.hid (set4 hB9 rfl (.string sb) (.int .i64 (q : Int)) (.slice ao out.length co) (.int .i64 (most : Int)))
        clear hB9 hS9 h7
        go_wp2_with fail
        refine bodyPost_ret2c rfl rfl HF.out.at_ Tryz.underlying64 rfl (by show _ = some 4; kernel_rfl) rfl ?_
        exact ⟨er, q, out, ao, co, rfl, by rw [HRY.out]; exact ⟨rfl, hne0⟩, (fun h => by omega), hom, HF.out.right.right.right⟩
      | inr W =>
        obtain ⟨v7, rfl, h7⟩ := hw
        simp only at HRY
        have hWl := HWL.out W rfl
        have hWb := HWB.out W rfl
        have hW19 : W.length ≤ 19 := by omega
        clear HWL HWB
        obtain ⟨a7, c7, rfl⟩ := h7.reads.sub
        have h8 := (h7.perm (show _ = own 3 1 (.slice (some ⟨g6, 0, none⟩) 19 c6) 19 (nvs lens) * (blk b0 (.cells #[.string sb, .int .i64 (q : Int), .slice ao out.length co, .int .i64 (most : Int)] 64) * (own 9 1 (.slice a7 W.length c7) W.length (W.map txv) * (own 5 1 (.slice ao out.length co) (out.length) (out.map bv) * (blk b1 (.cells #[.string ⟨#[]⟩, .int .i64 0, .slice none 0 0, .int .i64 0] 64) * F)))) by ac_rfl)).right
        have c0 := h8.cell 0 rfl
        have c1 := h8.cell 1 rfl
        have c2 := h8.cell 2 rfl
        have c3 := h8.cell 3 rfl
        obtain ⟨nn, hnn⟩ : ∃ nn, nn = lits + dists := ⟨_, rfl⟩
        have C := HLNG.out w7 _ h8 q hq W hWb hW19 (.slice a7 W.length c7) (fun w h => h.right.reads) nn (by omega)
        rw [← hnn] at HRY
        have HLF := Lib.hid (fun q' all (h : lengthsF t W nn (nn + 1) [] q = .inr (q', all)) => lengthsF_len (nn + 1) [] q q' all h (by simp))
        generalize lengthsF t W nn (nn + 1) [] q = rl at *
        have HC := Lib.hid C; clear C h7 h8 hWl hll
        have hsum : (lits : Int) + dists = (nn : Int) := by omega
        have HNN := Lib.hid hnn; clear hnn
        go_wp2_with fail
        refine HC.out.mono ?_
        rintro e w8 ⟨v8, x, q5, rfl, hlr, hq5⟩
        clear HC c0 c1 c2 c3 hsum
        cases rl with
        | inl er =>
          obtain ⟨hx, hne0, h9⟩ := hlr
          subst hx
          simp only at HRY
          have hne2 : ¬ (x : Int) = 0 := by omega
          have d0 := h9.cell 0 rfl
          have d1 := h9.cell 1 rfl
          have d2 := h9.cell 2 rfl
          have d3 := h9.cell 3 rfl
          have df0 := h9.free 0
          have df1 := h9.free 1
          have df2 := h9.free 2
          have df3 := h9.free 3
          have h10 := set4 h9 rfl (.string sb) (.int .i64 (q5 : Int)) (.slice ao out.length co) (.int .i64 (most : Int))
          clear h9
          go_upto_region 22 with (fail)
          generalize (((w8.setCell ⟨b0, 0, none⟩ (.string sb)).setCell ⟨b0, 1, none⟩ (.int .i64 (q5 : Int))).setCell ⟨b0, 2, none⟩ (.slice ao out.length co)).setCell ⟨b0, 3, none⟩ (.int .i64 (most : Int)) = W8 at *
          clear d0 d1 d2 d3 df0 df1 df2 df3
          have h10 : St w0 W8 (blk b0 (.cells #[.string sb, .int .i64 (q5 : Int), .slice ao out.length co, .int .i64 (most : Int)] 64) * (own 9 1 (.slice a7 W.length c7) W.length (W.map txv) * (own 5 1 (.slice ao out.length co) (out.length) (out.map bv) * (blk b1 (.cells #[.string ⟨#[]⟩, .int .i64 0, .slice none 0 0, .int .i64 0] 64) * F)))) := h10
          have hB9 := h10.perm (show _ = blk b1 (.cells #[.string ⟨#[]⟩, .int .i64 0, .slice none 0 0, .int .i64 0] 64) * (blk b0 (.cells #[.string sb, .int .i64 (q5 : Int), .slice ao out.length co, .int .i64 (most : Int)] 64) * (own 9 1 (.slice a7 W.length c7) W.length (W.map txv) * (own 5 1 (.slice ao out.length co) (out.length) (out.map bv) * F))) by ac_rfl)
          have hS9 := hB9.perm (star_left_comm _ _ _)
          have s0 := hS9.cell 0 rfl
          have s1 := hS9.cell 1 rfl
          have s2 := hS9.cell 2 rfl
          have s3 := hS9.cell 3 rfl
          have r0 := hB9.cell 0 rfl
          have r1 := hB9.cell 1 rfl
          have r2 := hB9.cell 2 rfl
          have r3 := hB9.cell 3 rfl
          have rf0 := hB9.free 0
          have rf1 := hB9.free 1
          have rf2 := hB9.free 2
          have rf3 := hB9.free 3
          have HF := Lib.hid (set4 hB9 rfl (.string sb) (.int .i64 (q5 : Int)) (.slice ao out.length co) (.int .i64 (most : Int)))
          clear hB9 hS9 h10
          go_wp2_with fail
          refine bodyPost_ret2c rfl rfl HF.out.at_ Tryz.underlying64 rfl (by show _ = some 4; kernel_rfl) rfl ?_
          exact ⟨x, q5, out, ao, co, rfl, by rw [HRY.out]; exact ⟨rfl, hne0⟩, (fun h => by omega), hom, HF.out.right.right.right⟩
        | inr qa =>
          obtain ⟨q6, all⟩ := qa
          obtain ⟨hx, hq6, h9⟩ := hlr
          subst hx hq6
          simp only at HRY
          obtain ⟨hal, hal15⟩ := HLF.out q5 all rfl
          rw [HNN.out] at hal
          have h9 : St w0 w8 (own 3 1 v8 all.length (nvs all) * (blk b0 (.cells #[.string sb, .int .i64 (q : Int), .slice ao out.length co, .int .i64 (most : Int)] 64) * (own 9 1 (.slice a7 W.length c7) W.length (W.map txv) * (own 5 1 (.slice ao out.length co) (out.length) (out.map bv) * (blk b1 (.cells #[.string ⟨#[]⟩, .int .i64 0, .slice none 0 0, .int .i64 0] 64) * F))))) := h9
          clear HLF
          obtain ⟨a8, c8, rfl⟩ := h9.reads.sub
          have hown : ∃ g8, a8 = some ⟨g8, 0, none⟩ ∧ all.length ≤ c8 := by
            obtain ⟨_, ⟨_, h0, _⟩ | ⟨g', cap', cur, e1, e2, _⟩⟩ := h9.own_split
            · omega
            · cases e1; exact ⟨g', rfl, e2⟩
          obtain ⟨g8, rfl, hc8⟩ := hown
          have hl256 : (256 : Int) < all.length := by omega
          have hl256' : 256 < all.length := by omega
          have htk : (all.take lits).length = lits := by rw [List.length_take]; omega
          have hdk : (all.drop lits).length = all.length - lits := by rw [List.length_drop]
          have hls : (lits : Int) ≤ all.length := by omega
          have hls2 : lits ≤ all.length := by omega
          have hls3 : lits ≤ c8 := by omega
          have hls4 : (lits : Int) ≤ c8 := by omega
          have hac : (all.length : Int) ≤ c8 := by omega
          have hcne : ¬ c8 = lits := by omega
          have HTK := Lib.hid htk; have HDK := Lib.hid hdk; have HAL := Lib.hid hal; have HA15 := Lib.hid hal15
          have HLIT := Lib.hid hlit; have HDIS := Lib.hid hdis
          clear htk hdk hal hal15 hlit hdis
          have h9 := (h9.perm (show _ = own 9 1 (.slice a7 W.length c7) W.length (W.map txv) * (blk b0 (.cells #[.string sb, .int .i64 (q : Int), .slice ao out.length co, .int .i64 (most : Int)] 64) * (own 3 1 (.slice (some ⟨g8, 0, none⟩) all.length c8) all.length (nvs all) * (own 5 1 (.slice ao out.length co) (out.length) (out.map bv) * (blk b1 (.cells #[.string ⟨#[]⟩, .int .i64 0, .slice none 0 0, .int .i64 0] 64) * F)))) by ac_rfl)).right
          have d0 := h9.cell 0 rfl
          have d1 := h9.cell 1 rfl
          have d2 := h9.cell 2 rfl
          have d3 := h9.cell 3 rfl
          have df0 := h9.free 0
          have df1 := h9.free 1
          have df2 := h9.free 2
          have df3 := h9.free 3
          have h10 := set4 h9 rfl (.string sb) (.int .i64 (q5 : Int)) (.slice ao out.length co) (.int .i64 (most : Int))
          clear h9
          go_upto_region 22 with (fail)
          generalize (((w8.setCell ⟨b0, 0, none⟩ (.string sb)).setCell ⟨b0, 1, none⟩ (.int .i64 (q5 : Int))).setCell ⟨b0, 2, none⟩ (.slice ao out.length co)).setCell ⟨b0, 3, none⟩ (.int .i64 (most : Int)) = W8 at *
          clear d0 d1 d2 d3 df0 df1 df2 df3
          have h10 : St w0 W8 (blk b0 (.cells #[.string sb, .int .i64 (q5 : Int), .slice ao out.length co, .int .i64 (most : Int)] 64) * (own 3 1 (.slice (some ⟨g8, 0, none⟩) all.length c8) all.length (nvs all) * (own 5 1 (.slice ao out.length co) (out.length) (out.map bv) * (blk b1 (.cells #[.string ⟨#[]⟩, .int .i64 0, .slice none 0 0, .int .i64 0] 64) * F)))) := h10
          have h256 : W8.cell? ⟨g8, 256, none⟩ = some (.int .i64 (all.getD 256 0 : Nat)) := h10.right.own_cell (i := 256) (by
            rw [nvs, List.getElem?_map, List.getD_eq_getElem?_getD, List.getElem?_eq_getElem hl256']; rfl)
          by_cases hz : all.getD 256 0 = 0
          · rw [if_pos hz] at HRY
            rw [hz] at h256
            have hB9 := h10.perm (show _ = blk b1 (.cells #[.string ⟨#[]⟩, .int .i64 0, .slice none 0 0, .int .i64 0] 64) * (blk b0 (.cells #[.string sb, .int .i64 (q5 : Int), .slice ao out.length co, .int .i64 (most : Int)] 64) * (own 3 1 (.slice (some ⟨g8, 0, none⟩) all.length c8) all.length (nvs all) * (own 5 1 (.slice ao out.length co) (out.length) (out.map bv) * F))) by ac_rfl)
            have hS9 := hB9.perm (star_left_comm _ _ _)
            have s0 := hS9.cell 0 rfl
            have s1 := hS9.cell 1 rfl
            have s2 := hS9.cell 2 rfl
            have s3 := hS9.cell 3 rfl
            have r0 := hB9.cell 0 rfl
            have r1 := hB9.cell 1 rfl
            have r2 := hB9.cell 2 rfl
            have r3 := hB9.cell 3 rfl
            have rf0 := hB9.free 0
            have rf1 := hB9.free 1
            have rf2 := hB9.free 2
            have rf3 := hB9.free 3
            have HF := Lib.hid (set4 hB9 rfl (.string sb) (.int .i64 (q5 : Int)) (.slice ao out.length co) (.int .i64 (most : Int)))
            clear hB9 hS9 h10
            go_wp2_with fail
            refine bodyPost_ret2c rfl rfl HF.out.at_ Tryz.underlying64 rfl (by show _ = some 4; kernel_rfl) rfl ?_
            exact ⟨3, q5, out, ao, co, rfl, by rw [HRY.out]; exact ⟨rfl, by decide⟩, (fun h => by cases h), hom, HF.out.right.right.right⟩
          rw [if_neg hz, blockL] at HRY
          generalize all.getD 256 0 = z256 at *
          have hz2 : ¬ (z256 : Int) = 0 := by omega
          have C := rwords_any h10 (all.take lits) true false (by rw [HTK.out]; have := HLIT.out; omega) (fun n hn => by have := HA15.out n (List.mem_of_mem_take hn); omega) (v := .slice (some ⟨g8, 0, none⟩) lits c8) (by
              rw [HTK.out]
              intro w h
              have := Reads.take h.right.reads (k := lits) (by omega)
              rw [nvs, ← List.map_take] at this
              exact this)
          have hrh : rhow true false = 0 := rfl
          rw [hrh] at C
          have HWL := Lib.hid (fun W (h : wordsF (all.take lits) 0 = .inr W) => wordsF_len h)
          have HWB := Lib.hid (fun W (h : wordsF (all.take lits) 0 = .inr W) => wordsF_bit h)
          generalize wordsF (all.take lits) 0 = ra at *
          have HC := Lib.hid C; clear C hrh
          have HZ := Lib.hid hz
          clear hz
          go_wp2_with fail
          refine HC.out.mono ?_
          rintro e w9 hw
          clear HC h256
          cases ra with
          | inl er =>
            obtain ⟨hne0, rfl, h11⟩ := hw
            simp only at HRY
            have hne2 : ¬ (er : Int) = 0 := by omega
            clear h10
            have hB9 := h11.perm (show _ = blk b1 (.cells #[.string ⟨#[]⟩, .int .i64 0, .slice none 0 0, .int .i64 0] 64) * (blk b0 (.cells #[.string sb, .int .i64 (q5 : Int), .slice ao out.length co, .int .i64 (most : Int)] 64) * (own 3 1 (.slice (some ⟨g8, 0, none⟩) all.length c8) all.length (nvs all) * (own 5 1 (.slice ao out.length co) (out.length) (out.map bv) * F))) by ac_rfl)
            have hS9 := hB9.perm (star_left_comm _ _ _)
            have s0 := hS9.cell 0 rfl
            have s1 := hS9.cell 1 rfl
            have s2 := hS9.cell 2 rfl
            have s3 := hS9.cell 3 rfl
            have r0 := hB9.cell 0 rfl
            have r1 := hB9.cell 1 rfl
            have r2 := hB9.cell 2 rfl
            have r3 := hB9.cell 3 rfl
            have rf0 := hB9.free 0
            have rf1 := hB9.free 1
            have rf2 := hB9.free 2
            have rf3 := hB9.free 3
            have HF := Lib.hid (set4 hB9 rfl (.string sb) (.int .i64 (q5 : Int)) (.slice ao out.length co) (.int .i64 (most : Int)))
            clear hB9 hS9 h11
            go_wp2_with fail
            refine bodyPost_ret2c rfl rfl HF.out.at_ Tryz.underlying64 rfl (by show _ = some 4; kernel_rfl) rfl ?_
            exact ⟨er, q5, out, ao, co, rfl, by rw [HRY.out]; exact ⟨rfl, hne0⟩, (fun h => by omega), hom, HF.out.right.right.right⟩
          | inr A =>
            obtain ⟨v9, rfl, h11⟩ := hw
            simp only at HRY
            have hAl := HWL.out A rfl
            have hAb := HWB.out A rfl
            have hA9 : A.length ≤ 900 := by rw [hAl, HTK.out]; have := HLIT.out; omega
            clear HWL HWB h10 hAl
            obtain ⟨a9, c9, rfl⟩ := h11.reads.sub
            have h12 := h11.perm (show _ = blk b0 (.cells #[.string sb, .int .i64 (q5 : Int), .slice ao out.length co, .int .i64 (most : Int)] 64) * (own 3 1 (.slice (some ⟨g8, 0, none⟩) all.length c8) all.length (nvs all) * (own 9 1 (.slice a9 A.length c9) A.length (A.map txv) * (own 5 1 (.slice ao out.length co) (out.length) (out.map bv) * (blk b1 (.cells #[.string ⟨#[]⟩, .int .i64 0, .slice none 0 0, .int .i64 0] 64) * F)))) by ac_rfl)
            have C := rwords_any h12 (all.drop lits) true true (by rw [HDK.out]; have := HAL.out; have := HDIS.out; omega) (fun n hn => by have := HA15.out n (List.mem_of_mem_drop hn); omega) (v := .slice (some ⟨g8, lits, none⟩) (all.length - lits) (c8 - lits)) (by
                rw [HDK.out]
                intro w h
                have := Reads.drop h.right.reads (k := lits) (by omega)
                rw [nvs, ← List.map_drop] at this
                exact this)
            have hrh : rhow true true = 1 := rfl
            rw [hrh] at C
            have HWL := Lib.hid (fun W (h : wordsF (all.drop lits) 1 = .inr W) => wordsF_len h)
            have HWB := Lib.hid (fun W (h : wordsF (all.drop lits) 1 = .inr W) => wordsF_bit h)
            generalize wordsF (all.drop lits) 1 = rb at *
            have HC := Lib.hid C; clear C hrh h11 h12
            go_wp2_with fail
            refine HC.out.mono ?_
            rintro e w10 hw
            clear HC
            cases rb with
            | inl er =>
              obtain ⟨hne0, rfl, h13⟩ := hw
              simp only at HRY
              have hne2 : ¬ (er : Int) = 0 := by omega
              have hB9 := h13.perm (show _ = blk b1 (.cells #[.string ⟨#[]⟩, .int .i64 0, .slice none 0 0, .int .i64 0] 64) * (blk b0 (.cells #[.string sb, .int .i64 (q5 : Int), .slice ao out.length co, .int .i64 (most : Int)] 64) * (own 3 1 (.slice (some ⟨g8, 0, none⟩) all.length c8) all.length (nvs all) * (own 9 1 (.slice a9 A.length c9) A.length (A.map txv) * (own 5 1 (.slice ao out.length co) (out.length) (out.map bv) * F)))) by ac_rfl)
              have hS9 := hB9.perm (star_left_comm _ _ _)
              have s0 := hS9.cell 0 rfl
              have s1 := hS9.cell 1 rfl
              have s2 := hS9.cell 2 rfl
              have s3 := hS9.cell 3 rfl
              have r0 := hB9.cell 0 rfl
              have r1 := hB9.cell 1 rfl
              have r2 := hB9.cell 2 rfl
              have r3 := hB9.cell 3 rfl
              have rf0 := hB9.free 0
              have rf1 := hB9.free 1
              have rf2 := hB9.free 2
              have rf3 := hB9.free 3
              have HF := Lib.hid (set4 hB9 rfl (.string sb) (.int .i64 (q5 : Int)) (.slice ao out.length co) (.int .i64 (most : Int)))
              clear hB9 hS9 h13
              go_wp2_with fail
              refine bodyPost_ret2c rfl rfl HF.out.at_ Tryz.underlying64 rfl (by show _ = some 4; kernel_rfl) rfl ?_
              exact ⟨er, q5, out, ao, co, rfl, by rw [HRY.out]; exact ⟨rfl, hne0⟩, (fun h => by omega), hom, HF.out.right.right.right.right⟩
            | inr B =>
              obtain ⟨v10, rfl, h13⟩ := hw
              simp only at HRY
              have hBl := HWL.out B rfl
              have hBb := HWB.out B rfl
              have hB9 : B.length ≤ 900 := by rw [hBl, HDK.out]; have := HAL.out; have := HDIS.out; omega
              clear HWL HWB hBl
              obtain ⟨a10, c10, rfl⟩ := h13.reads.sub
              have h14 := (h13.perm (show _ = own 3 1 (.slice (some ⟨g8, 0, none⟩) all.length c8) all.length (nvs all) * (own 5 1 (.slice ao out.length co) (out.length) (out.map bv) * (blk b0 (.cells #[.string sb, .int .i64 (q5 : Int), .slice ao out.length co, .int .i64 (most : Int)] 64) * (blk b1 (.cells #[.string ⟨#[]⟩, .int .i64 0, .slice none 0 0, .int .i64 0] 64) * (own 9 1 (.slice a9 A.length c9) A.length (A.map txv) * (own 9 1 (.slice a10 B.length c10) B.length (B.map txv) * F))))) by ac_rfl)).right
              have c0 := h14.right.cell 0 rfl
              have c1 := h14.right.cell 1 rfl
              have c2 := h14.right.cell 2 rfl
              have c3 := h14.right.cell 3 rfl
              have C := HBLK.out w10 _ q5 hq5 A B hAb hBb hA9 hB9 h14 (.slice a9 A.length c9) (.slice a10 B.length c10) (fun w h => h.right.right.reads) (fun w h => h.right.right.right.reads)
              have HC := Lib.hid C; clear C h13 h14 HBLK HLNG
              clear hls hls2 hls3 hls4 hac hcne hb2' hb3'
              go_wp2_with fail
              refine HC.out.mono ?_
              rintro e w11 ⟨x, p8, o8, a11, c11, rfl, hres, hp8, ho8, h15⟩
              clear HC c0 c1 c2 c3
              have hB9' := h15.perm (show _ = blk b1 (.cells #[.string ⟨#[]⟩, .int .i64 0, .slice none 0 0, .int .i64 0] 64) * (own 5 1 (.slice a11 o8.length c11) o8.length (o8.map bv) * (blk b0 (.cells #[.string sb, .int .i64 (q5 : Int), .slice ao out.length co, .int .i64 (most : Int)] 64) * (own 9 1 (.slice a9 A.length c9) A.length (A.map txv) * (own 9 1 (.slice a10 B.length c10) B.length (B.map txv) * F)))) by ac_rfl)
              have r0 := hB9'.cell 0 rfl
              have r1 := hB9'.cell 1 rfl
              have r2 := hB9'.cell 2 rfl
              have r3 := hB9'.cell 3 rfl
              have rf0 := hB9'.free 0
              have rf1 := hB9'.free 1
              have rf2 := hB9'.free 2
              have rf3 := hB9'.free 3
              have HF := Lib.hid (set4 hB9' rfl (.string sb) (.int .i64 (p8 : Int)) (.slice a11 o8.length c11) (.int .i64 (most : Int)))
              clear h15 hB9'
              have HRES := Lib.hid hres; have HP8 := Lib.hid hp8; clear hres hp8
              go_wp2_with fail
              refine bodyPost_ret2c rfl rfl HF.out.at_ Tryz.underlying64 rfl (by show _ = some 4; kernel_rfl) rfl ?_
              exact ⟨x, p8, o8, a11, c11, rfl, by rw [HRY.out]; exact HRES.out, HP8.out, ho8, (HF.out.right.perm (show _ = blk b0 (.cells #[.string sb, .int .i64 (q5 : Int), .slice ao out.length co, .int .i64 (most : Int)] 64) * (own 9 1 (.slice a9 A.length c9) A.length (A.map txv) * (own 9 1 (.slice a10 B.length c10) B.length (B.map txv) * (own 5 1 (.slice a11 o8.length c11) o8.length (o8.map bv) * F))) by ac_rfl)).right.right.right⟩
end Go.Proofs.YtddifndfppilkaaGreat

namespace Go.Proofs.YtddifndfppilkaaGreat
open Go.RowKit Go.Mz
set_option linter.unusedVariables false
set_option linter.unusedSimpArgs false
set_option maxRecDepth 100000

theorem fixA_canon : (canonI (fixA.map fun (n : Nat) => (n : Int))).2 = (true, 0) := by decide +kernel
theorem wordsF_fixA : ∃ W, wordsF fixA 0 = .inr W ∧ wordsF fixA 2 = .inr W := by
  refine ⟨(canonI (fixA.map fun (n : Nat) => (n : Int))).1, ?_, ?_⟩
  · rw [wordsF, fixA_canon, if_neg (by simp), if_neg (by simp)]
  · rw [wordsF, fixA_canon, if_neg (by simp), if_neg (by simp)]
theorem fixB_canon : (canonI (fixB.map fun (n : Nat) => (n : Int))).2.2 = 0 := by decide +kernel
theorem wordsF_fixB : ∃ W, wordsF fixB 2 = .inr W := by
  refine ⟨(canonI (fixB.map fun (n : Nat) => (n : Int))).1, ?_⟩
  rw [wordsF, fixB_canon, if_neg (by simp), if_neg (by simp)]

def RInfR (r : Nat ⊕ (List UInt8 × Nat)) (s : List UInt8) (n x : Nat) : Prop :=
  match r with
  | .inl e => s = [] ∧ n = 0 ∧ x = e
  | .inr (o, k) => s = o ∧ n = k ∧ x = 0
theorem vl_bit {t : List Nat} (ht : Bit t) (p : Nat) : vl t p 3 < 8 := by
  have : vl t p 3 < 2 ^ 3 := numV_lt true (fun i => t.getD (p + i) 0) (fun i => ht.getD _) 3
  exact this

set_option maxHeartbeats 80000000 in
theorem rinflate_any {w0 w : World} {F : SProp} (h : St w0 w F) (bs : List UInt8) (most : Int) (hl : bs.length ≤ 100000000) (hm : most ≤ 10000000000000) :
    Calls Tryz.prog 14 #[.string ⟨bs.toArray⟩, .int .i64 most] w fun e w' => ∃ (s : List UInt8) (n x : Nat), e = .returned (.tuple #[.string ⟨s.toArray⟩, .int .i64 (n : Nat), .int .i64 (x : Nat)]) ∧ RInfR (inflI bs most) s n x ∧ St w0 w' F := by
  by_cases hneg : most < 0
  · have HR := Lib.hid (show inflI bs most = .inl 1 by rw [inflI, if_pos hneg])
    have H := Lib.hid h; clear h
    go_enter Tryz.func14, Tryz.ntmps14
    go_wp2_with fail
    go_ret3
    exact ⟨[], 0, 1, rfl, by rw [HR.out]; exact ⟨rfl, rfl, rfl⟩, H.out⟩
  obtain ⟨M, rfl⟩ : ∃ M : Nat, most = M := ⟨most.toNat, by omega⟩
  obtain ⟨t, htt⟩ : ∃ t, t = bitsL true bs := ⟨_, rfl⟩
  have HR := Lib.hid (show inflI bs M = (match inflF t M (8 * bs.length + 1) 0 [] with | .inl e => .inl e | .inr (q, o) => .inr (o, (q + 7) / 8)) by rw [inflI, if_neg hneg, Int.toNat_natCast, htt]; rfl)
  have ht : Bit t := by rw [htt]; exact bit_bitsL true bs
  have htl : t.length = 8 * bs.length := by rw [htt, length_bitsL]
  have hl9 : t.length ≤ 1000000000 := by omega
  obtain ⟨sb, hsb⟩ : ∃ sb : ByteArray, sb = ⟨(tx t).toArray⟩ := ⟨_, rfl⟩
  have HOF := Lib.hid (by have C := of_any bs true h hl; rw [← htt, ← hsb] at C; exact C : Calls Tryz.prog 31 #[.string ⟨bs.toArray⟩, .bool true] w fun e w' => e = .returned (.string sb) ∧ St w0 w' F)
  have hM : M ≤ 10000000000000 := by omega
  obtain ⟨WA, hWA0, hWA2⟩ := wordsF_fixA
  obtain ⟨WB, hWB⟩ := wordsF_fixB
  have HWAl := Lib.hid (by have := wordsF_len hWA0; rw [fixA_len] at this; omega : WA.length ≤ 900)
  have HWBl := Lib.hid (by have := wordsF_len hWB; rw [fixB_len] at this; omega : WB.length ≤ 900)
  have HWAb := Lib.hid (wordsF_bit hWA0)
  have HWBb := Lib.hid (wordsF_bit hWB)
  have HBL := Lib.hid (fun (p : Nat) (o : List UInt8) => (by rw [blockL, hWA0, hWB] : blockL t fixA fixB 2 M p o = blockF t WA WB M (t.length + 1 - p) p o))
  have hNF : rhow false false = 2 := rfl
  have HWRA := Lib.hid (fun (w : World) (G : SProp) (h : St w0 w G) (v : Value) (hv : Stb w0 G (fun w => Reads w 1 v 288 (nvs fixA))) => (by
    have C := rwords_any h fixA false false (by rw [fixA_len]; omega) fixA_le (v := v) (by rw [fixA_len]; exact hv)
    rw [hNF, hWA2] at C; exact C : Calls Tryz.prog 35 #[v, .bool false, .bool false] w fun e w' => RWordsR (.inr WA) w0 w' G e))
  have HWRB := Lib.hid (fun (w : World) (G : SProp) (h : St w0 w G) (v : Value) (hv : Stb w0 G (fun w => Reads w 1 v 30 (nvs fixB))) => (by
    have C := rwords_any h fixB false false (by rw [fixB_len]; omega) fixB_le (v := v) (by rw [fixB_len]; exact hv)
    rw [hNF, hWB] at C; exact C : Calls Tryz.prog 35 #[v, .bool false, .bool false] w fun e w' => RWordsR (.inr WB) w0 w' G e))
  have HNUM := Lib.hid (fun (w : World) (G : SProp) (h : St w0 w G) (q : Nat) (hq : q ≤ t.length) (ao : Option Addr) (no co : Nat) => rnum_any h ht hl9 hq 3 (by omega) (ao := ao) (no := no) (co := co) (most := (M : Int)) hsb (j := (3 : Int)) rfl)
  have HSTO := Lib.hid (fun (w : World) (G : SProp) (q : Nat) (hq : q ≤ t.length) (o : List UInt8) (ho : o.length ≤ M) (aj : Option Addr) (cj : Nat) (h : St w0 w (own 5 1 (.slice aj o.length cj) (o.length) (o.map bv) * G)) => rstored_any ht hl9 hq ho hM h hsb)
  have HDYN := Lib.hid (fun (w : World) (G : SProp) (q : Nat) (hq : q ≤ t.length) (o : List UInt8) (ho : o.length ≤ M) (aj : Option Addr) (cj : Nat) (h : St w0 w (own 5 1 (.slice aj o.length cj) (o.length) (o.map bv) * G)) => rdynamic_any ht hl9 hq ho hM h hsb)
  have HBLK := Lib.hid (fun (w : World) (G : SProp) (q : Nat) (hq : q ≤ t.length) (o : List UInt8) (ho : o.length ≤ M) (aj : Option Addr) (cj : Nat) (h : St w0 w (own 5 1 (.slice aj o.length cj) (o.length) (o.map bv) * G)) (va vb : Value) (hva : Stb w0 G (fun w => Reads w 1 va WA.length (WA.map txv))) (hvb : Stb w0 G (fun w => Reads w 1 vb WB.length (WB.map txv))) => rblock_any ht hl9 hq HWAb.out HWBb.out HWAl.out HWBl.out ho hM h hva hvb hsb)
  generalize hRES : inflF t M (8 * bs.length + 1) 0 [] = RES at *
  have HRES := Lib.hid hRES; clear hRES
  rw [← htl] at HRES
  have HTL := Lib.hid htl
  clear h htt hsb hWA0 hWA2 hWB hNF htl
  unfold rstC at HNUM HSTO HDYN HBLK
  go_enter Tryz.func14, Tryz.ntmps14
  go_wp2_with fail
  refine HOF.out.mono ?_
  rintro e w2 ⟨rfl, h2⟩
  have h3 := (St.own_nil 5 1 h2).alloc (.cells #[.string sb, .int .i64 0, .slice none 0 0, .int .i64 (M : Int)] 64)
  have H3 := Lib.hid h3; clear h2 h3 HOF
  go_wp2_with fail
  generalize w2.heap.size = b0 at *
  generalize w2.alloc (.cells #[.string sb, .int .i64 0, .slice none 0 0, .int .i64 (M : Int)] 64) = W2 at *
  go_loopg [10] (t.length + 1) (fun g u wr => ∃ (q : Nat) (o : List UInt8) (aj : Option Addr) (cj : Nat), t.length + 1 ≤ g + q ∧ o.length ≤ M ∧ inflF t M g q o = RES ∧ q ≤ t.length ∧ St w0 wr (blk b0 (.cells #[.string sb, .int .i64 (q : Int), .slice aj o.length cj, .int .i64 (M : Int)] 64) * (own 5 1 (.slice aj o.length cj) (o.length) (o.map bv) * F)))
  case atStart => exact ⟨0, [], none, 0, by omega, by simp, HRES.out, by omega, H3.out⟩
  case round =>
    clear H3 HRES
    obtain ⟨q, o, aj, cj, hg, hol, hres, hq, hst⟩ := hrel
    obtain ⟨g, rfl⟩ : ∃ g, gk = g + 1 := ⟨gk - 1, by omega⟩
    rw [inflF] at hres
    have HG := Lib.hid hg; clear hg
    have c0 := hst.cell 0 rfl
    have c1 := hst.cell 1 rfl
    have c2 := hst.cell 2 rfl
    have c3 := hst.cell 3 rfl
    have C := HNUM.out wr _ hst q hq aj o.length cj
    by_cases hcut : t.length < q + 3
    · rw [if_pos hcut, if_pos hcut, if_pos hcut] at C
      rw [if_pos hcut] at hres
      have HRX := Lib.hid hres; clear hres
      have HC := Lib.hid C; clear C hst
      go_wp2_with fail
      refine HC.out.mono ?_
      rintro e w4 ⟨rfl, h4⟩
      have H4 := Lib.hid ((h4.alloc (.cells #[.string sb, .int .i64 (q : Int), .slice aj o.length cj, .int .i64 (M : Int)] 64)).right.right.right); clear h4
      go_wp2_with fail
      go_ret3
      first | exact ⟨[], 0, 2, rfl, by rw [HR.out, ← HRX.out]; exact ⟨rfl, rfl, rfl⟩, H4.out⟩ | exact ⟨[], rfl, 0, 2, rfl, by rw [HR.out, ← HRX.out]; exact ⟨rfl, rfl, rfl⟩, H4.out⟩
    · rw [if_neg hcut, if_neg hcut, if_neg hcut] at C
      rw [if_neg hcut] at hres
      obtain ⟨q1, hq1⟩ : ∃ q1, q1 = q + 3 := ⟨_, rfl⟩
      rw [← hq1] at C hres
      have HQ1 := Lib.hid hq1
      have hq1l : q1 ≤ t.length := by omega
      clear hcut hq1
      have hd8 := vl_bit ht q
      generalize vl t q 3 = hd at *
      have hb1 : hd % 2 = 0 ∨ hd % 2 = 1 := by omega
      have hcs : hd / 2 = 0 ∨ hd / 2 = 1 ∨ hd / 2 = 2 ∨ hd / 2 = 3 := by omega
      have HRS := Lib.hid hres; clear hres
      have HC := Lib.hid C; clear C hst
      go_wp2_with fail
      refine HC.out.mono ?_
      rintro e w4 ⟨rfl, h4⟩
      have hA := h4.alloc (.cells #[.string sb, .int .i64 (q1 : Int), .slice aj o.length cj, .int .i64 (M : Int)] 64)
      clear h4 c0 c1 c2 c3 HC
      go_upto_region 7 with (fail)
      generalize w4.heap.size = bt at *
      generalize w4.alloc (.cells #[.string sb, .int .i64 (q1 : Int), .slice aj o.length cj, .int .i64 (M : Int)] 64) = W3 at *
      have t0 := hA.cell 0 rfl
      have t1 := hA.cell 1 rfl
      have t2 := hA.cell 2 rfl
      have t3 := hA.cell 3 rfl
      have hB := hA.perm (star_left_comm _ _ _)
      have r0 := hB.cell 0 rfl
      have r1 := hB.cell 1 rfl
      have r2 := hB.cell 2 rfl
      have r3 := hB.cell 3 rfl
      have rf0 := hB.free 0
      have rf1 := hB.free 1
      have rf2 := hB.free 2
      have rf3 := hB.free 3
      have h6 := set4 hB rfl (.string sb) (.int .i64 (q1 : Int)) (.slice aj o.length cj) (.int .i64 (M : Int))
      have h6 := (h6.perm (show _ = blk bt (.cells #[.string sb, .int .i64 (q1 : Int), .slice aj o.length cj, .int .i64 (M : Int)] 64) * (blk b0 (.cells #[.string sb, .int .i64 (q1 : Int), .slice aj o.length cj, .int .i64 (M : Int)] 64) * (own 5 1 (.slice aj o.length cj) (o.length) (o.map bv) * F)) by ac_rfl)).right
      clear hA hB
      go_upto_region 8 with (fail)
      generalize (((W3.setCell ⟨b0, 0, none⟩ (.string sb)).setCell ⟨b0, 1, none⟩ (.int .i64 (q1 : Int))).setCell ⟨b0, 2, none⟩ (.slice aj o.length cj)).setCell ⟨b0, 3, none⟩ (.int .i64 (M : Int)) = W4 at *
      clear t0 t1 t2 t3 r0 r1 r2 r3 rf0 rf1 rf2 rf3
      have h6 : St w0 W4 (blk b0 (.cells #[.string sb, .int .i64 (q1 : Int), .slice aj o.length cj, .int .i64 (M : Int)] 64) * (own 5 1 (.slice aj o.length cj) (o.length) (o.map bv) * F)) := h6
      have c0 := h6.cell 0 rfl
      have c1 := h6.cell 1 rfl
      have c2 := h6.cell 2 rfl
      have c3 := h6.cell 3 rfl
      rcases hcs with h0 | h0 | h0 | h0
      · have hdv : (hd : Int) / 2 = 0 := by omega
        have hres := HRS.out
        rw [partF, if_pos h0] at hres
        have C := HSTO.out W4 _ q1 hq1l o hol aj cj (h6.perm (star_left_comm _ _ _))
        have HGE := Lib.hid (fun q' o' (h : storedF t M q1 o = .inr (q', o')) => storedF_ge h)
        generalize storedF t M q1 o = r at *
        have HRT := Lib.hid hres; clear hres HRS h6
        have HC := Lib.hid C; clear C
        clear h0 HSTO HDYN HBLK
        go_wp2_with fail
        refine HC.out.mono ?_
        rintro e w5 ⟨x, q5, o5, a5, c5, rfl, hr, hq5, ho5, h7⟩
        clear HC c0 c1 c2 c3
        have h7 := h7.perm (show _ = blk b0 (.cells #[.string sb, .int .i64 (q1 : Int), .slice aj o.length cj, .int .i64 (M : Int)] 64) * (own 5 1 (.slice a5 o5.length c5) (o5.length) (o5.map bv) * (F)) by ac_rfl)
        have d0 := h7.cell 0 rfl
        have d1 := h7.cell 1 rfl
        have d2 := h7.cell 2 rfl
        have d3 := h7.cell 3 rfl
        have df0 := h7.free 0
        have df1 := h7.free 1
        have df2 := h7.free 2
        have df3 := h7.free 3
        have h8 := set4 h7 rfl (.string sb) (.int .i64 (q5 : Int)) (.slice a5 o5.length c5) (.int .i64 (M : Int))
        clear h7
        go_upto_region 19 with (fail)
        generalize (((w5.setCell ⟨b0, 0, none⟩ (.string sb)).setCell ⟨b0, 1, none⟩ (.int .i64 (q5 : Int))).setCell ⟨b0, 2, none⟩ (.slice a5 o5.length c5)).setCell ⟨b0, 3, none⟩ (.int .i64 (M : Int)) = W5 at *
        clear d0 d1 d2 d3 df0 df1 df2 df3
        have h8 : St w0 W5 (blk b0 (.cells #[.string sb, .int .i64 (q5 : Int), .slice a5 o5.length c5, .int .i64 (M : Int)] 64) * (own 5 1 (.slice a5 o5.length c5) (o5.length) (o5.map bv) * (F))) := h8
        cases r with
        | inl er =>
          obtain ⟨hx, hne0⟩ := hr
          subst hx
          simp only at HRT
          have hne2 : ¬ (x : Int) = 0 := by omega
          have H8 := Lib.hid (h8.right.right); clear h8
          go_wp2_with fail
          go_ret3
          first | exact ⟨[], 0, x, rfl, by rw [HR.out, ← HRT.out]; exact ⟨rfl, rfl, rfl⟩, H8.out⟩ | exact ⟨[], rfl, 0, x, rfl, by rw [HR.out, ← HRT.out]; exact ⟨rfl, rfl, rfl⟩, H8.out⟩ | exact ⟨[], 0, rfl, x, rfl, by rw [HR.out, ← HRT.out]; exact ⟨rfl, rfl, rfl⟩, H8.out⟩
        | inr qo =>
          obtain ⟨q6, o6⟩ := qo
          obtain ⟨hx, hq6, ho6⟩ := hr
          subst hx hq6 ho6
          simp only at HRT
          have hge := HGE.out q5 o5 rfl
          have hq55 := hq5 rfl
          clear hq5
          have h9 := h8.perm (show _ = blk b0 (.cells #[.string sb, .int .i64 (q5 : Int), .slice a5 o5.length c5, .int .i64 (M : Int)] 64) * (own 5 1 (.slice a5 o5.length c5) (o5.length) (o5.map bv) * (F)) by ac_rfl)
          have h9 := h9
          clear h8
          rcases hb1 with hb1 | hb1
          · have hres := HRT.out
            rw [if_neg (by omega)] at hres
            have HRX := Lib.hid hres; clear hres HRT
            have hne : ¬ (hd : Int) % 2 = 1 := by omega
            have H9 := Lib.hid h9; clear h9
            go_wp2_with fail
            go_roundg g
            case measure => omega
            case rel => exact ⟨q5, o5, a5, c5, by have := HG.out; have := HQ1.out; omega, ho5, HRX.out, hq55, H9.out⟩
          · have hres := HRT.out
            rw [if_pos hb1] at hres
            have HRX := Lib.hid hres; clear hres HRT
            have hne : (hd : Int) % 2 = 1 := by omega
            have d1 := h9.cell 1 rfl
            have d2 := h9.cell 2 rfl
            have hq7 : ((q5 : Int) + 7) / 8 = (((q5 + 7) / 8 : Nat) : Int) := by omega
            have hconv : ∀ m, (convert 22 9 (.slice a5 o5.length c5)).run Tryz.prog (W5.drewN m) = .ok (.string ⟨o5.toArray⟩) (W5.drewN m) := fun m => run_b2s Tryz.underlying22 Tryz.underlying5 Tryz.underlying9 (h9.drewN m).right.reads
            have H9 := Lib.hid h9; clear h9
            go_wp2_with fail
            go_quiet (fail)
            have h10 := (H9.out.drewN nq).right.right
            clear d1 d2
            generalize W5.drewN nq = w9 at *
            have H10 := Lib.hid h10; clear h10 H9 hconv
            go_wp2_with fail
            go_ret3
            refine ⟨o5, (q5 + 7) / 8, 0, ?_, by rw [HR.out, ← HRX.out]; exact ⟨rfl, rfl, rfl⟩, H10.out⟩
            first | rfl | (rw [hq7]; rfl)
      · have hdv : (hd : Int) / 2 = 1 := by omega
        have hres := HRS.out
        rw [partF, if_neg (by omega), if_pos h0, HBL.out] at hres
        have HGE := Lib.hid (fun q' o' (h : blockF t WA WB M (t.length + 1 - q1) q1 o = .inr (q', o')) => blockF_ge _ _ _ _ _ h)
        generalize hRR : blockF t WA WB M (t.length + 1 - q1) q1 o = r at *
        have HRR := Lib.hid hRR; clear hRR
        have HRT := Lib.hid hres; clear hres HRS
        clear h0
        have H6 := Lib.hid h6; clear h6 c0 c1 c2 c3
        go_wp2_with fail
        refine (rfixed_any H6.out).mono ?_
        rintro e w41 ⟨va, vb, rfl, h61⟩
        obtain ⟨aa, ca, rfl⟩ := h61.reads.sub
        obtain ⟨ab, cb, rfl⟩ := h61.right.reads.sub
        have HCA := Lib.hid (HWRA.out w41 _ h61 (.slice aa 288 ca) (fun w h => h.reads)); clear h61 H6
        go_wp2_with fail
        refine HCA.out.mono ?_
        rintro e w42 ⟨va2, rfl, h62⟩
        obtain ⟨a2, c2', rfl⟩ := h62.reads.sub
        have HCB := Lib.hid (HWRB.out w42 _ h62 (.slice ab 30 cb) (fun w h => h.right.right.reads)); clear h62 HCA
        go_wp2_with fail
        refine HCB.out.mono ?_
        rintro e w43 ⟨vb2, rfl, h63⟩
        obtain ⟨a3, c3', rfl⟩ := h63.reads.sub
        have h64 := (h63.perm (show _ = own 3 1 (.slice aa 288 ca) 288 (nvs fixA) * (own 3 1 (.slice ab 30 cb) 30 (nvs fixB) * (own 5 1 (.slice aj o.length cj) (o.length) (o.map bv) * (blk b0 (.cells #[.string sb, .int .i64 (q1 : Int), .slice aj o.length cj, .int .i64 (M : Int)] 64) * (own 9 1 (.slice a2 WA.length c2') WA.length (WA.map txv) * (own 9 1 (.slice a3 WB.length c3') WB.length (WB.map txv) * F))))) by ac_rfl)).right.right
        have c0 := h64.right.cell 0 rfl
        have c1 := h64.right.cell 1 rfl
        have c2 := h64.right.cell 2 rfl
        have c3 := h64.right.cell 3 rfl
        have C := HBLK.out w43 _ q1 hq1l o hol aj cj h64 (.slice a2 WA.length c2') (.slice a3 WB.length c3') (fun w h => h.right.reads) (fun w h => h.right.right.reads)
        have HRRR := HRR.out
        rw [HRRR] at C
        have HC := Lib.hid C; clear C h63 h64 HCB HRRR HSTO HDYN HBLK
        go_wp2_with fail
        refine HC.out.mono ?_
        rintro e w5 ⟨x, q5, o5, a5, c5, rfl, hr, hq5, ho5, h7⟩
        clear HC c0 c1 c2 c3
        have h7 := h7.perm (show _ = blk b0 (.cells #[.string sb, .int .i64 (q1 : Int), .slice aj o.length cj, .int .i64 (M : Int)] 64) * (own 5 1 (.slice a5 o5.length c5) (o5.length) (o5.map bv) * (own 9 1 (.slice a2 WA.length c2') WA.length (WA.map txv) * (own 9 1 (.slice a3 WB.length c3') WB.length (WB.map txv) * (F)))) by ac_rfl)
        have d0 := h7.cell 0 rfl
        have d1 := h7.cell 1 rfl
        have d2 := h7.cell 2 rfl
        have d3 := h7.cell 3 rfl
        have df0 := h7.free 0
        have df1 := h7.free 1
        have df2 := h7.free 2
        have df3 := h7.free 3
        have h8 := set4 h7 rfl (.string sb) (.int .i64 (q5 : Int)) (.slice a5 o5.length c5) (.int .i64 (M : Int))
        clear h7
        go_upto_region 19 with (fail)
        generalize (((w5.setCell ⟨b0, 0, none⟩ (.string sb)).setCell ⟨b0, 1, none⟩ (.int .i64 (q5 : Int))).setCell ⟨b0, 2, none⟩ (.slice a5 o5.length c5)).setCell ⟨b0, 3, none⟩ (.int .i64 (M : Int)) = W5 at *
        clear d0 d1 d2 d3 df0 df1 df2 df3
        have h8 : St w0 W5 (blk b0 (.cells #[.string sb, .int .i64 (q5 : Int), .slice a5 o5.length c5, .int .i64 (M : Int)] 64) * (own 5 1 (.slice a5 o5.length c5) (o5.length) (o5.map bv) * (own 9 1 (.slice a2 WA.length c2') WA.length (WA.map txv) * (own 9 1 (.slice a3 WB.length c3') WB.length (WB.map txv) * (F))))) := h8
        cases r with
        | inl er =>
          obtain ⟨hx, hne0⟩ := hr
          subst hx
          simp only at HRT
          have hne2 : ¬ (x : Int) = 0 := by omega
          have H8 := Lib.hid (h8.right.right.right.right); clear h8
          go_wp2_with fail
          go_ret3
          first | exact ⟨[], 0, x, rfl, by rw [HR.out, ← HRT.out]; exact ⟨rfl, rfl, rfl⟩, H8.out⟩ | exact ⟨[], rfl, 0, x, rfl, by rw [HR.out, ← HRT.out]; exact ⟨rfl, rfl, rfl⟩, H8.out⟩ | exact ⟨[], 0, rfl, x, rfl, by rw [HR.out, ← HRT.out]; exact ⟨rfl, rfl, rfl⟩, H8.out⟩
        | inr qo =>
          obtain ⟨q6, o6⟩ := qo
          obtain ⟨hx, hq6, ho6⟩ := hr
          subst hx hq6 ho6
          simp only at HRT
          have hge := HGE.out q5 o5 rfl
          have hq55 := hq5 rfl
          clear hq5
          have h9 := h8.perm (show _ = own 9 1 (.slice a2 WA.length c2') WA.length (WA.map txv) * (own 9 1 (.slice a3 WB.length c3') WB.length (WB.map txv) * (blk b0 (.cells #[.string sb, .int .i64 (q5 : Int), .slice a5 o5.length c5, .int .i64 (M : Int)] 64) * (own 5 1 (.slice a5 o5.length c5) (o5.length) (o5.map bv) * (F)))) by ac_rfl)
          have h9 := h9.right.right
          clear h8
          rcases hb1 with hb1 | hb1
          · have hres := HRT.out
            rw [if_neg (by omega)] at hres
            have HRX := Lib.hid hres; clear hres HRT
            have hne : ¬ (hd : Int) % 2 = 1 := by omega
            have H9 := Lib.hid h9; clear h9
            go_wp2_with fail
            go_roundg g
            case measure => omega
            case rel => exact ⟨q5, o5, a5, c5, by have := HG.out; have := HQ1.out; omega, ho5, HRX.out, hq55, H9.out⟩
          · have hres := HRT.out
            rw [if_pos hb1] at hres
            have HRX := Lib.hid hres; clear hres HRT
            have hne : (hd : Int) % 2 = 1 := by omega
            have d1 := h9.cell 1 rfl
            have d2 := h9.cell 2 rfl
            have hq7 : ((q5 : Int) + 7) / 8 = (((q5 + 7) / 8 : Nat) : Int) := by omega
            have hconv : ∀ m, (convert 22 9 (.slice a5 o5.length c5)).run Tryz.prog (W5.drewN m) = .ok (.string ⟨o5.toArray⟩) (W5.drewN m) := fun m => run_b2s Tryz.underlying22 Tryz.underlying5 Tryz.underlying9 (h9.drewN m).right.reads
            have H9 := Lib.hid h9; clear h9
            go_wp2_with fail
            go_quiet (fail)
            have h10 := (H9.out.drewN nq).right.right
            clear d1 d2
            generalize W5.drewN nq = w9 at *
            have H10 := Lib.hid h10; clear h10 H9 hconv
            go_wp2_with fail
            go_ret3
            refine ⟨o5, (q5 + 7) / 8, 0, ?_, by rw [HR.out, ← HRX.out]; exact ⟨rfl, rfl, rfl⟩, H10.out⟩
            first | rfl | (rw [hq7]; rfl)
      · have hdv : (hd : Int) / 2 = 2 := by omega
        have hres := HRS.out
        rw [partF, if_neg (by omega), if_neg (by omega), if_pos h0] at hres
        have C := HDYN.out W4 _ q1 hq1l o hol aj cj (h6.perm (star_left_comm _ _ _))
        have HGE := Lib.hid (fun q' o' (h : dynamicF t M q1 o = .inr (q', o')) => dynamicF_ge h)
        generalize dynamicF t M q1 o = r at *
        have HRT := Lib.hid hres; clear hres HRS h6
        have HC := Lib.hid C; clear C
        clear h0 HSTO HDYN HBLK
        go_wp2_with fail
        refine HC.out.mono ?_
        rintro e w5 ⟨x, q5, o5, a5, c5, rfl, hr, hq5, ho5, h7⟩
        clear HC c0 c1 c2 c3
        have h7 := h7.perm (show _ = blk b0 (.cells #[.string sb, .int .i64 (q1 : Int), .slice aj o.length cj, .int .i64 (M : Int)] 64) * (own 5 1 (.slice a5 o5.length c5) (o5.length) (o5.map bv) * (F)) by ac_rfl)
        have d0 := h7.cell 0 rfl
        have d1 := h7.cell 1 rfl
        have d2 := h7.cell 2 rfl
        have d3 := h7.cell 3 rfl
        have df0 := h7.free 0
        have df1 := h7.free 1
        have df2 := h7.free 2
        have df3 := h7.free 3
        have h8 := set4 h7 rfl (.string sb) (.int .i64 (q5 : Int)) (.slice a5 o5.length c5) (.int .i64 (M : Int))
        clear h7
        go_upto_region 19 with (fail)
        generalize (((w5.setCell ⟨b0, 0, none⟩ (.string sb)).setCell ⟨b0, 1, none⟩ (.int .i64 (q5 : Int))).setCell ⟨b0, 2, none⟩ (.slice a5 o5.length c5)).setCell ⟨b0, 3, none⟩ (.int .i64 (M : Int)) = W5 at *
        clear d0 d1 d2 d3 df0 df1 df2 df3
        have h8 : St w0 W5 (blk b0 (.cells #[.string sb, .int .i64 (q5 : Int), .slice a5 o5.length c5, .int .i64 (M : Int)] 64) * (own 5 1 (.slice a5 o5.length c5) (o5.length) (o5.map bv) * (F))) := h8
        cases r with
        | inl er =>
          obtain ⟨hx, hne0⟩ := hr
          subst hx
          simp only at HRT
          have hne2 : ¬ (x : Int) = 0 := by omega
          have H8 := Lib.hid (h8.right.right); clear h8
          go_wp2_with fail
          go_ret3
          first | exact ⟨[], 0, x, rfl, by rw [HR.out, ← HRT.out]; exact ⟨rfl, rfl, rfl⟩, H8.out⟩ | exact ⟨[], rfl, 0, x, rfl, by rw [HR.out, ← HRT.out]; exact ⟨rfl, rfl, rfl⟩, H8.out⟩ | exact ⟨[], 0, rfl, x, rfl, by rw [HR.out, ← HRT.out]; exact ⟨rfl, rfl, rfl⟩, H8.out⟩
        | inr qo =>
          obtain ⟨q6, o6⟩ := qo
          obtain ⟨hx, hq6, ho6⟩ := hr
          subst hx hq6 ho6
          simp only at HRT
          have hge := HGE.out q5 o5 rfl
          have hq55 := hq5 rfl
          clear hq5
          have h9 := h8.perm (show _ = blk b0 (.cells #[.string sb, .int .i64 (q5 : Int), .slice a5 o5.length c5, .int .i64 (M : Int)] 64) * (own 5 1 (.slice a5 o5.length c5) (o5.length) (o5.map bv) * (F)) by ac_rfl)
          have h9 := h9
          clear h8
          rcases hb1 with hb1 | hb1
          · have hres := HRT.out
            rw [if_neg (by omega)] at hres
            have HRX := Lib.hid hres; clear hres HRT
            have hne : ¬ (hd : Int) % 2 = 1 := by omega
            have H9 := Lib.hid h9; clear h9
            go_wp2_with fail
            go_roundg g
            case measure => omega
            case rel => exact ⟨q5, o5, a5, c5, by have := HG.out; have := HQ1.out; omega, ho5, HRX.out, hq55, H9.out⟩
          · have hres := HRT.out
            rw [if_pos hb1] at hres
            have HRX := Lib.hid hres; clear hres HRT
            have hne : (hd : Int) % 2 = 1 := by omega
            have d1 := h9.cell 1 rfl
            have d2 := h9.cell 2 rfl
            have hq7 : ((q5 : Int) + 7) / 8 = (((q5 + 7) / 8 : Nat) : Int) := by omega
            have hconv : ∀ m, (convert 22 9 (.slice a5 o5.length c5)).run Tryz.prog (W5.drewN m) = .ok (.string ⟨o5.toArray⟩) (W5.drewN m) := fun m => run_b2s Tryz.underlying22 Tryz.underlying5 Tryz.underlying9 (h9.drewN m).right.reads
            have H9 := Lib.hid h9; clear h9
            go_wp2_with fail
            go_quiet (fail)
            have h10 := (H9.out.drewN nq).right.right
            clear d1 d2
            generalize W5.drewN nq = w9 at *
            have H10 := Lib.hid h10; clear h10 H9 hconv
            go_wp2_with fail
            go_ret3
            refine ⟨o5, (q5 + 7) / 8, 0, ?_, by rw [HR.out, ← HRX.out]; exact ⟨rfl, rfl, rfl⟩, H10.out⟩
            first | rfl | (rw [hq7]; rfl)
      · have hdv : (hd : Int) / 2 = 3 := by omega
        have hres := HRS.out
        rw [partF, if_neg (by omega), if_neg (by omega), if_neg (by omega)] at hres
        have HRX := Lib.hid hres; clear hres HRS h0
        have H6 := Lib.hid h6; clear h6 c0 c1 c2 c3
        go_wp2_with fail
        go_ret3
        first | exact ⟨[], 0, 3, rfl, by rw [HR.out, ← HRX.out]; exact ⟨rfl, rfl, rfl⟩, H6.out.right.right⟩ | exact ⟨[], rfl, 0, 3, rfl, by rw [HR.out, ← HRX.out]; exact ⟨rfl, rfl, rfl⟩, H6.out.right.right⟩
end Go.Proofs.YtddifndfppilkaaGreat
