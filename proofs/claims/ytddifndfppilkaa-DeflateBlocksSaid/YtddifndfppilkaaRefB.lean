/-
  The document's block of words (package mezzotintref08).
-/
import Derived.Test.YtddifndfppilkaaRefN
import Derived.Test.YtddifndfppilkaaInfF
namespace Go.Proofs.Ytddifndfppilkaa
open Go.RowKit Go.Mz
set_option linter.unusedVariables false
set_option linter.unusedSimpArgs false
set_option maxRecDepth 100000

theorem rnumF_le {t : List Nat} (ht : Bit t) {l : List (Nat × Nat)} (hl : ∀ b ∈ l, b.1 ≤ 100000 ∧ b.2 ≤ 13) {i p q d : Nat} (h : numberF t l i p = .inr (q, d)) : d ≤ 200000 := by
  rw [numberF] at h
  cases e : l[i]? with
  | none => rw [e] at h; cases h
  | some b =>
    rw [e] at h
    simp only at h
    have h1 := hl b (List.mem_of_getElem? e)
    split at h
    · cases h
    · have h2 := (Prod.mk.inj (Sum.inr.inj h)).2
      have h3 : vl t p b.2 < 2 ^ b.2 := numV_lt true (fun i => t.getD (p + i) 0) (fun i => ht.getD _) b.2
      have h4 : 2 ^ b.2 ≤ 2 ^ 13 := Nat.pow_le_pow_right (by decide) h1.2
      omega

set_option maxHeartbeats 80000000 in
theorem rblock_any {w0 w : World} {F : SProp} {t : List Nat} (ht : Bit t) (hl : t.length ≤ 1000000000) {p : Nat} (hp : p ≤ t.length) {A B : List (List Nat)} (hbA : ∀ v ∈ A, Bit v) (hbB : ∀ v ∈ B, Bit v) (hA : A.length ≤ 900) (hB : B.length ≤ 900)
    {out : List UInt8} {most : Nat} (hom : out.length ≤ most) (hm : most ≤ 10000000000000) {ao : Option Addr} {co : Nat} (h : St w0 w (own 5 1 (.slice ao out.length co) (out.length) (out.map bv) * F)) {va vb : Value} (hva : Stb w0 F (fun w => Reads w 1 va A.length (A.map txv))) (hvb : Stb w0 F (fun w => Reads w 1 vb B.length (B.map txv))) {sb : ByteArray} (hsb : sb = ⟨(tx t).toArray⟩) :
    Calls Try.prog 48 #[.agg (rstC sb p (.slice ao out.length co) most), va, vb] w fun e w' => ∃ (x p' : Nat) (out' : List UInt8) (ao' : Option Addr) (co' : Nat),
      e = .returned (.tuple #[.agg (rstC sb p' (.slice ao' out'.length co') most), .int .i64 (x : Nat)]) ∧ ResR (blockF t A B most (t.length + 1 - p) p out) x p' out' ∧ (x = 0 → p' ≤ t.length) ∧ out'.length ≤ most ∧ St w0 w' (own 5 1 (.slice ao' out'.length co') out'.length (out'.map bv) * F) := by
  have T := elemBytes
  have h1 := (h.alloc (.cells (rstC sb p (.slice ao out.length co) most) 85)).alloc (.cells rst0 85)
  have hsz : (w.alloc (.cells (rstC sb p (.slice ao out.length co) most) 85)).heap.size = w.heap.size + 1 := by
    show (w.heap.push _).size = _
    exact Array.size_push _
  rw [hsz] at h1
  obtain ⟨aa, ca, rfl⟩ := (hva w h.right).sub
  obtain ⟨ab, cb, rfl⟩ := (hvb w h.right).sub
  have HNXA := Lib.hid (fun (w : World) (G : SProp) (h : St w0 w G) (hv : Stb w0 G (fun w => Reads w 1 (.slice aa A.length ca) A.length (A.map txv))) (q : Nat) (hq : q ≤ t.length) (ao : Option Addr) (no co : Nat) => rnext_any h ht hl hq hbA (by omega) hv (ao := ao) (no := no) (co := co) (most := (most : Int)) hsb)
  have HNXB := Lib.hid (fun (w : World) (G : SProp) (h : St w0 w G) (hv : Stb w0 G (fun w => Reads w 1 (.slice ab B.length cb) B.length (B.map txv))) (q : Nat) (hq : q ≤ t.length) (ao : Option Addr) (no co : Nat) => rnext_any h ht hl hq hbB (by omega) hv (ao := ao) (no := no) (co := co) (most := (most : Int)) hsb)
  have HNBR := Lib.hid (fun (w : World) (G : SProp) (h : St w0 w G) (q : Nat) (hq : q ≤ t.length) (i : Nat) (hi : i ≤ 100000) (far : Bool) (ao : Option Addr) (no co : Nat) => rnumber_any h ht hl hq i hi far (ao := ao) (no := no) (co := co) (most := (most : Int)) hsb)
  have HLEL := Lib.hid (fun (i p q d : Nat) => rnumF_le ht lensB_ok (i := i) (p := p) (q := q) (d := d))
  have HLED := Lib.hid (fun (i p q d : Nat) => rnumF_le ht distsB_ok (i := i) (p := p) (q := q) (d := d))
  have HPOS := Lib.hid (fun (i p q d : Nat) => numberF_pos (t := t) (i := i) (p := p) (q := q) (d := d))
  have HVA := Lib.hid hva; have HVB := Lib.hid hvb
  generalize hRES : blockF t A B most (t.length + 1 - p) p out = RES at *
  have HRES := Lib.hid hRES; clear hRES
  unfold rstC rst0 at h1
  clear h hsz hsb hva hvb
  have H1 := Lib.hid h1; clear h1
  unfold rstC at HNXA HNXB HNBR ⊢
  go_enter Try.func48, Try.ntmps48
  go_upto_region 1 with (fail)
  have h1 := H1.out
  clear H1
  generalize hb0 : w.heap.size = b0 at *
  generalize hb1 : b0 + 1 = b1 at *
  generalize hWW : (w.alloc (.cells #[.string sb, .int .i64 (p : Int), .slice ao out.length co, .int .i64 (most : Int)] 85)).alloc (.cells #[.string ⟨#[]⟩, .int .i64 0, .slice none 0 0, .int .i64 0] 85) = Ww at *
  have hne : ¬ b0 = b1 := by omega
  have hne' : ¬ b1 = b0 := by omega
  clear hb0 hb1 hWW
  have H2 := Lib.hid (h1.perm (show _ = blk b0 (.cells #[.string sb, .int .i64 (p : Int), .slice ao out.length co, .int .i64 (most : Int)] 85) * (own 5 1 (.slice ao out.length co) (out.length) (out.map bv) * (blk b1 (.cells #[.string ⟨#[]⟩, .int .i64 0, .slice none 0 0, .int .i64 0] 85) * F)) by ac_rfl)); clear h1
  go_wp2_with fail
  go_loopg [7] (t.length + 1 - p) (fun g u wr => ∃ (q : Nat) (o : List UInt8) (aj : Option Addr) (cj : Nat), t.length + 1 ≤ g + q ∧ o.length ≤ most ∧ blockF t A B most g q o = RES ∧ q ≤ t.length ∧ St w0 wr (blk b0 (.cells #[.string sb, .int .i64 (q : Int), .slice aj o.length cj, .int .i64 (most : Int)] 85) * (own 5 1 (.slice aj o.length cj) (o.length) (o.map bv) * (blk b1 (.cells #[.string ⟨#[]⟩, .int .i64 0, .slice none 0 0, .int .i64 0] 85) * F))))
  case atStart => exact ⟨p, out, ao, co, by omega, hom, HRES.out, hp, H2.out⟩
  case round =>
    clear H2 HRES
    obtain ⟨q, o, aj, cj, hg, hol, hres, hq, hst⟩ := hrel
    obtain ⟨g, rfl⟩ : ∃ g, gk = g + 1 := ⟨gk - 1, by omega⟩
    rw [blockF, blockS] at hres
    have HG := Lib.hid hg; clear hg
    have c0 := hst.cell 0 rfl
    have c1 := hst.cell 1 rfl
    have c2 := hst.cell 2 rfl
    have c3 := hst.cell 3 rfl
    have hlen := rdW_len A (t.drop q) []
    have hdl : (t.drop q).length = t.length - q := List.length_drop
    have C := HNXA.out wr _ hst (fun w h => HVA.out w h.right.right.right) q hq aj o.length cj
    generalize rdW A [] (t.drop q) = r at *
    obtain ⟨k, r⟩ := r
    have hk1 : q + k ≤ t.length := by have := hlen.2.1; simp only [List.length_nil, hdl] at this; omega
    have HC := Lib.hid C; clear C hst hdl
    have HRS := Lib.hid hres; clear hres
    go_wp2_with fail
    refine HC.out.mono ?_
    rintro e w2 ⟨z, x, p1, rfl, hrd, h3⟩
    have hA1 := h3.alloc (.cells #[.string sb, .int .i64 (p1 : Int), .slice aj o.length cj, .int .i64 (most : Int)] 85)
    clear h3 c0 c1 c2 c3 HC
    go_upto_region 2 with (fail)
    generalize w2.heap.size = bt at *
    generalize w2.alloc (.cells #[.string sb, .int .i64 (p1 : Int), .slice aj o.length cj, .int .i64 (most : Int)] 85) = W3 at *
    cases r with
    | inr er =>
      have her := hlen.2.2.2.2 er rfl
      obtain ⟨hp1, hx⟩ := hrd
      simp only at hx HRS
      subst hx
      have hx2 : ¬ (x : Int) = 0 := by omega
      clear hlen hp1 hk1
      have hB9 := hA1.perm (show _ = blk b1 (.cells #[.string ⟨#[]⟩, .int .i64 0, .slice none 0 0, .int .i64 0] 85) * (blk bt (.cells #[.string sb, .int .i64 (p1 : Int), .slice aj o.length cj, .int .i64 (most : Int)] 85) * (blk b0 (.cells #[.string sb, .int .i64 (q : Int), .slice aj o.length cj, .int .i64 (most : Int)] 85) * (own 5 1 (.slice aj o.length cj) (o.length) (o.map bv) * F))) by ac_rfl)
      have hS9 := hB9.perm (star_left_comm _ _ _)
      have s0 := hS9.cell 0 rfl
      have s1 := hS9.cell 1 rfl
      have s2 := hS9.cell 2 rfl
      have s3 := hS9.cell 3 rfl
      have r0 := hB9.cell 0 rfl
      have r1 := hB9.cell 1 rfl
      have r2 := hB9.cell 2 rfl
      have r3 := hB9.cell 3 rfl
      have rf0 := hB9.free 0
      have rf1 := hB9.free 1
      have rf2 := hB9.free 2
      have rf3 := hB9.free 3
      have HF := Lib.hid (set4 hB9 rfl (.string sb) (.int .i64 (p1 : Int)) (.slice aj o.length cj) (.int .i64 (most : Int)))
      clear hB9 hS9 hA1
      go_wp2_with fail
      refine bodyPost_ret2c rfl rfl HF.out.at_ Try.underlying85 rfl (by show _ = some 4; kernel_rfl) rfl ?_
      exact ⟨x, p1, o, aj, cj, rfl, by rw [← HRS.out]; exact ⟨rfl, by omega⟩, (fun h => by omega), hol, HF.out.right.right.right⟩
    | inl i =>
      obtain ⟨hk0, hi⟩ := hlen.2.2.2.1 i rfl
      obtain ⟨hp1, hx, hz⟩ := hrd
      subst hx hz
      simp only [List.length_nil] at HRS hk0
      rw [← hp1] at HRS
      have HP1 := Lib.hid (show p1 ≤ t.length by rw [hp1]; exact hk1)
      have HQ1 := Lib.hid (show q + 1 ≤ p1 by omega)
      clear hlen hp1 hk1 hk0
      have hbt := hA1.perm (show _ = blk b0 (.cells #[.string sb, .int .i64 (q : Int), .slice aj o.length cj, .int .i64 (most : Int)] 85) * (blk bt (.cells #[.string sb, .int .i64 (p1 : Int), .slice aj o.length cj, .int .i64 (most : Int)] 85) * (own 5 1 (.slice aj o.length cj) (o.length) (o.map bv) * (blk b1 (.cells #[.string ⟨#[]⟩, .int .i64 0, .slice none 0 0, .int .i64 0] 85) * F))) by ac_rfl)
      have t0 := hA1.cell 0 rfl
      have t1 := hA1.cell 1 rfl
      have t2 := hA1.cell 2 rfl
      have t3 := hA1.cell 3 rfl
      have r0 := hbt.cell 0 rfl
      have r1 := hbt.cell 1 rfl
      have r2 := hbt.cell 2 rfl
      have r3 := hbt.cell 3 rfl
      have rf0 := hbt.free 0
      have rf1 := hbt.free 1
      have rf2 := hbt.free 2
      have rf3 := hbt.free 3
      have h6 := set4 hbt rfl (.string sb) (.int .i64 (p1 : Int)) (.slice aj o.length cj) (.int .i64 (most : Int))
      clear hA1 hbt
      go_upto_region 5 with (fail)
      generalize (((W3.setCell ⟨b0, 0, none⟩ (.string sb)).setCell ⟨b0, 1, none⟩ (.int .i64 (p1 : Int))).setCell ⟨b0, 2, none⟩ (.slice aj o.length cj)).setCell ⟨b0, 3, none⟩ (.int .i64 (most : Int)) = W4 at *
      clear t0 t1 t2 t3 r0 r1 r2 r3 rf0 rf1 rf2 rf3
      have h7 : St w0 W4 (blk b0 (.cells #[.string sb, .int .i64 (p1 : Int), .slice aj o.length cj, .int .i64 (most : Int)] 85) * (blk bt (.cells #[.string sb, .int .i64 (p1 : Int), .slice aj o.length cj, .int .i64 (most : Int)] 85) * (own 5 1 (.slice aj o.length cj) (o.length) (o.map bv) * (blk b1 (.cells #[.string ⟨#[]⟩, .int .i64 0, .slice none 0 0, .int .i64 0] 85) * F)))) := h6
      clear h6
      by_cases hi256 : i = 256
      · subst hi256
        have hres := HRS.out
        rw [if_pos rfl] at hres
        have HRX := Lib.hid hres; clear hres HRS
        have hB9 := h7.perm (show _ = blk b1 (.cells #[.string ⟨#[]⟩, .int .i64 0, .slice none 0 0, .int .i64 0] 85) * (blk b0 (.cells #[.string sb, .int .i64 (p1 : Int), .slice aj o.length cj, .int .i64 (most : Int)] 85) * (blk bt (.cells #[.string sb, .int .i64 (p1 : Int), .slice aj o.length cj, .int .i64 (most : Int)] 85) * (own 5 1 (.slice aj o.length cj) (o.length) (o.map bv) * F))) by ac_rfl)
        have hS9 := hB9.perm (star_left_comm _ _ _)
        have s0 := hS9.cell 0 rfl
        have s1 := hS9.cell 1 rfl
        have s2 := hS9.cell 2 rfl
        have s3 := hS9.cell 3 rfl
        have r0 := hB9.cell 0 rfl
        have r1 := hB9.cell 1 rfl
        have r2 := hB9.cell 2 rfl
        have r3 := hB9.cell 3 rfl
        have rf0 := hB9.free 0
        have rf1 := hB9.free 1
        have rf2 := hB9.free 2
        have rf3 := hB9.free 3
        have HF := Lib.hid (set4 hB9 rfl (.string sb) (.int .i64 (p1 : Int)) (.slice aj o.length cj) (.int .i64 (most : Int)))
        clear hB9 hS9 h7
        go_wp2_with fail
        refine bodyPost_ret2c rfl rfl HF.out.at_ Try.underlying85 rfl (by show _ = some 4; kernel_rfl) rfl ?_
        exact ⟨0, p1, o, aj, cj, rfl, by rw [← HRX.out]; exact ⟨rfl, rfl, rfl⟩, (fun _ => HP1.out), hol, HF.out.right.right.right⟩
      have hi256' : ¬ (i : Int) = 256 := by omega
      have hi256b : ((i : Int) == 256) = false := by rw [beq_eq_false_iff_ne]; exact hi256'
      have hres := HRS.out
      rw [if_neg hi256] at hres
      clear HRS
      by_cases hlt : i < 256
      · have hlt2 : (i : Int) < 256 := by omega
        rw [if_pos hlt] at hres
        by_cases hlim : most ≤ o.length
        · rw [if_pos hlim] at hres
          have HRX := Lib.hid hres; clear hres
          have hl2 : (most : Int) ≤ o.length := by omega
          have hB9 := h7.perm (show _ = blk b1 (.cells #[.string ⟨#[]⟩, .int .i64 0, .slice none 0 0, .int .i64 0] 85) * (blk b0 (.cells #[.string sb, .int .i64 (p1 : Int), .slice aj o.length cj, .int .i64 (most : Int)] 85) * (blk bt (.cells #[.string sb, .int .i64 (p1 : Int), .slice aj o.length cj, .int .i64 (most : Int)] 85) * (own 5 1 (.slice aj o.length cj) (o.length) (o.map bv) * F))) by ac_rfl)
          have hS9 := hB9.perm (star_left_comm _ _ _)
          have s0 := hS9.cell 0 rfl
          have s1 := hS9.cell 1 rfl
          have s2 := hS9.cell 2 rfl
          have s3 := hS9.cell 3 rfl
          have r0 := hB9.cell 0 rfl
          have r1 := hB9.cell 1 rfl
          have r2 := hB9.cell 2 rfl
          have r3 := hB9.cell 3 rfl
          have rf0 := hB9.free 0
          have rf1 := hB9.free 1
          have rf2 := hB9.free 2
          have rf3 := hB9.free 3
          have HF := Lib.hid (set4 hB9 rfl (.string sb) (.int .i64 (p1 : Int)) (.slice aj o.length cj) (.int .i64 (most : Int)))
          clear hB9 hS9 h7
          go_wp2_with fail
          refine bodyPost_ret2c rfl rfl HF.out.at_ Try.underlying85 rfl (by show _ = some 4; kernel_rfl) rfl ?_
          exact ⟨8, p1, o, aj, cj, rfl, by rw [← HRX.out]; exact ⟨rfl, by decide⟩, (fun h => by cases h), hol, HF.out.right.right.right⟩
        · rw [if_neg hlim] at hres
          have HRX := Lib.hid hres; clear hres
          have hl2 : ¬ (most : Int) ≤ o.length := by omega
          have c0 := h7.cell 0 rfl
          have c1 := h7.cell 1 rfl
          have c2 := h7.cell 2 rfl
          have c3 := h7.cell 3 rfl
          have hw8 := wrap_u8n (c := i)
          generalize UInt8.ofNat i = ch at *
          have H7 := Lib.hid h7; clear h7
          go_wp2_with (at_builtin; apply stop)
          refine on (wpList_append_sep T rfl _ _ rfl rfl ((H7.out.drop_alloc (.cells #[.int .u8 (ch.toNat : Int)] 5)).perm (show _ = own 5 1 (.slice aj o.length cj) (o.length) (o.map bv) * (blk b0 (.cells #[.string sb, .int .i64 (p1 : Int), .slice aj o.length cj, .int .i64 (most : Int)] 85) * (blk bt (.cells #[.string sb, .int .i64 (p1 : Int), .slice aj o.length cj, .int .i64 (most : Int)] 85) * (blk b1 (.cells #[.string ⟨#[]⟩, .int .i64 0, .slice none 0 0, .int .i64 0] 85) * F))) by ac_rfl)) rfl (reads_u8 W4 ch) (bv_oneCell [ch]) ?_ ?_ ?_)
          · unfold maxLen; omega
          · omega
          intro v' w11 h11 _
          obtain ⟨a7, c7, rfl⟩ := h11.reads.sub
          have u2 := h11.right.cell 2 rfl
          have uf2 := h11.right.free 2
          have h12 := (h11.perm (star_left_comm _ _ _)).set 2 (.slice a7 (o.length + 1 : Nat) c7)
          have h13 : St w0 (w11.setCell ⟨b0, 2, none⟩ (.slice a7 (o.length + 1 : Nat) c7)) (blk b0 (.cells #[.string sb, .int .i64 (p1 : Int), .slice a7 (o ++ [ch]).length c7, .int .i64 (most : Int)] 85) * (own 5 1 (.slice a7 (o ++ [ch]).length c7) (o ++ [ch]).length ((o ++ [ch]).map bv) * (blk b1 (.cells #[.string ⟨#[]⟩, .int .i64 0, .slice none 0 0, .int .i64 0] 85) * F))) := by
            have e1 : (o ++ [ch]).length = o.length + 1 := by simp
            have e2 : (o ++ [ch]).map bv = o.map bv ++ [ch].map bv := by simp
            rw [e1, e2]
            exact ((h12.perm (show _ = blk bt (.cells #[.string sb, .int .i64 (p1 : Int), .slice aj o.length cj, .int .i64 (most : Int)] 85) * (blk b0 (.cells #[.string sb, .int .i64 (p1 : Int), .slice a7 (o.length + 1) c7, .int .i64 (most : Int)] 85) * (own 5 1 (.slice a7 (o.length + 1) c7) (o.length + 1) (o.map bv ++ [ch].map bv) * (blk b1 (.cells #[.string ⟨#[]⟩, .int .i64 0, .slice none 0 0, .int .i64 0] 85) * F))) by ac_rfl)).right)
          have H13 := Lib.hid h13; clear h13 h12 h11 H7 c0 c1 c2 c3
          go_wp2_with fail
          go_roundg g
          case measure => omega
          case rel => exact ⟨p1, o ++ [ch], a7, c7, by have := HG.out; have := HQ1.out; omega, by simp; omega, HRX.out, HP1.out, H13.out⟩
      · have hlt2 : ¬ (i : Int) < 256 := by omega
        rw [if_neg hlt] at hres
        have hsub : (i : Int) - 257 = ((i - 257 : Nat) : Int) := by omega
        have hnn : 0 ≤ ((i - 257 : Nat) : Int) := by omega
        have him : i - 257 ≤ 100000 := by omega
        have him2 : (i : Int) ≤ 100000 := by omega
        have c0 := h7.cell 0 rfl
        have c1 := h7.cell 1 rfl
        have c2 := h7.cell 2 rfl
        have c3 := h7.cell 3 rfl
        have C := HNBR.out W4 _ h7 p1 HP1.out (i - 257) him false aj o.length cj
        have C2 : fromsL false = lensB := rfl
        rw [C2] at C
        have HLN := Lib.hid (HLEL.out (i - 257) p1)
        have HNGE := Lib.hid (fun q d (h : numberF t lensB (i - 257) p1 = .inr (q, d)) => numberF_ge h)
        generalize numberF t lensB (i - 257) p1 = r at *
        generalize i - 257 = im at *
        have HC := Lib.hid C; clear C C2 h7
        have HRS := Lib.hid hres; clear hres
        clear hi256 hlt
        go_wp2_with fail
        refine HC.out.mono ?_
        rintro e w5 ⟨z, x, p2, rfl, hnr, hp2, h8⟩
        have HP2 := Lib.hid hp2; clear hp2 HC c0 c1 c2 c3
        have h9 := h8.perm (show _ = blk bt (.cells #[.string sb, .int .i64 (p1 : Int), .slice aj o.length cj, .int .i64 (most : Int)] 85) * (blk b0 (.cells #[.string sb, .int .i64 (p1 : Int), .slice aj o.length cj, .int .i64 (most : Int)] 85) * (own 5 1 (.slice aj o.length cj) (o.length) (o.map bv) * (blk b1 (.cells #[.string ⟨#[]⟩, .int .i64 0, .slice none 0 0, .int .i64 0] 85) * F))) by ac_rfl)
        have t0 := h9.cell 0 rfl
        have t1 := h9.cell 1 rfl
        have t2 := h9.cell 2 rfl
        have t3 := h9.cell 3 rfl
        have tf0 := h9.free 0
        have tf1 := h9.free 1
        have tf2 := h9.free 2
        have tf3 := h9.free 3
        have h10 := set4 h9 rfl (.string sb) (.int .i64 (p2 : Int)) (.slice aj o.length cj) (.int .i64 (most : Int))
        clear h8 h9
        go_upto_region 12 with (fail)
        generalize (((w5.setCell ⟨bt, 0, none⟩ (.string sb)).setCell ⟨bt, 1, none⟩ (.int .i64 (p2 : Int))).setCell ⟨bt, 2, none⟩ (.slice aj o.length cj)).setCell ⟨bt, 3, none⟩ (.int .i64 (most : Int)) = W5 at *
        clear t0 t1 t2 t3 tf0 tf1 tf2 tf3
        have h10 : St w0 W5 (blk bt (.cells #[.string sb, .int .i64 (p2 : Int), .slice aj o.length cj, .int .i64 (most : Int)] 85) * (blk b0 (.cells #[.string sb, .int .i64 (p1 : Int), .slice aj o.length cj, .int .i64 (most : Int)] 85) * (own 5 1 (.slice aj o.length cj) (o.length) (o.map bv) * (blk b1 (.cells #[.string ⟨#[]⟩, .int .i64 0, .slice none 0 0, .int .i64 0] 85) * F)))) := h10
        cases r with
        | inl er =>
          obtain ⟨hx, hne0⟩ := hnr
          subst hx
          simp only at HRS
          have hx2 : ¬ (x : Int) = 0 := by omega
          have hB9 := h10.perm (show _ = blk b1 (.cells #[.string ⟨#[]⟩, .int .i64 0, .slice none 0 0, .int .i64 0] 85) * (blk bt (.cells #[.string sb, .int .i64 (p2 : Int), .slice aj o.length cj, .int .i64 (most : Int)] 85) * (blk b0 (.cells #[.string sb, .int .i64 (p1 : Int), .slice aj o.length cj, .int .i64 (most : Int)] 85) * (own 5 1 (.slice aj o.length cj) (o.length) (o.map bv) * F))) by ac_rfl)
          have hS9 := hB9.perm (star_left_comm _ _ _)
          have s0 := hS9.cell 0 rfl
          have s1 := hS9.cell 1 rfl
          have s2 := hS9.cell 2 rfl
          have s3 := hS9.cell 3 rfl
          have r0 := hB9.cell 0 rfl
          have r1 := hB9.cell 1 rfl
          have r2 := hB9.cell 2 rfl
          have r3 := hB9.cell 3 rfl
          have rf0 := hB9.free 0
          have rf1 := hB9.free 1
          have rf2 := hB9.free 2
          have rf3 := hB9.free 3
          have HF := Lib.hid (set4 hB9 rfl (.string sb) (.int .i64 (p2 : Int)) (.slice aj o.length cj) (.int .i64 (most : Int)))
          clear hB9 hS9 h10
          go_wp2_with fail
          refine bodyPost_ret2c rfl rfl HF.out.at_ Try.underlying85 rfl (by show _ = some 4; kernel_rfl) rfl ?_
          exact ⟨x, p2, o, aj, cj, rfl, by rw [← HRS.out]; exact ⟨rfl, hne0⟩, (fun h => by omega), hol, HF.out.right.right.right⟩
        | inr qd =>
          obtain ⟨q', n⟩ := qd
          obtain ⟨hx, hq', hz⟩ := hnr
          subst hx hq' hz
          simp only at HRS
          have hn2 := HLN.out p2 n rfl
          have HGE1 := Lib.hid (show p1 ≤ p2 from HNGE.out p2 n rfl)
          clear HLN HNGE
          have HCR := Lib.hid (show copyR t B most n p2 o = match rdW B [] (t.drop p2) with
            | (_, .inr e) => .inl e
            | (k, .inl v) => (match numberF t distsB v (p2 + k) with
              | .inl e => .inl e
              | .inr (q, d) => if o.length < d then .inl 3 else if most < o.length + n then .inl 8 else .inr (q, copyF d n o)) from rfl)
          generalize copyR t B most n p2 o = CR at *
          have c0 := h10.cell 0 rfl
          have c1 := h10.cell 1 rfl
          have c2 := h10.cell 2 rfl
          have c3 := h10.cell 3 rfl
          have hlen := rdW_len B (t.drop p2) []
          have hdl : (t.drop p2).length = t.length - p2 := List.length_drop
          have C := HNXB.out W5 _ h10 (fun w h => HVB.out w h.right.right.right.right) p2 HP2.out aj o.length cj
          generalize rdW B [] (t.drop p2) = r at *
          obtain ⟨k, r⟩ := r
          have hk1 : p2 + k ≤ t.length := by have hx1 := HP2.out; have := hlen.2.1; simp only [List.length_nil, hdl] at this; omega
          have HC := Lib.hid C; clear C h10 hdl
          go_wp2_with fail
          refine HC.out.mono ?_
          rintro e w6 ⟨z, x, p3, rfl, hrd, h11⟩
          clear HC c0 c1 c2 c3
          have t0 := h11.cell 0 rfl
          have t1 := h11.cell 1 rfl
          have t2 := h11.cell 2 rfl
          have t3 := h11.cell 3 rfl
          have tf0 := h11.free 0
          have tf1 := h11.free 1
          have tf2 := h11.free 2
          have tf3 := h11.free 3
          have h12 := set4 h11 rfl (.string sb) (.int .i64 (p3 : Int)) (.slice aj o.length cj) (.int .i64 (most : Int))
          clear h11
          go_upto_region 15 with (fail)
          generalize (((w6.setCell ⟨bt, 0, none⟩ (.string sb)).setCell ⟨bt, 1, none⟩ (.int .i64 (p3 : Int))).setCell ⟨bt, 2, none⟩ (.slice aj o.length cj)).setCell ⟨bt, 3, none⟩ (.int .i64 (most : Int)) = W6 at *
          clear t0 t1 t2 t3 tf0 tf1 tf2 tf3
          have h12 : St w0 W6 (blk bt (.cells #[.string sb, .int .i64 (p3 : Int), .slice aj o.length cj, .int .i64 (most : Int)] 85) * (blk b0 (.cells #[.string sb, .int .i64 (p1 : Int), .slice aj o.length cj, .int .i64 (most : Int)] 85) * (own 5 1 (.slice aj o.length cj) (o.length) (o.map bv) * (blk b1 (.cells #[.string ⟨#[]⟩, .int .i64 0, .slice none 0 0, .int .i64 0] 85) * F)))) := h12
          cases r with
          | inr er =>
            have her := hlen.2.2.2.2 er rfl
            obtain ⟨hp3, hx⟩ := hrd
            have hcr := HCR.out
            simp only at hx hcr
            subst hx
            have hx2 : ¬ (x : Int) = 0 := by omega
            clear hlen hp3 hk1 HCR
            have hB9 := h12.perm (show _ = blk b1 (.cells #[.string ⟨#[]⟩, .int .i64 0, .slice none 0 0, .int .i64 0] 85) * (blk bt (.cells #[.string sb, .int .i64 (p3 : Int), .slice aj o.length cj, .int .i64 (most : Int)] 85) * (blk b0 (.cells #[.string sb, .int .i64 (p1 : Int), .slice aj o.length cj, .int .i64 (most : Int)] 85) * (own 5 1 (.slice aj o.length cj) (o.length) (o.map bv) * F))) by ac_rfl)
            have hS9 := hB9.perm (star_left_comm _ _ _)
            have s0 := hS9.cell 0 rfl
            have s1 := hS9.cell 1 rfl
            have s2 := hS9.cell 2 rfl
            have s3 := hS9.cell 3 rfl
            have r0 := hB9.cell 0 rfl
            have r1 := hB9.cell 1 rfl
            have r2 := hB9.cell 2 rfl
            have r3 := hB9.cell 3 rfl
            have rf0 := hB9.free 0
            have rf1 := hB9.free 1
            have rf2 := hB9.free 2
            have rf3 := hB9.free 3
            have HF := Lib.hid (set4 hB9 rfl (.string sb) (.int .i64 (p3 : Int)) (.slice aj o.length cj) (.int .i64 (most : Int)))
            clear hB9 hS9 h12
            go_wp2_with fail
            refine bodyPost_ret2c rfl rfl HF.out.at_ Try.underlying85 rfl (by show _ = some 4; kernel_rfl) rfl ?_
            have hres := HRS.out
            rw [hcr] at hres
            simp only at hres
            exact ⟨x, p3, o, aj, cj, rfl, by rw [← hres]; exact ⟨rfl, by omega⟩, (fun h => by omega), hol, HF.out.right.right.right⟩
          | inl kk =>
            have hkk := (hlen.2.2.2.1 kk rfl).2
            obtain ⟨hp3, hx, hz⟩ := hrd
            subst hx hz
            have hcr := HCR.out
            clear HCR
            simp only at hcr
            rw [← hp3] at hcr
            have HP3 := Lib.hid (show p3 ≤ t.length by rw [hp3]; exact hk1)
            have HGE2 := Lib.hid (show p2 ≤ p3 by omega)
            clear hlen hp3 hk1
            have c0 := h12.cell 0 rfl
            have c1 := h12.cell 1 rfl
            have c2 := h12.cell 2 rfl
            have c3 := h12.cell 3 rfl
            have C := HNBR.out W6 _ h12 p3 HP3.out kk (by omega) true aj o.length cj
            have C2 : fromsL true = distsB := rfl
            rw [C2] at C
            have HLN := Lib.hid (HLED.out kk p3)
            have HPS := Lib.hid (HPOS.out kk p3)
            have HNGE := Lib.hid (fun q d (h : numberF t distsB kk p3 = .inr (q, d)) => numberF_ge h)
            generalize numberF t distsB kk p3 = r at *
            have HC := Lib.hid C; clear C C2 h12
            have HCR := Lib.hid hcr; clear hcr
            have hkk2 : kk ≤ 900 := by omega
            go_wp2_with fail
            refine HC.out.mono ?_
            rintro e w7 ⟨z, x, p4, rfl, hnr, hp4, h13⟩
            have HP4 := Lib.hid hp4; clear hp4 HC c0 c1 c2 c3
            have t0 := h13.cell 0 rfl
            have t1 := h13.cell 1 rfl
            have t2 := h13.cell 2 rfl
            have t3 := h13.cell 3 rfl
            have tf0 := h13.free 0
            have tf1 := h13.free 1
            have tf2 := h13.free 2
            have tf3 := h13.free 3
            have h14 := set4 h13 rfl (.string sb) (.int .i64 (p4 : Int)) (.slice aj o.length cj) (.int .i64 (most : Int))
            clear h13
            go_upto_region 18 with (fail)
            generalize (((w7.setCell ⟨bt, 0, none⟩ (.string sb)).setCell ⟨bt, 1, none⟩ (.int .i64 (p4 : Int))).setCell ⟨bt, 2, none⟩ (.slice aj o.length cj)).setCell ⟨bt, 3, none⟩ (.int .i64 (most : Int)) = W7 at *
            clear t0 t1 t2 t3 tf0 tf1 tf2 tf3
            have h14 : St w0 W7 (blk bt (.cells #[.string sb, .int .i64 (p4 : Int), .slice aj o.length cj, .int .i64 (most : Int)] 85) * (blk b0 (.cells #[.string sb, .int .i64 (p1 : Int), .slice aj o.length cj, .int .i64 (most : Int)] 85) * (own 5 1 (.slice aj o.length cj) (o.length) (o.map bv) * (blk b1 (.cells #[.string ⟨#[]⟩, .int .i64 0, .slice none 0 0, .int .i64 0] 85) * F)))) := h14
            cases r with
            | inl er =>
              obtain ⟨hx, hne0⟩ := hnr
              subst hx
              have hcr := HCR.out
              simp only at hcr
              have hx2 : ¬ (x : Int) = 0 := by omega
              have hB9 := h14.perm (show _ = blk b1 (.cells #[.string ⟨#[]⟩, .int .i64 0, .slice none 0 0, .int .i64 0] 85) * (blk bt (.cells #[.string sb, .int .i64 (p4 : Int), .slice aj o.length cj, .int .i64 (most : Int)] 85) * (blk b0 (.cells #[.string sb, .int .i64 (p1 : Int), .slice aj o.length cj, .int .i64 (most : Int)] 85) * (own 5 1 (.slice aj o.length cj) (o.length) (o.map bv) * F))) by ac_rfl)
              have hS9 := hB9.perm (star_left_comm _ _ _)
              have s0 := hS9.cell 0 rfl
              have s1 := hS9.cell 1 rfl
              have s2 := hS9.cell 2 rfl
              have s3 := hS9.cell 3 rfl
              have r0 := hB9.cell 0 rfl
              have r1 := hB9.cell 1 rfl
              have r2 := hB9.cell 2 rfl
              have r3 := hB9.cell 3 rfl
              have rf0 := hB9.free 0
              have rf1 := hB9.free 1
              have rf2 := hB9.free 2
              have rf3 := hB9.free 3
              have HF := Lib.hid (set4 hB9 rfl (.string sb) (.int .i64 (p4 : Int)) (.slice aj o.length cj) (.int .i64 (most : Int)))
              clear hB9 hS9 h14
              go_wp2_with fail
              refine bodyPost_ret2c rfl rfl HF.out.at_ Try.underlying85 rfl (by show _ = some 4; kernel_rfl) rfl ?_
              have hres := HRS.out
              rw [hcr] at hres
              simp only at hres
              exact ⟨x, p4, o, aj, cj, rfl, by rw [← hres]; exact ⟨rfl, hne0⟩, (fun h => by omega), hol, HF.out.right.right.right⟩
            | inr qd =>
              obtain ⟨q', d⟩ := qd
              obtain ⟨hx, hq', hz⟩ := hnr
              subst hx hq' hz
              have hcr := HCR.out
              simp only at hcr
              have hd2 := HLN.out p4 d rfl
              have hd1 := HPS.out p4 d rfl
              have HGE3 := Lib.hid (show p3 ≤ p4 from HNGE.out p4 d rfl)
              clear HLN HPS HNGE HCR
              have h15 := h14.perm (star_left_comm _ _ _)
              have t0 := h14.cell 0 rfl
              have t1 := h14.cell 1 rfl
              have t2 := h14.cell 2 rfl
              have t3 := h14.cell 3 rfl
              have r0 := h15.cell 0 rfl
              have r1 := h15.cell 1 rfl
              have r2 := h15.cell 2 rfl
              have r3 := h15.cell 3 rfl
              have rf0 := h15.free 0
              have rf1 := h15.free 1
              have rf2 := h15.free 2
              have rf3 := h15.free 3
              have h16 := set4 h15 rfl (.string sb) (.int .i64 (p4 : Int)) (.slice aj o.length cj) (.int .i64 (most : Int))
              clear h14 h15
              go_upto_region 21 with (fail)
              generalize (((W7.setCell ⟨b0, 0, none⟩ (.string sb)).setCell ⟨b0, 1, none⟩ (.int .i64 (p4 : Int))).setCell ⟨b0, 2, none⟩ (.slice aj o.length cj)).setCell ⟨b0, 3, none⟩ (.int .i64 (most : Int)) = W8 at *
              clear t0 t1 t2 t3 r0 r1 r2 r3 rf0 rf1 rf2 rf3
              have h16 : St w0 W8 (blk b0 (.cells #[.string sb, .int .i64 (p4 : Int), .slice aj o.length cj, .int .i64 (most : Int)] 85) * (blk bt (.cells #[.string sb, .int .i64 (p4 : Int), .slice aj o.length cj, .int .i64 (most : Int)] 85) * (own 5 1 (.slice aj o.length cj) (o.length) (o.map bv) * (blk b1 (.cells #[.string ⟨#[]⟩, .int .i64 0, .slice none 0 0, .int .i64 0] 85) * F)))) := h16
              by_cases hdo : o.length < d
              · have hdo2 : (o.length : Int) < d := by omega
                rw [if_pos hdo] at hcr
                have hB9 := h16.perm (show _ = blk b1 (.cells #[.string ⟨#[]⟩, .int .i64 0, .slice none 0 0, .int .i64 0] 85) * (blk b0 (.cells #[.string sb, .int .i64 (p4 : Int), .slice aj o.length cj, .int .i64 (most : Int)] 85) * (blk bt (.cells #[.string sb, .int .i64 (p4 : Int), .slice aj o.length cj, .int .i64 (most : Int)] 85) * (own 5 1 (.slice aj o.length cj) (o.length) (o.map bv) * F))) by ac_rfl)
                have hS9 := hB9.perm (star_left_comm _ _ _)
                have s0 := hS9.cell 0 rfl
                have s1 := hS9.cell 1 rfl
                have s2 := hS9.cell 2 rfl
                have s3 := hS9.cell 3 rfl
                have r0 := hB9.cell 0 rfl
                have r1 := hB9.cell 1 rfl
                have r2 := hB9.cell 2 rfl
                have r3 := hB9.cell 3 rfl
                have rf0 := hB9.free 0
                have rf1 := hB9.free 1
                have rf2 := hB9.free 2
                have rf3 := hB9.free 3
                have HF := Lib.hid (set4 hB9 rfl (.string sb) (.int .i64 (p4 : Int)) (.slice aj o.length cj) (.int .i64 (most : Int)))
                clear hB9 hS9 h16
                go_wp2_with fail
                refine bodyPost_ret2c rfl rfl HF.out.at_ Try.underlying85 rfl (by show _ = some 4; kernel_rfl) rfl ?_
                have hres := HRS.out
                rw [hcr] at hres
                simp only at hres
                exact ⟨3, p4, o, aj, cj, rfl, by rw [← hres]; exact ⟨rfl, by decide⟩, (fun h => by cases h), hol, HF.out.right.right.right⟩
              have hdo2 : ¬ (o.length : Int) < d := by omega
              rw [if_neg hdo] at hcr
              by_cases hlim : most < o.length + n
              · have hl2 : (most : Int) < o.length + n := by omega
                rw [if_pos hlim] at hcr
                have hB9 := h16.perm (show _ = blk b1 (.cells #[.string ⟨#[]⟩, .int .i64 0, .slice none 0 0, .int .i64 0] 85) * (blk b0 (.cells #[.string sb, .int .i64 (p4 : Int), .slice aj o.length cj, .int .i64 (most : Int)] 85) * (blk bt (.cells #[.string sb, .int .i64 (p4 : Int), .slice aj o.length cj, .int .i64 (most : Int)] 85) * (own 5 1 (.slice aj o.length cj) (o.length) (o.map bv) * F))) by ac_rfl)
                have hS9 := hB9.perm (star_left_comm _ _ _)
                have s0 := hS9.cell 0 rfl
                have s1 := hS9.cell 1 rfl
                have s2 := hS9.cell 2 rfl
                have s3 := hS9.cell 3 rfl
                have r0 := hB9.cell 0 rfl
                have r1 := hB9.cell 1 rfl
                have r2 := hB9.cell 2 rfl
                have r3 := hB9.cell 3 rfl
                have rf0 := hB9.free 0
                have rf1 := hB9.free 1
                have rf2 := hB9.free 2
                have rf3 := hB9.free 3
                have HF := Lib.hid (set4 hB9 rfl (.string sb) (.int .i64 (p4 : Int)) (.slice aj o.length cj) (.int .i64 (most : Int)))
                clear hB9 hS9 h16
                go_wp2_with fail
                refine bodyPost_ret2c rfl rfl HF.out.at_ Try.underlying85 rfl (by show _ = some 4; kernel_rfl) rfl ?_
                have hres := HRS.out
                rw [hcr] at hres
                simp only at hres
                exact ⟨8, p4, o, aj, cj, rfl, by rw [← hres]; exact ⟨rfl, by decide⟩, (fun h => by cases h), hol, HF.out.right.right.right⟩
              have hl2 : ¬ (most : Int) < o.length + n := by omega
              rw [if_neg hlim] at hcr
              rw [hcr] at HRS
              simp only at HRS
              have c0 := h16.cell 0 rfl
              have c1 := h16.cell 1 rfl
              have c2 := h16.cell 2 rfl
              have c3 := h16.cell 3 rfl
              have H16 := Lib.hid h16; clear h16 hcr
              go_upto_region 25 with (fail)
              clear c0 c1 c2 c3
              go_wp2_with fail
              go_loopw [14] (fun vi wr => ∃ (j : Nat) (a5 : Option Addr) (c5 : Nat), j ≤ n ∧ vi = .int .i64 j ∧ St w0 wr (blk b0 (.cells #[.string sb, .int .i64 (p4 : Int), .slice a5 (copyF d j o).length c5, .int .i64 (most : Int)] 85) * (blk bt (.cells #[.string sb, .int .i64 (p4 : Int), .slice aj o.length cj, .int .i64 (most : Int)] 85) * (own 5 1 (.slice a5 (copyF d j o).length c5) ((copyF d j o).length) ((copyF d j o).map bv) * (blk b1 (.cells #[.string ⟨#[]⟩, .int .i64 0, .slice none 0 0, .int .i64 0] 85) * F))))) (fun vi _ => n - (intOf vi).toNat)
              case atStart => exact ⟨0, aj, cj, by omega, rfl, H16.out⟩
              case round =>
                clear H16
                obtain ⟨j, a5, c5, hj, rfl, hst⟩ := hrel
                by_cases hjn : j < n
                · have hcl := copyF_len d j o
                  have HSN := Lib.hid (copyF_snoc d j o)
                  generalize copyF d j o = o5 at *
                  have c2 := hst.cell 2 rfl
                  have hst2 := hst.perm (show _ = own 5 1 (.slice a5 o5.length c5) (o5.length) (o5.map bv) * (blk b0 (.cells #[.string sb, .int .i64 (p4 : Int), .slice a5 o5.length c5, .int .i64 (most : Int)] 85) * (blk bt (.cells #[.string sb, .int .i64 (p4 : Int), .slice aj o.length cj, .int .i64 (most : Int)] 85) * (blk b1 (.cells #[.string ⟨#[]⟩, .int .i64 0, .slice none 0 0, .int .i64 0] 85) * F))) by ac_rfl)
                  obtain ⟨go, rfl⟩ := own_at hst2 (by omega)
                  have hbc := hst2.own_cell (bv_cell o5 (i := o5.length - d) (by omega))
                  have hjj : (j : Int) < n := by omega
                  have hL5 : StL w0 wr [own 5 1 (.slice (some ⟨go, 0, none⟩) o5.length c5) (o5.length) (o5.map bv), blk b0 (.cells #[.string sb, .int .i64 (p4 : Int), .slice (some ⟨go, 0, none⟩) o5.length c5, .int .i64 (most : Int)] 85), blk bt (.cells #[.string sb, .int .i64 (p4 : Int), .slice aj o.length cj, .int .i64 (most : Int)] 85) * (blk b1 (.cells #[.string ⟨#[]⟩, .int .i64 0, .slice none 0 0, .int .i64 0] 85) * F)] := hst2.perm (by simp only [prodL]; rw [star_comm _ emp, emp_star])
                  have HL5 := Lib.hid hL5; clear hL5 hst hst2
                  generalize o5.getD (o5.length - d) 0 = ch at *
                  have hsub : IntKind.i64.wrap ((o5.length - d : Nat) : Int) = ((o5.length - d : Nat) : Int) := IntWalk.i64_in _ (by omega)
                  have hod0 : 0 ≤ (((o5.length - d : Nat) : Nat) : Int) := by omega
                  have hod1 : ((o5.length - d : Nat) : Int) < o5.length := by omega
                  have holen : o5.length ≤ 10000000000000 := by omega
                  have hsub2 : ((o5.length : Int) - d) = ((o5.length - d : Nat) : Int) := by omega
                  have HCL := Lib.hid hcl; clear hcl
                  have hlt9 : o5.length - d < o5.length := by omega
                  generalize o5.length - d = od at *
                  simp only [bv] at hbc
                  go_upto_region 29 with (fail)
                  refine wp_region_noPanic ?_
                  refine region_till (S := fun w' : World => w'.cell? ⟨b0, 2, none⟩ = some (.slice (some ⟨go, 0, none⟩) o5.length c5)) (k := 9) (by kernel_rfl) ?_
                  have hS : (fun w' : World => w'.cell? ⟨b0, 2, none⟩ = some (.slice (some ⟨go, 0, none⟩) o5.length c5)) wr.drew := c2
                  refine till_take0 (i := 0) (oi := ?_) (v := ?_) ?_ (by kernel_rfl) (by kernel_rfl) (by kernel_rfl) (by decide) (fun _ _ _ h => h.elim) (by assumption) (.inl ⟨?_, fun w => ?_⟩) ?_
                  rotate_left 2
                  · (simp only [List.getElem?_toArray, List.getElem?_cons_succ, List.getElem?_cons_zero]; rfl)
                  · rfl
                  · (go_simp; try with_reducible rfl)
                  simp only [Act.put, List.setIfInBounds_toArray, List.set_cons_zero, List.set_cons_succ]
                  refine till_take (i := 1) (oi := ?_) (v := ?_) ?_ (by kernel_rfl) (by kernel_rfl) (by kernel_rfl) (by kernel_rfl) (by kernel_rfl) (fun _ _ _ h => h.elim) (by assumption) (.inl ⟨?_, fun w hSw => ?_⟩) ?_
                  rotate_left 2
                  · (simp only [List.getElem?_toArray, List.getElem?_cons_succ, List.getElem?_cons_zero]; rfl)
                  · rfl
                  · ((try dsimp only at hSw); go_simp; try with_reducible rfl)
                  simp only [Act.put, List.setIfInBounds_toArray, List.set_cons_zero, List.set_cons_succ]
                  refine till_take0 (i := 2) (oi := ?_) (v := ?_) ?_ (by kernel_rfl) (by kernel_rfl) (by kernel_rfl) (by decide) (fun _ _ _ h => h.elim) (by assumption) (.inl ⟨?_, fun w => ?_⟩) ?_
                  rotate_left 2
                  · (simp only [List.getElem?_toArray, List.getElem?_cons_succ, List.getElem?_cons_zero]; rfl)
                  · rfl
                  · (go_simp; try with_reducible rfl)
                  simp only [Act.put, List.setIfInBounds_toArray, List.set_cons_zero, List.set_cons_succ]
                  refine till_take (i := 3) (oi := ?_) (v := ?_) ?_ (by kernel_rfl) (by kernel_rfl) (by kernel_rfl) (by kernel_rfl) (by kernel_rfl) (fun _ _ _ h => h.elim) (by assumption) (.inl ⟨?_, fun w hSw => ?_⟩) ?_
                  rotate_left 2
                  · (simp only [List.getElem?_toArray, List.getElem?_cons_succ, List.getElem?_cons_zero]; rfl)
                  · rfl
                  · ((try dsimp only at hSw); go_simp; try with_reducible rfl)
                  simp only [Act.put, List.setIfInBounds_toArray, List.set_cons_zero, List.set_cons_succ]
                  refine till_take0 (i := 4) (oi := ?_) (v := ?_) ?_ (by kernel_rfl) (by kernel_rfl) (by kernel_rfl) (by decide) (fun _ _ _ h => h.elim) (by assumption) (.inl ⟨?_, fun w => ?_⟩) ?_
                  rotate_left 2
                  · (simp only [List.getElem?_toArray, List.getElem?_cons_succ, List.getElem?_cons_zero]; rfl)
                  · rfl
                  · (go_simp; try with_reducible rfl)
                  simp only [Act.put, List.setIfInBounds_toArray, List.set_cons_zero, List.set_cons_succ]
                  refine till_take0 (i := 5) (oi := ?_) (v := ?_) ?_ (by kernel_rfl) (by kernel_rfl) (by kernel_rfl) (by decide) (fun _ _ _ h => h.elim) (by assumption) (.inl ⟨?_, fun w => ?_⟩) ?_
                  rotate_left 2
                  · (simp only [List.getElem?_toArray, List.getElem?_cons_succ, List.getElem?_cons_zero]; rfl)
                  · rfl
                  · (go_simp; try with_reducible rfl)
                  simp only [Act.put, List.setIfInBounds_toArray, List.set_cons_zero, List.set_cons_succ]
                  refine till_one (i := 6) (by kernel_rfl) ?_
                  refine wpOp_step (by rfl) fun K hK => ?_
                  go_simp
                  refine hK _ _ ⟨fun e => hS, ?_⟩
                  clear hK K
                  refine till_one (i := 7) (by kernel_rfl) ?_
                  refine wpOp_step (by rfl) fun K hK => ?_
                  go_simp
                  have hL6 := (HL5.out.alloc rfl (.cells #[.int .u8 (ch.toNat : Int)] 5)).drew
                  simp only [List.cons_append, List.nil_append] at hL6
                  have c6 := hL6.cell (i := 1) rfl 2 rfl
                  refine hK _ _ ⟨fun e => c6, ?_⟩
                  clear hK K hS c2 hbc
                  generalize hB6 : wr.heap.size = b6 at *
                  generalize hW6 : (wr.alloc (Obj.cells #[Value.int .u8 (ch.toNat : Int)] 5)).drew = W9 at *
                  clear hB6 hW6
                  refine till_one (i := 8) (by kernel_rfl) ?_
                  refine wpOp_step (by rfl) fun K hK => ?_
                  refine step_append_L elemBytes rfl _ _ rfl rfl hL6 0 rfl (x := .slice (some ⟨b6, 0, none⟩) 1 1) rfl (m := 1) (news := [bv ch]) (hL6.one (i := 3) rfl) (by intro u hu; simp at hu; subst hu; rfl) (by unfold maxLen; omega) (by omega) fun v' W10 h7 _ => ?_
                  have c7 := h7.cell (i := 1) rfl 2 rfl
                  refine hK _ _ ⟨fun e => c7, ?_⟩
                  clear hK K
                  simp only [List.set_cons_zero] at h7
                  simp only [Act.put, List.setIfInBounds_toArray, List.set_cons_zero, List.set_cons_succ]
                  refine till_one (i := 9) (by kernel_rfl) ?_
                  refine wpOp_step (by rfl) fun K hK => ?_
                  go_simp
                  refine hK _ _ ⟨fun e => (by cases e), ?_⟩
                  clear hK K
                  obtain ⟨a7, c7', rfl⟩ := (h7.reads (i := 0) rfl).sub
                  have e0 := h7.cell (i := 1) rfl 2 rfl
                  have f0 := h7.free (i := 1) rfl 2
                  have h8 := h7.set (i := 1) rfl 2 (.slice a7 (o5.length + 1 : Nat) c7')
                  refine till_one (i := 10) (by kernel_rfl) ?_
                  refine wpOp_step (by rfl) fun K hK => ?_
                  go_simp
                  refine hK _ _ ⟨fun e => (by cases e), ?_⟩
                  clear hK K e0 f0
                  refine ⟨by kernel_rfl, NoPanic.normal ?_⟩
                  simp only [List.set_cons_zero, List.set_cons_succ, List.setIfInBounds_toArray] at h8
                  generalize W10.setCell ⟨b0, 2, none⟩ (.slice a7 (o5.length + 1 : Nat) c7') = W11 at *
                  have h9 : St w0 W11 (blk b0 (.cells #[.string sb, .int .i64 (p4 : Int), .slice a7 (o5 ++ [ch]).length c7', .int .i64 (most : Int)] 85) * (blk bt (.cells #[.string sb, .int .i64 (p4 : Int), .slice aj o.length cj, .int .i64 (most : Int)] 85) * (own 5 1 (.slice a7 (o5 ++ [ch]).length c7') (o5 ++ [ch]).length ((o5 ++ [ch]).map bv) * (blk b1 (.cells #[.string ⟨#[]⟩, .int .i64 0, .slice none 0 0, .int .i64 0] 85) * F)))) := by
                    have e1 : (o5 ++ [ch]).length = o5.length + 1 := by simp
                    have e2 : (o5 ++ [ch]).map bv = o5.map bv ++ [bv ch] := by simp
                    rw [e1, e2]
                    have h10 : St w0 W11 (own 5 1 (.slice a7 (o5.length + 1) c7') (o5.length + 1) (o5.map bv ++ [bv ch]) * (blk b0 (.cells #[.string sb, .int .i64 (p4 : Int), .slice a7 (o5.length + 1) c7', .int .i64 (most : Int)] 85) * ((blk bt (.cells #[.string sb, .int .i64 (p4 : Int), .slice aj o.length cj, .int .i64 (most : Int)] 85) * (blk b1 (.cells #[.string ⟨#[]⟩, .int .i64 0, .slice none 0 0, .int .i64 0] 85) * F)) * (blk b6 (.cells #[.int .u8 (ch.toNat : Int)] 5) * emp)))) := h8
                    have h11 := h10.perm (show _ = blk b6 (.cells #[.int .u8 (ch.toNat : Int)] 5) * (emp * (blk b0 (.cells #[.string sb, .int .i64 (p4 : Int), .slice a7 (o5.length + 1) c7', .int .i64 (most : Int)] 85) * (blk bt (.cells #[.string sb, .int .i64 (p4 : Int), .slice aj o.length cj, .int .i64 (most : Int)] 85) * (own 5 1 (.slice a7 (o5.length + 1) c7') (o5.length + 1) (o5.map bv ++ [bv ch]) * (blk b1 (.cells #[.string ⟨#[]⟩, .int .i64 0, .slice none 0 0, .int .i64 0] 85) * F))))) by ac_rfl)
                    exact h11.right.right
                  rw [← HSN.out] at h9
                  have H9 := Lib.hid h9; clear h9 h8 h7 hL6 c6 c7
                  go_wp2_with fail
                  exact ⟨⟨j + 1, a7, c7', by omega, by go_num, H9.out⟩, by simp [intOf]; omega⟩
                · obtain rfl : j = n := by omega
                  have hcl := copyF_len d j o
                  have H17 := Lib.hid (hst.perm (show _ = blk bt (.cells #[.string sb, .int .i64 (p4 : Int), .slice aj o.length cj, .int .i64 (most : Int)] 85) * (blk b0 (.cells #[.string sb, .int .i64 (p4 : Int), .slice a5 (copyF d j o).length c5, .int .i64 (most : Int)] 85) * (own 5 1 (.slice a5 (copyF d j o).length c5) ((copyF d j o).length) ((copyF d j o).map bv) * (blk b1 (.cells #[.string ⟨#[]⟩, .int .i64 0, .slice none 0 0, .int .i64 0] 85) * F))) by ac_rfl)).right; clear hst
                  go_wp2_with fail
                  go_roundg g
                  case measure => omega
                  case rel => exact ⟨p4, copyF d j o, a5, c5, by have := HG.out; have := HQ1.out; have := HGE1.out; have := HGE2.out; have := HGE3.out; omega, by omega, HRS.out, HP4.out, H17.out⟩
end Go.Proofs.Ytddifndfppilkaa
