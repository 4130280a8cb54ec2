/-
  Layer 8 (inflate): what words of lengths tell, up to the end's.
-/
import Derived.Test.YtddifndfppilkaaGreatInfE
namespace Go.Proofs.YtddifndfppilkaaGreat
open Go.RowKit Go.Mz
set_option linter.unusedVariables false
set_option linter.unusedSimpArgs false
set_option maxRecDepth 100000

theorem wordsF_len {l : List Nat} {how : Nat} {W : List (List Nat)} (h : wordsF l how = .inr W) : W.length = l.length := by
  rw [wordsF] at h
  split at h
  · cases h
  · split at h
    · cases h
    · rename_i h0 _
      rcases canon_casesQ (l.map fun (n : Nat) => (n : Int)) with ⟨h1, _⟩ | ⟨l', h1, _, _, h2⟩
      · exact absurd h1 h0
      · rw [h2] at h
        have := Sum.inr.inj h
        rw [← this]
        simp [wordsC]; simpa using h1
theorem wordsF_err {l : List Nat} {how e : Nat} (h : wordsF l how = .inl e) : e ≠ 0 := by
  rw [wordsF] at h
  split at h
  · rename_i h0
    have := Sum.inl.inj h
    rw [← this]; exact h0
  · split at h
    · have := Sum.inl.inj h
      omega
    · cases h

theorem numberF_ge {t : List Nat} {l : List (Nat × Nat)} {i p q d : Nat} (h : numberF t l i p = .inr (q, d)) : p ≤ q := by
  rw [numberF] at h
  cases e : l[i]? with
  | none => rw [e] at h; cases h
  | some b =>
    rw [e] at h
    simp only at h
    split at h
    · cases h
    · have := (Prod.mk.inj (Sum.inr.inj h)).1
      omega
theorem numberF_le {bs : List UInt8} {l : List (Nat × Nat)} (hl : ∀ b ∈ l, b.1 ≤ 100000 ∧ b.2 ≤ 13) {i p q d : Nat} (h : numberF (bitsL true bs) l i p = .inr (q, d)) : d ≤ 200000 := by
  rw [numberF] at h
  cases e : l[i]? with
  | none => rw [e] at h; cases h
  | some b =>
    rw [e] at h
    simp only at h
    have h1 := hl b (List.mem_of_getElem? e)
    split at h
    · cases h
    · have h2 := (Prod.mk.inj (Sum.inr.inj h)).2
      have h3 := vl_lt bs p b.2
      have h4 : 2 ^ b.2 ≤ 2 ^ 13 := Nat.pow_le_pow_right (by decide) h1.2
      omega
theorem copyR_ge {t : List Nat} {B : List (List Nat)} {most n p q : Nat} {out o : List UInt8} (h : copyR t B most n p out = .inr (q, o)) : p ≤ q := by
  rw [copyR] at h
  split at h
  · cases h
  · split at h
    · cases h
    · rename_i e
      have := numberF_ge e
      split at h
      · cases h
      · split at h
        · cases h
        · have := (Prod.mk.inj (Sum.inr.inj h)).1
          omega
theorem drop4 {w0 w : World} {X A B C D F : SProp} (h : St w0 w (X * (A * (B * (C * (D * F)))))) : St w0 w (X * F) :=
  (h.perm (show _ = A * (B * (C * (D * (X * F)))) by ac_rfl)).right.right.right.right

set_option maxHeartbeats 40000000 in
theorem block_any {w0 w : World} {S Rb : Nat} {bs : List UInt8} {p : Nat} {out : List UInt8} {most : Nat} {F : SProp} (h : St w0 w (stm S Rb bs p out most * F)) (hom : out.length ≤ most) (hm : most ≤ 10000000000000)
    (la lb : List Nat) (how : Nat) (hh : how ≤ 2) (hla : la.length ≤ 900) (hlb : lb.length ≤ 900) (hla2 : ∀ n ∈ la, n ≤ 1000) (hlb2 : ∀ n ∈ lb, n ≤ 1000) {va vb : Value}
    (hva : Stb w0 F (fun w => Reads w 1 va la.length (nvs la))) (hvb : Stb w0 F (fun w => Reads w 1 vb lb.length (nvs lb))) :
    Calls Tryz.prog 25 #[.pointer (some ⟨S, 0, none⟩), va, vb, .int .i64 how] w fun e w' => ∃ (x p' : Nat) (out' : List UInt8), e = .returned (.int .i64 x) ∧ ResR (blockL (bitsL true bs) la lb how most p out) x p' out' ∧ out'.length ≤ most ∧ St w0 w' (stm S Rb bs p' out' most * F) := by
  obtain ⟨aa, ca, rfl⟩ := (hva w h.right).sub
  obtain ⟨ab, cb, rfl⟩ := (hvb w h.right).sub
  have C1 := book_any h la 0 (by omega) hla hla2 (v := .slice aa la.length ca) (fun w h => hva w h.right)
  have HR := Lib.hid (show blockL (bitsL true bs) la lb how most p out = match wordsF la 0 with
    | .inl e => .inl e
    | .inr A => match wordsF lb how with
      | .inl e => .inl e
      | .inr B => blockF (bitsL true bs) A B most ((bitsL true bs).length + 1 - p) p out from rfl)
  have HLA := Lib.hid (fun W (h : wordsF la 0 = .inr W) => wordsF_len h)
  have HLB := Lib.hid (fun W (h : wordsF lb how = .inr W) => wordsF_len h)
  have HVB := Lib.hid hvb; clear hvb hva
  generalize wordsF la 0 = ra at *
  have HC1 := Lib.hid C1; clear C1 h
  go_enter Tryz.func25, Tryz.ntmps25
  go_wp2_with fail
  refine HC1.out.mono ?_
  rintro e w2 hw
  clear HC1
  cases ra with
  | inl er =>
    obtain ⟨hne, rfl, h2⟩ := hw
    simp only at HR
    have hne2 : ¬ (er : Int) = 0 := by omega
    have H2 := Lib.hid h2; clear h2
    go_wp2_with fail
    go_ret
    exact ⟨er, p, out, rfl, by rw [HR.out]; exact ⟨rfl, hne⟩, hom, H2.out⟩
  | inr A =>
    obtain ⟨Ba, rfl, h2⟩ := hw
    simp only at HR
    have hAl := HLA.out A rfl
    have C2 := book_any h2 lb how hh hlb hlb2 (v := .slice ab lb.length cb) (fun w h => HVB.out w h.right.right)
    generalize wordsF lb how = rb at *
    have HC2 := Lib.hid C2; clear C2 h2
    go_wp2_with fail
    refine HC2.out.mono ?_
    rintro e w3 hw
    clear HC2
    cases rb with
    | inl er =>
      obtain ⟨hne, rfl, h3⟩ := hw
      simp only at HR
      have hne2 : ¬ (er : Int) = 0 := by omega
      have H3 := Lib.hid h3.right; clear h3
      go_wp2_with fail
      go_ret
      exact ⟨er, p, out, rfl, by rw [HR.out]; exact ⟨rfl, hne⟩, hom, H3.out⟩
    | inr Bw =>
      obtain ⟨Bb, rfl, h3⟩ := hw
      simp only at HR
      have hBl := HLB.out Bw rfl
      have hA9 : A.length ≤ 900 := by omega
      have hB9 : Bw.length ≤ 900 := by omega
      clear hAl hBl HLA HLB
      have H3 := Lib.hid h3; clear h3
      go_wp2_with fail
      refine (lens_any H3.out).mono ?_
      rintro e w4 ⟨v4, rfl, h4⟩
      have H4 := Lib.hid h4; clear h4 H3
      go_wp2_with fail
      refine (dists_any H4.out).mono ?_
      rintro e w5 ⟨v5, rfl, h5⟩
      obtain ⟨a5, c5, rfl⟩ := h5.reads.sub
      obtain ⟨a4, c4, rfl⟩ := h5.right.reads.sub
      have h5 := h5.perm (show _ = stm S Rb bs p out most * (bkS Ba A * (bkS Bb Bw * (own 129 2 (.slice a4 29 c4) 29 (bas lensB) * (own 129 2 (.slice a5 30 c5) 30 (bas distsB) * F)))) by ac_rfl)
      have hp := stm_le h5
      have H5 := Lib.hid h5; clear h5 H4
      generalize hRES : blockF (bitsL true bs) A Bw most ((bitsL true bs).length + 1 - p) p out = RES at *
      have HRES := Lib.hid hRES; clear hRES
      rw [length_bitsL] at HRES
      go_wp2_with fail
      go_loopg [14] (8 * bs.length + 1 - p) (fun g u wr => ∃ (q : Nat) (o : List UInt8), 8 * bs.length + 1 ≤ g + q ∧ o.length ≤ most ∧ blockF (bitsL true bs) A Bw most g q o = RES ∧
        St w0 wr (stm S Rb bs q o most * (bkS Ba A * (bkS Bb Bw * (own 129 2 (.slice a4 29 c4) 29 (bas lensB) * (own 129 2 (.slice a5 30 c5) 30 (bas distsB) * F))))))
      case atStart => exact ⟨p, out, by omega, hom, HRES.out, H5.out⟩
      case round =>
        clear H5 HRES hp
        obtain ⟨q, o, hg, hol, hres, hst⟩ := hrel
        have hq := stm_le hst
        obtain ⟨g, rfl⟩ : ∃ g, gk = g + 1 := ⟨gk - 1, by omega⟩
        rw [blockF, blockS] at hres
        have c0 := stm_cell0 hst
        have hlen := rdW_len A ((bitsL true bs).drop q) []
        have C := stm_bread hst
        generalize rdW A [] ((bitsL true bs).drop q) = r at *
        obtain ⟨k, r⟩ := r
        have HC := Lib.hid C; clear C hst
        have HRS := Lib.hid hres; clear hres
        have HG := Lib.hid hg; clear hg
        go_wp2_with fail
        refine HC.out.mono ?_
        rintro e w6 ⟨z, x, p1, rfl, hrd, h6⟩
        clear HC
        cases r with
        | inr er =>
          have her := hlen.2.2.2.2 er rfl
          obtain ⟨rfl, hx⟩ := hrd
          simp only at hx HRS
          subst hx
          have hx2 : ¬ (x : Int) = 0 := by omega
          have H6 := Lib.hid h6; clear h6 hlen
          go_wp2_with fail
          go_ret
          exact ⟨x, q + k, o, rfl, by rw [HR.out, ← HRS.out]; exact ⟨rfl, by omega⟩, hol, drop4 H6.out⟩
        | inl i =>
          obtain ⟨hk1, hi⟩ := hlen.2.2.2.1 i rfl
          obtain ⟨rfl, hx, hz⟩ := hrd
          subst hx hz
          simp only [List.length_nil] at HRS h6 hk1
          clear hlen
          by_cases hi256 : i = 256
          · subst hi256
            have hres := HRS.out
            rw [if_pos rfl] at hres
            have HRX := Lib.hid hres; clear hres HRS
            have H6 := Lib.hid h6; clear h6
            go_wp2_with fail
            go_ret
            exact ⟨0, q + k, o, rfl, by rw [HR.out, ← HRX.out]; exact ⟨rfl, rfl, rfl⟩, hol, drop4 H6.out⟩
          have hi256' : ¬ (i : Int) = 256 := by omega
          have hres := HRS.out
          rw [if_neg hi256] at hres
          clear HRS
          by_cases hlt : i < 256
          · have hlt2 : (i : Int) < 256 := by omega
            rw [if_pos hlt] at hres
            obtain ⟨ao, co, h7⟩ := stm_open h6
            have d1 := h7.cell 1 rfl
            have d2 := h7.cell 2 rfl
            by_cases hlim : most ≤ o.length
            · rw [if_pos hlim] at hres
              have HRX := Lib.hid hres; clear hres
              have hl2 : (most : Int) ≤ o.length := by omega
              have H6 := Lib.hid h6; clear h6 h7
              go_wp2_with fail
              go_quiet (fail)
              have h9 := H6.out.drewN nq
              clear d1 d2
              generalize w6.drewN nq = w9 at *
              have H9 := Lib.hid h9; clear h9 H6
              go_wp2_with fail
              go_ret
              exact ⟨8, q + k, o, rfl, by rw [HR.out, ← HRX.out]; exact ⟨rfl, by decide⟩, hol, drop4 H9.out⟩
            · rw [if_neg hlim] at hres
              have HRX := Lib.hid hres; clear hres
              have hl2 : ¬ (most : Int) ≤ o.length := by omega
              have H7 := Lib.hid h7; clear h6 h7
              have hw8 := wrap_u8n (c := i)
              generalize UInt8.ofNat i = ch at *
              have T := elemBytes
              generalize hFF : bkS Ba A * (bkS Bb Bw * (own 129 2 (.slice a4 29 c4) 29 (bas lensB) * (own 129 2 (.slice a5 30 c5) 30 (bas distsB) * F))) = FF at *
              have HFF := Lib.hid hFF; clear hFF
              go_wp2_with fail
              go_quiet (fail)
              have h9 := H7.out.drewN nq
              clear d1 d2 c0
              generalize w6.drewN nq = w9 at *
              have d1 := h9.cell 1 rfl
              have d1' : (w9.alloc (.cells #[.int .u8 (ch.toNat : Int)] 5)).cell? ⟨S, 1, none⟩ = some (.slice ao o.length co) := by rw [World.cell?_alloc_lt _ _ _ h9.lt]; exact d1
              have H9 := Lib.hid h9; clear h9 H7
              go_wp2_with (at_builtin; apply stop)
              refine on (wpList_append_sep T rfl _ _ rfl rfl ((H9.out.drop_alloc (.cells #[.int .u8 (ch.toNat : Int)] 5)).perm (show _ = own 5 1 (.slice ao o.length co) o.length (o.map bv) * (blk S (.cells #[.pointer (some ⟨Rb, 0, none⟩), .slice ao o.length co, .int .i64 (most : Int)] 50) * (rdr Rb bs (q + k) true * FF)) by ac_rfl)) rfl (reads_u8 w9 ch) (bv_oneCell [ch]) ?_ ?_ ?_)
              · unfold maxLen; omega
              · omega
              intro v' w10 h10 _
              obtain ⟨a7, c7, rfl⟩ := h10.reads.sub
              have e1 := h10.right.cell 1 rfl
              have f1 := h10.right.free 1
              have h11 := (h10.perm (star_left_comm _ _ _)).set 1 (.slice a7 (o.length + 1 : Nat) c7)
              have h12 := stm_push h11
              have H11 := Lib.hid h12; clear h10 h11 h12 H9
              go_wp2_with fail
              go_roundg g
              case measure => omega
              case rel => exact ⟨q + k, o ++ [ch], by have := HG.out; omega, by simp; omega, HRX.out, H11.out⟩
          · have hlt2 : ¬ (i : Int) < 256 := by omega
            rw [if_neg hlt] at hres
            have hsub : (i : Int) - 257 = ((i - 257 : Nat) : Int) := by omega
            have C := number_any (h6.perm (show _ = stm S Rb bs (q + k) o most * (own 129 2 (.slice a4 29 c4) 29 (bas lensB) * (bkS Ba A * (bkS Bb Bw * (own 129 2 (.slice a5 30 c5) 30 (bas distsB) * F)))) by ac_rfl)) rfl lensB_ok (i - 257) (by omega)
            have HGE := Lib.hid (fun q1 d => numberF_ge (t := bitsL true bs) (l := lensB) (i := i - 257) (p := q + k) (q := q1) (d := d))
            have HLE := Lib.hid (fun q1 d => numberF_le (bs := bs) lensB_ok (i := i - 257) (p := q + k) (q := q1) (d := d))
            have HC := Lib.hid C; clear C h6
            have HRS := Lib.hid hres; clear hres
            generalize numberF (bitsL true bs) lensB (i - 257) (q + k) = r at *
            have hnn : 0 ≤ ((i - 257 : Nat) : Int) := by omega
            generalize i - 257 = im at *
            go_wp2_with fail
            refine HC.out.mono ?_
            rintro e w7 ⟨z, x, p2, rfl, hnr, h7⟩
            clear HC
            have h7 := h7.perm (show _ = stm S Rb bs p2 o most * (bkS Ba A * (bkS Bb Bw * (own 129 2 (.slice a4 29 c4) 29 (bas lensB) * (own 129 2 (.slice a5 30 c5) 30 (bas distsB) * F)))) by ac_rfl)
            cases r with
            | inl er =>
              obtain ⟨hx, hne⟩ := hnr
              subst hx
              simp only at HRS
              have hx2 : ¬ (x : Int) = 0 := by omega
              have H7 := Lib.hid h7; clear h7
              go_wp2_with fail
              go_ret
              exact ⟨x, p2, o, rfl, by rw [HR.out, ← HRS.out]; exact ⟨rfl, hne⟩, hol, drop4 H7.out⟩
            | inr qd =>
              obtain ⟨q1, n⟩ := qd
              obtain ⟨hx, hq1, hz⟩ := hnr
              subst hx hq1 hz
              simp only at HRS
              have hge := HGE.out p2 n rfl
              have hle := HLE.out p2 n rfl
              have C := copy_any (h7.perm (show _ = stm S Rb bs p2 o most * (bkS Bb Bw * (own 129 2 (.slice a5 30 c5) 30 (bas distsB) * (bkS Ba A * (own 129 2 (.slice a4 29 c4) 29 (bas lensB) * F)))) by ac_rfl)) hol hm (by omega) n (by omega)
              have HGE2 := Lib.hid (fun q1 o1 => copyR_ge (t := bitsL true bs) (B := Bw) (most := most) (n := n) (p := p2) (out := o) (q := q1) (o := o1))
              have HC := Lib.hid C; clear C h7 HGE HLE
              generalize copyR (bitsL true bs) Bw most n p2 o = r at *
              go_wp2_with fail
              refine HC.out.mono ?_
              rintro e w8 ⟨x, p3, o3, rfl, hcr, ho3, h8⟩
              clear HC
              have h8 := h8.perm (show _ = stm S Rb bs p3 o3 most * (bkS Ba A * (bkS Bb Bw * (own 129 2 (.slice a4 29 c4) 29 (bas lensB) * (own 129 2 (.slice a5 30 c5) 30 (bas distsB) * F)))) by ac_rfl)
              cases r with
              | inl er =>
                obtain ⟨hx, hne⟩ := hcr
                subst hx
                simp only at HRS
                have hx2 : ¬ (x : Int) = 0 := by omega
                have H8 := Lib.hid h8; clear h8
                go_wp2_with fail
                go_ret
                exact ⟨x, p3, o3, rfl, by rw [HR.out, ← HRS.out]; exact ⟨rfl, hne⟩, ho3, drop4 H8.out⟩
              | inr qo =>
                obtain ⟨q3, o4⟩ := qo
                obtain ⟨hx, hq3, ho4⟩ := hcr
                subst hx hq3 ho4
                simp only at HRS
                have hge3 := HGE2.out p3 o3 rfl
                have H8 := Lib.hid h8; clear h8 HGE2
                go_wp2_with fail
                go_roundg g
                case measure => omega
                case rel => exact ⟨p3, o3, by have := HG.out; omega, ho3, HRS.out, H8.out⟩
end Go.Proofs.YtddifndfppilkaaGreat
