/-
  Layer 8 (inflate): a block of bytes that stand as they are.
-/
import Derived.Test.YtddifndfppilkaaGreatInfC
namespace Go.Proofs.YtddifndfppilkaaGreat
open Go.RowKit Go.Mz
set_option linter.unusedVariables false
set_option linter.unusedSimpArgs false
set_option maxRecDepth 100000

theorem reads_u8 (w : World) (c : UInt8) : Reads (w.alloc (.cells #[.int .u8 (c.toNat : Int)] 5)) 1 (.slice (some ⟨w.heap.size, 0, none⟩) 1 1) 1 ([c].map bv) :=
  (St.own_blk (e := 5) (size := 1) (n := 1) (cap := 1) (xs := [c].map bv) ((St.init w).alloc _) (Nat.le_refl _) (by decide) rfl rfl).reads
theorem stm_push {w0 w : World} {S Rb : Nat} {bs : List UInt8} {p : Nat} {o : List UInt8} {c : UInt8} {most : Nat} {a : Option Addr} {k : Nat} {F : SProp}
    (h : St w0 w (blk S (.cells #[.pointer (some ⟨Rb, 0, none⟩), .slice a (o.length + 1) k, .int .i64 (most : Int)] 50) * (own 5 1 (.slice a (o.length + 1) k) (o.length + 1) (o.map bv ++ [c].map bv) * (rdr Rb bs p true * F)))) :
    St w0 w (stm S Rb bs p (o ++ [c]) most * F) := by
  have e1 : (o ++ [c]).length = o.length + 1 := by simp
  have e2 : (o ++ [c]).map bv = o.map bv ++ [c].map bv := by simp
  refine stm_shut (v := .slice a (o.length + 1) k) ?_
  rw [e1, e2]
  exact h.perm (by ac_rfl)
theorem xor16 (m : Nat) (h : m < 65536) : m ^^^ 65535 = 65535 - m := by
  have h2 : (BitVec.ofNat 16 m) ^^^ (BitVec.allOnes 16) = ~~~ (BitVec.ofNat 16 m) := BitVec.xor_allOnes
  have h1 := congrArg BitVec.toNat h2
  rw [BitVec.toNat_xor, BitVec.toNat_not, BitVec.toNat_ofNat, BitVec.toNat_allOnes, Nat.mod_eq_of_lt (by omega)] at h1
  exact h1
theorem xor_u32 {m : Nat} (h : m < 65536) : bits .xor .u32 (m : Int) 65535 = ((65535 - m : Nat) : Int) := by
  have := u32_xor_nat m 65535 (by omega) (by decide)
  rw [xor16 m h] at this; exact this
theorem wrap_u8n {c : Nat} : IntKind.u8.wrap (c : Int) = ((UInt8.ofNat c).toNat : Int) := by rw [IntKind.wrap_u8']; simp

set_option maxHeartbeats 40000000 in
theorem stored_any {w0 w : World} {S Rb : Nat} {bs : List UInt8} {p : Nat} {out : List UInt8} {most : Nat} {F : SProp} (h : St w0 w (stm S Rb bs p out most * F))
    (hom : out.length ≤ most) (hm : most ≤ 10000000000000) :
    Calls Tryz.prog 23 #[.pointer (some ⟨S, 0, none⟩)] w fun e w' => ∃ (x p' : Nat) (out' : List UInt8), e = .returned (.int .i64 x) ∧ ResR (storedF (bitsL true bs) most p out) x p' out' ∧ out'.length ≤ most ∧ St w0 w' (stm S Rb bs p' out' most * F) := by
  obtain ⟨ao, co, h1⟩ := stm_open h
  have c0 := h1.cell 0 rfl
  have hback : ∀ w' p', St w0 w' (rdr Rb bs p' true * (blk S (.cells #[.pointer (some ⟨Rb, 0, none⟩), .slice ao out.length co, .int .i64 (most : Int)] 50) * (own 5 1 (.slice ao out.length co) out.length (out.map bv) * F))) → St w0 w' (stm S Rb bs p' out most * F) := fun w' p' h => stm_shut (h.perm (by ac_rfl))
  have HBACK := Lib.hid hback; clear hback
  have hc0 : ∀ w' p', St w0 w' (rdr Rb bs p' true * (blk S (.cells #[.pointer (some ⟨Rb, 0, none⟩), .slice ao out.length co, .int .i64 (most : Int)] 50) * (own 5 1 (.slice ao out.length co) out.length (out.map bv) * F))) → w'.cell? ⟨S, 0, none⟩ = some (.pointer (some ⟨Rb, 0, none⟩)) := fun w' p' h => h.right.cell 0 rfl
  have HC0 := Lib.hid hc0; clear hc0
  have H1 := Lib.hid (h1.perm (show _ = rdr Rb bs p true * (blk S (.cells #[.pointer (some ⟨Rb, 0, none⟩), .slice ao out.length co, .int .i64 (most : Int)] 50) * (own 5 1 (.slice ao out.length co) out.length (out.map bv) * F)) by ac_rfl))
  clear h1 h
  have HR := Lib.hid (show storedF (bitsL true bs) most p out = (if (bitsL true bs).length < (p + 7) / 8 * 8 + 32 then .inl 2 else if vl (bitsL true bs) ((p + 7) / 8 * 8) 16 + vl (bitsL true bs) ((p + 7) / 8 * 8 + 16) 16 ≠ 65535 then .inl 3 else bytesF (bitsL true bs) most (vl (bitsL true bs) ((p + 7) / 8 * 8) 16) ((p + 7) / 8 * 8 + 32) out) from rfl)
  rw [length_bitsL] at HR
  have HB := Lib.hid (rdr_open H1.out).1
  go_enter Tryz.func23, Tryz.ntmps23
  go_wp2_with fail
  refine (align_any H1.out).mono ?_
  rintro e w2 ⟨rfl, h2⟩
  have c1 := HC0.out _ _ h2
  generalize hq : (p + 7) / 8 * 8 = q at *
  have HQ := Lib.hid hq; clear hq
  have H2 := Lib.hid h2; clear h2 c0 H1
  go_wp2_with fail
  by_cases hcut : 8 * bs.length < q + 32
  · rw [if_pos hcut] at HR
    by_cases hcut1 : 8 * bs.length < q + 16
    · refine (read_cut_st H2.out 16 rfl (by omega) hcut1).mono ?_
      rintro e w3 ⟨rfl, h3⟩
      have c2 := HC0.out _ _ h3
      have H3 := Lib.hid h3; clear h3 c1
      go_wp2_with fail
      refine (read_cut_st H3.out 16 rfl (by omega) hcut1).mono ?_
      rintro e w4 ⟨rfl, h4⟩
      have H4 := Lib.hid h4; clear h4
      go_wp2_with fail
      go_ret
      exact ⟨2, q, out, rfl, by rw [HR.out]; exact ⟨rfl, by decide⟩, hom, HBACK.out _ _ H4.out⟩
    · refine (read_ok H2.out 16 rfl (by omega) (by omega)).mono ?_
      rintro e w3 ⟨rfl, h3⟩
      have c2 := HC0.out _ _ h3
      have H3 := Lib.hid h3; clear h3 c1
      go_wp2_with fail
      refine (read_cut_st H3.out 16 rfl (by omega) (by omega)).mono ?_
      rintro e w4 ⟨rfl, h4⟩
      have H4 := Lib.hid h4; clear h4
      go_wp2_with fail
      go_ret
      exact ⟨2, q + 16, out, rfl, by rw [HR.out]; exact ⟨rfl, by decide⟩, hom, HBACK.out _ _ H4.out⟩
  · rw [if_neg hcut] at HR
    refine (read_ok H2.out 16 rfl (by omega) (by omega)).mono ?_
    rintro e w3 ⟨rfl, h3⟩
    have c2 := HC0.out _ _ h3
    have H3 := Lib.hid h3; clear h3 c1
    go_wp2_with fail
    refine (read_ok H3.out 16 rfl (by omega) (by omega)).mono ?_
    rintro e w4 ⟨rfl, h4⟩
    rw [← peekV_vl, ← peekV_vl] at HR
    have hn := peekV_lt bs true q 16
    have hm16 := peekV_lt bs true (q + 16) 16
    generalize peekV bs true q 16 = n at *
    generalize peekV bs true (q + 16) 16 = m at *
    have hxor := xor_u32 (m := m) (by omega)
    have H4 := Lib.hid (HBACK.out _ _ h4); clear h4
    by_cases hnm : n + m = 65535
    · have hnm2 : (n : Int) = ((65535 - m : Nat) : Int) := by omega
      rw [if_neg (by omega)] at HR
      have hne : ((n : Int) != bits .xor .u32 (m : Int) 65535) = false := by rw [hxor, bne_eq_false_iff_eq]; exact hnm2
      have HNM := Lib.hid hnm; clear hnm hnm2 hxor
      generalize hRES : bytesF (bitsL true bs) most n (q + 32) out = RES at *
      have HRES := Lib.hid hRES; clear hRES c2
      have T := elemBytes
      go_wp2_with fail
      go_loopw [43] (fun vi wr => ∃ (j q2 : Nat) (o : List UInt8), j ≤ n ∧ vi = .int .u32 j ∧ bytesF (bitsL true bs) most (n - j) q2 o = RES ∧ o.length ≤ most ∧ St w0 wr (stm S Rb bs q2 o most * F)) (fun vi _ => n - (intOf vi).toNat)
      case atStart => exact ⟨0, q + 16 + 16, out, by omega, rfl, HRES.out, hom, H4.out⟩
      case round =>
        clear H4 HRES HBACK HC0 H3 H2
        obtain ⟨j, q2, o, hj, rfl, hres, holen, hst⟩ := hrel
        by_cases hjn : j < n
        · rw [show n - j = (n - (j + 1)) + 1 by omega, bytesF, length_bitsL] at hres
          have hjj : (j : Int) < n := by omega
          obtain ⟨ao, co, h6⟩ := stm_open hst
          have c1 := h6.cell 0 rfl
          have H6 := Lib.hid (h6.perm (star_left_comm _ _ _)); clear h6 hst
          by_cases hcut : 8 * bs.length < q2 + 8
          · rw [if_pos hcut] at hres
            have HRR := Lib.hid hres; clear hres
            go_wp2_with fail
            refine (read_cut_st H6.out 8 rfl (by omega) hcut).mono ?_
            rintro e w5 ⟨rfl, h7⟩
            have H7 := Lib.hid (stm_shut (h7.perm (star_left_comm _ _ _))); clear h7
            go_wp2_with fail
            go_ret
            exact ⟨2, q2, o, rfl, by rw [HR.out, ← HRR.out]; exact ⟨rfl, by decide⟩, holen, H7.out⟩
          · rw [if_neg hcut, ← peekV_vl] at hres
            have HRR := Lib.hid hres; clear hres
            go_wp2_with fail
            refine (read_ok H6.out 8 rfl (by omega) (by omega)).mono ?_
            rintro e w5 ⟨rfl, h7⟩
            have hc8 := peekV_lt bs true q2 8
            generalize peekV bs true q2 8 = c at *
            have h8 := h7.perm (star_left_comm _ _ _)
            have d1 := h8.cell 1 rfl
            have d2 := h8.cell 2 rfl
            by_cases hlim : most ≤ o.length
            · have hres := HRR.out
              rw [if_pos hlim] at hres
              have HRX := Lib.hid hres; clear hres HRR
              have hl2 : (most : Int) ≤ o.length := by omega
              have H8 := Lib.hid (stm_shut h8); clear h7 h8 H6
              go_wp2_with fail
              go_quiet (fail)
              have h9 := H8.out.drewN nq
              clear d1 d2
              generalize w5.drewN nq = w9 at *
              have H9 := Lib.hid h9; clear h9 H8
              go_wp2_with fail
              go_ret
              exact ⟨8, q2 + 8, o, rfl, by rw [HR.out, ← HRX.out]; exact ⟨rfl, by decide⟩, holen, H9.out⟩
            · have hres := HRR.out
              rw [if_neg hlim] at hres
              have HRX := Lib.hid hres; clear hres HRR
              have hl2 : ¬ (most : Int) ≤ o.length := by omega
              have H8 := Lib.hid h8; clear h7 h8 H6
              have hw8 := wrap_u8n (c := c)
              generalize UInt8.ofNat c = ch at *
              go_wp2_with fail
              go_quiet (fail)
              have h9 := H8.out.drewN nq
              clear d1 d2 c1
              generalize w5.drewN nq = w9 at *
              have d1 := h9.cell 1 rfl
              have d1' : (w9.alloc (.cells #[.int .u8 (ch.toNat : Int)] 5)).cell? ⟨S, 1, none⟩ = some (.slice ao o.length co) := by rw [World.cell?_alloc_lt _ _ _ h9.lt]; exact d1
              have H9 := Lib.hid h9; clear h9 H8
              go_wp2_with (at_builtin; apply stop)
              refine on (wpList_append_sep T rfl _ _ rfl rfl ((H9.out.drop_alloc (.cells #[.int .u8 (ch.toNat : Int)] 5)).perm (show _ = own 5 1 (.slice ao o.length co) o.length (o.map bv) * (blk S (.cells #[.pointer (some ⟨Rb, 0, none⟩), .slice ao o.length co, .int .i64 (most : Int)] 50) * (rdr Rb bs (q2 + 8) true * F)) by ac_rfl)) rfl (reads_u8 w9 ch) (bv_oneCell [ch]) ?_ ?_ ?_)
              · unfold maxLen; omega
              · omega
              intro v' w10 h10 _
              obtain ⟨a7, c7, rfl⟩ := h10.reads.sub
              have e1 := h10.right.cell 1 rfl
              have f1 := h10.right.free 1
              have h11 := (h10.perm (star_left_comm _ _ _)).set 1 (.slice a7 (o.length + 1 : Nat) c7)
              have H11 := Lib.hid (stm_push h11); clear h10 h11 H9
              go_wp2_with fail
              exact ⟨⟨j + 1, q2 + 8, o ++ [ch], by omega, by go_num, HRX.out, by simp; omega, H11.out⟩, by simp [intOf]; omega⟩
        · obtain rfl : j = n := by omega
          rw [Nat.sub_self, bytesF] at hres
          have HRR := Lib.hid hres; clear hres
          have HST := Lib.hid hst; clear hst
          go_wp2_with fail
          go_ret
          exact ⟨0, q2, o, rfl, by rw [HR.out, ← HRR.out]; exact ⟨rfl, rfl, rfl⟩, holen, HST.out⟩
    · have hne : ((n : Int) != bits .xor .u32 (m : Int) 65535) = true := by rw [hxor, bne_iff_ne]; omega
      rw [if_pos (by omega)] at HR
      clear hxor
      go_wp2_with fail
      go_ret
      exact ⟨3, q + 16 + 16, out, rfl, by rw [HR.out]; exact ⟨rfl, by decide⟩, hom, H4.out⟩
end Go.Proofs.YtddifndfppilkaaGreat
