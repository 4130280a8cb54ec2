/-
  Layer 8 (inflate): the bytes of blocks.
-/
import Derived.Test.YtddifndfppilkaaGreatInfG
namespace Go.Proofs.YtddifndfppilkaaGreat
open Go.RowKit Go.Mz
set_option linter.unusedVariables false
set_option linter.unusedSimpArgs false
set_option maxRecDepth 100000

theorem bytesF_ge {t : List Nat} {most : Nat} : ∀ (n p q : Nat) (out o : List UInt8), bytesF t most n p out = .inr (q, o) → p ≤ q := by
  intro n
  induction n with
  | zero => intro p q out o h; rw [bytesF] at h; have := (Prod.mk.inj (Sum.inr.inj h)).1; omega
  | succ n ih =>
    intro p q out o h
    rw [bytesF] at h
    split at h
    · cases h
    · split at h
      · cases h
      · have := ih _ _ _ _ h; omega
theorem storedF_ge {t : List Nat} {most p q : Nat} {out o : List UInt8} (h : storedF t most p out = .inr (q, o)) : p ≤ q := by
  rw [storedF] at h
  split at h
  · cases h
  · split at h
    · cases h
    · have := bytesF_ge _ _ _ _ _ h; omega
theorem blockS_ge {t : List Nat} {A B : List (List Nat)} {most p q : Nat} {out o : List UInt8} {d : Bool} (h : blockS t A B most p out = .inr (q, o, d)) : p ≤ q := by
  rw [blockS] at h
  generalize rdW A [] (t.drop p) = r at h
  obtain ⟨k, r⟩ := r
  cases r with
  | inr e => cases h
  | inl v =>
    simp only at h
    by_cases h1 : v = 256
    · rw [if_pos h1] at h
      have := (Prod.mk.inj (Sum.inr.inj h)).1; omega
    · rw [if_neg h1] at h
      by_cases h2 : v < 256
      · rw [if_pos h2] at h
        split at h
        · cases h
        · have := (Prod.mk.inj (Sum.inr.inj h)).1; omega
      · rw [if_neg h2] at h
        cases e : numberF t lensB (v - 257) (p + k) with
        | inl e' => rw [e] at h; cases h
        | inr qn =>
          obtain ⟨q1, n⟩ := qn
          rw [e] at h
          simp only at h
          have h3 := numberF_ge e
          cases e2 : copyR t B most n q1 out with
          | inl e' => rw [e2] at h; cases h
          | inr qo =>
            obtain ⟨q2, o2⟩ := qo
            rw [e2] at h
            simp only at h
            have h4 := copyR_ge e2
            have := (Prod.mk.inj (Sum.inr.inj h)).1; omega
theorem blockF_ge {t : List Nat} {A B : List (List Nat)} {most : Nat} : ∀ (f p q : Nat) (out o : List UInt8), blockF t A B most f p out = .inr (q, o) → p ≤ q := by
  intro f
  induction f with
  | zero => intro p q out o h; rw [blockF] at h; cases h
  | succ f ih =>
    intro p q out o h
    rw [blockF] at h
    cases e : blockS t A B most p out with
    | inl e' => rw [e] at h; cases h
    | inr x =>
      obtain ⟨q1, o1, d⟩ := x
      rw [e] at h
      have h1 := blockS_ge e
      cases d with
      | true => simp only at h; have := (Prod.mk.inj (Sum.inr.inj h)).1; omega
      | false => simp only at h; have := ih _ _ _ _ h; omega
theorem blockL_ge {t : List Nat} {la lb : List Nat} {how most p q : Nat} {out o : List UInt8} (h : blockL t la lb how most p out = .inr (q, o)) : p ≤ q := by
  rw [blockL] at h
  split at h
  · cases h
  · split at h
    · cases h
    · exact blockF_ge _ _ _ _ _ h
theorem metaF_ge {t : List Nat} : ∀ (l : List Nat) (p q : Nat) (a b : List Nat), metaF t l p a = .inr (q, b) → p ≤ q := by
  intro l
  induction l with
  | nil => intro p q a b h; rw [metaF] at h; have := (Prod.mk.inj (Sum.inr.inj h)).1; omega
  | cons i l ih =>
    intro p q a b h
    rw [metaF] at h
    split at h
    · cases h
    · have := ih _ _ _ _ h; omega
theorem lengthsF_ge {t : List Nat} {W : List (List Nat)} {n : Nat} : ∀ (f : Nat) (all : List Nat) (p q : Nat) (l : List Nat), lengthsF t W n f all p = .inr (q, l) → p ≤ q := by
  intro f
  induction f with
  | zero => intro all p q l h; rw [lengthsF] at h; cases h
  | succ f ih =>
    intro all p q l h
    rw [lengthsF] at h
    by_cases hln : all.length < n
    · rw [if_pos hln] at h
      generalize rdW W [] (t.drop p) = r at h
      obtain ⟨k, r⟩ := r
      cases r with
      | inr e => cases h
      | inl v =>
        simp only at h
        by_cases h16 : v < 16
        · rw [if_pos h16] at h
          have := ih _ _ _ _ h; omega
        · rw [if_neg h16] at h
          by_cases hb : v = 16 ∧ all = []
          · rw [if_pos hb] at h; cases h
          · rw [if_neg hb] at h
            generalize (if v = 16 then all.getD (all.length - 1) 0 else 0) = val at *
            generalize (if v = 16 then 2 else if v = 18 then 7 else 3) = wide at *
            generalize (if v = 18 then 11 else 3) = least at *
            by_cases hc : t.length < p + k + wide
            · rw [if_pos hc] at h; cases h
            · rw [if_neg hc] at h
              have := ih _ _ _ _ h; omega
    · rw [if_neg hln] at h
      split at h
      · cases h
      · have := (Prod.mk.inj (Sum.inr.inj h)).1; omega
theorem dynamicF_ge {t : List Nat} {most p q : Nat} {out o : List UInt8} (h : dynamicF t most p out = .inr (q, o)) : p ≤ q := by
  rw [dynamicF] at h
  split at h
  · cases h
  · simp only at h
    split at h
    · cases h
    · split at h
      · cases h
      · rename_i e1
        have h1 := metaF_ge _ _ _ _ _ e1
        split at h
        · cases h
        · split at h
          · cases h
          · rename_i e2
            have h2 := lengthsF_ge _ _ _ _ _ e2
            split at h
            · cases h
            · have := blockL_ge h; omega
theorem partF_ge {t : List Nat} {most hd p q : Nat} {out o : List UInt8} (h : partF t most hd p out = .inr (q, o)) : p ≤ q := by
  rw [partF] at h
  split at h
  · exact storedF_ge h
  · split at h
    · exact blockL_ge h
    · split at h
      · exact dynamicF_ge h
      · cases h
def inflI (bs : List UInt8) (most : Int) : Nat ⊕ (List UInt8 × Nat) :=
  if most < 0 then .inl 1
  else match inflF (bitsL true bs) most.toNat (8 * bs.length + 1) 0 [] with
    | .inl e => .inl e
    | .inr (q, o) => .inr (o, (q + 7) / 8)
def InfR (r : Nat ⊕ (List UInt8 × Nat)) (v : Value) (n x : Nat) (w0 w' : World) (F : SProp) : Prop :=
  match r with
  | .inl e => v = .slice none 0 0 ∧ n = 0 ∧ x = e ∧ e ≠ 0 ∧ St w0 w' F
  | .inr (o, k) => n = k ∧ x = 0 ∧ St w0 w' (own 5 1 v o.length (o.map bv) * F)
theorem fixA_le : ∀ n ∈ fixA, n ≤ 1000 := by decide
theorem fixB_le : ∀ n ∈ fixB, n ≤ 1000 := by decide
theorem fixA_len : fixA.length = 288 := by simp [fixA]
theorem fixB_len : fixB.length = 30 := by simp [fixB]

set_option maxHeartbeats 40000000 in
theorem inflate_any {w0 w : World} {F : SProp} (h : St w0 w F) (bs : List UInt8) (most : Int) (hl : bs.length ≤ 1000000000) (hm : most ≤ 10000000000000) {vb : Value} (hv : Stb w0 F (fun w => Reads w 1 vb bs.length (bs.map bv))) :
    Calls Tryz.prog 11 #[vb, .int .i64 most] w fun e w' => ∃ (v : Value) (n x : Nat), e = .returned (.tuple #[v, .int .i64 n, .int .i64 x]) ∧ InfR (inflI bs most) v n x w0 w' F := by
  by_cases hneg : most < 0
  · have HR := Lib.hid (show inflI bs most = .inl 1 by rw [inflI, if_pos hneg])
    have H := Lib.hid h; clear h hv
    go_enter Tryz.func11, Tryz.ntmps11
    go_wp2_with fail
    go_ret3
    rw [HR.out]
    exact ⟨_, 0, 1, rfl, rfl, rfl, rfl, by decide, H.out⟩
  obtain ⟨M, rfl⟩ : ∃ M : Nat, most = M := ⟨most.toNat, by omega⟩
  have HR := Lib.hid (show inflI bs M = (match inflF (bitsL true bs) M (8 * bs.length + 1) 0 [] with | .inl e => .inl e | .inr (q, o) => .inr (o, (q + 7) / 8)) by rw [inflI, if_neg hneg, Int.toNat_natCast])
  generalize hRES : inflF (bitsL true bs) M (8 * bs.length + 1) 0 [] = RES at *
  have HRES := Lib.hid hRES; clear hRES
  have hM : M ≤ 10000000000000 := by omega
  obtain ⟨ab, cb, rfl⟩ := (hv w h).sub
  have H := Lib.hid h
  have HV := Lib.hid hv; clear hv
  go_enter Tryz.func11, Tryz.ntmps11
  go_wp2_with fail
  refine (newReader_any h HV.out (by omega)).mono ?_
  rintro e w2 ⟨Rb, rfl, h2⟩
  have h3 : St w0 (w2.alloc (.cells #[] 5)) (own 5 1 (.slice (some ⟨w2.heap.size, 0, none⟩) 0 0) 0 ([].map bv) * (rdr Rb bs 0 true * F)) := St.own_blk (e := 5) (size := 1) (n := 0) (cap := 0) (xs := []) (h2.alloc (.cells #[] 5)) (Nat.le_refl _) (Nat.zero_le _) rfl rfl
  have h4 := h3.alloc (.cells #[.pointer (some ⟨Rb, 0, none⟩), .slice (some ⟨w2.heap.size, 0, none⟩) 0 0, .int .i64 (M : Int)] 50)
  have hS : (w2.alloc (.cells #[] 5)).heap.size = w2.heap.size + 1 := by
    show (w2.heap.push _).size = _
    exact Array.size_push _
  rw [hS] at h4
  have h5 := stm_shut (out := []) (h4.perm (show _ = blk _ (.cells #[.pointer (some ⟨Rb, 0, none⟩), .slice (some ⟨w2.heap.size, 0, none⟩) 0 0, .int .i64 (M : Int)] 50) * (rdr Rb bs 0 true * (own 5 1 (.slice (some ⟨w2.heap.size, 0, none⟩) 0 0) 0 ([].map bv) * F)) by ac_rfl))
  have H5 := Lib.hid h5; clear h2 h3 h4 h5 H h hS
  go_wp2_with fail
  generalize w2.heap.size + 1 = S at *
  generalize (w2.alloc (.cells #[] 5)).alloc (.cells #[.pointer (some ⟨Rb, 0, none⟩), .slice (some ⟨w2.heap.size, 0, none⟩) 0 0, .int .i64 (M : Int)] 50) = w3 at *
  go_loopg [8] (8 * bs.length + 1) (fun g u wr => ∃ (q : Nat) (o : List UInt8), 8 * bs.length + 1 ≤ g + q ∧ o.length ≤ M ∧ inflF (bitsL true bs) M g q o = RES ∧ St w0 wr (stm S Rb bs q o M * F))
  case atStart => exact ⟨0, [], by omega, by simp, HRES.out, H5.out⟩
  case round =>
    clear H5 HRES
    obtain ⟨q, o, hg, hol, hres, hst⟩ := hrel
    have hq := stm_le hst
    obtain ⟨g, rfl⟩ : ∃ g, gk = g + 1 := ⟨gk - 1, by omega⟩
    rw [inflF, length_bitsL] at hres
    have c0 := stm_cell0 hst
    have HST := Lib.hid hst; clear hst
    have HG := Lib.hid hg; clear hg
    by_cases hcut : 8 * bs.length < q + 3
    · rw [if_pos hcut] at hres
      have HRS := Lib.hid hres; clear hres
      go_wp2_with fail
      refine (stm_read_cut HST.out 3 rfl (by omega) hcut).mono ?_
      rintro e w4 ⟨rfl, h6⟩
      have H6 := Lib.hid h6; clear h6
      go_wp2_with fail
      go_ret3
      rw [HR.out, ← HRS.out]
      first | exact ⟨_, 0, 2, rfl, rfl, rfl, rfl, by decide, H6.out.right⟩ | exact ⟨_, 0, rfl, 2, rfl, rfl, rfl, by decide, H6.out.right⟩
    · rw [if_neg hcut] at hres
      have hv3 := vl_lt bs q 3
      have HRS := Lib.hid hres; clear hres
      go_wp2_with fail
      refine (stm_read_ok HST.out 3 rfl (by omega) (by omega)).mono ?_
      rintro e w4 ⟨rfl, h6⟩
      generalize vl (bitsL true bs) q 3 = hd at *
      have hd8 : hd < 8 := hv3
      have hand := and1_u32 hd (by omega)
      have hdv : (hd : Int) / 2 = ((hd / 2 : Nat) : Int) := by omega
      have hcs : hd / 2 = 0 ∨ hd / 2 = 1 ∨ hd / 2 = 2 ∨ hd / 2 = 3 := by omega
      have hb1 : hd % 2 = 0 ∨ hd % 2 = 1 := by omega
      clear hv3 hcut
      have H6 := Lib.hid h6; clear h6
      rcases hcs with h0 | h0 | h0 | h0
      · have hres := HRS.out
        rw [partF, if_pos h0] at hres
        rw [h0] at hdv
        have C := stored_any H6.out hol hM
        have HGE := Lib.hid (fun q1 o1 => storedF_ge (t := bitsL true bs) (most := M) (p := q + 3) (out := o) (q := q1) (o := o1))
        generalize storedF (bitsL true bs) M (q + 3) o = r at *
        have HC := Lib.hid C; clear C
        have HRT := Lib.hid hres; clear hres HRS
        go_wp2_with fail
        refine HC.out.mono ?_
        rintro e w5 ⟨x, q5, o5, rfl, hr, ho5, h7⟩
        clear HC
        cases r with
        | inl er =>
          obtain ⟨hx, hne⟩ := hr
          subst hx
          have hres := HRT.out
          simp only at hres
          have HRX := Lib.hid hres; clear hres HRT
          have hne2 : ¬ (x : Int) = 0 := by omega
          have H7 := Lib.hid h7; clear h7
          go_wp2_with fail
          go_ret3
          rw [HR.out, ← HRX.out]
          first | exact ⟨_, 0, x, rfl, rfl, rfl, rfl, hne, H7.out.right⟩ | exact ⟨_, 0, rfl, x, rfl, rfl, rfl, hne, H7.out.right⟩
        | inr qo =>
          obtain ⟨q6, o6⟩ := qo
          obtain ⟨hx, hq6, ho6⟩ := hr
          subst hx hq6 ho6
          have hge := HGE.out q5 o5 rfl
          have hres := HRT.out
          simp only at hres
          rcases hb1 with hb1 | hb1
          · rw [if_neg (by omega)] at hres
            rw [hb1] at hand
            have hne : (bits .and .u32 (hd : Int) 1 == 1) = false := by rw [hand]; rfl
            have HRX := Lib.hid hres; clear hres HRT hand
            have H7 := Lib.hid h7; clear h7
            go_wp2_with fail
            go_roundg g
            case measure => omega
            case rel => exact ⟨q5, o5, by have := HG.out; omega, ho5, HRX.out, H7.out⟩
          · rw [if_pos hb1] at hres
            rw [hb1] at hand
            have hne : (bits .and .u32 (hd : Int) 1 == 1) = true := by rw [hand]; rfl
            have HRX := Lib.hid hres; clear hres HRT hand
            obtain ⟨a5, c5, h8⟩ := stm_open h7
            have d0 := h8.cell 0 rfl
            have d1 := h8.cell 1 rfl
            have HQ := Lib.hid (fun n => Calls.quiet_of_same ((at_any (rdr_at ((h8.drewN n).perm (star_left_comm _ _ _)))).mono fun e w'' h => (⟨h.1, h.2.symm⟩ : e = .returned (.int .i64 (q5 : Int)) ∧ w'' = w5.drewN n)))
            have hq7 : ((q5 : Int) + 7) / 8 = (((q5 + 7) / 8 : Nat) : Int) := by omega
            have hq5 := stm_le h7
            have H7 := Lib.hid h8; clear h7 h8
            go_wp2_with fail
            go_quiet (first | (go_at_call 27; exact HQ.out _))
            have h9 := H7.out.drewN nq
            clear d0 d1
            generalize w5.drewN nq = w9 at *
            have H9 := Lib.hid h9; clear h9 H7 HQ
            go_wp2_with fail
            go_ret3
            rw [HR.out, ← HRX.out]
            have h10 := (H9.out.right.right)
            first | exact ⟨_, (q5 + 7) / 8, 0, rfl, rfl, rfl, h10⟩ | exact ⟨_, (q5 + 7) / 8, rfl, 0, rfl, rfl, h10⟩ | (refine ⟨_, (q5 + 7) / 8, 0, ?_, rfl, rfl, h10⟩; first | rfl | (rw [hq7]; rfl))
      · have hres := HRS.out
        rw [partF, if_neg (by omega), if_pos h0] at hres
        rw [h0] at hdv
        have HGE := Lib.hid (fun q1 o1 => blockL_ge (t := bitsL true bs) (la := fixA) (lb := fixB) (how := 2) (most := M) (p := q + 3) (out := o) (q := q1) (o := o1))
        go_wp2_with fail
        refine (fixed_any H6.out).mono ?_
        rintro e w45 ⟨va, vb, rfl, h65⟩
        obtain ⟨aa, ca, rfl⟩ := h65.reads.sub
        obtain ⟨ab5, cb5, rfl⟩ := h65.right.reads.sub
        have h66 := h65.perm (show _ = stm S Rb bs (q + 3) o M * (own 3 1 (.slice aa 288 ca) 288 (nvs fixA) * (own 3 1 (.slice ab5 30 cb5) 30 (nvs fixB) * F)) by ac_rfl)
        have C := block_any h66 hol hM fixA fixB 2 (by omega) (by rw [fixA_len]; omega) (by rw [fixB_len]; omega) fixA_le fixB_le (va := .slice aa 288 ca) (vb := .slice ab5 30 cb5) (by rw [fixA_len]; exact Stb.of_own) (by rw [fixB_len]; exact fun w h => h.right.reads)
        clear h65 h66
        generalize blockL (bitsL true bs) fixA fixB 2 M (q + 3) o = r at *
        have HC := Lib.hid C; clear C
        have HRT := Lib.hid hres; clear hres HRS
        go_wp2_with fail
        refine HC.out.mono ?_
        rintro e w5 ⟨x, q5, o5, rfl, hr, ho5, h7⟩
        clear HC
        have h7 := (h7.perm (show _ = own 3 1 (.slice aa 288 ca) 288 (nvs fixA) * (own 3 1 (.slice ab5 30 cb5) 30 (nvs fixB) * (stm S Rb bs q5 o5 M * F)) by ac_rfl)).right.right
        cases r with
        | inl er =>
          obtain ⟨hx, hne⟩ := hr
          subst hx
          have hres := HRT.out
          simp only at hres
          have HRX := Lib.hid hres; clear hres HRT
          have hne2 : ¬ (x : Int) = 0 := by omega
          have H7 := Lib.hid h7; clear h7
          go_wp2_with fail
          go_ret3
          rw [HR.out, ← HRX.out]
          first | exact ⟨_, 0, x, rfl, rfl, rfl, rfl, hne, H7.out.right⟩ | exact ⟨_, 0, rfl, x, rfl, rfl, rfl, hne, H7.out.right⟩
        | inr qo =>
          obtain ⟨q6, o6⟩ := qo
          obtain ⟨hx, hq6, ho6⟩ := hr
          subst hx hq6 ho6
          have hge := HGE.out q5 o5 rfl
          have hres := HRT.out
          simp only at hres
          rcases hb1 with hb1 | hb1
          · rw [if_neg (by omega)] at hres
            rw [hb1] at hand
            have hne : (bits .and .u32 (hd : Int) 1 == 1) = false := by rw [hand]; rfl
            have HRX := Lib.hid hres; clear hres HRT hand
            have H7 := Lib.hid h7; clear h7
            go_wp2_with fail
            go_roundg g
            case measure => omega
            case rel => exact ⟨q5, o5, by have := HG.out; omega, ho5, HRX.out, H7.out⟩
          · rw [if_pos hb1] at hres
            rw [hb1] at hand
            have hne : (bits .and .u32 (hd : Int) 1 == 1) = true := by rw [hand]; rfl
            have HRX := Lib.hid hres; clear hres HRT hand
            obtain ⟨a5, c5, h8⟩ := stm_open h7
            have d0 := h8.cell 0 rfl
            have d1 := h8.cell 1 rfl
            have HQ := Lib.hid (fun n => Calls.quiet_of_same ((at_any (rdr_at ((h8.drewN n).perm (star_left_comm _ _ _)))).mono fun e w'' h => (⟨h.1, h.2.symm⟩ : e = .returned (.int .i64 (q5 : Int)) ∧ w'' = w5.drewN n)))
            have hq7 : ((q5 : Int) + 7) / 8 = (((q5 + 7) / 8 : Nat) : Int) := by omega
            have hq5 := stm_le h7
            have H7 := Lib.hid h8; clear h7 h8
            go_wp2_with fail
            go_quiet (first | (go_at_call 27; exact HQ.out _))
            have h9 := H7.out.drewN nq
            clear d0 d1
            generalize w5.drewN nq = w9 at *
            have H9 := Lib.hid h9; clear h9 H7 HQ
            go_wp2_with fail
            go_ret3
            rw [HR.out, ← HRX.out]
            have h10 := (H9.out.right.right)
            first | exact ⟨_, (q5 + 7) / 8, 0, rfl, rfl, rfl, h10⟩ | exact ⟨_, (q5 + 7) / 8, rfl, 0, rfl, rfl, h10⟩ | (refine ⟨_, (q5 + 7) / 8, 0, ?_, rfl, rfl, h10⟩; first | rfl | (rw [hq7]; rfl))
      · have hres := HRS.out
        rw [partF, if_neg (by omega), if_neg (by omega), if_pos h0] at hres
        rw [h0] at hdv
        have C := dynamic_any H6.out hol hM
        have HGE := Lib.hid (fun q1 o1 => dynamicF_ge (t := bitsL true bs) (most := M) (p := q + 3) (out := o) (q := q1) (o := o1))
        generalize dynamicF (bitsL true bs) M (q + 3) o = r at *
        have HC := Lib.hid C; clear C
        have HRT := Lib.hid hres; clear hres HRS
        go_wp2_with fail
        refine HC.out.mono ?_
        rintro e w5 ⟨x, q5, o5, rfl, hr, ho5, h7⟩
        clear HC
        cases r with
        | inl er =>
          obtain ⟨hx, hne⟩ := hr
          subst hx
          have hres := HRT.out
          simp only at hres
          have HRX := Lib.hid hres; clear hres HRT
          have hne2 : ¬ (x : Int) = 0 := by omega
          have H7 := Lib.hid h7; clear h7
          go_wp2_with fail
          go_ret3
          rw [HR.out, ← HRX.out]
          first | exact ⟨_, 0, x, rfl, rfl, rfl, rfl, hne, H7.out.right⟩ | exact ⟨_, 0, rfl, x, rfl, rfl, rfl, hne, H7.out.right⟩
        | inr qo =>
          obtain ⟨q6, o6⟩ := qo
          obtain ⟨hx, hq6, ho6⟩ := hr
          subst hx hq6 ho6
          have hge := HGE.out q5 o5 rfl
          have hres := HRT.out
          simp only at hres
          rcases hb1 with hb1 | hb1
          · rw [if_neg (by omega)] at hres
            rw [hb1] at hand
            have hne : (bits .and .u32 (hd : Int) 1 == 1) = false := by rw [hand]; rfl
            have HRX := Lib.hid hres; clear hres HRT hand
            have H7 := Lib.hid h7; clear h7
            go_wp2_with fail
            go_roundg g
            case measure => omega
            case rel => exact ⟨q5, o5, by have := HG.out; omega, ho5, HRX.out, H7.out⟩
          · rw [if_pos hb1] at hres
            rw [hb1] at hand
            have hne : (bits .and .u32 (hd : Int) 1 == 1) = true := by rw [hand]; rfl
            have HRX := Lib.hid hres; clear hres HRT hand
            obtain ⟨a5, c5, h8⟩ := stm_open h7
            have d0 := h8.cell 0 rfl
            have d1 := h8.cell 1 rfl
            have HQ := Lib.hid (fun n => Calls.quiet_of_same ((at_any (rdr_at ((h8.drewN n).perm (star_left_comm _ _ _)))).mono fun e w'' h => (⟨h.1, h.2.symm⟩ : e = .returned (.int .i64 (q5 : Int)) ∧ w'' = w5.drewN n)))
            have hq7 : ((q5 : Int) + 7) / 8 = (((q5 + 7) / 8 : Nat) : Int) := by omega
            have hq5 := stm_le h7
            have H7 := Lib.hid h8; clear h7 h8
            go_wp2_with fail
            go_quiet (first | (go_at_call 27; exact HQ.out _))
            have h9 := H7.out.drewN nq
            clear d0 d1
            generalize w5.drewN nq = w9 at *
            have H9 := Lib.hid h9; clear h9 H7 HQ
            go_wp2_with fail
            go_ret3
            rw [HR.out, ← HRX.out]
            have h10 := (H9.out.right.right)
            first | exact ⟨_, (q5 + 7) / 8, 0, rfl, rfl, rfl, h10⟩ | exact ⟨_, (q5 + 7) / 8, rfl, 0, rfl, rfl, h10⟩ | (refine ⟨_, (q5 + 7) / 8, 0, ?_, rfl, rfl, h10⟩; first | rfl | (rw [hq7]; rfl))
      · have hres := HRS.out
        rw [partF, if_neg (by omega), if_neg (by omega), if_neg (by omega)] at hres
        rw [h0] at hdv
        simp only at hres
        have HRX := Lib.hid hres; clear hres HRS
        go_wp2_with fail
        go_ret3
        rw [HR.out, ← HRX.out]
        first | exact ⟨_, 0, 3, rfl, rfl, rfl, rfl, by decide, H6.out.right⟩ | exact ⟨_, 0, rfl, 3, rfl, rfl, rfl, by decide, H6.out.right⟩
end Go.Proofs.YtddifndfppilkaaGreat
