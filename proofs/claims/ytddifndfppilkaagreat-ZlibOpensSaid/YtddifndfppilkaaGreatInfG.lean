/-
  Layer 8 (inflate): a block that tells its words' lengths.
-/
import Derived.Test.YtddifndfppilkaaGreatInfF
namespace Go.Proofs.YtddifndfppilkaaGreat
open Go.RowKit Go.Mz
set_option linter.unusedVariables false
set_option linter.unusedSimpArgs false
set_option maxRecDepth 100000

theorem vl_add (t : List Nat) (p a b : Nat) : vl t p (a + b) = vl t p a + vl t (p + a) b * 2 ^ a := by
  induction b with
  | zero => simp [vl, numV]
  | succ b ih =>
    have e1 : vl t p (a + (b + 1)) = vl t p (a + b) + t.getD (p + (a + b)) 0 * 2 ^ (a + b) := rfl
    have e2 : vl t (p + a) (b + 1) = vl t (p + a) b + t.getD (p + a + b) 0 * 2 ^ b := rfl
    rw [e1, e2, ih, Nat.add_mul, Nat.add_assoc, ← Nat.add_assoc p a b, Nat.pow_add, Nat.mul_assoc, Nat.mul_comm (2 ^ b)]
theorem vl_14 (bs : List UInt8) (p : Nat) : vl (bitsL true bs) p 5 = vl (bitsL true bs) p 14 % 32 ∧ vl (bitsL true bs) (p + 5) 5 = vl (bitsL true bs) p 14 / 32 % 32 ∧ vl (bitsL true bs) (p + 10) 4 = vl (bitsL true bs) p 14 / 1024 := by
  have h1 := vl_add (bitsL true bs) p 5 9
  have h2 := vl_add (bitsL true bs) (p + 5) 5 4
  have l1 := vl_lt bs p 5
  have l2 := vl_lt bs (p + 5) 5
  rw [show p + 5 + 5 = p + 10 from rfl] at h2
  simp only [Nat.reduceAdd, Nat.reducePow] at h1 h2 l1 l2
  omega

theorem and31_u32 (x : Nat) (h : x < 4294967296) : bits .and .u32 (x : Int) 31 = ((x % 32 : Nat) : Int) := by
  have := u32_and_nat x 31 h (by decide)
  rw [nat_mask5] at this; exact this
theorem lengthsF_len {t : List Nat} {W : List (List Nat)} {n : Nat} : ∀ (f : Nat) (all : List Nat) (p q : Nat) (l : List Nat), lengthsF t W n f all p = .inr (q, l) → (∀ x ∈ all, x ≤ 15) → l.length = n ∧ ∀ x ∈ l, x ≤ 15 := by
  intro f
  induction f with
  | zero => intro all p q l h; rw [lengthsF] at h; cases h
  | succ f ih =>
    intro all p q l h hal
    rw [lengthsF] at h
    by_cases hln : all.length < n
    · rw [if_pos hln] at h
      generalize rdW W [] (t.drop p) = r at h
      obtain ⟨k, r⟩ := r
      cases r with
      | inr e => cases h
      | inl v =>
        simp only at h
        by_cases h16 : v < 16
        · rw [if_pos h16] at h
          exact ih _ _ _ _ h (fun x hx => by
            rcases List.mem_append.1 hx with hx | hx
            · exact hal x hx
            · rw [List.mem_singleton] at hx; omega)
        · rw [if_neg h16] at h
          by_cases hb : v = 16 ∧ all = []
          · rw [if_pos hb] at h; cases h
          · rw [if_neg hb] at h
            have hval : (if v = 16 then all.getD (all.length - 1) 0 else 0) ≤ 15 := by
              split
              · rw [List.getD_eq_getElem?_getD]
                cases e : all[all.length - 1]? with
                | none => simp
                | some b => exact hal b (List.mem_of_getElem? e)
              · omega
            generalize (if v = 16 then all.getD (all.length - 1) 0 else 0) = val at *
            generalize (if v = 16 then 2 else if v = 18 then 7 else 3) = wide at *
            generalize (if v = 18 then 11 else 3) = least at *
            by_cases hc : t.length < p + k + wide
            · rw [if_pos hc] at h; cases h
            · rw [if_neg hc] at h
              refine ih _ _ _ _ h (fun x hx => ?_)
              rcases List.mem_append.1 hx with hx | hx
              · exact hal x hx
              · rw [List.mem_replicate] at hx
                rw [hx.2]; exact hval
    · rw [if_neg hln] at h
      split at h
      · cases h
      · have := (Prod.mk.inj (Sum.inr.inj h)).2
        subst this
        exact ⟨by omega, hal⟩
theorem Reads.take {w : World} {g n cap : Nat} {xs : List Value} (h : Reads w 1 (.slice (some ⟨g, 0, none⟩) n cap) n xs) {k : Nat} (hk : k ≤ n) : Reads w 1 (.slice (some ⟨g, 0, none⟩) k cap) k (xs.take k) := by
  obtain ⟨hl, ⟨h0, _⟩ | ⟨x, c, h1, h2, h3, h4⟩⟩ := h
  · cases h0
  · cases h1
    refine ⟨by rw [List.length_take, hl]; omega, .inr ⟨_, _, rfl, by omega, h3, fun j u hu => h4 j u ?_⟩⟩
    rw [List.getElem?_take] at hu
    split at hu
    · exact hu
    · cases hu
theorem Reads.drop {w : World} {g n cap : Nat} {xs : List Value} (h : Reads w 1 (.slice (some ⟨g, 0, none⟩) n cap) n xs) {k : Nat} (hk : k ≤ n) : Reads w 1 (.slice (some ⟨g, k, none⟩) (n - k) (cap - k)) (n - k) (xs.drop k) := by
  obtain ⟨hl, ⟨h0, _⟩ | ⟨x, c, h1, h2, h3, h4⟩⟩ := h
  · cases h0
  · cases h1
    refine ⟨by rw [List.length_drop, hl]; omega, .inr ⟨_, _, rfl, by omega, by omega, fun j u hu => ?_⟩⟩
    rw [List.getElem?_drop] at hu
    have := h4 (k + j) u hu
    rw [Addr.add_lit, Nat.zero_add] at this
    rw [Addr.add_lit]
    exact this
theorem small3 {n : Nat} (h : n < 2 ^ 3) : n ≤ 7 ∧ wrap64 (n : Int) = n := by
  have : n < 8 := h
  exact ⟨by omega, by unfold wrap64; omega⟩
theorem orderL_lt : ∀ x ∈ orderL, x < 19 := by decide

set_option maxHeartbeats 40000000 in
theorem dynamic_any {w0 w : World} {S Rb : Nat} {bs : List UInt8} {p : Nat} {out : List UInt8} {most : Nat} {F : SProp} (h : St w0 w (stm S Rb bs p out most * F)) (hom : out.length ≤ most) (hm : most ≤ 10000000000000) :
    Calls Tryz.prog 26 #[.pointer (some ⟨S, 0, none⟩)] w fun e w' => ∃ (x p' : Nat) (out' : List UInt8), e = .returned (.int .i64 x) ∧ ResR (dynamicF (bitsL true bs) most p out) x p' out' ∧ out'.length ≤ most ∧ St w0 w' (stm S Rb bs p' out' most * F) := by
  have c0 := stm_cell0 h
  have H := Lib.hid h; clear h
  by_cases hcut : 8 * bs.length < p + 14
  · have HR := Lib.hid (show dynamicF (bitsL true bs) most p out = .inl 2 by rw [dynamicF, if_pos (by rw [length_bitsL]; exact hcut)])
    go_enter Tryz.func26, Tryz.ntmps26
    go_wp2_with fail
    refine (stm_read_cut H.out 14 rfl (by omega) hcut).mono ?_
    rintro e w2 ⟨rfl, h2⟩
    have H2 := Lib.hid h2; clear h2
    go_wp2_with fail
    go_ret
    exact ⟨2, p, out, rfl, by rw [HR.out]; exact ⟨rfl, by decide⟩, hom, H2.out⟩
  have HR := Lib.hid (show dynamicF (bitsL true bs) most p out = _ from by rw [dynamicF, if_neg (by rw [length_bitsL]; exact hcut)])
  obtain ⟨v1, v2, v3⟩ := vl_14 bs p
  have hv := vl_lt bs p 14
  rw [v1, v2, v3] at HR
  have C := stm_read_ok H.out (j := 14) 14 rfl (by omega) (by omega)
  have HC := Lib.hid C; clear C
  generalize vl (bitsL true bs) p 14 = hd at *
  clear v1 v2 v3
  go_enter Tryz.func26, Tryz.ntmps26
  go_wp2_with fail
  refine HC.out.mono ?_
  rintro e w2 ⟨rfl, h2⟩
  have H2 := Lib.hid h2; clear h2 HC
  go_upto_region 5 with (fail)
  have e5 : wrap64 (wrap64 (bits .and .u32 (hd : Int) 31) + 257) = ((hd % 32 + 257 : Nat) : Int) := by
    rw [and31_u32 _ (by omega)]; unfold wrap64; omega
  have e6 : wrap64 (wrap64 (bits .and .u32 ((hd : Int) / 32) 31) + 1) = ((hd / 32 % 32 + 1 : Nat) : Int) := by
    rw [show (hd : Int) / 32 = ((hd / 32 : Nat) : Int) by omega, and31_u32 _ (by omega)]; unfold wrap64; omega
  have e7 : (hd : Int) / 1024 + 4 = ((hd / 1024 + 4 : Nat) : Int) := by omega
  simp only [e5, e6, e7]
  have hlit : 257 ≤ hd % 32 + 257 := by omega
  have hdis : 1 ≤ hd / 32 % 32 + 1 := by omega
  have hmt : 4 ≤ hd / 1024 + 4 ∧ hd / 1024 + 4 ≤ 19 := by omega
  generalize hd % 32 + 257 = lits at *
  generalize hd / 32 % 32 + 1 = dists at *
  generalize hd / 1024 + 4 = mt at *
  clear e5 e6 e7
  by_cases hbad : 286 < lits ∨ 30 < dists
  · have hR := HR.out
    rw [if_pos hbad] at hR
    have HRX := Lib.hid hR; clear hR
    by_cases hb1 : 286 < lits
    · have hb2 : 286 < (lits : Int) := by omega
      go_wp2_with fail
      go_ret
      first | exact ⟨3, p + 14, out, rfl, by rw [HRX.out]; exact ⟨rfl, by decide⟩, hom, H2.out⟩ | exact ⟨3, rfl, p + 14, out, by rw [HRX.out]; exact ⟨rfl, by decide⟩, hom, H2.out⟩
    · have hb2 : ¬ 286 < (lits : Int) := by omega
      have hb3 : 30 < (dists : Int) := by omega
      go_wp2_with fail
      go_ret
      first | exact ⟨3, p + 14, out, rfl, by rw [HRX.out]; exact ⟨rfl, by decide⟩, hom, H2.out⟩ | exact ⟨3, rfl, p + 14, out, by rw [HRX.out]; exact ⟨rfl, by decide⟩, hom, H2.out⟩
  have hR := HR.out
  rw [if_neg hbad] at hR
  have hb2 : ¬ 286 < (lits : Int) := by omega
  have hb3 : ¬ 30 < (dists : Int) := by omega
  have HRX := Lib.hid hR; clear hR HR c0 H
  have T := elemI
  go_wp2_with (at_make; apply stop)
  refine on (wpList_make_sep T rfl _ _ rfl 19 rfl rfl rfl rfl H2.out (by decide) (by decide) ?_)
  intro v3 w3 h3
  have h3' : St w0 w3 (own 3 1 v3 19 (nvs (List.replicate 19 0)) * (stm S Rb bs (p + 14) out most * F)) := by
    have e : (madeCells (iv 0).cells (19 * 1)).toList = nvs (List.replicate 19 0) := by
      rw [Nat.mul_one]; simp [iv, Value.cells, toList_madeCells_one, nvs]; rfl
    rw [← e]; exact h3
  obtain ⟨a3, c3, rfl⟩ := h3'.reads.sub
  obtain ⟨g3, rfl⟩ := own_at h3' (by omega)
  have H3 := Lib.hid h3'; clear h3 h3' H2
  go_wp2_with fail
  refine (order_any H3.out).mono ?_
  rintro e w4 ⟨v4, rfl, h4⟩
  have hcap : ∃ g4 c4, v4 = .slice (some ⟨g4, 0, none⟩) 19 c4 ∧ 19 ≤ c4 := by
    obtain ⟨_, ⟨_, h0, _⟩ | ⟨g', cap', cur, e1, e2, _⟩⟩ := h4.own_split
    · omega
    · exact ⟨g', cap', e1, e2⟩
  obtain ⟨g4, c4, rfl, hc4⟩ := hcap
  have hmc : (mt : Int) ≤ c4 := by omega
  have hmc2 : mt ≤ c4 := by omega
  have H4 := Lib.hid h4; clear h4 H3
  go_wp2_with fail
  have hHM : ∃ RM, metaF (bitsL true bs) (orderL.take mt) (p + 14) (List.replicate 19 0) = RM := ⟨_, rfl⟩
  obtain ⟨RM, hRM⟩ := hHM
  rw [hRM] at HRX
  have HRM := Lib.hid hRM; clear hRM
  have hotl : (orderL.take mt).length = mt := by rw [List.length_take]; exact Nat.min_eq_left hmt.2
  have HOT := Lib.hid hotl; clear hotl
  go_loopw [50] (fun vi wr => ∃ (j q : Nat) (lens : List Nat), j ≤ mt ∧ vi = .int .i64 j ∧ lens.length = 19 ∧ (∀ x ∈ lens, x ≤ 7) ∧ metaF (bitsL true bs) ((orderL.take mt).drop j) q lens = RM ∧
    St w0 wr (own 3 1 (.slice (some ⟨g4, 0, none⟩) 19 c4) 19 (nvs orderL) * (own 3 1 (.slice (some ⟨g3, 0, none⟩) 19 c3) 19 (nvs lens) * (stm S Rb bs q out most * F)))) (fun vi _ => mt - (intOf vi).toNat)
  case atStart => exact ⟨0, p + 14, List.replicate 19 0, by omega, rfl, by simp, (fun x hx => by rw [List.mem_replicate] at hx; omega), HRM.out, H4.out⟩
  case round =>
    clear H4 HRM
    obtain ⟨j, q, lens, hj, rfl, hll, hl7, hmeta, hst⟩ := hrel
    by_cases hjm : j < mt
    · have hjm2 : (j : Int) < mt := by omega
      have hjo : j < orderL.length := by show j < 19; omega
      have hx := List.getElem?_eq_getElem hjo
      have hdrop : (orderL.take mt).drop j = orderL[j] :: (orderL.take mt).drop (j + 1) := by
        rw [List.drop_eq_getElem_cons (by rw [HOT.out]; exact hjm), List.getElem_take]
      have hoc := hst.own_cell (i := j) (u := .int .i64 (orderL[j] : Nat)) (by rw [nvs, List.getElem?_map, hx]; rfl)
      have hol := orderL_lt orderL[j] (List.getElem_mem _)
      rw [hdrop, metaF, length_bitsL] at hmeta
      generalize orderL[j] = oi at *
      clear hx hdrop hjo
      have hst2 := hst.perm (show _ = stm S Rb bs q out most * (own 3 1 (.slice (some ⟨g4, 0, none⟩) 19 c4) 19 (nvs orderL) * (own 3 1 (.slice (some ⟨g3, 0, none⟩) 19 c3) 19 (nvs lens) * F)) by ac_rfl)
      have c0 := stm_cell0 hst2
      have H5 := Lib.hid hst2; clear hst hst2
      have HME := Lib.hid hmeta; clear hmeta
      by_cases hcut : 8 * bs.length < q + 3
      · have hme := HME.out
        rw [if_pos hcut] at hme
        have HMX := Lib.hid hme; clear hme HME
        go_wp2_with fail
        refine (stm_read_cut H5.out 3 rfl (by omega) hcut).mono ?_
        rintro e w5 ⟨rfl, h6⟩
        have H6 := Lib.hid h6; clear h6
        go_wp2_with fail
        go_ret
        have hrx := HRX.out
        rw [← HMX.out] at hrx
        first | exact ⟨2, q, out, rfl, by rw [hrx]; exact ⟨rfl, by decide⟩, hom, (H6.out.perm (show _ = own 3 1 _ 19 _ * (own 3 1 _ 19 _ * (stm S Rb bs q out most * F)) by ac_rfl)).right.right⟩ | exact ⟨2, rfl, q, out, by rw [hrx]; exact ⟨rfl, by decide⟩, hom, (H6.out.perm (show _ = own 3 1 _ 19 _ * (own 3 1 _ 19 _ * (stm S Rb bs q out most * F)) by ac_rfl)).right.right⟩
      · have hme := HME.out
        rw [if_neg hcut] at hme
        have hv3 := vl_lt bs q 3
        have HMX := Lib.hid hme; clear hme HME
        go_wp2_with fail
        refine (stm_read_ok H5.out 3 rfl (by omega) (by omega)).mono ?_
        rintro e w5 ⟨rfl, h6⟩
        generalize vl (bitsL true bs) q 3 = n3 at *
        have h7 := h6.perm (show _ = own 3 1 (.slice (some ⟨g3, 0, none⟩) 19 c3) 19 (nvs lens) * (own 3 1 (.slice (some ⟨g4, 0, none⟩) 19 c4) 19 (nvs orderL) * (stm S Rb bs (q + 3) out most * F)) by ac_rfl)
        obtain ⟨u, hu⟩ : ∃ u, (nvs lens)[oi]? = some u := ⟨(nvs lens)[oi]'(by rw [length_nvs, hll]; exact hol), List.getElem?_eq_getElem _⟩
        have x3 := h7.own_cell hu
        have f3 := h7.own_free oi
        have h8 := h7.own_set oi (.int .i64 (n3 : Int))
        have e8 : (nvs lens).set oi (.int .i64 (n3 : Int)) = nvs (lens.set oi n3) := by rw [nvs, nvs, List.map_set]; rfl
        rw [e8] at h8
        have h9 := h8.perm (star_left_comm _ _ _)
        have H9 := Lib.hid h9; clear h6 h7 h8 h9 hu e8
        obtain ⟨hn7, hn3⟩ := small3 hv3
        have HLL := Lib.hid hll; have HL7 := Lib.hid hl7; clear hll hl7 hv3
        have hol2 : (oi : Int) < 19 := by omega
        have hj19 : j < 19 := by omega
        clear hv hlit hdis hmt hbad hb2 hb3 hmc hmc2 hc4 hom hm hcut
        go_wp2_with fail
        have HLS : (lens.set oi n3).length = 19 := by rw [List.length_set]; exact HLL.out
        have HL8 : ∀ x ∈ lens.set oi n3, x ≤ 7 := fun x hx => by
          rcases List.mem_or_eq_of_mem_set hx with h | h
          · exact HL7.out x h
          · rw [h]; exact hn7
        exact ⟨⟨j + 1, q + 3, lens.set oi n3, hjm, by go_num, HLS, HL8, HMX.out, H9.out⟩, by simp [intOf]; omega⟩
    · obtain rfl : j = mt := by omega
      rw [List.drop_eq_nil_of_le (by rw [HOT.out]; exact Nat.le_refl _), metaF] at hmeta
      have hrx := HRX.out
      rw [← hmeta] at hrx
      simp only at hrx
      have HRY := Lib.hid hrx; clear hrx HRX hmeta
      have h5 := hst.right
      clear hst HOT
      have C := book_any h5 lens 0 (by omega) (by omega) (fun n hn => by have := hl7 n hn; omega) (v := .slice (some ⟨g3, 0, none⟩) 19 c3) (by rw [hll]; exact Stb.of_own)
      have HLN := Lib.hid (fun W (h : wordsF lens 0 = .inr W) => wordsF_len h)
      generalize wordsF lens 0 = ra at *
      have HC := Lib.hid C; clear C h5
      have hl19 : lens.length ≤ 1000 := by omega
      clear hl7 hll hmt hjm hj hv hbad hc4 hmc hmc2
      go_wp2_with fail
      refine HC.out.mono ?_
      rintro e w5 hw
      clear HC
      cases ra with
      | inl er =>
        obtain ⟨hne, rfl, h6⟩ := hw
        simp only at HRY
        have hne2 : ¬ (er : Int) = 0 := by omega
        have H6 := Lib.hid h6.right; clear h6
        go_wp2_with fail
        go_ret
        first | exact ⟨er, q, out, rfl, by rw [HRY.out]; exact ⟨rfl, hne⟩, hom, H6.out⟩ | exact ⟨er, rfl, q, out, by rw [HRY.out]; exact ⟨rfl, hne⟩, hom, H6.out⟩
      | inr W =>
        obtain ⟨Bw, rfl, h6⟩ := hw
        simp only at HRY
        have hWl := HLN.out W rfl
        have C := lengths_any (h6.perm (show _ = stm S Rb bs q out most * (bkS Bw W * (own 3 1 (.slice (some ⟨g3, 0, none⟩) 19 c3) 19 (nvs lens) * F)) by ac_rfl)) (lits + dists) (by omega) (by omega)
        have HLF := Lib.hid (fun q' all (h : lengthsF (bitsL true bs) W (lits + dists) (lits + dists + 1) [] q = .inr (q', all)) => lengthsF_len (lits + dists + 1) [] q q' all h (by simp))
        generalize lengthsF (bitsL true bs) W (lits + dists) (lits + dists + 1) [] q = rl at *
        obtain ⟨nn, hnn⟩ : ∃ nn, nn = lits + dists := ⟨_, rfl⟩
        rw [← hnn] at C HLF
        have HC := Lib.hid C; clear C h6 hWl HLN hl19
        have hsum : (lits : Int) + dists = (nn : Int) := by omega
        have HNN := Lib.hid hnn; clear hnn
        go_wp2_with fail
        refine HC.out.mono ?_
        rintro e w6 ⟨v6, x, p6, rfl, hlr⟩
        clear HC
        cases rl with
        | inl er =>
          obtain ⟨hx, hne, h7⟩ := hlr
          subst hx
          simp only at HRY
          have hne2 : ¬ (x : Int) = 0 := by omega
          have H7 := Lib.hid ((h7.perm (show _ = bkS Bw W * (own 3 1 (.slice (some ⟨g3, 0, none⟩) 19 c3) 19 (nvs lens) * (stm S Rb bs p6 out most * F)) by ac_rfl)).right.right); clear h7
          clear hsum
          go_wp2_with fail
          go_ret
          first | exact ⟨x, p6, out, rfl, by rw [HRY.out]; exact ⟨rfl, hne⟩, hom, H7.out⟩ | exact ⟨x, rfl, p6, out, by rw [HRY.out]; exact ⟨rfl, hne⟩, hom, H7.out⟩
        | inr qa =>
          obtain ⟨q6, all⟩ := qa
          obtain ⟨hx, hq6, h7⟩ := hlr
          subst hx hq6
          simp only at HRY
          obtain ⟨hal, hal15⟩ := HLF.out p6 all rfl
          rw [HNN.out] at hal
          clear hsum
          have h7 : St w0 w6 (own 3 1 v6 all.length (nvs all) * (stm S Rb bs p6 out most * (bkS Bw W * (own 3 1 (.slice (some ⟨g3, 0, none⟩) 19 c3) 19 (nvs lens) * F)))) := h7
          have h7 := (h7.perm (show _ = bkS Bw W * (own 3 1 (.slice (some ⟨g3, 0, none⟩) 19 c3) 19 (nvs lens) * (stm S Rb bs p6 out most * (own 3 1 v6 all.length (nvs all) * F))) by ac_rfl)).right.right
          obtain ⟨a6, c6, rfl⟩ := (h7.right.reads).sub
          have hown : ∃ g6, a6 = some ⟨g6, 0, none⟩ ∧ all.length ≤ c6 := by
            obtain ⟨_, ⟨_, h0, _⟩ | ⟨g', cap', cur, e1, e2, _⟩⟩ := h7.right.own_split
            · omega
            · cases e1; exact ⟨g', rfl, e2⟩
          obtain ⟨g6, rfl, hc6⟩ := hown
          have h256 : w6.cell? ⟨g6, 256, none⟩ = some (.int .i64 (all.getD 256 0 : Nat)) := h7.right.own_cell (i := 256) (by
            rw [nvs, List.getElem?_map, List.getD_eq_getElem?_getD, List.getElem?_eq_getElem (by omega)]; rfl)
          have hl256 : (256 : Int) < all.length := by omega
          by_cases hz : all.getD 256 0 = 0
          · rw [if_pos hz] at HRY
            rw [hz] at h256
            have H7 := Lib.hid ((h7.perm (star_left_comm _ _ _)).right); clear h7
            clear hal hal15 hc6
            go_wp2_with fail
            go_ret
            first | exact ⟨3, p6, out, rfl, by rw [HRY.out]; exact ⟨rfl, by decide⟩, hom, H7.out⟩ | exact ⟨3, rfl, p6, out, by rw [HRY.out]; exact ⟨rfl, by decide⟩, hom, H7.out⟩
          · rw [if_neg hz] at HRY
            generalize all.getD 256 0 = z256 at *
            have hz2 : ¬ (z256 : Int) = 0 := by omega
            have htk : (all.take lits).length = lits := by rw [List.length_take]; omega
            have hdk : (all.drop lits).length = all.length - lits := by rw [List.length_drop]
            have C := block_any h7.drew hom hm (all.take lits) (all.drop lits) 1 (by omega) (by rw [htk]; omega) (by rw [hdk]; omega) (fun n hn => by have := hal15 n (List.mem_of_mem_take hn); omega) (fun n hn => by have := hal15 n (List.mem_of_mem_drop hn); omega)
              (va := .slice (some ⟨g6, 0, none⟩) lits c6) (vb := .slice (some ⟨g6, lits, none⟩) (all.length - lits) (c6 - lits))
              (by
                rw [htk]
                intro w h
                have := Reads.take h.reads (k := lits) (by omega)
                rw [nvs, ← List.map_take] at this
                exact this)
              (by
                rw [hdk]
                intro w h
                have := Reads.drop h.reads (k := lits) (by omega)
                rw [nvs, ← List.map_drop] at this
                exact this)
            have HC := Lib.hid C; clear C h7
            have hls : (lits : Int) ≤ all.length := by omega
            have hls2 : lits ≤ all.length := by omega
            have hls3 : lits ≤ c6 := by omega
            have hls4 : (lits : Int) ≤ c6 := by omega
            have hac : (all.length : Int) ≤ c6 := by omega
            have hcne : ¬ c6 = lits := by omega
            have HAL := Lib.hid hal; clear hal hal15 htk hdk HLF hz
            go_upto_region 24 with (fail)
            go_region_with (first | (go_at_call 25; refine HC.out.mono ?_; rintro e w8 ⟨x, p8, o8, rfl, hres, ho8, h8⟩; have H9 := Lib.hid h8; clear h8))
            all_goals
              go_wp2_with fail
              all_goals
                go_ret
                have h10 := (H9.out.perm (star_left_comm _ _ _)).right
                first | exact ⟨x, p8, o8, rfl, by rw [HRY.out]; exact hres, ho8, h10⟩ | exact ⟨x, rfl, p8, o8, by rw [HRY.out]; exact hres, ho8, h10⟩
end Go.Proofs.YtddifndfppilkaaGreat
