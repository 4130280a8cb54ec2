/-
  Layer 11: what is wrapped is opened, whatever is behind; cut off it isn't, nor with another sum, nor into fewer bytes.
-/
import Derived.Test.YtddifndfppilkaaZlbV
namespace Go.Proofs.Ytddifndfppilkaa.zagain
open Go.RowKit Go.Mz
set_option linter.unusedVariables false
set_option linter.unusedSimpArgs false
set_option maxRecDepth 100000

theorem kmodc (n : Int) (m : Nat) (hm : 0 < m) : ∃ K : Nat, (IntKind.u64.wrap n).tmod (m : Int) = K ∧ K < m := by
  have h0 : 0 ≤ IntKind.u64.wrap n := by
    simp [IntKind.wrap, IntKind.bits, IntKind.signed]
    exact Int.emod_nonneg _ (by decide)
  rw [Int.tmod_eq_emod_of_nonneg h0]
  have h1 := Int.emod_nonneg (IntKind.u64.wrap n) (show (m : Int) ≠ 0 by omega)
  have h2 := Int.emod_lt_of_pos (IntKind.u64.wrap n) (show (0 : Int) < (m : Int) by omega)
  generalize IntKind.u64.wrap n % (m : Int) = x at *
  exact ⟨x.toNat, by omega, by omega⟩
theorem kwrap (n : Int) : ∃ U : Nat, IntKind.u64.wrap n = U ∧ U < 18446744073709551616 := by
  have h0 : 0 ≤ IntKind.u64.wrap n ∧ IntKind.u64.wrap n < 18446744073709551616 := by
    simp [IntKind.wrap, IntKind.bits, IntKind.signed]
    omega
  exact ⟨(IntKind.u64.wrap n).toNat, by omega, by omega⟩
theorem reads_two (w : World) : Reads (w.alloc (.cells #[.int .u8 5, .int .u8 6] 5)) 1 (.slice (some ⟨w.heap.size, 0, none⟩) 2 2) 2 (([5, 6] : List UInt8).map bv) :=
  ((St.init w).lit #[.int .u8 5, .int .u8 6] 5 2 rfl (by decide)).reads
theorem st_long {b : List UInt8} {how : Nat} {x : List Nat} (h : DefS b how x) : 8 < x.length := by
  rcases h with ⟨_, h⟩ | ⟨_, T, _, h⟩
  · cases h with
    | last hl => rw [List.length_append, length_headL, storedL]; simp only [List.length_append, List.length_replicate, List.length_reverse, length_wordB]; omega
    | more hl hy _ => subst hy; rw [List.length_append, List.length_append, length_headL, storedL]; simp only [List.length_append, List.length_replicate, List.length_reverse, length_wordB]; omega
  · have one : ∀ {last T y}, OneB how last T y → 8 < y.length := by
      intro last T y ho
      rcases ho with ⟨_, rfl⟩ | ⟨_, la, lb, me, R, _, _, _, _, rfl⟩
      · have e : (FA.getD 256 []).length = 7 := by decide +kernel
        rw [List.length_append, length_headL, toldB, List.length_append, e]; omega
      · simp only [List.length_append, length_headL, metaH, List.length_reverse, length_wordB]; omega
    cases h with
    | last _ ho => exact one ho
    | more _ ho _ => rw [List.length_append]; have := one ho; omega
theorem wrap_set (x : List Nat) (S : List UInt8) (j : Nat) (d : UInt8) : (wrapS x S).set ((bytesB true x).length + 2 + j) d = wrapS x (S.set j d) := by
  unfold wrapS
  rw [show (bytesB true x).length + 2 + j = ((bytesB true x).length + j) + 1 + 1 by omega, List.set_cons_succ, List.set_cons_succ, List.set_append_right _ _ (by omega), Nat.add_sub_cancel_left]
theorem wrap_get (x : List Nat) (S : List UInt8) (j : Nat) : (wrapS x S)[(bytesB true x).length + 2 + j]? = S[j]? := by
  unfold wrapS
  rw [show (bytesB true x).length + 2 + j = ((bytesB true x).length + j) + 1 + 1 by omega, List.getElem?_cons_succ, List.getElem?_cons_succ, List.getElem?_append_right (by omega), Nat.add_sub_cancel_left]
theorem rd_take {w : World} {a : Option Addr} {n c k : Nat} {bs : List UInt8} (h : Reads w 1 (.slice a n c) n (bs.map bv)) (hk : k ≤ n) : Reads w 1 (.slice a k c) k ((bs.take k).map bv) := by
  obtain ⟨hl, ⟨e1, e2⟩ | ⟨x, cap, e1, h1, h2, h3⟩⟩ := h
  · subst e2
    cases e1
    obtain rfl : k = 0 := by omega
    exact ⟨by simp, .inl ⟨rfl, rfl⟩⟩
  · cases e1
    refine ⟨by simp at hl ⊢; omega, .inr ⟨x, c, rfl, by omega, h2, fun j u hu => h3 j u ?_⟩⟩
    rw [List.map_take, List.getElem?_take] at hu
    split at hu
    · exact hu
    · cases hu
set_option maxHeartbeats 40000000 in
theorem walk (vb : Value) (bs : List UInt8) (how pl : Int) (w : World) (hb : Reads w 1 vb bs.length (bs.map bv)) :
    Calls Try.prog 8 #[vb, .int .i64 how, .int .i64 pl] w fun e w' => e = .returned (.bool true) ∧ Below w.heap.size w w' := by
  have HB := Lib.hid (Stb.of_old hb)
  obtain ⟨a1, c1, rfl⟩ := hb.sub
  have hm := hb.len_le
  unfold maxLen at hm
  clear hb
  have H := Lib.hid (St.init w)
  have fin : ∀ w', St w w' (Mz.old w) → Below w.heap.size w w' := fun w' h => (h.perm ((emp_star _).symm.trans (star_comm _ _))).below
  have FIN := Lib.hid fin; clear fin
  by_cases hl6 : 3000 < bs.length
  · have hl7 : 3000 < (bs.length : Int) := by omega
    go_enter Try.func8, Try.ntmps8
    go_wp2_with fail
    refine (lives11 H.out).mono ?_
    rintro e w1 ⟨rfl, h2⟩
    have H2 := Lib.hid h2; clear h2
    go_wp2_with fail
    refine (lives11 H2.out).mono ?_
    rintro e w2 ⟨rfl, h3⟩
    have H3 := Lib.hid h3; clear h3
    go_wp2_with fail
    go_ret
    exact ⟨rfl, FIN.out _ H3.out⟩
  have hl7 : ¬ 3000 < (bs.length : Int) := by omega
  obtain ⟨nb, hnb⟩ : ∃ nb, bs.length = nb := ⟨_, rfl⟩
  rw [hnb] at HB hm hl6 hl7
  simp only [hnb]
  have HNB := Lib.hid hnb
  clear hnb
  have T := elemBytes
  obtain ⟨hw, hW0, hW1⟩ := kmodc how 3 (by omega)
  replace hW0 : (IntKind.u64.wrap how).tmod 3 = hw := hW0
  go_enter Try.func8, Try.ntmps8
  go_wp2_with fail
  refine (lives11 H.out).mono ?_
  rintro e w1 ⟨rfl, h2⟩
  have HP := Lib.hid (pack_any h2 (b := bs) (by rw [HNB.out]; omega) (v := .slice a1 nb c1) (by rw [HNB.out]; exact HB.out) (how := hw) (by omega))
  clear h2 H
  go_wp2_with (go_at_call 16; apply stop)
  refine on ?_
  refine HP.out.mono ?_
  rintro e w2 ⟨v2, x, z, rfl, hx, hxl, hz, h3⟩
  have hlong := st_long hx
  obtain ⟨nn, hdone⟩ := hx.done
  have hS := length_bytesO true (adlerN bs) 4
  have hzw : z = wrapS x (bytesO true (adlerN bs) 4) := hz
  have hall := fun ex most => zopen_wrap hdone hS ex most
  have hcut := fun m (h : m < (wrapS x (bytesO true (adlerN bs) 4)).length) most hb => zopen_cut hdone hS h most hb
  have hzl : z.length = (bytesB true x).length + 6 := by rw [hzw, length_wrapS, hS]
  have hXl := length_bytesB' true x
  rw [numH_put (adlerN_lt bs)] at hall
  obtain ⟨L, hL⟩ : ∃ L, z.length = L := ⟨_, rfl⟩
  have hL8 : 8 ≤ L := by omega
  have hLm : L ≤ 20000000 := by omega
  obtain ⟨X, hX⟩ : ∃ X, (bytesB true x).length = X := ⟨_, rfl⟩
  have hLX : L = X + 6 := by omega
  rw [hL] at h3
  obtain ⟨a3, c3, rfl⟩ := h3.reads.sub
  have H3 := Lib.hid h3
  have HZL := Lib.hid hL; have HLX := Lib.hid hLX; have HXX := Lib.hid hX; have HZW := Lib.hid hzw; have HALL := Lib.hid hall; have HCUT := Lib.hid hcut; have HS := Lib.hid hS
  have HDONE := Lib.hid hdone
  clear h3 hL hLX hX hzw hall hcut hS hdone hz hzl hXl hlong hx hxl HP
  have hLI : ¬ (L : Int) < 8 := by omega
  go_wp2_with (at_builtin; apply stop)
  refine on (wpList_append_sep T rfl _ _ rfl rfl (St.own_blk (e := 5) (size := 1) (n := 0) (cap := 0) (xs := []) (H3.out.alloc (.cells #[] 5)) (Nat.le_refl _) (Nat.zero_le _) rfl rfl) rfl ((H3.out.drop_alloc _).reads) (bv_oneCell z) (by unfold maxLen; omega) (by omega) ?_)
  intro v4 w4 h4 _
  rw [List.nil_append, Nat.zero_add] at h4
  obtain ⟨a4, c4, rfl⟩ := h4.reads.sub
  have H4 := Lib.hid h4
  clear h4 H3
  go_wp2_with (at_builtin; apply stop)
  have h5 := H4.out.lit #[.int .u8 5, .int .u8 6] 5 2 rfl (by decide)
  have H5 := Lib.hid h5
  clear h5 H4
  refine on (wpList_append_sep T rfl _ _ rfl rfl (H5.out.perm (star_left_comm _ _ _)) rfl (m := 2) (news := [5, 6].map bv) H5.out.reads (bv_oneCell [5, 6]) (by unfold maxLen; omega) (by omega) ?_)
  intro v6 w6 h6 _
  rw [← List.map_append] at h6
  have h6 := (h6.perm (star_left_comm _ _ _)).right
  obtain ⟨a6, c6, rfl⟩ := h6.reads.sub
  have hlen9 : (z ++ [5, 6]).length = L + 2 := by rw [List.length_append, HZL.out]; rfl
  have C := open_any h6 (z ++ [5, 6]) (nb : Int) (by rw [hlen9]; omega) (by omega) (vb := .slice a6 (L + 2) c6) (by rw [hlen9]; exact Stb.of_own)
  rw [HZW.out, HALL.out [5, 6] (nb : Int), if_neg (by omega), if_neg (by rw [HNB.out]; omega), if_neg (fun h => h rfl), ← HZW.out, HZL.out] at C
  have HC := Lib.hid C
  clear C h6 hlen9 H5
  go_wp2_with (go_at_call 17; apply stop)
  refine on ?_
  refine HC.out.mono ?_
  rintro e w7 ⟨v7, n7, x7, rfl, h7⟩
  obtain ⟨hn7, rfl, h7⟩ := h7
  rw [hn7]
  rw [HNB.out] at h7
  clear hn7 n7
  obtain ⟨a7, c7, rfl⟩ := h7.reads.sub
  have H7 := Lib.hid ((h7.perm (star_left_comm _ _ _)).right)
  clear h7 HC
  obtain ⟨U, hU, hU2⟩ := kwrap pl
  obtain ⟨m, hm1, hmL⟩ : ∃ m : Nat, (U : Int).tmod (L : Int) = m ∧ m < L := ⟨U % L, by rw [Int.tmod_eq_emod_of_nonneg (by omega)]; omega, Nat.mod_lt _ (by omega)⟩
  obtain ⟨q, hq1, hq4⟩ : ∃ q : Nat, (U : Int) % 4 = q ∧ q < 4 := ⟨U % 4, by omega, by omega⟩
  obtain ⟨t, ht1, ht8⟩ : ∃ t : Nat, (U : Int) / 4 % 8 = t ∧ t < 8 := ⟨U / 4 % 8, by omega, by omega⟩
  have hmI : (m : Int) ≤ L := by omega
  have hmN : m ≤ L := by omega
  have hc3 := (rd_cap H7.out.right.reads).1
  have hmc : (m : Int) ≤ c3 := by omega
  have hc0 : ¬ c3 = 0 := by omega
  have C := open_any H7.out (z.take m) (nb : Int) (by rw [List.length_take, HZL.out]; omega) (by omega) (vb := .slice a3 m c3) (by rw [List.length_take, HZL.out, Nat.min_eq_left hmN]; exact Stb.more (fun w h => rd_take h.reads hmN) _)
  have hcz := HCUT.out m (by rw [← HZW.out, HZL.out]; exact hmL) (nb : Int) (by rw [HNB.out]; omega)
  rw [← HZW.out] at hcz
  rw [hcz] at C
  have HC := Lib.hid C
  clear C hcz
  go_wp2_with (go_at_call 17; apply stop)
  refine on ?_
  refine HC.out.mono ?_
  rintro e w8 ⟨v8, n8, x8, rfl, rfl, rfl, rfl, _, h8⟩
  have H8 := Lib.hid h8
  clear h8 HC
  obtain ⟨j, hj⟩ : ∃ j, L - 1 - q = j := ⟨_, rfl⟩
  have hjI : (L : Int) - 1 - (q : Int) = (j : Int) := by omega
  have hjl : (j : Int) < L := by omega
  have hjN : j < L := by omega
  obtain ⟨s, hs⟩ : ∃ s, 3 - q = s := ⟨_, rfl⟩
  have hs4 : s < (bytesO true (adlerN bs) 4).length := by rw [HS.out]; omega
  have hjs : j = (bytesB true x).length + 2 + s := by rw [HXX.out]; have := HLX.out; omega
  have hget := wrap_get x (bytesO true (adlerN bs) 4) s
  rw [← hjs, ← HZW.out, List.getElem?_eq_getElem hs4] at hget
  obtain ⟨ch, hch⟩ : ∃ ch, (bytesO true (adlerN bs) 4)[s] = ch := ⟨_, rfl⟩
  rw [hch] at hget
  obtain ⟨d, hdne, hxor⟩ := xor_bit ch ht8
  obtain ⟨g, rfl⟩ := own_at H8.out.right (by omega)
  have h8 := H8.out.perm (star_left_comm _ _ _)
  have hfz := h8.own_free j
  have hcc := h8.own_cell (i := j) (u := .int .u8 (ch.toNat : Int)) (by rw [List.getElem?_map, hget]; rfl)
  have h9 := h8.own_set j (bv d)
  have hz' : z.set j d = wrapS x ((bytesO true (adlerN bs) 4).set s d) := by rw [HZW.out, hjs, wrap_set]
  rw [← List.map_set, hz'] at h9
  have hne : numH ((bytesO true (adlerN bs) 4).set s d) ≠ adlerN bs := by
    have := numH_turned hs4 (hch ▸ hdne)
    rwa [numH_put (adlerN_lt bs)] at this
  have hS' : ((bytesO true (adlerN bs) 4).set s d).length = 4 := by rw [List.length_set, HS.out]
  have hall' := fun most => zopen_wrap HDONE.out hS' [] most
  obtain ⟨z', hzz⟩ : ∃ z', wrapS x ((bytesO true (adlerN bs) 4).set s d) = z' := ⟨_, rfl⟩
  have hzl' : z'.length = L := by rw [← hzz, length_wrapS, hS', HXX.out]; have := HLX.out; omega
  rw [hzz] at h9 hall'
  simp only [List.append_nil] at hall'
  have H9 := Lib.hid h9; have HALL' := Lib.hid hall'; have HZL' := Lib.hid hzl'; have HNE := Lib.hid hne
  generalize ch.toNat = cn at *
  clear hzz hzl' hall' hS' hne hz' h9 h8 hch hget hjs hs4 hs hdne hj
  have C := open_any H9.out z' (nb : Int) (by rw [HZL'.out]; omega) (by omega) (vb := .slice (some ⟨g, 0, none⟩) L c3) (by rw [HZL'.out]; exact Stb.of_own)
  rw [HALL'.out (nb : Int), if_neg (by omega), if_neg (by rw [HNB.out]; omega), if_pos HNE.out] at C
  have HC := Lib.hid C
  clear C
  go_wp2_with (go_at_call 17; apply stop)
  refine on ?_
  refine HC.out.mono ?_
  rintro e w10 ⟨v10, n10, x10, rfl, rfl, rfl, rfl, _, h10⟩
  have q1 := fun (W : World) (hr : Reads W 1 (.slice a7 nb c7) nb (bs.map bv)) => run_b2s (P := Try.prog) Try.underlying22 Try.underlying5 Try.underlying9 hr
  have q2 := fun (W : World) (hr : Reads W 1 (.slice a1 nb c1) nb (bs.map bv)) => run_b2s (P := Try.prog) Try.underlying22 Try.underlying5 Try.underlying9 hr
  have HK1 := Lib.hid q1; have HK2 := Lib.hid q2
  have C2 := open_any h10 z' ((nb : Int) - 1) (by rw [HZL'.out]; omega) (by omega) (vb := .slice (some ⟨g, 0, none⟩) L c3) (by rw [HZL'.out]; exact Stb.of_own)
  rw [HALL'.out ((nb : Int) - 1)] at C2
  clear h10 HC hxor q1 q2 hfz hcc H9
  by_cases hz : nb = 0
  · rw [if_pos (by omega)] at C2
    have hzI : ((nb : Int) == 0) = true := by simp; omega
    have hzJ : ¬ (0 : Int) < nb := by omega
    have HC2 := Lib.hid C2
    clear C2 hz
    go_wp2_with (go_at_call 17; apply stop)
    refine on ?_
    refine HC2.out.mono ?_
    rintro e w11 ⟨v11, n11, x11, rfl, rfl, rfl, rfl, _, h11⟩
    have q1 := HK1.out _ h11.right.reads
    have q2 := HK2.out _ (HB.out _ h11.right.right)
    have HF := Lib.hid (FIN.out _ h11.right.right)
    clear h11
    go_wp2_with fail
    go_ret
    exact ⟨rfl, HF.out⟩
  · rw [if_neg (by omega), if_pos (by rw [HNB.out]; omega)] at C2
    have hzI : ((nb : Int) == 0) = false := by simp; omega
    have hzJ : (0 : Int) < nb := by omega
    have HC2 := Lib.hid C2
    clear C2 hz
    go_wp2_with (go_at_call 17; apply stop)
    refine on ?_
    refine HC2.out.mono ?_
    rintro e w11 ⟨v11, n11, x11, rfl, rfl, rfl, rfl, _, h11⟩
    have q1 := HK1.out _ h11.right.reads
    have q2 := HK2.out _ (HB.out _ h11.right.right)
    have HF := Lib.hid (FIN.out _ h11.right.right)
    clear h11
    go_wp2_with fail
    go_ret
    exact ⟨rfl, HF.out⟩
end Go.Proofs.Ytddifndfppilkaa.zagain
