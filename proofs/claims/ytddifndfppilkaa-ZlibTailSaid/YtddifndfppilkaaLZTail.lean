/-
  Layer 11: what is behind a wrapping doesn't matter; a bit of its sum that is turned is told; each beginning of it is refused.
-/
import Derived.Test.YtddifndfppilkaaZlbV
import Derived.RegionTactic
import Derived.OpenShut
import Derived.BigRegion
namespace Go.Proofs.Ytddifndfppilkaa.ztail
open Go.RowKit Go.Mz Go.ChangeShapes Go.WideShapes
set_option linter.unusedVariables false
set_option linter.unusedSimpArgs false
set_option maxRecDepth 100000

def pairV (y : Int × Int) : Value := .agg #[.int .i64 y.1, .int .i64 y.2]
theorem pair_in {H : Type} {enc : TypeId × Value → H} {w : World} {r : Reach} {b0 base : Nat} {spare : Nat → Bool} {held : Bool} {fuel : Nat} {v : Value} {x : DataW H × List MemPlace}
    (hv : Value.okWide Try.prog w r b0 36 v) (h : DataW.trod enc Try.prog w base spare held fuel 36 v.cells.toList = some x) :
    ∃ y : Int × Int, v = pairV y ∧ (Lit.int .i64 y.1).wf = true ∧ (Lit.int .i64 y.2).wf = true := by
  simp only [Value.okWide, Try.underlying36] at hv
  obtain ⟨cs, rfl, h2, _⟩ := hv
  have hC : Try.prog.cellsOf 36 = 2 := by kernel_rfl
  have hE : Try.prog.cellsOf 3 = 1 := by kernel_rfl
  rw [hC] at h2
  obtain ⟨ys, m, _, _, _, hyl, hf⟩ := DataW.trod_array Try.underlying36 h
  have f0 := hf 0 (by decide)
  have f1 := hf 1 (by decide)
  rw [hE] at f0 f1
  obtain ⟨c0, c1, rfl⟩ : ∃ c0 c1, cs = #[c0, c1] := by
    obtain ⟨l⟩ := cs
    match l, h2 with
    | [a, b], _ => exact ⟨a, b, rfl⟩
  obtain ⟨y0, hy0⟩ : ∃ y, ys[0]? = some y := ⟨_, List.getElem?_eq_getElem (by omega)⟩
  obtain ⟨y1, hy1⟩ : ∃ y, ys[1]? = some y := ⟨_, List.getElem?_eq_getElem (by omega)⟩
  rw [hy0] at f0
  rw [hy1] at f1
  obtain ⟨a, ha, _, wa⟩ := DataW.trod_int Try.underlying3 f0
  obtain ⟨b, hb, _, wb⟩ := DataW.trod_int Try.underlying3 f1
  simp [Value.cells] at ha hb
  subst ha hb
  exact ⟨(a, b), rfl, wa, wb⟩

theorem kmodc (n : Int) (m : Nat) (hm : 0 < m) : ∃ K : Nat, (IntKind.u64.wrap n).tmod (m : Int) = K ∧ K < m := by
  have h0 : 0 ≤ IntKind.u64.wrap n := by
    simp [IntKind.wrap, IntKind.bits, IntKind.signed]
    exact Int.emod_nonneg _ (by decide)
  rw [Int.tmod_eq_emod_of_nonneg h0]
  have h1 := Int.emod_nonneg (IntKind.u64.wrap n) (show (m : Int) ≠ 0 by omega)
  have h2 := Int.emod_lt_of_pos (IntKind.u64.wrap n) (show (0 : Int) < (m : Int) by omega)
  generalize IntKind.u64.wrap n % (m : Int) = x at *
  exact ⟨x.toNat, by omega, by omega⟩
theorem kwrap (n : Int) : ∃ U : Nat, IntKind.u64.wrap n = U ∧ U < 18446744073709551616 := by
  have h0 : 0 ≤ IntKind.u64.wrap n ∧ IntKind.u64.wrap n < 18446744073709551616 := by
    simp [IntKind.wrap, IntKind.bits, IntKind.signed]
    omega
  exact ⟨(IntKind.u64.wrap n).toNat, by omega, by omega⟩
theorem reads_two (w : World) : Reads (w.alloc (.cells #[.int .u8 5, .int .u8 6] 5)) 1 (.slice (some ⟨w.heap.size, 0, none⟩) 2 2) 2 (([5, 6] : List UInt8).map bv) :=
  ((St.init w).lit #[.int .u8 5, .int .u8 6] 5 2 rfl (by decide)).reads
theorem st_long {b : List UInt8} {how : Nat} {x : List Nat} (h : DefS b how x) : 8 < x.length := by
  rcases h with ⟨_, h⟩ | ⟨_, T, _, h⟩
  · cases h with
    | last hl => rw [List.length_append, length_headL, storedL]; simp only [List.length_append, List.length_replicate, List.length_reverse, length_wordB]; omega
    | more hl hy _ => subst hy; rw [List.length_append, List.length_append, length_headL, storedL]; simp only [List.length_append, List.length_replicate, List.length_reverse, length_wordB]; omega
  · have one : ∀ {last T y}, OneB how last T y → 8 < y.length := by
      intro last T y ho
      rcases ho with ⟨_, rfl⟩ | ⟨_, la, lb, me, R, _, _, _, _, rfl⟩
      · have e : (FA.getD 256 []).length = 7 := by decide +kernel
        rw [List.length_append, length_headL, toldB, List.length_append, e]; omega
      · simp only [List.length_append, length_headL, metaH, List.length_reverse, length_wordB]; omega
    cases h with
    | last _ ho => exact one ho
    | more _ ho _ => rw [List.length_append]; have := one ho; omega
theorem wrap_set (x : List Nat) (S : List UInt8) (j : Nat) (d : UInt8) : (wrapS x S).set ((bytesB true x).length + 2 + j) d = wrapS x (S.set j d) := by
  unfold wrapS
  rw [show (bytesB true x).length + 2 + j = ((bytesB true x).length + j) + 1 + 1 by omega, List.set_cons_succ, List.set_cons_succ, List.set_append_right _ _ (by omega), Nat.add_sub_cancel_left]
theorem wrap_get (x : List Nat) (S : List UInt8) (j : Nat) : (wrapS x S)[(bytesB true x).length + 2 + j]? = S[j]? := by
  unfold wrapS
  rw [show (bytesB true x).length + 2 + j = ((bytesB true x).length + j) + 1 + 1 by omega, List.getElem?_cons_succ, List.getElem?_cons_succ, List.getElem?_append_right (by omega), Nat.add_sub_cancel_left]
theorem rd_take {w : World} {a : Option Addr} {n c k : Nat} {bs : List UInt8} (h : Reads w 1 (.slice a n c) n (bs.map bv)) (hk : k ≤ n) : Reads w 1 (.slice a k c) k ((bs.take k).map bv) := by
  obtain ⟨hl, ⟨e1, e2⟩ | ⟨x, cap, e1, h1, h2, h3⟩⟩ := h
  · subst e2
    cases e1
    obtain rfl : k = 0 := by omega
    exact ⟨by simp, .inl ⟨rfl, rfl⟩⟩
  · cases e1
    refine ⟨by simp at hl ⊢; omega, .inr ⟨x, c, rfl, by omega, h2, fun j u hu => h3 j u ?_⟩⟩
    rw [List.map_take, List.getElem?_take] at hu
    split at hu
    · exact hu
    · cases hu
set_option maxHeartbeats 40000000 in
theorem walk (vb : Value) (bs : List UInt8) (vt : Value) (ts : List UInt8) (y : Int × Int) (w : World) (hb : Reads w 1 vb bs.length (bs.map bv)) (ht : Reads w 1 vt ts.length (ts.map bv)) :
    Calls Try.prog 9 #[vb, vt, pairV y] w fun e w' => e = .returned (.bool true) ∧ Below w.heap.size w w' := by
  obtain ⟨how, pl⟩ := y
  simp only [pairV]
  have HB := Lib.hid (Stb.of_old hb); have HT := Lib.hid (Stb.of_old ht)
  obtain ⟨a1, c1, rfl⟩ := hb.sub
  obtain ⟨at1, ct1, rfl⟩ := ht.sub
  have hm := hb.len_le
  have hmt := ht.len_le
  unfold maxLen at hm hmt
  clear hb ht
  have H := Lib.hid ((St.init w).drop_alloc (.cells #[.int .i64 how, .int .i64 pl] 36))
  have fin : ∀ w', St w w' (Mz.old w) → Below w.heap.size w w' := fun w' h => (h.perm ((emp_star _).symm.trans (star_comm _ _))).below
  have FIN := Lib.hid fin; clear fin
  obtain ⟨nb, hnb⟩ : ∃ nb, bs.length = nb := ⟨_, rfl⟩
  obtain ⟨nt, hnt⟩ : ∃ nt, ts.length = nt := ⟨_, rfl⟩
  rw [hnb] at HB hm
  rw [hnt] at HT hmt
  simp only [hnb, hnt]
  have HNB := Lib.hid hnb; have HNT := Lib.hid hnt
  clear hnb hnt
  obtain ⟨hw, hW0, hW1⟩ := kmodc how 3 (by omega)
  replace hW0 : (IntKind.u64.wrap how).tmod 3 = hw := hW0
  go_enter Try.func9, Try.ntmps9
  go_wp2_with fail
  go_quiet (fail)
  go_wp2_with fail
  refine (lives11 (H.out.drewN _)).mono ?_
  rintro e w1 ⟨rfl, h2⟩
  have H2 := Lib.hid h2; clear h2 H
  by_cases hbad : 600 < nb ∨ 100 < nt
  · have hd : (600 : Int) < nb ∨ (¬ (600 : Int) < nb ∧ (100 : Int) < nt) := by omega
    clear hbad
    rcases hd with h1 | ⟨h1, h2⟩
    · go_wp2_with fail
      refine (lives11 H2.out).mono ?_
      rintro e w2 ⟨rfl, h3⟩
      have H3 := Lib.hid h3; clear h3
      go_wp2_with fail
      go_ret
      exact ⟨rfl, FIN.out _ H3.out⟩
    · go_wp2_with fail
      refine (lives11 H2.out).mono ?_
      rintro e w2 ⟨rfl, h3⟩
      have H3 := Lib.hid h3; clear h3
      go_wp2_with fail
      go_ret
      exact ⟨rfl, FIN.out _ H3.out⟩
  have hl6 : ¬ (600 : Int) < nb := by omega
  have ht6 : ¬ (100 : Int) < nt := by omega
  have hnb6 : nb ≤ 600 := by omega
  have hnt6 : nt ≤ 100 := by omega
  clear hbad
  have T := elemBytes
  have HP := Lib.hid (pack_any H2.out (b := bs) (by rw [HNB.out]; omega) (v := .slice a1 nb c1) (by rw [HNB.out]; exact HB.out) (how := hw) (by omega))
  clear H2
  go_wp2_with (go_at_call 16; apply stop)
  refine on ?_
  refine HP.out.mono ?_
  rintro e w2 ⟨v2, x, z, rfl, hx, hxl, hz, h3⟩
  have hlong := st_long hx
  obtain ⟨nn, hdone⟩ := hx.done
  have hS := length_bytesO true (adlerN bs) 4
  have hzw : z = wrapS x (bytesO true (adlerN bs) 4) := hz
  have hall := fun ex most => zopen_wrap hdone hS ex most
  have hcut := fun m (h : m < (wrapS x (bytesO true (adlerN bs) 4)).length) most hb => zopen_cut hdone hS h most hb
  have hzl : z.length = (bytesB true x).length + 6 := by rw [hzw, length_wrapS, hS]
  have hXl := length_bytesB' true x
  rw [numH_put (adlerN_lt bs)] at hall
  obtain ⟨L, hL⟩ : ∃ L, z.length = L := ⟨_, rfl⟩
  have hL8 : 8 ≤ L := by omega
  have hLm : L ≤ 20000000 := by omega
  obtain ⟨X, hX⟩ : ∃ X, (bytesB true x).length = X := ⟨_, rfl⟩
  have hLX : L = X + 6 := by omega
  rw [hL] at h3
  obtain ⟨a3, c3, rfl⟩ := h3.reads.sub
  have H3 := Lib.hid h3
  have HZL := Lib.hid hL; have HLX := Lib.hid hLX; have HXX := Lib.hid hX; have HZW := Lib.hid hzw; have HALL := Lib.hid hall; have HCUT := Lib.hid hcut; have HS := Lib.hid hS
  have HDONE := Lib.hid hdone
  clear h3 hL hLX hX hzw hall hcut hS hdone hz hzl hXl hlong hx hxl HP
  go_wp2_with (at_builtin; apply stop)
  refine on (wpList_append_sep T rfl _ _ rfl rfl (St.own_blk (e := 5) (size := 1) (n := 0) (cap := 0) (xs := []) (H3.out.alloc (.cells #[] 5)) (Nat.le_refl _) (Nat.zero_le _) rfl rfl) rfl ((H3.out.drop_alloc _).reads) (bv_oneCell z) (by unfold maxLen; omega) (by omega) ?_)
  intro v4 w4 h4 _
  rw [List.nil_append, Nat.zero_add] at h4
  obtain ⟨a4, c4, rfl⟩ := h4.reads.sub
  have H4 := Lib.hid h4
  clear h4 H3
  go_wp2_with (at_builtin; apply stop)
  refine on (wpList_append_sep T rfl _ _ rfl rfl H4.out rfl (HT.out _ H4.out.right.right) (bv_oneCell ts) (by unfold maxLen; omega) (by omega) ?_)
  intro v6 w6 h6 _
  rw [← List.map_append] at h6
  obtain ⟨a6, c6, rfl⟩ := h6.reads.sub
  have hlen9 : (z ++ ts).length = L + nt := by rw [List.length_append, HZL.out, HNT.out]
  have C := open_any h6 (z ++ ts) (nb : Int) (by rw [hlen9]; omega) (by omega) (vb := .slice a6 (L + nt) c6) (by rw [hlen9]; exact Stb.of_own)
  rw [HZW.out, HALL.out ts (nb : Int), if_neg (by omega), if_neg (by rw [HNB.out]; omega), if_neg (fun h => h rfl), ← HZW.out, HZL.out] at C
  have HC := Lib.hid C
  clear C h6 hlen9 H4
  go_wp2_with (go_at_call 17; apply stop)
  refine on ?_
  refine HC.out.mono ?_
  rintro e w7 ⟨v7, n7, x7, rfl, h7⟩
  obtain ⟨hn7, rfl, h7⟩ := h7
  rw [hn7]
  rw [HNB.out] at h7
  clear hn7 n7
  obtain ⟨a7, c7, rfl⟩ := h7.reads.sub
  have h7 := ((h7.perm (star_left_comm _ _ _)).right)
  have q1 : (convert 22 9 (.slice a7 nb c7)).run Try.prog w7 = .ok (.string ⟨bs.toArray⟩) w7 := run_b2s (P := Try.prog) Try.underlying22 Try.underlying5 Try.underlying9 h7.reads
  have q2 : (convert 22 9 (.slice a1 nb c1)).run Try.prog w7 = .ok (.string ⟨bs.toArray⟩) w7 := run_b2s (P := Try.prog) Try.underlying22 Try.underlying5 Try.underlying9 (HB.out _ h7.right.right)
  have H7 := Lib.hid h7.right
  clear h7 HC
  obtain ⟨U, hU, hU2⟩ := kwrap pl
  obtain ⟨kk, hk1, hk32⟩ : ∃ k : Nat, (U : Int) % 32 = k ∧ k < 32 := ⟨U % 32, by omega, by omega⟩
  go_wp2_with (at_builtin; apply stop)
  refine on (wpList_append_sep T rfl _ _ rfl rfl (St.own_blk (e := 5) (size := 1) (n := 0) (cap := 0) (xs := []) (H7.out.alloc (.cells #[] 5)) (Nat.le_refl _) (Nat.zero_le _) rfl rfl) rfl ((H7.out.drop_alloc _).reads) (bv_oneCell z) (by unfold maxLen; omega) (by omega) ?_)
  intro v8 w8 h8 _
  rw [List.nil_append, Nat.zero_add] at h8
  obtain ⟨a8, c8, rfl⟩ := h8.reads.sub
  clear q1 q2
  obtain ⟨q, hq1, hq4⟩ : ∃ q : Nat, (kk : Int) / 8 = q ∧ q < 4 := ⟨kk / 8, by omega, by omega⟩
  obtain ⟨t, ht1, ht8⟩ : ∃ t : Nat, (kk : Int) % 8 = t ∧ t < 8 := ⟨kk % 8, by omega, by omega⟩
  obtain ⟨j, hj⟩ : ∃ j, L - 1 - q = j := ⟨_, rfl⟩
  have hjI : (L : Int) - 1 - (q : Int) = (j : Int) := by omega
  have hjl : (j : Int) < L := by omega
  have hjN : j < L := by omega
  obtain ⟨s, hs⟩ : ∃ s, 3 - q = s := ⟨_, rfl⟩
  have hs4 : s < (bytesO true (adlerN bs) 4).length := by rw [HS.out]; omega
  have hjs : j = (bytesB true x).length + 2 + s := by rw [HXX.out]; have := HLX.out; omega
  have hget := wrap_get x (bytesO true (adlerN bs) 4) s
  rw [← hjs, ← HZW.out, List.getElem?_eq_getElem hs4] at hget
  obtain ⟨ch, hch⟩ : ∃ ch, (bytesO true (adlerN bs) 4)[s] = ch := ⟨_, rfl⟩
  rw [hch] at hget
  obtain ⟨d, hdne, hxor⟩ := xor_bit ch ht8
  obtain ⟨g, rfl⟩ := own_at h8 (by omega)
  have hfz := h8.own_free j
  have hcc := h8.own_cell (i := j) (u := .int .u8 (ch.toNat : Int)) (by rw [List.getElem?_map, hget]; rfl)
  have h9 := h8.own_set j (bv d)
  have hz' : z.set j d = wrapS x ((bytesO true (adlerN bs) 4).set s d) := by rw [HZW.out, hjs, wrap_set]
  rw [← List.map_set, hz'] at h9
  have hne : numH ((bytesO true (adlerN bs) 4).set s d) ≠ adlerN bs := by
    have := numH_turned hs4 (hch ▸ hdne)
    rwa [numH_put (adlerN_lt bs)] at this
  have hS' : ((bytesO true (adlerN bs) 4).set s d).length = 4 := by rw [List.length_set, HS.out]
  have hall' := fun most => zopen_wrap HDONE.out hS' [] most
  obtain ⟨z', hzz⟩ : ∃ z', wrapS x ((bytesO true (adlerN bs) 4).set s d) = z' := ⟨_, rfl⟩
  have hzl' : z'.length = L := by rw [← hzz, length_wrapS, hS', HXX.out]; have := HLX.out; omega
  rw [hzz] at h9 hall'
  simp only [List.append_nil] at hall'
  have H9 := Lib.hid h9; have HALL' := Lib.hid hall'; have HZL' := Lib.hid hzl'; have HNE := Lib.hid hne
  generalize ch.toNat = cn at *
  clear hzz hzl' hall' hS' hne hz' h9 h8 hch hget hjs hs4 hs hdne hj H7
  go_upto_region 10 with (fail)
  go_region
  have C := open_any H9.out.drew z' (nb : Int) (by rw [HZL'.out]; omega) (by omega) (vb := .slice (some ⟨g, 0, none⟩) L c8) (by rw [HZL'.out]; exact Stb.of_own)
  rw [HALL'.out (nb : Int), if_neg (by omega), if_neg (by rw [HNB.out]; omega), if_pos HNE.out] at C
  have HC := Lib.hid C
  clear C hxor hfz hcc
  go_wp2_with (go_at_call 17; apply stop)
  refine on ?_
  refine HC.out.mono ?_
  rintro e w10 ⟨v10, n10, x10, rfl, rfl, rfl, rfl, _, h10⟩
  have H10 := Lib.hid h10.right
  clear h10 HC H9 hk1 hq1 ht1
  obtain ⟨m, hm1, hmL⟩ : ∃ m : Nat, (U : Int).tmod (L : Int) = m ∧ m < L := ⟨U % L, by rw [Int.tmod_eq_emod_of_nonneg (by omega)]; omega, Nat.mod_lt _ (by omega)⟩
  have hmI : (m : Int) ≤ L := by omega
  have hmN : m ≤ L := by omega
  have hc3 := (rd_cap H10.out.reads).1
  have hmc : (m : Int) ≤ c3 := by omega
  have hc0 : ¬ c3 = 0 := by omega
  have C := open_any H10.out (z.take m) (nb : Int) (by rw [List.length_take, HZL.out]; omega) (by omega) (vb := .slice a3 m c3) (by rw [List.length_take, HZL.out, Nat.min_eq_left hmN]; exact (fun w h => rd_take h.reads hmN))
  have hcz := HCUT.out m (by rw [← HZW.out, HZL.out]; exact hmL) (nb : Int) (by rw [HNB.out]; omega)
  rw [← HZW.out] at hcz
  rw [hcz] at C
  have HC := Lib.hid C
  clear C hcz
  go_wp2_with (go_at_call 17; apply stop)
  refine on ?_
  refine HC.out.mono ?_
  rintro e w11 ⟨v11, n11, x11, rfl, rfl, rfl, rfl, _, h11⟩
  have HF := Lib.hid (FIN.out _ h11.right)
  clear h11 HC
  go_wp2_with fail
  go_ret
  exact ⟨rfl, HF.out⟩
end Go.Proofs.Ytddifndfppilkaa.ztail
