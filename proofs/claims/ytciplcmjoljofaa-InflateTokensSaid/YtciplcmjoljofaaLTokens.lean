/-
  Layer 8: bytes and copies, told by the given words, come out; what is behind doesn't matter, and cut off they are refused.
-/
import Derived.Test.YtciplcmjoljofaaTokT
import Derived.Test.YtciplcmjoljofaaSepS
import Derived.Test.YtciplcmjoljofaaInfV
import Derived.Lib.Zigzag
namespace Go.Proofs.Ytciplcmjoljofaa.tokens
open Go.RowKit Go.Mz
set_option linter.unusedVariables false
set_option linter.unusedSimpArgs false

theorem lenW {l : List Nat} (h : ∀ n ∈ l, n ≤ 30) (i : Nat) : ((wordsC l).getD i []).length ≤ 30 := by
  rw [List.getD_eq_getElem?_getD]
  cases e : (wordsC l)[i]? with
  | none => simp
  | some w =>
    obtain ⟨hi, rfl⟩ := wordsC_get e
    rw [Option.getD_some, length_wordC, List.getD_eq_getElem?_getD, List.getElem?_eq_getElem hi]
    exact h _ (List.getElem_mem hi)
theorem want_len : ∀ (l : List TokD) (out want : List UInt8), rightF l out = some want → want.length ≤ out.length + 258 * l.length := by
  intro l
  induction l with
  | nil => intro out want h; rw [rightF] at h; rw [Option.some.inj h]; simp
  | cons k l ih =>
    intro out want h
    obtain ⟨hk, hr⟩ := rightF_step h
    have h1 := ih _ _ hr
    have h2 : (putT k out).length ≤ out.length + 258 := by
      unfold putT
      rcases hk with h | ⟨h1, h2, h3, h4, h5⟩
      · rw [if_pos h]; simp
      · rw [if_neg (by omega), copyF_len]; omega
    rw [List.length_cons]; omega
theorem told_le (l : List TokD) : (toldB FA FB l).length ≤ 100 * l.length + 30 := by
  induction l with
  | nil =>
    have h := lenW fixA_30 256
    rw [toldB, List.flatMap_nil, List.nil_append, FA]
    omega
  | cons k l ih =>
    have h : (tokB FA FB k).length ≤ 100 := by
      unfold tokB
      have h1 := lenW fixA_30 k.lit.toNat
      have h2 := lenW fixA_30 (257 + plF false k.len.toNat)
      have h3 := lenW fixB_30 (plF true k.dist.toNat)
      have h4 := frF_13 false k.len.toNat
      have h5 := frF_13 true k.dist.toNat
      split
      · rw [FA]; omega
      · rw [FA, FB]
        simp only [List.length_append, length_moreF]
        omega
    rw [told_cons, List.length_append, List.length_cons]; omega
theorem strCells_bv (s : List UInt8) : Lib.strCells ⟨s.toArray⟩ = s.map bv := by
  rw [Lib.strCells]; rfl

def five (n : Nat) : List UInt8 := [0, UInt8.ofNat n, 0, UInt8.ofNat (255 - n), 255]
theorem five_cells {n : Nat} (hn : n ≤ 200) (e : TypeId) : (Obj.cells #[Value.int .u8 0, Value.int .u8 (n : Int), Value.int .u8 ((n : Int) / 256), Value.int .u8 (bits .xor .i64 (-1) (n : Int) % 256), Value.int .u8 (bits .xor .i64 (-1) (n : Int) / 256 % 256)] e) = .cells ((five n).map bv).toArray e := by
  have h1 := Lib.i64_not n (by omega)
  have h2 : (n : Int) / 256 = 0 := by omega
  have h3 : (-(n : Int) - 1) % 256 = ((255 - n : Nat) : Int) := by omega
  have h4 : (-(n : Int) - 1) / 256 % 256 = 255 := by omega
  rw [h1, h2, h3, h4]
  simp only [five, bv, List.map_cons, List.map_nil, nat_8 (show n < 256 by omega), nat_8 (show 255 - n < 256 by omega)]
  rfl
set_option maxRecDepth 100000 in
set_option maxHeartbeats 80000000 in
theorem walk (vl : Value) (l : List TokD) (vb : Value) (ah : List UInt8) (at' : Int) (w : World) (hv : Reads w 3 vl l.length (toksC l)) (hb : Reads w 1 vb ah.length (ah.map bv)) :
    Calls Try.prog 5 #[vl, vb, .int .i64 at'] w fun e w' => e = .returned (.bool true) ∧ Below w.heap.size w w' := by
  have HV := Lib.hid (Stb.of_old hv)
  have HB := Lib.hid (Stb.of_old hb)
  obtain ⟨a0, c0, rfl⟩ := hv.sub
  obtain ⟨a1, c1, rfl⟩ := hb.sub
  have hm := hb.len_le
  unfold maxLen at hm
  have hm0 := hv.len_le
  unfold maxLen at hm0
  clear hb hv
  have H := Lib.hid (St.init w)
  have fin : ∀ w', St w w' (Mz.old w) → Below w.heap.size w w' := fun w' h => (h.perm ((emp_star _).symm.trans (star_comm _ _))).below
  have FIN := Lib.hid fin; clear fin
  by_cases hl6 : 200 < l.length
  · have hl7 : 200 < (l.length : Int) := by omega
    go_enter Try.func5, Try.ntmps5
    go_wp2_with fail
    refine (lives08 H.out).mono ?_
    rintro e w1 ⟨rfl, h2⟩
    have H2 := Lib.hid h2; clear h2
    go_wp2_with fail
    refine (lives08 H2.out).mono ?_
    rintro e w2 ⟨rfl, h3⟩
    have H3 := Lib.hid h3; clear h3
    go_wp2_with fail
    go_ret
    exact ⟨rfl, FIN.out _ H3.out⟩
  have hl7 : ¬ 200 < (l.length : Int) := by omega
  by_cases hn : 200 < ah.length
  · have hn7 : 200 < (ah.length : Int) := by omega
    go_enter Try.func5, Try.ntmps5
    go_wp2_with fail
    refine (lives08 H.out).mono ?_
    rintro e w1 ⟨rfl, h2⟩
    have H2 := Lib.hid h2; clear h2
    go_wp2_with fail
    refine (lives08 H2.out).mono ?_
    rintro e w2 ⟨rfl, h3⟩
    have H3 := Lib.hid h3; clear h3
    go_wp2_with fail
    go_ret
    exact ⟨rfl, FIN.out _ H3.out⟩
  have hn7 : ¬ 200 < (ah.length : Int) := by omega
  have T := elemBytes
  go_enter Try.func5, Try.ntmps5
  go_wp2_with fail
  refine (lives08 H.out).mono ?_
  rintro e w1 ⟨rfl, h2⟩
  have H2 := Lib.hid h2; clear h2
  have HRT := Lib.hid (right_any H2.out l (by omega) HV.out)
  generalize hRW : rightF l [] = RW at *
  have HRW := Lib.hid hRW; clear hRW
  go_wp2_with fail
  refine HRT.out.mono ?_
  rintro e w2 ⟨rfl, h3⟩
  have H3 := Lib.hid h3; clear h3 HRT
  cases RW with
  | none =>
    go_wp2_with fail
    go_ret
    exact ⟨rfl, FIN.out _ H3.out⟩
  | some want =>
    simp only [Option.getD_some, Option.isSome_some]
    go_wp2_with fail
    refine (fixed_any H3.out).mono ?_
    rintro e w3 ⟨va, vb2, rfl, h4⟩
    obtain ⟨aa, ca, rfl⟩ := h4.reads.sub
    obtain ⟨ab, cb, rfl⟩ := h4.right.reads.sub
    have HWA := Lib.hid (by
      have C := rwords_any h4 fixA false false (by rw [fixA_len]; omega) fixA_le (v := .slice aa 288 ca) (by rw [fixA_len]; exact fun w h => h.reads)
      rw [words_FA] at C; exact C : Calls Try.prog 18 #[.slice aa 288 ca, .bool false, .bool false] w3 fun e w' => RWordsR (.inr FA) w w' _ e)
    clear h4 H3
    go_wp2_with fail
    refine HWA.out.mono ?_
    rintro e w4 ⟨va3, rfl, h5⟩
    obtain ⟨aA, cA, rfl⟩ := h5.reads.sub
    have hNF : rhow false false = 2 := rfl
    have HWB := Lib.hid (by
      have C := rwords_any h5 fixB false false (by rw [fixB_len]; omega) fixB_le (v := .slice ab 30 cb) (by rw [fixB_len]; exact fun w h => h.right.right.reads)
      rw [hNF, words_FB] at C; exact C : Calls Try.prog 18 #[.slice ab 30 cb, .bool false, .bool false] w4 fun e w' => RWordsR (.inr FB) w w' _ e)
    clear h5 HWA hNF
    go_wp2_with fail
    refine HWB.out.mono ?_
    rintro e w5 ⟨vb3, rfl, h6⟩
    obtain ⟨aB, cB, rfl⟩ := h6.reads.sub
    have h6 := (h6.perm (show _ = own 3 1 (.slice aa 288 ca) 288 (nvs fixA) * (own 3 1 (.slice ab 30 cb) 30 (nvs fixB) * (own 9 1 (.slice aA FA.length cA) FA.length (FA.map txv) * (own 9 1 (.slice aB FB.length cB) FB.length (FB.map txv) * Mz.old w))) by ac_rfl)).right.right
    have H6 := Lib.hid h6; clear h6 HWB
    go_upto_region 12 with (fail)
    go_wp2_with (at_builtin; apply stop)
    rw [five_cells (by omega) 5]
    have h7 := St.own_blk (e := 5) (size := 1) (n := 5) (cap := 5) (xs := (five ah.length).map bv) (H6.out.alloc (.cells ((five ah.length).map bv).toArray 5)) (Nat.le_refl _) (by decide) rfl rfl
    have H7 := Lib.hid h7; clear h7
    refine on (wpList_append_sep T rfl _ _ rfl rfl H7.out rfl (HB.out _ (H6.out.drop_alloc _).right.right) (bv_oneCell ah) ?_ ?_ ?_)
    · unfold maxLen; omega
    · omega
    intro v8 w8 h8 _
    have h8 : St w w8 (own 5 1 v8 (5 + ah.length) ((headB ah).map bv) * (own 9 1 (.slice aA FA.length cA) FA.length (FA.map txv) * (own 9 1 (.slice aB FB.length cB) FB.length (FB.map txv) * Mz.old w))) := by
      rw [headB, List.map_append]; exact h8
    obtain ⟨a8, c8, rfl⟩ := h8.reads.sub
    have H8 := Lib.hid h8; clear h8 H7 H6
    have HTD := Lib.hid (told_any H8.out l (by omega) (okS_all l [] want HRW.out) (fun w h => HV.out w h.right.right.right) (A := FA) (B := FB) len_FA len_FB (lenW fixA_30) (lenW fixB_30) (va := .slice aA FA.length cA) (vb := .slice aB FB.length cB) (fun w h => h.right.reads) (fun w h => h.right.right.reads))
    have htl := told_le l
    have hbt := bit_toldB l
    have HX := Lib.hid (show tokX l = [1, 1, 0] ++ toldB FA FB l from rfl)
    go_wp2_with fail
    refine HTD.out.mono ?_
    rintro e w9 ⟨rfl, h9⟩
    have hlx : (tx (toldB FA FB l)).length = (toldB FA FB l).length := by simp
    have H9 := Lib.hid h9; clear h9 HTD H8
    generalize toldB FA FB l = td at *
    have htd : td.length ≤ 30000 := by omega
    go_wp2_with fail
    have hb110 : Bit ([1, 1, 0] ++ td) := Bit.append (by intro b hb; simp at hb; omega) hbt
    refine (rbytes_any (l := [1, 1, 0] ++ td) hb110 true H9.out (by rw [List.length_append]; simp; omega) (by rw [tx_append]; exact ByteArray.mk_append_mk [49, 49, 48] (tx td))).mono ?_
    rintro e w10 ⟨rfl, h10⟩
    have hal : allB ah l = headB ah ++ bytesB true ([1, 1, 0] ++ td) := by rw [allB, HX.out]
    have hb2 : (bytesB true ([1, 1, 0] ++ td)).length ≤ 10000 := by rw [length_bytesB, List.length_append]; simp; omega
    have hhl := len_headB ah
    have hpos : 0 < (allB ah l).length := by rw [len_allB]; omega
    have hwl := want_len l [] want HRW.out
    have hI1 : inflI (allB ah l ++ [7, 8]) (100000 : Int) = .inr (ah ++ want, (allB ah l).length) := by
      have e := infl_all (a := ah) (ex := [7, 8]) (l := l) (by omega) HRW.out 100000
      rw [if_neg (by rw [List.length_append]; simp at hwl; omega)] at e
      exact e
    have hI2 : ∀ m, m < (allB ah l).length → inflI ((allB ah l).take m) (100000 : Int) = .inl 2 := fun m hm => infl_cut (by omega) HRW.out 100000 (by rw [List.length_append]; simp at hwl; omega) hm
    have hI3 : inflI (allB ah l) (((ah ++ want).length : Int) - 1) = .inl (if (ah ++ want).length = 0 then 1 else 8) := by
      by_cases hk : (ah ++ want).length = 0
      · rw [if_pos hk, inflI, if_pos (by omega)]
      · rw [if_neg hk]
        have e := infl_all (a := ah) (ex := []) (l := l) (by omega) HRW.out ((ah ++ want).length - 1)
        rw [if_pos (by omega), List.append_nil] at e
        rw [← e]
        congr 1
        omega
    generalize bytesB true ([1, 1, 0] ++ td) = b2 at *
    generalize headB ah = hd at *
    generalize allB ah l = al at *
    have hall : al.length = hd.length + b2.length := by rw [hal, List.length_append]
    have HAL := Lib.hid hal; have HI1 := Lib.hid hI1; have HI2 := Lib.hid hI2; have HI3 := Lib.hid hI3
    rw [← hhl] at h10
    have H10 := Lib.hid h10
    have HHL := Lib.hid hhl
    have HALL := Lib.hid hall
    have hhd : hd.length ≤ 205 := by omega
    have hal9 : al.length ≤ 20000 := by omega
    clear hhl hall
    clear h10 H9 hal hI1 hI2 hI3 hb110 hbt hlx HX htl htd
    go_wp2_with (at_builtin; apply stop)
    have h11 := St.own_blk (e := 5) (size := 1) (n := 0) (cap := 0) (xs := []) (H10.out.alloc (.cells #[] 5)) (Nat.le_refl _) (Nat.zero_le _) rfl rfl
    have H11 := Lib.hid h11; clear h11
    rw [← HHL.out]
    refine on (wpList_append_sep T rfl _ _ rfl rfl H11.out rfl H11.out.right.reads (bv_oneCell hd) ?_ ?_ ?_)
    · unfold maxLen; omega
    · omega
    intro v12 w12 h12 _
    simp only [Nat.zero_add, List.nil_append] at h12
    obtain ⟨a12, c12, rfl⟩ := h12.reads.sub
    have H12 := Lib.hid h12; clear h12 H11 H10
    have hsz : (ByteArray.mk b2.toArray).size = b2.length := by rw [Lib.size_eq]
    go_wp2_with (at_builtin; apply stop)
    refine on (wpList_append_strsep T Try.underlying9 rfl _ _ rfl rfl H12.out rfl ?_ ?_ ?_)
    · unfold maxLen; omega
    · omega
    intro v13 w13 h13
    rw [hsz, strCells_bv, ← List.map_append, ← HAL.out, ← HALL.out] at h13
    obtain ⟨a13, c13, rfl⟩ := h13.reads.sub
    obtain ⟨g13, rfl⟩ := own_at h13 hpos
    have hcap : al.length ≤ c13 := by
      obtain ⟨_, ⟨_, h0, _⟩ | ⟨g', cap', cur, e1, e2, _⟩⟩ := h13.own_split
      · omega
      · cases e1; exact e2
    have h13 := (h13.perm (show _ = own 5 1 (.slice a8 hd.length c8) hd.length (hd.map bv) * (own 9 1 (.slice aA FA.length cA) FA.length (FA.map txv) * (own 9 1 (.slice aB FB.length cB) FB.length (FB.map txv) * (own 5 1 (.slice (some ⟨g13, 0, none⟩) al.length c13) al.length (al.map bv) * Mz.old w))) by ac_rfl)).right.right.right
    have H13 := Lib.hid h13; clear h13 H12 hsz
    clear hb2
    go_wp2_with (at_builtin; apply stop)
    have h14 := St.own_blk (e := 5) (size := 1) (n := 0) (cap := 0) (xs := []) (H13.out.alloc (.cells #[] 5)) (Nat.le_refl _) (Nat.zero_le _) rfl rfl
    have H14 := Lib.hid h14; clear h14
    refine on (wpList_append_sep T rfl _ _ rfl rfl H14.out rfl H14.out.right.reads (bv_oneCell al) ?_ ?_ ?_)
    · unfold maxLen; omega
    · omega
    intro v15 w15 h15 _
    simp only [Nat.zero_add, List.nil_append] at h15
    obtain ⟨a15, c15, rfl⟩ := h15.reads.sub
    have H15 := Lib.hid h15; clear h15 H14
    go_wp2_with (at_builtin; apply stop)
    have h16 := St.own_blk (e := 5) (size := 1) (n := 2) (cap := 2) (xs := [7, 8].map bv) (H15.out.alloc (.cells (([7, 8] : List UInt8).map bv).toArray 5)) (Nat.le_refl _) (by decide) rfl rfl
    have H16 := Lib.hid h16; clear h16
    refine on (wpList_append_sep T rfl _ _ rfl rfl (H16.out.perm (star_left_comm _ _ _)) rfl H16.out.reads (bv_oneCell [7, 8]) ?_ ?_ ?_)
    · unfold maxLen; omega
    · omega
    intro v17 w17 h17 _
    rw [← List.map_append] at h17
    have h17 := (h17.perm (show _ = own 5 1 (.slice (some ⟨w15.heap.size, 0, none⟩) 2 2) 2 ([7, 8].map bv) * (own 5 1 v17 (al.length + 2) ((al ++ [7, 8]).map bv) * (own 5 1 (.slice (some ⟨g13, 0, none⟩) al.length c13) al.length (al.map bv) * Mz.old w)) by ac_rfl)).right
    have e17 : (al ++ [7, 8]).length = al.length + 2 := by simp
    rw [← e17] at h17
    obtain ⟨a17, c17, rfl⟩ := h17.reads.sub
    have C := inflate_any h17 (al ++ [7, 8]) 100000 (by rw [e17]; omega) (by omega) Stb.of_own
    rw [HI1.out] at C
    rw [e17] at C
    have HC := Lib.hid C; clear C h17 H16 H15 e17
    go_wp2_with fail
    refine HC.out.mono ?_
    rintro e w18 ⟨v18, n18, x18, rfl, hn18, hx18, h18⟩
    subst hx18
    have h18 := (h18.perm (show _ = own 5 1 (.slice a17 (al.length + 2) c17) (al.length + 2) ((al ++ [7, 8]).map bv) * (own 5 1 v18 (ah ++ want).length ((ah ++ want).map bv) * (own 5 1 (.slice (some ⟨g13, 0, none⟩) al.length c13) al.length (al.map bv) * Mz.old w)) by ac_rfl)).right
    obtain ⟨a18, c18, rfl⟩ := h18.reads.sub
    obtain ⟨K, hK⟩ : ∃ K, K = (ah ++ want).length := ⟨_, rfl⟩
    have hK9 : K ≤ 60000 := by rw [hK, List.length_append]; simp at hwl; omega
    have hw9 : want.length ≤ 60000 := by simp at hwl; omega
    have q1 : (convert 22 9 (.slice a18 K c18)).run Try.prog w18 = .ok (.string (⟨ah.toArray⟩ ++ ⟨want.toArray⟩)) w18 := by
      rw [ByteArray.mk_append_mk, hK]
      exact run_b2s (P := Try.prog) Try.underlying22 Try.underlying5 Try.underlying9 h18.reads
    have q2 : (convert 22 9 (.slice a1 ah.length c1)).run Try.prog w18 = .ok (.string ⟨ah.toArray⟩) w18 := run_b2s (P := Try.prog) Try.underlying22 Try.underlying5 Try.underlying9 (HB.out _ h18.right.right)
    rw [← hK] at h18 HI3 ⊢
    have HKK := Lib.hid hK
    have H18 := Lib.hid h18; clear h18 HC hK hwl
    subst hn18
    go_upto_region 18 with (fail)
    clear q1 q2
    obtain ⟨m, hm1, hm2⟩ : ∃ m : Nat, m < al.length ∧ wrap64 ((IntKind.u64.wrap at').tmod al.length) = (m : Int) := by
      have h0 : 0 ≤ IntKind.u64.wrap at' := by rw [IntKind.wrap_u64]; omega
      have h1 : (IntKind.u64.wrap at').tmod al.length = (IntKind.u64.wrap at') % al.length := Int.tmod_eq_emod_of_nonneg h0
      have h2 : 0 ≤ (IntKind.u64.wrap at') % (al.length : Int) := Int.emod_nonneg _ (by omega)
      have h3 : (IntKind.u64.wrap at') % (al.length : Int) < al.length := Int.emod_lt_of_pos _ (by omega)
      rw [h1]
      generalize (IntKind.u64.wrap at') % (al.length : Int) = r at *
      exact ⟨r.toNat, by omega, by unfold wrap64; omega⟩
    have hm3 : (m : Int) ≤ c13 := by omega
    have hm4 : m ≤ c13 := by omega
    have hm5 : (m : Int) < al.length := by omega
    have hal0 : ¬ (al.length : Int) = 0 := by omega
    have hlt : (al.take m).length = m := by rw [List.length_take]; omega
    have C := inflate_any H18.out (al.take m) 100000 (by omega) (by omega) (vb := .slice (some ⟨g13, 0, none⟩) m c13) (fun w h => by
      have := Reads.take h.right.reads (k := m) (by omega)
      rw [← List.map_take] at this
      rw [hlt]; exact this)
    rw [HI2.out m hm1] at C
    have HC := Lib.hid C; clear C hlt
    have HM2 := Lib.hid hm2
    go_wp2_with fail
    refine HC.out.mono ?_
    rintro e w19 ⟨v19, n19, x19, rfl, hv19, hn19, hx19, _, h19⟩
    subst hv19 hn19 hx19
    have C := inflate_any h19 al ((K : Int) - 1) (by omega) (by omega) (vb := .slice (some ⟨g13, 0, none⟩) al.length c13) (fun w h => h.right.reads)
    rw [HI3.out] at C
    have HC2 := Lib.hid C; clear C h19 HC H18
    go_wp2_with fail
    refine HC2.out.mono ?_
    rintro e w20 ⟨v20, n20, x20, rfl, hv20, hn20, hx20, _, h20⟩
    subst hv20 hn20
    have H20 := Lib.hid h20.right.right; clear h20 HC2
    by_cases hk0 : K = 0
    · subst hk0
      rw [if_pos rfl] at hx20
      subst hx20
      go_wp2_with fail
      go_ret
      exact ⟨rfl, FIN.out _ H20.out⟩
    · rw [if_neg hk0] at hx20
      subst hx20
      have hk1 : 0 < (K : Int) := by omega
      have hk2 : ((K : Int) == 0) = false := by rw [beq_eq_false_iff_ne]; omega
      go_wp2_with fail
      go_ret
      exact ⟨rfl, FIN.out _ H20.out⟩
/-- A slice of tokens that came in. -/
theorem toks_in {H : Type} {enc : TypeId × Value → H} {w : World} {base : Nat} {spare : Nat → Bool} {held : Bool} {fuel : Nat} {a : Option Addr} {len cap : Nat} {x : DataW H × List MemPlace}
    (h : DataW.trod enc Try.prog w base spare held fuel 43 (Value.slice a len cap).cells.toList = some x) :
    ∃ l : List TokD, l.length = len ∧ Reads w 3 (.slice a len cap) len (toksC l) ∧ True := by
  rcases struct_cells Try.underlying43 Try.underlying71 (by kernel_rfl) (by kernel_rfl) h with h0 | ⟨b, l, c, hv, hl, hm, hc⟩
  · cases h0
    exact ⟨[], rfl, ⟨rfl, .inl ⟨rfl, rfl⟩⟩, trivial⟩
  · cases hv
    have hx : ∀ i, i < len → ∃ o : TokD, (∀ j u, (tokC o)[j]? = some u → w.cell? (b.add (i * 3 + j)) = some u) ∧ True := by
      intro i hi
      obtain ⟨u0, y0, n0, c0, t0⟩ := hc i hi 0 _ rfl
      obtain ⟨u1, y1, n1, c1, t1⟩ := hc i hi 1 _ rfl
      obtain ⟨u2, y2, n2, c2, t2⟩ := hc i hi 2 _ rfl
      obtain ⟨z0, e0, _, w0⟩ := DataW.trod_int Try.underlying5 t0
      obtain ⟨z1, e1, _, _⟩ := DataW.trod_int Try.underlying3 t1
      obtain ⟨z2, e2, _, _⟩ := DataW.trod_int Try.underlying3 t2
      simp only [List.cons.injEq, and_true] at e0 e1 e2
      subst e0 e1 e2
      have hz0 : 0 ≤ z0 ∧ z0 < 256 := by
        simp [Lit.wf, IntKind.min, IntKind.max, IntKind.bits, IntKind.signed] at w0
        omega
      refine ⟨⟨UInt8.ofNat z0.toNat, z1, z2⟩, fun j u hu => ?_, trivial⟩
      match j with
      | 0 =>
        cases hu
        show _ = some (Value.int .u8 ((UInt8.ofNat z0.toNat).toNat : Int))
        rw [nat_8 (by omega), Int.toNat_of_nonneg hz0.1]
        exact c0
      | 1 => cases hu; exact c1
      | 2 => cases hu; exact c2
      | j + 3 => simp [tokC] at hu
    obtain ⟨l, h1, h2, h3⟩ := reads_of_each tokC (by decide) (fun _ => rfl) hl hm (fun _ => True) hx
    exact ⟨l, h1, h2, trivial⟩
#print axioms walk
#print axioms toks_in
end Go.Proofs.Ytciplcmjoljofaa.tokens
