/-
  Layer 6: what is written of a book of canonical words is read; full words read any bits.
-/
import Derived.Test.YtdlmmkgggghlcaaLCanon
import Derived.Test.YtdlmmkgggghlcaaHufPl
import Derived.Test.YtdlmmkgggghlcaaTrieC
namespace Go.Proofs.Ytdlmmkgggghlcaa.hagain
open Go.RowKit Go.Mz
set_option linter.unusedVariables false
set_option linter.unusedSimpArgs false
set_option maxRecDepth 100000

theorem canon_cases (ls : List Int) : (canonI ls).2.2 ≠ 0 ∧ (canonI ls).1 = [] ∨ ∃ l : List Nat, l.length = ls.length ∧ OkC l ∧ (∀ n ∈ l, n ≤ 30) ∧ canonI ls = (wordsC l, fullC l, 0) := by
  rw [canonI]
  split
  · exact .inl ⟨by decide, rfl⟩
  · rename_i h
    split
    · rename_i ok
      refine .inr ⟨natsOf ls, by simp [natsOf], ok, fun n hn => ?_, rfl⟩
      rw [natsOf, List.mem_map] at hn
      obtain ⟨x, hx, rfl⟩ := hn
      have : ¬ (x < 0 ∨ 30 < x) := fun hc => h ⟨x, hx, hc⟩
      omega
    · exact .inl ⟨by decide, rfl⟩
theorem unTx_tx {l : List Nat} (h : Bit l) : unTx (tx l) = l := by
  induction l with
  | nil => rfl
  | cons c l ih =>
    have := h c (by simp)
    rw [tx_cons, unTx, List.map_cons, toNat_dg this]
    rw [unTx] at ih
    rw [ih fun b hb => h b (by simp [hb])]
    simp
theorem digB_of_tx {l : List Nat} (h : Bit l) : digB (tx l) = true := by
  induction l with
  | nil => rfl
  | cons c l ih =>
    have h1 := ih fun b hb => h b (by simp [hb])
    rw [tx_cons]
    simp only [digB, List.all_cons, Bool.and_eq_true] at h1 ⊢
    refine ⟨?_, h1⟩
    have := h c (by simp)
    rcases (show c = 0 ∨ c = 1 by omega) with rfl | rfl <;> rfl
theorem wAt_cases (W : List (List Nat)) (x : Int) : wAt (W.map tx) x = [] ∨ ∃ (k : Nat) (w : List Nat), x = k ∧ W[k]? = some w ∧ w ≠ [] ∧ wAt (W.map tx) x = tx w := by
  rw [wAt]
  split
  · rename_i h
    rw [List.length_map] at h
    obtain ⟨k, rfl⟩ : ∃ k : Nat, x = k := ⟨x.toNat, by omega⟩
    have hk : k < W.length := by omega
    rw [Int.toNat_natCast, List.getD_eq_getElem?_getD, List.getElem?_map, List.getElem?_eq_getElem hk]
    by_cases h0 : W[k] = []
    · left; rw [h0]; rfl
    · exact .inr ⟨k, W[k], rfl, List.getElem?_eq_getElem hk, h0, rfl⟩
  · exact .inl rfl
theorem kbits_len {W : List (List Nat)} (h : ∀ w ∈ W, w.length ≤ 30) (K : List Nat) : (kbits W K).length ≤ 30 * K.length := by
  induction K with
  | nil => simp [kbits]
  | cons i K ih =>
    have : (W.getD i []).length ≤ 30 := by
      rw [List.getD_eq_getElem?_getD]
      cases e : W[i]? with
      | none => simp
      | some w => exact h w (List.mem_of_getElem? e)
    simp only [kbits, List.flatMap_cons, List.length_append, List.length_cons] at ih ⊢
    omega
def GoodH (W : List (List Nat)) (K : List Nat) : Prop := ∀ i ∈ K, ∃ w, W[i]? = some w ∧ w ≠ []
theorem upto_get {n i : Nat} (h : i < n) : (upto n).getD i 0 = (i : Int) := by
  rw [upto, List.getD_eq_getElem?_getD, List.getElem?_map, List.getElem?_range h]; rfl

set_option maxHeartbeats 40000000 in
theorem walk (va vb : Value) (ls ks : List Int) (low : Bool) (w : World) (ha : Reads w 1 va ls.length (ls.map iv)) (hb : Reads w 1 vb ks.length (ks.map iv)) :
    Calls Try.prog 6 #[va, vb, .bool low] w fun e w' => e = .returned (.bool true) ∧ Below w.heap.size w w' := by
  have HA := Lib.hid (Stb.of_old ha)
  have HB := Lib.hid (Stb.of_old hb)
  obtain ⟨a1, c1, rfl⟩ := ha.sub
  obtain ⟨b1, d1, rfl⟩ := hb.sub
  have hm := ha.len_le
  have hm2 := hb.len_le
  unfold maxLen at hm hm2
  clear ha hb
  have H := Lib.hid (St.init w)
  have fin : ∀ w', St w w' (Mz.old w) → Below w.heap.size w w' := fun w' h => (h.perm ((emp_star _).symm.trans (star_comm _ _))).below
  have FIN := Lib.hid fin; clear fin
  have T := elemI
  by_cases hl6 : 100 < ls.length ∨ 200 < ks.length
  · have hl7 : ∀ P : Prop, (100 < (ls.length : Int) → P) → (¬ 100 < (ls.length : Int) → 200 < (ks.length : Int) → P) → P := fun P h1 h2 => by
      by_cases h : 100 < (ls.length : Int)
      · exact h1 h
      · exact h2 h (by omega)
    clear hl6
    refine hl7 _ (fun hq => ?_) (fun hq hq2 => ?_) <;> clear hl7
    all_goals
      go_enter Try.func6, Try.ntmps6
      go_wp2_with fail
      refine (lives06 H.out).mono ?_
      rintro e w1 ⟨rfl, h2⟩
      have H2 := Lib.hid h2; clear h2
      go_wp2_with fail
      refine (lives06 H2.out).mono ?_
      rintro e w2 ⟨rfl, h3⟩
      have H3 := Lib.hid h3; clear h3
      go_wp2_with fail
      go_ret
      exact ⟨rfl, FIN.out _ H3.out⟩
  have hq : ¬ 100 < (ls.length : Int) := by omega
  have hq2 : ¬ 200 < (ks.length : Int) := by omega
  clear hl6
  go_enter Try.func6, Try.ntmps6
  go_wp2_with fail
  refine (lives06 H.out).mono ?_
  rintro e w1 ⟨rfl, h2⟩
  have H2 := Lib.hid h2; clear h2
  go_wp2_with fail
  have C1 := Lib.hid (canon_any H2.out ls HA.out (by omega))
  have CF := canon_cases ls
  generalize canonI ls = R at *
  obtain ⟨W, fu, er⟩ := R
  simp only at C1 CF
  refine C1.out.mono ?_
  rintro e w2 ⟨v2, rfl, h2⟩
  obtain ⟨a2, c2, rfl⟩ := h2.reads.sub
  rcases CF with ⟨he, rfl⟩ | ⟨l, hll, hok, h30, hE⟩
  · have he' : (er : Int) ≠ 0 := by omega
    have H3 := Lib.hid h2; clear h2 C1 H2 H
    go_wp2_with fail
    go_ret
    exact ⟨rfl, FIN.out _ H3.out.right⟩
  have hW : W = wordsC l ∧ fu = fullC l ∧ er = 0 := by
    injection hE with e1 e2
    injection e2 with e2 e3
    exact ⟨e1, e2, e3⟩
  obtain ⟨hW1, hFu, rfl⟩ := hW
  have hWl : W.length = l.length := by rw [hW1]; simp [wordsC]
  have HBIT := Lib.hid (show ∀ v ∈ W, Bit v by rw [hW1]; exact bit_wordsC l)
  have HPF := Lib.hid (show PF W by rw [hW1]; exact pf_wordsC hok h30)
  have HW30 := Lib.hid (show ∀ v ∈ W, v.length ≤ 30 by
    rw [hW1]; intro v hv
    rw [wordsC, List.mem_map] at hv
    obtain ⟨i, _, rfl⟩ := hv
    rw [length_wordC, List.getD_eq_getElem?_getD]
    cases e : l[i]? with
    | none => simp
    | some b => exact h30 b (List.mem_of_getElem? e))
  have HFULL := Lib.hid (show fu = true → ∀ t, Bit t → 30 ≤ t.length → ∃ (i : Nat) (v : List Nat), W[i]? = some v ∧ v ≠ [] ∧ v <+: t ∧ v.length ≤ 30 by
    rw [hW1, hFu]; intro hf t hb ht; exact full_any hf hb ht)
  have hWn : W.length ≤ 100 := by omega
  clear hW1 hFu hE hok h30 hWl hll
  obtain ⟨N, hN, hTr⟩ := book_trie HBIT.out HPF.out
  have HTR := Lib.hid hTr; clear hTr
  obtain ⟨ws, hws⟩ : ∃ ws, ws = W.map tx := ⟨_, rfl⟩
  have hwsl : ws.length = W.length := by rw [hws]; simp
  have e1 : W.map txv = ws.map svB := by rw [hws, List.map_map]; rfl
  rw [e1, ← hwsl] at h2
  rw [← hwsl]
  rw [← hws] at hN
  have HNO := Lib.hid HTR.out.1
  have HMN := Lib.hid (show MOk N (upto ws.length).length by rw [length_upto, hwsl]; exact HTR.out.means)
  have HWS := Lib.hid hws
  have HWSL := Lib.hid hwsl
  have hwsn : ws.length ≤ 100 := by omega
  have H3 := Lib.hid h2
  clear h2 C1 H2 H e1 hws hwsl
  go_wp2_with fail
  refine (places_any H3.out ws.length (by omega)).mono ?_
  rintro e w3 ⟨vp, rfl, h4⟩
  obtain ⟨a3, c3, rfl⟩ := h4.reads.sub
  have C := new_anyI h4 ws (upto ws.length) (length_upto _) (by omega) (fun i t ht => by
    rw [HWS.out, List.getElem?_map] at ht
    cases e : W[i]? with
    | none => rw [e] at ht; cases ht
    | some v =>
      rw [e] at ht
      cases ht
      have := HW30.out v (List.mem_of_getElem? e)
      rw [length_tx]; omega) (vw := .slice a2 ws.length c2) (vm := .slice a3 ws.length c3) (fun w h => h.right.reads) (by rw [length_upto]; exact Stb.of_own) hN
  have HC := Lib.hid C; clear C h4
  go_wp2_with fail
  refine HC.out.mono ?_
  rintro e w4 ⟨hok, _⟩
  obtain ⟨B, rfl, h5, _⟩ := hok (by trivial)
  have H5 := Lib.hid h5; clear h5 hok HC H3
  go_wp2_with fail
  refine (newWriter_any H5.out).mono ?_
  rintro e w5 ⟨Wb, rfl, h6⟩
  have h6 := h6.perm (show _ = bookI B N (upto ws.length) ws * (wrt Wb [] low * (own 3 1 (.slice a3 ws.length c3) ws.length ((upto ws.length).map iv) * (own 9 1 (.slice a2 ws.length c2) ws.length (ws.map svB) * Mz.old w))) by ac_rfl)
  have hold : ∀ w' A, St w w' (A * (own 3 1 (.slice a3 ws.length c3) ws.length ((upto ws.length).map iv) * (own 9 1 (.slice a2 ws.length c2) ws.length (ws.map svB) * Mz.old w))) → St w w' (Mz.old w) := fun w' A h => h.right.right.right
  have HOLD := Lib.hid hold; clear hold
  generalize own 3 1 (.slice a3 ws.length c3) ws.length ((upto ws.length).map iv) * (own 9 1 (.slice a2 ws.length c2) ws.length (ws.map svB) * Mz.old w) = RR at *
  have H6 := Lib.hid h6; clear h6 H5
  go_wp2_with fail
  go_loopw [13, 62] (fun vo vi wr => ∃ (k : Nat) (K : List Nat) (aK : Option Addr) (cK : Nat), k ≤ ks.length ∧ K.length ≤ k ∧ vi = .int .i64 k ∧ vo = .slice aK K.length cK ∧ GoodH W K ∧
    St w wr (own 3 1 (.slice aK K.length cK) K.length (K.map nv) * (bookI B N (upto ws.length) ws * (wrt Wb (kbits W K) low * RR)))) (fun _ vi _ => ks.length - (intOf vi).toNat)
  case atStart => exact ⟨0, [], none, 0, by omega, by simp, rfl, rfl, (fun i hi => by cases hi), H6.out.own_nil _ _⟩
  case round =>
    clear H6
    obtain ⟨k, K, aK, cK, hk, hKk, rfl, rfl, hgood, hst⟩ := hrel
    have hlen := kbits_len HW30.out K
    have HGD := Lib.hid hgood; clear hgood
    by_cases hkn : k < ks.length
    · obtain ⟨gk, ok, rfl, e1⟩ := (HB.out wr (HOLD.out wr _ (hst.right.right.perm (show _ = wrt Wb (kbits W K) low * RR by rfl)))).at_ hkn
      have hx := List.getElem?_eq_getElem hkn
      rw [List.getElem?_map, hx] at e1
      simp only [Option.map_some, iv] at e1
      generalize ks[k] = x at *
      clear hx
      have hk2 : (k : Int) < ks.length := by omega
      have hcase := wAt_cases W x
      rw [← HWS.out] at hcase
      rcases hcase with hz | ⟨i, v, rfl, hi, hv, hz⟩
      · have C := hwrite_anyI (hst.perm (show _ = bookI B N (upto ws.length) ws * (wrt Wb (kbits W K) low * (own 3 1 (.slice aK K.length cK) K.length (K.map nv) * RR)) by ac_rfl)) x (by rw [hz]; rfl) (by rw [hz]; simp) (by omega)
        rw [hz, if_pos rfl, show unTx [] = [] from rfl, List.append_nil] at C
        have HC := Lib.hid C; clear C hz hst
        go_wp2_with fail
        refine HC.out.mono ?_
        rintro e w6 ⟨rfl, h7⟩
        have h8 := h7.perm (show _ = own 3 1 (.slice aK K.length cK) K.length (K.map nv) * (bookI B N (upto ws.length) ws * (wrt Wb (kbits W K) low * RR)) by ac_rfl)
        have H8 := Lib.hid h8; clear h7 h8 HC
        go_wp2_with fail
        exact ⟨⟨k + 1, K, aK, cK, by omega, by omega, by go_num, rfl, HGD.out, H8.out⟩, by simp [intOf]; omega⟩
      · have hbv := HBIT.out v (List.mem_of_getElem? hi)
        have hlv := HW30.out v (List.mem_of_getElem? hi)
        have C := hwrite_anyI (hst.perm (show _ = bookI B N (upto ws.length) ws * (wrt Wb (kbits W K) low * (own 3 1 (.slice aK K.length cK) K.length (K.map nv) * RR)) by ac_rfl)) i (by rw [hz]; exact digB_of_tx hbv) (by rw [hz]; simp; omega) (by omega)
        have hne : ¬ tx v = [] := fun h => hv (by simpa [tx] using h)
        rw [hz, if_neg hne, unTx_tx hbv] at C
        have hg : W.getD i [] = v := by rw [List.getD_eq_getElem?_getD, hi]; rfl
        have hkb : kbits W K ++ v = kbits W (K ++ [i]) := by rw [kbits_snoc, hg]
        rw [hkb] at C
        have HG2 := Lib.hid (show GoodH W (K ++ [i]) from fun j hj => by
          rcases List.mem_append.1 hj with h | h
          · exact HGD.out j h
          · rw [List.mem_singleton] at h; subst h; exact ⟨v, hi, hv⟩)
        have HC := Lib.hid C; clear C hz hst hne hg hkb hbv hlv hi hv
        go_wp2_with fail
        refine HC.out.mono ?_
        rintro e w6 ⟨rfl, h7⟩
        have h8 := h7.perm (show _ = own 3 1 (.slice aK K.length cK) K.length (K.map nv) * (bookI B N (upto ws.length) ws * (wrt Wb (kbits W (K ++ [i])) low * RR)) by ac_rfl)
        have H8 := Lib.hid h8; clear h7 h8 HC
        go_wp2_with (at_builtin; apply stop)
        refine on (wpList_append_sep T rfl _ _ rfl rfl (H8.out.drop_alloc (.cells #[.int .i64 (i : Int)] 3)) rfl (reads_int1 w6 i) (iv_oneCell [(i : Int)]) ?_ ?_ ?_)
        · unfold maxLen; omega
        · omega
        intro v' w7 h9 _
        rw [show K.map nv ++ [(i : Int)].map iv = (K ++ [i]).map nv by rw [List.map_append]; rfl] at h9
        have hKl : (K ++ [i]).length = K.length + 1 := by simp
        rw [← hKl] at h9
        obtain ⟨aN, cN, rfl⟩ := h9.reads.sub
        have H9 := Lib.hid h9; clear h9
        go_wp2_with fail
        go_roundw
        case rel => exact ⟨k + 1, K ++ [i], aN, cN, by omega, by rw [hKl]; omega, by go_num, by rw [hKl], HG2.out, H9.out⟩
        case measure => simp [intOf]; omega
    · obtain rfl : k = ks.length := by omega
      have HST := Lib.hid (hst.perm (show _ = wrt Wb (kbits W K) low * (own 3 1 (.slice aK K.length cK) K.length (K.map nv) * (bookI B N (upto ws.length) ws * RR)) by ac_rfl)); clear hst
      go_wp2_with fail
      refine (bytes_any HST.out).mono ?_
      rintro e w6 ⟨vb, rfl, h7⟩
      have hbl : (bytesB low (kbits W K)).length = ((kbits W K).length + 7) / 8 := length_bytesB _ _
      rw [← hbl] at h7
      have H7 := Lib.hid h7; clear h7
      go_wp2_with fail
      refine (newReader_any H7.out Stb.of_own (by omega)).mono ?_
      rintro e w7 ⟨Rb, rfl, h8⟩
      have h8 := h8.perm (show _ = bookI B N (upto ws.length) ws * (rdr Rb (bytesB low (kbits W K)) 0 low * (own 3 1 (.slice aK K.length cK) K.length (K.map nv) * (own 5 1 vb (bytesB low (kbits W K)).length ((bytesB low (kbits W K)).map bv) * (wrt Wb (kbits W K) low * RR)))) by ac_rfl)
      have H8 := Lib.hid h8; clear h8 H7 HST
      have HOLD2 := Lib.hid (fun w' A (h : St w w' (A * (own 5 1 vb (bytesB low (kbits W K)).length ((bytesB low (kbits W K)).map bv) * (wrt Wb (kbits W K) low * RR)))) => HOLD.out w' _ (h.right.right))
      generalize own 5 1 vb (bytesB low (kbits W K)).length ((bytesB low (kbits W K)).map bv) * (wrt Wb (kbits W K) low * RR) = R2 at *
      go_wp2_with fail
      go_loopw [82] (fun vi wr => ∃ (m : Nat), m ≤ K.length ∧ vi = .int .i64 m ∧ St w wr (bookI B N (upto ws.length) ws * (rdr Rb (bytesB low (kbits W K)) (kbits W (K.take m)).length low * (own 3 1 (.slice aK K.length cK) K.length (K.map nv) * R2)))) (fun vi _ => K.length - (intOf vi).toNat)
      case atStart => exact ⟨0, by omega, rfl, by simpa [kbits] using H8.out⟩
      case round =>
        clear H8
        obtain ⟨m, hmK, rfl, hst⟩ := hrel
        by_cases hmn : m < K.length
        · have hx := List.getElem?_eq_getElem hmn
          obtain ⟨gk, ok, rfl, e1⟩ := hst.right.right.reads.at_ hmn
          rw [List.getElem?_map, hx] at e1
          obtain ⟨v, hi, hv⟩ := HGD.out K[m] (List.getElem_mem _)
          obtain ⟨hle, hrd⟩ := again_read HTR.out HBIT.out HPF.out low K hx hi hv
          have hil : K[m] < ws.length := by
            rw [HWSL.out]; obtain ⟨h, _⟩ := List.getElem?_eq_some_iff.1 hi; exact h
          have C := read_anyI hst HNO.out HMN.out hle hrd
          have hrr : readResI (upto ws.length) (.inl K[m]) = .tuple #[.int .i64 (K[m] : Int), .int .i64 0] := by rw [readResI, upto_get hil]; rfl
          rw [hrr] at C
          generalize K[m] = i at *
          simp only [Option.map_some, nv] at e1
          have HC := Lib.hid C; clear C hst hrr hi hv hle hrd hx
          have hm2 : (m : Int) < K.length := by omega
          go_wp2_with fail
          refine HC.out.mono ?_
          rintro e w8 ⟨rfl, h9⟩
          have H9 := Lib.hid h9; clear h9 HC
          go_wp2_with fail
          exact ⟨⟨m + 1, by omega, by go_num, H9.out⟩, by simp [intOf]; omega⟩
        · obtain rfl : m = K.length := by omega
          have HST := Lib.hid hst; clear hst
          cases fu
          · go_wp2_with fail
            go_ret
            exact ⟨rfl, FIN.out _ (HOLD2.out _ _ HST.out.right.right)⟩
          · obtain ⟨i, v, hi, hv, hpre, hvl⟩ := HFULL.out rfl (bitsL low [167, 49, 255, 0, 92]) (bit_bitsL _ _) (by simp)
            have hrd : readN N [167, 49, 255, 0, 92] low 0 = (v.length, .inl i) := by
              obtain ⟨z, hz⟩ := hpre
              rw [readN_trie HTR.out _ _ _ (by simp), List.drop_zero, ← hz, rdW_hit HPF.out hi v [] z rfl hv]; simp
            have hil : i < ws.length := by
              rw [HWSL.out]; obtain ⟨h, _⟩ := List.getElem?_eq_some_iff.1 hi; exact h
            have hrr : readResI (upto ws.length) (.inl i) = .tuple #[.int .i64 (i : Int), .int .i64 0] := by rw [readResI, upto_get hil]; rfl
            have HRD := Lib.hid hrd
            have HRR := Lib.hid hrr
            clear hrd hrr hpre hi hv hil
            have h9 := HST.out.lit #[.int .u8 167, .int .u8 49, .int .u8 255, .int .u8 0, .int .u8 92] 5 5 rfl (by decide)
            have H9 := Lib.hid h9; clear h9 HST
            go_wp2_with fail
            refine (newReader_any (bs := [167, 49, 255, 0, 92]) H9.out Stb.of_own (by decide)).mono ?_
            rintro e w8 ⟨Rf, rfl, h10⟩
            have C := read_anyI (h10.perm (show _ = bookI B N (upto ws.length) ws * (rdr Rf [167, 49, 255, 0, 92] 0 low * (own 5 1 _ 5 _ * (rdr Rb (bytesB low (kbits W K)) (kbits W (K.take K.length)).length low * (own 3 1 (.slice aK K.length cK) K.length (K.map nv) * R2)))) by ac_rfl)) HNO.out HMN.out (by omega) HRD.out
            rw [HRR.out] at C
            have HC := Lib.hid C; clear C h10
            go_wp2_with fail
            refine HC.out.mono ?_
            rintro e w9 ⟨rfl, h11⟩
            have HAT := Lib.hid (at_any (rdr_at (h11.perm (star_left_comm _ _ _))))
            have H11 := Lib.hid h11; clear h11 HC
            have hvl2 : (v.length : Int) ≤ 30 := by omega
            go_wp2_with fail
            refine HAT.out.mono ?_
            rintro e w10 ⟨rfl, rfl⟩
            go_wp2_with fail
            go_ret
            exact ⟨rfl, FIN.out _ (HOLD2.out _ _ H11.out.right.right.right.right)⟩
#print axioms walk
end Go.Proofs.Ytdlmmkgggghlcaa.hagain
