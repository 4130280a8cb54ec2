/-
  The document's answer for layer 2, the writing side.
-/
import Derived.Test.YtifbhbknpecnbaaRef02
import Derived.Test.YtifbhbknpecnbaaWrM
namespace Go.Proofs.Ytifbhbknpecnbaa
open Go.RowKit Go.Mz
set_option linter.unusedVariables false
set_option linter.unusedSimpArgs false

theorem digits_any {w : World} (s : List UInt8) (hs : s.length ≤ maxLen) :
    Calls Try.prog 24 #[.string ⟨s.toArray⟩] w fun e w' => e = .returned (.bool (digB s)) ∧ w = w' := by
  unfold maxLen at hs
  go_enter Try.func24, Try.ntmps24
  go_wp2_with fail
  go_loop [3] (fun i => ∃ k : Nat, k ≤ s.length ∧ i = .int .i64 k ∧ digB (s.take k) = true) (fun i => s.length - (intOf i).toNat)
  case atStart => exact ⟨0, Nat.zero_le _, rfl, rfl⟩
  case round =>
    obtain ⟨k, hk, rfl, hdk⟩ := hrel
    by_cases hkn : k < s.length
    · have hg := List.getElem?_eq_getElem hkn
      have G := fun h => ba_get hg h; clear hg
      by_cases hc : s[k] = 48 ∨ s[k] = 49
      · have HN := Lib.hid (digB_split s k hkn hdk hc); clear hdk
        generalize s[k] = c at *
        rcases hc with rfl | rfl
        all_goals
          go_wp2_with fail
          refine ⟨⟨k + 1, by omega, by go_num, HN.out⟩, by simp [intOf]; omega⟩
      · have n1 : ((s[k].toNat : Int) != 48) = true := byte_ne (d := 48) (fun e => hc (.inl e))
        have n2 : ((s[k].toNat : Int) != 49) = true := byte_ne (d := 49) (fun e => hc (.inr e))
        have HD := Lib.hid (digB_no s k hkn hc)
        clear hc hdk
        generalize s[k] = c at *
        go_wp2_with fail
        go_ret
        exact ⟨by rw [HD.out]; rfl, rfl⟩
    · obtain rfl : k = s.length := by omega
      rw [List.take_length] at hdk
      have HD := Lib.hid hdk; clear hdk
      go_wp2_with fail
      go_ret
      exact ⟨by rw [HD.out]; rfl, rfl⟩

theorem ralign_any {l : List Nat} {w : World} (hm : l.length ≤ 1000000000) {s : ByteArray} (hs : s = ⟨(tx l).toArray⟩) :
    Calls Try.prog 26 #[.string s] w fun e w' => e = .returned (.string ⟨(tx (alignL l)).toArray⟩) ∧ w = w' := by
  subst hs
  go_enter Try.func26, Try.ntmps26
  go_wp2_with fail
  go_loopg [0] ((8 - l.length % 8) % 8) (fun g u wr => ∃ k : Nat, k + g = (8 - l.length % 8) % 8 ∧ u = .string ⟨(tx (l ++ List.replicate k 0)).toArray⟩ ∧ wr = w)
  case atStart => exact ⟨0, by omega, by simp, rfl⟩
  case round =>
    obtain ⟨k, hk, rfl, rfl⟩ := hrel
    have hlen : (tx (l ++ List.replicate k 0)).length = l.length + k := by simp
    by_cases hg : gk = 0
    · subst hg
      have h8 : (((l.length : Int) + k) % 8 != 0) = false := by
        have : (((l.length : Int) + k) % 8) = 0 := by omega
        rw [this]; rfl
      have HK := Lib.hid (show k = (8 - l.length % 8) % 8 by omega); clear hk
      go_wp2_with fail
      go_ret
      refine ⟨?_, rfl⟩
      unfold alignL
      rw [← HK.out]
      rfl
    · have h8 : (((l.length : Int) + k) % 8 != 0) = true := by
        rw [bne_iff_ne]; omega
      have hk2 : k + 1 + (gk - 1) = (8 - l.length % 8) % 8 := by omega
      have hk3 : k ≤ 7 := by omega
      have HK := Lib.hid hk2; clear hk hk2
      go_wp2_with fail
      go_roundg (gk - 1)
      case measure => omega
      case rel =>
        refine ⟨k + 1, HK.out, ?_, rfl⟩
        refine (congrArg Value.string (ByteArray.mk_append_mk (tx (l ++ List.replicate k 0)) [48])).trans ?_
        rw [List.replicate_succ', ← List.append_assoc, tx_append (l ++ _)]
        rfl

theorem rbytes_any {l : List Nat} (hb : Bit l) (low : Bool) {w0 w : World} {F : SProp} (h : St w0 w F) (hm : l.length ≤ 1000000000) {s : ByteArray} (hs : s = ⟨(tx l).toArray⟩) :
    Calls Try.prog 29 #[.string s, .bool low] w fun e w' => e = .returned (.string ⟨(bytesB low l).toArray⟩) ∧ St w0 w' F := by
  subst hs
  have H := Lib.hid h; clear h
  have hl2 : (tx l).length = l.length := by simp
  go_enter Try.func29, Try.ntmps29
  go_wp2_with fail
  go_loopw [5, 6] (fun o i wr => ∃ k : Nat, 8 * k ≤ l.length + 7 ∧ i = .int .i64 ((8 * k : Nat) : Int) ∧ o = .string ⟨((bytesB low l).take k).toArray⟩ ∧ St w0 wr F) (fun _ i _ => l.length + 8 - (intOf i).toNat)
  case atStart => exact ⟨0, by omega, rfl, rfl, H.out⟩
  case round =>
    obtain ⟨k, hk, rfl, rfl, hst⟩ := hrel
    by_cases hkn : 8 * k < l.length
    · have HS := Lib.hid hst; clear hst
      have hwin := window l (8 * k) 8 8 (Nat.le_refl _)
      have hbx : Bit ((l.drop (8 * k) ++ List.replicate 8 0).take 8) := ((hb.drop _).append (bit_rep 8)).take 8
      have hlx : ((l.drop (8 * k) ++ List.replicate 8 0).take 8).length = 8 := by simp
      have hex : ByteArray.extract (ByteArray.extract ⟨(tx l).toArray⟩ (8 * k) l.length ++ ⟨#[48, 48, 48, 48, 48, 48, 48, 48]⟩) 0 8 = ⟨(tx ((l.drop (8 * k) ++ List.replicate 8 0).take 8)).toArray⟩ := by
        rw [ByteArray.extract_mk (tx l) (8 * k) l.length, ByteArray.mk_append_mk, ByteArray.extract_mk _ 0 8, List.drop_zero, Nat.sub_zero, ← tx_take, tx_append, ← tx_drop, List.take_of_length_le (i := l.length - 8 * k) (by simp)]
        rfl
      have HN := Lib.hid (show numB (cond low ((l.drop (8 * k) ++ List.replicate 8 0).take 8).reverse ((l.drop (8 * k) ++ List.replicate 8 0).take 8)) = byteB low l k by
        rw [hwin]; exact (numV_L low _ 8).symm)
      have HT := Lib.hid (show (bytesB low l).take (k + 1) = (bytesB low l).take k ++ [UInt8.ofNat (byteB low l k)] by
        rw [List.take_add_one, bytesB_get low l k (by omega)]; rfl)
      have hby := byteB_lt low hb k
      have HB := Lib.hid (toNat_byteB low hb k)
      have hlen : ((bytesB low l).take k).length ≤ l.length := by simp; omega
      have HX := Lib.hid hex; clear hex hwin
      generalize ((l.drop (8 * k) ++ List.replicate 8 0).take 8) = x at *
      generalize byteB low l k = y at *
      cases low
      · go_wp2_with fail
        refine (number_tx _ hbx (by omega) HX.out).mono ?_
        rintro e w2 ⟨rfl, rfl⟩
        rw [show numB x = y from HN.out]
        go_wp2_with (with_reducible (refine stop_conv 22 9 rfl ?_))
        refine on (wpList_b2s Try.underlying22 Try.underlying5 Try.underlying9 rfl rfl (n := 1) (reads_one wr 5 (UInt8.ofNat y) (by rw [HB.out])) ?_)
        go_wp2_with fail
        refine ⟨⟨k + 1, by omega, by go_num, ?_, HS.out.drop_alloc _⟩, by simp [intOf]; omega⟩
        rw [HT.out]
        exact congrArg Value.string (ByteArray.mk_append_mk _ _)
      · go_wp2_with fail
        refine (turn_tx _ (by omega) HX.out).mono ?_
        rintro e w2 ⟨rfl, rfl⟩
        go_wp2_with fail
        refine (number_tx _ hbx.reverse (by simp; omega) rfl).mono ?_
        rintro e w2 ⟨rfl, rfl⟩
        rw [show numB x.reverse = y from HN.out]
        go_wp2_with (with_reducible (refine stop_conv 22 9 rfl ?_))
        refine on (wpList_b2s Try.underlying22 Try.underlying5 Try.underlying9 rfl rfl (n := 1) (reads_one wr 5 (UInt8.ofNat y) (by rw [HB.out])) ?_)
        go_wp2_with fail
        refine ⟨⟨k + 1, by omega, by go_num, ?_, HS.out.drop_alloc _⟩, by simp [intOf]; omega⟩
        rw [HT.out]
        exact congrArg Value.string (ByteArray.mk_append_mk _ _)
    · have HS := Lib.hid hst; clear hst
      rw [List.take_of_length_le (by simp; omega)]
      go_wp2_with fail
      go_ret
      exact ⟨rfl, HS.out⟩

theorem rwrite_all {l : List Nat} (low : Bool) (v : Nat) (n : Int) {w0 w : World} {F : SProp} (h : St w0 w F) (hv : v < 4294967296) (hm : l.length ≤ 1000000000) {s : ByteArray} (hs : s = ⟨(tx l).toArray⟩) :
    Calls Try.prog 21 #[.string s, .int .u32 v, .int .i64 n, .bool low] w fun e w' => e = .returned (.tuple #[.string ⟨(tx (l ++ wrL low v n)).toArray⟩, .int .i64 (wrE v n)]) ∧ St w0 w' F := by
  subst hs
  have H := Lib.hid h; clear h
  by_cases hn : n < 0 ∨ 32 < n
  · have e := Lib.hid (show wrE v n = 1 by unfold wrE; rw [if_pos hn])
    have e2 := Lib.hid (show wrL low v n = [] by unfold wrL; rw [if_neg (by rw [e.out]; omega)])
    rcases hn with h | h
    · have h1 : decide (n < 0) = true := by simpa using h
      go_enter Try.func21, Try.ntmps21
      go_wp2_with fail
      go_ret2
      exact ⟨by rw [e.out, e2.out, List.append_nil]; rfl, H.out⟩
    · have h1 : ¬ n < 0 := by omega
      go_enter Try.func21, Try.ntmps21
      go_wp2_with fail
      go_ret2
      exact ⟨by rw [e.out, e2.out, List.append_nil]; rfl, H.out⟩
  obtain ⟨k, rfl⟩ := Int.eq_ofNat_of_zero_le (show 0 ≤ n by omega)
  have hk : k ≤ 32 := by omega
  have hn1 : ¬ (k : Int) < 0 := by omega
  have hn2 : ¬ (32 : Int) < k := by omega
  clear hn
  have hsplit : wordB v 32 = wordB (v / 2 ^ k) (32 - k) ++ wordB v k := by rw [← wordB_add]; congr 1; omega
  have hlw : (tx (wordB v 32)).length = 32 := by simp
  have hx1 : ByteArray.extract ⟨(tx (wordB v 32)).toArray⟩ 0 (32 - k) = ⟨(tx (wordB (v / 2 ^ k) (32 - k))).toArray⟩ := by
    rw [ByteArray.extract_mk, List.drop_zero, Nat.sub_zero, hsplit, tx_append, List.take_left' (by simp)]
  have hx2 : ByteArray.extract ⟨(tx (wordB v 32)).toArray⟩ (32 - k) 32 = ⟨(tx (wordB v k)).toArray⟩ := by
    rw [ByteArray.extract_mk, hsplit, tx_append, List.drop_left' (by simp), List.take_of_length_le (by simp; omega)]
  have hnum : numB (wordB (v / 2 ^ k) (32 - k)) = v / 2 ^ k := by
    rw [numB_wordB, Nat.mod_eq_of_lt]
    rw [Nat.div_lt_iff_lt_mul (Nat.pow_pos (by decide)), ← Nat.pow_add, show 32 - k + k = 32 by omega]
    exact hv
  have HX1 := Lib.hid hx1; have HX2 := Lib.hid hx2; have HNU := Lib.hid hnum
  clear hx1 hx2 hnum hsplit
  have hlk : (tx (wordB v k)).length = k := by simp
  have hll : (tx l).length = l.length := by simp
  have hz : (v / 2 ^ k ≠ 0) → k < 32 := by
    intro h
    rcases Nat.lt_or_ge k 32 with g | g
    · exact g
    · exact absurd (Nat.div_eq_of_lt (Nat.lt_of_lt_of_le hv (by
        have := Nat.pow_le_pow_right (n := 2) (by decide) g
        simpa using this))) h
  by_cases hy : v / 2 ^ k = 0
  · have e := Lib.hid (show wrE v k = 0 by unfold wrE; rw [if_neg (by omega), if_neg (by simp [hy])])
    have e2 := Lib.hid (show wrL low v k = wrN low v k by unfold wrL; rw [if_pos e.out, Int.toNat_natCast])
    have HY := Lib.hid hy; clear hy hz
    cases low
    · go_enter Try.func21, Try.ntmps21
      go_wp2_with fail
      refine (word_any v 32 H.out rfl rfl hv (by decide)).mono ?_
      rintro e w1 ⟨rfl, h1⟩
      have H1 := Lib.hid h1; clear h1
      go_wp2_with fail
      refine (number_tx _ (bit_wordB (v / 2 ^ k) (32 - k)) (by simp) HX1.out).mono ?_
      rintro e w2 ⟨rfl, rfl⟩
      rw [HNU.out, HY.out]
      go_wp2_with fail
      go_ret2
      refine ⟨?_, H1.out⟩
      rw [e.out, e2.out, tx_append]
      exact congrArg (fun x => Ending.returned (.tuple #[.string x, .int .i64 0])) (by rw [HX2.out]; exact ByteArray.mk_append_mk _ _)
    · go_enter Try.func21, Try.ntmps21
      go_wp2_with fail
      refine (word_any v 32 H.out rfl rfl hv (by decide)).mono ?_
      rintro e w1 ⟨rfl, h1⟩
      have H1 := Lib.hid h1; clear h1
      go_wp2_with fail
      refine (number_tx _ (bit_wordB (v / 2 ^ k) (32 - k)) (by simp) HX1.out).mono ?_
      rintro e w2 ⟨rfl, rfl⟩
      rw [HNU.out, HY.out]
      go_wp2_with fail
      refine (turn_tx (l := wordB v k) _ (by simp; omega) HX2.out).mono ?_
      rintro e w3 ⟨rfl, rfl⟩
      have hlr : (tx (wordB v k).reverse).length = k := by simp
      go_wp2_with fail
      go_ret2
      refine ⟨?_, H1.out⟩
      rw [e.out, e2.out, tx_append]
      exact congrArg (fun x => Ending.returned (.tuple #[.string x, .int .i64 0])) (ByteArray.mk_append_mk _ _)
  · have hk32 := hz hy
    have e := Lib.hid (show wrE v k = 7 by unfold wrE; rw [if_neg (by omega), if_pos ⟨by omega, by simpa using hy⟩])
    have e2 := Lib.hid (show wrL low v k = [] by unfold wrL; rw [if_neg (by rw [e.out]; omega)])
    have hyb : (((v / 2 ^ k : Nat) : Int) != 0) = true := by
      rw [bne_iff_ne]
      generalize v / 2 ^ k = y at *
      omega
    clear hz hy
    have HNU2 := HNU.out
    generalize hyy : v / 2 ^ k = y at *
    clear hyy
    · go_enter Try.func21, Try.ntmps21
      clear HNU2
      go_wp2_with fail
      refine (word_any v 32 H.out rfl rfl hv (by decide)).mono ?_
      rintro e w1 ⟨rfl, h1⟩
      have H1 := Lib.hid h1; clear h1
      go_wp2_with fail
      refine (number_tx _ (bit_wordB y (32 - k)) (by simp) HX1.out).mono ?_
      rintro e w2 ⟨rfl, rfl⟩
      rw [HNU.out]
      go_wp2_with fail
      go_ret2
      exact ⟨by rw [e.out, e2.out, List.append_nil]; rfl, H1.out⟩
end Go.Proofs.Ytifbhbknpecnbaa
