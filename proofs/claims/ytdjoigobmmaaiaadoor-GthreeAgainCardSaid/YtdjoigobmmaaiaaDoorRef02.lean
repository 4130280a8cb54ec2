/-
  The document's answer for layer 2 (texts of 0 and 1): what each of its functions gives.
  The document's answer for layer 2, the writing side.
-/
import Derived.Test.YtdjoigobmmaaiaaDoorChecked
import Derived.Test.YtdjoigobmmaaiaaDoorBitsM
import Derived.WalkLawsBesides
import Derived.Test.YtdjoigobmmaaiaaDoorWrM
namespace Go.Proofs.YtdjoigobmmaaiaaDoor
open Go.RowKit Go.Mz
set_option linter.unusedVariables false
set_option linter.unusedSimpArgs false

theorem turn_any (l : List UInt8) (w : World) (hl : l.length ≤ 1000000000) :
    Calls Tryd.prog 62 #[.string ⟨l.toArray⟩] w fun e w' => e = .returned (.string ⟨l.reverse.toArray⟩) ∧ w = w' := by
  go_enter Tryd.func62, Tryd.ntmps62
  go_wp2_with fail
  go_loop [3, 4] (fun o i => ∃ k : Nat, k ≤ l.length ∧ i = .int .i64 ((k : Int) - 1) ∧ o = .string ⟨(l.drop k).reverse.toArray⟩) (fun _ i => (intOf i + 1).toNat)
  case atStart => exact ⟨l.length, Nat.le_refl _, rfl, by simp⟩
  case round =>
    obtain ⟨k, hk, rfl, rfl⟩ := hrel
    cases k with
    | zero =>
      go_wp2_with fail
      go_ret
      exact ⟨by simp, rfl⟩
    | succ m =>
      rw [show (((m + 1 : Nat) : Int) - 1) = (m : Int) from by omega]
      go_wp2_with fail
      refine ⟨⟨m, by omega, rfl, ?_⟩, by simp [intOf]⟩
      rw [ByteArray.extract_mk, ByteArray.mk_append_mk, List.drop_eq_getElem_cons (show m < l.length by omega), List.reverse_cons]
      simp [List.take_one, List.head?_drop, show m < l.length by omega]

theorem turn_tx {l : List Nat} (w : World) (hl : l.length ≤ 1000000000) {s : ByteArray} (hs : s = ⟨(tx l).toArray⟩) :
    Calls Tryd.prog 62 #[.string s] w fun e w' => e = .returned (.string ⟨(tx l.reverse).toArray⟩) ∧ w = w' := by
  subst hs
  have := turn_any (tx l) w (by simpa using hl)
  rw [tx_reverse] at this
  exact this

theorem number_tx {l : List Nat} (w : World) (hb : Bit l) (hl : l.length ≤ 32) {s : ByteArray} (hs : s = ⟨(tx l).toArray⟩) :
    Calls Tryd.prog 63 #[.string s] w fun e w' => e = .returned (.int .u32 (numB l)) ∧ w = w' := by
  subst hs
  go_enter Tryd.func63, Tryd.ntmps63
  go_wp2_with fail
  go_loop [3, 4] (fun v i => ∃ k : Nat, k ≤ l.length ∧ i = .int .i64 k ∧ v = .int .u32 (numB (l.take k))) (fun _ i => l.length - (intOf i).toNat)
  case atStart => exact ⟨0, Nat.zero_le _, rfl, rfl⟩
  case round =>
    obtain ⟨k, hk, rfl, rfl⟩ := hrel
    by_cases hkn : k < l.length
    · have hk1 : (k : Int) < (tx l).length := by simpa using hkn
      have hs : numB (l.take (k + 1)) = numB (l.take k) * 2 + l[k] := by
        rw [List.take_succ_eq_append_getElem hkn, numB_snoc]
      have hlt := numB_lt (hb.take (k + 1))
      have hp := pow32 (n := (l.take (k + 1)).length) (by simp; omega)
      rw [hs] at hlt
      have hg : (tx l)[k]? = some (dg l[k]) := by simp [tx, hkn]
      have hd := toNat_dg (hb l[k] (by simp))
      have hbit := hb l[k] (by simp)
      have HS := Lib.hid hs; clear hs
      generalize hx : numB (l.take k) = x at *
      generalize hy : l[k] = y at *
      clear hx hy
      go_wp2_with fail
      refine ⟨⟨k + 1, by omega, by go_num, ?_⟩, by simp [intOf]; omega⟩
      rw [ba_get hg, hd, HS.out]
      exact int_eq (by omega)
    · obtain rfl : k = l.length := by omega
      go_wp2_with fail
      go_ret
      exact ⟨by simp, rfl⟩

theorem word_any (v n : Nat) {w0 w : World} {F : SProp} (h : St w0 w F) {i j : Int} (hi : i = v) (hj : j = n) (hv : v < 4294967296) (hn : n ≤ 32) :
    Calls Tryd.prog 69 #[.int .u32 i, .int .i64 j] w fun e w' => e = .returned (.string ⟨(tx (wordB v n)).toArray⟩) ∧ St w0 w' F := by
  subst hi hj
  have H := Lib.hid h; clear h
  go_enter Tryd.func69, Tryd.ntmps69
  go_wp2_with fail
  go_loopw [0, 5, 6] (fun x s i wr => ∃ k : Nat, k ≤ n ∧ i = .int .i64 k ∧ x = .int .u32 ((v / 2 ^ k : Nat) : Int) ∧ s = .string ⟨(tx (wordB v k)).toArray⟩ ∧ St w0 wr F) (fun _ _ i _ => n - (intOf i).toNat)
  case atStart => exact ⟨0, Nat.zero_le _, rfl, by simp, rfl, H.out⟩
  case round =>
    obtain ⟨k, hk, rfl, rfl, rfl, hst⟩ := hrel
    by_cases hkn : k < n
    · have hb : v / 2 ^ k % 2 ≤ 1 := by omega
      have hx : v / 2 ^ k < 4294967296 := Nat.lt_of_le_of_lt (Nat.div_le_self _ _) hv
      have hq : Hid (v / 2 ^ (k + 1) = v / 2 ^ k / 2) := by rw [Nat.pow_succ, ← Nat.div_div_eq_div_mul]; rfl
      have hw : Hid (wordB v (k + 1) = (v / 2 ^ k % 2) :: wordB v k) := rfl
      have HS := Lib.hid hst; clear hst
      have hlen : (tx (wordB v k)).length ≤ 32 := by simp; omega
      generalize v / 2 ^ k = x at *
      go_wp2_with (with_reducible (refine stop_conv 28 9 rfl ?_))
      refine on (wpList_b2s Tryd.underlying28 Tryd.underlying5 Tryd.underlying9 rfl rfl (n := 1) (reads_one wr 5 (dg (x % 2)) (by rw [toNat_dg hb]; simp)) ?_)
      go_wp2_with fail
      refine ⟨⟨k + 1, by omega, by go_num, by rw [hq.out]; simp, ?_, HS.out.drop_alloc _⟩, by simp [intOf]; omega⟩
      rw [hw.out, tx_cons]
      exact (congrArg Value.string (ByteArray.mk_append_mk _ _))
    · obtain rfl : k = n := by omega
      go_wp2_with fail
      go_ret
      exact ⟨rfl, hst⟩

theorem of_any (bs : List UInt8) (low : Bool) {w0 w : World} {F : SProp} (h : St w0 w F) (hl : bs.length ≤ 100000000) :
    Calls Tryd.prog 38 #[.string ⟨bs.toArray⟩, .bool low] w fun e w' => e = .returned (.string ⟨(tx (bitsL low bs)).toArray⟩) ∧ St w0 w' F := by
  have H := Lib.hid h; clear h
  go_enter Tryd.func38, Tryd.ntmps38
  go_wp2_with fail
  go_loopw [5, 6] (fun s i wr => ∃ k : Nat, k ≤ bs.length ∧ i = .int .i64 k ∧ s = .string ⟨(tx (bitsL low (bs.take k))).toArray⟩ ∧ St w0 wr F) (fun _ i _ => bs.length - (intOf i).toNat)
  case atStart => exact ⟨0, Nat.zero_le _, rfl, rfl, H.out⟩
  case round =>
    obtain ⟨k, hk, rfl, rfl, hst⟩ := hrel
    by_cases hkn : k < bs.length
    · have HS := Lib.hid hst; clear hst
      have hg := Lib.hid (List.getElem?_eq_getElem hkn)
      have hw : Hid (bitsL low (bs.take (k + 1)) = bitsL low (bs.take k) ++ bits8 low bs[k]) := by
        show _ = _
        rw [List.take_succ_eq_append_getElem hkn, bitsL_append]; simp [bitsL]
      have hlen : (tx (bitsL low (bs.take k))).length ≤ 8 * bs.length := by simp; omega
      have hc : bs[k].toNat < 256 := UInt8.toNat_lt _
      generalize bs[k] = c at *
      cases low
      all_goals
        go_wp2_with fail
        refine (word_any c.toNat 8 HS.out (by rw [ba_get hg.out]; omega) rfl (by omega) (by decide)).mono ?_
        rintro e w1 ⟨rfl, h1⟩
        have H1 := Lib.hid h1; clear h1
        have hlw : (tx (wordB c.toNat 8)).length = 8 := by simp
        try (
          go_wp2_with fail
          refine (turn_tx _ (by simp) rfl).mono ?_
          rintro e w2 ⟨rfl, rfl⟩
          have hlw2 : (tx (wordB c.toNat 8).reverse).length = 8 := by simp)
        go_wp2_with fail
        refine ⟨⟨k + 1, by omega, by go_num, ?_, H1.out⟩, by simp [intOf]; omega⟩
        rw [hw.out, tx_append]
        exact (congrArg Value.string (ByteArray.mk_append_mk _ _))
    · obtain rfl : k = bs.length := by omega
      go_wp2_with fail
      go_ret
      exact ⟨by simp, hst⟩





end Go.Proofs.YtdjoigobmmaaiaaDoor

namespace Go.Proofs.YtdjoigobmmaaiaaDoor
open Go.RowKit Go.Mz
set_option linter.unusedVariables false
set_option linter.unusedSimpArgs false



theorem rbytes_any {l : List Nat} (hb : Bit l) (low : Bool) {w0 w : World} {F : SProp} (h : St w0 w F) (hm : l.length ≤ 1000000000) {s : ByteArray} (hs : s = ⟨(tx l).toArray⟩) :
    Calls Tryd.prog 33 #[.string s, .bool low] w fun e w' => e = .returned (.string ⟨(bytesB low l).toArray⟩) ∧ St w0 w' F := by
  subst hs
  have H := Lib.hid h; clear h
  have hl2 : (tx l).length = l.length := by simp
  go_enter Tryd.func33, Tryd.ntmps33
  go_wp2_with fail
  go_loopw [5, 6] (fun o i wr => ∃ k : Nat, 8 * k ≤ l.length + 7 ∧ i = .int .i64 ((8 * k : Nat) : Int) ∧ o = .string ⟨((bytesB low l).take k).toArray⟩ ∧ St w0 wr F) (fun _ i _ => l.length + 8 - (intOf i).toNat)
  case atStart => exact ⟨0, by omega, rfl, rfl, H.out⟩
  case round =>
    obtain ⟨k, hk, rfl, rfl, hst⟩ := hrel
    by_cases hkn : 8 * k < l.length
    · have HS := Lib.hid hst; clear hst
      have hwin := window l (8 * k) 8 8 (Nat.le_refl _)
      have hbx : Bit ((l.drop (8 * k) ++ List.replicate 8 0).take 8) := ((hb.drop _).append (bit_rep 8)).take 8
      have hlx : ((l.drop (8 * k) ++ List.replicate 8 0).take 8).length = 8 := by simp
      have hex : ByteArray.extract (ByteArray.extract ⟨(tx l).toArray⟩ (8 * k) l.length ++ ⟨#[48, 48, 48, 48, 48, 48, 48, 48]⟩) 0 8 = ⟨(tx ((l.drop (8 * k) ++ List.replicate 8 0).take 8)).toArray⟩ := by
        rw [ByteArray.extract_mk (tx l) (8 * k) l.length, ByteArray.mk_append_mk, ByteArray.extract_mk _ 0 8, List.drop_zero, Nat.sub_zero, ← tx_take, tx_append, ← tx_drop, List.take_of_length_le (i := l.length - 8 * k) (by simp)]
        rfl
      have HN := Lib.hid (show numB (cond low ((l.drop (8 * k) ++ List.replicate 8 0).take 8).reverse ((l.drop (8 * k) ++ List.replicate 8 0).take 8)) = byteB low l k by
        rw [hwin]; exact (numV_L low _ 8).symm)
      have HT := Lib.hid (show (bytesB low l).take (k + 1) = (bytesB low l).take k ++ [UInt8.ofNat (byteB low l k)] by
        rw [List.take_add_one, bytesB_get low l k (by omega)]; rfl)
      have hby := byteB_lt low hb k
      have HB := Lib.hid (toNat_byteB low hb k)
      have hlen : ((bytesB low l).take k).length ≤ l.length := by simp; omega
      have HX := Lib.hid hex; clear hex hwin
      generalize ((l.drop (8 * k) ++ List.replicate 8 0).take 8) = x at *
      generalize byteB low l k = y at *
      cases low
      · go_wp2_with fail
        refine (number_tx _ hbx (by omega) HX.out).mono ?_
        rintro e w2 ⟨rfl, rfl⟩
        rw [show numB x = y from HN.out]
        go_wp2_with (with_reducible (refine stop_conv 28 9 rfl ?_))
        refine on (wpList_b2s Tryd.underlying28 Tryd.underlying5 Tryd.underlying9 rfl rfl (n := 1) (reads_one wr 5 (UInt8.ofNat y) (by rw [HB.out])) ?_)
        go_wp2_with fail
        refine ⟨⟨k + 1, by omega, by go_num, ?_, HS.out.drop_alloc _⟩, by simp [intOf]; omega⟩
        rw [HT.out]
        exact congrArg Value.string (ByteArray.mk_append_mk _ _)
      · go_wp2_with fail
        refine (turn_tx _ (by omega) HX.out).mono ?_
        rintro e w2 ⟨rfl, rfl⟩
        go_wp2_with fail
        refine (number_tx _ hbx.reverse (by simp; omega) rfl).mono ?_
        rintro e w2 ⟨rfl, rfl⟩
        rw [show numB x.reverse = y from HN.out]
        go_wp2_with (with_reducible (refine stop_conv 28 9 rfl ?_))
        refine on (wpList_b2s Tryd.underlying28 Tryd.underlying5 Tryd.underlying9 rfl rfl (n := 1) (reads_one wr 5 (UInt8.ofNat y) (by rw [HB.out])) ?_)
        go_wp2_with fail
        refine ⟨⟨k + 1, by omega, by go_num, ?_, HS.out.drop_alloc _⟩, by simp [intOf]; omega⟩
        rw [HT.out]
        exact congrArg Value.string (ByteArray.mk_append_mk _ _)
    · have HS := Lib.hid hst; clear hst
      rw [List.take_of_length_le (by simp; omega)]
      go_wp2_with fail
      go_ret
      exact ⟨rfl, HS.out⟩


end Go.Proofs.YtdjoigobmmaaiaaDoor
