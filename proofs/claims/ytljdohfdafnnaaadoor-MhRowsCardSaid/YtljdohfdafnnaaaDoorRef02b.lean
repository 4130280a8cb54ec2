/-
  The document's answer for layer 2, the writing side.
-/
import Derived.Test.YtljdohfdafnnaaaDoorRef02
import Derived.Test.YtljdohfdafnnaaaDoorWrM
namespace Go.Proofs.YtljdohfdafnnaaaDoor
open Go.RowKit Go.Mz
set_option linter.unusedVariables false
set_option linter.unusedSimpArgs false


theorem ralign_any {l : List Nat} {w : World} (hm : l.length ≤ 1000000000) {s : ByteArray} (hs : s = ⟨(tx l).toArray⟩) :
    Calls Tryd.prog 38 #[.string s] w fun e w' => e = .returned (.string ⟨(tx (alignL l)).toArray⟩) ∧ w = w' := by
  subst hs
  go_enter Tryd.func38, Tryd.ntmps38
  go_wp2_with fail
  go_loopg [0] ((8 - l.length % 8) % 8) (fun g u wr => ∃ k : Nat, k + g = (8 - l.length % 8) % 8 ∧ u = .string ⟨(tx (l ++ List.replicate k 0)).toArray⟩ ∧ wr = w)
  case atStart => exact ⟨0, by omega, by simp, rfl⟩
  case round =>
    obtain ⟨k, hk, rfl, rfl⟩ := hrel
    have hlen : (tx (l ++ List.replicate k 0)).length = l.length + k := by simp
    by_cases hg : gk = 0
    · subst hg
      have h8 : (((l.length : Int) + k) % 8 != 0) = false := by
        have : (((l.length : Int) + k) % 8) = 0 := by omega
        rw [this]; rfl
      have HK := Lib.hid (show k = (8 - l.length % 8) % 8 by omega); clear hk
      go_wp2_with fail
      go_ret
      refine ⟨?_, rfl⟩
      unfold alignL
      rw [← HK.out]
      rfl
    · have h8 : (((l.length : Int) + k) % 8 != 0) = true := by
        rw [bne_iff_ne]; omega
      have hk2 : k + 1 + (gk - 1) = (8 - l.length % 8) % 8 := by omega
      have hk3 : k ≤ 7 := by omega
      have HK := Lib.hid hk2; clear hk hk2
      go_wp2_with fail
      go_roundg (gk - 1)
      case measure => omega
      case rel =>
        refine ⟨k + 1, HK.out, ?_, rfl⟩
        refine (congrArg Value.string (ByteArray.mk_append_mk (tx (l ++ List.replicate k 0)) [48])).trans ?_
        rw [List.replicate_succ', ← List.append_assoc, tx_append (l ++ _)]
        rfl

theorem rbytes_any {l : List Nat} (hb : Bit l) (low : Bool) {w0 w : World} {F : SProp} (h : St w0 w F) (hm : l.length ≤ 1000000000) {s : ByteArray} (hs : s = ⟨(tx l).toArray⟩) :
    Calls Tryd.prog 24 #[.string s, .bool low] w fun e w' => e = .returned (.string ⟨(bytesB low l).toArray⟩) ∧ St w0 w' F := by
  subst hs
  have H := Lib.hid h; clear h
  have hl2 : (tx l).length = l.length := by simp
  go_enter Tryd.func24, Tryd.ntmps24
  go_wp2_with fail
  go_loopw [5, 6] (fun o i wr => ∃ k : Nat, 8 * k ≤ l.length + 7 ∧ i = .int .i64 ((8 * k : Nat) : Int) ∧ o = .string ⟨((bytesB low l).take k).toArray⟩ ∧ St w0 wr F) (fun _ i _ => l.length + 8 - (intOf i).toNat)
  case atStart => exact ⟨0, by omega, rfl, rfl, H.out⟩
  case round =>
    obtain ⟨k, hk, rfl, rfl, hst⟩ := hrel
    by_cases hkn : 8 * k < l.length
    · have HS := Lib.hid hst; clear hst
      have hwin := window l (8 * k) 8 8 (Nat.le_refl _)
      have hbx : Bit ((l.drop (8 * k) ++ List.replicate 8 0).take 8) := ((hb.drop _).append (bit_rep 8)).take 8
      have hlx : ((l.drop (8 * k) ++ List.replicate 8 0).take 8).length = 8 := by simp
      have hex : ByteArray.extract (ByteArray.extract ⟨(tx l).toArray⟩ (8 * k) l.length ++ ⟨#[48, 48, 48, 48, 48, 48, 48, 48]⟩) 0 8 = ⟨(tx ((l.drop (8 * k) ++ List.replicate 8 0).take 8)).toArray⟩ := by
        rw [ByteArray.extract_mk (tx l) (8 * k) l.length, ByteArray.mk_append_mk, ByteArray.extract_mk _ 0 8, List.drop_zero, Nat.sub_zero, ← tx_take, tx_append, ← tx_drop, List.take_of_length_le (i := l.length - 8 * k) (by simp)]
        rfl
      have HN := Lib.hid (show numB (cond low ((l.drop (8 * k) ++ List.replicate 8 0).take 8).reverse ((l.drop (8 * k) ++ List.replicate 8 0).take 8)) = byteB low l k by
        rw [hwin]; exact (numV_L low _ 8).symm)
      have HT := Lib.hid (show (bytesB low l).take (k + 1) = (bytesB low l).take k ++ [UInt8.ofNat (byteB low l k)] by
        rw [List.take_add_one, bytesB_get low l k (by omega)]; rfl)
      have hby := byteB_lt low hb k
      have HB := Lib.hid (toNat_byteB low hb k)
      have hlen : ((bytesB low l).take k).length ≤ l.length := by simp; omega
      have HX := Lib.hid hex; clear hex hwin
      generalize ((l.drop (8 * k) ++ List.replicate 8 0).take 8) = x at *
      generalize byteB low l k = y at *
      cases low
      · go_wp2_with fail
        refine (number_tx _ hbx (by omega) HX.out).mono ?_
        rintro e w2 ⟨rfl, rfl⟩
        rw [show numB x = y from HN.out]
        go_wp2_with (with_reducible (refine stop_conv 22 9 rfl ?_))
        refine on (wpList_b2s Tryd.underlying22 Tryd.underlying5 Tryd.underlying9 rfl rfl (n := 1) (reads_one wr 5 (UInt8.ofNat y) (by rw [HB.out])) ?_)
        go_wp2_with fail
        refine ⟨⟨k + 1, by omega, by go_num, ?_, HS.out.drop_alloc _⟩, by simp [intOf]; omega⟩
        rw [HT.out]
        exact congrArg Value.string (ByteArray.mk_append_mk _ _)
      · go_wp2_with fail
        refine (turn_tx _ (by omega) HX.out).mono ?_
        rintro e w2 ⟨rfl, rfl⟩
        go_wp2_with fail
        refine (number_tx _ hbx.reverse (by simp; omega) rfl).mono ?_
        rintro e w2 ⟨rfl, rfl⟩
        rw [show numB x.reverse = y from HN.out]
        go_wp2_with (with_reducible (refine stop_conv 22 9 rfl ?_))
        refine on (wpList_b2s Tryd.underlying22 Tryd.underlying5 Tryd.underlying9 rfl rfl (n := 1) (reads_one wr 5 (UInt8.ofNat y) (by rw [HB.out])) ?_)
        go_wp2_with fail
        refine ⟨⟨k + 1, by omega, by go_num, ?_, HS.out.drop_alloc _⟩, by simp [intOf]; omega⟩
        rw [HT.out]
        exact congrArg Value.string (ByteArray.mk_append_mk _ _)
    · have HS := Lib.hid hst; clear hst
      rw [List.take_of_length_le (by simp; omega)]
      go_wp2_with fail
      go_ret
      exact ⟨rfl, HS.out⟩

end Go.Proofs.YtljdohfdafnnaaaDoor