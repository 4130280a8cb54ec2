/-
  The writer of bits, more: a text's bits, filling up, what was written; bytes turned round.
-/
import Derived.Test.YtljdohfdafnnaaaDoorWr
import Derived.Deep.LoopGhost
namespace Go.Proofs.YtljdohfdafnnaaaDoor
open Go.RowKit Go.Mz
set_option linter.unusedVariables false
set_option linter.unusedSimpArgs false


theorem len_any {w0 w : World} {B : Nat} {l : List Nat} {low : Bool} {F : SProp} (h : St w0 w (wrt B l low * F)) :
    Calls Tryd.prog 22 #[.pointer (some ⟨B, 0, none⟩)] w fun e w' => e = .returned (.int .i64 l.length) ∧ w = w' := by
  obtain ⟨_, _, v, h⟩ := wrt_open h
  have c1 : w.cell? ⟨B, 1, none⟩ = some (.int .i64 (l.length : Int)) := h.cell 1 rfl
  clear h
  go_enter Tryd.func22, Tryd.ntmps22
  go_wp2_with fail
  go_ret
  exact ⟨rfl, rfl⟩

theorem bytes_any {w0 w : World} {B : Nat} {l : List Nat} {low : Bool} {F : SProp} (h : St w0 w (wrt B l low * F)) :
    Calls Tryd.prog 23 #[.pointer (some ⟨B, 0, none⟩)] w fun e w' => ∃ v, e = .returned v ∧ St w0 w' (own 5 1 v ((l.length + 7) / 8) ((bytesB low l).map bv) * (wrt B l low * F)) := by
  obtain ⟨hb, hm, v, h⟩ := wrt_open h
  have c0 : w.cell? ⟨B, 0, none⟩ = some v := h.cell 0 rfl
  obtain ⟨a, cap, rfl⟩ := h.right.reads.sub
  have T := elemBytes
  have c0' : (w.alloc (.cells #[] 5)).cell? ⟨B, 0, none⟩ = some (.slice a ((l.length + 7) / 8) cap) := by
    rw [World.cell?_alloc_lt _ _ _ h.lt]; exact c0
  have H := Lib.hid h; clear h
  go_enter Tryd.func23, Tryd.ntmps23
  go_wp2_with (at_builtin; apply stop)
  refine on (wpList_append_sep T rfl _ _ rfl rfl (St.own_blk (e := 5) (size := 1) (n := 0) (cap := 0) (xs := []) (H.out.alloc (.cells #[] 5)) (Nat.le_refl _) (Nat.zero_le _) rfl rfl) rfl ((H.out.drop_alloc _).right.reads) (bv_oneCell _) ?_ ?_ ?_)
  · unfold maxLen; omega
  · omega
  intro v' w3 h4 _
  simp only [Nat.zero_add, List.nil_append] at h4
  obtain ⟨a', cap', rfl⟩ := h4.reads.sub
  have H4 := Lib.hid h4; clear h4
  go_wp2_with fail
  go_ret
  refine ⟨_, rfl, ?_⟩
  have := wrt_shut hb hm (F := own 5 1 (.slice a' ((l.length + 7) / 8) cap') ((l.length + 7) / 8) ((bytesB low l).map bv) * F) (H4.out.perm (by ac_rfl))
  exact this.perm (by ac_rfl)

theorem word_bad {w : World} (p : Value) (s : List UInt8) (hs : s.length ≤ maxLen) (hd : digB s = false) :
    Calls Tryd.prog 82 #[p, .string ⟨s.toArray⟩] w fun e w' => e = .returned (.int .i64 3) ∧ w = w' := by
  unfold maxLen at hs
  have HD := Lib.hid hd; clear hd
  go_enter Tryd.func82, Tryd.ntmps82
  go_wp2_with fail
  go_loop [9] (fun i => ∃ k : Nat, k ≤ s.length ∧ i = .int .i64 k ∧ digB (s.take k) = true) (fun i => s.length - (intOf i).toNat)
  case atStart => exact ⟨0, Nat.zero_le _, rfl, rfl⟩
  case round =>
    obtain ⟨k, hk, rfl, hdk⟩ := hrel
    by_cases hkn : k < s.length
    · have hg := List.getElem?_eq_getElem hkn
      have G := fun h => ba_get hg h; clear hg
      by_cases hc : s[k] = 48 ∨ s[k] = 49
      · have HN := Lib.hid (digB_split s k hkn hdk hc); clear hdk
        generalize s[k] = c at *
        rcases hc with rfl | rfl
        all_goals
          go_wp2_with fail
          refine ⟨⟨k + 1, by omega, by go_num, HN.out⟩, by simp [intOf]; omega⟩
      · have n1 : ((s[k].toNat : Int) != 48) = true := byte_ne (d := 48) (fun e => hc (.inl e))
        have n2 : ((s[k].toNat : Int) != 49) = true := byte_ne (d := 49) (fun e => hc (.inr e))
        clear hc hdk
        generalize s[k] = c at *
        go_wp2_with fail
        go_ret
        exact ⟨rfl, rfl⟩
    · obtain rfl : k = s.length := by omega
      rw [List.take_length, HD.out] at hdk
      cases hdk

theorem word_ok {w0 w : World} {B : Nat} {l : List Nat} {low : Bool} {F : SProp} (h : St w0 w (wrt B l low * F)) (s : List UInt8) (hs : s.length ≤ 1000000000000) (hd : digB s = true) (hm : l.length + s.length ≤ 100000000000000) :
    Calls Tryd.prog 82 #[.pointer (some ⟨B, 0, none⟩), .string ⟨s.toArray⟩] w fun e w' => e = .returned (.int .i64 0) ∧ St w0 w' (wrt B (l ++ unTx s) low * F) := by
  have HC := Lib.hid (show ∀ c ∈ s, c = 48 ∨ c = 49 by simpa [digB] using hd)
  have H := Lib.hid h; clear h hd
  go_enter Tryd.func82, Tryd.ntmps82
  go_wp2_with fail
  go_loop [9] (fun i => ∃ k : Nat, k ≤ s.length ∧ i = .int .i64 k) (fun i => s.length - (intOf i).toNat)
  case atStart => exact ⟨0, Nat.zero_le _, rfl⟩
  case round =>
    obtain ⟨k, hk, rfl⟩ := hrel
    by_cases hkn : k < s.length
    · have hg := List.getElem?_eq_getElem hkn
      have G := fun h => ba_get hg h; clear hg
      have hc := HC.out s[k] (by simp)
      generalize s[k] = c at *
      rcases hc with rfl | rfl
      all_goals
        go_wp2_with fail
        refine ⟨⟨k + 1, by omega, by go_num⟩, by simp [intOf]; omega⟩
    · obtain rfl : k = s.length := by omega
      go_wp2_with fail
      go_loopw [27] (fun i wr => ∃ k : Nat, k ≤ s.length ∧ i = .int .i64 k ∧ St w0 wr (wrt B (l ++ unTx (s.take k)) low * F)) (fun i _ => s.length - (intOf i).toNat)
      case atStart => exact ⟨0, Nat.zero_le _, rfl, by simpa [unTx] using H.out⟩
      case round =>
        obtain ⟨k, hk, rfl, hst⟩ := hrel
        by_cases hkn : k < s.length
        · have hg := List.getElem?_eq_getElem hkn
          have G := fun h => ba_get hg h; clear hg
          have hc := HC.out s[k] (by simp)
          have HT := Lib.hid (show unTx (s.take (k + 1)) = unTx (s.take k) ++ [s[k].toNat - 48] by unfold unTx; rw [List.take_succ_eq_append_getElem hkn, List.map_append]; rfl)
          have hle : (unTx (s.take k)).length ≤ k := by simp; omega
          have HS := Lib.hid hst; clear hst
          generalize s[k] = c at *
          rcases hc with rfl | rfl
          · go_wp2_with fail
            refine (put_any HS.out 0 rfl (by omega) (by simp; omega)).mono ?_
            rintro e w' ⟨rfl, h⟩
            rw [List.append_assoc, ← show unTx (s.take (k + 1)) = _ ++ [0] from HT.out] at h
            have H2 := Lib.hid h; clear h
            go_wp2_with fail
            go_roundw
            case rel => exact ⟨k + 1, by omega, by go_num, H2.out⟩
            case measure => simp [intOf]; omega
          · go_wp2_with fail
            refine (put_any HS.out 1 rfl (by omega) (by simp; omega)).mono ?_
            rintro e w' ⟨rfl, h⟩
            rw [List.append_assoc, ← show unTx (s.take (k + 1)) = _ ++ [1] from HT.out] at h
            have H2 := Lib.hid h; clear h
            go_wp2_with fail
            go_roundw
            case rel => exact ⟨k + 1, by omega, by go_num, H2.out⟩
            case measure => simp [intOf]; omega
        · obtain rfl : k = s.length := by omega
          rw [List.take_length] at hst
          have HS := Lib.hid hst; clear hst
          go_wp2_with fail
          go_ret
          exact ⟨rfl, HS.out⟩

theorem walign_any {w0 w : World} {B : Nat} {l : List Nat} {low : Bool} {F : SProp} (h : St w0 w (wrt B l low * F)) (hm : l.length + 8 ≤ 100000000000000) :
    Calls Tryd.prog 37 #[.pointer (some ⟨B, 0, none⟩)] w fun e w' => e = .returned (.tuple #[]) ∧ St w0 w' (wrt B (alignL l) low * F) := by
  have H := Lib.hid h; clear h
  go_enter Tryd.func37, Tryd.ntmps37
  go_wp2_with fail
  go_loopg [11] ((8 - l.length % 8) % 8) (fun g u wr => ∃ k : Nat, k + g = (8 - l.length % 8) % 8 ∧ St w0 wr (wrt B (l ++ List.replicate k 0) low * F))
  case atStart => exact ⟨0, by omega, by simpa using H.out⟩
  case round =>
    obtain ⟨k, hk, hst⟩ := hrel
    obtain ⟨_, _, v, hb⟩ := wrt_open hst
    have c1 : wr.cell? ⟨B, 1, none⟩ = some (.int .i64 ((l.length + k : Nat) : Int)) := by rw [hb.cell 1 rfl]; simp
    have HS := Lib.hid hst; clear hst hb
    by_cases hg : gk = 0
    · subst hg
      have h8 : (((l.length + k : Nat) : Int) % 8 != 0) = false := by
        have : (((l.length + k : Nat) : Int) % 8) = 0 := by omega
        rw [this]; rfl
      have HK := Lib.hid (show k = (8 - l.length % 8) % 8 by omega); clear hk
      generalize l.length + k = n at *
      go_wp2_with fail
      go_end0
      refine ⟨rfl, ?_⟩
      unfold alignL
      rw [← HK.out]
      exact HS.out
    · have h8 : (((l.length + k : Nat) : Int) % 8 != 0) = true := by
        rw [bne_iff_ne]; omega
      have hk2 : k + 1 + (gk - 1) = (8 - l.length % 8) % 8 := by omega
      have hk3 : k ≤ 7 := by omega
      have HK := Lib.hid hk2; clear hk hk2
      generalize hn : l.length + k = n at *
      clear hn
      go_wp2_with fail
      refine (put_any HS.out 0 rfl (by omega) (by simp; omega)).mono ?_
      rintro e w' ⟨rfl, h⟩
      rw [List.append_assoc, ← List.replicate_succ'] at h
      have H2 := Lib.hid h; clear h
      go_wp2_with fail
      go_roundg (gk - 1)
      case measure => omega
      case rel => exact ⟨k + 1, HK.out, H2.out⟩
end Go.Proofs.YtljdohfdafnnaaaDoor
