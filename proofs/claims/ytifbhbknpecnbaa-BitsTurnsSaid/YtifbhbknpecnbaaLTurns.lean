/-
  Layer 2: bytes whose bits are turned round; turned twice they are as they were; and nil readers and writers.
-/
import Derived.Test.YtifbhbknpecnbaaNil
import Derived.Test.YtifbhbknpecnbaaLBase
import Derived.Test.YtifbhbknpecnbaaRef02
import Derived.Deep.RegionWith
import Derived.Deep.RegionHeld3
import Derived.Deep.Cut
import Derived.Deep.CutRange
namespace Go.Proofs.Ytifbhbknpecnbaa.turns
open Go.RowKit Go.Mz
set_option linter.unusedVariables false
set_option linter.unusedSimpArgs false

theorem wordB_rev (c : UInt8) : wordB (revB c).toNat 8 = (wordB c.toNat 8).reverse := by
  rw [revB_toNat]
  have h := wordB_num (wordB c.toNat 8).reverse (bit_wordB _ _).reverse
  simpa using h
theorem revB_revB (c : UInt8) : revB (revB c) = c := by
  apply UInt8.toNat_inj.1
  rw [revB_toNat, wordB_rev, List.reverse_reverse, numB_wordB]
  exact Nat.mod_eq_of_lt (UInt8.toNat_lt c)

set_option maxRecDepth 100000 in
set_option maxHeartbeats 40000000 in
theorem walk (vb : Value) (bs : List UInt8) (n : Int) (w : World) (hb : Reads w 1 vb bs.length (bs.map bv)) :
    Calls Try.prog 8 #[vb, .int .i64 n] w fun e w' => e = .returned (.bool true) ∧ Below w.heap.size w w' := by
  have HB := Lib.hid (Stb.of_old hb)
  obtain ⟨a1, c1, rfl⟩ := hb.sub
  have hm := hb.len_le
  unfold maxLen at hm
  clear hb
  have H := Lib.hid (St.init w)
  have fin : ∀ w', St w w' (old w) → Below w.heap.size w w' := fun w' h => (h.perm ((emp_star _).symm.trans (star_comm _ _))).below
  have FIN := Lib.hid fin; clear fin
  by_cases hn : 300 < bs.length
  · have hn1 : 300 < (bs.length : Int) := by omega
    go_enter Try.func8, Try.ntmps8
    go_wp2_with fail
    refine (lives02 H.out).mono ?_
    rintro e w1 ⟨rfl, h2⟩
    have H2 := Lib.hid h2; clear h2
    go_wp2_with fail
    refine (lives02 H2.out).mono ?_
    rintro e w2 ⟨rfl, h3⟩
    have H3 := Lib.hid h3; clear h3
    go_wp2_with fail
    go_ret
    exact ⟨rfl, FIN.out _ H3.out⟩
  have hn1 : ¬ 300 < (bs.length : Int) := by omega
  have hl3 : (bs.map revB).length = bs.length := by simp
  go_enter Try.func8, Try.ntmps8
  go_wp2_with fail
  refine (lives02 H.out).mono ?_
  rintro e w1 ⟨rfl, h2⟩
  have H2 := Lib.hid h2; clear h2
  go_wp2_with fail
  refine (reverseAll_any H2.out bs HB.out (by omega)).mono ?_
  rintro e w2 ⟨vr, rfl, h3⟩
  rw [hl3] at h3
  obtain ⟨ar, cr, rfl⟩ := h3.reads.sub
  have H3 := Lib.hid h3; clear h3 hl3
  have K := fun (W : World) (v : Value) (n : Nat) (bs : List UInt8) (hr : Reads W 1 v n (bs.map bv)) => run_b2s (P := Try.prog) Try.underlying22 Try.underlying5 Try.underlying9 hr
  have HK := Lib.hid K; clear K
  have HRR := Lib.hid (show (bs.map revB).map revB = bs by
    rw [List.map_map]
    conv => rhs; rw [← List.map_id bs]
    exact List.map_congr_left fun c _ => revB_revB c)
  have C := (reverseAll_any H3.out.drew (bs.map revB) (v := .slice ar bs.length cr) (by rw [List.length_map]; exact Stb.of_own) (by simp; omega))
  rw [HRR.out] at C
  have HC := Lib.hid C; clear C
  have HB2 := Lib.hid (fun W (h : St w W (old w)) => HK.out _ _ _ _ (HB.out W h))
  have HK2 := Lib.hid (fun W v h => HK.out W v bs.length bs h)
  go_wp2_with fail
  go_cut [37] from 25 to 37 (fun b wx => b = .bool false ∧ St w wx (own 5 1 (.slice ar bs.length cr) bs.length ((bs.map revB).map bv) * old w))
  case first =>
    have q0 := HK.out _ _ _ _ (HB.out _ H3.out.right.drew)
    generalize hN : bs.length = N at *
    have HN := Lib.hid hN; clear hN
    go_region_with (first | (go_at_call 30; refine HC.out.mono ?_; rintro e w3 ⟨vq, rfl, h4⟩; have q1 := HK2.out _ _ h4.reads; have q2 := HB2.out _ h4.right.right; obtain ⟨aq, cq, rfl⟩ := h4.reads.sub; have H4 := Lib.hid h4.right; clear h4))
    all_goals
      first
      | (go_meet; exact ⟨rfl, H4.out⟩)
      | (go_simp; go_meet; exact ⟨rfl, H4.out⟩)
      | (go_wp2_with fail; go_meet; exact ⟨rfl, H4.out⟩)
      | (simp only [List.getElem_toArray, List.getElem_cons_succ, List.getElem_cons_zero, Act.put]; go_wp2_with fail; go_meet; exact ⟨rfl, H4.out⟩)
  case rest =>
    obtain ⟨rfl, h4⟩ := hcut
    have H4 := Lib.hid h4; clear h4
    clear HC HB2 HK2 HRR HK
    go_wp2_with fail
    go_loopw [40] (fun i wr => ∃ k : Nat, k ≤ bs.length ∧ i = .int .i64 k ∧ St w wr (own 5 1 (.slice ar bs.length cr) bs.length ((bs.map revB).map bv) * old w)) (fun i _ => bs.length - (intOf i).toNat)
    case atStart => exact ⟨0, Nat.zero_le _, rfl, H4.out⟩
    case round =>
      obtain ⟨k, hk, rfl, hst⟩ := hrel
      by_cases hkn : k < bs.length
      · obtain ⟨g, rfl⟩ := own_at hst (by omega)
        obtain ⟨b, off, rfl, hc⟩ := (HB.out _ hst.right).at_ hkn
        have hc' : (bs.map bv)[k]? = some (.int .u8 ((bs.getD k 0).toNat : Int)) := by simp [hkn, bv]
        rw [hc'] at hc
        clear hc'
        have hx := hst.own_cell (i := k) (u := .int .u8 ((revB (bs.getD k 0)).toNat : Int)) (by simp [hkn, bv])
        have hc8 : (bs.getD k 0).toNat < 256 := UInt8.toNat_lt _
        have hr8 : (revB (bs.getD k 0)).toNat < 256 := UInt8.toNat_lt _
        have hw8 := wordB_rev (bs.getD k 0)
        have R := Lib.hid (fun W => (show Calls Try.prog 33 #[.int .u8 ((bs.getD k 0).toNat : Int)] W fun e w' => e = .returned (.int .u8 ((revB (bs.getD k 0)).toNat : Int)) ∧ W = w' by rw [revB_N]; exact reverse_any _ hc8))
        have HXX := Lib.hid (show Option.map bv (Option.map revB bs[k]?) = some (.int .u8 ((revB (bs.getD k 0)).toNat : Int)) by simp [hkn, bv])
        generalize (revB (bs.getD k 0)).toNat = r at *
        generalize (bs.getD k 0).toNat = c at *
        have hwr : IntKind.u32.wrap (r : Int) = r := by rw [IntKind.wrap_u32']; omega
        have hwc : IntKind.u32.wrap (c : Int) = c := by rw [IntKind.wrap_u32']; omega
        have hk0 : (0 : Int) ≤ k := by omega
        have hk1 : (k : Int) < bs.length := by omega
        have HST := Lib.hid hst; clear hst
        go_wp2_with fail
        go_region_held3 (fun w' => w'.cell? ⟨g, k, none⟩ = some (.int .u8 r))
          (first | exact y1 | exact x1 | go_keep)
          (first | (go_at_call 31; refine (word_any c 8 HA1.out (by omega) rfl (by omega) (by omega)).mono ?_; rintro e wb ⟨rfl, hb⟩; have y1 := hb.own_cell (i := k) (u := .int .u8 r) (by rw [List.getElem?_map, List.getElem?_map]; exact HXX.out); have HB1 := Lib.hid hb; clear hb) | (go_at_call 31; refine (word_any r 8 HST.out.drew (by omega) rfl (by omega) (by omega)).mono ?_; rintro e wa ⟨rfl, ha⟩; have x1 := ha.own_cell (i := k) (u := .int .u8 r) (by rw [List.getElem?_map, List.getElem?_map]; exact HXX.out); have HA1 := Lib.hid ha; clear ha) | (go_at_call 32; refine (turn_tx _ (by simp) rfl).mono ?_; rintro e wc ⟨rfl, rfl⟩) | (go_at_call 33; refine (R.out _).mono ?_; rintro e wd ⟨rfl, rfl⟩))
        go_wp2_with fail
        go_roundw
        case rel => exact ⟨k + 1, by omega, by go_num, HB1.out⟩
        case measure => simp [intOf]; omega
      · obtain rfl : k = bs.length := by omega
        have HST := Lib.hid hst.right; clear hst H4
        have HRI := Lib.hid (show (rdI [] false 0 n).1 = 0 ∧ (rdI [] false 0 n).2.1 = 0 by
          unfold rdI
          split
          · exact ⟨rfl, rfl⟩
          · split
            · exact ⟨rfl, rfl⟩
            · have : n.toNat = 0 := by simp at *; omega
              rw [this]; exact ⟨rfl, rfl⟩)
        go_wp2_with fail
        refine align_nil.mono ?_
        rintro e w' ⟨rfl, rfl⟩
        go_wp2_with fail
        refine walign_nil.mono ?_
        rintro e w' ⟨rfl, rfl⟩
        go_wp2_with fail
        refine (read_nil n).mono ?_
        rintro e w' ⟨rfl, rfl⟩
        go_wp2_with fail
        refine (rread_all (l := []) (fun b hb => by cases hb) 0 n false _ (Nat.le_refl _) (by decide) rfl rfl).mono ?_
        rintro e w' ⟨rfl, rfl⟩
        rw [HRI.out.1, HRI.out.2]
        generalize (rdI [] false 0 n).2.2 = x
        go_wp2_with (first | (go_at_call 11; refine at_nil.mono ?_; rintro e w' ⟨rfl, rfl⟩) | (go_at_call 12; refine left_nil.mono ?_; rintro e w' ⟨rfl, rfl⟩) | (go_at_call 27; refine wlen_nil.mono ?_; rintro e w' ⟨rfl, rfl⟩) | (go_at_call 28; refine wbytes_nil.mono ?_; rintro e w' ⟨rfl, rfl⟩) | (go_at_call 22; refine wwrite_nil.mono ?_; rintro e w' ⟨rfl, rfl⟩))
        refine (wword_nil [49] (by decide) rfl).mono ?_
        rintro e w' ⟨rfl, rfl⟩
        go_wp2_with fail
        refine (word_bad _ [120] (by unfold maxLen; decide) rfl).mono ?_
        rintro e w' ⟨rfl, rfl⟩
        go_wp2_with fail
        go_ret
        exact ⟨rfl, FIN.out _ HST.out⟩
end Go.Proofs.Ytifbhbknpecnbaa.turns
