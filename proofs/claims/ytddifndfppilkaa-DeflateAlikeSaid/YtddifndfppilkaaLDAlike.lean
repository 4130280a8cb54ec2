/-
  Layer 10: in each of the three ways a text is told, and read as it is, whatever stands behind it; less room than it takes isn't enough.
-/
import Derived.Test.YtddifndfppilkaaDefN
import Derived.Test.YtddifndfppilkaaInfH
namespace Go.Proofs.Ytddifndfppilkaa.dalike
open Go.RowKit Go.Mz
set_option linter.unusedVariables false
set_option linter.unusedSimpArgs false
set_option maxRecDepth 100000

set_option maxHeartbeats 40000000 in
theorem walk (vb : Value) (bs : List UInt8) (vt : Value) (ts : List UInt8) (w : World) (hb : Reads w 1 vb bs.length (bs.map bv)) (ht : Reads w 1 vt ts.length (ts.map bv)) :
    Calls Try.prog 7 #[vb, vt] w fun e w' => e = .returned (.bool true) ∧ Below w.heap.size w w' := by
  have HB := Lib.hid (Stb.of_old hb); have HT := Lib.hid (Stb.of_old ht)
  obtain ⟨a1, c1, rfl⟩ := hb.sub
  obtain ⟨at1, ct1, rfl⟩ := ht.sub
  have hm := hb.len_le
  have hmt := ht.len_le
  unfold maxLen at hm hmt
  clear hb ht
  have H := Lib.hid (St.init w)
  have fin : ∀ w', St w w' (Mz.old w) → Below w.heap.size w w' := fun w' h => (h.perm ((emp_star _).symm.trans (star_comm _ _))).below
  have FIN := Lib.hid fin; clear fin
  by_cases hl6 : 2000 < bs.length
  · have hl7 : 2000 < (bs.length : Int) := by omega
    go_enter Try.func7, Try.ntmps7
    go_wp2_with fail
    refine (lives10 H.out).mono ?_
    rintro e w1 ⟨rfl, h2⟩
    have H2 := Lib.hid h2; clear h2
    go_wp2_with fail
    refine (lives10 H2.out).mono ?_
    rintro e w2 ⟨rfl, h3⟩
    have H3 := Lib.hid h3; clear h3
    go_wp2_with fail
    go_ret
    exact ⟨rfl, FIN.out _ H3.out⟩
  have hl7 : ¬ 2000 < (bs.length : Int) := by omega
  by_cases ht6 : 100 < ts.length
  · have ht7 : 100 < (ts.length : Int) := by omega
    go_enter Try.func7, Try.ntmps7
    go_wp2_with fail
    refine (lives10 H.out).mono ?_
    rintro e w1 ⟨rfl, h2⟩
    have H2 := Lib.hid h2; clear h2
    go_wp2_with fail
    refine (lives10 H2.out).mono ?_
    rintro e w2 ⟨rfl, h3⟩
    have H3 := Lib.hid h3; clear h3
    go_wp2_with fail
    go_ret
    exact ⟨rfl, FIN.out _ H3.out⟩
  have ht7 : ¬ 100 < (ts.length : Int) := by omega
  have T := elemBytes
  obtain ⟨nb, hnb⟩ : ∃ nb, bs.length = nb := ⟨_, rfl⟩
  obtain ⟨nt, hnt⟩ : ∃ nt, ts.length = nt := ⟨_, rfl⟩
  rw [hnb] at HB hm hl6 hl7
  rw [hnt] at HT hmt ht6 ht7
  simp only [hnb, hnt]
  have HNB := Lib.hid hnb; have HNT := Lib.hid hnt
  clear hnb hnt
  go_enter Try.func7, Try.ntmps7
  go_wp2_with fail
  refine (lives10 H.out).mono ?_
  rintro e w1 ⟨rfl, h2⟩
  have H2 := Lib.hid h2; clear h2 H
  go_wp2_with fail
  go_loopw [27] (fun i wr => ∃ k : Nat, k ≤ 3 ∧ i = .int .i64 k ∧ St w wr (Mz.old w)) (fun i _ => 3 - (intOf i).toNat)
  case atStart => exact ⟨0, by omega, rfl, H2.out⟩
  case round =>
    clear H2
    obtain ⟨k, hk, rfl, hst⟩ := hrel
    by_cases hk3 : k < 3
    · have hkI : (k : Int) < 3 := by omega
      have HD := Lib.hid (deflate_any hst (b := bs) (by rw [HNB.out]; omega) (v := .slice a1 nb c1) (by rw [HNB.out]; exact HB.out) (how := k) (by omega))
      clear hst
      go_wp2_with (go_at_call 11; apply stop)
      refine on ?_
      refine HD.out.mono ?_
      rintro e w2 ⟨v2, x, rfl, hx, hxl, h3⟩
      obtain ⟨nn, hdone⟩ := hx.done
      have hinf := fun ex most => hdone.infl ex most
      have hXl := length_bytesB true x
      obtain ⟨X, hX⟩ : ∃ X, bytesB true x = X := ⟨_, rfl⟩
      rw [hX] at h3 hinf hXl
      rw [← hXl] at h3
      have hXm : X.length ≤ 200000000 := by rw [hXl]; omega
      have HINF := Lib.hid hinf
      obtain ⟨nX, hnX⟩ : ∃ nX, X.length = nX := ⟨_, rfl⟩
      rw [hnX] at h3 hXm
      have HNX := Lib.hid hnX
      obtain ⟨a3, c3, rfl⟩ := h3.reads.sub
      have H3 := Lib.hid h3
      clear h3 hx hdone hinf hXl hX hnX HD hxl
      go_wp2_with (at_builtin; apply stop)
      refine on (wpList_append_sep T rfl _ _ rfl rfl (St.own_blk (e := 5) (size := 1) (n := 0) (cap := 0) (xs := []) (H3.out.alloc (.cells #[] 5)) (Nat.le_refl _) (Nat.zero_le _) rfl rfl) rfl ((H3.out.drop_alloc _).reads) (bv_oneCell X) (by unfold maxLen; omega) (by omega) ?_)
      intro v4 w4 h4 _
      rw [List.nil_append, Nat.zero_add] at h4
      obtain ⟨a4, c4, rfl⟩ := h4.reads.sub
      have H4 := Lib.hid h4
      clear h4
      go_wp2_with (at_builtin; apply stop)
      refine on (wpList_append_sep T rfl _ _ rfl rfl H4.out rfl (HT.out _ H4.out.right.right) (bv_oneCell ts) (by unfold maxLen; omega) (by omega) ?_)
      intro v6 w6 h6 _
      rw [← List.map_append] at h6
      obtain ⟨a6, c6, rfl⟩ := h6.reads.sub
      have hlenT : (X ++ ts).length = nX + nt := by rw [List.length_append, HNX.out, HNT.out]
      have C := inflate_any h6 (X ++ ts) (nb : Int) (by rw [hlenT]; omega) (by omega) (vb := .slice a6 (nX + nt) c6) (by rw [hlenT]; exact Stb.of_own)
      rw [HINF.out ts (nb : Int), if_neg (by omega), if_neg (by rw [HNB.out]; omega), HNX.out] at C
      have HC := Lib.hid C
      clear C h6 hlenT H4 H3
      go_wp2_with (go_at_call 14; apply stop)
      refine on ?_
      refine HC.out.mono ?_
      rintro e w7 ⟨v7, n7, x7, rfl, h7⟩
      obtain ⟨hn7, rfl, h7⟩ := h7
      rw [hn7]
      clear hn7 n7
      rw [HNB.out] at h7
      obtain ⟨a8, c8, rfl⟩ := h7.reads.sub
      have q1 : (convert 22 9 (.slice a8 nb c8)).run Try.prog w7 = .ok (.string ⟨bs.toArray⟩) w7 := run_b2s (P := Try.prog) Try.underlying22 Try.underlying5 Try.underlying9 h7.reads
      have q2 : (convert 22 9 (.slice a1 nb c1)).run Try.prog w7 = .ok (.string ⟨bs.toArray⟩) w7 := run_b2s (P := Try.prog) Try.underlying22 Try.underlying5 Try.underlying9 (HB.out _ h7.right.right.right)
      have h8 := h7.right.right
      have C2 := inflate_any h8 X ((nb : Int) - 1) (by rw [HNX.out]; omega) (by omega) (vb := .slice a3 nX c3) (by rw [HNX.out]; exact Stb.of_own)
      have hi2 := HINF.out [] ((nb : Int) - 1)
      rw [List.append_nil] at hi2
      rw [hi2] at C2
      clear h7 HC hi2 h8
      by_cases hz : nb = 0
      · rw [if_pos (by omega)] at C2
        have hzI : ¬ (0 : Int) < nb := by omega
        have hzN : ¬ 0 < nb := by omega
        have HC2 := Lib.hid C2
        clear C2 hz
        go_wp2_with (go_at_call 14; apply stop)
        refine on ?_
        refine HC2.out.mono ?_
        rintro e w9 ⟨v9, n9, x9, rfl, rfl, rfl, rfl, _, h9⟩
        have H9 := Lib.hid h9.right
        clear h9 q1 q2
        go_wp2_with fail
        exact ⟨⟨k + 1, by omega, by go_num, H9.out⟩, by simp [intOf]; omega⟩
      · rw [if_neg (by omega), if_pos (by rw [HNB.out]; omega)] at C2
        have hzI : (0 : Int) < nb := by omega
        have hzN : 0 < nb := by omega
        have HC2 := Lib.hid C2
        clear C2 hz
        go_wp2_with (go_at_call 14; apply stop)
        refine on ?_
        refine HC2.out.mono ?_
        rintro e w9 ⟨v9, n9, x9, rfl, rfl, rfl, rfl, _, h9⟩
        have H9 := Lib.hid h9.right
        clear h9 q1 q2
        go_wp2_with fail
        exact ⟨⟨k + 1, by omega, by go_num, H9.out⟩, by simp [intOf]; omega⟩
    · obtain rfl : k = 3 := by omega
      have HF := Lib.hid (FIN.out _ hst)
      clear hst
      go_wp2_with fail
      go_ret
      exact ⟨rfl, HF.out⟩
end Go.Proofs.Ytddifndfppilkaa.dalike
