/-
  Layer 10: any bytes, told by each kind of blocks, are these blocks' by the document.
-/
import Derived.Test.YtddifndfppilkaaDefN
import Derived.Test.YtddifndfppilkaaDefQ
namespace Go.Proofs.Ytddifndfppilkaa.dblocks
open Go.RowKit Go.Mz
set_option linter.unusedVariables false
set_option linter.unusedSimpArgs false
set_option maxRecDepth 100000

set_option maxHeartbeats 40000000 in
theorem walk (vb : Value) (bs : List UInt8) (how : Int) (w : World) (hb : Reads w 1 vb bs.length (bs.map bv)) :
    Calls Try.prog 3 #[vb, .int .i64 how] w fun e w' => e = .returned (.bool true) ∧ Below w.heap.size w w' := by
  have HB := Lib.hid (Stb.of_old hb)
  obtain ⟨a1, c1, rfl⟩ := hb.sub
  have hm := hb.len_le
  unfold maxLen at hm
  clear hb
  have H := Lib.hid (St.init w)
  have fin : ∀ w', St w w' (Mz.old w) → Below w.heap.size w w' := fun w' h => (h.perm ((emp_star _).symm.trans (star_comm _ _))).below
  have FIN := Lib.hid fin; clear fin
  by_cases hl6 : 800 < bs.length
  · have hl7 : 800 < (bs.length : Int) := by omega
    go_enter Try.func3, Try.ntmps3
    go_wp2_with fail
    refine (lives10 H.out).mono ?_
    rintro e w1 ⟨rfl, h2⟩
    have H2 := Lib.hid h2; clear h2
    go_wp2_with fail
    refine (lives10 H2.out).mono ?_
    rintro e w2 ⟨rfl, h3⟩
    have H3 := Lib.hid h3; clear h3
    go_wp2_with fail
    go_ret
    exact ⟨rfl, FIN.out _ H3.out⟩
  have hl7 : ¬ 800 < (bs.length : Int) := by omega
  have T := elemBytes
  go_enter Try.func3, Try.ntmps3
  go_wp2_with fail
  refine (lives10 H.out).mono ?_
  rintro e w1 ⟨rfl, h2⟩
  have H2 := Lib.hid h2; clear h2 H
  go_wp2_with (at_builtin; apply stop)
  refine on (wpList_append_sep T rfl _ _ rfl rfl (St.own_blk (e := 5) (size := 1) (n := 0) (cap := 0) (xs := []) (H2.out.alloc (.cells #[] 5)) (Nat.le_refl _) (Nat.zero_le _) rfl rfl) rfl (HB.out _ (H2.out.drop_alloc _)) (bv_oneCell bs) (by unfold maxLen; omega) (by omega) ?_)
  intro v4 w4 h4 _
  rw [List.nil_append, Nat.zero_add] at h4
  obtain ⟨a4, c4, rfl⟩ := h4.reads.sub
  have H4 := Lib.hid h4
  clear h4 H2
  by_cases hbad : how < 0 ∨ 2 < how
  · have HD := Lib.hid (deflate_bad (v := .slice a4 bs.length c4) H4.out hbad)
    have hd : how < 0 ∨ (¬ how < 0 ∧ 2 < how) := by omega
    clear hbad
    rcases hd with h1 | ⟨h1, h2⟩
    · have d1 : decide (how < 0) = true := decide_eq_true h1
      go_wp2_with (go_at_call 11; apply stop)
      refine on ?_
      refine HD.out.mono ?_
      rintro e w5 ⟨rfl, h5⟩
      have H5 := Lib.hid h5
      clear h5
      go_wp2_with fail
      go_ret
      exact ⟨rfl, FIN.out _ H5.out.right⟩
    · have d1 : decide (how < 0) = false := decide_eq_false h1
      have d2 : decide (2 < how) = true := decide_eq_true h2
      go_wp2_with (go_at_call 11; apply stop)
      refine on ?_
      refine HD.out.mono ?_
      rintro e w5 ⟨rfl, h5⟩
      have H5 := Lib.hid h5
      clear h5
      go_wp2_with fail
      go_ret
      exact ⟨rfl, FIN.out _ H5.out.right⟩
  · obtain ⟨hw, rfl⟩ : ∃ hw : Nat, how = hw := ⟨how.toNat, by omega⟩
    have hw2 : hw ≤ 2 := by omega
    have h1 : ¬ (hw : Int) < 0 := by omega
    have h2 : ¬ (2 : Int) < hw := by omega
    have d1 : decide ((hw : Int) < 0) = false := decide_eq_false h1
    have d2 : decide ((2 : Int) < hw) = false := decide_eq_false h2
    have HD := Lib.hid (deflate_any H4.out (b := bs) (by omega) Stb.of_own (how := hw) (by omega))
    clear hbad
    go_wp2_with (go_at_call 11; apply stop)
    refine on ?_
    refine HD.out.mono ?_
    rintro e w5 ⟨v5, x, rfl, hx, hxl, h5⟩
    obtain ⟨nn, hdone⟩ := hx.done
    obtain ⟨last, z, hz⟩ := hx.head
    have hXl := length_bytesB' true x
    obtain ⟨X, hX⟩ : ∃ X, bytesB true x = X := ⟨_, rfl⟩
    rw [hX] at h5 hXl
    rw [← hXl] at h5
    obtain ⟨nX, hnX⟩ : ∃ nX, X.length = nX := ⟨_, rfl⟩
    rw [hnX] at h5
    obtain ⟨a5, c5, rfl⟩ := h5.reads.sub
    have HR := Lib.hid (right10_any h5 (by omega) (how := hw) (by omega) hz hdone (by omega) hX)
    have q1 : (convert 22 9 (.slice a5 nX c5)).run Try.prog w5 = .ok (.string ⟨X.toArray⟩) w5 := run_b2s (P := Try.prog) Try.underlying22 Try.underlying5 Try.underlying9 h5.reads
    have q2 : (convert 22 9 (.slice a1 bs.length c1)).run Try.prog w5 = .ok (.string ⟨bs.toArray⟩) w5 := run_b2s (P := Try.prog) Try.underlying22 Try.underlying5 Try.underlying9 (HB.out _ h5.right.right)
    clear h5 hdone hz hx hxl hXl hX hnX HD
    go_wp2_with (go_at_call 12; apply stop)
    refine on ?_
    refine HR.out.mono ?_
    rintro e w6 ⟨rfl, h6⟩
    have q3 : (convert 22 9 (.slice a4 bs.length c4)).run Try.prog w6 = .ok (.string ⟨bs.toArray⟩) w6 := run_b2s (P := Try.prog) Try.underlying22 Try.underlying5 Try.underlying9 (h6.right.reads)
    have q4 : (convert 22 9 (.slice a1 bs.length c1)).run Try.prog w6 = .ok (.string ⟨bs.toArray⟩) w6 := run_b2s (P := Try.prog) Try.underlying22 Try.underlying5 Try.underlying9 (HB.out _ h6.right.right)
    have HF := Lib.hid (FIN.out _ h6.right.right)
    clear h6 HR q1 q2
    go_wp2_with fail
    go_ret
    exact ⟨rfl, HF.out⟩
end Go.Proofs.Ytddifndfppilkaa.dblocks
