/-
  Layer 5: any bytes, encoded, are a Clear, codes that give them, and End.
-/
import Derived.Test.YtpjonjiofaaccaaLzwI
import Derived.Test.YtpjonjiofaaccaaLzwX
import Derived.Test.YtpjonjiofaaccaaLzwY
namespace Go.Proofs.Ytpjonjiofaaccaa.lencodes
open Go.RowKit Go.Mz
set_option linter.unusedVariables false
set_option linter.unusedSimpArgs false

set_option maxRecDepth 100000 in
set_option maxHeartbeats 40000000 in
theorem walk (vb : Value) (bs : List UInt8) (w : World) (hb : Reads w 1 vb bs.length (bs.map bv)) :
    Calls Try.prog 5 #[vb] w fun e w' => e = .returned (.bool true) ∧ Below w.heap.size w w' := by
  have HB := Lib.hid (Stb.of_old hb)
  obtain ⟨a1, c1, rfl⟩ := hb.sub
  have hm := hb.len_le
  unfold maxLen at hm
  clear hb
  have H := Lib.hid (St.init w)
  have fin : ∀ w', St w w' (Mz.old w) → Below w.heap.size w w' := fun w' h => (h.perm ((emp_star _).symm.trans (star_comm _ _))).below
  have FIN := Lib.hid fin; clear fin
  by_cases hl6 : 1200 < bs.length
  · have hl7 : 1200 < (bs.length : Int) := by omega
    go_enter Try.func5, Try.ntmps5
    go_wp2_with fail
    refine (lives05 H.out).mono ?_
    rintro e w1 ⟨rfl, h2⟩
    have H2 := Lib.hid h2; clear h2
    go_wp2_with fail
    refine (lives05 H2.out).mono ?_
    rintro e w2 ⟨rfl, h3⟩
    have H3 := Lib.hid h3; clear h3
    go_wp2_with fail
    go_ret
    exact ⟨rfl, FIN.out _ H3.out⟩
  have hl7 : ¬ 1200 < (bs.length : Int) := by omega
  have T := elemBytes
  go_enter Try.func5, Try.ntmps5
  go_wp2_with fail
  refine (lives05 H.out).mono ?_
  rintro e w1 ⟨rfl, h2⟩
  have H2 := Lib.hid h2; clear h2
  go_wp2_with (at_builtin; apply stop)
  refine on (wpList_append_sep T rfl _ _ rfl rfl (St.own_blk (e := 5) (size := 1) (n := 0) (cap := 0) (xs := []) (H2.out.alloc (.cells #[] 5)) (Nat.le_refl _) (Nat.zero_le _) rfl rfl) rfl (HB.out _ (H2.out.drop_alloc _)) (bv_oneCell bs) ?_ ?_ ?_)
  · unfold maxLen; omega
  · omega
  intro v' w3 h4 _
  simp only [Nat.zero_add, List.nil_append] at h4
  obtain ⟨ao, co, rfl⟩ := h4.reads.sub
  have H4 := Lib.hid h4; clear h4
  go_wp2_with fail
  refine (encode_any H4.out bs Stb.of_own (by omega)).mono ?_
  rintro e w4 ⟨v4, rfl, h5⟩
  have HAL := Lib.hid (fun w0 w F (h : St w0 w F) => all_any h bs (by omega) rfl)
  generalize bytesB false (encB bs) = X at *
  obtain ⟨a4, c4, rfl⟩ := h5.reads.sub
  have H5 := Lib.hid h5; clear h5
  go_wp2_with (with_reducible (refine stop_conv 22 9 rfl ?_))
  refine on (wpList_b2s Try.underlying22 Try.underlying5 Try.underlying9 rfl rfl H5.out.reads ?_)
  go_wp2_with fail
  refine (HAL.out _ _ _ H5.out).mono ?_
  rintro e w6 ⟨most, hmost, rfl, h6⟩
  have q2 : (convert 22 9 (.slice ao bs.length co)).run Try.prog w6 = .ok (.string ⟨(bs).toArray⟩) w6 := run_b2s (P := Try.prog) Try.underlying22 Try.underlying5 Try.underlying9 h6.right.reads
  have q3 : (convert 22 9 (.slice a1 bs.length c1)).run Try.prog w6 = .ok (.string ⟨(bs).toArray⟩) w6 := run_b2s (P := Try.prog) Try.underlying22 Try.underlying5 Try.underlying9 (HB.out _ h6.right.right)
  have H6 := Lib.hid h6; clear h6
  have hm4 : (most : Int) ≤ 4094 := by omega
  go_wp2_with fail
  go_ret
  exact ⟨rfl, FIN.out _ H6.out.right.right⟩
#print axioms walk
end Go.Proofs.Ytpjonjiofaaccaa.lencodes
