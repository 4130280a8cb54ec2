/-
  Layer 8: the bytes of any blocks, how many bytes that took, and what is wrong with them.
-/
import Derived.Test.YtciplcmjoljofaaRefX
import Derived.Test.YtciplcmjoljofaaInfV
namespace Go.Proofs.Ytciplcmjoljofaa.blocks
open Go.RowKit Go.Mz
set_option linter.unusedVariables false
set_option linter.unusedSimpArgs false

def outI (r : Nat ⊕ (List UInt8 × Nat)) : List UInt8 × Nat × Nat :=
  match r with
  | .inl e => ([], 0, e)
  | .inr (o, k) => (o, k, 0)
theorem infR_out {r : Nat ⊕ (List UInt8 × Nat)} {v : Value} {n x : Nat} {w0 w : World} {F : SProp} (h : InfR r v n x w0 w F) :
    n = (outI r).2.1 ∧ x = (outI r).2.2 ∧ St w0 w (own 5 1 v (outI r).1.length ((outI r).1.map bv) * F) := by
  cases r with
  | inl e =>
    obtain ⟨h1, h2, h3, _, h4⟩ := h
    subst h1
    exact ⟨h2, h3, St.own_nil 5 1 h4⟩
  | inr p =>
    obtain ⟨o, k⟩ := p
    obtain ⟨h1, h2, h3⟩ := h
    exact ⟨h1, h2, h3⟩
theorem rinfR_out {r : Nat ⊕ (List UInt8 × Nat)} {s : List UInt8} {n x : Nat} (h : RInfR r s n x) : s = (outI r).1 ∧ n = (outI r).2.1 ∧ x = (outI r).2.2 := by
  cases r with
  | inl e => exact h
  | inr p =>
    obtain ⟨o, k⟩ := p
    exact h

set_option maxRecDepth 100000 in
set_option maxHeartbeats 40000000 in
theorem walk (vb : Value) (bs : List UInt8) (n : Int) (w : World) (hb : Reads w 1 vb bs.length (bs.map bv)) :
    Calls Try.prog 3 #[vb, .int .i64 n] w fun e w' => e = .returned (.bool true) ∧ Below w.heap.size w w' := by
  have HB := Lib.hid (Stb.of_old hb)
  obtain ⟨a1, c1, rfl⟩ := hb.sub
  have hm := hb.len_le
  unfold maxLen at hm
  clear hb
  have H := Lib.hid (St.init w)
  have fin : ∀ w', St w w' (Mz.old w) → Below w.heap.size w w' := fun w' h => (h.perm ((emp_star _).symm.trans (star_comm _ _))).below
  have FIN := Lib.hid fin; clear fin
  by_cases hl6 : 500 < bs.length
  · have hl7 : 500 < (bs.length : Int) := by omega
    go_enter Try.func3, Try.ntmps3
    go_wp2_with fail
    refine (lives08 H.out).mono ?_
    rintro e w1 ⟨rfl, h2⟩
    have H2 := Lib.hid h2; clear h2
    go_wp2_with fail
    refine (lives08 H2.out).mono ?_
    rintro e w2 ⟨rfl, h3⟩
    have H3 := Lib.hid h3; clear h3
    go_wp2_with fail
    go_ret
    exact ⟨rfl, FIN.out _ H3.out⟩
  have hl7 : ¬ 500 < (bs.length : Int) := by omega
  by_cases hn : 20000 < n
  · skip
    go_enter Try.func3, Try.ntmps3
    go_wp2_with fail
    refine (lives08 H.out).mono ?_
    rintro e w1 ⟨rfl, h2⟩
    have H2 := Lib.hid h2; clear h2
    go_wp2_with fail
    refine (lives08 H2.out).mono ?_
    rintro e w2 ⟨rfl, h3⟩
    have H3 := Lib.hid h3; clear h3
    go_wp2_with fail
    go_ret
    exact ⟨rfl, FIN.out _ H3.out⟩
  have T := elemBytes
  go_enter Try.func3, Try.ntmps3
  go_wp2_with fail
  refine (lives08 H.out).mono ?_
  rintro e w1 ⟨rfl, h2⟩
  have H2 := Lib.hid h2; clear h2
  go_wp2_with (at_builtin; apply stop)
  refine on (wpList_append_sep T rfl _ _ rfl rfl (St.own_blk (e := 5) (size := 1) (n := 0) (cap := 0) (xs := []) (H2.out.alloc (.cells #[] 5)) (Nat.le_refl _) (Nat.zero_le _) rfl rfl) rfl (HB.out _ (H2.out.drop_alloc _)) (bv_oneCell bs) ?_ ?_ ?_)
  · unfold maxLen; omega
  · omega
  intro v' w3 h4 _
  simp only [Nat.zero_add, List.nil_append] at h4
  obtain ⟨ao, co, rfl⟩ := h4.reads.sub
  have H4 := Lib.hid h4; clear h4
  generalize hR : inflI bs n = R at *
  have HR := Lib.hid hR; clear hR
  go_wp2_with fail
  refine (inflate_any H4.out bs n (by omega) (by omega) Stb.of_own).mono ?_
  rintro e w4 ⟨v4, n4, x4, rfl, h5⟩
  rw [HR.out] at h5
  obtain ⟨hn4, hx4, h6⟩ := infR_out h5
  obtain ⟨a4, c4, rfl⟩ := h6.reads.sub
  have HN4 := Lib.hid hn4; have HX4 := Lib.hid hx4
  have H6 := Lib.hid h6; clear h5 h6 H4 hn4 hx4
  go_wp2_with (with_reducible (refine stop_conv 22 9 rfl ?_))
  refine on (wpList_b2s Try.underlying22 Try.underlying5 Try.underlying9 rfl rfl (HB.out _ H6.out.right.right) ?_)
  go_wp2_with fail
  refine (rinflate_any H6.out bs n (by omega) (by omega)).mono ?_
  rintro e w6 ⟨s, n6, x6, rfl, hr, h7⟩
  rw [HR.out] at hr
  obtain ⟨hs, hn6, hx6⟩ := rinfR_out hr
  rw [← HN4.out] at hn6
  rw [← HX4.out] at hx6
  subst hn6 hx6
  rw [← hs] at h7
  have q1 : (convert 22 9 (.slice a4 (outI R).1.length c4)).run Try.prog w6 = .ok (.string ⟨s.toArray⟩) w6 := by
    rw [← hs]
    exact run_b2s (P := Try.prog) Try.underlying22 Try.underlying5 Try.underlying9 h7.reads
  have q2 : (convert 22 9 (.slice ao bs.length co)).run Try.prog w6 = .ok (.string ⟨bs.toArray⟩) w6 := run_b2s (P := Try.prog) Try.underlying22 Try.underlying5 Try.underlying9 h7.right.reads
  have q3 : (convert 22 9 (.slice a1 bs.length c1)).run Try.prog w6 = .ok (.string ⟨bs.toArray⟩) w6 := run_b2s (P := Try.prog) Try.underlying22 Try.underlying5 Try.underlying9 (HB.out _ h7.right.right)
  have H7 := Lib.hid h7; clear h7 hr hs HN4 HX4
  generalize (outI R).1.length = k4 at *
  go_wp2_with fail
  go_ret
  exact ⟨rfl, FIN.out _ H7.out.right.right⟩
#print axioms walk
end Go.Proofs.Ytciplcmjoljofaa.blocks
