/-
  Layer 11: what any wrapping stands for, how many bytes it has, and what is wrong with it.
-/
import Derived.Test.YtddifndfppilkaaGreatInfL
import Derived.Test.YtddifndfppilkaaGreatRefO
namespace Go.Proofs.YtddifndfppilkaaGreat.zopens
open Go.RowKit Go.Mz
set_option linter.unusedVariables false
set_option linter.unusedSimpArgs false
set_option maxRecDepth 100000

/-- What both say, from one answer. -/
theorem both {r : Nat ⊕ (List UInt8 × Nat)} {v : Value} {n x : Nat} {w0 w' : World} {F : SProp} (h : InfR r v n x w0 w' F) :
    ∃ o : List UInt8, St w0 w' (own 5 1 v o.length (o.map bv) * F) ∧ ∀ s m f, RInfR r s m f → n = m ∧ x = f ∧ o = s := by
  cases r with
  | inl e =>
    obtain ⟨rfl, rfl, rfl, _, h⟩ := h
    exact ⟨[], h.own_nil _ 1, fun s m f g => by obtain ⟨rfl, rfl, rfl⟩ := g; exact ⟨rfl, rfl, rfl⟩⟩
  | inr z =>
    obtain ⟨o, k⟩ := z
    obtain ⟨rfl, rfl, h⟩ := h
    exact ⟨o, h, fun s m f g => by obtain ⟨rfl, rfl, rfl⟩ := g; exact ⟨rfl, rfl, rfl⟩⟩
set_option maxHeartbeats 40000000 in
theorem walk (vb : Value) (bs : List UInt8) (most : Int) (w : World) (hb : Reads w 1 vb bs.length (bs.map bv)) :
    Calls Tryz.prog 3 #[vb, .int .i64 most] w fun e w' => e = .returned (.bool true) ∧ Below w.heap.size w w' := by
  have HB := Lib.hid (Stb.of_old hb)
  obtain ⟨a1, c1, rfl⟩ := hb.sub
  have hm := hb.len_le
  unfold maxLen at hm
  clear hb
  have H := Lib.hid (St.init w)
  have fin : ∀ w', St w w' (Mz.old w) → Below w.heap.size w w' := fun w' h => (h.perm ((emp_star _).symm.trans (star_comm _ _))).below
  have FIN := Lib.hid fin; clear fin
  obtain ⟨nb, hnb⟩ : ∃ nb, bs.length = nb := ⟨_, rfl⟩
  rw [hnb] at HB hm
  simp only [hnb]
  have HNB := Lib.hid hnb
  clear hnb
  by_cases hl6 : 400 < nb ∨ 20000 < most
  · have hd : (400 : Int) < nb ∨ (¬ (400 : Int) < nb ∧ 20000 < most) := by omega
    clear hl6
    rcases hd with h1 | ⟨h1, h2⟩
    · go_enter Tryz.func3, Tryz.ntmps3
      go_wp2_with fail
      refine (lives11 H.out).mono ?_
      rintro e w1 ⟨rfl, h2⟩
      have H2 := Lib.hid h2; clear h2
      go_wp2_with fail
      refine (lives11 H2.out).mono ?_
      rintro e w2 ⟨rfl, h3⟩
      have H3 := Lib.hid h3; clear h3
      go_wp2_with fail
      go_ret
      exact ⟨rfl, FIN.out _ H3.out⟩
    · go_enter Tryz.func3, Tryz.ntmps3
      go_wp2_with fail
      refine (lives11 H.out).mono ?_
      rintro e w1 ⟨rfl, h2⟩
      have H2 := Lib.hid h2; clear h2
      go_wp2_with fail
      refine (lives11 H2.out).mono ?_
      rintro e w2 ⟨rfl, h3⟩
      have H3 := Lib.hid h3; clear h3
      go_wp2_with fail
      go_ret
      exact ⟨rfl, FIN.out _ H3.out⟩
  have hl7 : ¬ (400 : Int) < nb := by omega
  have hl8 : ¬ 20000 < most := by omega
  have hnb4 : nb ≤ 400 := by omega
  clear hl6
  have T := elemBytes
  go_enter Tryz.func3, Tryz.ntmps3
  go_wp2_with fail
  refine (lives11 H.out).mono ?_
  rintro e w1 ⟨rfl, h2⟩
  have H2 := Lib.hid h2; clear h2 H
  go_wp2_with (at_builtin; apply stop)
  refine on (wpList_append_sep T rfl _ _ rfl rfl (St.own_blk (e := 5) (size := 1) (n := 0) (cap := 0) (xs := []) (H2.out.alloc (.cells #[] 5)) (Nat.le_refl _) (Nat.zero_le _) rfl rfl) rfl (HB.out _ (H2.out.drop_alloc _)) (bv_oneCell bs) (by unfold maxLen; omega) (by omega) ?_)
  intro v4 w4 h4 _
  rw [List.nil_append, Nat.zero_add] at h4
  obtain ⟨a4, c4, rfl⟩ := h4.reads.sub
  have HO := Lib.hid (open_any h4 bs most (by rw [HNB.out]; omega) (by omega) (vb := .slice a4 nb c4) (by rw [HNB.out]; exact Stb.of_own))
  clear h4 H2
  go_wp2_with (go_at_call 6; apply stop)
  refine on ?_
  refine HO.out.mono ?_
  rintro e w5 ⟨v5, n5, x5, rfl, h5⟩
  obtain ⟨o, h6, hboth⟩ := both h5
  have q1 : (convert 22 9 (.slice a1 nb c1)).run Tryz.prog w5 = .ok (.string ⟨bs.toArray⟩) w5 := run_b2s (P := Tryz.prog) Tryz.underlying22 Tryz.underlying5 Tryz.underlying9 (HB.out _ h6.right.right)
  have HR := Lib.hid (ropen_any h6 bs most (by rw [HNB.out]; omega) (by omega) rfl)
  have HBO := Lib.hid hboth
  clear h5 HO hboth h6
  go_wp2_with (go_at_call 7; apply stop)
  refine on ?_
  refine HR.out.mono ?_
  rintro e w6 ⟨s6, m6, f6, rfl, hg, h7⟩
  obtain ⟨rfl, rfl, rfl⟩ := HBO.out _ _ _ hg
  obtain ⟨no, hno⟩ : ∃ no, o.length = no := ⟨_, rfl⟩
  rw [hno] at h7
  obtain ⟨a5, c5, rfl⟩ := h7.reads.sub
  have q2 : (convert 22 9 (.slice a5 no c5)).run Tryz.prog w6 = .ok (.string ⟨o.toArray⟩) w6 := run_b2s (P := Tryz.prog) Tryz.underlying22 Tryz.underlying5 Tryz.underlying9 h7.reads
  have q3 : (convert 22 9 (.slice a4 nb c4)).run Tryz.prog w6 = .ok (.string ⟨bs.toArray⟩) w6 := run_b2s (P := Tryz.prog) Tryz.underlying22 Tryz.underlying5 Tryz.underlying9 h7.right.reads
  have q4 : (convert 22 9 (.slice a1 nb c1)).run Tryz.prog w6 = .ok (.string ⟨bs.toArray⟩) w6 := run_b2s (P := Tryz.prog) Tryz.underlying22 Tryz.underlying5 Tryz.underlying9 (HB.out _ h7.right.right)
  have HF := Lib.hid (FIN.out _ h7.right.right)
  clear h7 hg HR hno q1 HBO
  go_wp2_with fail
  go_ret
  exact ⟨rfl, HF.out⟩
end Go.Proofs.YtddifndfppilkaaGreat.zopens
