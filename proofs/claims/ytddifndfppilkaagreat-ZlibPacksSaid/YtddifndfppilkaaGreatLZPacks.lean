/-
  Layer 11: any bytes, wrapped: two bytes, blocks that are theirs by the document, and their sum.
-/
import Derived.Test.YtddifndfppilkaaGreatInfL
import Derived.Test.YtddifndfppilkaaGreatRefO
import Derived.Test.YtddifndfppilkaaGreatDefQ
namespace Go.Proofs.YtddifndfppilkaaGreat.zpacks
open Go.RowKit Go.Mz
set_option linter.unusedVariables false
set_option linter.unusedSimpArgs false
set_option maxRecDepth 100000

theorem st_long {b : List UInt8} {how : Nat} {x : List Nat} (h : DefS b how x) : 8 < x.length := by
  rcases h with ⟨_, h⟩ | ⟨_, T, _, h⟩
  · cases h with
    | last hl => rw [List.length_append, length_headL, storedL]; simp only [List.length_append, List.length_replicate, List.length_reverse, length_wordB]; omega
    | more hl hy _ => subst hy; rw [List.length_append, List.length_append, length_headL, storedL]; simp only [List.length_append, List.length_replicate, List.length_reverse, length_wordB]; omega
  · have one : ∀ {last T y}, OneB how last T y → 8 < y.length := by
      intro last T y ho
      rcases ho with ⟨_, rfl⟩ | ⟨_, la, lb, me, R, _, _, _, _, rfl⟩
      · have e : (FA.getD 256 []).length = 7 := by decide +kernel
        rw [List.length_append, length_headL, toldB, List.length_append, e]; omega
      · simp only [List.length_append, length_headL, metaH, List.length_reverse, length_wordB]; omega
    cases h with
    | last _ ho => exact one ho
    | more _ ho _ => rw [List.length_append]; have := one ho; omega
set_option maxHeartbeats 40000000 in
theorem walk (vb : Value) (bs : List UInt8) (how : Int) (w : World) (hb : Reads w 1 vb bs.length (bs.map bv)) :
    Calls Tryz.prog 4 #[vb, .int .i64 how] w fun e w' => e = .returned (.bool true) ∧ Below w.heap.size w w' := by
  have HB := Lib.hid (Stb.of_old hb)
  obtain ⟨a1, c1, rfl⟩ := hb.sub
  have hm := hb.len_le
  unfold maxLen at hm
  clear hb
  have H := Lib.hid (St.init w)
  have fin : ∀ w', St w w' (Mz.old w) → Below w.heap.size w w' := fun w' h => (h.perm ((emp_star _).symm.trans (star_comm _ _))).below
  have FIN := Lib.hid fin; clear fin
  obtain ⟨nb, hnb⟩ : ∃ nb, bs.length = nb := ⟨_, rfl⟩
  rw [hnb] at HB hm
  simp only [hnb]
  have HNB := Lib.hid hnb
  clear hnb
  by_cases hl6 : 800 < nb
  · have h1 : (800 : Int) < nb := by omega
    go_enter Tryz.func4, Tryz.ntmps4
    go_wp2_with fail
    refine (lives11 H.out).mono ?_
    rintro e w1 ⟨rfl, h2⟩
    have H2 := Lib.hid h2; clear h2
    go_wp2_with fail
    refine (lives11 H2.out).mono ?_
    rintro e w2 ⟨rfl, h3⟩
    have H3 := Lib.hid h3; clear h3
    go_wp2_with fail
    go_ret
    exact ⟨rfl, FIN.out _ H3.out⟩
  have hl7 : ¬ (800 : Int) < nb := by omega
  have hnb8 : nb ≤ 800 := by omega
  clear hl6
  go_enter Tryz.func4, Tryz.ntmps4
  go_wp2_with fail
  refine (lives11 H.out).mono ?_
  rintro e w1 ⟨rfl, h2⟩
  have H2 := Lib.hid h2; clear h2 H
  by_cases hbad : how < 0 ∨ 2 < how
  · have HD := Lib.hid (pack_bad (v := .slice a1 nb c1) H2.out hbad)
    have hd : how < 0 ∨ (¬ how < 0 ∧ 2 < how) := by omega
    clear hbad
    rcases hd with h1 | ⟨h1, h2⟩
    · have d1 : decide (how < 0) = true := decide_eq_true h1
      go_wp2_with (go_at_call 8; apply stop)
      refine on ?_
      refine HD.out.mono ?_
      rintro e w5 ⟨rfl, h5⟩
      have H5 := Lib.hid h5
      clear h5
      go_wp2_with fail
      go_ret
      exact ⟨rfl, FIN.out _ H5.out⟩
    · have d1 : decide (how < 0) = false := decide_eq_false h1
      have d2 : decide (2 < how) = true := decide_eq_true h2
      go_wp2_with (go_at_call 8; apply stop)
      refine on ?_
      refine HD.out.mono ?_
      rintro e w5 ⟨rfl, h5⟩
      have H5 := Lib.hid h5
      clear h5
      go_wp2_with fail
      go_ret
      exact ⟨rfl, FIN.out _ H5.out⟩
  obtain ⟨hw, rfl⟩ : ∃ hw : Nat, how = hw := ⟨how.toNat, by omega⟩
  have hw2 : hw ≤ 2 := by omega
  have h1 : ¬ (hw : Int) < 0 := by omega
  have h2 : ¬ (2 : Int) < hw := by omega
  have d1 : decide ((hw : Int) < 0) = false := decide_eq_false h1
  have d2 : decide ((2 : Int) < hw) = false := decide_eq_false h2
  have HP := Lib.hid (pack_any H2.out (b := bs) (by rw [HNB.out]; omega) (v := .slice a1 nb c1) (by rw [HNB.out]; exact HB.out) (how := hw) (by omega))
  clear hbad H2
  go_wp2_with (go_at_call 8; apply stop)
  refine on ?_
  refine HP.out.mono ?_
  rintro e w2 ⟨v2, x, z, rfl, hx, hxl, hz, h3⟩
  have hlong := st_long hx
  obtain ⟨nn, hdone⟩ := hx.done
  obtain ⟨last, zz, hz0⟩ := hx.head
  have hS := length_bytesO true (adlerN bs) 4
  have hXl := length_bytesB' true x
  have HDONE := Lib.hid hdone; have HZ0 := Lib.hid hz0
  obtain ⟨X, hX⟩ : ∃ X, bytesB true x = X := ⟨_, rfl⟩
  rw [hX] at hz hXl
  have HXX := Lib.hid hX
  obtain ⟨nX, hnX⟩ : ∃ nX, X.length = nX := ⟨_, rfl⟩
  have hzl : z.length = nX + 6 := by rw [hz]; simp [hS, hnX]
  obtain ⟨L, hL⟩ : ∃ L, z.length = L := ⟨_, rfl⟩
  have hL7 : ¬ (L : Int) < 7 := by omega
  have hLX : L = nX + 6 := by omega
  have hLm : L ≤ 20000000 := by omega
  rw [hL] at h3
  obtain ⟨a3, c3, rfl⟩ := h3.reads.sub
  obtain ⟨hc3, hc3m⟩ := rd_cap h3.reads
  unfold maxLen at hc3m
  obtain ⟨g3, rfl⟩ := own_at h3 (by omega)
  have hsub := rd_sub h3.reads (i := 2) (j := L - 4) (by omega) (by omega)
  have e1 : (((z.map bv).drop 2).take (L - 4 - 2)) = X.map bv := by
    rw [hz]
    simp only [List.map_cons, List.drop_succ_cons, List.drop_zero, List.map_append]
    rw [List.take_left' (by rw [List.length_map, hnX]; omega)]
  rw [e1, show L - 4 - 2 = nX by omega, Addr.add_lit, Nat.zero_add] at hsub
  have qX : (convert 22 9 (.slice (some ⟨g3, 2, none⟩) nX (c3 - 2))).run Tryz.prog w2 = .ok (.string ⟨X.toArray⟩) w2 := run_b2s (P := Tryz.prog) Tryz.underlying22 Tryz.underlying5 Tryz.underlying9 hsub
  have hL4 : (L : Int) - 4 = ((nX + 2 : Nat) : Int) := by omega
  have hL4N : nX + 2 - 2 = nX := by omega
  have h2le : (2 : Int) ≤ ((nX + 2 : Nat) : Int) := by omega
  have hcle : ((nX + 2 : Nat) : Int) ≤ c3 := by omega
  have hc2 : ¬ c3 = 2 := by omega
  have HH3 := Lib.hid h3
  have HZW := Lib.hid hz; have HNX := Lib.hid hnX; have HLX := Lib.hid hLX; have HZL := Lib.hid hL
  clear h3 hz hzl hL hX hXl hlong hx hxl HP hsub e1 hdone hz0 hnX hS hLX
  go_upto_region 9 with (fail)
  have hzz : [120, 1] ++ X ++ bytesO true (adlerN bs) 4 = z := by rw [HZW.out]; rfl
  have hW := fun (W : World) (G : SProp) (hW : St w W G) => wrap_any (w0 := w) hW (hd := [120, 1]) (bl := X) (b := bs) (by rw [HNB.out]; omega) (by rw [HNX.out]; have := HLX.out; omega) (by decide) (s1 := ⟨#[120, 1]⟩) rfl rfl rfl
  rw [hzz] at hW
  have hbl := HDONE.out
  have hR := fun (W : World) (G : SProp) (hW : St w W G) => right10_any (w0 := w) hW (b := bs) (by rw [HNB.out]; omega) (how := hw) (by omega) HZ0.out HDONE.out (by
    have := length_bytesB' true x
    rw [HXX.out, HNX.out] at this
    have := HLX.out
    omega) HXX.out
  have HW := Lib.hid hW; have HR := Lib.hid hR
  have hk := fun (W : World) (hr : Reads W 1 (.slice (some ⟨g3, 0, none⟩) L c3) L (z.map bv)) => run_b2s (P := Tryz.prog) Tryz.underlying22 Tryz.underlying5 Tryz.underlying9 hr
  have hk2 := fun (W : World) (hr : Reads W 1 (.slice a1 nb c1) nb (bs.map bv)) => run_b2s (P := Tryz.prog) Tryz.underlying22 Tryz.underlying5 Tryz.underlying9 hr
  have q1 := hk _ HH3.out.drew.reads
  have q2 := hk2 _ (HB.out _ HH3.out.drew.right)
  have HK := Lib.hid hk; have HK2 := Lib.hid hk2
  clear hzz hW hR hk hk2 hbl qX hL4 hL4N h2le hcle hc2
  go_region_with (first | (go_at_call 10; refine (HR.out _ _ H6.out).mono ?_; rintro e w7 ⟨rfl, h7⟩; have H7 := Lib.hid h7; clear h7) | (go_at_call 9; refine (HW.out _ _ HH3.out.drew).mono ?_; rintro e w6 ⟨rfl, h6⟩; have q1 := HK.out _ h6.reads; have q2 := HK2.out _ (HB.out _ h6.right); have H6 := Lib.hid h6; clear h6))
  all_goals
    go_wp2_with fail
    go_ret
    exact ⟨rfl, FIN.out _ H7.out.right⟩
end Go.Proofs.YtddifndfppilkaaGreat.zpacks
