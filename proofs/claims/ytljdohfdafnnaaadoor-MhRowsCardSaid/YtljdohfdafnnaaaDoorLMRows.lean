/-
  Layer 14: any row by its lengths, and by any row above, as the document tells it.
-/
import Derived.Test.YtljdohfdafnnaaaDoorMhDb
import Derived.Test.YtljdohfdafnnaaaDoorMhV
import Derived.Test.YtljdohfdafnnaaaDoorMhB
import Derived.Deep.RegionWith
import Derived.Test.YtljdohfdafnnaaaDoorReg3

namespace Go.Proofs.YtljdohfdafnnaaaDoor.mrows
open Go.RowKit Go.Mz
set_option linter.unusedVariables false
set_option linter.unusedSimpArgs false



theorem till_two {P : Program} {ops : Array Oper} {Q : Exit → Act → World → Prop} {md : Region.Mode} {S : World → Prop} {k : Nat} {i j fuel : Nat} {listed : Array Bool} {a : Act} {w : World} (hr : Region.ready md ops listed = [i, j])
    (h : wpOp P ops Q i (fun a' w' => ((listed.setIfInBounds i true).getD k false = false → S w') ∧ anyTill P md ops Q S k fuel (listed.setIfInBounds i true) a' w') a w)
    (h2 : wpOp P ops Q j (fun a' w' => ((listed.setIfInBounds j true).getD k false = false → S w') ∧ anyTill P md ops Q S k fuel (listed.setIfInBounds j true) a' w') a w) : anyTill P md ops Q S k (fuel + 1) listed a w :=
  till_all hr (by simp) fun n hn => by
    rcases List.mem_cons.1 hn with rfl | hn
    · exact h
    · obtain rfl := List.mem_singleton.1 hn
      exact h2

set_option maxRecDepth 100000 in
set_option maxHeartbeats 40000000 in
theorem walk (vb : Value) (bs : List UInt8) (va : Value) (cs : List UInt8) (w : World) (hb : Reads w 1 vb bs.length (bs.map bv)) (ha : Reads w 1 va cs.length (cs.map bv)) (htab : Lib.TabIs Tryd.prog w "strings.asciiSpace" .u8 Lib.asciiSpaceTab) :
    Calls Tryd.prog 4 #[vb, va] w fun e w' => e = .returned (.bool true) ∧ Below w.heap.size w w' := by
  have HT := Lib.hid (tab_old htab); clear htab
  have HB := Lib.hid (Stb.of_old hb)
  have HA := Lib.hid (Stb.of_old ha)
  obtain ⟨a0, c0, rfl⟩ := hb.sub
  obtain ⟨a1, c1, rfl⟩ := ha.sub
  have hm := hb.len_le
  unfold maxLen at hm
  have hm1 := ha.len_le
  unfold maxLen at hm1
  clear hb ha
  have H := Lib.hid (St.init w)
  have fin : ∀ w', St w w' (Mz.old w) → Below w.heap.size w w' := fun w' h => (h.perm ((emp_star _).symm.trans (star_comm _ _))).below
  have FIN := Lib.hid fin; clear fin
  obtain ⟨n, hn⟩ : ∃ n, n = min bs.length cs.length := ⟨_, rfl⟩
  have hmin : min (bs.length : Int) (cs.length : Int) = (n : Nat) := by omega
  have hnb : n ≤ bs.length := by omega
  have hna : n ≤ cs.length := by omega
  clear hn
  go_enter Tryd.func4, Tryd.ntmps4
  go_wp2_with fail
  refine (lives14 H.out HT.out).mono ?_
  rintro e w1 ⟨rfl, h2⟩
  have H2 := Lib.hid h2; clear h2
  by_cases hn0 : n = 0
  · subst hn0
    go_wp2_with fail
    refine (lives14 H2.out HT.out).mono ?_
    rintro e w2 ⟨rfl, h3⟩
    have H3 := Lib.hid h3; clear h3
    go_wp2_with fail
    go_ret
    exact ⟨rfl, FIN.out _ H3.out⟩
  by_cases hn3 : 300 < n
  · have hn3i : (300 : Int) < n := by omega
    have hn0i : ¬ (n : Int) = 0 := by omega
    have hn0b : ((n : Int) == 0) = false := by simpa using hn0i
    go_wp2_with fail
    refine (lives14 H2.out HT.out).mono ?_
    rintro e w2 ⟨rfl, h3⟩
    have H3 := Lib.hid h3; clear h3
    go_wp2_with fail
    go_ret
    exact ⟨rfl, FIN.out _ H3.out⟩
  have hn3i : ¬ (300 : Int) < n := by omega
  have hn3d : decide ((300 : Int) < n) = false := decide_eq_false hn3i
  have hn0i : ¬ (n : Int) = 0 := by omega
  have hn0b : ((n : Int) == 0) = false := by simpa using hn0i
  obtain ⟨g0, o0, rfl, hz0⟩ := (HB.out _ H2.out).at_ (j := 0) (by omega)
  obtain ⟨g1, o1, rfl, hz1⟩ := (HA.out _ H2.out).at_ (j := 0) (by omega)
  clear hz0 hz1
  have cap : ∀ {w : World} {g o n c : Nat} {xs : List Value}, Reads w 1 (.slice (some ⟨g, o, none⟩) n c) n xs → n ≤ c := by
    rintro w g o n c xs ⟨_, ⟨h0, _⟩ | ⟨x, c, h1, h2, _, _⟩⟩
    · cases h0
    · cases h1; omega
  have hc0 := cap (HB.out _ H2.out)
  have hc1 := cap (HA.out _ H2.out)
  have HP0 := Lib.hid (fun k => pixels_any (bs := bs.take n) (v := .slice (some ⟨g0, o0, none⟩) n c0) (by
    rw [List.length_take, Nat.min_eq_left hnb, List.map_take]
    exact Reads.takeR (HB.out _ (H2.out.drewN k)) hnb) (by rw [List.length_take]; omega))
  have HP1 := Lib.hid (fun k => pixels_any (bs := cs.take n) (v := .slice (some ⟨g1, o1, none⟩) n c1) (by
    rw [List.length_take, Nat.min_eq_left hna, List.map_take]
    exact Reads.takeR (HA.out _ (H2.out.drewN k)) hna) (by rw [List.length_take]; omega))
  have hls : (pxL (bs.take n)).length = n := by simp; omega
  have hlt : (pxL (cs.take n)).length = n := by simp; omega
  have hbs := bit_pxL (bs.take n)
  have hbt := bit_pxL (cs.take n)
  generalize pxL (bs.take n) = S at *
  generalize pxL (cs.take n) = T at *
  have HS := Lib.hid (⟨hls, hlt, hbs, hbt⟩ : _ ∧ _ ∧ _ ∧ _)
  clear cap hls hlt hbs hbt HB HA
  have hni0 : (n : Int) ≤ c0 := by omega
  have hni1 : (n : Int) ≤ c1 := by omega
  go_upto_region 4 with (fail)
  go_quiet (first | (go_at_call_of 12 (Value.slice (some ⟨g0, o0, none⟩) n c0); exact Calls.quiet_of_same (HP0.out _)) | (go_at_call_of 12 (Value.slice (some ⟨g1, o1, none⟩) n c1); exact Calls.quiet_of_same (HP1.out _)))
  have h3 := H2.out.drewN nq
  generalize w1.drewN nq = w3 at *
  clear HP0 HP1 hc0 hc1 hni0 hni1 hnb hna hmin hm hm1
  obtain ⟨hls, hlt, hbs, hbt⟩ := HS.out
  have hl9 : n ≤ 300 := by omega
  have h1n : 1 ≤ n := by omega
  clear hn0 hn3 hn3d hn0i hn0b hn3i HS H2
  have HS := Lib.hid (⟨hls, hlt, hbs, hbt⟩ : _ ∧ _ ∧ _ ∧ _)
  have C1 := Lib.hid (changes_any h3 hbs (by omega) rfl)
  have C2 := Lib.hid (fun (w' : World) (G : SProp) (h : St w w' G) => changes_any h hbt (by omega) rfl)
  have hrs := chg_len S
  have hrt := chg_len T
  have hu : rowP false 0 S = rowB false (lensF 0 (chg S) n) := by rw [row_told hbs, hls]
  have hsl : ∀ x ∈ chg S, x < n := fun x hx => by rw [← hls]; exact chg_lt S x hx
  have htl : ∀ x ∈ chg T, x < n := fun x hx => by rw [← hlt]; exact chg_lt T x hx
  have hul : (rowB false (lensF 0 (chg S) n)).length ≤ 300 * 301 := by
    have := rowB_len (lensF 0 (chg S) n) false (fun x hx => by have := lensF_le (chg S) n 0 hsl x hx; omega)
    rw [lensF_len] at this
    omega
  have hvl : (agB (chg S) (chg T) n (n + 1) (-1) false).length ≤ 700 * (n + 1) := agB_len (chg_inc S) hsl (chg_inc T) htl (by omega) _ _ _
  have HDR := Lib.hid (fun (w' : World) (G : SProp) (h : St w w' G) => by
    have C := rrow_any h hbs (by omega) (sb := ⟨(tx S).toArray⟩) rfl
    rw [hu] at C; exact C)
  have HDA := Lib.hid (fun (w' : World) (G : SProp) (h : St w w' G) => by
    have C := rAgainst_any h hbs hbt (by omega) (by omega) (sb := ⟨(tx S).toArray⟩) (tb := ⟨(tx T).toArray⟩) rfl rfl
    rw [hls] at C; exact C)
  have HWR := Lib.hid (fun (w' : World) (C Wb : Nat) (F : SProp) (v : Value) (h : St w w' (codes C * (wrt Wb [] false * F))) (hr : Stb w F (fun w => Reads w 1 v (chg S).length ((chg S).map nv))) => writeRow_any h hr (chg_inc S) hsl h1n (by omega) (by omega) (by simp))
  have HWA := Lib.hid (fun (w' : World) (C Wb : Nat) (F : SProp) (v u : Value) (h : St w w' (codes C * (wrt Wb [] false * F))) (hr : Stb w F (fun w => Reads w 1 v (chg S).length ((chg S).map nv))) (hr2 : Stb w F (fun w => Reads w 1 u (chg T).length ((chg T).map nv))) => writeAgainst_any h hr hr2 (chg_inc S) hsl (chg_inc T) htl h1n (by omega) (by omega) (by omega) (by simp))
  simp only [List.nil_append] at HWR HWA
  clear hsl htl hu h3 hls hlt hbs hbt
  generalize agB (chg S) (chg T) n (n + 1) (-1) false = V at *
  generalize rowB false (lensF 0 (chg S) n) = U at *
  generalize chg S = row at *
  generalize chg T = top at *
  have HL := Lib.hid (⟨hul, hvl⟩ : _ ∧ _)
  clear hul hvl
  go_wp2_with fail
  refine C1.out.mono ?_
  rintro e w4 ⟨vr, rfl, h4⟩
  obtain ⟨ar, cr, rfl⟩ := h4.reads.sub
  have C3 := Lib.hid (C2.out _ _ h4); clear h4 C1 C2
  go_wp2_with fail
  refine C3.out.mono ?_
  rintro e w5 ⟨vt, rfl, h5⟩
  obtain ⟨at', ct, rfl⟩ := h5.reads.sub
  have H5 := Lib.hid h5; clear h5 C3
  go_wp2_with fail
  refine (newWriter_any (low := false) H5.out).mono ?_
  rintro e w6 ⟨Wb, rfl, h6⟩
  have H6 := Lib.hid h6; clear h6 H5
  go_wp2_with fail
  refine (newWriter_any (low := false) H6.out).mono ?_
  rintro e w7 ⟨Xb, rfl, h7⟩
  have H7 := Lib.hid h7; clear h7 H6
  go_wp2_with fail
  refine (newCodes_any H7.out (fun w h => HT.out w h.right.right.right.right)).mono ?_
  rintro e w8 ⟨C, rfl, h8⟩
  replace h8 := h8.perm (show _ = codes C * (wrt Wb [] false * (wrt Xb [] false * (own 3 1 (.slice at' top.length ct) top.length (top.map nv) * (own 3 1 (.slice ar row.length cr) row.length (row.map nv) * Mz.old w)))) by ac_rfl)
  have HW := Lib.hid (HWR.out _ _ _ _ _ h8 ((Stb.of_own.more _).more _)); clear h8 H7 HWR
  go_wp2_with fail
  refine HW.out.mono ?_
  rintro e w9 ⟨rfl, h9⟩
  replace h9 := h9.perm (show _ = codes C * (wrt Xb [] false * (wrt Wb U false * (own 3 1 (.slice at' top.length ct) top.length (top.map nv) * (own 3 1 (.slice ar row.length cr) row.length (row.map nv) * Mz.old w)))) by ac_rfl)
  have HW2 := Lib.hid (HWA.out _ _ _ _ _ _ h9 ((Stb.of_own.more _).more _) (Stb.of_own.more _)); clear h9 HW HWA
  go_wp2_with fail
  refine HW2.out.mono ?_
  rintro e w10 ⟨rfl, h10⟩
  have HD := Lib.hid (HDR.out _ _ h10); clear h10 HW2 HDR
  go_wp2_with fail
  refine HD.out.mono ?_
  rintro e w11 ⟨rfl, h11⟩
  have HD2 := Lib.hid (HDA.out _ _ h11); clear h11 HD HDA
  go_wp2_with fail
  refine HD2.out.mono ?_
  rintro e w12 ⟨rfl, h12⟩
  clear HD2
  replace h12 := h12.perm (show _ = wrt Wb U false * (wrt Xb V false * (codes C * (own 3 1 (.slice at' top.length ct) top.length (top.map nv) * (own 3 1 (.slice ar row.length cr) row.length (row.map nv) * Mz.old w)))) by ac_rfl)
  obtain ⟨G, hG⟩ : ∃ G, G = codes C * (own 3 1 (.slice at' top.length ct) top.length (top.map nv) * (own 3 1 (.slice ar row.length cr) row.length (row.map nv) * Mz.old w)) := ⟨_, rfl⟩
  rw [← hG] at h12
  have HFI := Lib.hid (fun w' (h : St w w' G) => FIN.out w' (by rw [hG] at h; exact h.right.right.right))
  clear hG
  have HBU := Lib.hid (wrt_open h12).1
  have HBV := Lib.hid (wrt_open h12.right).1
  have hlu : (tx U).length = U.length := by simp
  have hlv : (tx V).length = V.length := by simp
  obtain ⟨hu9, hv9⟩ := HL.out
  have K := fun (W : World) (v : Value) (n : Nat) (bs : List UInt8) (hr : Reads W 1 v n (bs.map bv)) => run_b2s (P := Tryd.prog) Tryd.underlying22 Tryd.underlying5 Tryd.underlying9 hr
  have HK := Lib.hid K; clear K
  have H12 := Lib.hid h12.drew
  clear h12 FIN HL HS hrs hrt HT H h1n
  go_upto_region 10 with (fail)
  refine wp_region_noPanic ?_
  refine region_till (S := fun _ : World => True) (k := 36) (by kernel_rfl) ?_
  refine till_take0 (i := 0) (oi := ?_) (v := ?_) ?_ (by kernel_rfl) (by kernel_rfl) (by kernel_rfl) (by decide) (fun _ _ _ h => h.elim) trivial (.inl ⟨?_, fun w => ?_⟩) ?_
  rotate_left 2
  · (simp only [List.getElem?_toArray, List.getElem?_cons_succ, List.getElem?_cons_zero]; rfl)
  · rfl
  · (go_simp; try with_reducible rfl)
  simp only [Act.put, List.setIfInBounds_toArray, List.set_cons_zero, List.set_cons_succ]
  refine till_take0 (i := 1) (oi := ?_) (v := ?_) ?_ (by kernel_rfl) (by kernel_rfl) (by kernel_rfl) (by decide) (fun _ _ _ h => h.elim) trivial (.inl ⟨?_, fun w => ?_⟩) ?_
  rotate_left 2
  · (simp only [List.getElem?_toArray, List.getElem?_cons_succ, List.getElem?_cons_zero]; rfl)
  · rfl
  · (go_simp; try with_reducible rfl)
  simp only [Act.put, List.setIfInBounds_toArray, List.set_cons_zero, List.set_cons_succ]
  refine till_take0 (i := 2) (oi := ?_) (v := ?_) ?_ (by kernel_rfl) (by kernel_rfl) (by kernel_rfl) (by decide) (fun _ _ _ h => h.elim) trivial (.inl ⟨?_, fun w => ?_⟩) ?_
  rotate_left 2
  · (simp only [List.getElem?_toArray, List.getElem?_cons_succ, List.getElem?_cons_zero]; rfl)
  · rfl
  · (go_simp; try with_reducible rfl)
  simp only [Act.put, List.setIfInBounds_toArray, List.set_cons_zero, List.set_cons_succ]
  refine till_take0 (i := 3) (oi := ?_) (v := ?_) ?_ (by kernel_rfl) (by kernel_rfl) (by kernel_rfl) (by decide) (fun _ _ _ h => h.elim) trivial (.inl ⟨?_, fun w => ?_⟩) ?_
  rotate_left 2
  · (simp only [List.getElem?_toArray, List.getElem?_cons_succ, List.getElem?_cons_zero]; rfl)
  · rfl
  · (go_simp; try with_reducible rfl)
  simp only [Act.put, List.setIfInBounds_toArray, List.set_cons_zero, List.set_cons_succ]
  refine till_take0 (i := 4) (oi := ?_) (v := ?_) ?_ (by kernel_rfl) (by kernel_rfl) (by kernel_rfl) (by decide) (fun _ _ _ h => h.elim) trivial (.inl ⟨?_, fun w => ?_⟩) ?_
  rotate_left 2
  · (simp only [List.getElem?_toArray, List.getElem?_cons_succ, List.getElem?_cons_zero]; rfl)
  · rfl
  · (go_simp; try with_reducible rfl)
  simp only [Act.put, List.setIfInBounds_toArray, List.set_cons_zero, List.set_cons_succ]
  refine till_take0 (i := 5) (oi := ?_) (v := ?_) ?_ (by kernel_rfl) (by kernel_rfl) (by kernel_rfl) (by decide) (fun _ _ _ h => h.elim) trivial (.inl ⟨?_, fun w => ?_⟩) ?_
  rotate_left 2
  · (simp only [List.getElem?_toArray, List.getElem?_cons_succ, List.getElem?_cons_zero]; rfl)
  · rfl
  · (go_simp; try with_reducible rfl)
  simp only [Act.put, List.setIfInBounds_toArray, List.set_cons_zero, List.set_cons_succ]
  refine till_take0 (i := 6) (oi := ?_) (v := ?_) ?_ (by kernel_rfl) (by kernel_rfl) (by kernel_rfl) (by decide) (fun _ _ _ h => h.elim) trivial (.inl ⟨?_, fun w => ?_⟩) ?_
  rotate_left 2
  · (simp only [List.getElem?_toArray, List.getElem?_cons_succ, List.getElem?_cons_zero]; rfl)
  · rfl
  · (go_simp; try with_reducible rfl)
  simp only [Act.put, List.setIfInBounds_toArray, List.set_cons_zero, List.set_cons_succ]
  refine till_take0 (i := 7) (oi := ?_) (v := ?_) ?_ (by kernel_rfl) (by kernel_rfl) (by kernel_rfl) (by decide) (fun _ _ _ h => h.elim) trivial (.inl ⟨?_, fun w => ?_⟩) ?_
  rotate_left 2
  · (simp only [List.getElem?_toArray, List.getElem?_cons_succ, List.getElem?_cons_zero]; rfl)
  · rfl
  · (go_simp; try with_reducible rfl)
  simp only [Act.put, List.setIfInBounds_toArray, List.set_cons_zero, List.set_cons_succ]
  refine till_take0 (i := 9) (oi := ?_) (v := ?_) ?_ (by kernel_rfl) (by kernel_rfl) (by kernel_rfl) (by decide) (fun _ _ _ h => h.elim) trivial (.inl ⟨?_, fun w => ?_⟩) ?_
  rotate_left 2
  · (simp only [List.getElem?_toArray, List.getElem?_cons_succ, List.getElem?_cons_zero]; rfl)
  · rfl
  · (go_simp; try with_reducible rfl)
  simp only [Act.put, List.setIfInBounds_toArray, List.set_cons_zero, List.set_cons_succ]
  refine till_take0 (i := 10) (oi := ?_) (v := ?_) ?_ (by kernel_rfl) (by kernel_rfl) (by kernel_rfl) (by decide) (fun _ _ _ h => h.elim) trivial (.inl ⟨?_, fun w => ?_⟩) ?_
  rotate_left 2
  · (simp only [List.getElem?_toArray, List.getElem?_cons_succ, List.getElem?_cons_zero]; rfl)
  · rfl
  · (go_simp; try with_reducible rfl)
  simp only [Act.put, List.setIfInBounds_toArray, List.set_cons_zero, List.set_cons_succ]
  refine till_one (i := 8) (by kernel_rfl) ?_
  refine wpOp_step (by rfl) fun K hK => ?_
  go_simp
  refine (len_any H12.out).mono ?_
  rintro e wl ⟨rfl, rfl⟩
  refine hK _ _ ⟨fun e => trivial, ?_⟩
  clear hK K
  refine till_take0 (i := 11) (oi := ?_) (v := ?_) ?_ (by kernel_rfl) (by kernel_rfl) (by kernel_rfl) (by decide) (fun _ _ _ h => h.elim) trivial (.inl ⟨?_, fun w => ?_⟩) ?_
  rotate_left 2
  · (simp only [List.getElem?_toArray, List.getElem?_cons_succ, List.getElem?_cons_zero]; rfl)
  · rfl
  · (go_simp; try with_reducible rfl)
  simp only [Act.put, List.setIfInBounds_toArray, List.set_cons_zero, List.set_cons_succ]
  refine till_take0 (i := 12) (oi := ?_) (v := ?_) ?_ (by kernel_rfl) (by kernel_rfl) (by kernel_rfl) (by decide) (fun _ _ _ h => h.elim) trivial (.inl ⟨?_, fun w => ?_⟩) ?_
  rotate_left 2
  · (simp only [List.getElem?_toArray, List.getElem?_cons_succ, List.getElem?_cons_zero]; rfl)
  · rfl
  · (go_simp; try with_reducible rfl)
  simp only [Act.put, List.setIfInBounds_toArray, List.set_cons_zero, List.set_cons_succ]
  refine till_take0 (i := 13) (oi := ?_) (v := ?_) ?_ (by kernel_rfl) (by kernel_rfl) (by kernel_rfl) (by decide) (fun _ _ _ h => h.elim) trivial (.inl ⟨?_, fun w => ?_⟩) ?_
  rotate_left 2
  · (simp only [List.getElem?_toArray, List.getElem?_cons_succ, List.getElem?_cons_zero]; rfl)
  · rfl
  · (go_simp; try with_reducible rfl)
  simp only [Act.put, List.setIfInBounds_toArray, List.set_cons_zero, List.set_cons_succ]
  refine till_take0 (i := 14) (oi := ?_) (v := ?_) ?_ (by kernel_rfl) (by kernel_rfl) (by kernel_rfl) (by decide) (fun _ _ _ h => h.elim) trivial (.inl ⟨?_, fun w => ?_⟩) ?_
  rotate_left 2
  · (simp only [List.getElem?_toArray, List.getElem?_cons_succ, List.getElem?_cons_zero]; rfl)
  · rfl
  · (go_simp; try with_reducible rfl)
  simp only [Act.put, List.setIfInBounds_toArray, List.set_cons_zero, List.set_cons_succ]
  refine till_take0 (i := 17) (oi := ?_) (v := ?_) ?_ (by kernel_rfl) (by kernel_rfl) (by kernel_rfl) (by decide) (fun _ _ _ h => h.elim) trivial (.inl ⟨?_, fun w => ?_⟩) ?_
  rotate_left 2
  · (simp only [List.getElem?_toArray, List.getElem?_cons_succ, List.getElem?_cons_zero]; rfl)
  · rfl
  · (go_simp; try with_reducible rfl)
  simp only [Act.put, List.setIfInBounds_toArray, List.set_cons_zero, List.set_cons_succ]
  refine till_one (i := 15) (by kernel_rfl) ?_
  refine wpOp_step (by rfl) fun K hK => ?_
  go_simp
  refine (bytes_any H12.out).mono ?_
  rintro e wb ⟨vb, rfl, h⟩
  have q1 := HK.out _ _ _ _ h.reads
  obtain ⟨ab, cb, rfl⟩ := h.reads.sub
  have H13 := Lib.hid h; clear h H12
  refine hK _ _ ⟨fun e => trivial, ?_⟩
  clear hK K
  refine till_two (i := 16) (j := 18) (by kernel_rfl) ?_ ?_
  rotate_left 1
  refine wpOp_step (by rfl) fun K hK => ?_
  go_simp
  refine (rbytes_any HBU.out false H13.out (by omega) rfl).mono ?_
  rintro e wc ⟨rfl, h⟩
  have q1b := HK.out _ _ _ _ h.reads
  have H14 := Lib.hid (h.right.perm (star_left_comm _ _ _)); clear h H13
  refine hK _ _ ⟨fun e => trivial, ?_⟩
  clear hK K
  refine till_one (i := 16) (by kernel_rfl) ?_
  refine wpOp_step (by rfl) fun K hK => ?_
  go_simp
  refine hK _ _ ⟨fun e => trivial, ?_⟩
  clear hK K
  rotate_left 1
  refine wpOp_step (by rfl) fun K hK => ?_
  go_simp
  refine hK _ _ ⟨fun e => trivial, ?_⟩
  clear hK K
  refine till_one (i := 18) (by kernel_rfl) ?_
  refine wpOp_step (by rfl) fun K hK => ?_
  go_simp
  refine (rbytes_any HBU.out false H13.out (by omega) rfl).mono ?_
  rintro e wc ⟨rfl, h⟩
  have q1b := HK.out _ _ _ _ h.reads
  have H14 := Lib.hid (h.right.perm (star_left_comm _ _ _)); clear h H13
  refine hK _ _ ⟨fun e => trivial, ?_⟩
  clear hK K
  all_goals
    clear q1 q1b
    refine till_take0 (i := 19) (oi := ?_) (v := ?_) ?_ (by kernel_rfl) (by kernel_rfl) (by kernel_rfl) (by decide) (fun _ _ _ h => h.elim) trivial (.inl ⟨?_, fun w => ?_⟩) ?_
    rotate_left 2
    · (simp only [List.getElem?_toArray, List.getElem?_cons_succ, List.getElem?_cons_zero]; rfl)
    · rfl
    · (go_simp; try with_reducible rfl)
    simp only [Act.put, List.setIfInBounds_toArray, List.set_cons_zero, List.set_cons_succ]
    refine till_take0 (i := 20) (oi := ?_) (v := ?_) ?_ (by kernel_rfl) (by kernel_rfl) (by kernel_rfl) (by decide) (fun _ _ _ h => h.elim) trivial (.inl ⟨?_, fun w => ?_⟩) ?_
    rotate_left 2
    · (simp only [List.getElem?_toArray, List.getElem?_cons_succ, List.getElem?_cons_zero]; rfl)
    · rfl
    · (go_simp; try with_reducible rfl)
    simp only [Act.put, List.setIfInBounds_toArray, List.set_cons_zero, List.set_cons_succ]
    refine till_take0 (i := 21) (oi := ?_) (v := ?_) ?_ (by kernel_rfl) (by kernel_rfl) (by kernel_rfl) (by decide) (fun _ _ _ h => h.elim) trivial (.inl ⟨?_, fun w => ?_⟩) ?_
    rotate_left 2
    · (simp only [List.getElem?_toArray, List.getElem?_cons_succ, List.getElem?_cons_zero]; rfl)
    · rfl
    · (go_simp; try with_reducible rfl)
    simp only [Act.put, List.setIfInBounds_toArray, List.set_cons_zero, List.set_cons_succ]
    refine till_take0 (i := 22) (oi := ?_) (v := ?_) ?_ (by kernel_rfl) (by kernel_rfl) (by kernel_rfl) (by decide) (fun _ _ _ h => h.elim) trivial (.inl ⟨?_, fun w => ?_⟩) ?_
    rotate_left 2
    · (simp only [List.getElem?_toArray, List.getElem?_cons_succ, List.getElem?_cons_zero]; rfl)
    · rfl
    · (go_simp; try with_reducible rfl)
    simp only [Act.put, List.setIfInBounds_toArray, List.set_cons_zero, List.set_cons_succ]
    refine till_take0 (i := 24) (oi := ?_) (v := ?_) ?_ (by kernel_rfl) (by kernel_rfl) (by kernel_rfl) (by decide) (fun _ _ _ h => h.elim) trivial (.inl ⟨?_, fun w => ?_⟩) ?_
    rotate_left 2
    · (simp only [List.getElem?_toArray, List.getElem?_cons_succ, List.getElem?_cons_zero]; rfl)
    · rfl
    · (go_simp; try with_reducible rfl)
    simp only [Act.put, List.setIfInBounds_toArray, List.set_cons_zero, List.set_cons_succ]
    refine till_take0 (i := 25) (oi := ?_) (v := ?_) ?_ (by kernel_rfl) (by kernel_rfl) (by kernel_rfl) (by decide) (fun _ _ _ h => h.elim) trivial (.inl ⟨?_, fun w => ?_⟩) ?_
    rotate_left 2
    · (simp only [List.getElem?_toArray, List.getElem?_cons_succ, List.getElem?_cons_zero]; rfl)
    · rfl
    · (go_simp; try with_reducible rfl)
    simp only [Act.put, List.setIfInBounds_toArray, List.set_cons_zero, List.set_cons_succ]
    refine till_one (i := 23) (by kernel_rfl) ?_
    refine wpOp_step (by rfl) fun K hK => ?_
    go_simp
    refine (len_any H14.out).mono ?_
    rintro e wl ⟨rfl, rfl⟩
    refine hK _ _ ⟨fun e => trivial, ?_⟩
    clear hK K
    refine till_take0 (i := 26) (oi := ?_) (v := ?_) ?_ (by kernel_rfl) (by kernel_rfl) (by kernel_rfl) (by decide) (fun _ _ _ h => h.elim) trivial (.inl ⟨?_, fun w => ?_⟩) ?_
    rotate_left 2
    · (simp only [List.getElem?_toArray, List.getElem?_cons_succ, List.getElem?_cons_zero]; rfl)
    · rfl
    · (go_simp; try with_reducible rfl)
    simp only [Act.put, List.setIfInBounds_toArray, List.set_cons_zero, List.set_cons_succ]
    refine till_take0 (i := 27) (oi := ?_) (v := ?_) ?_ (by kernel_rfl) (by kernel_rfl) (by kernel_rfl) (by decide) (fun _ _ _ h => h.elim) trivial (.inl ⟨?_, fun w => ?_⟩) ?_
    rotate_left 2
    · (simp only [List.getElem?_toArray, List.getElem?_cons_succ, List.getElem?_cons_zero]; rfl)
    · rfl
    · (go_simp; try with_reducible rfl)
    simp only [Act.put, List.setIfInBounds_toArray, List.set_cons_zero, List.set_cons_succ]
    refine till_take0 (i := 28) (oi := ?_) (v := ?_) ?_ (by kernel_rfl) (by kernel_rfl) (by kernel_rfl) (by decide) (fun _ _ _ h => h.elim) trivial (.inl ⟨?_, fun w => ?_⟩) ?_
    rotate_left 2
    · (simp only [List.getElem?_toArray, List.getElem?_cons_succ, List.getElem?_cons_zero]; rfl)
    · rfl
    · (go_simp; try with_reducible rfl)
    simp only [Act.put, List.setIfInBounds_toArray, List.set_cons_zero, List.set_cons_succ]
    refine till_take0 (i := 29) (oi := ?_) (v := ?_) ?_ (by kernel_rfl) (by kernel_rfl) (by kernel_rfl) (by decide) (fun _ _ _ h => h.elim) trivial (.inl ⟨?_, fun w => ?_⟩) ?_
    rotate_left 2
    · (simp only [List.getElem?_toArray, List.getElem?_cons_succ, List.getElem?_cons_zero]; rfl)
    · rfl
    · (go_simp; try with_reducible rfl)
    simp only [Act.put, List.setIfInBounds_toArray, List.set_cons_zero, List.set_cons_succ]
    refine till_take0 (i := 32) (oi := ?_) (v := ?_) ?_ (by kernel_rfl) (by kernel_rfl) (by kernel_rfl) (by decide) (fun _ _ _ h => h.elim) trivial (.inl ⟨?_, fun w => ?_⟩) ?_
    rotate_left 2
    · (simp only [List.getElem?_toArray, List.getElem?_cons_succ, List.getElem?_cons_zero]; rfl)
    · rfl
    · (go_simp; try with_reducible rfl)
    simp only [Act.put, List.setIfInBounds_toArray, List.set_cons_zero, List.set_cons_succ]
    refine till_one (i := 30) (by kernel_rfl) ?_
    refine wpOp_step (by rfl) fun K hK => ?_
    go_simp
    refine (bytes_any H14.out).mono ?_
    rintro e wb ⟨vb2, rfl, h⟩
    have q3 := HK.out _ _ _ _ h.reads
    obtain ⟨ab2, cb2, rfl⟩ := h.reads.sub
    have H15 := Lib.hid h; clear h H14
    refine hK _ _ ⟨fun e => trivial, ?_⟩
    clear hK K
    refine till_two (i := 31) (j := 33) (by kernel_rfl) ?_ ?_
    rotate_left 1
    refine wpOp_step (by rfl) fun K hK => ?_
    go_simp
    refine (rbytes_any HBV.out false H15.out (by omega) rfl).mono ?_
    rintro e wc ⟨rfl, h⟩
    have q3b := HK.out _ _ _ _ h.reads
    have H16 := Lib.hid (h.right.right.right); clear h H15
    refine hK _ _ ⟨fun e => trivial, ?_⟩
    clear hK K
    refine till_one (i := 31) (by kernel_rfl) ?_
    refine wpOp_step (by rfl) fun K hK => ?_
    go_simp
    refine hK _ _ ⟨fun e => trivial, ?_⟩
    clear hK K
    rotate_left 1
    refine wpOp_step (by rfl) fun K hK => ?_
    go_simp
    refine hK _ _ ⟨fun e => trivial, ?_⟩
    clear hK K
    refine till_one (i := 33) (by kernel_rfl) ?_
    refine wpOp_step (by rfl) fun K hK => ?_
    go_simp
    refine (rbytes_any HBV.out false H15.out (by omega) rfl).mono ?_
    rintro e wc ⟨rfl, h⟩
    have q3b := HK.out _ _ _ _ h.reads
    have H16 := Lib.hid (h.right.right.right); clear h H15
    refine hK _ _ ⟨fun e => trivial, ?_⟩
    clear hK K
    all_goals
      clear q3 q3b
      refine till_take0 (i := 34) (oi := ?_) (v := ?_) ?_ (by kernel_rfl) (by kernel_rfl) (by kernel_rfl) (by decide) (fun _ _ _ h => h.elim) trivial (.inl ⟨?_, fun w => ?_⟩) ?_
      rotate_left 2
      · (simp only [List.getElem?_toArray, List.getElem?_cons_succ, List.getElem?_cons_zero]; rfl)
      · rfl
      · (go_simp; try with_reducible rfl)
      simp only [Act.put, List.setIfInBounds_toArray, List.set_cons_zero, List.set_cons_succ]
      refine till_take0 (i := 35) (oi := ?_) (v := ?_) ?_ (by kernel_rfl) (by kernel_rfl) (by kernel_rfl) (by decide) (fun _ _ _ h => h.elim) trivial (.inl ⟨?_, fun w => ?_⟩) ?_
      rotate_left 2
      · (simp only [List.getElem?_toArray, List.getElem?_cons_succ, List.getElem?_cons_zero]; rfl)
      · rfl
      · (go_simp; try with_reducible rfl)
      simp only [Act.put, List.setIfInBounds_toArray, List.set_cons_zero, List.set_cons_succ]
      refine till_one (i := 36) (by kernel_rfl) ?_
      refine wpOp_step (by rfl) fun K hK => ?_
      go_simp
      refine hK _ _ ⟨fun e => trivial, ?_⟩
      clear hK K
      refine ⟨(by kernel_rfl), NoPanic.normal ?_⟩
      go_wp2_with fail
      go_ret
      exact ⟨rfl, HFI.out _ H16.out⟩
#print axioms walk
end Go.Proofs.YtljdohfdafnnaaaDoor.mrows
