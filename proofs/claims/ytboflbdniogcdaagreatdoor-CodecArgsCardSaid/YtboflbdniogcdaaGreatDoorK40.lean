/-
  Parts of a proof.
-/
import Derived.Test.YtboflbdniogcdaaGreatDoorK38
import Derived.Test.YtboflbdniogcdaaGreatDoorK39
namespace Go.Proofs.YtboflbdniogcdaaGreatDoor.cargs
open Go.RowKit Go.Mz Go.Proofs.YtboflbdniogcdaaGreatDoor
set_option linter.unusedVariables false
set_option linter.unusedSimpArgs false
set_option maxRecDepth 100000
theorem tab_old24 {w : World} (h : Lib.TabIs Tryz.prog w "strings.asciiSpace" .u8 Lib.asciiSpaceTab) : Tab w (Mz.old w) := fun w' s => by
 have B : Below w.heap.size w w' := (s.perm ((emp_star _).symm.trans (star_comm _ _))).below
 unfold Lib.TabIs World.var? at h ⊢
 cases hg : Tryz.prog.globalNamed "strings.asciiSpace" with
 | none => rw [hg] at h; simp at h
 | some g =>
  rw [hg] at h
  simp only [Option.bind_some] at h ⊢
  have hlt : g < w.heap.size := by
   rcases Nat.lt_or_ge g w.heap.size with h' | h'
   ·exact h'
   ·simp [Array.getElem?_eq_none h'] at h
  rw [B.block g hlt]
  exact h
theorem tab24 {w : World} (h : Lib.TabIs Tryz.prog w "strings.asciiSpace" .u8 Lib.asciiSpaceTab) : Tab w (old w) := tab_old24 h
def overF (wide : Nat) (l : List Nat) : Bool := l.any fun x => decide (2 ^ wide ≤ x)
theorem overF_snoc (wide : Nat) (l : List Nat) (x : Nat) : overF wide (l ++ [x]) = (overF wide l || decide (2 ^ wide ≤ x)) := by simp [overF]
theorem overF_false {wide : Nat} {l : List Nat} : overF wide l = false ↔ ∀ x ∈ l, x < 2 ^ wide := by
 simp [overF]
set_option maxHeartbeats 40000000 in
theorem walk (y : PartI) (o : Opt) (w : World) (hy : PartIn w y) (htab : Lib.TabIs Tryz.prog w "strings.asciiSpace" .u8 Lib.asciiSpaceTab) :
  Calls Tryz.prog 5 #[y.val, o.v] w fun e w' => e = .returned (.bool true) ∧ Below w.heap.size w w' := by
 obtain ⟨W, H, per, wide, a0, c0, l⟩ := y
 obtain ⟨hrd, hlt, hiW, hiH, hip, hiw⟩ := hy
 simp only at hrd hlt hiW hiH hip hiw
 simp only [PartI.val]
 have HRD := Lib.hid (Stb.of_old hrd)
 have HLT := Lib.hid hlt
 have HT := Lib.hid (tab24 htab)
 have HLV := Lib.hid (fun (w' : World) (h : St w w' (blk (w.heap.size + 1) (.cells (optBox o) 28) * (blk w.heap.size (.cells #[.int .i64 W, .int .i64 H, .int .i64 per, .int .i64 wide, .slice a0 l.length c0] 24) * old w))) => lives24 h (fun w' h => HT.out w' h.right.right))
 have fin' : ∀ w', St w w' (old w) → Below w.heap.size w w' := fun w' h => (h.perm ((emp_star _).symm.trans (star_comm _ _))).below
 have HF := Lib.hid fin'
 obtain ⟨L, hL⟩ : ∃ L, l.length = L := ⟨_, rfl⟩
 rw [hL] at HRD HLV ⊢
 have HLL := Lib.hid hL
 clear hrd hlt htab hL fin'
 rw [show o.v = .agg (optBox o) from rfl]
 by_cases h300 : 300 < L
 ·have h300I : (300 : Int) < L := by omega
  have h3 := two_alloc (St.init w) (.cells #[.int .i64 W, .int .i64 H, .int .i64 per, .int .i64 wide, .slice a0 L c0] 24) (.cells (optBox o) 28)
  have H3 := Lib.hid h3
  clear h3
  go_enter Tryz.func5, Tryz.ntmps5
  go_wp2_with (first
   | (go_at_call 8; apply stop)
   | (refine wpList_load_blk rfl 24 _ rfl (H4.out.perm (star_left_comm _ _ _)) rfl Tryz.underlying24 rfl (by show _ = some 5; kernel_rfl) ?_)
   | (refine wpList_load_blk rfl 28 _ rfl H4.out rfl Tryz.underlying28 rfl (by show _ = some 14; kernel_rfl) ?_)
   | (go_at_call 7; refine (HLV.out _ H4.out).mono ?_; rintro e w5 ⟨rfl, h5⟩; have H5 := Lib.hid h5; clear h5 H4)
   | (go_at_call 7; refine (HLV.out _ H3.out).mono ?_; rintro e w4 ⟨rfl, h4⟩; have f0 := h4.right.cell 0 rfl; have f1 := h4.right.cell 1 rfl; have f2 := h4.right.cell 2 rfl; have f3 := h4.right.cell 3 rfl; have f4 := h4.right.cell 4 rfl; have H4 := Lib.hid h4; clear h4 H3))
  go_ret
  exact ⟨rfl, HF.out _ H5.out.right.right⟩
 have h300I : ¬ (300 : Int) < L := by omega
 by_cases hc : can24 W H per = true ∧ (L : Int) = W * H * per
 rotate_left
 ·have HPK := Lib.hid (fun (w' : World) (h : St w w' (blk (w.heap.size + 1) (.cells (optBox o) 28) * (blk w.heap.size (.cells #[.int .i64 W, .int .i64 H, .int .i64 per, .int .i64 wide, .slice a0 L c0] 24) * old w))) => pack_arg (wide := wide) (a0 := a0) (c0 := c0) h o hc)
  rw [show o.v = .agg (optBox o) from rfl] at HPK
  have HC := Lib.hid (fun w => rcan_any W H per w)
  have h3 := two_alloc (St.init w) (.cells #[.int .i64 W, .int .i64 H, .int .i64 per, .int .i64 wide, .slice a0 L c0] 24) (.cells (optBox o) 28)
  have H3 := Lib.hid h3
  clear h3
  go_enter Tryz.func5, Tryz.ntmps5
  go_wp2_with (first
   | (go_at_call 8; apply stop)
   | (refine wpList_load_blk rfl 24 _ rfl (H4.out.perm (star_left_comm _ _ _)) rfl Tryz.underlying24 rfl (by show _ = some 5; kernel_rfl) ?_)
   | (refine wpList_load_blk rfl 28 _ rfl H4.out rfl Tryz.underlying28 rfl (by show _ = some 14; kernel_rfl) ?_)
   | (go_at_call 7; refine (HLV.out _ H4.out).mono ?_; rintro e w5 ⟨rfl, h5⟩; have H5 := Lib.hid h5; clear h5 H4)
   | (go_at_call 7; refine (HLV.out _ H3.out).mono ?_; rintro e w4 ⟨rfl, h4⟩; have f0 := h4.right.cell 0 rfl; have f1 := h4.right.cell 1 rfl; have f2 := h4.right.cell 2 rfl; have f3 := h4.right.cell 3 rfl; have f4 := h4.right.cell 4 rfl; have H4 := Lib.hid h4; clear h4 H3))
  refine on ((HPK.out _ H4.out).mono ?_)
  rintro e w6 ⟨rfl, h6⟩
  have g0 := h6.right.cell 0 rfl
  have g1 := h6.right.cell 1 rfl
  have g2 := h6.right.cell 2 rfl
  have g4 := h6.right.cell 4 rfl
  have H6 := Lib.hid h6
  clear h6 H4 HPK f0 f1 f2 f3 f4 HLV
  by_cases hcan : can24 W H per = true
  ·rw [hcan] at HC
   have hne : ¬ (L : Int) = W * H * per := fun e => hc ⟨hcan, e⟩
   obtain ⟨m, hm⟩ : ∃ m, W * H = m := ⟨_, rfl⟩
   obtain ⟨k, hk⟩ : ∃ k, m * per = k := ⟨_, rfl⟩
   simp only [can24, Bool.and_eq_true, decide_eq_true_eq] at hcan
   have m1 : 0 ≤ m := by rw [← hm]; exact Int.mul_nonneg (by omega) (by omega)
   have m2 : m ≤ 1073741824 := by rw [← hm]; exact Int.le_trans (Int.mul_le_mul hcan.2.2.1 hcan.2.2.2.1 (by omega) (by omega)) (by decide)
   have k1 : 0 ≤ k := by rw [← hk]; exact Int.mul_nonneg m1 (by omega)
   have k2 : k ≤ 8589934592 := by rw [← hk]; exact Int.le_trans (Int.mul_le_mul m2 hcan.2.2.2.2.2.1 (by omega) (by omega)) (by decide)
   rw [hm, hk] at hne
   have hneb : ((L : Int) == k) = false := by simpa using hne
   clear hc hcan
   go_wp2_with (go_at_call 15; refine (HC.out _).mono ?_; rintro e w1 ⟨rfl, rfl⟩)
   go_ret
   exact ⟨rfl, HF.out _ H6.out.right.right⟩
  ·have hcan : can24 W H per = false := by simpa using hcan
   rw [hcan] at HC
   clear hc hcan
   go_wp2_with (go_at_call 15; refine (HC.out _).mono ?_; rintro e w1 ⟨rfl, rfl⟩)
   go_ret
   exact ⟨rfl, HF.out _ H6.out.right.right⟩
 obtain ⟨hcan, hLk⟩ := hc
 have HC := Lib.hid (fun w => rcan_any W H per w)
 rw [hcan] at HC
 obtain ⟨m, hm⟩ : ∃ m, W * H = m := ⟨_, rfl⟩
 have hcan' := hcan
 simp only [can24, Bool.and_eq_true, decide_eq_true_eq] at hcan'
 have m1 : 0 ≤ m := by rw [← hm]; exact Int.mul_nonneg (by omega) (by omega)
 have m2 : m ≤ 1073741824 := by rw [← hm]; exact Int.le_trans (Int.mul_le_mul hcan'.2.2.1 hcan'.2.2.2.1 (by omega) (by omega)) (by decide)
 cases hleg : o.legal per wide with
 | false =>
  have HPK := Lib.hid (fun (w' : World) (h : St w w' (blk (w.heap.size + 1) (.cells (optBox o) 28) * (blk w.heap.size (.cells #[.int .i64 W, .int .i64 H, .int .i64 per, .int .i64 wide, .slice a0 L c0] 24) * old w))) => pack_illegal (wide := wide) (a0 := a0) (c0 := c0) h o hcan hLk hleg)
  rw [show o.v = .agg (optBox o) from rfl] at HPK
  have HLG := Lib.hid (fun (G : SProp) (w' : World) (h : St w w' G) => rlegal_any h o per wide)
  rw [hleg, show o.v = .agg (optBox o) from rfl] at HLG
  have hLk2 : m * per = (L : Int) := by rw [hLk, hm]
  clear hcan hcan' hleg hLk
  have h3 := two_alloc (St.init w) (.cells #[.int .i64 W, .int .i64 H, .int .i64 per, .int .i64 wide, .slice a0 L c0] 24) (.cells (optBox o) 28)
  have H3 := Lib.hid h3
  clear h3
  go_enter Tryz.func5, Tryz.ntmps5
  go_wp2_with (first
   | (go_at_call 8; apply stop)
   | (refine wpList_load_blk rfl 24 _ rfl (H4.out.perm (star_left_comm _ _ _)) rfl Tryz.underlying24 rfl (by show _ = some 5; kernel_rfl) ?_)
   | (refine wpList_load_blk rfl 28 _ rfl H4.out rfl Tryz.underlying28 rfl (by show _ = some 14; kernel_rfl) ?_)
   | (go_at_call 7; refine (HLV.out _ H4.out).mono ?_; rintro e w5 ⟨rfl, h5⟩; have H5 := Lib.hid h5; clear h5 H4)
   | (go_at_call 7; refine (HLV.out _ H3.out).mono ?_; rintro e w4 ⟨rfl, h4⟩; have f0 := h4.right.cell 0 rfl; have f1 := h4.right.cell 1 rfl; have f2 := h4.right.cell 2 rfl; have f3 := h4.right.cell 3 rfl; have f4 := h4.right.cell 4 rfl; have H4 := Lib.hid h4; clear h4 H3))
  refine on ((HPK.out _ H4.out).mono ?_)
  rintro e w6 ⟨rfl, h6⟩
  have g0 := h6.right.cell 0 rfl
  have g1 := h6.right.cell 1 rfl
  have g2 := h6.right.cell 2 rfl
  have g3 := h6.right.cell 3 rfl
  have g4 := h6.right.cell 4 rfl
  have H6 := Lib.hid h6
  clear h6 H4 HPK f0 f1 f2 f3 f4 HLV
  go_wp2_with (first
   | (go_at_call 10; refine (HLG.out _ _ H6.out).mono ?_; rintro e w7 ⟨rfl, h7⟩; have H7 := Lib.hid h7; clear h7)
   | (refine wpList_load_blk rfl 28 _ rfl H6.out rfl Tryz.underlying28 rfl (by show _ = some 14; kernel_rfl) ?_)
   | (go_at_call 15; refine (HC.out _).mono ?_; rintro e w1 ⟨rfl, rfl⟩))
  go_ret
  exact ⟨rfl, HF.out _ H7.out.right.right⟩
 | true =>
  obtain ⟨Wn, rfl⟩ := Int.eq_ofNat_of_zero_le (show 0 ≤ W by omega)
  obtain ⟨Hn, rfl⟩ := Int.eq_ofNat_of_zero_le (show 0 ≤ H by omega)
  obtain ⟨pn, rfl⟩ := Int.eq_ofNat_of_zero_le (show 0 ≤ per by omega)
  obtain ⟨g1, g2, g3, g4, g5, g6, g7, g8, g9⟩ := legal24_facts hleg
  obtain ⟨wn, rfl⟩ := Int.eq_ofNat_of_zero_le (show 0 ≤ wide by omega)
  have hLn : Hn * (Wn * pn) = l.length := by
   have e : ((Hn * (Wn * pn) : Nat) : Int) = (L : Int) := by rw [hLk]; simp [Int.mul_comm, Int.mul_left_comm, Int.mul_assoc]
   rw [HLL.out]; exact_mod_cast e
  have hWn : Wn ≤ 300 := by
   have h1 : Wn * 1 ≤ Hn * (Wn * pn) := by
    rw [Nat.mul_left_comm]
    exact Nat.mul_le_mul_left _ (Nat.mul_le_mul (by omega : 1 ≤ Hn) (by omega : 1 ≤ pn))
   rw [hLn, HLL.out] at h1; omega
  have hHn : Hn ≤ 300 := by
   have h1 : Hn * 1 ≤ Hn * (Wn * pn) := Nat.mul_le_mul_left _ (Nat.mul_le_mul (by omega : 1 ≤ Wn) (by omega : 1 ≤ pn))
   rw [hLn, HLL.out] at h1; omega
  have HPK := Lib.hid (fun (w' : World) (h : St w w' (blk (w.heap.size + 1) (.cells (optBox o) 28) * (blk w.heap.size (.cells #[.int .i64 (Wn : Int), .int .i64 (Hn : Int), .int .i64 (pn : Int), .int .i64 (wn : Int), .slice a0 L c0] 24) * old w))) =>
   pack_ok h (fun w' h => HT.out w' h.right.right) (l := l) (v := .slice a0 L c0) (W := Wn) (H := Hn) (per := pn) (wide := wn) (fun w' h => by rw [HLL.out]; exact HRD.out w' h.right.right) HLT.out hLn (by rw [HLL.out]; omega) (by omega) (by omega) o hcan hleg)
  rw [show o.v = .agg (optBox o) from rfl] at HPK
  have HLG := Lib.hid (fun (G : SProp) (w' : World) (h : St w w' G) => rlegal_any h o (pn : Int) (wn : Int))
  rw [hleg, show o.v = .agg (optBox o) from rfl] at HLG
  have hLk2 : m * (pn : Int) = (L : Int) := by rw [hLk, hm]
  have hw1 : 1 ≤ wn := by omega
  have hw2 : wn ≤ 32 := by omega
  simp only [partV] at HPK
  clear hcan hcan' hleg hLk g1 g2 g3 g4 g5 g6 g7 g8 g9 hLn
  have h3 := two_alloc (St.init w) (.cells #[.int .i64 (Wn : Int), .int .i64 (Hn : Int), .int .i64 (pn : Int), .int .i64 (wn : Int), .slice a0 L c0] 24) (.cells (optBox o) 28)
  have H3 := Lib.hid h3
  clear h3
  go_enter Tryz.func5, Tryz.ntmps5
  go_wp2_with (first
   | (go_at_call 8; apply stop)
   | (refine wpList_load_blk rfl 24 _ rfl (H4.out.perm (star_left_comm _ _ _)) rfl Tryz.underlying24 rfl (by show _ = some 5; kernel_rfl) ?_)
   | (refine wpList_load_blk rfl 28 _ rfl H4.out rfl Tryz.underlying28 rfl (by show _ = some 14; kernel_rfl) ?_)
   | (go_at_call 7; refine (HLV.out _ H4.out).mono ?_; rintro e w5 ⟨rfl, h5⟩; have H5 := Lib.hid h5; clear h5 H4)
   | (go_at_call 7; refine (HLV.out _ H3.out).mono ?_; rintro e w4 ⟨rfl, h4⟩; have f0 := h4.right.cell 0 rfl; have f1 := h4.right.cell 1 rfl; have f2 := h4.right.cell 2 rfl; have f3 := h4.right.cell 3 rfl; have f4 := h4.right.cell 4 rfl; have H4 := Lib.hid h4; clear h4 H3))
  refine on ((HPK.out _ H4.out).mono ?_)
  rintro e w6 hd
  by_cases hall : ∀ x ∈ l, x < 2 ^ wn
  ·obtain ⟨v6, z, rfl, _, h6⟩ := hd.1 hall
   have HOV := Lib.hid (overF_false.2 hall)
   obtain ⟨av, cv, rfl⟩ := h6.reads.sub
   have h6 := h6.right
   clear hd hall
   have g0 := h6.right.cell 0 rfl
   have g1 := h6.right.cell 1 rfl
   have g2 := h6.right.cell 2 rfl
   have g3 := h6.right.cell 3 rfl
   have g4 := h6.right.cell 4 rfl
   have H6 := Lib.hid h6
   clear h6 H4 HPK f0 f1 f2 f3 f4 HLV
   go_wp2_with (first
    | (go_at_call 10; refine (HLG.out _ _ H6.out).mono ?_; rintro e w7 ⟨rfl, h7⟩; have r3 := h7.right.cell 3 rfl; have r4 := h7.right.cell 4 rfl; have H7 := Lib.hid h7; clear h7 g0 g1 g2 g3 g4)
    | (refine wpList_load_blk rfl 28 _ rfl H6.out rfl Tryz.underlying28 rfl (by show _ = some 14; kernel_rfl) ?_)
    | (go_at_call 15; refine (HC.out _).mono ?_; rintro e w1 ⟨rfl, rfl⟩))
   go_loopw [8, 75] (fun vo vi wr => ∃ k : Nat, k ≤ L ∧ vi = .int .i64 k ∧ vo = .bool (overF wn (l.take k)) ∧ wr = w7) (fun _ vi _ => L - (intOf vi).toNat)
   case atStart => exact ⟨0, Nat.zero_le _, rfl, rfl, rfl⟩
   case round =>
    obtain ⟨k, hk, rfl, rfl, rfl⟩ := hrel
    by_cases hkn : k < L
    ·have hkI : (k : Int) < L := by omega
     obtain ⟨x, hx⟩ : ∃ x, l[k]? = some x := ⟨l[k]'(by rw [HLL.out]; exact hkn), List.getElem?_eq_getElem _⟩
     obtain ⟨b, off, rfl, hc⟩ := (HRD.out _ H7.out.right.right).at_ hkn
     rw [List.getElem?_map, hx] at hc
     simp only [Option.map_some, uv] at hc
     have hxlt := HLT.out x (List.mem_of_getElem? hx)
     have HSN := Lib.hid (show overF wn (l.take (k + 1)) = (overF wn (l.take k) || decide (2 ^ wn ≤ x)) by rw [take_snoc hx, overF_snoc])
     clear hx
     generalize overF wn (l.take k) = B at *
     cases B with
     | true =>
      have HS2 := Lib.hid (show overF wn (l.take (k + 1)) = true by rw [HSN.out]; rfl)
      go_wp2_with fail
      exact ⟨⟨k + 1, by omega, by go_num, by rw [HS2.out], by first | rfl | trivial⟩, by simp [intOf]; omega⟩
     | false =>
      by_cases hs : wn < 32
      ·have hsI : (wn : Int) < 32 := by omega
       have hdiv : x / 2 ^ wn < 4294967296 := Nat.lt_of_le_of_lt (Nat.div_le_self _ _) hxlt
       have hsh : ((x : Int) / 2 ^ wn != 0) = decide (2 ^ wn ≤ x) := by
        have e : (x : Int) / 2 ^ wn = ((x / 2 ^ wn : Nat) : Int) := by simp
        rw [e, Bool.eq_iff_iff]
        have hp := Nat.two_pow_pos wn
        simp only [bne_iff_ne, ne_eq, decide_eq_true_eq]
        constructor
        ·intro h
         rcases Nat.lt_or_ge x (2 ^ wn) with h1 | h1
         ·rw [Nat.div_eq_of_lt h1] at h; simp at h
         ·exact h1
        ·intro h h2
         have : 1 ≤ x / 2 ^ wn := (Nat.le_div_iff_mul_le hp).2 (by omega)
         omega
       have HS2 := Lib.hid (show overF wn (l.take (k + 1)) = ((x : Int) / 2 ^ wn != 0) by rw [HSN.out, hsh]; rfl)
       clear hsh
       go_wp2_with fail
       all_goals exact ⟨⟨k + 1, by omega, by go_num, by rw [HS2.out], by first | rfl | trivial⟩, by simp [intOf]; omega⟩
      ·have hsI : ¬ (wn : Int) < 32 := by omega
       have hw32 : wn = 32 := by omega
       have HS2 := Lib.hid (show overF wn (l.take (k + 1)) = false by
        rw [HSN.out, hw32, decide_eq_false (by omega)]; rfl)
       clear hw32
       go_wp2_with fail
       exact ⟨⟨k + 1, by omega, by go_num, by rw [HS2.out], by first | rfl | trivial⟩, by simp [intOf]; omega⟩
    ·obtain rfl : k = L := by omega
     have hend : overF wn (l.take k) = false := by rw [← HLL.out, List.take_length]; exact HOV.out
     go_wp2_with fail
     go_ret
     exact ⟨by first | rfl | simp, HF.out _ H7.out.right.right⟩
  ·obtain ⟨rfl, h6⟩ := hd.2 hall
   have HOV := Lib.hid (show overF wn l = true by
    cases h : overF wn l with
    | true => rfl
    | false => exact absurd (overF_false.1 h) hall)
   clear hd hall
   have g0 := h6.right.cell 0 rfl
   have g1 := h6.right.cell 1 rfl
   have g2 := h6.right.cell 2 rfl
   have g3 := h6.right.cell 3 rfl
   have g4 := h6.right.cell 4 rfl
   have H6 := Lib.hid h6
   clear h6 H4 HPK f0 f1 f2 f3 f4 HLV
   go_wp2_with (first
    | (go_at_call 10; refine (HLG.out _ _ H6.out).mono ?_; rintro e w7 ⟨rfl, h7⟩; have r3 := h7.right.cell 3 rfl; have r4 := h7.right.cell 4 rfl; have H7 := Lib.hid h7; clear h7 g0 g1 g2 g3 g4)
    | (refine wpList_load_blk rfl 28 _ rfl H6.out rfl Tryz.underlying28 rfl (by show _ = some 14; kernel_rfl) ?_)
    | (go_at_call 15; refine (HC.out _).mono ?_; rintro e w1 ⟨rfl, rfl⟩))
   go_loopw [8, 75] (fun vo vi wr => ∃ k : Nat, k ≤ L ∧ vi = .int .i64 k ∧ vo = .bool (overF wn (l.take k)) ∧ wr = w7) (fun _ vi _ => L - (intOf vi).toNat)
   case atStart => exact ⟨0, Nat.zero_le _, rfl, rfl, rfl⟩
   case round =>
    obtain ⟨k, hk, rfl, rfl, rfl⟩ := hrel
    by_cases hkn : k < L
    ·have hkI : (k : Int) < L := by omega
     obtain ⟨x, hx⟩ : ∃ x, l[k]? = some x := ⟨l[k]'(by rw [HLL.out]; exact hkn), List.getElem?_eq_getElem _⟩
     obtain ⟨b, off, rfl, hc⟩ := (HRD.out _ H7.out.right.right).at_ hkn
     rw [List.getElem?_map, hx] at hc
     simp only [Option.map_some, uv] at hc
     have hxlt := HLT.out x (List.mem_of_getElem? hx)
     have HSN := Lib.hid (show overF wn (l.take (k + 1)) = (overF wn (l.take k) || decide (2 ^ wn ≤ x)) by rw [take_snoc hx, overF_snoc])
     clear hx
     generalize overF wn (l.take k) = B at *
     cases B with
     | true =>
      have HS2 := Lib.hid (show overF wn (l.take (k + 1)) = true by rw [HSN.out]; rfl)
      go_wp2_with fail
      exact ⟨⟨k + 1, by omega, by go_num, by rw [HS2.out], by first | rfl | trivial⟩, by simp [intOf]; omega⟩
     | false =>
      by_cases hs : wn < 32
      ·have hsI : (wn : Int) < 32 := by omega
       have hdiv : x / 2 ^ wn < 4294967296 := Nat.lt_of_le_of_lt (Nat.div_le_self _ _) hxlt
       have hsh : ((x : Int) / 2 ^ wn != 0) = decide (2 ^ wn ≤ x) := by
        have e : (x : Int) / 2 ^ wn = ((x / 2 ^ wn : Nat) : Int) := by simp
        rw [e, Bool.eq_iff_iff]
        have hp := Nat.two_pow_pos wn
        simp only [bne_iff_ne, ne_eq, decide_eq_true_eq]
        constructor
        ·intro h
         rcases Nat.lt_or_ge x (2 ^ wn) with h1 | h1
         ·rw [Nat.div_eq_of_lt h1] at h; simp at h
         ·exact h1
        ·intro h h2
         have : 1 ≤ x / 2 ^ wn := (Nat.le_div_iff_mul_le hp).2 (by omega)
         omega
       have HS2 := Lib.hid (show overF wn (l.take (k + 1)) = ((x : Int) / 2 ^ wn != 0) by rw [HSN.out, hsh]; rfl)
       clear hsh
       go_wp2_with fail
       all_goals exact ⟨⟨k + 1, by omega, by go_num, by rw [HS2.out], by first | rfl | trivial⟩, by simp [intOf]; omega⟩
      ·have hsI : ¬ (wn : Int) < 32 := by omega
       have hw32 : wn = 32 := by omega
       have HS2 := Lib.hid (show overF wn (l.take (k + 1)) = false by
        rw [HSN.out, hw32, decide_eq_false (by omega)]; rfl)
       clear hw32
       go_wp2_with fail
       exact ⟨⟨k + 1, by omega, by go_num, by rw [HS2.out], by first | rfl | trivial⟩, by simp [intOf]; omega⟩
    ·obtain rfl : k = L := by omega
     have hend : overF wn (l.take k) = true := by rw [← HLL.out, List.take_length]; exact HOV.out
     go_wp2_with fail
     go_ret
     exact ⟨by first | rfl | simp, HF.out _ H7.out.right.right⟩
end Go.Proofs.YtboflbdniogcdaaGreatDoor.cargs
