/-
  Layer 16: what is behind rows doesn't matter; fewer of them are their beginning; of more there is none.
-/
import Derived.Test.YtdjoigobmmaaiaaDoorG4V
import Derived.Deep.QuietTactic
import Derived.BigQuiet
namespace Go.Proofs.YtdjoigobmmaaiaaDoor.gtail
open Go.RowKit Go.Mz
set_option linter.unusedVariables false
set_option linter.unusedSimpArgs false
set_option maxRecDepth 100000

/-- A row of two numbers; and its pixels. -/
def rowT (a b : Nat) : List Nat := if a < b then [a, b] else if a = b then [a] else []
def pxT (a b : Nat) : List Nat := if a < b then runP a false ++ (runP (b - a) true ++ runP (40 - b) false) else if a = b then runP a false ++ runP (40 - a) true else runP 40 false
theorem pxT_all : ∀ a ∈ List.range 40, ∀ b ∈ List.range 40, chg (pxT a b) = rowT a b ∧ (pxT a b).length = 40 ∧ ∀ x ∈ pxT a b, x ≤ 1 := by decide +kernel
theorem pxT_ok {a b : Nat} (ha : a < 40) (hb : b < 40) : chg (pxT a b) = rowT a b ∧ (pxT a b).length = 40 ∧ Bit (pxT a b) := pxT_all a (List.mem_range.2 ha) b (List.mem_range.2 hb)

set_option maxHeartbeats 40000000 in
theorem walk (vl : Value) (ls : List UInt8) (n : Int) (vm : Value) (ms : List UInt8) (w : World) (hL : Reads w 1 vl ls.length (ls.map bv)) (hM : Reads w 1 vm ms.length (ms.map bv)) (htab : Lib.TabIs Tryd.prog w "strings.asciiSpace" .u8 Lib.asciiSpaceTab) :
    Calls Tryd.prog 6 #[vl, .int .i64 n, vm] w fun e w' => e = .returned (.bool true) ∧ Below w.heap.size w w' := by
  have HT := Lib.hid (tab_old htab); clear htab
  have HL := Lib.hid (Stb.of_old hL)
  have HM := Lib.hid (Stb.of_old hM)
  obtain ⟨a0, c0, rfl⟩ := hL.sub
  obtain ⟨am, cm, rfl⟩ := hM.sub
  have hm := hL.len_le
  have hm2 := hM.len_le
  unfold maxLen at hm hm2
  clear hL hM
  have H := Lib.hid (St.init w)
  have fin : ∀ w', St w w' (Mz.old w) → Below w.heap.size w w' := fun w' h => (h.perm ((emp_star _).symm.trans (star_comm _ _))).below
  have FIN := Lib.hid fin; clear fin
  have T := elemBytes
  have TR := elemRows
  go_enter Tryd.func6, Tryd.ntmps6
  go_wp2_with fail
  refine (lives16 H.out HT.out).mono ?_
  rintro e w1 ⟨rfl, h2⟩
  have H2 := Lib.hid h2; clear h2 H
  by_cases hbad : 200 < ls.length ∨ 50 < ms.length
  · have hd : (200 : Int) < ls.length ∨ (¬ (200 : Int) < ls.length ∧ (50 : Int) < ms.length) := by omega
    clear hbad
    rcases hd with h1 | ⟨h1, h2⟩
    · go_wp2_with fail
      refine (lives16 H2.out HT.out).mono ?_
      rintro e w2 ⟨rfl, h3⟩
      have H3 := Lib.hid h3; clear h3
      go_wp2_with fail
      go_ret
      exact ⟨rfl, FIN.out _ H3.out⟩
    · have h1d : decide ((200 : Int) < ls.length) = false := decide_eq_false h1
      go_wp2_with fail
      refine (lives16 H2.out HT.out).mono ?_
      rintro e w2 ⟨rfl, h3⟩
      have H3 := Lib.hid h3; clear h3
      go_wp2_with fail
      go_ret
      exact ⟨rfl, FIN.out _ H3.out⟩
  have h1 : ¬ (200 : Int) < ls.length := by omega
  have h2 : ¬ (50 : Int) < ms.length := by omega
  have h1d : decide ((200 : Int) < ls.length) = false := decide_eq_false h1
  have h2d : decide ((50 : Int) < ms.length) = false := decide_eq_false h2
  have hls : ls.length ≤ 200 := by omega
  have hms : ms.length ≤ 50 := by omega
  clear hbad
  have H3 := Lib.hid (St.own_nil 41 1 (rowsP_nil H2.out))
  go_wp2_with fail
  clear h1d h2d h1 h2 H2
  go_loopw [7, 8] (fun vr vi wr => ∃ (k : Nat) (Ps : List (List Nat)) (R : List (Value × List Nat)) (ao : Option Addr) (co : Nat), 2 * k ≤ ls.length ∧ vi = .int .i64 ((2 * k : Nat) : Int) ∧ vr = .slice ao R.length co ∧ R.length = k ∧ Ps.length = k ∧ k ≤ 30 ∧ R.map Prod.snd = Ps.map chg ∧ (∀ P ∈ Ps, P.length = 40 ∧ Bit P) ∧
    St w wr (own 41 1 (.slice ao R.length co) R.length (R.map Prod.fst) * (rowsP R * Mz.old w))) (fun _ vi _ => ls.length + 2 - (intOf vi).toNat)
  case atStart => exact ⟨0, [], [], none, 0, by omega, rfl, rfl, rfl, rfl, by omega, rfl, (fun P hP => by cases hP), H3.out⟩
  case round =>
    clear H3
    obtain ⟨k, Ps, R, ao, co, hk, rfl, rfl, hRk, hPk, hk30, hRP, hPs, hst⟩ := hrel
    have hRl : R.length ≤ 30 := by omega
    by_cases hgo : 2 * k + 1 < ls.length ∧ R.length < 30
    · obtain ⟨hg1, hg2⟩ := hgo
      have hg1i : ((2 * k : Nat) : Int) + 1 < ls.length := by omega
      have hg2i : (R.length : Int) < 30 := by omega
      have hg1d : decide (2 * (k : Int) + 1 < ls.length) = true := decide_eq_true (by omega)
      obtain ⟨g, o, rfl, e1⟩ := (HL.out wr hst.right.right).at_ (j := 2 * k) (by omega)
      obtain ⟨g', o', e0, e2⟩ := (HL.out wr hst.right.right).at_ (j := 2 * k + 1) (by omega)
      cases e0
      rw [List.getElem?_map, List.getElem?_eq_getElem (by omega)] at e1 e2
      simp only [Option.map_some, bv] at e1 e2
      have hx1 := (ls[2 * k]'(by omega)).toNat_lt
      have hx2 := (ls[2 * k + 1]'(by omega)).toNat_lt
      generalize (ls[2 * k]'(by omega)).toNat = x at *
      generalize (ls[2 * k + 1]'(by omega)).toNat = y at *
      have hpx := pxT_ok (a := x % 40) (b := y % 40) (by omega) (by omega)
      have hPs2 : ∀ Q ∈ Ps ++ [pxT (x % 40) (y % 40)], Q.length = 40 ∧ Bit Q := fun Q hQ => by
        rcases List.mem_append.1 hQ with h | h
        · exact hPs Q h
        · rw [List.mem_singleton.1 h]; exact hpx.2
      have hRP2 : R.map Prod.snd ++ [rowT (x % 40) (y % 40)] = (Ps ++ [pxT (x % 40) (y % 40)]).map chg := by rw [hRP, List.map_append, List.map_cons, List.map_nil, hpx.1]
      have hPl2 : (Ps ++ [pxT (x % 40) (y % 40)]).length = k + 1 := by simp [hPk]
      have HH := Lib.hid (⟨hPs2, hRP2, hPl2⟩ : _ ∧ _ ∧ _)
      have HRK := Lib.hid hRk
      have HST := Lib.hid hst
      clear hst hRP hPs hPs2 hRP2 hPl2 hRk hPk hpx
      generalize Ps ++ [pxT (x % 40) (y % 40)] = Ps2 at *
      have hx40 : x % 40 < 40 := by omega
      have hy40 : y % 40 < 40 := by omega
      obtain ⟨a, ha⟩ : ∃ a, a = x % 40 := ⟨_, rfl⟩
      obtain ⟨b, hb⟩ : ∃ b, b = y % 40 := ⟨_, rfl⟩
      have hai : (x : Int) % 40 = (a : Int) := by omega
      have hbi : (y : Int) % 40 = (b : Int) := by omega
      rw [← ha, ← hb] at HH
      have hk0 : (0 : Int) ≤ 2 * (k : Int) := by omega
      have hk0d : (0 : Int) ≤ 2 * (k : Int) + 1 := by omega
      clear ha hb
      go_wp2_with fail
      go_quiet (fail)
      have H4 := Lib.hid (HST.out.drewN nq)
      generalize wr.drewN nq = w4 at *
      clear HST e1 e2 hg1d
      rcases Nat.lt_trichotomy a b with hab | hab | hab
      · have hl : rowT a b = [a, b] := by rw [rowT, if_pos hab]
        have habi : (a : Int) < b := by omega
        rw [hl] at HH
        clear hl
        go_wp2_with (at_builtin; apply stop)
        have h5 := (H4.out.lit #[.int .i64 (a : Int), .int .i64 (b : Int)] 3 2 rfl (by decide)).perm (star_left_comm _ _ _)
        have hrr := reads_row1 (w4.alloc (.cells #[.int .i64 (a : Int), .int .i64 (b : Int)] 3)) (.slice (some ⟨w4.heap.size, 0, none⟩) 2 2)
        rw [show (w4.alloc (.cells #[.int .i64 (a : Int), .int .i64 (b : Int)] 3)).heap.size = w4.heap.size + 1 from by simp] at hrr
        refine on (wpList_append_sep TR rfl _ _ rfl rfl (h5.drop_alloc (.cells #[.slice (some ⟨w4.heap.size, 0, none⟩) 2 2] 41)) rfl hrr (by intro u hu; rw [List.mem_singleton.1 hu]; rfl) (by unfold maxLen; omega) (by omega) ?_)
        intro v8 w8 h8 _
        generalize w4.heap.size = gx at *
        have h8 : St w w8 (own 41 1 v8 (R ++ [(Value.slice (some ⟨gx, 0, none⟩) 2 2, [a, b])]).length ((R ++ [(Value.slice (some ⟨gx, 0, none⟩) 2 2, [a, b])]).map Prod.fst) * (rowsP (R ++ [(Value.slice (some ⟨gx, 0, none⟩) 2 2, [a, b])]) * Mz.old w)) := by
          rw [rowsP_snoc, List.length_append, List.map_append, star_assoc]
          exact h8
        have hs1 : (R ++ [(Value.slice (some ⟨gx, 0, none⟩) 2 2, [a, b])]).length = R.length + 1 := by simp
        have hs3 : (R ++ [(Value.slice (some ⟨gx, 0, none⟩) 2 2, [a, b])]).map Prod.snd = R.map Prod.snd ++ [[a, b]] := by simp
        generalize R ++ [(Value.slice (some ⟨gx, 0, none⟩) 2 2, [a, b])] = R2 at *
        obtain ⟨a8, c8, rfl⟩ := h8.reads.sub
        have HS := Lib.hid (⟨hs1, hs3⟩ : _ ∧ _)
        have H8 := Lib.hid h8
        clear hs1 hs3 h8 H4 h5
        go_wp2_with fail
        obtain ⟨g1, g2, g3⟩ := HH.out
        obtain ⟨s1, s3⟩ := HS.out
        have := HRK.out
        exact ⟨⟨k + 1, Ps2, R2, a8, c8, by omega, by go_num, rfl, by omega, g3, by omega, by rw [s3]; exact g2, g1, H8.out⟩, by simp [intOf]; omega⟩
      · have hl : rowT a b = [a] := by rw [rowT, if_neg (by omega), if_pos hab]
        subst hab
        rw [hl] at HH
        clear hl
        go_wp2_with (at_builtin; apply stop)
        have h5 := (H4.out.lit #[.int .i64 (a : Int)] 3 1 rfl (by decide)).perm (star_left_comm _ _ _)
        have hrr := reads_row1 (w4.alloc (.cells #[.int .i64 (a : Int)] 3)) (.slice (some ⟨w4.heap.size, 0, none⟩) 1 1)
        rw [show (w4.alloc (.cells #[.int .i64 (a : Int)] 3)).heap.size = w4.heap.size + 1 from by simp] at hrr
        refine on (wpList_append_sep TR rfl _ _ rfl rfl (h5.drop_alloc (.cells #[.slice (some ⟨w4.heap.size, 0, none⟩) 1 1] 41)) rfl hrr (by intro u hu; rw [List.mem_singleton.1 hu]; rfl) (by unfold maxLen; omega) (by omega) ?_)
        intro v8 w8 h8 _
        generalize w4.heap.size = gx at *
        have h8 : St w w8 (own 41 1 v8 (R ++ [(Value.slice (some ⟨gx, 0, none⟩) 1 1, [a])]).length ((R ++ [(Value.slice (some ⟨gx, 0, none⟩) 1 1, [a])]).map Prod.fst) * (rowsP (R ++ [(Value.slice (some ⟨gx, 0, none⟩) 1 1, [a])]) * Mz.old w)) := by
          rw [rowsP_snoc, List.length_append, List.map_append, star_assoc]
          exact h8
        have hs1 : (R ++ [(Value.slice (some ⟨gx, 0, none⟩) 1 1, [a])]).length = R.length + 1 := by simp
        have hs3 : (R ++ [(Value.slice (some ⟨gx, 0, none⟩) 1 1, [a])]).map Prod.snd = R.map Prod.snd ++ [[a]] := by simp
        generalize R ++ [(Value.slice (some ⟨gx, 0, none⟩) 1 1, [a])] = R2 at *
        obtain ⟨a8, c8, rfl⟩ := h8.reads.sub
        have HS := Lib.hid (⟨hs1, hs3⟩ : _ ∧ _)
        have H8 := Lib.hid h8
        clear hs1 hs3 h8 H4 h5
        go_wp2_with fail
        obtain ⟨g1, g2, g3⟩ := HH.out
        obtain ⟨s1, s3⟩ := HS.out
        have := HRK.out
        exact ⟨⟨k + 1, Ps2, R2, a8, c8, by omega, by go_num, rfl, by omega, g3, by omega, by rw [s3]; exact g2, g1, H8.out⟩, by simp [intOf]; omega⟩
      · have hl : rowT a b = [] := by rw [rowT, if_neg (by omega), if_neg (by omega)]
        have habi : ¬ (a : Int) < b := by omega
        have habe : ¬ (a : Int) = b := by omega
        rw [hl] at HH
        clear hl
        go_wp2_with (at_builtin; apply stop)
        refine on (wpList_append_sep TR rfl _ _ rfl rfl (H4.out.drop_alloc (.cells #[.slice none 0 0] 41)) rfl (reads_row1 w4 (.slice none 0 0)) (by intro u hu; rw [List.mem_singleton.1 hu]; rfl) (by unfold maxLen; omega) (by omega) ?_)
        intro v8 w8 h8 _
        have h8 : St w w8 (own 41 1 v8 (R ++ [(Value.slice none 0 0, [])]).length ((R ++ [(Value.slice none 0 0, [])]).map Prod.fst) * (rowsP (R ++ [(Value.slice none 0 0, [])]) * Mz.old w)) := by
          have h9 := (St.own_nil 3 1 h8).perm (star_left_comm _ _ _)
          rw [rowsP_snoc, List.length_append, List.map_append, star_assoc]
          exact h9
        have hs1 : (R ++ [(Value.slice none 0 0, ([] : List Nat))]).length = R.length + 1 := by simp
        have hs3 : (R ++ [(Value.slice none 0 0, ([] : List Nat))]).map Prod.snd = R.map Prod.snd ++ [[]] := by simp
        generalize R ++ [(Value.slice none 0 0, ([] : List Nat))] = R2 at *
        obtain ⟨a8, c8, rfl⟩ := h8.reads.sub
        have HS := Lib.hid (⟨hs1, hs3⟩ : _ ∧ _)
        have H8 := Lib.hid h8
        clear hs1 hs3 h8 H4
        go_wp2_with fail
        obtain ⟨g1, g2, g3⟩ := HH.out
        obtain ⟨s1, s3⟩ := HS.out
        have := HRK.out
        exact ⟨⟨k + 1, Ps2, R2, a8, c8, by omega, by go_num, rfl, by omega, g3, by omega, by rw [s3]; exact g2, g1, H8.out⟩, by simp [intOf]; omega⟩
    · have hor : (2 * k + 1 < ls.length ∧ ¬ (R.length : Int) < 30 ∧ decide (2 * (k : Int) + 1 < ls.length) = true) ∨ (¬ 2 * (k : Int) + 1 < ls.length ∧ decide (2 * (k : Int) + 1 < ls.length) = false) := by
        by_cases h : 2 * (k : Int) + 1 < ls.length
        · exact .inl ⟨by omega, by omega, decide_eq_true h⟩
        · exact .inr ⟨h, decide_eq_false h⟩
      clear hgo
      have hPl : R.length = Ps.length := by omega
      have hro : ∀ x ∈ R, RowOk 40 x.2 := fun x hx => by
        have h1 : x.2 ∈ R.map Prod.snd := List.mem_map_of_mem hx
        rw [hRP] at h1
        obtain ⟨P, hP, e⟩ := List.mem_map.1 h1
        rw [← e]
        exact rowOk_chg (hPs P hP).1 (by omega)
      have HE := Lib.hid (encode16_any (width := 40) hst (fun w h => HT.out w h.right.right) (v := .slice ao R.length co) (fun w h => h.reads) (fun w h => rowsP_reads R _ h.right) (by omega) (by omega) hro (by omega))
      rw [hRP] at HE
      have hBl : (bytesB false (enc4 40 (Ps.map chg))).length ≤ 10000000 := by
        have h1 : (bytesB false (enc4 40 (Ps.map chg))).length = ((enc4 40 (Ps.map chg)).length + 7) / 8 := length_bytesB _ _
        have h2 := agAll_len (width := 40) (by omega) (Ps.map chg) [] (fun l hl => by obtain ⟨P, hP, rfl⟩ := List.mem_map.1 hl; exact rowOk_chg (hPs P hP).1 (by omega)) ⟨List.Pairwise.nil, fun x hx => by cases hx⟩
        rw [List.length_map] at h2
        rw [h1, enc4, List.length_append, endW_len]; omega
      have HE1 := Lib.hid (fun K (hK : K ≤ Ps.length) => (enc4_told (width := 40) (by decide) (by decide) hPs ms K).1 hK)
      have hE2 := (enc4_told (width := 40) (by decide) (by decide) hPs [] 0).2
      rw [List.append_nil, ← hPl] at hE2
      generalize bytesB false (enc4 40 (Ps.map chg)) = B at *
      obtain ⟨K, hK, hKR⟩ : ∃ K : Nat, wrap64 ((IntKind.u64.wrap n).tmod ((R.length : Int) + 1)) = K ∧ K ≤ R.length := by
        have e : IntKind.u64.wrap n = n % 18446744073709551616 := IntKind.wrap_u64 n
        have h1 := Int.emod_nonneg n (show (18446744073709551616 : Int) ≠ 0 by decide)
        rw [e, Int.tmod_eq_emod_of_nonneg h1]
        have h2 := Int.emod_nonneg (n % 18446744073709551616) (show ((R.length : Int) + 1) ≠ 0 by omega)
        have h3 := Int.emod_lt_of_pos (n % 18446744073709551616) (show (0 : Int) < (R.length : Int) + 1 by omega)
        generalize (n % 18446744073709551616) % ((R.length : Int) + 1) = r at *
        rw [IntWalk.wrap64_in _ (by omega)]
        exact ⟨r.toNat, by omega, by omega⟩
      have HQ := Lib.hid (⟨hE2, hRP, hPl, hK⟩ : _ ∧ _ ∧ _ ∧ _)
      clear hst hro hRP hPs hE2 hK hPl hRk hPk hk30
      have hK30 : K ≤ 30 := by omega
      rcases hor with ⟨h1, h2, h3⟩ | ⟨h1, h2⟩
      all_goals
        go_wp2_with fail
        refine HE.out.mono ?_
        rintro e w5 ⟨v5, rfl, h5⟩
        obtain ⟨a5, c5, rfl⟩ := h5.reads.sub
        have h6 := h5.lit #[] 5 0 rfl (by decide)
        have H6 := Lib.hid h6; clear h5 h6 HE h1 h2
        try clear h3
        obtain ⟨gE, hgE⟩ : ∃ gE, gE = w5.heap.size := ⟨_, rfl⟩
        rw [← hgE] at H6
        go_wp2_with (at_builtin; apply stop)
        rw [← hgE, HQ.out.2.2.2]
        refine on (wpList_append_sep T rfl _ _ rfl rfl H6.out rfl H6.out.right.reads (bv_oneCell B) (by unfold maxLen; omega) (by omega) ?_)
        intro v7 w7 h7 _
        have h7 : St w w7 (own 5 1 v7 B.length (B.map bv) * (own 5 1 (.slice a5 B.length c5) B.length (B.map bv) * (own 41 1 (.slice ao R.length co) R.length (R.map Prod.fst) * (rowsP R * Mz.old w)))) := by
          rw [Nat.zero_add] at h7; exact h7
        obtain ⟨a7, c7, rfl⟩ := h7.reads.sub
        have H7 := Lib.hid h7; clear h7 H6 hgE
        simp only [Nat.zero_add]
        go_wp2_with (at_builtin; apply stop)
        refine on (wpList_append_sep T rfl _ _ rfl rfl H7.out rfl (HM.out _ H7.out.right.right.right.right) (bv_oneCell ms) (by unfold maxLen; omega) (by omega) ?_)
        intro v8 w8 h8 _
        have h8 : St w w8 (own 5 1 v8 (B ++ ms).length ((B ++ ms).map bv) * (own 5 1 (.slice a5 B.length c5) B.length (B.map bv) * (own 41 1 (.slice ao R.length co) R.length (R.map Prod.fst) * (rowsP R * Mz.old w)))) := by
          rw [List.length_append, List.map_append]; exact h8
        obtain ⟨a8, c8, rfl⟩ := h8.reads.sub
        have hBm : (B ++ ms).length = B.length + ms.length := List.length_append
        have C1 := decode16_any h8 (fun w h => HT.out w h.right.right.right.right) (bs := B ++ ms) (vb := .slice a8 (B ++ ms).length c8) Stb.of_own (by omega) (width := 40) (N := K) (by decide) (by decide) (by omega)
        rw [HE1.out K (by rw [← HQ.out.2.2.1]; exact hKR)] at C1
        have HC1 := Lib.hid C1
        clear C1 h8 H7
        try rw [← hBm]
        generalize hBM : B ++ ms = BM at *
        clear hBM hBm
        go_wp2_with fail
        refine HC1.out.mono ?_
        rintro e w9 ⟨v9, R2, rfl, hR2, h9⟩
        have hRR : R2.map Prod.snd = (R.map Prod.snd).take K := by rw [hR2, HQ.out.2.1]; exact List.map_take
        have hR2l : R2.length = K := by have := congrArg List.length hRR; rw [List.length_map, List.length_take, List.length_map] at this; omega
        rw [hR2l] at h9
        obtain ⟨a9, c9, rfl⟩ := h9.reads.sub
        have h9 := h9.perm (show _ = own 5 1 (.slice a8 BM.length c8) BM.length (BM.map bv) * (own 5 1 (.slice a5 B.length c5) B.length (B.map bv) * (own 41 1 (.slice a9 K c9) K (R2.map Prod.fst) * (rowsP R2 * (own 41 1 (.slice ao R.length co) R.length (R.map Prod.fst) * (rowsP R * Mz.old w))))) by ac_rfl)
        have C2 := decode16_any h9.right (fun w h => HT.out w h.right.right.right.right.right) (bs := B) (vb := .slice a5 B.length c5) Stb.of_own (by omega) (width := 40) (N := R.length + 1) (by decide) (by decide) (by omega)
        rw [HQ.out.1] at C2
        have HC2 := Lib.hid C2
        have HQ2 := Lib.hid (⟨hRR, hR2l⟩ : _ ∧ _)
        clear h9 hRR hR2l hR2 HC1 C2
        simp only [erD]
        go_wp2_with fail
        refine HC2.out.mono ?_
        rintro e w10 ⟨v10, R3, rfl, _, h10⟩
        obtain ⟨a10, c10, rfl⟩ := h10.reads.sub
        have H10 := Lib.hid h10.right.right.right
        clear h10 HC2
        simp only [erD]
        go_wp2_with fail
        go_loopw [123] (fun vi wr => ∃ q : Nat, q ≤ K ∧ vi = .int .i64 q ∧ St w wr (own 41 1 (.slice a9 K c9) K (R2.map Prod.fst) * (rowsP R2 * (own 41 1 (.slice ao R.length co) R.length (R.map Prod.fst) * (rowsP R * Mz.old w))))) (fun vi _ => K - (intOf vi).toNat)
        case atStart => exact ⟨0, by omega, rfl, H10.out⟩
        case round =>
          clear H10
          obtain ⟨q, hq, rfl, hst⟩ := hrel
          by_cases hqK : q < K
          · have hql : (q : Int) < K := by omega
            have hqR : q < R.length := by omega
            have hqRl : (q : Int) < R.length := by omega
            have hk2 : q < R2.length := by rw [HQ2.out.2]; exact hqK
            obtain ⟨g, o, rfl, e1⟩ := (hst.reads).at_ hqK
            obtain ⟨g2, o2, rfl, e2⟩ := (hst.right.right.reads).at_ hqR
            have hx := List.getElem?_eq_getElem hqR
            have hy := List.getElem?_eq_getElem hk2
            have hz := congrArg (fun l => l[q]?) HQ2.out.1
            simp only [List.getElem?_map, List.getElem?_take, if_pos hqK] at hz
            rw [hx, hy] at hz
            rw [List.getElem?_map, hy] at e1
            rw [List.getElem?_map, hx] at e2
            simp only [Option.map_some, Option.some.injEq] at e1 e2 hz
            have hm1 : R[q] ∈ R := List.getElem_mem hqR
            have hm2 : R2[q] ∈ R2 := List.getElem_mem hk2
            clear hx hy
            generalize R[q] = x at *
            generalize R2[q] = y at *
            obtain ⟨xv, xl⟩ := x
            obtain ⟨yv, yl⟩ := y
            simp only at hz e1 e2
            subst hz
            have r1 : Reads wr 1 xv yl.length (yl.map nv) := rowsP_reads R _ hst.right.right.right _ hm1
            have r2 : Reads wr 1 yv yl.length (yl.map nv) := rowsP_reads R2 _ hst.right _ hm2
            obtain ⟨ax, cx, rfl⟩ := r1.sub
            obtain ⟨ay, cy, rfl⟩ := r2.sub
            have hm7 := r1.len_le
            unfold maxLen at hm7
            have HST2 := Lib.hid hst
            have HE1' := Lib.hid (fun m => (by have := HST2.out.drewN m; exact rowsP_reads R _ this.right.right.right _ hm1 : Reads (wr.drewN m) 1 (.slice ax yl.length cx) yl.length (yl.map nv)))
            have HE2' := Lib.hid (fun m => (by have := HST2.out.drewN m; exact rowsP_reads R2 _ this.right _ hm2 : Reads (wr.drewN m) 1 (.slice ay yl.length cy) yl.length (yl.map nv)))
            clear hst r1 r2 hm1 hm2 hk2
            go_wp2_with fail
            go_quiet (fail)
            have H11 := Lib.hid (HST2.out.drewN nq)
            have r1 := HE1'.out nq
            have r2 := HE2'.out nq
            have f1 : (wr.drewN nq).cell? ⟨g, o + q, none⟩ = some (.slice ay yl.length cy) := by simpa using e1
            have f2 : (wr.drewN nq).cell? ⟨g2, o2 + q, none⟩ = some (.slice ax yl.length cx) := by simpa using e2
            clear HST2 HE1' HE2' e1 e2
            generalize wr.drewN nq = w12 at *
            have R1 := Lib.hid r1; have R2' := Lib.hid r2
            clear r1 r2
            go_wp2_with fail
            go_loopw [142] (fun vj wz => ∃ (j m : Nat), j ≤ yl.length ∧ vj = .int .i64 j ∧ wz = w12.drewN m) (fun vj _ => yl.length - (intOf vj).toNat)
            case atStart => exact ⟨0, 0, by omega, rfl, rfl⟩
            case round =>
              obtain ⟨j, m, hj, rfl, rfl⟩ := hrel
              by_cases hjn : j < yl.length
              · have hjl : (j : Int) < yl.length := by omega
                obtain ⟨gx, ox, e7, y1⟩ := R1.out.at_ hjn
                obtain ⟨gy, oy, e8, y2⟩ := R2'.out.at_ hjn
                subst e7 e8
                rw [List.getElem?_map, List.getElem?_eq_getElem hjn] at y1 y2
                simp only [Option.map_some, nv] at y1 y2
                generalize yl[j] = z at *
                go_wp2_with fail
                go_quiet (fail)
                go_wp2_with fail
                exact ⟨⟨j + 1, _, by omega, by go_num, rfl⟩, by simp [intOf]; omega⟩
              · obtain rfl : j = yl.length := by omega
                have H13 := Lib.hid (H11.out.drewN m)
                generalize w12.drewN m = w13 at *
                clear f1 f2 H11 R1 R2'
                go_wp2_with fail
                exact ⟨⟨q + 1, by omega, by go_num, H13.out⟩, by simp [intOf]; omega⟩
          · obtain rfl : q = K := by omega
            have HF := Lib.hid (FIN.out _ hst.right.right.right.right)
            clear hst
            go_wp2_with fail
            go_ret
            exact ⟨rfl, HF.out⟩
end Go.Proofs.YtdjoigobmmaaiaaDoor.gtail
