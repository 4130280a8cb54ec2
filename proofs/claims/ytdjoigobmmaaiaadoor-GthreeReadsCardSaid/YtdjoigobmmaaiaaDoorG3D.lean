/-
  Layer 15: the document's pages (package mezzotintref15), read.
-/
import Derived.Test.YtdjoigobmmaaiaaDoorG3M
import Derived.Test.YtdjoigobmmaaiaaDoorMhDb
import Derived.Test.YtdjoigobmmaaiaaDoorMhDc
import Derived.Test.YtdjoigobmmaaiaaDoorMhP
namespace Go.Proofs.YtdjoigobmmaaiaaDoor
open Go.RowKit Go.Mz
set_option linter.unusedVariables false
set_option linter.unusedSimpArgs false
set_option maxRecDepth 100000

set_option maxHeartbeats 1000000 in
theorem white15_any (w : World) (n : Nat) (hn : n ≤ 1000000) :
    Calls Tryd.prog 47 #[.int .i64 (n : Int)] w fun e w' => e = .returned (.string ⟨(tx (runP n false)).toArray⟩) ∧ w' = w := by
  go_enter Tryd.func47, Tryd.ntmps47
  go_wp2_with fail
  go_loop [3, 4] (fun vs vi => ∃ k : Nat, k ≤ n ∧ vs = .string ⟨(tx (runP k false)).toArray⟩ ∧ vi = .int .i64 k) (fun _ vi => n - (intOf vi).toNat)
  case atStart => exact ⟨0, by omega, rfl, rfl⟩
  case round =>
    obtain ⟨k, hk, rfl, rfl⟩ := hrel
    have hlx : (tx (runP k false)).length = k := by simp [runP]
    by_cases hkn : k < n
    · have hk2 : (k : Int) < n := by omega
      have ht : runP (k + 1) false = runP k false ++ [0] := List.replicate_succ'
      have HT := Lib.hid ht
      clear ht
      generalize runP k false = acc at *
      go_wp2_with fail
      refine ⟨⟨k + 1, by omega, ?_, by go_num⟩, by simp [intOf]; omega⟩
      rw [HT.out, tx_append]
      exact congrArg Value.string (ByteArray.mk_append_mk _ _)
    · obtain rfl : k = n := by omega
      go_wp2_with fail
      go_ret
      exact ⟨rfl, rfl⟩

theorem rdecode15_bad (w : World) (s : ByteArray) (width n : Int) (two : Bool) (h : ¬ (1 ≤ width ∧ width ≤ 32768) ∨ n < 0) :
    Calls Tryd.prog 24 #[.string s, .int .i64 width, .int .i64 n, .bool two] w fun e w' => e = .returned (.tuple #[.slice none 0 0, .int .i64 1]) ∧ w' = w := by
  by_cases hw : 1 ≤ width ∧ width ≤ 32768
  · have hn : n < 0 := by rcases h with h | h; exact absurd hw h; exact h
    have hnd : decide (n < 0) = true := decide_eq_true hn
    have HFT := Lib.hid (fun w => by have := rFits_any w width; rw [decide_eq_true hw] at this; exact this)
    clear h hw
    go_enter Tryd.func24, Tryd.ntmps24
    go_wp2_with fail
    refine (HFT.out _).mono ?_
    rintro e w2 ⟨rfl, rfl⟩
    go_wp2_with fail
    go_ret2
    exact ⟨rfl, rfl⟩
  · have HFT := Lib.hid (fun w => by have := rFits_any w width; rw [decide_eq_false hw] at this; exact this)
    clear h hw
    go_enter Tryd.func24, Tryd.ntmps24
    go_wp2_with fail
    refine (HFT.out _).mono ?_
    rintro e w2 ⟨rfl, rfl⟩
    go_wp2_with fail
    go_ret2
    exact ⟨rfl, rfl⟩
set_option maxHeartbeats 40000000 in
theorem rdecode15_any {w0 w : World} {F : SProp} (h : St w0 w F) {bs : List UInt8} (hl : bs.length ≤ 1000000) {width N : Nat} (two : Bool) (h1 : 1 ≤ width) (hw : width ≤ 32768) (hN : N ≤ 1000) {s : ByteArray} (hs : s = ⟨bs.toArray⟩) :
    Calls Tryd.prog 24 #[.string s, .int .i64 (width : Int), .int .i64 (N : Int), .bool two] w fun e w' => ∃ v,
      e = .returned (.tuple #[v, .int .i64 (erD (dec3F (bitsL false bs) width two N 0 [] []) : Nat)]) ∧ St w0 w' (own 9 1 v (okD (dec3F (bitsL false bs) width two N 0 [] [])).length ((okD (dec3F (bitsL false bs) width two N 0 [] [])).map txv) * F) := by
  subst hs
  have HFT := Lib.hid (fun w => by have := rFits_any w (width : Int); rw [decide_eq_true ⟨by omega, by omega⟩] at this; exact this)
  have hbl : (bitsL false bs).length = 8 * bs.length := length_bitsL _ _
  have hbt := bit_bitsL false bs
  obtain ⟨res, hres⟩ : ∃ res, dec3F (bitsL false bs) width two N 0 [] [] = res := ⟨_, rfl⟩
  rw [hres]
  have HO := Lib.hid (of_any bs false h (by omega))
  generalize bitsL false bs = t at *
  have HRES := Lib.hid hres; clear hres
  have T := elemT9
  have HWH := Lib.hid (fun w => white15_any w width (by omega))
  have e0 : chg (runP width false) = [] := chg_white width
  have HBL := Lib.hid hbl
  clear h
  go_enter Tryd.func24, Tryd.ntmps24
  go_wp2_with fail
  refine (HFT.out _).mono ?_
  rintro e w2 ⟨rfl, rfl⟩
  go_wp2_with fail
  refine HO.out.mono ?_
  rintro e w3 ⟨rfl, h3⟩
  obtain ⟨sb, hsb⟩ : ∃ sb : ByteArray, sb = ⟨(tx t).toArray⟩ := ⟨_, rfl⟩
  have hsz : sb.size = t.length := by rw [hsb]; simp [ByteArray.size]
  rw [← hsb]
  have HRA := Lib.hid (fun (w' : World) (G : SProp) (h : St w0 w' G) (p : Nat) (hp : p ≤ 8 * bs.length) (Tp : List Nat) (hT : Tp.length = width) (hB : Bit Tp) => by
    have C := rReadAgainst_any h hbt (by omega) (p := p) (by omega) hB (by omega) (by omega) hsb (sb := ⟨(tx Tp).toArray⟩) rfl
    rw [hT] at C; exact C)
  have HRW := Lib.hid (fun (w' : World) (G : SProp) (h : St w0 w' G) (p : Nat) (hp : p ≤ 8 * bs.length) => rreadRow_any h hbt (by omega) (p := p) (by omega) h1 hw hsb)
  have HAT := Lib.hid (fun (q : Nat) (hq : q < 8 * bs.length) => by
    have hq2 : q < t.length := by omega
    have hx := List.getElem?_eq_getElem hq2
    have hb := hbt _ (List.getElem_mem hq2)
    refine ⟨t[q], hx, by omega, fun h => ?_⟩
    subst hsb
    exact ba_get (by rw [tx, List.getElem?_map, hx]; rfl) h
    : ∀ q, q < 8 * bs.length → ∃ x, t[q]? = some x ∧ (x = 0 ∨ x = 1) ∧ ∀ h, sb[q]'h = dg x)
  rw [hbl] at hsz
  have H3 := Lib.hid (St.own_nil 9 1 h3); clear h3 HO hsb hbt hbl
  go_wp2_with fail
  refine (HWH.out _).mono ?_
  rintro e w4 ⟨rfl, rfl⟩
  go_wp2_with fail
  go_loopw [11, 12, 13, 14] (fun va vr vt vi wr => ∃ (k p : Nat) (acc : List (List Nat)) (Tp : List Nat) (ao : Option Addr) (co : Nat), k ≤ N ∧ vi = .int .i64 k ∧ va = .int .i64 p ∧ vt = .string ⟨(tx Tp).toArray⟩ ∧ vr = .slice ao acc.length co ∧ p ≤ 8 * bs.length ∧ Tp.length = width ∧ Bit Tp ∧ acc.length = k ∧ dec3F t width two (N - k) p (chg Tp) acc = res ∧ St w0 wr (own 9 1 (.slice ao acc.length co) acc.length (acc.map txv) * F)) (fun _ _ _ vi _ => N - (intOf vi).toNat)
  case atStart => exact ⟨0, 0, [], runP width false, none, 0, by omega, rfl, rfl, rfl, rfl, by omega, by simp [runP], bit_runP _ _, rfl, (by rw [e0]; exact HRES.out), H3.out⟩
  case round =>
    clear H3 HRES e0 HWH
    obtain ⟨k, p, acc, Tp, ao, co, hk, rfl, rfl, rfl, rfl, hp, hTl, hTb, hRk, hall, hst⟩ := hrel
    by_cases hkn : k < N
    · have hkl : (k : Int) < N := by omega
      obtain ⟨m, hm⟩ : ∃ m, N - k = m + 1 := ⟨N - k - 1, by omega⟩
      rw [hm, dec3F] at hall
      have hm2 : N - (k + 1) = m := by omega
      have hRl : acc.length ≤ 1000 := by omega
      have HST := Lib.hid hst; clear hst
      have HRK := Lib.hid hRk; have HM2 := Lib.hid hm2
      clear hRk hm2 hm
      obtain ⟨sk, hsk⟩ : ∃ sk, skip3 t p = sk := ⟨_, rfl⟩
      rw [hsk] at hall
      rw [skip3, HBL.out] at hsk
      have HSK := Lib.hid hsk
      have HALL := Lib.hid hall
      clear hsk hall
      go_wp2_with fail
      obtain ⟨wo, rfl⟩ : ∃ wo : World, wo = wr := ⟨_, rfl⟩
      go_loop [11] (fun va => ∃ q : Nat, p ≤ q ∧ q ≤ 8 * bs.length ∧ va = .int .i64 q ∧ skipF t (8 * bs.length + 1 - q) q (q - p) = sk) (fun va => 8 * bs.length + 1 - (intOf va).toNat)
      case atStart => exact ⟨p, Nat.le_refl _, hp, rfl, by rw [Nat.sub_self]; exact HSK.out⟩
      case round =>
        clear HSK
        obtain ⟨q, hpq, hq, rfl, hskq⟩ := hrel
        by_cases hin : q < 8 * bs.length
        · have hini : (q : Int) < 8 * (bs.length : Int) := by omega
          have hind : decide ((q : Int) < 8 * (bs.length : Int)) = true := decide_eq_true hini
          have hnei : ¬ ((q : Int) = 8 * (bs.length : Int)) := by omega
          have hneb : ((q : Int) == 8 * (bs.length : Int)) = false := by simpa using hnei
          obtain ⟨x, hx, hxb, G⟩ := HAT.out q hin
          have e1 : 8 * bs.length + 1 - q = (8 * bs.length - q) + 1 := by omega
          rw [e1, skipF, hx] at hskq
          simp only at hskq
          clear e1 hx
          rcases hxb with rfl | rfl
          · rw [if_pos rfl] at hskq
            have G1 : ∀ h, sb[q]'h = 48 := G
            have HSQ := Lib.hid (show skipF t (8 * bs.length + 1 - (q + 1)) (q + 1) (q + 1 - p) = sk by rw [show 8 * bs.length + 1 - (q + 1) = 8 * bs.length - q by omega, show q + 1 - p = q - p + 1 by omega]; exact hskq)
            clear hskq G hnei hneb
            go_wp2_with fail
            exact ⟨⟨q + 1, by omega, by omega, by go_num, HSQ.out⟩, by simp [intOf]; omega⟩
          · rw [if_neg (by decide)] at hskq
            have G1 : ∀ h, sb[q]'h = 49 := G
            clear G
            have hqp : (q : Int) - p = ((q - p : Nat) : Int) := by omega
            by_cases h11 : q - p < 11
            · rw [if_pos h11] at hskq
              have hall := HALL.out
              rw [← hskq] at hall
              have HRS := Lib.hid hall
              have h11i : (q : Int) - p < 11 := by omega
              have H5 := Lib.hid (St.own_nil 9 1 HST.out.right)
              clear hall HALL hskq HST hqp hTl hTb
              go_wp2_with fail
              go_ret2
              rw [← HRS.out]
              exact ⟨_, rfl, H5.out⟩
            · rw [if_neg h11] at hskq
              have h11i : ¬ (q : Int) - p < 11 := by omega
              have hall := HALL.out
              rw [← hskq] at hall
              simp only at hall
              clear HALL hskq hqp h11
              cases two with
              | false =>
                have hfl : flagF t false (q + 1) = .inl (q + 1, true) := rfl
                rw [hfl] at hall
                simp only at hall
                have hp2 : q + 1 ≤ 8 * bs.length := by omega
                clear hfl
                cases hr : row3 t width (chg Tp) true (q + 1) with
                | mk q2 y =>
                  have hbd := row3_bd (t := t) (width := width) (s := true) (p := (q + 1)) (topOk hTl).1 (topOk hTl).2 h1 (by rw [HBL.out]; exact hp2)
                  rw [hr] at hall hbd
                  rw [HBL.out] at hbd
                  obtain ⟨hq2, hb1, hb2⟩ := hbd
                  simp only at hq2
                  have C := HRW.out _ _ HST.out (q + 1) hp2
                  have e9 : row3 t width (chg Tp) true (q + 1) = readRow t width (q + 1) := rfl
                  rw [← e9, hr] at C
                  have HC1 := Lib.hid C
                  clear C e9
                  cases y with
                  | inr er =>
                    simp only at hall
                    have her := hb2 er rfl
                    have hx0 : ¬ (er : Int) = 0 := by omega
                    have HRS := Lib.hid hall
                    clear hall hr hb1 hb2 hq2 hTl hTb
                    go_wp2_with fail
                    refine HC1.out.mono ?_
                    rintro e w5 ⟨rfl, h5⟩
                    have H5 := Lib.hid (St.own_nil 9 1 h5.right); clear h5 HC1
                    simp only [erN]
                    go_wp2_with fail
                    go_ret2
                    rw [← HRS.out]
                    exact ⟨_, rfl, H5.out⟩
                  | inl px =>
                    simp only at hall
                    obtain ⟨hpl, hpb⟩ := hb1 px rfl
                    have HRS := Lib.hid (⟨hall, hpl, hpb⟩ : _ ∧ _ ∧ _)
                    clear hall hr hb1 hb2 hpl hpb hTl hTb
                    go_wp2_with fail
                    refine HC1.out.mono ?_
                    rintro e w5 ⟨rfl, h5⟩
                    have H6 := Lib.hid h5; clear h5 HC1
                    simp only [erN, okP]
                    go_wp2_with (at_builtin; apply stop)
                    refine on (wpList_append_sep T rfl _ _ rfl rfl (H6.out.drop_alloc (.cells #[.string ⟨(tx px).toArray⟩] 9)) rfl (reads_str1 w5 (tx px)) (by intro u hu; rw [List.mem_singleton.1 hu]; rfl) (by unfold maxLen; omega) (by omega) ?_)
                    intro v7 w7 h7 _
                    have h7 : St w0 w7 (own 9 1 v7 (acc ++ [px]).length ((acc ++ [px]).map txv) * F) := by
                      rw [List.length_append, List.map_append]; exact h7
                    have hsn : (acc ++ [px]).length = acc.length + 1 := by simp
                    generalize acc ++ [px] = acc2 at *
                    obtain ⟨aN, cN, rfl⟩ := h7.reads.sub
                    have HSN := Lib.hid hsn
                    have H7 := Lib.hid h7
                    clear h7 hsn H6
                    go_wp2_with fail
                    have := HRK.out
                    have := HSN.out
                    exact ⟨⟨k + 1, q2, acc2, px, aN, cN, by omega, by go_num, rfl, rfl, by first | rfl | (rw [HSN.out]; rfl), hq2, HRS.out.2.1, HRS.out.2.2, by omega, by rw [HM2.out]; exact HRS.out.1, H7.out⟩, by simp [intOf]; omega⟩
              | true =>
                by_cases hin2 : q + 1 < 8 * bs.length
                · obtain ⟨x2, hx2, hxb, G2⟩ := HAT.out (q + 1) hin2
                  have hp2 : q + 1 + 1 ≤ 8 * bs.length := by omega
                  have hfl : flagF t true (q + 1) = .inl (q + 1 + 1, decide (x2 = 1)) := by rw [flagF, if_pos rfl, hx2]
                  rw [hfl] at hall
                  simp only at hall
                  have hne8 : ¬ ((q : Int) + 1 = 8 * (bs.length : Int)) := by omega
                  have hne8b : ((q : Int) + 1 == 8 * (bs.length : Int)) = false := by simpa using hne8
                  have hqz : (q : Int) + 1 < 8 * (bs.length : Int) := by omega
                  clear hfl hx2
                  rcases hxb with rfl | rfl
                  · have hd : decide ((0 : Nat) = 1) = false := rfl
                    have G3 : ∀ h, sb[q + 1]'h = 48 := G2
                    rw [hd] at hall
                    clear hd G2
                    cases hr : row3 t width (chg Tp) false (q + 1 + 1) with
                    | mk q2 y =>
                      have hbd := row3_bd (t := t) (width := width) (s := false) (p := (q + 1 + 1)) (topOk hTl).1 (topOk hTl).2 h1 (by rw [HBL.out]; exact hp2)
                      rw [hr] at hall hbd
                      rw [HBL.out] at hbd
                      obtain ⟨hq2, hb1, hb2⟩ := hbd
                      simp only at hq2
                      have C := HRA.out _ _ HST.out (q + 1 + 1) hp2 Tp hTl hTb
                      have e9 : row3 t width (chg Tp) false (q + 1 + 1) = readAg t (chg Tp) width (q + 1 + 1) := rfl
                      rw [← e9, hr] at C
                      have HC1 := Lib.hid C
                      clear C e9
                      cases y with
                      | inr er =>
                        simp only at hall
                        have her := hb2 er rfl
                        have hx0 : ¬ (er : Int) = 0 := by omega
                        have HRS := Lib.hid hall
                        clear hall hr hb1 hb2 hq2 hTl hTb
                        go_wp2_with fail
                        refine HC1.out.mono ?_
                        rintro e w5 ⟨rfl, h5⟩
                        have H5 := Lib.hid (St.own_nil 9 1 h5.right); clear h5 HC1
                        simp only [erN]
                        go_wp2_with fail
                        go_ret2
                        rw [← HRS.out]
                        exact ⟨_, rfl, H5.out⟩
                      | inl px =>
                        simp only at hall
                        obtain ⟨hpl, hpb⟩ := hb1 px rfl
                        have HRS := Lib.hid (⟨hall, hpl, hpb⟩ : _ ∧ _ ∧ _)
                        clear hall hr hb1 hb2 hpl hpb hTl hTb
                        go_wp2_with fail
                        refine HC1.out.mono ?_
                        rintro e w5 ⟨rfl, h5⟩
                        have H6 := Lib.hid h5; clear h5 HC1
                        simp only [erN, okP]
                        go_wp2_with (at_builtin; apply stop)
                        refine on (wpList_append_sep T rfl _ _ rfl rfl (H6.out.drop_alloc (.cells #[.string ⟨(tx px).toArray⟩] 9)) rfl (reads_str1 w5 (tx px)) (by intro u hu; rw [List.mem_singleton.1 hu]; rfl) (by unfold maxLen; omega) (by omega) ?_)
                        intro v7 w7 h7 _
                        have h7 : St w0 w7 (own 9 1 v7 (acc ++ [px]).length ((acc ++ [px]).map txv) * F) := by
                          rw [List.length_append, List.map_append]; exact h7
                        have hsn : (acc ++ [px]).length = acc.length + 1 := by simp
                        generalize acc ++ [px] = acc2 at *
                        obtain ⟨aN, cN, rfl⟩ := h7.reads.sub
                        have HSN := Lib.hid hsn
                        have H7 := Lib.hid h7
                        clear h7 hsn H6
                        go_wp2_with fail
                        have := HRK.out
                        have := HSN.out
                        exact ⟨⟨k + 1, q2, acc2, px, aN, cN, by omega, by go_num, rfl, rfl, by first | rfl | (rw [HSN.out]; rfl), hq2, HRS.out.2.1, HRS.out.2.2, by omega, by rw [HM2.out]; exact HRS.out.1, H7.out⟩, by simp [intOf]; omega⟩
                  · have hd : decide ((1 : Nat) = 1) = true := rfl
                    have G3 : ∀ h, sb[q + 1]'h = 49 := G2
                    rw [hd] at hall
                    clear hd G2
                    cases hr : row3 t width (chg Tp) true (q + 1 + 1) with
                    | mk q2 y =>
                      have hbd := row3_bd (t := t) (width := width) (s := true) (p := (q + 1 + 1)) (topOk hTl).1 (topOk hTl).2 h1 (by rw [HBL.out]; exact hp2)
                      rw [hr] at hall hbd
                      rw [HBL.out] at hbd
                      obtain ⟨hq2, hb1, hb2⟩ := hbd
                      simp only at hq2
                      have C := HRW.out _ _ HST.out (q + 1 + 1) hp2
                      have e9 : row3 t width (chg Tp) true (q + 1 + 1) = readRow t width (q + 1 + 1) := rfl
                      rw [← e9, hr] at C
                      have HC1 := Lib.hid C
                      clear C e9
                      cases y with
                      | inr er =>
                        simp only at hall
                        have her := hb2 er rfl
                        have hx0 : ¬ (er : Int) = 0 := by omega
                        have HRS := Lib.hid hall
                        clear hall hr hb1 hb2 hq2 hTl hTb
                        go_wp2_with fail
                        refine HC1.out.mono ?_
                        rintro e w5 ⟨rfl, h5⟩
                        have H5 := Lib.hid (St.own_nil 9 1 h5.right); clear h5 HC1
                        simp only [erN]
                        go_wp2_with fail
                        go_ret2
                        rw [← HRS.out]
                        exact ⟨_, rfl, H5.out⟩
                      | inl px =>
                        simp only at hall
                        obtain ⟨hpl, hpb⟩ := hb1 px rfl
                        have HRS := Lib.hid (⟨hall, hpl, hpb⟩ : _ ∧ _ ∧ _)
                        clear hall hr hb1 hb2 hpl hpb hTl hTb
                        go_wp2_with fail
                        refine HC1.out.mono ?_
                        rintro e w5 ⟨rfl, h5⟩
                        have H6 := Lib.hid h5; clear h5 HC1
                        simp only [erN, okP]
                        go_wp2_with (at_builtin; apply stop)
                        refine on (wpList_append_sep T rfl _ _ rfl rfl (H6.out.drop_alloc (.cells #[.string ⟨(tx px).toArray⟩] 9)) rfl (reads_str1 w5 (tx px)) (by intro u hu; rw [List.mem_singleton.1 hu]; rfl) (by unfold maxLen; omega) (by omega) ?_)
                        intro v7 w7 h7 _
                        have h7 : St w0 w7 (own 9 1 v7 (acc ++ [px]).length ((acc ++ [px]).map txv) * F) := by
                          rw [List.length_append, List.map_append]; exact h7
                        have hsn : (acc ++ [px]).length = acc.length + 1 := by simp
                        generalize acc ++ [px] = acc2 at *
                        obtain ⟨aN, cN, rfl⟩ := h7.reads.sub
                        have HSN := Lib.hid hsn
                        have H7 := Lib.hid h7
                        clear h7 hsn H6
                        go_wp2_with fail
                        have := HRK.out
                        have := HSN.out
                        exact ⟨⟨k + 1, q2, acc2, px, aN, cN, by omega, by go_num, rfl, rfl, by first | rfl | (rw [HSN.out]; rfl), hq2, HRS.out.2.1, HRS.out.2.2, by omega, by rw [HM2.out]; exact HRS.out.1, H7.out⟩, by simp [intOf]; omega⟩
                · have hfl : flagF t true (q + 1) = .inr 2 := by rw [flagF, if_pos rfl, List.getElem?_eq_none (by rw [HBL.out]; omega)]
                  rw [hfl] at hall
                  have he8 : (q : Int) + 1 = 8 * (bs.length : Int) := by omega
                  have he8b : ((q : Int) + 1 == 8 * (bs.length : Int)) = true := by simpa using he8
                  have HRS := Lib.hid hall
                  have H6 := Lib.hid (St.own_nil 9 1 HST.out.right)
                  clear hall hfl hTl hTb HST he8
                  go_wp2_with fail
                  go_ret2
                  rw [← HRS.out]
                  exact ⟨_, rfl, H6.out⟩
        · obtain rfl : q = 8 * bs.length := by omega
          have e1 : 8 * bs.length + 1 - 8 * bs.length = 0 + 1 := by omega
          rw [e1, skipF, List.getElem?_eq_none (by rw [HBL.out]; exact Nat.le_refl _)] at hskq
          simp only at hskq
          have hall := HALL.out
          rw [← hskq] at hall
          have HRS := Lib.hid hall
          have H5 := Lib.hid (St.own_nil 9 1 HST.out.right)
          clear hall HALL hskq HST hTl hTb e1
          go_wp2_with fail
          go_ret2
          rw [← HRS.out]
          exact ⟨_, rfl, H5.out⟩
    · obtain rfl : k = N := by omega
      rw [Nat.sub_self, dec3F] at hall
      have HRS := Lib.hid hall
      have HST := Lib.hid hst
      clear hst hall
      go_wp2_with fail
      go_ret2
      rw [← HRS.out]
      exact ⟨_, rfl, HST.out⟩
theorem rdecode15_all {w0 w : World} {F : SProp} (h : St w0 w F) {bs : List UInt8} (hl : bs.length ≤ 1000000) {width n : Int} (two : Bool) (hn : n ≤ 1000) {s : ByteArray} (hs : s = ⟨bs.toArray⟩) :
    Calls Tryd.prog 24 #[.string s, .int .i64 width, .int .i64 n, .bool two] w fun e w' => ∃ v,
      e = .returned (.tuple #[v, .int .i64 (erD (decG3 (bitsL false bs) two width n) : Nat)]) ∧ St w0 w' (own 9 1 v (okD (decG3 (bitsL false bs) two width n)).length ((okD (decG3 (bitsL false bs) two width n)).map txv) * F) := by
  by_cases hc : 1 ≤ width ∧ width ≤ 32768 ∧ 0 ≤ n
  · rw [decG3, if_pos hc]
    obtain ⟨W, rfl⟩ : ∃ W : Nat, width = W := ⟨width.toNat, by omega⟩
    obtain ⟨N, rfl⟩ : ∃ N : Nat, n = N := ⟨n.toNat, by omega⟩
    exact rdecode15_any h hl two (by omega) (by omega) (by omega) hs
  · rw [decG3, if_neg hc]
    refine (rdecode15_bad w s width n two (by omega)).mono ?_
    rintro e w2 ⟨rfl, rfl⟩
    exact ⟨_, rfl, St.own_nil 9 1 h⟩
end Go.Proofs.YtdjoigobmmaaiaaDoor
