/-
  Layer 16: the document's pages (package mezzotintref16).
-/
import Derived.Test.YtdjoigobmmaaiaaDoorG4M
import Derived.Test.YtdjoigobmmaaiaaDoorMhDb
import Derived.Test.YtdjoigobmmaaiaaDoorMhDc
import Derived.Test.YtdjoigobmmaaiaaDoorMhP
namespace Go.Proofs.YtdjoigobmmaaiaaDoor
open Go.RowKit Go.Mz
set_option linter.unusedVariables false
set_option linter.unusedSimpArgs false
set_option maxRecDepth 100000

set_option maxHeartbeats 1000000 in
theorem white16_any (w : World) (n : Nat) (hn : n ≤ 1000000) :
    Calls Tryd.prog 31 #[.int .i64 (n : Int)] w fun e w' => e = .returned (.string ⟨(tx (runP n false)).toArray⟩) ∧ w' = w := by
  go_enter Tryd.func31, Tryd.ntmps31
  go_wp2_with fail
  go_loop [3, 4] (fun vs vi => ∃ k : Nat, k ≤ n ∧ vs = .string ⟨(tx (runP k false)).toArray⟩ ∧ vi = .int .i64 k) (fun _ vi => n - (intOf vi).toNat)
  case atStart => exact ⟨0, by omega, rfl, rfl⟩
  case round =>
    obtain ⟨k, hk, rfl, rfl⟩ := hrel
    have hlx : (tx (runP k false)).length = k := by simp [runP]
    by_cases hkn : k < n
    · have hk2 : (k : Int) < n := by omega
      have ht : runP (k + 1) false = runP k false ++ [0] := List.replicate_succ'
      have HT := Lib.hid ht
      clear ht
      generalize runP k false = acc at *
      go_wp2_with fail
      refine ⟨⟨k + 1, by omega, ?_, by go_num⟩, by simp [intOf]; omega⟩
      rw [HT.out, tx_append]
      exact congrArg Value.string (ByteArray.mk_append_mk _ _)
    · obtain rfl : k = n := by omega
      go_wp2_with fail
      go_ret
      exact ⟨rfl, rfl⟩

set_option maxHeartbeats 4000000 in
theorem rencode16_any {w0 w : World} {F : SProp} (h : St w0 w F) {Ps : List (List Nat)} {v : Value} (hv : Stb w0 F (fun w => Reads w 1 v Ps.length (Ps.map txv))) {width : Nat} (h1 : 1 ≤ width) (hw : width ≤ 400) (hP : ∀ P ∈ Ps, P.length = width ∧ Bit P) (hN : Ps.length ≤ 100) :
    Calls Tryd.prog 13 #[v, .int .i64 (width : Int)] w fun e w' => e = .returned (.string ⟨(bytesB false (enc4 width (Ps.map chg))).toArray⟩) ∧ St w0 w' F := by
  obtain ⟨a0, c0, rfl⟩ := (hv w h).sub
  have HV := Lib.hid hv; have HP := Lib.hid hP
  obtain ⟨res, hres⟩ : ∃ res, agAll width [] (Ps.map chg) = res := ⟨_, rfl⟩
  rw [enc4, hres]
  have HRES := Lib.hid hres; clear hres hv hP
  have H := Lib.hid h; clear h
  have HWH := Lib.hid (fun w => white16_any w width (by omega))
  go_enter Tryd.func13, Tryd.ntmps13
  go_wp2_with fail
  refine (HWH.out _).mono ?_
  rintro e w2 ⟨rfl, rfl⟩
  go_wp2_with fail
  go_loopw [5, 6, 7] (fun vs va vi wr => ∃ (k : Nat) (acc Tp : List Nat), k ≤ Ps.length ∧ vi = .int .i64 k ∧ vs = .string ⟨(tx acc).toArray⟩ ∧ va = .string ⟨(tx Tp).toArray⟩ ∧ Tp.length = width ∧ Bit Tp ∧ acc.length ≤ 300000 * k ∧ Bit acc ∧ acc ++ agAll width (chg Tp) ((Ps.map chg).drop k) = res ∧ St w0 wr F) (fun _ _ vi _ => Ps.length - (intOf vi).toNat)
  case atStart => exact ⟨0, [], runP width false, by omega, rfl, rfl, rfl, by simp [runP], bit_runP _ _, by simp, bit_nil, (by rw [show chg (runP width false) = [] from chg_white width]; exact HRES.out), H.out⟩
  case round =>
    clear H HRES
    obtain ⟨k, acc, Tp, hk, rfl, rfl, rfl, hTl, hTb, hal, hba, hall, hst⟩ := hrel
    have hla : (tx acc).length = acc.length := by simp
    by_cases hkn : k < Ps.length
    · have hkl : (k : Int) < Ps.length := by omega
      obtain ⟨g, o, rfl, e1⟩ := (HV.out wr hst).at_ hkn
      have hx := List.getElem?_eq_getElem hkn
      rw [List.getElem?_map, hx] at e1
      simp only [Option.map_some, txv] at e1
      obtain ⟨hPl, hPb⟩ := HP.out _ (List.getElem_mem hkn)
      have hd : (Ps.map chg).drop k = chg Ps[k] :: (Ps.map chg).drop (k + 1) := by
        rw [List.drop_eq_getElem_cons (by simpa using hkn), List.getElem_map]
      rw [hd, agAll, ← List.append_assoc] at hall
      have HE := Lib.hid (fun w' (h : St w0 w' F) => by
        obtain ⟨g2, o2, e2, e3⟩ := (HV.out w' h).at_ hkn
        cases e2
        rw [List.getElem?_map, hx] at e3
        exact e3 : ∀ w', St w0 w' F → w'.cell? ⟨g, o + k, none⟩ = some (.string ⟨(tx Ps[k]).toArray⟩))
      clear hx hd
      generalize Ps[k] = P at *
      have C1 := rAgainst_any hst hPb hTb (by omega) (by omega) (sb := ⟨(tx P).toArray⟩) (tb := ⟨(tx Tp).toArray⟩) rfl rfl
      rw [hPl] at C1
      have hbl := agB_len (topOk hPl).1 (topOk hPl).2 (topOk hTl).1 (topOk hTl).2 (by omega) (width + 1) (-1) false
      have hbb : Bit (agB (chg P) (chg Tp) width (width + 1) (-1) false) := bit_agB _ _ _
      generalize agB (chg P) (chg Tp) width (width + 1) (-1) false = X at *
      have hlx : (tx X).length = X.length := by simp
      have hl2 : (acc ++ X).length = acc.length + X.length := List.length_append
      have hba2 := ByteArray.mk_append_mk (tx acc) (tx X)
      rw [← tx_append] at hba2
      have HH := Lib.hid (⟨by omega, hba.append hbb, hall, hPl, hPb, hba2⟩ : (acc ++ X).length ≤ 300000 * (k + 1) ∧ Bit (acc ++ X) ∧ (acc ++ X) ++ agAll width (chg P) ((Ps.map chg).drop (k + 1)) = res ∧ P.length = width ∧ Bit P ∧ _)
      have HC1 := Lib.hid C1
      have hX9 : X.length ≤ 300000 := by omega
      have ha9 : acc.length ≤ 30000000 := by omega
      clear C1 hall hba hbb hst hPl hPb hTl hTb hbl hl2 hba2 hal
      go_wp2_with fail
      refine HC1.out.mono ?_
      rintro e w2 ⟨rfl, h2⟩
      have e5 := HE.out _ h2
      have H2 := Lib.hid h2; clear h2 HC1
      go_wp2_with fail
      exact ⟨⟨k + 1, acc ++ X, P, by omega, by go_num, congrArg Value.string HH.out.2.2.2.2.2, rfl, HH.out.2.2.2.1, HH.out.2.2.2.2.1, HH.out.1, HH.out.2.1, HH.out.2.2.1, H2.out⟩, by simp [intOf]; omega⟩
    · obtain rfl : k = Ps.length := by omega
      rw [List.drop_of_length_le (by simp), agAll, List.append_nil] at hall
      have HRS := Lib.hid hall
      have ha9 : acc.length ≤ 30000000 := by omega
      have e2 : (⟨(tx acc).toArray⟩ : ByteArray) ++ ⟨#[48, 48, 48, 48, 48, 48, 48, 48, 48, 48, 48, 49, 48, 48, 48, 48, 48, 48, 48, 48, 48, 48, 48, 49]⟩ = ⟨(tx (acc ++ endW)).toArray⟩ := by
        have e3 : (⟨#[48, 48, 48, 48, 48, 48, 48, 48, 48, 48, 48, 49, 48, 48, 48, 48, 48, 48, 48, 48, 48, 48, 48, 49]⟩ : ByteArray) = ⟨(tx endW).toArray⟩ := ba_eq (by decide +kernel)
        rw [e3, tx_append]; exact ByteArray.mk_append_mk _ _
      have HBY := Lib.hid (rbytes_any (hba.append bit_endW) false hst (by rw [List.length_append, endW_len]; omega) e2)
      clear hst hall hba e2 hal hTl hTb
      go_wp2_with fail
      refine HBY.out.mono ?_
      rintro e w5 ⟨rfl, h5⟩
      have H5 := Lib.hid h5; clear h5 HBY
      go_wp2_with fail
      go_ret
      rw [← HRS.out]
      exact ⟨rfl, H5.out⟩

theorem rdecode16_bad (w : World) (s : ByteArray) (width n : Int) (h : ¬ (1 ≤ width ∧ width ≤ 32768) ∨ n < 0) :
    Calls Tryd.prog 15 #[.string s, .int .i64 width, .int .i64 n] w fun e w' => e = .returned (.tuple #[.slice none 0 0, .int .i64 1]) ∧ w' = w := by
  by_cases hw : 1 ≤ width ∧ width ≤ 32768
  · have hn : n < 0 := by rcases h with h | h; exact absurd hw h; exact h
    have hnd : decide (n < 0) = true := decide_eq_true hn
    have HFT := Lib.hid (fun w => by have := rFits_any w width; rw [decide_eq_true hw] at this; exact this)
    clear h hw
    go_enter Tryd.func15, Tryd.ntmps15
    go_wp2_with fail
    refine (HFT.out _).mono ?_
    rintro e w2 ⟨rfl, rfl⟩
    go_wp2_with fail
    go_ret2
    exact ⟨rfl, rfl⟩
  · have HFT := Lib.hid (fun w => by have := rFits_any w width; rw [decide_eq_false hw] at this; exact this)
    clear h hw
    go_enter Tryd.func15, Tryd.ntmps15
    go_wp2_with fail
    refine (HFT.out _).mono ?_
    rintro e w2 ⟨rfl, rfl⟩
    go_wp2_with fail
    go_ret2
    exact ⟨rfl, rfl⟩
set_option maxHeartbeats 4000000 in
theorem rdecode16_any {w0 w : World} {F : SProp} (h : St w0 w F) {bs : List UInt8} (hl : bs.length ≤ 1000000) {width N : Nat} (h1 : 1 ≤ width) (hw : width ≤ 32768) (hN : N ≤ 1000) {s : ByteArray} (hs : s = ⟨bs.toArray⟩) :
    Calls Tryd.prog 15 #[.string s, .int .i64 (width : Int), .int .i64 (N : Int)] w fun e w' => ∃ v,
      e = .returned (.tuple #[v, .int .i64 (erD (dec4F (bitsL false bs) width N 0 [] []) : Nat)]) ∧ St w0 w' (own 9 1 v (okD (dec4F (bitsL false bs) width N 0 [] [])).length ((okD (dec4F (bitsL false bs) width N 0 [] [])).map txv) * F) := by
  subst hs
  have HFT := Lib.hid (fun w => by have := rFits_any w (width : Int); rw [decide_eq_true ⟨by omega, by omega⟩] at this; exact this)
  have hbl : (bitsL false bs).length = 8 * bs.length := length_bitsL _ _
  have hbt := bit_bitsL false bs
  obtain ⟨res, hres⟩ : ∃ res, dec4F (bitsL false bs) width N 0 [] [] = res := ⟨_, rfl⟩
  rw [hres]
  have HO := Lib.hid (of_any bs false h (by omega))
  generalize bitsL false bs = t at *
  have HRES := Lib.hid hres; clear hres
  have T := elemT9
  have HWH := Lib.hid (fun w => white16_any w width (by omega))
  have e0 : chg (runP width false) = [] := chg_white width
  have hlt : (tx t).length = t.length := by simp
  clear h
  go_enter Tryd.func15, Tryd.ntmps15
  go_wp2_with fail
  refine (HFT.out _).mono ?_
  rintro e w2 ⟨rfl, rfl⟩
  go_wp2_with fail
  refine HO.out.mono ?_
  rintro e w3 ⟨rfl, h3⟩
  obtain ⟨sb, hsb⟩ : ∃ sb : ByteArray, sb = ⟨(tx t).toArray⟩ := ⟨_, rfl⟩
  have hsz : sb.size = t.length := by rw [hsb]; simp [ByteArray.size]
  rw [← hsb]
  have HRR := Lib.hid (fun (w' : World) (G : SProp) (h : St w0 w' G) (p : Nat) (hp : p ≤ 8 * bs.length) (Tp : List Nat) (hT : Tp.length = width) (hB : Bit Tp) => by
    have C := rReadAgainst_any h hbt (by omega) (p := p) (by omega) hB (by omega) (by omega) hsb (sb := ⟨(tx Tp).toArray⟩) rfl
    rw [hT] at C; exact C)
  have HBD := Lib.hid (fun (p : Nat) (hp : p ≤ 8 * bs.length) (Tp : List Nat) (hT : Tp.length = width) => by have B := readAg_bd (t := t) (width := width) (p := p) (topOk hT).1 (topOk hT).2 h1 (by omega); rw [hbl] at B; exact B)
  have HTE := Lib.hid (fun p => by have := text_end hbt p; rw [← hsb] at this; exact this)
  have HSH := Lib.hid (fun p (h : ¬ p + 24 ≤ 8 * bs.length) => isEnd_short (t := t) (p := p) (by omega))
  rw [hbl] at hsz
  have H3 := Lib.hid (St.own_nil 9 1 h3); clear h3 HO hsb hbt hbl hlt
  go_wp2_with fail
  refine (HWH.out _).mono ?_
  rintro e w4 ⟨rfl, rfl⟩
  go_wp2_with fail
  go_loopw [9, 10, 11, 12] (fun va vt vr vi wr => ∃ (k p : Nat) (acc : List (List Nat)) (Tp : List Nat) (ao : Option Addr) (co : Nat), k ≤ N ∧ vi = .int .i64 k ∧ va = .int .i64 p ∧ vt = .string ⟨(tx Tp).toArray⟩ ∧ vr = .slice ao acc.length co ∧ p ≤ 8 * bs.length ∧ Tp.length = width ∧ Bit Tp ∧ acc.length = k ∧ dec4F t width (N - k) p (chg Tp) acc = res ∧ St w0 wr (own 9 1 (.slice ao acc.length co) acc.length (acc.map txv) * F)) (fun _ _ _ vi _ => N - (intOf vi).toNat)
  case atStart => exact ⟨0, 0, [], runP width false, none, 0, by omega, rfl, rfl, rfl, rfl, by omega, by simp [runP], bit_runP _ _, rfl, (by rw [e0]; exact HRES.out), H3.out⟩
  case round =>
    clear H3 HRES e0 HWH
    obtain ⟨k, p, acc, Tp, ao, co, hk, rfl, rfl, rfl, rfl, hp, hTl, hTb, hRk, hall, hst⟩ := hrel
    by_cases hkn : k < N
    · have hkl : (k : Int) < N := by omega
      obtain ⟨m, hm⟩ : ∃ m, N - k = m + 1 := ⟨N - k - 1, by omega⟩
      rw [hm, dec4F] at hall
      have C1 := HRR.out _ _ hst p hp Tp hTl hTb
      have hbd := HBD.out p hp Tp hTl
      have hm2 : N - (k + 1) = m := by omega
      have hte := HTE.out p
      have hsh := HSH.out p
      have hRl : acc.length ≤ 1000 := by omega
      have HST := Lib.hid hst; clear hst
      have HRK := Lib.hid hRk; have HM2 := Lib.hid hm2
      clear hRk hm2 hm hTl hTb
      cases hend : isEnd t p with
      | true =>
        have h24 : p + 24 ≤ 8 * bs.length := by
          rcases Nat.lt_or_ge (8 * bs.length) (p + 24) with h | h
          · have := hsh (by omega); rw [hend] at this; cases this
          · exact h
        have h24i : (p : Int) + 24 ≤ 8 * bs.length := by omega
        have h24d : decide ((p : Int) + 24 ≤ 8 * (bs.length : Int)) = true := decide_eq_true h24i
        rw [hend] at hte hall
        rw [if_pos rfl] at hall
        have HRS := Lib.hid hall
        have H5 := Lib.hid (St.own_nil 9 1 HST.out.right)
        clear hall hbd C1 hend HST hsh
        go_wp2_with fail
        go_ret2
        rw [← HRS.out]
        exact ⟨_, rfl, H5.out⟩
      | false =>
        rw [hend] at hte hall
        rw [if_neg (by decide)] at hall
        clear hend hsh
        have hor : ((p : Int) + 24 ≤ 8 * (bs.length : Int) ∧ decide ((p : Int) + 24 ≤ 8 * (bs.length : Int)) = true) ∨ (¬ (p : Int) + 24 ≤ 8 * (bs.length : Int) ∧ decide ((p : Int) + 24 ≤ 8 * (bs.length : Int)) = false) := by
          by_cases h : (p : Int) + 24 ≤ 8 * (bs.length : Int)
          · exact .inl ⟨h, decide_eq_true h⟩
          · exact .inr ⟨h, decide_eq_false h⟩
        cases hr : readAg t (chg Tp) width p with
        | mk q y =>
          rw [hr] at hall C1 hbd
          have HC1 := Lib.hid C1; clear C1 HST
          obtain ⟨hq, hb1, hb2⟩ := hbd
          simp only at hq
          cases y with
          | inr er =>
            simp only at hall
            have her := hb2 er rfl
            have hx0 : ¬ (er : Int) = 0 := by omega
            have HRS := Lib.hid hall
            clear hall hr hb1 hb2 hq
            rcases hor with ⟨h24i, h24d⟩ | ⟨h24i, h24d⟩ <;> (
              go_wp2_with fail
              refine HC1.out.mono ?_
              rintro e w5 ⟨rfl, h5⟩
              have H5 := Lib.hid (St.own_nil 9 1 h5.right); clear h5 HC1
              simp only [erN]
              go_wp2_with fail
              go_ret2
              rw [← HRS.out]
              exact ⟨_, rfl, H5.out⟩)
          | inl px =>
            simp only at hall
            obtain ⟨hpl, hpb⟩ := hb1 px rfl
            have HRS := Lib.hid (⟨hall, hpl, hpb⟩ : _ ∧ _ ∧ _)
            clear hall hr hb1 hb2 hpl hpb
            rcases hor with ⟨h24i, h24d⟩ | ⟨h24i, h24d⟩ <;> (
              go_wp2_with fail
              refine HC1.out.mono ?_
              rintro e w5 ⟨rfl, h5⟩
              have H6 := Lib.hid h5; clear h5 HC1 hte h24d h24i
              simp only [erN, okP]
              go_wp2_with (at_builtin; apply stop)
              refine on (wpList_append_sep T rfl _ _ rfl rfl (H6.out.drop_alloc (.cells #[.string ⟨(tx px).toArray⟩] 9)) rfl (reads_str1 w5 (tx px)) (by intro u hu; rw [List.mem_singleton.1 hu]; rfl) (by unfold maxLen; omega) (by omega) ?_)
              intro v7 w7 h7 _
              have h7 : St w0 w7 (own 9 1 v7 (acc ++ [px]).length ((acc ++ [px]).map txv) * F) := by
                rw [List.length_append, List.map_append]; exact h7
              have hsn : (acc ++ [px]).length = acc.length + 1 := by simp
              generalize acc ++ [px] = acc2 at *
              obtain ⟨aN, cN, rfl⟩ := h7.reads.sub
              have HSN := Lib.hid hsn
              have H7 := Lib.hid h7
              clear h7 hsn H6
              go_wp2_with fail
              have := HRK.out
              have := HSN.out
              exact ⟨⟨k + 1, q, acc2, px, aN, cN, by omega, by go_num, rfl, rfl, by first | rfl | (rw [HSN.out]; rfl), hq, HRS.out.2.1, HRS.out.2.2, by omega, by rw [HM2.out]; exact HRS.out.1, H7.out⟩, by simp [intOf]; omega⟩)
    · obtain rfl : k = N := by omega
      rw [Nat.sub_self, dec4F] at hall
      have HRS := Lib.hid hall
      have HST := Lib.hid hst
      clear hst hall
      go_wp2_with fail
      go_ret2
      rw [← HRS.out]
      exact ⟨_, rfl, HST.out⟩
theorem rdecode16_all {w0 w : World} {F : SProp} (h : St w0 w F) {bs : List UInt8} (hl : bs.length ≤ 1000000) {width n : Int} (hn : n ≤ 1000) {s : ByteArray} (hs : s = ⟨bs.toArray⟩) :
    Calls Tryd.prog 15 #[.string s, .int .i64 width, .int .i64 n] w fun e w' => ∃ v,
      e = .returned (.tuple #[v, .int .i64 (erD (decG4 (bitsL false bs) width n) : Nat)]) ∧ St w0 w' (own 9 1 v (okD (decG4 (bitsL false bs) width n)).length ((okD (decG4 (bitsL false bs) width n)).map txv) * F) := by
  by_cases hc : 1 ≤ width ∧ width ≤ 32768 ∧ 0 ≤ n
  · rw [decG4, if_pos hc]
    obtain ⟨W, rfl⟩ : ∃ W : Nat, width = W := ⟨width.toNat, by omega⟩
    obtain ⟨N, rfl⟩ : ∃ N : Nat, n = N := ⟨n.toNat, by omega⟩
    exact rdecode16_any h hl (by omega) (by omega) (by omega) hs
  · rw [decG4, if_neg hc]
    refine (rdecode16_bad w s width n (by omega)).mono ?_
    rintro e w2 ⟨rfl, rfl⟩
    exact ⟨_, rfl, St.own_nil 9 1 h⟩
end Go.Proofs.YtdjoigobmmaaiaaDoor
