/-
  Layer 16: texts of rows that came in, and the chapter's example.
-/
import Derived.Test.YtdjoigobmmaaiaaDoorG4
import Derived.Test.YtdjoigobmmaaiaaDoorMhI
namespace Go.Proofs.YtdjoigobmmaaiaaDoor
open Go.RowKit Go.Mz
set_option linter.unusedVariables false
set_option linter.unusedSimpArgs false
set_option maxRecDepth 100000

theorem cap_of {w : World} {g o n c : Nat} {xs : List Value} : Reads w 1 (.slice (some ⟨g, o, none⟩) n c) n xs → n ≤ c := by
  rintro ⟨_, ⟨h0, _⟩ | ⟨x, c, h1, h2, _, _⟩⟩
  · cases h0
  · cases h1; omega
/-- Pixels of a text of bytes, of a width. -/
def pxOf (width : Nat) (bs : List UInt8) : List Nat := pxL (bs.take width)
/-- What texts gives: nothing, or the rows as pixels and as places. -/
def TextsOut (w0 : World) (F : SProp) (width : Nat) (L : List (Value × List UInt8)) (e : Ending) (w' : World) : Prop :=
  (e = .returned (.tuple #[.slice none 0 0, .slice none 0 0, .bool false]) ∧ St w0 w' F) ∨
  ∃ (vs vl : Value) (Ps : List (List Nat)) (R : List (Value × List Nat)), e = .returned (.tuple #[vs, vl, .bool true]) ∧ Ps.length = L.length ∧ R.map Prod.snd = Ps.map chg ∧ (∀ P ∈ Ps, P.length = width ∧ Bit P) ∧
    St w0 w' (own 9 1 vs Ps.length (Ps.map txv) * (own 41 1 vl R.length (R.map Prod.fst) * (rowsP R * F)))

set_option maxHeartbeats 40000000 in
theorem texts16_any {w0 w : World} {F : SProp} (h : St w0 w F) {L : List (Value × List UInt8)} {vL : Value} (hL : Stb w0 F (fun w => Reads w 1 vL L.length (L.map Prod.fst))) (hX : ∀ x ∈ L, Stb w0 F (fun w => Reads w 1 x.1 x.2.length (x.2.map bv))) (hl : L.length ≤ 100) {width : Nat} (hw : width ≤ 1000) :
    Calls Tryd.prog 11 #[vL, .int .i64 (width : Int)] w (TextsOut w0 F width L) := by
  obtain ⟨a0, c0, rfl⟩ := (hL w h).sub
  have HL := Lib.hid hL; have HX := Lib.hid hX
  have H := Lib.hid (St.own_nil 9 1 (St.own_nil 41 1 (rowsP_nil h))); clear h hL hX
  have T := elemRows
  have T9 := elemT9
  go_enter Tryd.func11, Tryd.ntmps11
  go_wp2_with fail
  go_loopw [7, 8, 16] (fun vt vl vi wr => ∃ (k : Nat) (Ps : List (List Nat)) (R : List (Value × List Nat)) (ao at' : Option Addr) (co ct : Nat), k ≤ L.length ∧ vi = .int .i64 k ∧ vl = .slice ao R.length co ∧ vt = .slice at' Ps.length ct ∧ Ps.length = k ∧ R.length = k ∧ R.map Prod.snd = Ps.map chg ∧ (∀ P ∈ Ps, P.length = width ∧ Bit P) ∧
    St w0 wr (own 9 1 (.slice at' Ps.length ct) Ps.length (Ps.map txv) * (own 41 1 (.slice ao R.length co) R.length (R.map Prod.fst) * (rowsP R * F)))) (fun _ _ vi _ => L.length - (intOf vi).toNat)
  case atStart => exact ⟨0, [], [], none, none, 0, 0, by omega, rfl, rfl, rfl, rfl, rfl, rfl, (fun P hP => by cases hP), H.out⟩
  case round =>
    clear H
    obtain ⟨k, Ps, R, ao, at', co, ct, hk, rfl, rfl, rfl, hPk, hRk, hRP, hPs, hst⟩ := hrel
    have hRl : R.length ≤ 100 := by omega
    have hPsl : Ps.length ≤ 100 := by omega
    have HRK := Lib.hid hRk; have HPK := Lib.hid hPk
    clear hRk hPk
    by_cases hkn : k < L.length
    · have hkl : (k : Int) < L.length := by omega
      obtain ⟨g, o, rfl, e1⟩ := (HL.out wr hst.right.right.right).at_ hkn
      have hx := List.getElem?_eq_getElem hkn
      rw [List.getElem?_map, hx] at e1
      simp only [Option.map_some] at e1
      have hrd := HX.out _ (List.getElem_mem hkn)
      obtain ⟨⟨xv, xl⟩, hxx⟩ : ∃ x, L[k] = x := ⟨_, rfl⟩
      rw [hxx] at e1 hrd
      simp only at e1 hrd
      clear hx hxx
      obtain ⟨ax, cx, rfl⟩ := (hrd wr hst.right.right.right).sub
      have hm9 := (hrd wr hst.right.right.right).len_le
      unfold maxLen at hm9
      by_cases hsh : (xl.length : Int) < width
      · have HF := Lib.hid hst.right.right.right
        clear hst hrd hPs hRP
        go_wp2_with fail
        go_ret3
        exact .inl ⟨rfl, HF.out⟩
      · have hlw : width ≤ xl.length := by omega
        have hci : (width : Int) ≤ cx := by
          rcases Nat.eq_zero_or_pos width with h0 | h0
          · omega
          · obtain ⟨gx, ox, rfl, _⟩ := (hrd wr hst.right.right.right).at_ (j := 0) (by omega)
            have := cap_of (hrd wr hst.right.right.right)
            omega
        have hPl : (pxL (xl.take width)).length = width := by simp; omega
        have hPb := bit_pxL (xl.take width)
        have hpxk : ∀ j, j < width → ∃ x : Nat, x < 256 ∧ pxL (xl.take (j + 1)) = pxL (xl.take j) ++ [x % 2] ∧ ∃ b off, ax = some ⟨b, off, none⟩ ∧ wr.cell? ⟨b, off + j, none⟩ = some (.int .u8 (x : Int)) := fun j hj => by
          have hjl : j < xl.length := by omega
          obtain ⟨b, off, e, hc⟩ := (hrd wr hst.right.right.right).at_ hjl
          refine ⟨xl[j].toNat, xl[j].toNat_lt, by rw [pxL, List.take_succ_eq_append_getElem hjl, List.map_append]; rfl, b, off, e, ?_⟩
          rw [hc, List.getElem?_map, List.getElem?_eq_getElem hjl]; rfl
        have HPX := Lib.hid hpxk
        have hP0 : pxL (xl.take 0) = [] := rfl
        have hPw : pxL (xl.take width) = pxOf width xl := rfl
        rw [hPw] at hPl hPb
        have hPs2 : ∀ Q ∈ Ps ++ [pxOf width xl], Q.length = width ∧ Bit Q := fun Q hQ => by
          rcases List.mem_append.1 hQ with h | h
          · exact hPs Q h
          · rw [List.mem_singleton.1 h]; exact ⟨hPl, hPb⟩
        have hRP2 : R.map Prod.snd ++ [chg (pxOf width xl)] = (Ps ++ [pxOf width xl]).map chg := by rw [hRP, List.map_append]; rfl
        have HCH := Lib.hid (changes_any hst.drew hPb (by omega) (sb := ⟨(tx (pxOf width xl)).toArray⟩) rfl)
        have HCH2 := Lib.hid (fun (w' : World) (G : SProp) (h : St w0 w' G) => changes_any h hPb (by omega) (sb := ⟨(tx (pxOf width xl)).toArray⟩) rfl)
        have HH := Lib.hid (⟨hPs2, hRP2⟩ : _ ∧ _)
        have HST := Lib.hid hst
        have hlens : ∀ j, j ≤ width → (tx (pxL (xl.take j))).length = j := fun j hj => by simp; omega
        have HLN := Lib.hid hlens
        have HPW := Lib.hid hPw
        clear hst hrd hPs hRP hPs2 hRP2 hPl hPb hlens hPw hpxk HCH
        go_wp2_with fail
        obtain ⟨wo, rfl⟩ : ∃ wo : World, wo = wr := ⟨_, rfl⟩
        go_loop [11, 28] (fun vs vi => ∃ j : Nat, j ≤ width ∧ vs = .string ⟨(tx (pxL (xl.take j))).toArray⟩ ∧ vi = .int .i64 j) (fun _ vi => width - (intOf vi).toNat)
        case atStart => exact ⟨0, by omega, rfl, rfl⟩
        case round =>
          obtain ⟨j, hj, rfl, rfl⟩ := hrel
          have hlx := HLN.out j hj
          by_cases hjn : j < width
          · obtain ⟨x, hc, ht, b, off, hax, e2⟩ := HPX.out j hjn
            subst hax
            have hand := and1_u8 x hc
            have hj2 : (j : Int) < width := by omega
            generalize pxL (xl.take j) = acc at *
            have HT' := Lib.hid ht
            clear ht
            rcases Nat.mod_two_eq_zero_or_one x with h2 | h2
            · rw [h2] at hand
              go_wp2_with fail
              refine ⟨⟨j + 1, by omega, ?_, by go_num⟩, by simp [intOf]; omega⟩
              rw [HT'.out, h2, tx_append]
              exact congrArg Value.string (ByteArray.mk_append_mk _ _)
            · rw [h2] at hand
              go_wp2_with fail
              refine ⟨⟨j + 1, by omega, ?_, by go_num⟩, by simp [intOf]; omega⟩
              rw [HT'.out, h2, tx_append]
              exact congrArg Value.string (ByteArray.mk_append_mk _ _)
          · obtain rfl : j = width := by omega
            rw [HPW.out] at hlx ⊢
            clear HPX HLN
            have H6 := HST.out
            go_wp2_with (at_builtin; apply stop)
            refine on (wpList_append_sep T9 rfl _ _ rfl rfl (H6.drop_alloc (.cells #[.string ⟨(tx (pxOf j xl)).toArray⟩] 9)) rfl (reads_str1 wo (tx (pxOf j xl))) (by intro u hu; rw [List.mem_singleton.1 hu]; rfl) (by unfold maxLen; omega) (by omega) ?_)
            intro v7 w7 h7 _
            obtain ⟨a7, c7, rfl⟩ := h7.reads.sub
            have HC := Lib.hid (HCH2.out _ _ h7)
            clear h7 H6 HST HCH2
            go_wp2_with fail
            refine HC.out.mono ?_
            rintro e w8 ⟨v8, rfl, h8⟩
            obtain ⟨a8, c8, rfl⟩ := h8.reads.sub
            obtain ⟨l6, hl6⟩ : ∃ l6, l6 = (chg (pxOf j xl)).length := ⟨_, rfl⟩
            have H8 := Lib.hid (h8.perm (show _ = own 41 1 (.slice ao R.length co) R.length (R.map Prod.fst) * (own 3 1 (.slice a8 (chg (pxOf j xl)).length c8) (chg (pxOf j xl)).length ((chg (pxOf j xl)).map nv) * (own 9 1 (.slice a7 (Ps.length + 1) c7) (Ps.length + 1) (Ps.map txv ++ [.string ⟨(tx (pxOf j xl)).toArray⟩]) * (rowsP R * F))) by ac_rfl)); clear h8 HC
            rw [← hl6] at H8 ⊢
            have HL6 := Lib.hid hl6
            clear hl6
            go_wp2_with (at_builtin; apply stop)
            refine on (wpList_append_sep T rfl _ _ rfl rfl (H8.out.drop_alloc (.cells #[.slice a8 l6 c8] 41)) rfl (reads_row1 w8 (.slice a8 l6 c8)) (by intro u hu; rw [List.mem_singleton.1 hu]; rfl) (by unfold maxLen; omega) (by omega) ?_)
            intro v9 w9 h9 _
            have h9 : St w0 w9 (own 9 1 (.slice a7 (Ps.length + 1) c7) (Ps ++ [pxOf j xl]).length ((Ps ++ [pxOf j xl]).map txv) * (own 41 1 v9 (R ++ [(Value.slice a8 l6 c8, chg (pxOf j xl))]).length ((R ++ [(Value.slice a8 l6 c8, chg (pxOf j xl))]).map Prod.fst) * (rowsP (R ++ [(Value.slice a8 l6 c8, chg (pxOf j xl))]) * F))) := by
              rw [rowsP_snoc, List.length_append, List.length_append, List.map_append, List.map_append, ← HL6.out]
              exact h9.perm (by simp only [List.length_singleton, List.map_cons, List.map_nil, txv]; ac_rfl)
            obtain ⟨a9, c9, rfl⟩ := h9.right.reads.sub
            have hs1 : (R ++ [(Value.slice a8 l6 c8, chg (pxOf j xl))]).length = R.length + 1 := by simp
            have hs2 : (Ps ++ [pxOf j xl]).length = Ps.length + 1 := by simp
            have hs3 : (R ++ [(Value.slice a8 l6 c8, chg (pxOf j xl))]).map Prod.snd = R.map Prod.snd ++ [chg (pxOf j xl)] := by simp
            rw [← hs2] at h9 ⊢
            have HS := Lib.hid (⟨hs1, hs2, hs3⟩ : _ ∧ _ ∧ _)
            clear hs1 hs2 hs3 H8
            have H9 := Lib.hid h9; clear h9
            generalize R ++ [(Value.slice a8 l6 c8, chg (pxOf j xl))] = R2 at *
            generalize Ps ++ [pxOf j xl] = Ps2 at *
            go_wp2_with fail
            obtain ⟨g1, g2⟩ := HH.out
            obtain ⟨s1, s2, s3⟩ := HS.out
            have := HRK.out
            have := HPK.out
            exact ⟨⟨k + 1, Ps2, R2, a9, a7, c9, c7, by omega, by go_num, rfl, rfl, by omega, by omega, by rw [s3]; exact g2, g1, H9.out⟩, by simp [intOf]; omega⟩
    · obtain rfl : k = L.length := by omega
      have HST := Lib.hid hst; clear hst
      go_wp2_with fail
      go_ret3
      exact .inr ⟨_, _, Ps, R, rfl, HPK.out, hRP, hPs, HST.out⟩
theorem liv16_enc : bytesB false (enc4 8 [[]]) = [128, 8, 0, 128] := by decide +kernel
theorem liv16_dec : dec4F (bitsL false [128, 8, 0, 128]) 8 1 0 [] [] = .inl [[0, 0, 0, 0, 0, 0, 0, 0]] := by decide +kernel

set_option maxHeartbeats 4000000 in
theorem lives16 {w0 w : World} {F : SProp} (h : St w0 w F) (ht : Tab w0 F) :
    Calls Tryd.prog 10 #[] w fun e w' => e = .returned (.bool true) ∧ St w0 w' F := by
  have HT := Lib.hid ht; clear ht
  have h1 := h.lit #[] 3 0 rfl (by decide)
  have h2 := h1.lit #[.slice (some ⟨w.heap.size, 0, none⟩) 0 0] 41 1 rfl (by decide)
  have e1 : (w.alloc (.cells #[] 3)).heap.size = w.heap.size + 1 := by simp
  rw [e1] at h2
  have h3 := h2.perm (star_left_comm _ _ _)
  have HE := Lib.hid (encode16_any (R := [nilRow w.heap.size]) (v := .slice (some ⟨w.heap.size + 1, 0, none⟩) 1 1) h2 (fun w h => HT.out w h.right.right) (show Stb _ _ (fun w' => Reads w' 1 (.slice (some ⟨w.heap.size + 1, 0, none⟩) 1 1) 1 [.slice (some ⟨w.heap.size, 0, none⟩) 0 0]) from Stb.of_own) (fun w' h x hx => by rw [List.mem_singleton.1 hx]; exact h.right.reads) (width := 8) (by decide) (by decide) (fun x hx => by rw [List.mem_singleton.1 hx]; exact ⟨List.Pairwise.nil, fun x hx => (by cases hx), by simp [nilRow]⟩) (by simp))
  rw [show ([nilRow w.heap.size].map Prod.snd) = [[]] from rfl, liv16_enc] at HE
  clear h h1 h2 h3 e1
  go_enter Tryd.func10, Tryd.ntmps10
  go_wp2_with fail
  refine HE.out.mono ?_
  rintro e w2 ⟨v2, rfl, h2⟩
  have h2 := h2.perm (show _ = own 5 1 v2 4 (([128, 8, 0, 128] : List UInt8).map bv) * (own 41 1 (.slice (some ⟨w.heap.size + 1, 0, none⟩) 1 1) 1 [.slice (some ⟨w.heap.size, 0, none⟩) 0 0] * (own 3 1 (.slice (some ⟨w.heap.size, 0, none⟩) 0 0) 0 [] * F)) from rfl)
  obtain ⟨a2, c2, rfl⟩ := h2.reads.sub
  generalize hQ : own 41 1 (.slice (some ⟨w.heap.size + 1, 0, none⟩) 1 1) 1 [.slice (some ⟨w.heap.size, 0, none⟩) 0 0] = Q1 at *
  generalize hQ2 : own 3 1 (.slice (some ⟨w.heap.size, 0, none⟩) 0 0) 0 [] = Q2 at *
  clear hQ hQ2
  have HD := Lib.hid (decode16_any h2 (fun w h => HT.out w h.right.right.right) (bs := [128, 8, 0, 128]) (vb := .slice a2 4 c2) Stb.of_own (by decide) (width := 8) (N := 1) (by decide) (by decide) (by decide))
  rw [liv16_dec] at HD
  clear h2 HE
  go_wp2_with fail
  refine HD.out.mono ?_
  rintro e w3 ⟨v3, R, rfl, hR, h3⟩
  obtain ⟨⟨va, la⟩, rfl⟩ : ∃ x, R = [x] := by
    have hl := congrArg List.length hR
    simp [okD] at hl
    match R, hl with
    | [x], _ => exact ⟨x, rfl⟩
  have hla : la = [] := by
    have : [la] = [chg [0, 0, 0, 0, 0, 0, 0, 0]] := hR
    simp only [List.cons.injEq, and_true] at this
    rw [this]; decide
  subst hla
  have h3 := h3.perm (show _ = own 41 1 v3 1 [va] * (own 3 1 va 0 [] * (own 5 1 (.slice a2 4 c2) 4 (([128, 8, 0, 128] : List UInt8).map bv) * (Q1 * (Q2 * F)))) by
    rw [show rowsP [(va, [])] = own 3 1 va 0 [] * emp from rfl, star_assoc (own 3 1 va 0 []), emp_star]; rfl)
  obtain ⟨a3, c3, rfl⟩ := h3.reads.sub
  obtain ⟨a4, c4, rfl⟩ := h3.right.reads.sub
  obtain ⟨g3, rfl⟩ := own_at h3 (by decide)
  have y3 := h3.own_cell (i := 0) rfl
  have H3 := Lib.hid h3; clear h3 HD hR
  simp only [erD]
  go_wp2_with (with_reducible (refine stop_conv 28 9 rfl ?_))
  refine on (wpList_b2sW Tryd.underlying28 Tryd.underlying5 Tryd.underlying9 rfl rfl (bs := [128, 8, 0, 128]) (n := 4) H3.out.right.right.reads ?_)
  go_wp2_with fail
  go_ret
  exact ⟨rfl, H3.out.right.right.right.right.right⟩
end Go.Proofs.YtdjoigobmmaaiaaDoor
