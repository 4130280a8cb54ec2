/-
  Layer 15: the document's pages (package mezzotintref15), told.
-/
import Derived.Test.YtdjoigobmmaaiaaDoorG3M
import Derived.Test.YtdjoigobmmaaiaaDoorMhDb
import Derived.Test.YtdjoigobmmaaiaaDoorMhDc
import Derived.Test.YtdjoigobmmaaiaaDoorMhP
import Derived.Deep.RegionWith
namespace Go.Proofs.YtdjoigobmmaaiaaDoor
open Go.RowKit Go.Mz
set_option linter.unusedVariables false
set_option linter.unusedSimpArgs false
set_option maxRecDepth 100000

theorem str_lit (a b : List Nat) {l : ByteArray} (h : l = ⟨(tx b).toArray⟩) : (⟨(tx a).toArray⟩ : ByteArray) ++ l = ⟨(tx (a ++ b)).toArray⟩ := by
  rw [h, tx_append]; exact ByteArray.mk_append_mk _ _
theorem lit12 : (⟨#[48, 48, 48, 48, 48, 48, 48, 48, 48, 48, 48, 49]⟩ : ByteArray) = ⟨(tx eolW).toArray⟩ := ba_eq (by decide +kernel)
theorem lit1 : (⟨#[49]⟩ : ByteArray) = ⟨(tx [1]).toArray⟩ := ba_eq (by decide +kernel)
theorem lit0 : (⟨#[48]⟩ : ByteArray) = ⟨(tx [0]).toArray⟩ := ba_eq (by decide +kernel)

set_option maxHeartbeats 4000000 in
theorem rend15_any {w0 w : World} {F : SProp} (h : St w0 w F) {acc : List Nat} (two al fin s : Bool) (every : Int) (hal : acc.length ≤ 1000000000) {sb : ByteArray} (hsb : sb = ⟨(tx acc).toArray⟩) :
    Calls Tryd.prog 42 #[.string sb, .agg #[.bool two, .int .i64 every, .bool al, .bool fin], .bool s] w fun e w' => e = .returned (.string ⟨(tx (endB two al s acc)).toArray⟩) ∧ St w0 w' F := by
  subst hsb
  have h2 : St w0 (w.alloc (.cells #[.bool two, .int .i64 every, .bool al, .bool fin] 49)) F := h.drop_alloc _
  have H := Lib.hid h2; clear h h2
  have hlx : (tx acc).length = acc.length := by simp
  cases al
  · cases two <;> cases s
    · go_enter Tryd.func42, Tryd.ntmps42
      have HE := Lib.hid (show (⟨(tx acc).toArray⟩ : ByteArray) ++ ⟨#[48, 48, 48, 48, 48, 48, 48, 48, 48, 48, 48, 49]⟩ = ⟨(tx (endB false false false acc)).toArray⟩ by
        rw [show endB false false false acc = acc ++ eolW by rw [endB]; simp only [cond, List.append_nil, List.append_assoc, List.nil_append] <;> first | rfl | (rw [HZ.out, HA.out]; simp only [List.append_assoc])]
        exact str_lit acc eolW lit12)
      go_wp2_with fail
      go_ret
      exact ⟨congrArg (fun s => Ending.returned (Value.string s)) HE.out, H.out⟩
    · go_enter Tryd.func42, Tryd.ntmps42
      have HE := Lib.hid (show (⟨(tx acc).toArray⟩ : ByteArray) ++ ⟨#[48, 48, 48, 48, 48, 48, 48, 48, 48, 48, 48, 49]⟩ = ⟨(tx (endB false false true acc)).toArray⟩ by
        rw [show endB false false true acc = acc ++ eolW by rw [endB]; simp only [cond, List.append_nil, List.append_assoc, List.nil_append] <;> first | rfl | (rw [HZ.out, HA.out]; simp only [List.append_assoc])]
        exact str_lit acc eolW lit12)
      go_wp2_with fail
      go_ret
      exact ⟨congrArg (fun s => Ending.returned (Value.string s)) HE.out, H.out⟩
    · go_enter Tryd.func42, Tryd.ntmps42
      have HE := Lib.hid (show (⟨(tx acc).toArray⟩ : ByteArray) ++ ⟨#[48, 48, 48, 48, 48, 48, 48, 48, 48, 48, 48, 49]⟩ ++ (⟨#[48]⟩ : ByteArray) = ⟨(tx (endB true false false acc)).toArray⟩ by
        rw [show endB true false false acc = (acc ++ eolW) ++ [0] by rw [endB]; simp only [cond, List.append_nil, List.append_assoc, List.nil_append] <;> first | rfl | (rw [HZ.out, HA.out]; simp only [List.append_assoc])]
        exact (by rw [str_lit acc eolW lit12, str_lit (acc ++ eolW) [0] lit0]))
      go_wp2_with fail
      go_ret
      exact ⟨congrArg (fun s => Ending.returned (Value.string s)) HE.out, H.out⟩
    · go_enter Tryd.func42, Tryd.ntmps42
      have HE := Lib.hid (show (⟨(tx acc).toArray⟩ : ByteArray) ++ ⟨#[48, 48, 48, 48, 48, 48, 48, 48, 48, 48, 48, 49]⟩ ++ (⟨#[49]⟩ : ByteArray) = ⟨(tx (endB true false true acc)).toArray⟩ by
        rw [show endB true false true acc = (acc ++ eolW) ++ [1] by rw [endB]; simp only [cond, List.append_nil, List.append_assoc, List.nil_append] <;> first | rfl | (rw [HZ.out, HA.out]; simp only [List.append_assoc])]
        exact (by rw [str_lit acc eolW lit12, str_lit (acc ++ eolW) [1] lit1]))
      go_wp2_with fail
      go_ret
      exact ⟨congrArg (fun s => Ending.returned (Value.string s)) HE.out, H.out⟩
  · have hz : endZ acc.length ≤ 7 := by rw [endZ]; omega
    go_enter Tryd.func42, Tryd.ntmps42
    go_wp2_with fail
    go_loopg [0] (endZ acc.length) (fun g vs wr => ∃ j : Nat, j + g = endZ acc.length ∧ vs = .string ⟨(tx (acc ++ List.replicate j 0)).toArray⟩ ∧ wr = w.alloc (.cells #[.bool two, .int .i64 every, .bool true, .bool fin] 49))
    case atStart => exact ⟨0, by omega, by simp, rfl⟩
    case round =>
      obtain ⟨j, hj, rfl, rfl⟩ := hrel
      have hla : (tx (acc ++ List.replicate j 0)).length = acc.length + j := by simp
      by_cases hg : gk = 0
      · subst hg
        obtain rfl : j = endZ acc.length := by omega
        have h8 : (((acc.length : Int) + (endZ acc.length : Nat) + 12) % 8 != 0) = false := by
          have : ((acc.length : Int) + (endZ acc.length : Nat) + 12) % 8 = 0 := by rw [endZ]; omega
          rw [this]; rfl
        obtain ⟨A1, hA1⟩ : ∃ A1, A1 = acc ++ List.replicate (endZ acc.length) 0 := ⟨_, rfl⟩
        rw [← hA1] at hla ⊢
        have HA := Lib.hid hA1
        clear hA1 hj
        generalize hzz : endZ acc.length = z at *
        have HZ := Lib.hid hzz
        clear hzz
        cases two <;> cases s
        · have HE := Lib.hid (show (⟨(tx A1).toArray⟩ : ByteArray) ++ ⟨#[48, 48, 48, 48, 48, 48, 48, 48, 48, 48, 48, 49]⟩ = ⟨(tx (endB false true false acc)).toArray⟩ by
            rw [show endB false true false acc = A1 ++ eolW by rw [endB]; simp only [cond, List.append_nil, List.append_assoc, List.nil_append] <;> first | rfl | (rw [HZ.out, HA.out]; simp only [List.append_assoc])]
            exact str_lit A1 eolW lit12)
          go_wp2_with fail
          go_ret
          exact ⟨congrArg (fun s => Ending.returned (Value.string s)) HE.out, H.out⟩
        · have HE := Lib.hid (show (⟨(tx A1).toArray⟩ : ByteArray) ++ ⟨#[48, 48, 48, 48, 48, 48, 48, 48, 48, 48, 48, 49]⟩ = ⟨(tx (endB false true true acc)).toArray⟩ by
            rw [show endB false true true acc = A1 ++ eolW by rw [endB]; simp only [cond, List.append_nil, List.append_assoc, List.nil_append] <;> first | rfl | (rw [HZ.out, HA.out]; simp only [List.append_assoc])]
            exact str_lit A1 eolW lit12)
          go_wp2_with fail
          go_ret
          exact ⟨congrArg (fun s => Ending.returned (Value.string s)) HE.out, H.out⟩
        · have HE := Lib.hid (show (⟨(tx A1).toArray⟩ : ByteArray) ++ ⟨#[48, 48, 48, 48, 48, 48, 48, 48, 48, 48, 48, 49]⟩ ++ (⟨#[48]⟩ : ByteArray) = ⟨(tx (endB true true false acc)).toArray⟩ by
            rw [show endB true true false acc = (A1 ++ eolW) ++ [0] by rw [endB]; simp only [cond, List.append_nil, List.append_assoc, List.nil_append] <;> first | rfl | (rw [HZ.out, HA.out]; simp only [List.append_assoc])]
            exact (by rw [str_lit A1 eolW lit12, str_lit (A1 ++ eolW) [0] lit0]))
          go_wp2_with fail
          go_ret
          exact ⟨congrArg (fun s => Ending.returned (Value.string s)) HE.out, H.out⟩
        · have HE := Lib.hid (show (⟨(tx A1).toArray⟩ : ByteArray) ++ ⟨#[48, 48, 48, 48, 48, 48, 48, 48, 48, 48, 48, 49]⟩ ++ (⟨#[49]⟩ : ByteArray) = ⟨(tx (endB true true true acc)).toArray⟩ by
            rw [show endB true true true acc = (A1 ++ eolW) ++ [1] by rw [endB]; simp only [cond, List.append_nil, List.append_assoc, List.nil_append] <;> first | rfl | (rw [HZ.out, HA.out]; simp only [List.append_assoc])]
            exact (by rw [str_lit A1 eolW lit12, str_lit (A1 ++ eolW) [1] lit1]))
          go_wp2_with fail
          go_ret
          exact ⟨congrArg (fun s => Ending.returned (Value.string s)) HE.out, H.out⟩
      · have h8 : (((acc.length : Int) + j + 12) % 8 != 0) = true := by
          rw [bne_iff_ne]; rw [endZ] at hj; omega
        have hj7 : j ≤ 7 := by omega
        have HE := Lib.hid (show (⟨(tx (acc ++ List.replicate j 0)).toArray⟩ : ByteArray) ++ ⟨#[48]⟩ = ⟨(tx (acc ++ List.replicate (j + 1) 0)).toArray⟩ by
          rw [str_lit _ [0] lit0, List.replicate_succ', List.append_assoc])
        have HJ := Lib.hid hj
        clear hj
        go_wp2_with fail
        go_roundg (gk - 1)
        case measure => omega
        case rel => exact ⟨j + 1, by have := HJ.out; omega, congrArg Value.string HE.out, rfl⟩

/-- The places of the row above. -/
def topK (Ps : List (List Nat)) (k : Nat) : List Nat := if k = 0 then [] else chg (Ps.getD (k - 1) [])
def iterW (two : Bool) : Nat → List Nat → List Nat
  | 0, a => a
  | n + 1, a => iterW two n (endB two false true a)

set_option maxHeartbeats 40000000 in
theorem rencode15_false {w0 w : World} {F : SProp} (h : St w0 w F) {Ps : List (List Nat)} {v : Value} (hv : Stb w0 F (fun w => Reads w 1 v Ps.length (Ps.map txv))) {width : Nat} (h1 : 1 ≤ width) (hw : width ≤ 400) (hP : ∀ P ∈ Ps, P.length = width ∧ Bit P) (hN : Ps.length ≤ 100) (al fin : Bool) (every : Int) :
    Calls Tryd.prog 22 #[v, .agg #[.bool false, .int .i64 every, .bool al, .bool fin]] w fun e w' => e = .returned (.string ⟨(bytesB false (enc3 width false al fin every (Ps.map chg))).toArray⟩) ∧ St w0 w' F := by
  obtain ⟨a0, c0, rfl⟩ := (hv w h).sub
  have HV := Lib.hid hv; have HP := Lib.hid hP
  obtain ⟨res, hres⟩ : ∃ res, enc3F width false al every 0 [] (Ps.map chg) [] = res := ⟨_, rfl⟩
  rw [enc3, hres]
  have HRES := Lib.hid hres; clear hres hv hP
  have h2 : St w0 (w.alloc (.cells #[.bool false, .int .i64 every, .bool al, .bool fin] 49)) (blk w.heap.size (.cells #[.bool false, .int .i64 every, .bool al, .bool fin] 49 (0, 0)) * F) := h.alloc _
  have H := Lib.hid h2; clear h h2
  obtain ⟨bO, hbO⟩ : ∃ bO, bO = w.heap.size := ⟨_, rfl⟩
  rw [← hbO] at H
  go_enter Tryd.func22, Tryd.ntmps22
  go_wp2_with fail
  rw [← hbO]
  clear hbO
  go_loopw [5, 6] (fun vs vi wr => ∃ (k : Nat) (acc : List Nat), k ≤ Ps.length ∧ vi = .int .i64 k ∧ vs = .string ⟨(tx acc).toArray⟩ ∧ acc.length ≤ 300000 * k ∧ Bit acc ∧ enc3F width false al every k (topK Ps k) ((Ps.map chg).drop k) acc = res ∧ St w0 wr (blk bO (.cells #[.bool false, .int .i64 every, .bool al, .bool fin] 49 (0, 0)) * F)) (fun _ vi _ => Ps.length - (intOf vi).toNat)
  case atStart => exact ⟨0, [], by omega, rfl, rfl, by simp, bit_nil, HRES.out, H.out⟩
  case round =>
    clear H HRES
    obtain ⟨k, acc, hk, rfl, rfl, hal, hba, hall, hst⟩ := hrel
    have hla : (tx acc).length = acc.length := by simp
    by_cases hkn : k < Ps.length
    · have hkl : (k : Int) < Ps.length := by omega
      obtain ⟨g, o, rfl, e1⟩ := (HV.out wr hst.right).at_ hkn
      have hx := List.getElem?_eq_getElem hkn
      rw [List.getElem?_map, hx] at e1
      simp only [Option.map_some, txv] at e1
      obtain ⟨hPl, hPb⟩ := HP.out _ (List.getElem_mem hkn)
      have hd : (Ps.map chg).drop k = chg Ps[k] :: (Ps.map chg).drop (k + 1) := by
        rw [List.drop_eq_getElem_cons (by simpa using hkn), List.getElem_map]
      have htn : topK Ps (k + 1) = chg Ps[k] := by rw [topK, if_neg (by omega), Nat.add_sub_cancel, List.getD_eq_getElem?_getD, hx]; rfl
      rw [hd, enc3F] at hall
      have hall : enc3F width false al every (k + 1) (topK Ps (k + 1)) ((Ps.map chg).drop (k + 1)) (endB false al (singleF false every k) acc ++ body3 width (singleF false every k) (chg Ps[k]) (topK Ps k)) = res := by rw [htn]; exact hall
      have htopk : (topK Ps k).Pairwise (· < ·) ∧ ∀ x ∈ topK Ps k, x < width := by
        rw [topK]
        split
        · exact ⟨List.Pairwise.nil, fun x hx => by cases hx⟩
        · have hq : k - 1 < Ps.length := by omega
          have := (HP.out _ (List.getElem_mem hq)).1
          rw [List.getD_eq_getElem?_getD, List.getElem?_eq_getElem hq]
          exact topOk this
      have HCE := Lib.hid (fun w' (h : St w0 w' F) => by
        obtain ⟨g2, o2, e2, e3⟩ := (HV.out w' h).at_ hkn
        cases e2
        rw [List.getElem?_map, hx] at e3
        exact e3 : ∀ w', St w0 w' F → w'.cell? ⟨g, o + k, none⟩ = some (.string ⟨(tx Ps[k]).toArray⟩))
      have HCQ := Lib.hid (fun (hk0 : 0 < k) => (fun w' (h : St w0 w' F) => by
        have hq : k - 1 < Ps.length := by omega
        obtain ⟨g2, o2, e2, e3⟩ := (HV.out w' h).at_ hq
        cases e2
        rw [List.getElem?_map, List.getElem?_eq_getElem hq] at e3
        exact e3 : ∀ w', St w0 w' F → w'.cell? ⟨g, o + (k - 1), none⟩ = some (.string ⟨(tx (Ps[k - 1]'(by omega))).toArray⟩)))
      have HQQ := Lib.hid (fun (hk0 : 0 < k) => (by
        have hq : k - 1 < Ps.length := by omega
        have := HP.out _ (List.getElem_mem hq)
        refine ⟨this.1, this.2, ?_⟩
        rw [topK, if_neg (by omega), List.getD_eq_getElem?_getD, List.getElem?_eq_getElem hq]; rfl : (Ps[k - 1]'(by omega)).length = width ∧ Bit (Ps[k - 1]'(by omega)) ∧ chg (Ps[k - 1]'(by omega)) = topK Ps k))
      clear hx hd
      clear htn
      generalize Ps[k] = P at *
      have hsg : singleF false every k = true := rfl
      rw [hsg] at hall
      clear hsg HCQ HQQ
      have HEND := Lib.hid (rend15_any hst false al fin true every (acc := acc) (by omega) (sb := ⟨(tx acc).toArray⟩) rfl)
      have hel := endB_len false al true acc
      have hbE : Bit (endB false al true acc) := bit_endB hba
      have c0 := hst.cell 0 rfl
      have c1 := hst.cell 1 rfl
      have c2 := hst.cell 2 rfl
      have c3 := hst.cell 3 rfl
      have HBD := Lib.hid (fun (w' : World) (G : SProp) (h : St w0 w' G) => (by have C := rrow_any h hPb (by omega) (sb := ⟨(tx P).toArray⟩) rfl; rw [row_told hPb, hPl, show rowB false (lensF 0 (chg P) width) = body3 width true (chg P) (topK Ps k) from rfl] at C; exact C))
      have hbl := body3_len (width := width) (by omega) (s := true) (rowOk_chg hPl (by omega)) htopk
      have hbb := bit_body3 width true (chg P) (topK Ps k)
      have hal3 : (endB false al true acc ++ body3 width true (chg P) (topK Ps k)).length ≤ 300000 * (k + 1) := by rw [List.length_append]; omega
      have HH := Lib.hid (⟨hal3, hbE.append hbb, hall⟩ : _ ∧ _ ∧ _)
      have hlA : (tx (endB false al true acc)).length = (endB false al true acc).length := by simp
      have hlX : (tx (body3 width true (chg P) (topK Ps k))).length = (body3 width true (chg P) (topK Ps k)).length := by simp
      have hba2 := ByteArray.mk_append_mk (tx (endB false al true acc)) (tx (body3 width true (chg P) (topK Ps k)))
      rw [← tx_append] at hba2
      have HBA := Lib.hid hba2
      have hA9 : (endB false al true acc).length ≤ 30000100 := by omega
      have hX9 : (body3 width true (chg P) (topK Ps k)).length ≤ 290000 := hbl
      clear hall hal3 hba hbE hbb hbl hel hba2 hst hPl hPb htopk
      generalize endB false al true acc = acc1 at *
      generalize body3 width true (chg P) (topK Ps k) = X at *
      go_wp2_with fail
      refine HEND.out.mono ?_
      rintro e w5 ⟨rfl, h5⟩
      clear HEND c0 c1 c2 c3
      have e5 := HCE.out _ h5.right
      have HB := Lib.hid (HBD.out _ _ h5)
      clear h5 HBD
      go_wp2_with fail
      refine HB.out.mono ?_
      rintro e w6 ⟨rfl, h6⟩
      have H6 := Lib.hid h6; clear h6 HB
      go_wp2_with fail
      exact ⟨⟨k + 1, acc1 ++ X, by omega, by go_num, congrArg Value.string HBA.out, HH.out.1, HH.out.2.1, HH.out.2.2, H6.out⟩, by simp [intOf]; omega⟩

    · obtain rfl : k = Ps.length := by omega
      rw [List.drop_of_length_le (by simp), enc3F] at hall
      subst hall
      have ha9 : acc.length ≤ 30000000 := by omega
      have c0 := hst.cell 0 rfl
      have c1 := hst.cell 1 rfl
      have c2 := hst.cell 2 rfl
      have c3 := hst.cell 3 rfl
      clear hal
      cases fin
      · have HBY := Lib.hid (rbytes_any hba false hst (by omega) (s := ⟨(tx acc).toArray⟩) rfl)
        clear hst hba
        go_wp2_with fail
        refine HBY.out.mono ?_
        rintro e w5 ⟨rfl, h5⟩
        have H5 := Lib.hid h5.right; clear h5 HBY
        go_wp2_with fail
        go_ret
        exact ⟨rfl, H5.out⟩
      · have HEND := Lib.hid (rend15_any hst false al true true every (acc := acc) (by omega) (sb := ⟨(tx acc).toArray⟩) rfl)
        have hel := endB_len false al true acc
        have hb1 : Bit (endB false al true acc) := bit_endB hba
        clear hst hba
        obtain ⟨fin9, hf9⟩ : ∃ fin9, fin9 = fin3 false al true acc := ⟨_, rfl⟩
        have HF9 := Lib.hid hf9
        have h59 : iterW false 5 (endB false al true acc) = fin9 := by rw [hf9]; rfl
        have hl59 : (endB false al true acc).length ≤ 30000100 := by omega
        generalize endB false al true acc = acc1 at *
        have H59 := Lib.hid (⟨h59, hb1⟩ : _ ∧ _)
        clear hf9 h59 hb1 hel
        go_wp2_with fail
        refine HEND.out.mono ?_
        rintro e w5 ⟨rfl, h5⟩
        have f2 := h5.free 2
        have d2 := h5.cell 2 rfl
        have h6 := h5.set 2 (.bool false)
        have h6 : St w0 _ (blk bO (.cells #[.bool false, .int .i64 every, .bool false, .bool true] 49 (0, 0)) * F) := h6
        have H6 := Lib.hid h6
        clear h5 h6 HEND c0 c1 c2 c3
        go_wp2_with fail
        generalize w5.setCell ⟨bO, 2, none⟩ (.bool false) = w6 at *
        clear f2 d2
        go_loopw [5, 8] (fun vs vq wr => ∃ (q : Nat) (a : List Nat), q ≤ 5 ∧ vq = .int .i64 q ∧ vs = .string ⟨(tx a).toArray⟩ ∧ a.length ≤ 30000100 + 20 * q ∧ Bit a ∧ iterW false (5 - q) a = fin9 ∧ St w0 wr (blk bO (.cells #[.bool false, .int .i64 every, .bool false, .bool true] 49 (0, 0)) * F)) (fun _ vq _ => 5 - (intOf vq).toNat)
        case atStart => exact ⟨0, acc1, by omega, rfl, rfl, by omega, H59.out.2, H59.out.1, H6.out⟩
        case round =>
          clear H6 H59
          obtain ⟨q, a, hq, rfl, rfl, hal, hba, hall, hst⟩ := hrel
          have hla2 : (tx a).length = a.length := by simp
          by_cases hq5 : q < 5
          · have hqi : (q : Int) < 5 := by omega
            obtain ⟨m, hm⟩ : ∃ m, 5 - q = m + 1 := ⟨4 - q, by omega⟩
            rw [hm, iterW] at hall
            have hel := endB_len false false true a
            have c0 := hst.cell 0 rfl
            have c1 := hst.cell 1 rfl
            have c2 := hst.cell 2 rfl
            have c3 := hst.cell 3 rfl
            have HEND := Lib.hid (rend15_any hst false false true true every (acc := a) (by omega) (sb := ⟨(tx a).toArray⟩) rfl)
            have HH := Lib.hid (⟨by omega, bit_endB hba, by rw [show 5 - (q + 1) = m by omega]; exact hall⟩ : (endB false false true a).length ≤ 30000100 + 20 * (q + 1) ∧ Bit (endB false false true a) ∧ iterW false (5 - (q + 1)) (endB false false true a) = fin9)
            clear hst hall hm hel hba
            generalize endB false false true a = a2 at *
            go_wp2_with fail
            refine HEND.out.mono ?_
            rintro e w7 ⟨rfl, h7⟩
            have H7 := Lib.hid h7; clear h7 HEND c0 c1 c2 c3
            go_wp2_with fail
            exact ⟨⟨q + 1, a2, by omega, by go_num, rfl, HH.out.1, HH.out.2.1, HH.out.2.2, H7.out⟩, by simp [intOf]; omega⟩
          · obtain rfl : q = 5 := by omega
            rw [Nat.sub_self, iterW] at hall
            have HA9 := Lib.hid hall
            have HBY := Lib.hid (rbytes_any hba false hst (by omega) (s := ⟨(tx a).toArray⟩) rfl)
            clear hst hall hba
            go_wp2_with fail
            refine HBY.out.mono ?_
            rintro e w8 ⟨rfl, h8⟩
            have H8 := Lib.hid h8.right; clear h8 HBY
            go_wp2_with fail
            go_ret
            rw [← HF9.out, ← HA9.out]
            exact ⟨rfl, H8.out⟩

set_option maxHeartbeats 40000000 in
theorem rencode15_true {w0 w : World} {F : SProp} (h : St w0 w F) {Ps : List (List Nat)} {v : Value} (hv : Stb w0 F (fun w => Reads w 1 v Ps.length (Ps.map txv))) {width : Nat} (h1 : 1 ≤ width) (hw : width ≤ 400) (hP : ∀ P ∈ Ps, P.length = width ∧ Bit P) (hN : Ps.length ≤ 100) (al fin : Bool) (every : Int) (hev : 1 ≤ every) :
    Calls Tryd.prog 22 #[v, .agg #[.bool true, .int .i64 every, .bool al, .bool fin]] w fun e w' => e = .returned (.string ⟨(bytesB false (enc3 width true al fin every (Ps.map chg))).toArray⟩) ∧ St w0 w' F := by
  obtain ⟨a0, c0, rfl⟩ := (hv w h).sub
  have HV := Lib.hid hv; have HP := Lib.hid hP
  obtain ⟨res, hres⟩ : ∃ res, enc3F width true al every 0 [] (Ps.map chg) [] = res := ⟨_, rfl⟩
  rw [enc3, hres]
  have HRES := Lib.hid hres; clear hres hv hP
  have h2 : St w0 (w.alloc (.cells #[.bool true, .int .i64 every, .bool al, .bool fin] 49)) (blk w.heap.size (.cells #[.bool true, .int .i64 every, .bool al, .bool fin] 49 (0, 0)) * F) := h.alloc _
  have H := Lib.hid h2; clear h h2
  obtain ⟨bO, hbO⟩ : ∃ bO, bO = w.heap.size := ⟨_, rfl⟩
  rw [← hbO] at H
  go_enter Tryd.func22, Tryd.ntmps22
  go_wp2_with fail
  rw [← hbO]
  clear hbO
  go_loopw [5, 6] (fun vs vi wr => ∃ (k : Nat) (acc : List Nat), k ≤ Ps.length ∧ vi = .int .i64 k ∧ vs = .string ⟨(tx acc).toArray⟩ ∧ acc.length ≤ 300000 * k ∧ Bit acc ∧ enc3F width true al every k (topK Ps k) ((Ps.map chg).drop k) acc = res ∧ St w0 wr (blk bO (.cells #[.bool true, .int .i64 every, .bool al, .bool fin] 49 (0, 0)) * F)) (fun _ vi _ => Ps.length - (intOf vi).toNat)
  case atStart => exact ⟨0, [], by omega, rfl, rfl, by simp, bit_nil, HRES.out, H.out⟩
  case round =>
    clear H HRES
    obtain ⟨k, acc, hk, rfl, rfl, hal, hba, hall, hst⟩ := hrel
    have hla : (tx acc).length = acc.length := by simp
    by_cases hkn : k < Ps.length
    · have hkl : (k : Int) < Ps.length := by omega
      obtain ⟨g, o, rfl, e1⟩ := (HV.out wr hst.right).at_ hkn
      have hx := List.getElem?_eq_getElem hkn
      rw [List.getElem?_map, hx] at e1
      simp only [Option.map_some, txv] at e1
      obtain ⟨hPl, hPb⟩ := HP.out _ (List.getElem_mem hkn)
      have hd : (Ps.map chg).drop k = chg Ps[k] :: (Ps.map chg).drop (k + 1) := by
        rw [List.drop_eq_getElem_cons (by simpa using hkn), List.getElem_map]
      have htn : topK Ps (k + 1) = chg Ps[k] := by rw [topK, if_neg (by omega), Nat.add_sub_cancel, List.getD_eq_getElem?_getD, hx]; rfl
      rw [hd, enc3F] at hall
      have hall : enc3F width true al every (k + 1) (topK Ps (k + 1)) ((Ps.map chg).drop (k + 1)) (endB true al (singleF true every k) acc ++ body3 width (singleF true every k) (chg Ps[k]) (topK Ps k)) = res := by rw [htn]; exact hall
      have htopk : (topK Ps k).Pairwise (· < ·) ∧ ∀ x ∈ topK Ps k, x < width := by
        rw [topK]
        split
        · exact ⟨List.Pairwise.nil, fun x hx => by cases hx⟩
        · have hq : k - 1 < Ps.length := by omega
          have := (HP.out _ (List.getElem_mem hq)).1
          rw [List.getD_eq_getElem?_getD, List.getElem?_eq_getElem hq]
          exact topOk this
      have HCE := Lib.hid (fun w' (h : St w0 w' F) => by
        obtain ⟨g2, o2, e2, e3⟩ := (HV.out w' h).at_ hkn
        cases e2
        rw [List.getElem?_map, hx] at e3
        exact e3 : ∀ w', St w0 w' F → w'.cell? ⟨g, o + k, none⟩ = some (.string ⟨(tx Ps[k]).toArray⟩))
      have HCQ := Lib.hid (fun (hk0 : 0 < k) => (fun w' (h : St w0 w' F) => by
        have hq : k - 1 < Ps.length := by omega
        obtain ⟨g2, o2, e2, e3⟩ := (HV.out w' h).at_ hq
        cases e2
        rw [List.getElem?_map, List.getElem?_eq_getElem hq] at e3
        exact e3 : ∀ w', St w0 w' F → w'.cell? ⟨g, o + (k - 1), none⟩ = some (.string ⟨(tx (Ps[k - 1]'(by omega))).toArray⟩)))
      have HQQ := Lib.hid (fun (hk0 : 0 < k) => (by
        have hq : k - 1 < Ps.length := by omega
        have := HP.out _ (List.getElem_mem hq)
        refine ⟨this.1, this.2, ?_⟩
        rw [topK, if_neg (by omega), List.getD_eq_getElem?_getD, List.getElem?_eq_getElem hq]; rfl : (Ps[k - 1]'(by omega)).length = width ∧ Bit (Ps[k - 1]'(by omega)) ∧ chg (Ps[k - 1]'(by omega)) = topK Ps k))
      clear hx hd
      clear htn
      generalize Ps[k] = P at *
      have hev0 : ¬ every = 0 := by omega
      by_cases hz : (k : Int) % every = 0
      · have hsg : singleF true every k = true := decide_eq_true hz
        have hzb : ((k : Int) % every == 0) = true := by simpa using hz
        rw [hsg] at hall
        clear hsg HCQ HQQ
        have HEND := Lib.hid (rend15_any hst true al fin true every (acc := acc) (by omega) (sb := ⟨(tx acc).toArray⟩) rfl)
        have hel := endB_len true al true acc
        have hbE : Bit (endB true al true acc) := bit_endB hba
        have c0 := hst.cell 0 rfl
        have c1 := hst.cell 1 rfl
        have c2 := hst.cell 2 rfl
        have c3 := hst.cell 3 rfl
        have HBD := Lib.hid (fun (w' : World) (G : SProp) (h : St w0 w' G) => (by have C := rrow_any h hPb (by omega) (sb := ⟨(tx P).toArray⟩) rfl; rw [row_told hPb, hPl, show rowB false (lensF 0 (chg P) width) = body3 width true (chg P) (topK Ps k) from rfl] at C; exact C))
        have hbl := body3_len (width := width) (by omega) (s := true) (rowOk_chg hPl (by omega)) htopk
        have hbb := bit_body3 width true (chg P) (topK Ps k)
        have hal3 : (endB true al true acc ++ body3 width true (chg P) (topK Ps k)).length ≤ 300000 * (k + 1) := by rw [List.length_append]; omega
        have HH := Lib.hid (⟨hal3, hbE.append hbb, hall⟩ : _ ∧ _ ∧ _)
        have hlA : (tx (endB true al true acc)).length = (endB true al true acc).length := by simp
        have hlX : (tx (body3 width true (chg P) (topK Ps k))).length = (body3 width true (chg P) (topK Ps k)).length := by simp
        have hba2 := ByteArray.mk_append_mk (tx (endB true al true acc)) (tx (body3 width true (chg P) (topK Ps k)))
        rw [← tx_append] at hba2
        have HBA := Lib.hid hba2
        have hA9 : (endB true al true acc).length ≤ 30000100 := by omega
        have hX9 : (body3 width true (chg P) (topK Ps k)).length ≤ 290000 := hbl
        clear hall hal3 hba hbE hbb hbl hel hba2 hst hPl hPb htopk
        generalize endB true al true acc = acc1 at *
        generalize body3 width true (chg P) (topK Ps k) = X at *
        go_wp2_with fail
        refine HEND.out.mono ?_
        rintro e w5 ⟨rfl, h5⟩
        clear HEND c0 c1 c2 c3
        have e5 := HCE.out _ h5.right
        have HB := Lib.hid (HBD.out _ _ h5)
        clear h5 HBD
        go_wp2_with fail
        refine HB.out.mono ?_
        rintro e w6 ⟨rfl, h6⟩
        have H6 := Lib.hid h6; clear h6 HB
        go_wp2_with fail
        exact ⟨⟨k + 1, acc1 ++ X, by omega, by go_num, congrArg Value.string HBA.out, HH.out.1, HH.out.2.1, HH.out.2.2, H6.out⟩, by simp [intOf]; omega⟩
      · have hsg : singleF true every k = false := decide_eq_false hz
        have hzb : ((k : Int) % every == 0) = false := by simpa using hz
        rw [hsg] at hall
        have hk0 : 0 < k := by
          rcases Nat.eq_zero_or_pos k with h | h
          · subst h; exact absurd (by simp) hz
          · exact h
        have HCQ := Lib.hid (HCQ.out hk0)
        obtain ⟨hQl, hQb, hQt⟩ := HQQ.out hk0
        have hk1n : k - 1 < Ps.length := by omega
        clear hsg HQQ
        generalize (Ps[k - 1]'(by omega)) = Qr at *
        have HEND := Lib.hid (rend15_any hst true al fin false every (acc := acc) (by omega) (sb := ⟨(tx acc).toArray⟩) rfl)
        have hel := endB_len true al false acc
        have hbE : Bit (endB true al false acc) := bit_endB hba
        have c0 := hst.cell 0 rfl
        have c1 := hst.cell 1 rfl
        have c2 := hst.cell 2 rfl
        have c3 := hst.cell 3 rfl
        have HBD := Lib.hid (fun (w' : World) (G : SProp) (h : St w0 w' G) => (by have C := rAgainst_any h hPb hQb (by omega) (by omega) (sb := ⟨(tx P).toArray⟩) (tb := ⟨(tx Qr).toArray⟩) rfl rfl; rw [hPl, hQt, show agB (chg P) (topK Ps k) width (width + 1) (-1) false = body3 width false (chg P) (topK Ps k) from rfl] at C; exact C))
        have hbl := body3_len (width := width) (by omega) (s := false) (rowOk_chg hPl (by omega)) htopk
        have hbb := bit_body3 width false (chg P) (topK Ps k)
        have hal3 : (endB true al false acc ++ body3 width false (chg P) (topK Ps k)).length ≤ 300000 * (k + 1) := by rw [List.length_append]; omega
        have HH := Lib.hid (⟨hal3, hbE.append hbb, hall⟩ : _ ∧ _ ∧ _)
        have hlA : (tx (endB true al false acc)).length = (endB true al false acc).length := by simp
        have hlX : (tx (body3 width false (chg P) (topK Ps k))).length = (body3 width false (chg P) (topK Ps k)).length := by simp
        have hba2 := ByteArray.mk_append_mk (tx (endB true al false acc)) (tx (body3 width false (chg P) (topK Ps k)))
        rw [← tx_append] at hba2
        have HBA := Lib.hid hba2
        have hA9 : (endB true al false acc).length ≤ 30000100 := by omega
        have hX9 : (body3 width false (chg P) (topK Ps k)).length ≤ 290000 := hbl
        clear hall hal3 hba hbE hbb hbl hel hba2 hst hPl hPb htopk
        generalize endB true al false acc = acc1 at *
        generalize body3 width false (chg P) (topK Ps k) = X at *
        go_wp2_with fail
        refine HEND.out.mono ?_
        rintro e w5 ⟨rfl, h5⟩
        clear HEND c0 c1 c2 c3
        have e5 := HCE.out _ h5.right
        have e6 := HCQ.out _ h5.right
        have HB := Lib.hid (HBD.out _ _ h5.drew)
        have hk0i : (0 : Int) ≤ (k : Int) - 1 := by omega
        have hk1i : (k : Int) - 1 < Ps.length := by omega
        have hk1z : (1 : Int) ≤ (k : Int) := by omega
        have hk1t : ((k : Int) - 1).toNat = k - 1 := by omega
        have hkl9 : k ≤ 100 := by omega
        have hkw : IntKind.i64.wrap ((k : Int) - 1) = (k : Int) - 1 := IntWalk.i64_in _ (by omega)
        clear h5 HBD
        go_wp2_with fail
        go_region_with (go_at_call 32; refine HB.out.mono ?_; rintro e w6 ⟨rfl, h6⟩; have H6 := Lib.hid h6; clear h6 HB)
        all_goals (clear hkw; go_wp2_with fail)
        all_goals exact ⟨⟨k + 1, acc1 ++ X, by omega, by go_num, congrArg Value.string HBA.out, HH.out.1, HH.out.2.1, HH.out.2.2, H6.out⟩, by simp [intOf]; omega⟩

    · obtain rfl : k = Ps.length := by omega
      rw [List.drop_of_length_le (by simp), enc3F] at hall
      subst hall
      have ha9 : acc.length ≤ 30000000 := by omega
      have c0 := hst.cell 0 rfl
      have c1 := hst.cell 1 rfl
      have c2 := hst.cell 2 rfl
      have c3 := hst.cell 3 rfl
      clear hal
      cases fin
      · have HBY := Lib.hid (rbytes_any hba false hst (by omega) (s := ⟨(tx acc).toArray⟩) rfl)
        clear hst hba
        go_wp2_with fail
        refine HBY.out.mono ?_
        rintro e w5 ⟨rfl, h5⟩
        have H5 := Lib.hid h5.right; clear h5 HBY
        go_wp2_with fail
        go_ret
        exact ⟨rfl, H5.out⟩
      · have HEND := Lib.hid (rend15_any hst true al true true every (acc := acc) (by omega) (sb := ⟨(tx acc).toArray⟩) rfl)
        have hel := endB_len true al true acc
        have hb1 : Bit (endB true al true acc) := bit_endB hba
        clear hst hba
        obtain ⟨fin9, hf9⟩ : ∃ fin9, fin9 = fin3 true al true acc := ⟨_, rfl⟩
        have HF9 := Lib.hid hf9
        have h59 : iterW true 5 (endB true al true acc) = fin9 := by rw [hf9]; rfl
        have hl59 : (endB true al true acc).length ≤ 30000100 := by omega
        generalize endB true al true acc = acc1 at *
        have H59 := Lib.hid (⟨h59, hb1⟩ : _ ∧ _)
        clear hf9 h59 hb1 hel
        go_wp2_with fail
        refine HEND.out.mono ?_
        rintro e w5 ⟨rfl, h5⟩
        have f2 := h5.free 2
        have d2 := h5.cell 2 rfl
        have h6 := h5.set 2 (.bool false)
        have h6 : St w0 _ (blk bO (.cells #[.bool true, .int .i64 every, .bool false, .bool true] 49 (0, 0)) * F) := h6
        have H6 := Lib.hid h6
        clear h5 h6 HEND c0 c1 c2 c3
        go_wp2_with fail
        generalize w5.setCell ⟨bO, 2, none⟩ (.bool false) = w6 at *
        clear f2 d2
        go_loopw [5, 8] (fun vs vq wr => ∃ (q : Nat) (a : List Nat), q ≤ 5 ∧ vq = .int .i64 q ∧ vs = .string ⟨(tx a).toArray⟩ ∧ a.length ≤ 30000100 + 20 * q ∧ Bit a ∧ iterW true (5 - q) a = fin9 ∧ St w0 wr (blk bO (.cells #[.bool true, .int .i64 every, .bool false, .bool true] 49 (0, 0)) * F)) (fun _ vq _ => 5 - (intOf vq).toNat)
        case atStart => exact ⟨0, acc1, by omega, rfl, rfl, by omega, H59.out.2, H59.out.1, H6.out⟩
        case round =>
          clear H6 H59
          obtain ⟨q, a, hq, rfl, rfl, hal, hba, hall, hst⟩ := hrel
          have hla2 : (tx a).length = a.length := by simp
          by_cases hq5 : q < 5
          · have hqi : (q : Int) < 5 := by omega
            obtain ⟨m, hm⟩ : ∃ m, 5 - q = m + 1 := ⟨4 - q, by omega⟩
            rw [hm, iterW] at hall
            have hel := endB_len true false true a
            have c0 := hst.cell 0 rfl
            have c1 := hst.cell 1 rfl
            have c2 := hst.cell 2 rfl
            have c3 := hst.cell 3 rfl
            have HEND := Lib.hid (rend15_any hst true false true true every (acc := a) (by omega) (sb := ⟨(tx a).toArray⟩) rfl)
            have HH := Lib.hid (⟨by omega, bit_endB hba, by rw [show 5 - (q + 1) = m by omega]; exact hall⟩ : (endB true false true a).length ≤ 30000100 + 20 * (q + 1) ∧ Bit (endB true false true a) ∧ iterW true (5 - (q + 1)) (endB true false true a) = fin9)
            clear hst hall hm hel hba
            generalize endB true false true a = a2 at *
            go_wp2_with fail
            refine HEND.out.mono ?_
            rintro e w7 ⟨rfl, h7⟩
            have H7 := Lib.hid h7; clear h7 HEND c0 c1 c2 c3
            go_wp2_with fail
            exact ⟨⟨q + 1, a2, by omega, by go_num, rfl, HH.out.1, HH.out.2.1, HH.out.2.2, H7.out⟩, by simp [intOf]; omega⟩
          · obtain rfl : q = 5 := by omega
            rw [Nat.sub_self, iterW] at hall
            have HA9 := Lib.hid hall
            have HBY := Lib.hid (rbytes_any hba false hst (by omega) (s := ⟨(tx a).toArray⟩) rfl)
            clear hst hall hba
            go_wp2_with fail
            refine HBY.out.mono ?_
            rintro e w8 ⟨rfl, h8⟩
            have H8 := Lib.hid h8.right; clear h8 HBY
            go_wp2_with fail
            go_ret
            rw [← HF9.out, ← HA9.out]
            exact ⟨rfl, H8.out⟩
end Go.Proofs.YtdjoigobmmaaiaaDoor
