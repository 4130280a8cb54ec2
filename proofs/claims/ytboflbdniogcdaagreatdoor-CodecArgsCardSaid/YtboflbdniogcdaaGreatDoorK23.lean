/-
  Parts of a proof.
-/
import Derived.Deep.RegionWith
import Derived.Test.YtboflbdniogcdaaGreatDoorK21
import Derived.Deep.QuietTactic
import Derived.BigQuiet
import Derived.Test.YtboflbdniogcdaaGreatDoorK04
import Derived.Test.YtboflbdniogcdaaGreatDoorChecked
import Derived.Test.YtboflbdniogcdaaGreatDoorK01
import Derived.WalkLawsBesides
import Derived.RegionTactic
import Derived.BigRegion
import Derived.Test.YtboflbdniogcdaaGreatDoorK05
namespace Go.Proofs.YtboflbdniogcdaaGreatDoor
open Go.RowKit Go.Mz
set_option linter.unusedVariables false
set_option linter.unusedSimpArgs false
set_option maxRecDepth 100000
def agAll (width : Nat) : List Nat → List (List Nat) → List Nat
 | _, [] => []
 | top, l :: r => agB l top width (width + 1) (-1) false ++ agAll width l r
end Go.Proofs.YtboflbdniogcdaaGreatDoor
namespace Go.Proofs.YtboflbdniogcdaaGreatDoor
open Go.RowKit Go.Mz
set_option linter.unusedVariables false
set_option linter.unusedSimpArgs false
set_option maxRecDepth 100000
def endW : List Nat := eolW ++ eolW
theorem mod_one {i : Nat} (h : i < 9) : (modW.getD i []).length ≤ 7 ∧ 1 ∈ modW.getD i [] := by
 have : ∀ i ∈ List.range 9, (modW.getD i []).length ≤ 7 ∧ 1 ∈ modW.getD i [] := by decide +kernel
 exact this i (List.mem_range.2 h)
def enc4 (width : Nat) (L : List (List Nat)) : List Nat := agAll width [] L ++ endW
theorem agAll_len {width : Nat} (hw : width ≤ 400) : ∀ (L : List (List Nat)) (top : List Nat), (∀ l ∈ L, RowOk width l) → (top.Pairwise (· < ·) ∧ ∀ x ∈ top, x < width) → (agAll width top L).length ≤ 300000 * L.length := by
 intro L
 induction L with
 | nil => intro top _ _; simp [agAll]
 | cons l r ih =>
  intro top h ht
  have hl := h l (by simp)
  have h1 := agB_len hl.1 hl.2.1 ht.1 ht.2 (by omega) (width + 1) (-1) false
  have h2 := ih l (fun x hx => h x (by simp [hx])) ⟨hl.1, hl.2.1⟩
  rw [agAll, List.length_append, List.length_cons]; omega
end Go.Proofs.YtboflbdniogcdaaGreatDoor
namespace Go.Proofs.YtboflbdniogcdaaGreatDoor
open Go.RowKit Go.Mz
set_option linter.unusedVariables false
set_option linter.unusedSimpArgs false
set_option maxRecDepth 100000
theorem eol_un : unTx [48, 48, 48, 48, 48, 48, 48, 48, 48, 48, 48, 49] = eolW := by decide +kernel
set_option maxHeartbeats 4000000 in
theorem encode16_any {w0 w : World} {F : SProp} (h : St w0 w F) (htab : Tab w0 F) {R : List (Value × List Nat)} {v : Value} (hv : Stb w0 F (fun w => Reads w 1 v R.length (R.map Prod.fst))) (hr : Stb w0 F (fun w => ∀ x ∈ R, Reads w 1 x.1 x.2.length (x.2.map nv))) {width : Nat} (h1 : 1 ≤ width) (hw : width ≤ 400) (hR : ∀ x ∈ R, RowOk width x.2) (hN : R.length ≤ 300) :
  Calls Tryz.prog 46 #[v, .int .i64 (width : Int)] w fun e w' => ∃ v', e = .returned (.tuple #[v', .int .i64 0]) ∧ St w0 w' (own 5 1 v' (bytesB false (enc4 width (R.map Prod.snd))).length ((bytesB false (enc4 width (R.map Prod.snd))).map bv) * F) := by
 obtain ⟨a0, c0, rfl⟩ := (hv w h).sub
 have HV := Lib.hid hv; have HRR := Lib.hid hr; have HRO := Lib.hid hR
 have HT := Lib.hid htab
 have hw1 : ¬ (width : Int) < 1 := by omega
 have hw2 : ¬ (32768 : Int) < width := by omega
 obtain ⟨res, hres⟩ : ∃ res, agAll width [] (R.map Prod.snd) = res := ⟨_, rfl⟩
 rw [enc4, hres]
 have HRES := Lib.hid hres; clear hres htab hv hr hR
 have H := Lib.hid h; clear h
 go_enter Tryz.func46, Tryz.ntmps46
 go_wp2_with fail
 refine (newWriter_any (low := false) H.out).mono ?_
 rintro e w3 ⟨Wb, rfl, h3⟩
 have H3 := Lib.hid h3; clear h3 H
 go_wp2_with fail
 refine (newCodes_any H3.out (fun w h => HT.out w h.right)).mono ?_
 rintro e w4 ⟨C, rfl, h4⟩
 have h5 := (h4.lit #[] 3 0 rfl (by decide)).perm (show _ = codes C * (wrt Wb [] false * (own 3 1 (.slice (some ⟨w4.heap.size, 0, none⟩) 0 0) 0 [] * F)) by simp only; ac_rfl)
 have H5 := Lib.hid h5; clear h4 h5 H3
 go_wp2_with fail
 generalize w4.heap.size = gA at *
 go_loopw [8, 23] (fun va vi wr => ∃ (k : Nat) (acc top : List Nat) (aa : Option Addr) (ca : Nat), k ≤ R.length ∧ vi = .int .i64 k ∧ va = .slice aa top.length ca ∧ acc.length ≤ 300000 * k ∧ acc ++ agAll width top ((R.map Prod.snd).drop k) = res ∧ (top.Pairwise (· < ·) ∧ (∀ x ∈ top, x < width) ∧ top.length ≤ 400) ∧
   Stb w0 (own 3 1 (.slice (some ⟨gA, 0, none⟩) 0 0) 0 [] * F) (fun w => Reads w 1 (.slice aa top.length ca) top.length (top.map nv)) ∧ St w0 wr (codes C * (wrt Wb acc false * (own 3 1 (.slice (some ⟨gA, 0, none⟩) 0 0) 0 [] * F)))) (fun _ vi _ => R.length - (intOf vi).toNat)
 case atStart => exact ⟨0, [], [], some ⟨gA, 0, none⟩, 0, by omega, rfl, rfl, by simp, HRES.out, ⟨List.Pairwise.nil, (fun x hx => by cases hx), by simp⟩, Stb.of_own, H5.out⟩
 case round =>
  clear H5 HRES
  obtain ⟨k, acc, top, aa, ca, hk, rfl, rfl, hal, hall, htop, hstb, hst⟩ := hrel
  by_cases hkn : k < R.length
  ·have hkl : (k : Int) < R.length := by omega
   obtain ⟨g, o, rfl, e1⟩ := (HV.out wr hst.right.right.right).at_ hkn
   have hx := List.getElem?_eq_getElem hkn
   rw [List.getElem?_map, hx] at e1
   simp only [Option.map_some] at e1
   have hmem := List.getElem_mem hkn
   have hd : (R.map Prod.snd).drop k = R[k].2 :: (R.map Prod.snd).drop (k + 1) := by
    rw [List.drop_eq_getElem_cons (by simpa using hkn), List.getElem_map]
   rw [hd, agAll, ← List.append_assoc] at hall
   have hro := HRO.out _ hmem
   have hrd : Stb w0 F (fun w => Reads w 1 R[k].1 R[k].2.length (R[k].2.map nv)) := fun w h => HRR.out w h _ hmem
   clear hx hd hmem
   obtain ⟨⟨xv, xl⟩, hxx⟩ : ∃ x, R[k] = x := ⟨_, rfl⟩
   rw [hxx] at e1 hall hro hrd
   simp only at e1 hall hro hrd
   clear hxx
   obtain ⟨ax, cx, rfl⟩ := (hrd wr hst.right.right.right).sub
   have hbl := agB_len hro.1 hro.2.1 htop.1 htop.2.1 (by omega) (width + 1) (-1) false
   have HW := Lib.hid (writeAgainst_any hst (hrd.more _) hstb hro.1 hro.2.1 htop.1 htop.2.1 h1 (by omega) (by have := hro.2.2; omega) (by have := htop.2.2; omega) (by omega))
   have hal3 : (acc ++ agB xl top width (width + 1) (-1) false).length ≤ 300000 * (k + 1) := by rw [List.length_append]; omega
   have HALL := Lib.hid (⟨hall, hal3, hro⟩ : _ ∧ _ ∧ _)
   have HRX := Lib.hid (hrd.more (own 3 1 (.slice (some ⟨gA, 0, none⟩) 0 0) 0 []))
   clear hall hal3 hbl hro hrd hst htop hstb
   generalize acc ++ agB xl top width (width + 1) (-1) false = acc2 at *
   go_wp2_with fail
   refine HW.out.mono ?_
   rintro e w5 ⟨rfl, h5⟩
   have H5 := Lib.hid h5; clear h5 HW
   go_wp2_with fail
   exact ⟨⟨k + 1, acc2, xl, ax, cx, by omega, by go_num, rfl, HALL.out.2.1, HALL.out.1, HALL.out.2.2, HRX.out, H5.out⟩, by simp [intOf]; omega⟩
  ·obtain rfl : k = R.length := by omega
   rw [List.drop_of_length_le (by simp), agAll, List.append_nil] at hall
   have HRS := Lib.hid hall
   have hl2 : acc.length ≤ 90000000 := by omega
   have HW1 := Lib.hid (word_ok (hst.perm (star_left_comm _ _ _)) [48, 48, 48, 48, 48, 48, 48, 48, 48, 48, 48, 49] (by decide) (by decide) (by simp only [List.length]; omega))
   rw [eol_un] at HW1
   clear hst hall htop hstb hal
   go_wp2_with fail
   refine HW1.out.mono ?_
   rintro e w5 ⟨rfl, h5⟩
   have HW2 := Lib.hid (word_ok h5 [48, 48, 48, 48, 48, 48, 48, 48, 48, 48, 48, 49] (by decide) (by decide) (by rw [List.length_append, show eolW.length = 12 by decide]; simp only [List.length]; omega))
   rw [eol_un, List.append_assoc] at HW2
   clear h5 HW1
   go_wp2_with fail
   refine HW2.out.mono ?_
   rintro e w6 ⟨rfl, h6⟩
   have h6 : St w0 w6 (wrt Wb (acc ++ endW) false * (codes C * (own 3 1 (.slice (some ⟨gA, 0, none⟩) 0 0) 0 [] * F))) := h6
   have HBY := bytes_any h6
   rw [HRS.out] at HBY
   obtain ⟨fin, hfin⟩ : ∃ fin, fin = res ++ endW := ⟨_, rfl⟩
   rw [← hfin] at HBY
   have hl1 : (bytesB false fin).length = (fin.length + 7) / 8 := length_bytesB _ _
   rw [← hl1] at HBY
   obtain ⟨E, hE⟩ : ∃ E, E = bytesB false fin := ⟨_, rfl⟩
   rw [← hE] at HBY
   rw [hfin] at hE
   have HEE := Lib.hid hE
   clear hE hfin
   have HBY := Lib.hid HBY
   clear h6 HW2 hl1
   go_wp2_with fail
   refine HBY.out.mono ?_
   rintro e w7 ⟨v7, rfl, h7⟩
   obtain ⟨a7, c7, rfl⟩ := h7.reads.sub
   have H7 := Lib.hid (h7.perm (show _ = wrt Wb fin false * (codes C * (own 3 1 (.slice (some ⟨gA, 0, none⟩) 0 0) 0 [] * (own 5 1 (.slice a7 E.length c7) E.length (E.map bv) * F))) by ac_rfl)).right.right.right
   clear h7 HBY
   go_wp2_with fail
   go_ret2
   rw [← HEE.out]
   exact ⟨_, rfl, H7.out⟩
end Go.Proofs.YtboflbdniogcdaaGreatDoor
namespace Go.Proofs.YtboflbdniogcdaaGreatDoor
open Go.RowKit Go.Mz
set_option linter.unusedVariables false
set_option linter.unusedSimpArgs false
set_option maxRecDepth 100000
def endZ (n : Nat) : Nat := (12 - n % 8) % 8
def endB (two al s : Bool) (acc : List Nat) : List Nat := acc ++ (cond al (List.replicate (endZ acc.length) 0) [] ++ (eolW ++ cond two [cond s 1 0] []))
def singleF (two : Bool) (every : Int) (i : Nat) : Bool := !two || decide ((i : Int) % every = 0)
def body3 (width : Nat) (s : Bool) (l top : List Nat) : List Nat := cond s (rowB false (lensF 0 l width)) (agB l top width (width + 1) (-1) false)
def enc3F (width : Nat) (two al : Bool) (every : Int) : Nat → List Nat → List (List Nat) → List Nat → List Nat
 | _, _, [], acc => acc
 | i, top, l :: r, acc => enc3F width two al every (i + 1) l r (endB two al (singleF two every i) acc ++ body3 width (singleF two every i) l top)
def fin3 (two al fin : Bool) (acc : List Nat) : List Nat := cond fin (endB two false true (endB two false true (endB two false true (endB two false true (endB two false true (endB two al true acc)))))) acc
def enc3 (width : Nat) (two al fin : Bool) (every : Int) (L : List (List Nat)) : List Nat := fin3 two al fin (enc3F width two al every 0 [] L [])
theorem endB_len (two al s : Bool) (acc : List Nat) : (endB two al s acc).length ≤ acc.length + 20 := by
 have h1 : eolW.length = 12 := by decide
 rw [endB, List.length_append, List.length_append, List.length_append, h1]
 have h2 : (cond al (List.replicate (endZ acc.length) 0) []).length ≤ 7 := by cases al <;> simp [endZ]; omega
 have h3 : (cond two [cond s 1 0] []).length ≤ 1 := by cases two <;> simp
 omega
theorem body3_len {width : Nat} (hw : width ≤ 400) {s : Bool} {l top : List Nat} (hl : RowOk width l) (ht : top.Pairwise (· < ·) ∧ ∀ x ∈ top, x < width) : (body3 width s l top).length ≤ 290000 := by
 cases s
 ·have := agB_len hl.1 hl.2.1 ht.1 ht.2 (by omega) (width + 1) (-1) false
  show (agB l top width (width + 1) (-1) false).length ≤ _
  omega
 ·have := rowB_lenF hl (by omega)
  show (rowB false (lensF 0 l width)).length ≤ _
  omega
theorem enc3F_len {width : Nat} (hw : width ≤ 400) {two al : Bool} {every : Int} : ∀ (L : List (List Nat)) (i : Nat) (top acc : List Nat), (∀ l ∈ L, RowOk width l) → (top.Pairwise (· < ·) ∧ ∀ x ∈ top, x < width) → (enc3F width two al every i top L acc).length ≤ acc.length + 300000 * L.length := by
 intro L
 induction L with
 | nil => intro i top acc _ _; simp [enc3F]
 | cons l r ih =>
  intro i top acc h ht
  have hl := h l (by simp)
  have h1 := body3_len hw (s := singleF two every i) hl ht
  have h2 := endB_len two al (singleF two every i) acc
  have h3 := ih (i + 1) l (endB two al (singleF two every i) acc ++ body3 width (singleF two every i) l top) (fun x hx => h x (by simp [hx])) ⟨hl.1, hl.2.1⟩
  rw [List.length_append] at h3
  rw [enc3F, List.length_cons]; omega
end Go.Proofs.YtboflbdniogcdaaGreatDoor
namespace Go.Proofs.YtboflbdniogcdaaGreatDoor
open Go.RowKit Go.Mz
set_option linter.unusedVariables false
set_option linter.unusedSimpArgs false
set_option maxRecDepth 100000
def optC (two : Bool) (every : Int) (al fin : Bool) : Array Value := #[.bool two, .int .i64 every, .bool al, .bool fin]
set_option maxHeartbeats 4000000 in
theorem end15_any {w0 w : World} {F : SProp} {Wb : Nat} {acc : List Nat} (h : St w0 w (wrt Wb acc false * F)) (two al fin s : Bool) (every : Int) (hal : acc.length ≤ 90000000000000) :
  Calls Tryz.prog 97 #[.pointer (some ⟨Wb, 0, none⟩), .agg (optC two every al fin), .bool s] w fun e w' => e = .returned (.tuple #[]) ∧ St w0 w' (wrt Wb (endB two al s acc) false * F) := by
 have h2 : St w0 (w.alloc (.cells #[.bool two, .int .i64 every, .bool al, .bool fin] 84)) (blk w.heap.size (.cells #[.bool two, .int .i64 every, .bool al, .bool fin] 84 (0, 0)) * (wrt Wb acc false * F)) := h.alloc _
 clear h
 unfold optC
 have hst := h2
 clear h2
 cases al
 ·have HA := Lib.hid (rfl : acc = acc)
  have c2 := hst.cell 2 rfl
  go_enter Tryz.func97, Tryz.ntmps97
  go_wp2_with fail
  go_loopg [13] 0 (fun g vn wr => St w0 wr (blk w.heap.size (.cells #[.bool two, .int .i64 every, .bool false, .bool fin] 84 (0, 0)) * (wrt Wb acc false * F)))
  case atStart => exact hst
  case round =>
   clear hst c2
   have hst := hrel
   clear hrel
   have c2 := hst.cell 2 rfl
   have HW := Lib.hid (word_ok (hst.perm (star_left_comm _ _ _)) [48, 48, 48, 48, 48, 48, 48, 48, 48, 48, 48, 49] (by decide) (by decide) (by simp only [List.length]; omega))
   rw [eol_un] at HW
   clear hst
   go_wp2_with fail
   refine HW.out.mono ?_
   rintro e w5 ⟨rfl, h5⟩
   clear HW
   have h5 := h5.perm (star_left_comm _ _ _)
   have y0 := h5.cell 0 rfl
   have hal6 : (acc ++ eolW).length ≤ 99999999999950 := by rw [List.length_append, show eolW.length = 12 by decide]; omega
   cases two
   ·have HE := Lib.hid (show acc ++ eolW = endB false false s acc by rw [endB]; simp only [cond, List.append_nil, List.append_assoc, List.nil_append] <;> first | rfl | (rw [HA.out]; simp only [List.append_assoc]))
    have H5 := Lib.hid h5.right
    clear h5 hal6
    go_wp2_with fail
    go_end0
    exact ⟨rfl, by rw [← HE.out]; exact H5.out⟩
   ·cases s
    ·have HW2 := Lib.hid (write_ok (h5.perm (star_left_comm _ _ _)) 0 1 (by decide) (fun _ => by decide) (by decide) (by omega))
     have HE := Lib.hid (show (acc ++ eolW) ++ wrN false 0 1 = endB true false false acc by rw [endB, show wrN false 0 1 = [0] by decide]; simp only [cond, List.append_assoc, List.nil_append] <;> first | rfl | (rw [HA.out]; simp only [List.append_assoc]))
     clear h5 hal6
     go_wp2_with fail
     refine HW2.out.mono ?_
     rintro e w6 ⟨rfl, h6⟩
     have H6 := Lib.hid (h6.perm (star_left_comm _ _ _)).right
     clear h6 HW2
     go_wp2_with fail
     go_end0
     exact ⟨rfl, by rw [← HE.out]; exact H6.out⟩
    ·have HW2 := Lib.hid (write_ok (h5.perm (star_left_comm _ _ _)) 1 1 (by decide) (fun _ => by decide) (by decide) (by omega))
     have HE := Lib.hid (show (acc ++ eolW) ++ wrN false 1 1 = endB true false true acc by rw [endB, show wrN false 1 1 = [1] by decide]; simp only [cond, List.append_assoc, List.nil_append] <;> first | rfl | (rw [HA.out]; simp only [List.append_assoc]))
     clear h5 hal6
     go_wp2_with fail
     refine HW2.out.mono ?_
     rintro e w6 ⟨rfl, h6⟩
     have H6 := Lib.hid (h6.perm (star_left_comm _ _ _)).right
     clear h6 HW2
     go_wp2_with fail
     go_end0
     exact ⟨rfl, by rw [← HE.out]; exact H6.out⟩
 ·have hz : endZ acc.length ≤ 7 := by rw [endZ]; omega
  go_enter Tryz.func97, Tryz.ntmps97
  go_wp2_with fail
  go_loopg [13] (endZ acc.length) (fun g vn wr => ∃ j : Nat, j + g = endZ acc.length ∧ St w0 wr (blk w.heap.size (.cells #[.bool two, .int .i64 every, .bool true, .bool fin] 84 (0, 0)) * (wrt Wb (acc ++ List.replicate j 0) false * F)))
  case atStart => exact ⟨0, by omega, by simpa using hst⟩
  case round =>
   clear hst
   obtain ⟨j, hj, hst⟩ := hrel
   have c2 := hst.cell 2 rfl
   have hla : (acc ++ List.replicate j 0).length = acc.length + j := by simp
   have HLN := Lib.hid (len_any (hst.perm (star_left_comm _ _ _)))
   by_cases hg : gk = 0
   ·subst hg
    obtain rfl : j = endZ acc.length := by omega
    have h8 : ((((acc ++ List.replicate (endZ acc.length) 0).length : Nat) : Int) % 8 != 4) = false := by
     have : (((acc ++ List.replicate (endZ acc.length) 0).length : Nat) : Int) % 8 = 4 := by rw [hla, endZ]; omega
     rw [this]; rfl
    obtain ⟨A1, hA1⟩ : ∃ A1, A1 = acc ++ List.replicate (endZ acc.length) 0 := ⟨_, rfl⟩
    rw [← hA1] at hst HLN h8 hla
    have HA := Lib.hid hA1
    clear hA1 hj
    go_wp2_with fail
    refine HLN.out.mono ?_
    rintro e w4 ⟨rfl, rfl⟩
    clear HLN
    have HW := Lib.hid (word_ok (hst.perm (star_left_comm _ _ _)) [48, 48, 48, 48, 48, 48, 48, 48, 48, 48, 48, 49] (by decide) (by decide) (by simp only [List.length]; omega))
    rw [eol_un] at HW
    clear hst
    go_wp2_with fail
    refine HW.out.mono ?_
    rintro e w5 ⟨rfl, h5⟩
    clear HW
    have h5 := h5.perm (star_left_comm _ _ _)
    have y0 := h5.cell 0 rfl
    have hal6 : (A1 ++ eolW).length ≤ 99999999999950 := by rw [List.length_append, show eolW.length = 12 by decide]; omega
    cases two
    ·have HE := Lib.hid (show A1 ++ eolW = endB false true s acc by rw [endB]; simp only [cond, List.append_nil, List.append_assoc, List.nil_append] <;> first | rfl | (rw [HA.out]; simp only [List.append_assoc]))
     have H5 := Lib.hid h5.right
     clear h5 hal6
     go_wp2_with fail
     go_end0
     exact ⟨rfl, by rw [← HE.out]; exact H5.out⟩
    ·cases s
     ·have HW2 := Lib.hid (write_ok (h5.perm (star_left_comm _ _ _)) 0 1 (by decide) (fun _ => by decide) (by decide) (by omega))
      have HE := Lib.hid (show (A1 ++ eolW) ++ wrN false 0 1 = endB true true false acc by rw [endB, show wrN false 0 1 = [0] by decide]; simp only [cond, List.append_assoc, List.nil_append] <;> first | rfl | (rw [HA.out]; simp only [List.append_assoc]))
      clear h5 hal6
      go_wp2_with fail
      refine HW2.out.mono ?_
      rintro e w6 ⟨rfl, h6⟩
      have H6 := Lib.hid (h6.perm (star_left_comm _ _ _)).right
      clear h6 HW2
      go_wp2_with fail
      go_end0
      exact ⟨rfl, by rw [← HE.out]; exact H6.out⟩
     ·have HW2 := Lib.hid (write_ok (h5.perm (star_left_comm _ _ _)) 1 1 (by decide) (fun _ => by decide) (by decide) (by omega))
      have HE := Lib.hid (show (A1 ++ eolW) ++ wrN false 1 1 = endB true true true acc by rw [endB, show wrN false 1 1 = [1] by decide]; simp only [cond, List.append_assoc, List.nil_append] <;> first | rfl | (rw [HA.out]; simp only [List.append_assoc]))
      clear h5 hal6
      go_wp2_with fail
      refine HW2.out.mono ?_
      rintro e w6 ⟨rfl, h6⟩
      have H6 := Lib.hid (h6.perm (star_left_comm _ _ _)).right
      clear h6 HW2
      go_wp2_with fail
      go_end0
      exact ⟨rfl, by rw [← HE.out]; exact H6.out⟩
   ·have h8 : ((((acc ++ List.replicate j 0).length : Nat) : Int) % 8 != 4) = true := by
     rw [bne_iff_ne, hla]; rw [endZ] at hj; omega
    have HW := Lib.hid (write_ok (hst.perm (star_left_comm _ _ _)) 0 1 (by decide) (fun _ => by decide) (by decide) (by omega))
    rw [show wrN false 0 1 = [0] by decide, List.append_assoc, ← List.replicate_succ'] at HW
    clear hst
    go_wp2_with fail
    refine HLN.out.mono ?_
    rintro e w4 ⟨rfl, rfl⟩
    clear HLN
    go_wp2_with fail
    refine HW.out.mono ?_
    rintro e w5 ⟨rfl, h5⟩
    have H5 := Lib.hid (h5.perm (star_left_comm _ _ _))
    clear h5 HW h8 c2 hla
    go_wp2_with fail
    go_roundg (gk - 1)
    case measure => omega
    case rel => exact ⟨j + 1, by omega, H5.out⟩
theorem right15_any {w0 w : World} {F : SProp} (h : St w0 w F) (two al fin : Bool) (every : Int) :
  Calls Tryz.prog 96 #[.agg #[.bool two, .int .i64 every, .bool al, .bool fin]] w fun e w' => e = .returned (.bool (decide (1 ≤ every) || !two)) ∧ St w0 w' F := by
 have h2 : St w0 (w.alloc (.cells #[.bool two, .int .i64 every, .bool al, .bool fin] 84)) F := h.drop_alloc _
 have H := Lib.hid h2; clear h h2
 by_cases hev : 1 ≤ every
 ·have hd : decide (1 ≤ every) = true := decide_eq_true hev
  rw [hd]
  go_enter Tryz.func96, Tryz.ntmps96
  go_wp2_with fail
  go_ret
  exact ⟨by simp, H.out⟩
 ·have hd : decide (1 ≤ every) = false := decide_eq_false hev
  rw [hd]
  go_enter Tryz.func96, Tryz.ntmps96
  go_wp2_with fail
  go_ret
  exact ⟨by simp, H.out⟩
def iterE (two : Bool) : Nat → List Nat → List Nat
 | 0, a => a
 | n + 1, a => iterE two n (endB two false true a)
set_option maxHeartbeats 40000000 in
theorem encode15_false {w0 w : World} {F : SProp} (h : St w0 w F) (htab : Tab w0 F) {R : List (Value × List Nat)} {v : Value} (hv : Stb w0 F (fun w => Reads w 1 v R.length (R.map Prod.fst))) (hr : Stb w0 F (fun w => ∀ x ∈ R, Reads w 1 x.1 x.2.length (x.2.map nv))) {width : Nat} (h1 : 1 ≤ width) (hw : width ≤ 400) (hR : ∀ x ∈ R, RowOk width x.2) (hN : R.length ≤ 300) (al fin : Bool) (every : Int) :
  Calls Tryz.prog 45 #[v, .int .i64 (width : Int), .agg #[.bool false, .int .i64 every, .bool al, .bool fin]] w fun e w' => ∃ v', e = .returned (.tuple #[v', .int .i64 0]) ∧ St w0 w' (own 5 1 v' (bytesB false (enc3 width false al fin every (R.map Prod.snd))).length ((bytesB false (enc3 width false al fin every (R.map Prod.snd))).map bv) * F) := by
 obtain ⟨a0, c0, rfl⟩ := (hv w h).sub
 have HV := Lib.hid hv; have HRR := Lib.hid hr; have HRO := Lib.hid hR
 have HT := Lib.hid htab
 have hw1 : ¬ (width : Int) < 1 := by omega
 have hw2 : ¬ (32768 : Int) < width := by omega
 have hw1d : decide ((width : Int) < 1) = false := decide_eq_false hw1
 have hw2d : decide ((32768 : Int) < width) = false := decide_eq_false hw2
 obtain ⟨res, hres⟩ : ∃ res, enc3F width false al every 0 [] (R.map Prod.snd) [] = res := ⟨_, rfl⟩
 rw [enc3, hres]
 have HRES := Lib.hid hres; clear hres htab hv hr hR
 have hrt : (decide (1 ≤ every) || !false) = true := by simp
 have h2 : St w0 (w.alloc (.cells #[.bool false, .int .i64 every, .bool al, .bool fin] 84)) (blk w.heap.size (.cells #[.bool false, .int .i64 every, .bool al, .bool fin] 84 (0, 0)) * F) := h.alloc _
 have H := Lib.hid h2; clear h h2
 obtain ⟨bO, hbO⟩ : ∃ bO, bO = w.heap.size := ⟨_, rfl⟩
 rw [← hbO] at H
 go_enter Tryz.func45, Tryz.ntmps45
 go_wp2_with fail
 refine (right15_any H.out false al fin every).mono ?_
 rintro e w2 ⟨rfl, h2⟩
 rw [hrt, ← hbO]
 clear hbO
 have H2 := Lib.hid h2; clear h2 H
 go_wp2_with fail
 refine (newWriter_any (low := false) H2.out).mono ?_
 rintro e w3 ⟨Wb, rfl, h3⟩
 have H3 := Lib.hid h3; clear h3 H2
 go_wp2_with fail
 refine (newCodes_any H3.out (fun w h => HT.out w h.right.right)).mono ?_
 rintro e w4 ⟨C, rfl, h4⟩
 have h5 := (h4.lit #[] 3 0 rfl (by decide)).perm (show _ = codes C * (wrt Wb [] false * (blk bO (.cells #[.bool false, .int .i64 every, .bool al, .bool fin] 84 (0, 0)) * (own 3 1 (.slice (some ⟨w4.heap.size, 0, none⟩) 0 0) 0 [] * F))) by simp only; ac_rfl)
 have H5 := Lib.hid h5; clear h4 h5 H3
 go_wp2_with fail
 generalize w4.heap.size = gA at *
 go_loopw [10, 31] (fun va vi wr => ∃ (k : Nat) (acc top : List Nat) (aa : Option Addr) (ca : Nat), k ≤ R.length ∧ vi = .int .i64 k ∧ va = .slice aa top.length ca ∧ acc.length ≤ 300000 * k ∧ enc3F width false al every k top ((R.map Prod.snd).drop k) acc = res ∧ (top.Pairwise (· < ·) ∧ (∀ x ∈ top, x < width) ∧ top.length ≤ 400) ∧
   Stb w0 (own 3 1 (.slice (some ⟨gA, 0, none⟩) 0 0) 0 [] * F) (fun w => Reads w 1 (.slice aa top.length ca) top.length (top.map nv)) ∧ St w0 wr (codes C * (wrt Wb acc false * (blk bO (.cells #[.bool false, .int .i64 every, .bool al, .bool fin] 84 (0, 0)) * (own 3 1 (.slice (some ⟨gA, 0, none⟩) 0 0) 0 [] * F))))) (fun _ vi _ => R.length - (intOf vi).toNat)
 case atStart => exact ⟨0, [], [], some ⟨gA, 0, none⟩, 0, by omega, rfl, rfl, by simp, HRES.out, ⟨List.Pairwise.nil, (fun x hx => by cases hx), by simp⟩, Stb.of_own, H5.out⟩
 case round =>
  clear H5 HRES
  obtain ⟨k, acc, top, aa, ca, hk, rfl, rfl, hal, hall, htop, hstb, hst⟩ := hrel
  have htop2 : top.Pairwise (· < ·) ∧ ∀ x ∈ top, x < width := ⟨htop.1, htop.2.1⟩
  by_cases hkn : k < R.length
  ·have hkl : (k : Int) < R.length := by omega
   obtain ⟨g, o, rfl, e1⟩ := (HV.out wr hst.right.right.right.right).at_ hkn
   have hx := List.getElem?_eq_getElem hkn
   rw [List.getElem?_map, hx] at e1
   simp only [Option.map_some] at e1
   have hmem := List.getElem_mem hkn
   have hd : (R.map Prod.snd).drop k = R[k].2 :: (R.map Prod.snd).drop (k + 1) := by
    rw [List.drop_eq_getElem_cons (by simpa using hkn), List.getElem_map]
   rw [hd, enc3F] at hall
   have hro := HRO.out _ hmem
   have hrd : Stb w0 F (fun w => Reads w 1 R[k].1 R[k].2.length (R[k].2.map nv)) := fun w h => HRR.out w h _ hmem
   clear hx hd hmem
   obtain ⟨⟨xv, xl⟩, hxx⟩ : ∃ x, R[k] = x := ⟨_, rfl⟩
   rw [hxx] at e1 hall hro hrd
   simp only at e1 hall hro hrd
   clear hxx
   obtain ⟨ax, cx, rfl⟩ := (hrd wr hst.right.right.right.right).sub
   have hsg : singleF false every k = true := rfl
   rw [hsg] at hall
   clear hsg
   have HEND := Lib.hid (end15_any (hst.perm (show _ = wrt Wb acc false * (codes C * (blk bO (.cells #[.bool false, .int .i64 every, .bool al, .bool fin] 84 (0, 0)) * (own 3 1 (.slice (some ⟨gA, 0, none⟩) 0 0) 0 [] * F))) by ac_rfl)) false al fin true every (by omega))
   have hel := endB_len false al true acc
   have hbl := body3_len (s := true) hw hro htop2
   have HB := Lib.hid (fun (w' : World) (h : St w0 w' (codes C * (wrt Wb (endB false al true acc) false * (blk bO (.cells #[.bool false, .int .i64 every, .bool al, .bool fin] 84 (0, 0)) * (own 3 1 (.slice (some ⟨gA, 0, none⟩) 0 0) 0 [] * F))))) => (by have C := writeRow_any h ((hrd.more _).more _) hro.1 hro.2.1 h1 (by omega) (by have := hro.2.2; omega) (by have := endB_len false al true acc; omega); rw [show rowB false (lensF 0 xl width) = body3 width true xl top from rfl] at C; exact C))
   have hal3 : (endB false al true acc ++ body3 width true xl top).length ≤ 300000 * (k + 1) := by rw [List.length_append]; omega
   have HALL := Lib.hid (⟨hall, hal3, hro⟩ : _ ∧ _ ∧ _)
   have HRX := Lib.hid (hrd.more (own 3 1 (.slice (some ⟨gA, 0, none⟩) 0 0) 0 []))
   have c0 := hst.right.right.cell 0 rfl
   have c1 := hst.right.right.cell 1 rfl
   have c2 := hst.right.right.cell 2 rfl
   have c3 := hst.right.right.cell 3 rfl
   clear hall hal3 hbl hro hrd hst htop htop2 hstb hel
   generalize endB false al true acc ++ body3 width true xl top = acc2 at *
   go_wp2_with fail
   refine HEND.out.mono ?_
   rintro e w5 ⟨rfl, h5⟩
   have HW := Lib.hid (HB.out _ (h5.perm (star_left_comm _ _ _)))
   clear h5 HEND HB c0 c1 c2 c3
   go_wp2_with fail
   refine HW.out.mono ?_
   rintro e w6 ⟨rfl, h6⟩
   have H6 := Lib.hid h6; clear h6 HW
   go_wp2_with fail
   exact ⟨⟨k + 1, acc2, xl, ax, cx, by omega, by go_num, rfl, HALL.out.2.1, HALL.out.1, HALL.out.2.2, HRX.out, H6.out⟩, by simp [intOf]; omega⟩
  ·obtain rfl : k = R.length := by omega
   rw [List.drop_of_length_le (by simp), enc3F] at hall
   subst hall
   have ha9 : acc.length ≤ 90000000 := by omega
   have c3 := hst.right.right.cell 3 rfl
   have c0 := hst.right.right.cell 0 rfl
   have c1 := hst.right.right.cell 1 rfl
   have c2 := hst.right.right.cell 2 rfl
   clear hstb htop htop2 hal
   cases fin
   ·have HBY := bytes_any (hst.perm (show _ = wrt Wb acc false * (codes C * (blk bO (.cells #[.bool false, .int .i64 every, .bool al, .bool false] 84 (0, 0)) * (own 3 1 (.slice (some ⟨gA, 0, none⟩) 0 0) 0 [] * F))) by ac_rfl))
    have hl1 : (bytesB false acc).length = (acc.length + 7) / 8 := length_bytesB _ _
    rw [← hl1] at HBY
    obtain ⟨E, hE⟩ : ∃ E, E = bytesB false acc := ⟨_, rfl⟩
    rw [← hE] at HBY
    have HEE := Lib.hid hE
    clear hE
    have HBY := Lib.hid HBY
    clear hst hl1
    go_wp2_with fail
    refine HBY.out.mono ?_
    rintro e w7 ⟨v7, rfl, h7⟩
    obtain ⟨a7, c7, rfl⟩ := h7.reads.sub
    have H7 := Lib.hid (h7.perm (show _ = wrt Wb acc false * (codes C * (blk bO (.cells #[.bool false, .int .i64 every, .bool al, .bool false] 84 (0, 0)) * (own 3 1 (.slice (some ⟨gA, 0, none⟩) 0 0) 0 [] * (own 5 1 (.slice a7 E.length c7) E.length (E.map bv) * F)))) by ac_rfl)).right.right.right.right
    clear h7 HBY
    go_wp2_with fail
    go_ret2
    rw [show bytesB false (fin3 false al false acc) = E from HEE.out.symm]
    exact ⟨_, rfl, H7.out⟩
   ·have HEND := Lib.hid (end15_any (hst.perm (show _ = wrt Wb acc false * (codes C * (blk bO (.cells #[.bool false, .int .i64 every, .bool al, .bool true] 84 (0, 0)) * (own 3 1 (.slice (some ⟨gA, 0, none⟩) 0 0) 0 [] * F))) by ac_rfl)) false al true true every (by omega))
    have hel := endB_len false al true acc
    clear hst
    go_wp2_with fail
    refine HEND.out.mono ?_
    rintro e w5 ⟨rfl, h5⟩
    have h5 := h5.perm (show _ = blk bO (.cells #[.bool false, .int .i64 every, .bool al, .bool true] 84 (0, 0)) * (wrt Wb (endB false al true acc) false * (codes C * (own 3 1 (.slice (some ⟨gA, 0, none⟩) 0 0) 0 [] * F))) by ac_rfl)
    have f2 := h5.free 2
    have d2 := h5.cell 2 rfl
    have h6 := h5.set 2 (.bool false)
    have h6 : St w0 _ (blk bO (.cells #[.bool false, .int .i64 every, .bool false, .bool true] 84 (0, 0)) * (wrt Wb (endB false al true acc) false * (codes C * (own 3 1 (.slice (some ⟨gA, 0, none⟩) 0 0) 0 [] * F)))) := h6
    have H6 := Lib.hid h6
    obtain ⟨fin9, hf9⟩ : ∃ fin9, fin9 = fin3 false al true acc := ⟨_, rfl⟩
    have HF9 := Lib.hid hf9
    have h59 : iterE false 5 (endB false al true acc) = fin9 := by rw [hf9]; rfl
    have hl59 : (endB false al true acc).length ≤ 90000100 := by omega
    generalize endB false al true acc = acc1 at *
    have H59 := Lib.hid h59
    clear h5 h6 HEND c0 c1 c2 c3 hel hf9 h59
    go_wp2_with fail
    generalize w5.setCell ⟨bO, 2, none⟩ (.bool false) = w6 at *
    clear f2 d2
    go_loopw [73] (fun vq wr => ∃ (q : Nat) (a : List Nat), q ≤ 5 ∧ vq = .int .i64 q ∧ a.length ≤ 90000100 + 20 * q ∧ iterE false (5 - q) a = fin9 ∧ St w0 wr (blk bO (.cells #[.bool false, .int .i64 every, .bool false, .bool true] 84 (0, 0)) * (wrt Wb a false * (codes C * (own 3 1 (.slice (some ⟨gA, 0, none⟩) 0 0) 0 [] * F))))) (fun vq _ => 5 - (intOf vq).toNat)
    case atStart => exact ⟨0, acc1, by omega, rfl, by omega, H59.out, H6.out⟩
    case round =>
     clear H6 H59
     obtain ⟨q, a, hq, rfl, hal, hall, hst⟩ := hrel
     by_cases hq5 : q < 5
     ·have hqi : (q : Int) < 5 := by omega
      obtain ⟨m, hm⟩ : ∃ m, 5 - q = m + 1 := ⟨4 - q, by omega⟩
      rw [hm, iterE] at hall
      have hel := endB_len false false true a
      have c0 := hst.cell 0 rfl
      have c1 := hst.cell 1 rfl
      have c2 := hst.cell 2 rfl
      have c3 := hst.cell 3 rfl
      have HEND := Lib.hid (end15_any (hst.perm (star_left_comm _ _ _)) false false true true every (by omega))
      have HH := Lib.hid (⟨by omega, by rw [show 5 - (q + 1) = m by omega]; exact hall⟩ : (endB false false true a).length ≤ 90000100 + 20 * (q + 1) ∧ iterE false (5 - (q + 1)) (endB false false true a) = fin9)
      clear hst hall hm hel
      generalize endB false false true a = a2 at *
      go_wp2_with fail
      refine HEND.out.mono ?_
      rintro e w7 ⟨rfl, h7⟩
      have H7 := Lib.hid (h7.perm (star_left_comm _ _ _)); clear h7 HEND c0 c1 c2 c3
      go_wp2_with fail
      exact ⟨⟨q + 1, a2, by omega, by go_num, HH.out.1, HH.out.2, H7.out⟩, by simp [intOf]; omega⟩
     ·obtain rfl : q = 5 := by omega
      rw [Nat.sub_self, iterE] at hall
      have HA9 := Lib.hid hall
      have HBY := bytes_any (hst.perm (star_left_comm _ _ _))
      have hl1 : (bytesB false a).length = (a.length + 7) / 8 := length_bytesB _ _
      rw [← hl1] at HBY
      obtain ⟨E, hE⟩ : ∃ E, E = bytesB false a := ⟨_, rfl⟩
      rw [← hE] at HBY
      have HEE := Lib.hid hE
      clear hE
      have HBY := Lib.hid HBY
      clear hst hl1 hall
      go_wp2_with fail
      refine HBY.out.mono ?_
      rintro e w7 ⟨v7, rfl, h7⟩
      obtain ⟨a7, c7, rfl⟩ := h7.reads.sub
      have H7 := Lib.hid (h7.perm (show _ = wrt Wb a false * (blk bO (.cells #[.bool false, .int .i64 every, .bool false, .bool true] 84 (0, 0)) * (codes C * (own 3 1 (.slice (some ⟨gA, 0, none⟩) 0 0) 0 [] * (own 5 1 (.slice a7 E.length c7) E.length (E.map bv) * F)))) by ac_rfl)).right.right.right.right
      clear h7 HBY
      go_wp2_with fail
      go_ret2
      rw [← HF9.out, ← HA9.out, ← HEE.out]
      exact ⟨_, rfl, H7.out⟩
set_option maxHeartbeats 40000000 in
theorem encode15_true {w0 w : World} {F : SProp} (h : St w0 w F) (htab : Tab w0 F) {R : List (Value × List Nat)} {v : Value} (hv : Stb w0 F (fun w => Reads w 1 v R.length (R.map Prod.fst))) (hr : Stb w0 F (fun w => ∀ x ∈ R, Reads w 1 x.1 x.2.length (x.2.map nv))) {width : Nat} (h1 : 1 ≤ width) (hw : width ≤ 400) (hR : ∀ x ∈ R, RowOk width x.2) (hN : R.length ≤ 300) (al fin : Bool) (every : Int) (hev : 1 ≤ every) :
  Calls Tryz.prog 45 #[v, .int .i64 (width : Int), .agg #[.bool true, .int .i64 every, .bool al, .bool fin]] w fun e w' => ∃ v', e = .returned (.tuple #[v', .int .i64 0]) ∧ St w0 w' (own 5 1 v' (bytesB false (enc3 width true al fin every (R.map Prod.snd))).length ((bytesB false (enc3 width true al fin every (R.map Prod.snd))).map bv) * F) := by
 obtain ⟨a0, c0, rfl⟩ := (hv w h).sub
 have HV := Lib.hid hv; have HRR := Lib.hid hr; have HRO := Lib.hid hR
 have HT := Lib.hid htab
 have hw1 : ¬ (width : Int) < 1 := by omega
 have hw2 : ¬ (32768 : Int) < width := by omega
 have hw1d : decide ((width : Int) < 1) = false := decide_eq_false hw1
 have hw2d : decide ((32768 : Int) < width) = false := decide_eq_false hw2
 obtain ⟨res, hres⟩ : ∃ res, enc3F width true al every 0 [] (R.map Prod.snd) [] = res := ⟨_, rfl⟩
 rw [enc3, hres]
 have HRES := Lib.hid hres; clear hres htab hv hr hR
 have hrt : (decide (1 ≤ every) || !true) = true := by simp; omega
 have h2 : St w0 (w.alloc (.cells #[.bool true, .int .i64 every, .bool al, .bool fin] 84)) (blk w.heap.size (.cells #[.bool true, .int .i64 every, .bool al, .bool fin] 84 (0, 0)) * F) := h.alloc _
 have H := Lib.hid h2; clear h h2
 obtain ⟨bO, hbO⟩ : ∃ bO, bO = w.heap.size := ⟨_, rfl⟩
 rw [← hbO] at H
 go_enter Tryz.func45, Tryz.ntmps45
 go_wp2_with fail
 refine (right15_any H.out true al fin every).mono ?_
 rintro e w2 ⟨rfl, h2⟩
 rw [hrt, ← hbO]
 clear hbO
 have H2 := Lib.hid h2; clear h2 H
 go_wp2_with fail
 refine (newWriter_any (low := false) H2.out).mono ?_
 rintro e w3 ⟨Wb, rfl, h3⟩
 have H3 := Lib.hid h3; clear h3 H2
 go_wp2_with fail
 refine (newCodes_any H3.out (fun w h => HT.out w h.right.right)).mono ?_
 rintro e w4 ⟨C, rfl, h4⟩
 have h5 := (h4.lit #[] 3 0 rfl (by decide)).perm (show _ = codes C * (wrt Wb [] false * (blk bO (.cells #[.bool true, .int .i64 every, .bool al, .bool fin] 84 (0, 0)) * (own 3 1 (.slice (some ⟨w4.heap.size, 0, none⟩) 0 0) 0 [] * F))) by simp only; ac_rfl)
 have H5 := Lib.hid h5; clear h4 h5 H3
 go_wp2_with fail
 generalize w4.heap.size = gA at *
 go_loopw [10, 31] (fun va vi wr => ∃ (k : Nat) (acc top : List Nat) (aa : Option Addr) (ca : Nat), k ≤ R.length ∧ vi = .int .i64 k ∧ va = .slice aa top.length ca ∧ acc.length ≤ 300000 * k ∧ enc3F width true al every k top ((R.map Prod.snd).drop k) acc = res ∧ (top.Pairwise (· < ·) ∧ (∀ x ∈ top, x < width) ∧ top.length ≤ 400) ∧
   Stb w0 (own 3 1 (.slice (some ⟨gA, 0, none⟩) 0 0) 0 [] * F) (fun w => Reads w 1 (.slice aa top.length ca) top.length (top.map nv)) ∧ St w0 wr (codes C * (wrt Wb acc false * (blk bO (.cells #[.bool true, .int .i64 every, .bool al, .bool fin] 84 (0, 0)) * (own 3 1 (.slice (some ⟨gA, 0, none⟩) 0 0) 0 [] * F))))) (fun _ vi _ => R.length - (intOf vi).toNat)
 case atStart => exact ⟨0, [], [], some ⟨gA, 0, none⟩, 0, by omega, rfl, rfl, by simp, HRES.out, ⟨List.Pairwise.nil, (fun x hx => by cases hx), by simp⟩, Stb.of_own, H5.out⟩
 case round =>
  clear H5 HRES
  obtain ⟨k, acc, top, aa, ca, hk, rfl, rfl, hal, hall, htop, hstb, hst⟩ := hrel
  have htop2 : top.Pairwise (· < ·) ∧ ∀ x ∈ top, x < width := ⟨htop.1, htop.2.1⟩
  by_cases hkn : k < R.length
  ·have hkl : (k : Int) < R.length := by omega
   obtain ⟨g, o, rfl, e1⟩ := (HV.out wr hst.right.right.right.right).at_ hkn
   have hx := List.getElem?_eq_getElem hkn
   rw [List.getElem?_map, hx] at e1
   simp only [Option.map_some] at e1
   have hmem := List.getElem_mem hkn
   have hd : (R.map Prod.snd).drop k = R[k].2 :: (R.map Prod.snd).drop (k + 1) := by
    rw [List.drop_eq_getElem_cons (by simpa using hkn), List.getElem_map]
   rw [hd, enc3F] at hall
   have hro := HRO.out _ hmem
   have hrd : Stb w0 F (fun w => Reads w 1 R[k].1 R[k].2.length (R[k].2.map nv)) := fun w h => HRR.out w h _ hmem
   clear hx hd hmem
   obtain ⟨⟨xv, xl⟩, hxx⟩ : ∃ x, R[k] = x := ⟨_, rfl⟩
   rw [hxx] at e1 hall hro hrd
   simp only at e1 hall hro hrd
   clear hxx
   obtain ⟨ax, cx, rfl⟩ := (hrd wr hst.right.right.right.right).sub
   have hev := hev
   have hev0 : ¬ every = 0 := by omega
   by_cases hz : (k : Int) % every = 0
   ·have hsg : singleF true every k = true := decide_eq_true hz
    have hzb : ((k : Int) % every == 0) = true := by simpa using hz
    rw [hsg] at hall
    clear hsg
    have HEND := Lib.hid (end15_any (hst.perm (show _ = wrt Wb acc false * (codes C * (blk bO (.cells #[.bool true, .int .i64 every, .bool al, .bool fin] 84 (0, 0)) * (own 3 1 (.slice (some ⟨gA, 0, none⟩) 0 0) 0 [] * F))) by ac_rfl)) true al fin true every (by omega))
    have hel := endB_len true al true acc
    have hbl := body3_len (s := true) hw hro htop2
    have HB := Lib.hid (fun (w' : World) (h : St w0 w' (codes C * (wrt Wb (endB true al true acc) false * (blk bO (.cells #[.bool true, .int .i64 every, .bool al, .bool fin] 84 (0, 0)) * (own 3 1 (.slice (some ⟨gA, 0, none⟩) 0 0) 0 [] * F))))) => (by have C := writeRow_any h ((hrd.more _).more _) hro.1 hro.2.1 h1 (by omega) (by have := hro.2.2; omega) (by have := endB_len true al true acc; omega); rw [show rowB false (lensF 0 xl width) = body3 width true xl top from rfl] at C; exact C))
    have hal3 : (endB true al true acc ++ body3 width true xl top).length ≤ 300000 * (k + 1) := by rw [List.length_append]; omega
    have HALL := Lib.hid (⟨hall, hal3, hro⟩ : _ ∧ _ ∧ _)
    have HRX := Lib.hid (hrd.more (own 3 1 (.slice (some ⟨gA, 0, none⟩) 0 0) 0 []))
    have c0 := hst.right.right.cell 0 rfl
    have c1 := hst.right.right.cell 1 rfl
    have c2 := hst.right.right.cell 2 rfl
    have c3 := hst.right.right.cell 3 rfl
    clear hall hal3 hbl hro hrd hst htop htop2 hstb hel
    generalize endB true al true acc ++ body3 width true xl top = acc2 at *
    go_wp2_with fail
    refine HEND.out.mono ?_
    rintro e w5 ⟨rfl, h5⟩
    have HW := Lib.hid (HB.out _ (h5.perm (star_left_comm _ _ _)))
    clear h5 HEND HB c0 c1 c2 c3
    go_wp2_with fail
    refine HW.out.mono ?_
    rintro e w6 ⟨rfl, h6⟩
    have H6 := Lib.hid h6; clear h6 HW
    go_wp2_with fail
    exact ⟨⟨k + 1, acc2, xl, ax, cx, by omega, by go_num, rfl, HALL.out.2.1, HALL.out.1, HALL.out.2.2, HRX.out, H6.out⟩, by simp [intOf]; omega⟩
   ·have hsg : singleF true every k = false := decide_eq_false hz
    have hzb : ((k : Int) % every == 0) = false := by simpa using hz
    rw [hsg] at hall
    clear hsg
    have HEND := Lib.hid (end15_any (hst.perm (show _ = wrt Wb acc false * (codes C * (blk bO (.cells #[.bool true, .int .i64 every, .bool al, .bool fin] 84 (0, 0)) * (own 3 1 (.slice (some ⟨gA, 0, none⟩) 0 0) 0 [] * F))) by ac_rfl)) true al fin false every (by omega))
    have hel := endB_len true al false acc
    have hbl := body3_len (s := false) hw hro htop2
    have HB := Lib.hid (fun (w' : World) (h : St w0 w' (codes C * (wrt Wb (endB true al false acc) false * (blk bO (.cells #[.bool true, .int .i64 every, .bool al, .bool fin] 84 (0, 0)) * (own 3 1 (.slice (some ⟨gA, 0, none⟩) 0 0) 0 [] * F))))) => (by have C := writeAgainst_any h ((hrd.more _).more _) (hstb.more _) hro.1 hro.2.1 htop.1 htop.2.1 h1 (by omega) (by have := hro.2.2; omega) (by have := htop.2.2; omega) (by have := endB_len true al false acc; omega); rw [show agB xl top width (width + 1) (-1) false = body3 width false xl top from rfl] at C; exact C))
    have hal3 : (endB true al false acc ++ body3 width false xl top).length ≤ 300000 * (k + 1) := by rw [List.length_append]; omega
    have HALL := Lib.hid (⟨hall, hal3, hro⟩ : _ ∧ _ ∧ _)
    have HRX := Lib.hid (hrd.more (own 3 1 (.slice (some ⟨gA, 0, none⟩) 0 0) 0 []))
    have c0 := hst.right.right.cell 0 rfl
    have c1 := hst.right.right.cell 1 rfl
    have c2 := hst.right.right.cell 2 rfl
    have c3 := hst.right.right.cell 3 rfl
    clear hall hal3 hbl hro hrd hst htop htop2 hstb hel
    generalize endB true al false acc ++ body3 width false xl top = acc2 at *
    go_wp2_with fail
    refine HEND.out.mono ?_
    rintro e w5 ⟨rfl, h5⟩
    have HW := Lib.hid (HB.out _ (h5.perm (star_left_comm _ _ _)))
    clear h5 HEND HB c0 c1 c2 c3
    go_wp2_with fail
    refine HW.out.mono ?_
    rintro e w6 ⟨rfl, h6⟩
    have H6 := Lib.hid h6; clear h6 HW
    go_wp2_with fail
    exact ⟨⟨k + 1, acc2, xl, ax, cx, by omega, by go_num, rfl, HALL.out.2.1, HALL.out.1, HALL.out.2.2, HRX.out, H6.out⟩, by simp [intOf]; omega⟩
  ·obtain rfl : k = R.length := by omega
   rw [List.drop_of_length_le (by simp), enc3F] at hall
   subst hall
   have ha9 : acc.length ≤ 90000000 := by omega
   have c3 := hst.right.right.cell 3 rfl
   have c0 := hst.right.right.cell 0 rfl
   have c1 := hst.right.right.cell 1 rfl
   have c2 := hst.right.right.cell 2 rfl
   clear hstb htop htop2 hal
   cases fin
   ·have HBY := bytes_any (hst.perm (show _ = wrt Wb acc false * (codes C * (blk bO (.cells #[.bool true, .int .i64 every, .bool al, .bool false] 84 (0, 0)) * (own 3 1 (.slice (some ⟨gA, 0, none⟩) 0 0) 0 [] * F))) by ac_rfl))
    have hl1 : (bytesB false acc).length = (acc.length + 7) / 8 := length_bytesB _ _
    rw [← hl1] at HBY
    obtain ⟨E, hE⟩ : ∃ E, E = bytesB false acc := ⟨_, rfl⟩
    rw [← hE] at HBY
    have HEE := Lib.hid hE
    clear hE
    have HBY := Lib.hid HBY
    clear hst hl1
    go_wp2_with fail
    refine HBY.out.mono ?_
    rintro e w7 ⟨v7, rfl, h7⟩
    obtain ⟨a7, c7, rfl⟩ := h7.reads.sub
    have H7 := Lib.hid (h7.perm (show _ = wrt Wb acc false * (codes C * (blk bO (.cells #[.bool true, .int .i64 every, .bool al, .bool false] 84 (0, 0)) * (own 3 1 (.slice (some ⟨gA, 0, none⟩) 0 0) 0 [] * (own 5 1 (.slice a7 E.length c7) E.length (E.map bv) * F)))) by ac_rfl)).right.right.right.right
    clear h7 HBY
    go_wp2_with fail
    go_ret2
    rw [show bytesB false (fin3 true al false acc) = E from HEE.out.symm]
    exact ⟨_, rfl, H7.out⟩
   ·have HEND := Lib.hid (end15_any (hst.perm (show _ = wrt Wb acc false * (codes C * (blk bO (.cells #[.bool true, .int .i64 every, .bool al, .bool true] 84 (0, 0)) * (own 3 1 (.slice (some ⟨gA, 0, none⟩) 0 0) 0 [] * F))) by ac_rfl)) true al true true every (by omega))
    have hel := endB_len true al true acc
    clear hst
    go_wp2_with fail
    refine HEND.out.mono ?_
    rintro e w5 ⟨rfl, h5⟩
    have h5 := h5.perm (show _ = blk bO (.cells #[.bool true, .int .i64 every, .bool al, .bool true] 84 (0, 0)) * (wrt Wb (endB true al true acc) false * (codes C * (own 3 1 (.slice (some ⟨gA, 0, none⟩) 0 0) 0 [] * F))) by ac_rfl)
    have f2 := h5.free 2
    have d2 := h5.cell 2 rfl
    have h6 := h5.set 2 (.bool false)
    have h6 : St w0 _ (blk bO (.cells #[.bool true, .int .i64 every, .bool false, .bool true] 84 (0, 0)) * (wrt Wb (endB true al true acc) false * (codes C * (own 3 1 (.slice (some ⟨gA, 0, none⟩) 0 0) 0 [] * F)))) := h6
    have H6 := Lib.hid h6
    obtain ⟨fin9, hf9⟩ : ∃ fin9, fin9 = fin3 true al true acc := ⟨_, rfl⟩
    have HF9 := Lib.hid hf9
    have h59 : iterE true 5 (endB true al true acc) = fin9 := by rw [hf9]; rfl
    have hl59 : (endB true al true acc).length ≤ 90000100 := by omega
    generalize endB true al true acc = acc1 at *
    have H59 := Lib.hid h59
    clear h5 h6 HEND c0 c1 c2 c3 hel hf9 h59
    go_wp2_with fail
    generalize w5.setCell ⟨bO, 2, none⟩ (.bool false) = w6 at *
    clear f2 d2
    go_loopw [73] (fun vq wr => ∃ (q : Nat) (a : List Nat), q ≤ 5 ∧ vq = .int .i64 q ∧ a.length ≤ 90000100 + 20 * q ∧ iterE true (5 - q) a = fin9 ∧ St w0 wr (blk bO (.cells #[.bool true, .int .i64 every, .bool false, .bool true] 84 (0, 0)) * (wrt Wb a false * (codes C * (own 3 1 (.slice (some ⟨gA, 0, none⟩) 0 0) 0 [] * F))))) (fun vq _ => 5 - (intOf vq).toNat)
    case atStart => exact ⟨0, acc1, by omega, rfl, by omega, H59.out, H6.out⟩
    case round =>
     clear H6 H59
     obtain ⟨q, a, hq, rfl, hal, hall, hst⟩ := hrel
     by_cases hq5 : q < 5
     ·have hqi : (q : Int) < 5 := by omega
      obtain ⟨m, hm⟩ : ∃ m, 5 - q = m + 1 := ⟨4 - q, by omega⟩
      rw [hm, iterE] at hall
      have hel := endB_len true false true a
      have c0 := hst.cell 0 rfl
      have c1 := hst.cell 1 rfl
      have c2 := hst.cell 2 rfl
      have c3 := hst.cell 3 rfl
      have HEND := Lib.hid (end15_any (hst.perm (star_left_comm _ _ _)) true false true true every (by omega))
      have HH := Lib.hid (⟨by omega, by rw [show 5 - (q + 1) = m by omega]; exact hall⟩ : (endB true false true a).length ≤ 90000100 + 20 * (q + 1) ∧ iterE true (5 - (q + 1)) (endB true false true a) = fin9)
      clear hst hall hm hel
      generalize endB true false true a = a2 at *
      go_wp2_with fail
      refine HEND.out.mono ?_
      rintro e w7 ⟨rfl, h7⟩
      have H7 := Lib.hid (h7.perm (star_left_comm _ _ _)); clear h7 HEND c0 c1 c2 c3
      go_wp2_with fail
      exact ⟨⟨q + 1, a2, by omega, by go_num, HH.out.1, HH.out.2, H7.out⟩, by simp [intOf]; omega⟩
     ·obtain rfl : q = 5 := by omega
      rw [Nat.sub_self, iterE] at hall
      have HA9 := Lib.hid hall
      have HBY := bytes_any (hst.perm (star_left_comm _ _ _))
      have hl1 : (bytesB false a).length = (a.length + 7) / 8 := length_bytesB _ _
      rw [← hl1] at HBY
      obtain ⟨E, hE⟩ : ∃ E, E = bytesB false a := ⟨_, rfl⟩
      rw [← hE] at HBY
      have HEE := Lib.hid hE
      clear hE
      have HBY := Lib.hid HBY
      clear hst hl1 hall
      go_wp2_with fail
      refine HBY.out.mono ?_
      rintro e w7 ⟨v7, rfl, h7⟩
      obtain ⟨a7, c7, rfl⟩ := h7.reads.sub
      have H7 := Lib.hid (h7.perm (show _ = wrt Wb a false * (blk bO (.cells #[.bool true, .int .i64 every, .bool false, .bool true] 84 (0, 0)) * (codes C * (own 3 1 (.slice (some ⟨gA, 0, none⟩) 0 0) 0 [] * (own 5 1 (.slice a7 E.length c7) E.length (E.map bv) * F)))) by ac_rfl)).right.right.right.right
      clear h7 HBY
      go_wp2_with fail
      go_ret2
      rw [← HF9.out, ← HA9.out, ← HEE.out]
      exact ⟨_, rfl, H7.out⟩
end Go.Proofs.YtboflbdniogcdaaGreatDoor
