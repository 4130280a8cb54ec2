/-
  Layer 14 (mh): so many rows.
-/
import Derived.Test.YtljdohfdafnnaaaDoorMhR
import Derived.Test.YtljdohfdafnnaaaDoorMhB
import Derived.Test.YtljdohfdafnnaaaDoorWr2
namespace Go.Proofs.YtljdohfdafnnaaaDoor
open Go.RowKit Go.Mz
set_option linter.unusedVariables false
set_option linter.unusedSimpArgs false
set_option maxRecDepth 100000

/-- Rows, each with its slice. -/
def rowsP : List (Value × List Nat) → SProp
  | [] => emp
  | x :: r => own 3 1 x.1 x.2.length (x.2.map nv) * rowsP r
theorem rowsP_snoc (R : List (Value × List Nat)) (x : Value × List Nat) : rowsP (R ++ [x]) = own 3 1 x.1 x.2.length (x.2.map nv) * rowsP R := by
  induction R with
  | nil => rfl
  | cons y r ih => rw [List.cons_append, rowsP, ih, rowsP]; ac_rfl
theorem rowsP_reads {w0 w : World} : ∀ (R : List (Value × List Nat)) (F : SProp), St w0 w (rowsP R * F) → ∀ x ∈ R, Reads w 1 x.1 x.2.length (x.2.map nv) := by
  intro R
  induction R with
  | nil => intro F _ x hx; cases hx
  | cons y r ih =>
    intro F h x hx
    have h : St w0 w (own 3 1 y.1 y.2.length (y.2.map nv) * (rowsP r * F)) := h.perm (by rw [rowsP, star_assoc])
    rcases List.mem_cons.1 hx with rfl | hx
    · exact h.reads
    · exact ih _ h.right x hx
theorem rowsP_nil {w0 w : World} {F : SProp} (h : St w0 w F) : St w0 w (rowsP [] * F) := h.perm (emp_star F).symm
theorem elemRows : ElemT Tryd.prog 26 35 1 24 (.slice none 0 0) :=
  ⟨Tryd.underlying26, info_parts (by kernel_rfl), rfl, by decide⟩

def decF (t : List Nat) (width : Nat) : Nat → Nat → List (List Nat) → (List (List Nat) ⊕ Nat)
  | 0, _, acc => .inl acc
  | n + 1, p, acc =>
    match readRow t width p with
    | (_, .inr e) => .inr e
    | (k, .inl px) => decF t width n ((k + 7) / 8 * 8) (acc ++ [px])
def okD : (List (List Nat) ⊕ Nat) → List (List Nat)
  | .inl a => a
  | .inr _ => []
def erD : (List (List Nat) ⊕ Nat) → Nat
  | .inl _ => 0
  | .inr e => e

theorem reads_row1 (w : World) (v : Value) : Reads (w.alloc (.cells #[v] 35)) 1 (.slice (some ⟨w.heap.size, 0, none⟩) 1 1) 1 [v] :=
  (St.own_blk (e := 35) (size := 1) (n := 1) (cap := 1) (xs := [v]) ((St.init w).alloc _) (Nat.le_refl _) (by decide) rfl rfl).reads

set_option maxHeartbeats 4000000 in
theorem decode_any {w0 w : World} {F : SProp} (h : St w0 w F) (htab : Tab w0 F) {bs : List UInt8} {vb : Value} (hb : Stb w0 F (fun w => Reads w 1 vb bs.length (bs.map bv))) (hl : bs.length ≤ 1000000) {width N : Nat} (h1 : 1 ≤ width) (hw : width ≤ 32768) (hN : N ≤ 1000) :
    Calls Tryd.prog 9 #[vb, .int .i64 (width : Int), .int .i64 (N : Int)] w fun e w' => ∃ (v : Value) (R : List (Value × List Nat)),
      e = .returned (.tuple #[v, .int .i64 (erD (decF (bitsL false bs) width N 0 []) : Nat)]) ∧ R.map Prod.snd = (okD (decF (bitsL false bs) width N 0 [])).map chg ∧ St w0 w' (own 35 1 v R.length (R.map Prod.fst) * (rowsP R * F)) := by
  have HFT := Lib.hid (fun w => fits_ok w h1 hw)
  have HB := Lib.hid hb; have HT := Lib.hid htab
  have hbl : (bitsL false bs).length = 8 * bs.length := length_bitsL _ _
  have HBL := Lib.hid hbl
  obtain ⟨res, hres⟩ : ∃ res, decF (bitsL false bs) width N 0 [] = res := ⟨_, rfl⟩
  rw [hres]
  have HRES := Lib.hid hres; clear hres hbl htab
  obtain ⟨a0, c0, rfl⟩ := (hb w h).sub
  have H := Lib.hid h; clear h hb
  have T := elemRows
  go_enter Tryd.func9, Tryd.ntmps9
  go_wp2_with fail
  refine (HFT.out _).mono ?_
  rintro e w2 ⟨rfl, rfl⟩
  go_wp2_with fail
  refine (newReader_any (low := false) H.out HB.out (by omega)).mono ?_
  rintro e w3 ⟨Rb, rfl, h3⟩
  have H3 := Lib.hid h3; clear h3 H
  go_wp2_with fail
  refine (newCodes_any H3.out (fun w h => HT.out w h.right)).mono ?_
  rintro e w4 ⟨C, rfl, h4⟩
  have h5 := (rowsP_nil h4).lit #[] 35 0 rfl (by decide)
  have H5 := Lib.hid (h5.perm (show _ = own 35 1 (.slice (some ⟨w4.heap.size, 0, none⟩) 0 0) 0 [] * (rowsP [] * (codes C * (rdr Rb bs 0 false * F))) from rfl)); clear h4 h5 H3
  go_wp2_with fail
  generalize w4.heap.size = gR at *
  go_loopw [10, 25] (fun vr vi wr => ∃ (k p : Nat) (acc : List (List Nat)) (R : List (Value × List Nat)) (ao : Option Addr) (co : Nat), k ≤ N ∧ vi = .int .i64 k ∧ vr = .slice ao R.length co ∧ p ≤ 8 * bs.length ∧ R.length = k ∧ R.map Prod.snd = acc.map chg ∧ decF (bitsL false bs) width (N - k) p acc = res ∧ St w0 wr (own 35 1 (.slice ao R.length co) R.length (R.map Prod.fst) * (rowsP R * (codes C * (rdr Rb bs p false * F))))) (fun _ vi _ => N - (intOf vi).toNat)
  case atStart => exact ⟨0, 0, [], [], some ⟨gR, 0, none⟩, 0, by omega, rfl, rfl, by omega, rfl, rfl, HRES.out, H5.out⟩
  case round =>
    clear H5 HRES
    obtain ⟨k, p, acc, R, ao, co, hk, rfl, rfl, hp, hRk, hRm, hall, hst⟩ := hrel
    by_cases hkn : k < N
    · have hkl : (k : Int) < N := by omega
      obtain ⟨m, hm⟩ : ∃ m, N - k = m + 1 := ⟨N - k - 1, by omega⟩
      rw [hm, decF] at hall
      have C1 := readRow_any (hst.perm (show _ = codes C * (rdr Rb bs p false * (own 35 1 (.slice ao R.length co) R.length (R.map Prod.fst) * (rowsP R * F))) by ac_rfl)) h1 hw (by omega) hp
      have hbd := readRow_bd (t := bitsL false bs) (width := width) (p := p) (by rw [HBL.out]; exact hp)
      have hm2 : N - (k + 1) = m := by omega
      cases hr : readRow (bitsL false bs) width p with
      | mk q y =>
        rw [hr] at hall C1 hbd
        have HC1 := Lib.hid C1; clear C1 hst
        rw [HBL.out] at hbd
        obtain ⟨hq, hb1, hb2⟩ := hbd
        cases y with
        | inr er =>
          simp only at hall
          have her := hb2 er rfl
          have hx0 : ¬ (er : Int) = 0 := by omega
          have HRS := Lib.hid hall
          clear hall hr hb1 hb2 hRm hm hm2 hq hRk
          go_wp2_with fail
          refine HC1.out.mono ?_
          rintro e w5 ⟨v5, rfl, h5⟩
          obtain ⟨a5, c5, rfl⟩ := h5.reads.sub
          have H5 := Lib.hid (St.own_nil 35 1 (rowsP_nil h5.right.right.right.right.right)); clear h5 HC1
          simp only [erN]
          go_wp2_with fail
          go_ret2
          rw [← HRS.out]
          exact ⟨_, [], rfl, rfl, H5.out⟩
        | inl px =>
          simp only at hall
          have HRS := Lib.hid hall; have HRM := Lib.hid hRm; have HRK := Lib.hid hRk
          have HM2 := Lib.hid hm2
          have hRl : R.length ≤ 1000 := by omega
          clear hall hr hb1 hb2 hRm hm hm2 hRk
          go_wp2_with fail
          refine HC1.out.mono ?_
          rintro e w5 ⟨v5, rfl, h5⟩
          obtain ⟨a5, c5, rfl⟩ := h5.reads.sub
          have h5 : St w0 w5 (own 3 1 (.slice a5 (okL (Sum.inl px)).length c5) (chg px).length ((chg px).map nv) * (codes C * (rdr Rb bs q false * (own 35 1 (.slice ao R.length co) R.length (R.map Prod.fst) * (rowsP R * F))))) := h5
          have HA := Lib.hid (align_any (h5.perm (show _ = rdr Rb bs q false * (own 3 1 (.slice a5 (okL (Sum.inl px)).length c5) (chg px).length ((chg px).map nv) * (codes C * (own 35 1 (.slice ao R.length co) R.length (R.map Prod.fst) * (rowsP R * F)))) by ac_rfl)))
          clear h5 HC1
          simp only [erN]
          go_wp2_with fail
          refine HA.out.mono ?_
          rintro e w6 ⟨rfl, h6⟩
          have h6 := h6.perm (show _ = own 35 1 (.slice ao R.length co) R.length (R.map Prod.fst) * (own 3 1 (.slice a5 (okL (Sum.inl px)).length c5) (chg px).length ((chg px).map nv) * (codes C * (rdr Rb bs ((q + 7) / 8 * 8) false * (rowsP R * F)))) by ac_rfl)
          have H6 := Lib.hid h6; clear h6 HA
          obtain ⟨l5, hl5⟩ : ∃ l5, l5 = (okL (Sum.inl px)).length := ⟨_, rfl⟩
          rw [← hl5] at H6 ⊢
          have HL5 := Lib.hid hl5
          clear hl5
          go_wp2_with (at_builtin; apply stop)
          refine on (wpList_append_sep T rfl _ _ rfl rfl (H6.out.drop_alloc (.cells #[.slice a5 l5 c5] 35)) rfl (reads_row1 w6 (.slice a5 l5 c5)) (by intro u hu; rw [List.mem_singleton.1 hu]; rfl) (by unfold maxLen; omega) (by omega) ?_)
          intro v7 w7 h7 _
          have h7 : St w0 w7 (own 35 1 v7 (R ++ [(Value.slice a5 l5 c5, chg px)]).length ((R ++ [(Value.slice a5 l5 c5, chg px)]).map Prod.fst) * (rowsP (R ++ [(Value.slice a5 l5 c5, chg px)]) * (codes C * (rdr Rb bs ((q + 7) / 8 * 8) false * F)))) := by
            rw [rowsP_snoc, List.length_append, List.map_append]
            exact h7.perm (by simp only [List.length_singleton, List.map_cons, List.map_nil]; ac_rfl)
          have hsn : (R ++ [(Value.slice a5 l5 c5, chg px)]).length = R.length + 1 := by simp
          have hsm : (R ++ [(Value.slice a5 l5 c5, chg px)]).map Prod.snd = (acc ++ [px]).map chg := by rw [List.map_append, List.map_append, HRM.out]; rfl
          generalize R ++ [(Value.slice a5 l5 c5, chg px)] = R2 at *
          obtain ⟨aN, cN, rfl⟩ := h7.reads.sub
          have HH := Lib.hid (⟨hsn, hsm⟩ : _ ∧ _)
          have H7 := Lib.hid h7
          clear h7 hsn hsm H6
          go_wp2_with fail
          obtain ⟨g1, g2⟩ := HH.out
          have := HRK.out
          exact ⟨⟨k + 1, (q + 7) / 8 * 8, acc ++ [px], R2, aN, cN, by omega, by go_num, rfl, by omega, by omega, g2, by rw [HM2.out]; exact HRS.out, H7.out⟩, by simp [intOf]; omega⟩
    · obtain rfl : k = N := by omega
      rw [Nat.sub_self, decF] at hall
      have HRS := Lib.hid hall; have HRM := Lib.hid hRm
      have HST := Lib.hid (hst.perm (show _ = codes C * (rdr Rb bs p false * (own 35 1 (.slice ao R.length co) R.length (R.map Prod.fst) * (rowsP R * F))) by ac_rfl)).right.right
      clear hst hall hRm
      go_wp2_with fail
      go_ret2
      rw [← HRS.out]
      exact ⟨_, R, rfl, HRM.out, HST⟩

def encF (width : Nat) : List (List Nat) → List Nat → List Nat
  | [], acc => acc
  | l :: r, acc => encF width r (alignL (acc ++ rowB false (lensF 0 l width)))
/-- A row's places. -/
def RowOk (width : Nat) (l : List Nat) : Prop := l.Pairwise (· < ·) ∧ (∀ x ∈ l, x < width) ∧ l.length ≤ 400
theorem alignL_len (l : List Nat) : (alignL l).length ≤ l.length + 7 := by
  rw [alignL, List.length_append, List.length_replicate]; omega
theorem rowB_lenF {width : Nat} {l : List Nat} (h : RowOk width l) (hw : width ≤ 32768) : (rowB false (lensF 0 l width)).length ≤ 300 * 401 := by
  have := rowB_len (lensF 0 l width) false (fun x hx => by have := lensF_le l width 0 h.2.1 x hx; omega)
  rw [lensF_len] at this
  have := h.2.2
  omega

theorem encode_bad {w0 w : World} {F : SProp} (h : St w0 w F) (htab : Tab w0 F) (v : Value) {width : Int} (hw : ¬ (1 ≤ width ∧ width ≤ 32768)) :
    Calls Tryd.prog 14 #[v, .int .i64 width] w fun e w' => e = .returned (.tuple #[.slice none 0 0, .int .i64 1]) ∧ St w0 w' F := by
  have HFT := Lib.hid (fun w => by have := fits_any w width; rw [decide_eq_false hw] at this; exact this)
  have HT := Lib.hid htab
  have H := Lib.hid h; clear h htab hw
  go_enter Tryd.func14, Tryd.ntmps14
  go_wp2_with fail
  refine (newWriter_any (low := false) H.out).mono ?_
  rintro e w3 ⟨Wb, rfl, h3⟩
  have H3 := Lib.hid h3; clear h3 H
  go_wp2_with fail
  refine (newCodes_any H3.out (fun w h => HT.out w h.right)).mono ?_
  rintro e w4 ⟨C, rfl, h4⟩
  have H4 := Lib.hid h4.right.right; clear h4 H3
  go_wp2_with fail
  refine (HFT.out _).mono ?_
  rintro e w2 ⟨rfl, rfl⟩
  go_wp2_with fail
  go_ret2
  exact ⟨rfl, H4.out⟩

set_option maxHeartbeats 4000000 in
theorem encode_any {w0 w : World} {F : SProp} (h : St w0 w F) (htab : Tab w0 F) {R : List (Value × List Nat)} {v : Value} (hv : Stb w0 F (fun w => Reads w 1 v R.length (R.map Prod.fst))) (hr : Stb w0 F (fun w => ∀ x ∈ R, Reads w 1 x.1 x.2.length (x.2.map nv))) {width : Nat} (h1 : 1 ≤ width) (hw : width ≤ 32768) (hR : ∀ x ∈ R, RowOk width x.2) (hN : R.length ≤ 1000) :
    Calls Tryd.prog 14 #[v, .int .i64 (width : Int)] w fun e w' => ∃ v', e = .returned (.tuple #[v', .int .i64 0]) ∧ St w0 w' (own 5 1 v' (((encF width (R.map Prod.snd) []).length + 7) / 8) ((bytesB false (encF width (R.map Prod.snd) [])).map bv) * F) := by
  have HFT := Lib.hid (fun w => fits_ok w h1 hw)
  obtain ⟨a0, c0, rfl⟩ := (hv w h).sub
  have HV := Lib.hid hv; have HRR := Lib.hid hr; have HRO := Lib.hid hR
  have HT := Lib.hid htab
  obtain ⟨res, hres⟩ : ∃ res, encF width (R.map Prod.snd) [] = res := ⟨_, rfl⟩
  rw [hres]
  have HRES := Lib.hid hres; clear hres htab hv hr hR
  have H := Lib.hid h; clear h
  go_enter Tryd.func14, Tryd.ntmps14
  go_wp2_with fail
  refine (newWriter_any (low := false) H.out).mono ?_
  rintro e w3 ⟨Wb, rfl, h3⟩
  have H3 := Lib.hid h3; clear h3 H
  go_wp2_with fail
  refine (newCodes_any H3.out (fun w h => HT.out w h.right)).mono ?_
  rintro e w4 ⟨C, rfl, h4⟩
  have H4 := Lib.hid h4; clear h4 H3
  go_wp2_with fail
  refine (HFT.out _).mono ?_
  rintro e w2 ⟨rfl, rfl⟩
  go_wp2_with fail
  go_loopw [18] (fun vi wr => ∃ (k : Nat) (acc : List Nat), k ≤ R.length ∧ vi = .int .i64 k ∧ acc.length ≤ 130000 * k ∧ encF width ((R.map Prod.snd).drop k) acc = res ∧ St w0 wr (codes C * (wrt Wb acc false * F))) (fun vi _ => R.length - (intOf vi).toNat)
  case atStart => exact ⟨0, [], by omega, rfl, by simp, HRES.out, H4.out⟩
  case round =>
    clear H4 HRES
    obtain ⟨k, acc, hk, rfl, hal, hall, hst⟩ := hrel
    by_cases hkn : k < R.length
    · have hkl : (k : Int) < R.length := by omega
      obtain ⟨g, o, rfl, e1⟩ := (HV.out wr hst.right.right).at_ hkn
      have hx := List.getElem?_eq_getElem hkn
      rw [List.getElem?_map, hx] at e1
      simp only [Option.map_some] at e1
      have hmem := List.getElem_mem hkn
      have hd : (R.map Prod.snd).drop k = R[k].2 :: (R.map Prod.snd).drop (k + 1) := by
        rw [List.drop_eq_getElem_cons (by simpa using hkn), List.getElem_map]
      rw [hd, encF] at hall
      have hro := HRO.out _ hmem
      have hrd : Stb w0 F (fun w => Reads w 1 R[k].1 R[k].2.length (R[k].2.map nv)) := fun w h => HRR.out w h _ hmem
      clear hx hd hmem
      obtain ⟨⟨xv, xl⟩, hxx⟩ : ∃ x, R[k] = x := ⟨_, rfl⟩
      rw [hxx] at e1 hall hro hrd
      simp only at e1 hall hro hrd
      clear hxx
      obtain ⟨ax, cx, rfl⟩ := (hrd wr hst.right.right).sub
      have hbl := rowB_lenF hro hw
      have HW := Lib.hid (writeRow_any hst hrd hro.1 hro.2.1 h1 hw (by have := hro.2.2; omega) (by omega))
      have hal2 := alignL_len (acc ++ rowB false (lensF 0 xl width))
      have hal3 : (acc ++ rowB false (lensF 0 xl width)).length = acc.length + (rowB false (lensF 0 xl width)).length := List.length_append
      have hal4 : (acc ++ rowB false (lensF 0 xl width)).length ≤ 130000000 + 130000 := by omega
      have hal5 : (alignL (acc ++ rowB false (lensF 0 xl width))).length ≤ 130000 * (k + 1) := by omega
      have HALL := Lib.hid (⟨hall, hal5⟩ : _ ∧ _)
      clear hall hal2 hal3 hal5 hbl hro hrd hst
      generalize acc ++ rowB false (lensF 0 xl width) = acc2 at *
      go_wp2_with fail
      refine HW.out.mono ?_
      rintro e w5 ⟨rfl, h5⟩
      have HA := Lib.hid (walign_any (h5.perm (star_left_comm _ _ _)) (by omega)); clear h5 HW
      go_wp2_with fail
      refine HA.out.mono ?_
      rintro e w6 ⟨rfl, h6⟩
      have H6 := Lib.hid (h6.perm (star_left_comm _ _ _)); clear h6 HA
      go_wp2_with fail
      exact ⟨⟨k + 1, alignL acc2, by omega, by go_num, HALL.out.2, HALL.out.1, H6.out⟩, by simp [intOf]; omega⟩
    · obtain rfl : k = R.length := by omega
      rw [List.drop_of_length_le (by simp), encF] at hall
      have HRS := Lib.hid hall
      have HBY := Lib.hid (bytes_any (hst.perm (star_left_comm _ _ _)))
      clear hst hall
      go_wp2_with fail
      refine HBY.out.mono ?_
      rintro e w5 ⟨v5, rfl, h5⟩
      obtain ⟨a5, c5, rfl⟩ := h5.reads.sub
      have H5 := Lib.hid (h5.perm (show _ = wrt Wb acc false * (codes C * (own 5 1 (.slice a5 ((acc.length + 7) / 8) c5) ((acc.length + 7) / 8) ((bytesB false acc).map bv) * F)) by ac_rfl)).right.right
      clear h5 HBY
      go_wp2_with fail
      go_ret2
      rw [← HRS.out]
      exact ⟨_, rfl, H5⟩

theorem decode_bad (w : World) (vb : Value) (width n : Int) (h : ¬ (1 ≤ width ∧ width ≤ 32768) ∨ n < 0) :
    Calls Tryd.prog 9 #[vb, .int .i64 width, .int .i64 n] w fun e w' => e = .returned (.tuple #[.slice none 0 0, .int .i64 1]) ∧ w' = w := by
  by_cases hw : 1 ≤ width ∧ width ≤ 32768
  · have hn : n < 0 := by rcases h with h | h; exact absurd hw h; exact h
    have hnd : decide (n < 0) = true := decide_eq_true hn
    have HFT := Lib.hid (fun w => by have := fits_any w width; rw [decide_eq_true hw] at this; exact this)
    clear h hw
    go_enter Tryd.func9, Tryd.ntmps9
    go_wp2_with fail
    refine (HFT.out _).mono ?_
    rintro e w2 ⟨rfl, rfl⟩
    go_wp2_with fail
    go_ret2
    exact ⟨rfl, rfl⟩
  · have HFT := Lib.hid (fun w => by have := fits_any w width; rw [decide_eq_false hw] at this; exact this)
    clear h hw
    go_enter Tryd.func9, Tryd.ntmps9
    go_wp2_with fail
    refine (HFT.out _).mono ?_
    rintro e w2 ⟨rfl, rfl⟩
    go_wp2_with fail
    go_ret2
    exact ⟨rfl, rfl⟩
#print axioms decode_any
#print axioms encode_any
end Go.Proofs.YtljdohfdafnnaaaDoor
