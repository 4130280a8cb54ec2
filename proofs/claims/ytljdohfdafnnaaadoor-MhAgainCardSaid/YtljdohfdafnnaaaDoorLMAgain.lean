/-
  Layer 14: without the document's answer: rows that are told, each by the one above it, are read; likewise by their lengths.
-/
import Derived.Test.YtljdohfdafnnaaaDoorMhI
import Derived.Test.YtljdohfdafnnaaaDoorMhP
import Derived.Deep.QuietTactic
import Derived.BigQuiet
namespace Go.Proofs.YtljdohfdafnnaaaDoor.magain
open Go.RowKit Go.Mz
set_option linter.unusedVariables false
set_option linter.unusedSimpArgs false
set_option maxRecDepth 100000

theorem cap_of {w : World} {g o n c : Nat} {xs : List Value} : Reads w 1 (.slice (some ⟨g, o, none⟩) n c) n xs → n ≤ c := by
  rintro ⟨_, ⟨h0, _⟩ | ⟨x, c, h1, h2, _, _⟩⟩
  · cases h0
  · cases h1; omega

/-- The last row's places so far. -/
def topOf (Ps : List (List Nat)) : List Nat := (Ps.map chg).getLastD []
theorem topOf_snoc (Ps : List (List Nat)) (P : List Nat) : topOf (Ps ++ [P]) = chg P := by simp [topOf]
theorem topOf_bd {width : Nat} {Ps : List (List Nat)} (h : ∀ P ∈ Ps, P.length = width ∧ Bit P) : (topOf Ps).Pairwise (· < ·) ∧ (∀ x ∈ topOf Ps, x < width) ∧ (topOf Ps).length ≤ width := by
  rw [topOf, List.getLastD_eq_getLast?]
  cases hq : (Ps.map chg).getLast? with
  | none => exact ⟨List.Pairwise.nil, (fun x hx => by cases hx), Nat.zero_le _⟩
  | some v =>
    obtain ⟨P, hP, rfl⟩ := List.mem_map.1 (List.mem_of_getLast? hq)
    have := h P hP
    exact ⟨chg_inc P, fun x hx => by rw [← this.1]; exact chg_lt P x hx, by rw [← this.1]; exact chg_len P⟩

theorem bit_rowB : ∀ (L : List Nat) (b : Bool), Bit (rowB b L) := by
  intro L
  induction L with
  | nil => intro b; exact bit_nil
  | cons n r ih => intro b; rw [rowB]; exact (bit_tellB b n).append (ih _)
theorem alignL_self {l : List Nat} (h : l.length % 8 = 0) : alignL l = l := by
  rw [alignL, h]; simp
theorem encF_len {width : Nat} (hw : width ≤ 32768) : ∀ (L : List (List Nat)) (acc : List Nat), (∀ l ∈ L, RowOk width l) → (encF width L acc).length ≤ acc.length + 130000 * L.length := by
  intro L
  induction L with
  | nil => intro acc _; simp [encF]
  | cons l r ih =>
    intro acc h
    rw [encF]
    have h1 := ih (alignL (acc ++ rowB false (lensF 0 l width))) (fun x hx => h x (by simp [hx]))
    have h2 := alignL_len (acc ++ rowB false (lensF 0 l width))
    have h3 := rowB_lenF (h l (by simp)) hw
    rw [List.length_append] at h2
    rw [List.length_cons]; omega
theorem bit_encF (width : Nat) : ∀ (L : List (List Nat)) (acc : List Nat), Bit acc → Bit (encF width L acc) := by
  intro L
  induction L with
  | nil => intro acc h; exact h
  | cons l r ih =>
    intro acc h
    rw [encF]
    refine ih _ ?_
    rw [alignL]
    exact (h.append (bit_rowB _ _)).append (bit_rep _)
theorem dec_enc {width : Nat} (hw : width ≤ 32768) {Ps : List (List Nat)} (hP : ∀ P ∈ Ps, P.length = width ∧ Bit P) :
    decF (bitsL false (bytesB false (encF width (Ps.map chg) []))) width Ps.length 0 [] = .inl Ps := by
  have h8 := encF_mod width (Ps.map chg) [] rfl
  rw [bits_bytes (bit_encF width _ _ bit_nil), alignL_self h8]
  exact dec_told hw Ps [] [] hP rfl rfl

def x0 (g : Nat) : Value × List Nat := (.slice (some ⟨g, 0, none⟩) 0 0, [])

set_option maxHeartbeats 40000000 in
theorem walk (vL : Value) (L : List (Value × List UInt8)) (wid : Int) (w : World) (hL : Reads w 1 vL L.length (L.map Prod.fst)) (hLs : textsIn w L) (htab : Lib.TabIs Tryd.prog w "strings.asciiSpace" .u8 Lib.asciiSpaceTab) :
    Calls Tryd.prog 7 #[vL, .int .i64 wid] w fun e w' => e = .returned (.bool true) ∧ Below w.heap.size w w' := by
  have HT := Lib.hid (tab_old htab); clear htab
  have HL := Lib.hid (Stb.of_old hL)
  have HX := Lib.hid (fun x hx => Stb.of_old (hLs x hx))
  obtain ⟨a0, c0, rfl⟩ := hL.sub
  have hm := hL.len_le
  unfold maxLen at hm
  clear hL hLs
  have H := Lib.hid (St.init w)
  have fin : ∀ w', St w w' (Mz.old w) → Below w.heap.size w w' := fun w' h => (h.perm ((emp_star _).symm.trans (star_comm _ _))).below
  have FIN := Lib.hid fin; clear fin
  have T := elemRows
  go_enter Tryd.func7, Tryd.ntmps7
  go_wp2_with fail
  refine (lives14 H.out HT.out).mono ?_
  rintro e w1 ⟨rfl, h2⟩
  have H2 := Lib.hid h2; clear h2
  by_cases hbad : 20 < L.length ∨ wid < 1 ∨ 300 < wid
  · have hd : (20 : Int) < L.length ∨ (¬ (20 : Int) < L.length ∧ wid < 1) ∨ (¬ (20 : Int) < L.length ∧ ¬ wid < 1 ∧ 300 < wid) := by omega
    clear hbad
    rcases hd with h1 | ⟨h1, h2⟩ | ⟨h1, h2, h3⟩
    · go_wp2_with fail
      refine (lives14 H2.out HT.out).mono ?_
      rintro e w2 ⟨rfl, h3⟩
      have H3 := Lib.hid h3; clear h3
      go_wp2_with fail
      go_ret
      exact ⟨rfl, FIN.out _ H3.out⟩
    · have h1d : decide ((20 : Int) < L.length) = false := decide_eq_false h1
      have h2d : decide (wid < 1) = true := decide_eq_true h2
      go_wp2_with fail
      refine (lives14 H2.out HT.out).mono ?_
      rintro e w2 ⟨rfl, h3⟩
      have H3 := Lib.hid h3; clear h3
      go_wp2_with fail
      go_ret
      exact ⟨rfl, FIN.out _ H3.out⟩
    · have h1d : decide ((20 : Int) < L.length) = false := decide_eq_false h1
      have h2d : decide (wid < 1) = false := decide_eq_false h2
      go_wp2_with fail
      refine (lives14 H2.out HT.out).mono ?_
      rintro e w2 ⟨rfl, h3⟩
      have H3 := Lib.hid h3; clear h3
      go_wp2_with fail
      go_ret
      exact ⟨rfl, FIN.out _ H3.out⟩
  have h1 : ¬ (20 : Int) < L.length := by omega
  have h2 : ¬ wid < 1 := by omega
  have h3 : ¬ 300 < wid := by omega
  have h1d : decide ((20 : Int) < L.length) = false := decide_eq_false h1
  have h2d : decide (wid < 1) = false := decide_eq_false h2
  have h3d : decide (300 < wid) = false := decide_eq_false h3
  have hL20 : L.length ≤ 20 := by omega
  obtain ⟨width, rfl⟩ : ∃ width : Nat, wid = width := ⟨wid.toNat, by omega⟩
  have hw1 : 1 ≤ width := by omega
  have hw3 : width ≤ 300 := by omega
  clear hbad
  go_wp2_with fail
  refine (newCodes_any H2.out HT.out).mono ?_
  rintro e w2 ⟨C, rfl, h4⟩
  have H4 := Lib.hid h4; clear h4 H2
  go_wp2_with fail
  refine (newWriter_any (low := false) H4.out).mono ?_
  rintro e w3 ⟨Wb, rfl, h5⟩
  have h6 := (h5.lit #[] 3 0 rfl (by decide))
  clear h5 H4
  have h6 := h6.perm (show _ = rowsP [x0 w3.heap.size] * (codes C * (wrt Wb [] false * Mz.old w)) by
    rw [show rowsP [x0 w3.heap.size] = own 3 1 (.slice (some ⟨w3.heap.size, 0, none⟩) 0 0) 0 [] * emp from rfl, star_assoc, emp_star]
    show own 3 1 (.slice (some ⟨w3.heap.size, 0, none⟩) 0 0) 0 [] * _ = _
    ac_rfl)
  have H6 := Lib.hid (St.own_nil 35 1 h6)
  clear h6 h1 h2 h3 h1d h2d h3d
  go_wp2_with fail
  generalize w3.heap.size = gA at *
  go_loopw [7, 8, 43] (fun vl va vi wr => ∃ (k : Nat) (Ps : List (List Nat)) (R : List (Value × List Nat)) (ao : Option Addr) (co : Nat) (xa : Value × List Nat) (aa : Option Addr) (ca : Nat), k ≤ L.length ∧ vi = .int .i64 k ∧ vl = .slice ao R.length co ∧ va = .slice aa xa.2.length ca ∧ xa.1 = .slice aa xa.2.length ca ∧ xa ∈ x0 gA :: R ∧ xa.2 = topOf Ps ∧ Ps.length = k ∧ R.map Prod.snd = Ps.map chg ∧ (∀ P ∈ Ps, P.length = width ∧ Bit P) ∧ (agAll width [] (Ps.map chg)).length ≤ 250000 * k ∧
    St w wr (own 35 1 (.slice ao R.length co) R.length (R.map Prod.fst) * (rowsP (x0 gA :: R) * (codes C * (wrt Wb (agAll width [] (Ps.map chg)) false * Mz.old w))))) (fun _ _ vi _ => L.length - (intOf vi).toNat)
  case atStart => exact ⟨0, [], [], none, 0, x0 gA, some ⟨gA, 0, none⟩, 0, by omega, rfl, rfl, rfl, rfl, by simp, rfl, rfl, rfl, (fun P hP => by cases hP), by simp [agAll], H6.out⟩
  case round =>
    clear H6
    obtain ⟨k, Ps, R, ao, co, xa, aa, ca, hk, rfl, rfl, rfl, hxa, hxm, hxt, hPk, hRP, hPs, hal, hst⟩ := hrel
    have hRl : R.length ≤ 20 := by
      have := congrArg List.length hRP
      simp at this
      omega
    by_cases hkn : k < L.length
    · have hkl : (k : Int) < L.length := by omega
      obtain ⟨g, o, rfl, e1⟩ := (HL.out wr hst.right.right.right.right).at_ hkn
      have hx := List.getElem?_eq_getElem hkn
      rw [List.getElem?_map, hx] at e1
      simp only [Option.map_some] at e1
      have hrd := HX.out _ (List.getElem_mem hkn)
      obtain ⟨⟨xv, xl⟩, hxx⟩ : ∃ x, L[k] = x := ⟨_, rfl⟩
      rw [hxx] at e1 hrd
      simp only at e1 hrd
      clear hx hxx
      obtain ⟨ax, cx, rfl⟩ := (hrd wr hst.right.right.right.right).sub
      have hm9 := (hrd wr hst.right.right.right.right).len_le
      unfold maxLen at hm9
      by_cases hsh : xl.length < width
      · have hshi : (xl.length : Int) < width := by omega
        have HF := Lib.hid (FIN.out _ hst.right.right.right.right)
        clear hst hrd hal hPs hRP hxt hxm hxa
        go_wp2_with fail
        go_ret
        exact ⟨rfl, HF.out⟩
      · have hshi : ¬ (xl.length : Int) < width := by omega
        obtain ⟨gx, ox, rfl, _⟩ := (hrd wr hst.right.right.right.right).at_ (j := 0) (by omega)
        have hcx := cap_of (hrd wr hst.right.right.right.right)
        have hci : (width : Int) ≤ cx := by omega
        have HPX := Lib.hid (pixels_any (bs := xl.take width) (v := .slice (some ⟨gx, ox, none⟩) width cx) (by
          rw [List.length_take, Nat.min_eq_left (by omega), List.map_take]
          exact Reads.takeR (hrd wr hst.right.right.right.right) (by omega)) (by rw [List.length_take]; omega))
        have hPl : (pxL (xl.take width)).length = width := by simp; omega
        have hPb := bit_pxL (xl.take width)
        generalize pxL (xl.take width) = P at *
        obtain ⟨va, tp⟩ := xa
        simp only at hxa hxt
        subst hxa
        have htop := topOf_bd hPs
        rw [← hxt] at htop
        have hsl : ∀ x ∈ chg P, x < width := fun x hx => by rw [← hPl]; exact chg_lt P x hx
        have hcl := chg_len P
        have haB := agB_len (chg_inc P) hsl htop.1 htop.2.1 (by omega) (width + 1) (-1) false
        have hacc : agAll width [] ((Ps ++ [P]).map chg) = agAll width [] (Ps.map chg) ++ agB (chg P) tp width (width + 1) (-1) false := by
          rw [List.map_append, List.map_cons, List.map_nil, agAll_snoc, hxt]; rfl
        have hal2 : (agAll width [] ((Ps ++ [P]).map chg)).length ≤ 250000 * (k + 1) := by rw [hacc, List.length_append]; omega
        have hPs2 : ∀ Q ∈ Ps ++ [P], Q.length = width ∧ Bit Q := fun Q hQ => by
          rcases List.mem_append.1 hQ with h | h
          · exact hPs Q h
          · rw [List.mem_singleton.1 h]; exact ⟨hPl, hPb⟩
        have hRP2 : R.map Prod.snd ++ [chg P] = (Ps ++ [P]).map chg := by rw [hRP, List.map_append]; rfl
        have hPk2 : (Ps ++ [P]).length = k + 1 := by simp [hPk]
        have htp2 : topOf (Ps ++ [P]) = chg P := topOf_snoc Ps P
        have HCH := Lib.hid (fun (w' : World) (G : SProp) (h : St w w' G) => changes_any h hPb (by omega) (sb := ⟨(tx P).toArray⟩) rfl)
        have HWA := Lib.hid (fun (w' : World) (F : SProp) (vx : Value) (h : St w w' (codes C * (wrt Wb (agAll width [] (Ps.map chg)) false * F))) (hr : Stb w F (fun w => Reads w 1 vx (chg P).length ((chg P).map nv))) (hr2 : Stb w F (fun w => Reads w 1 (.slice aa tp.length ca) tp.length (tp.map nv))) => by
          have C0 := writeAgainst_any h hr hr2 (chg_inc P) hsl htop.1 htop.2.1 hw1 (by omega) (by omega) (by have := htop.2.2; omega) (by omega)
          rw [← hacc] at C0; exact C0)
        have HH := Lib.hid (⟨hal2, hPs2, hRP2, hPk2, htp2⟩ : _ ∧ _ ∧ _ ∧ _ ∧ _)
        have HMEM := Lib.hid hxm
        have HST := Lib.hid hst
        clear hst hrd hal hPs hRP hxt hxm hPk htop hsl hcl haB hacc hal2 hPs2 hRP2 hPk2 htp2 hPl hPb
        generalize agAll width [] (Ps.map chg) = acc1 at *
        generalize Ps ++ [P] = Ps2 at *
        go_wp2_with fail
        refine HPX.out.mono ?_
        rintro e w5 ⟨rfl, rfl⟩
        have HC1 := Lib.hid (HCH.out _ _ HST.out); clear HPX HCH
        go_wp2_with fail
        refine HC1.out.mono ?_
        rintro e w6 ⟨vx, rfl, h6⟩
        obtain ⟨av, cv, rfl⟩ := h6.reads.sub
        have h6 := h6.perm (show _ = codes C * (wrt Wb acc1 false * (own 3 1 (.slice av (chg P).length cv) (chg P).length ((chg P).map nv) * (own 35 1 (.slice ao R.length co) R.length (R.map Prod.fst) * (rowsP (x0 gA :: R) * Mz.old w)))) by ac_rfl)
        have HW := Lib.hid (HWA.out _ _ _ h6 Stb.of_own (fun w' h => rowsP_reads (x0 gA :: R) _ h.right.right (.slice aa tp.length ca, tp) HMEM.out)); clear h6 HC1 HWA HST
        go_wp2_with fail
        refine HW.out.mono ?_
        rintro e w7 ⟨rfl, h7⟩
        have H7 := Lib.hid (h7.perm (show _ = own 35 1 (.slice ao R.length co) R.length (R.map Prod.fst) * (own 3 1 (.slice av (chg P).length cv) (chg P).length ((chg P).map nv) * (rowsP (x0 gA :: R) * (codes C * (wrt Wb (agAll width [] (Ps2.map chg)) false * Mz.old w)))) by ac_rfl)); clear h7 HW
        obtain ⟨l5, hl5⟩ : ∃ l5, l5 = (chg P).length := ⟨_, rfl⟩
        rw [← hl5] at H7 ⊢
        have HL5 := Lib.hid hl5
        clear hl5
        go_wp2_with (at_builtin; apply stop)
        refine on (wpList_append_sep T rfl _ _ rfl rfl (H7.out.drop_alloc (.cells #[.slice av l5 cv] 35)) rfl (reads_row1 w7 (.slice av l5 cv)) (by intro u hu; rw [List.mem_singleton.1 hu]; rfl) (by unfold maxLen; omega) (by omega) ?_)
        intro v8 w8 h8 _
        have h8 : St w w8 (own 35 1 v8 (R ++ [(Value.slice av l5 cv, chg P)]).length ((R ++ [(Value.slice av l5 cv, chg P)]).map Prod.fst) * (rowsP (x0 gA :: (R ++ [(Value.slice av l5 cv, chg P)])) * (codes C * (wrt Wb (agAll width [] (Ps2.map chg)) false * Mz.old w)))) := by
          rw [← List.cons_append, rowsP_snoc, List.length_append, List.map_append, ← HL5.out]
          exact h8.perm (by simp only [List.length_singleton, List.map_cons, List.map_nil]; ac_rfl)
        obtain ⟨aN, cN, rfl⟩ := h8.reads.sub
        have HSN := Lib.hid (show (R ++ [(Value.slice av l5 cv, chg P)]).length = R.length + 1 by simp)
        have HSM := Lib.hid (show (R ++ [(Value.slice av l5 cv, chg P)]).map Prod.snd = R.map Prod.snd ++ [chg P] by simp)
        have HMM := Lib.hid (show (Value.slice av l5 cv, chg P) ∈ x0 gA :: (R ++ [(Value.slice av l5 cv, chg P)]) by simp)
        have H8 := Lib.hid h8
        clear h8 H7
        generalize R ++ [(Value.slice av l5 cv, chg P)] = R2 at *
        go_wp2_with fail
        obtain ⟨g1, g2, g3, g4, g5⟩ := HH.out
        refine ⟨⟨k + 1, Ps2, R2, aN, cN, (.slice av l5 cv, chg P), av, cv, by omega, by go_num, rfl, by rw [← HL5.out], by rw [← HL5.out], HMM.out, g5.symm, g4, by rw [HSM.out]; exact g3, g2, g1, H8.out⟩, by simp [intOf]; omega⟩
    · obtain rfl : k = L.length := by omega
      have hPn : R.length = Ps.length := by
        have := congrArg List.length hRP
        simpa using this
      clear hxa hxm hxt
      have hwo := wrt_open (hst.perm (show _ = wrt Wb (agAll width [] (Ps.map chg)) false * (own 35 1 (.slice ao R.length co) R.length (R.map Prod.fst) * (rowsP (x0 gA :: R) * (codes C * Mz.old w))) by ac_rfl))
      have hbit := hwo.1
      have hall : agAll width [] (Ps.map chg) ++ [] = agAll width [] (Ps.map chg) := List.append_nil _
      clear hwo
      have HB := Lib.hid (bytes_any (hst.perm (show _ = wrt Wb (agAll width [] (Ps.map chg)) false * (own 35 1 (.slice ao R.length co) R.length (R.map Prod.fst) * (rowsP (x0 gA :: R) * (codes C * Mz.old w))) by ac_rfl)))
      clear hst
      generalize hacc : agAll width [] (Ps.map chg) = acc at *
      have HACC := Lib.hid hacc
      clear hacc hall
      have HPS := Lib.hid hPs; have HRP := Lib.hid hRP; have HPN := Lib.hid hPn
      have HPK := Lib.hid hPk
      clear hPs hRP hPn hPk
      have hal9 : acc.length ≤ 5000000 := by omega
      clear hal
      have hbl : (bytesB false acc).length = (acc.length + 7) / 8 := length_bytesB _ _
      have hbb := bits_bytes hbit
      generalize bytesB false acc = B at *
      obtain ⟨nb, hnb⟩ : ∃ nb, nb = (acc.length + 7) / 8 := ⟨_, rfl⟩
      rw [← hnb] at HB hbl
      have hnb9 : nb ≤ 1000000 := by omega
      have HNB := Lib.hid (⟨hnb, hbl, hbb⟩ : _ ∧ _ ∧ _)
      clear hnb hbl hbb
      go_wp2_with fail
      refine HB.out.mono ?_
      rintro e w5 ⟨v5, rfl, h5⟩
      obtain ⟨a5, c5, rfl⟩ := h5.reads.sub
      have HNR := Lib.hid (newReader_any (low := false) h5 (bs := B) (v := .slice a5 nb c5) (by rw [HNB.out.2.1]; exact Stb.of_own) (by rw [HNB.out.2.1]; omega))
      clear h5 HB
      go_wp2_with fail
      refine HNR.out.mono ?_
      rintro e w6 ⟨Rb, rfl, h6⟩
      have h6 := h6.perm (show _ = wrt Wb acc false * (own 35 1 (.slice ao R.length co) R.length (R.map Prod.fst) * (rowsP (x0 gA :: R) * (codes C * (rdr Rb B 0 false * (own 5 1 (.slice a5 nb c5) nb (B.map bv) * Mz.old w))))) by ac_rfl)
      have h7 := (h6.lit #[] 3 0 rfl (by decide)).perm (show _ = own 3 1 (.slice (some ⟨w6.heap.size, 0, none⟩) 0 0) 0 [] * (codes C * (rdr Rb B 0 false * (wrt Wb acc false * (own 35 1 (.slice ao R.length co) R.length (R.map Prod.fst) * (rowsP (x0 gA :: R) * (own 5 1 (.slice a5 nb c5) nb (B.map bv) * Mz.old w)))))) by simp only; ac_rfl)
      have H7 := Lib.hid h7
      clear h6 h7 HNR
      obtain ⟨X, hX⟩ : ∃ X, alignL acc = acc ++ X := ⟨_, rfl⟩
      have hBX : bitsL false B = acc ++ X := by rw [HNB.out.2.2, hX]
      have hB8 : acc.length ≤ 8 * B.length := by rw [HNB.out.2.1, HNB.out.1]; omega
      have hB9 : B.length ≤ 1000000 := by rw [HNB.out.2.1]; omega
      have htL : (bitsL false B).length = 8 * B.length := length_bitsL _ _
      have HBT := Lib.hid (⟨hBX, htL, hB8⟩ : _ ∧ _ ∧ _)
      clear hX hBX htL hB8
      have hRl2 : R.length ≤ 20 := hRl
      go_wp2_with fail
      generalize w6.heap.size = gB at *
      go_loopw [8, 75] (fun va vi wr => ∃ (k p : Nat) (Tp : List Nat) (aa : Option Addr) (ca : Nat), k ≤ R.length ∧ vi = .int .i64 k ∧ va = .slice aa (chg Tp).length ca ∧ Tp.length = width ∧ Bit Tp ∧ p ≤ 8 * B.length ∧ (bitsL false B).drop p = agAll width (chg Tp) ((Ps.map chg).drop k) ++ X ∧ p + (agAll width (chg Tp) ((Ps.map chg).drop k)).length = acc.length ∧
        St w wr (own 3 1 (.slice aa (chg Tp).length ca) (chg Tp).length ((chg Tp).map nv) * (codes C * (rdr Rb B p false * (wrt Wb acc false * (own 35 1 (.slice ao R.length co) R.length (R.map Prod.fst) * (rowsP (x0 gA :: R) * Mz.old w))))))) (fun _ vi _ => R.length - (intOf vi).toNat)
      case atStart =>
        have e0 : chg (runP width false) = [] := chg_white width
        refine ⟨0, 0, runP width false, some ⟨gB, 0, none⟩, 0, by omega, rfl, by rw [e0]; rfl, by simp [runP], bit_runP _ _, by omega, ?_, ?_, ?_⟩
        · rw [List.drop_zero, List.drop_zero, e0, HBT.out.1, HACC.out]
        · rw [List.drop_zero, e0, HACC.out, Nat.zero_add]
        · rw [e0]
          have h7 := H7.out
          exact (h7.perm (show _ = own 5 1 (.slice a5 nb c5) nb (B.map bv) * (own 3 1 (.slice (some ⟨gB, 0, none⟩) 0 0) 0 [] * (codes C * (rdr Rb B 0 false * (wrt Wb acc false * (own 35 1 (.slice ao R.length co) R.length (R.map Prod.fst) * (rowsP (x0 gA :: R) * Mz.old w)))))) by ac_rfl)).right
      case round =>
        clear H7 HACC
        obtain ⟨k, p, Tp, aa, ca, hk, rfl, rfl, hTl, hTb, hp, hdr, hpa, hst⟩ := hrel
        by_cases hkn : k < R.length
        · have hkl : (k : Int) < R.length := by omega
          obtain ⟨g, o, rfl, e1⟩ := (hst.right.right.right.right.reads).at_ hkn
          have hkP : k < Ps.length := by rw [← HPN.out]; exact hkn
          have hx := List.getElem?_eq_getElem hkn
          have hy := List.getElem?_eq_getElem hkP
          have hz := congrArg (fun l => l[k]?) HRP.out
          simp only [List.getElem?_map] at hz
          rw [hx, hy] at hz
          rw [List.getElem?_map, hx] at e1
          simp only [Option.map_some, Option.some.injEq] at e1 hz
          obtain ⟨hPl, hPb⟩ := HPS.out _ (List.getElem_mem hkP)
          have hd : (Ps.map chg).drop k = chg Ps[k] :: (Ps.map chg).drop (k + 1) := by
            rw [List.drop_eq_getElem_cons (by simpa using hkP), List.getElem_map]
          rw [hd, agAll] at hdr hpa
          rw [List.append_assoc] at hdr
          have hmem : R[k] ∈ x0 gA :: R := List.mem_cons_of_mem _ (List.getElem_mem hkn)
          clear hx hy hd
          generalize R[k] = x at *
          generalize Ps[k] = P at *
          obtain ⟨xv, xl⟩ := x
          simp only at hz e1
          subst hz
          have hrd : Stb w (own 3 1 (.slice aa (chg Tp).length ca) (chg Tp).length ((chg Tp).map nv) * (wrt Wb acc false * (own 35 1 (.slice (some ⟨g, o, none⟩) R.length co) R.length (R.map Prod.fst) * (rowsP (x0 gA :: R) * Mz.old w)))) (fun w' => Reads w' 1 xv (chg P).length ((chg P).map nv)) := fun w' h => rowsP_reads (x0 gA :: R) _ h.right.right.right _ hmem
          have h8 := hst.perm (show _ = codes C * (rdr Rb B p false * (own 3 1 (.slice aa (chg Tp).length ca) (chg Tp).length ((chg Tp).map nv) * (wrt Wb acc false * (own 35 1 (.slice (some ⟨g, o, none⟩) R.length co) R.length (R.map Prod.fst) * (rowsP (x0 gA :: R) * Mz.old w))))) by ac_rfl)
          have htl2 : ∀ x ∈ chg Tp, x < width := fun x hx => by rw [← hTl]; exact chg_lt Tp x hx
          have hcT := chg_len Tp
          have C1 := readAgainst_any h8 (Stb.of_own) (chg_inc Tp) htl2 hw1 (by omega) (by omega) (by omega) hp
          have hRT := readAg_told hPb (by rw [hTl, hPl]) (by omega) (by rw [HBT.out.2.1]; exact hp) (by rw [hPl]; exact hdr)
          rw [hPl] at hRT
          rw [hRT] at C1
          have hd2 := drop_more hdr
          rw [List.length_append] at hpa
          have hp2 : p + (agB (chg P) (chg Tp) width (width + 1) (-1) false).length ≤ 8 * B.length := by have := HBT.out.2.2; omega
          rw [← Nat.add_assoc] at hpa
          generalize p + (agB (chg P) (chg Tp) width (width + 1) (-1) false).length = p2 at *
          obtain ⟨ax, cx, rfl⟩ := (hrd wr h8.right.right).sub
          have HC1 := Lib.hid C1
          have HRD := Lib.hid hrd
          have HN := Lib.hid (⟨hp2, hd2, hpa⟩ : _ ∧ _ ∧ _)
          clear C1 hst h8 hRT hdr hd2 hpa hp2 hp htl2 hcT hTl hTb hrd hmem
          go_wp2_with fail
          refine HC1.out.mono ?_
          rintro e w8 ⟨v8, rfl, h8⟩
          have h8 : St w w8 (own 3 1 v8 (chg P).length ((chg P).map nv) * (codes C * (rdr Rb B p2 false * (own 3 1 (.slice aa (chg Tp).length ca) (chg Tp).length ((chg Tp).map nv) * (wrt Wb acc false * (own 35 1 (.slice (some ⟨g, o, none⟩) R.length co) R.length (R.map Prod.fst) * (rowsP (x0 gA :: R) * Mz.old w))))))) := h8
          obtain ⟨a8, c8, rfl⟩ := h8.reads.sub
          have HS := Lib.hid (same_any (HRD.out _ h8.right.right.right) h8.reads)
          rw [decide_eq_true rfl] at HS
          have H8 := Lib.hid (h8.perm (show _ = own 3 1 (.slice aa (chg Tp).length ca) (chg Tp).length ((chg Tp).map nv) * (own 3 1 (.slice a8 (chg P).length c8) (chg P).length ((chg P).map nv) * (codes C * (rdr Rb B p2 false * (wrt Wb acc false * (own 35 1 (.slice (some ⟨g, o, none⟩) R.length co) R.length (R.map Prod.fst) * (rowsP (x0 gA :: R) * Mz.old w)))))) by ac_rfl)).right
          clear h8 HC1 HRD
          simp only [erN]
          go_wp2_with fail
          refine HS.out.mono ?_
          rintro e w9 ⟨rfl, n9, rfl⟩
          have H9 := Lib.hid (H8.drewN n9); clear HS H8
          generalize w8.drewN n9 = w9 at *
          go_wp2_with fail
          exact ⟨⟨k + 1, p2, P, a8, c8, by omega, by go_num, rfl, hPl, hPb, HN.out.1, HN.out.2.1, HN.out.2.2, H9.out⟩, by simp [intOf]; omega⟩
        · obtain rfl : k = R.length := by omega
          have hdn : (Ps.map chg).drop R.length = [] := List.drop_of_length_le (by rw [List.length_map, HPN.out]; exact Nat.le_refl _)
          rw [hdn] at hpa
          obtain rfl : p = acc.length := by simpa [agAll] using hpa
          clear hdn hpa hdr
          have hro : ∀ x ∈ R, RowOk width x.2 := fun x hx => by
            have h1 : x.2 ∈ R.map Prod.snd := List.mem_map_of_mem hx
            rw [HRP.out] at h1
            obtain ⟨P, hP, e⟩ := List.mem_map.1 h1
            rw [← e]
            have hPl := (HPS.out P hP).1
            exact ⟨chg_inc P, fun x hx => by rw [← hPl]; exact chg_lt P x hx, by have := chg_len P; omega⟩
          have hst := hst.right
          have HE := Lib.hid (encode_any (width := width) hst (fun w h => HT.out w h.right.right.right.right.right) (v := .slice ao R.length co) (fun w h => h.right.right.right.reads) (fun w h x hx => rowsP_reads (x0 gA :: R) _ h.right.right.right.right x (List.mem_cons_of_mem _ hx)) hw1 (by omega) hro (by omega))
          have hlen9 := encF_len (width := width) (by omega) (R.map Prod.snd) [] (fun l hl => by obtain ⟨x, hx, rfl⟩ := List.mem_map.1 hl; exact hro x hx)
          rw [List.length_map] at hlen9
          have hdec := dec_enc (width := width) (by omega) HPS.out
          rw [← HRP.out, ← HPN.out] at hdec
          simp only [List.length_nil, Nat.zero_add] at hlen9
          have hl1 : (bytesB false (encF width (R.map Prod.snd) [])).length = ((encF width (R.map Prod.snd) []).length + 7) / 8 := length_bytesB _ _
          have hl2 : (bytesB false (encF width (R.map Prod.snd) [])).length ≤ 1000000 := by omega
          rw [← hl1] at HE
          generalize bytesB false (encF width (R.map Prod.snd) []) = E at *
          have HDC := Lib.hid hdec
          have HST := Lib.hid (⟨hTl, hTb⟩ : _ ∧ _)
          clear hst hro hlen9 hl1 hdec hTl hTb
          go_wp2_with fail
          refine HE.out.mono ?_
          rintro e w8 ⟨v8, rfl, h8⟩
          obtain ⟨a8, c8, rfl⟩ := h8.reads.sub
          have C2 := decode_any h8 (fun w h => HT.out w h.right.right.right.right.right.right) (bs := E) (vb := .slice a8 E.length c8) Stb.of_own (by omega) (width := width) (N := R.length) hw1 (by omega) (by omega)
          rw [HDC.out] at C2
          have HC2 := Lib.hid C2; clear C2 h8 HE
          go_wp2_with fail
          refine HC2.out.mono ?_
          rintro e w9 ⟨v9, R2, rfl, hR2, h9⟩
          have hRR : R2.map Prod.snd = R.map Prod.snd := by rw [hR2, HRP.out]; rfl
          have hR2l : R2.length = R.length := by have := congrArg List.length hRR; simpa using this
          rw [hR2l] at h9
          obtain ⟨a9, c9, rfl⟩ := h9.reads.sub
          have h9 := h9.perm (show _ = rdr Rb B acc.length false * (wrt Wb acc false * (own 35 1 (.slice a9 R.length c9) R.length (R2.map Prod.fst) * (rowsP R2 * (own 35 1 (.slice ao R.length co) R.length (R.map Prod.fst) * (rowsP (x0 gA :: R) * (own 5 1 (.slice a8 E.length c8) E.length (E.map bv) * (codes C * Mz.old w))))))) by ac_rfl)
          have HAT := Lib.hid (at_any (rdr_at h9))
          have h9 := h9.right
          have HLN := Lib.hid (len_any h9)
          have HQ := Lib.hid (⟨hRR, hR2l⟩ : _ ∧ _)
          have H9 := Lib.hid h9.right
          clear h9 hRR hR2l hR2 HC2
          simp only [erD]
          go_wp2_with fail
          refine HAT.out.mono ?_
          rintro e w10 ⟨rfl, rfl⟩
          clear HAT
          go_wp2_with fail
          refine HLN.out.mono ?_
          rintro e w11 ⟨rfl, rfl⟩
          clear HLN
          go_wp2_with fail
          go_loopw [133] (fun vi wr => ∃ k : Nat, k ≤ R.length ∧ vi = .int .i64 k ∧ St w wr (own 35 1 (.slice a9 R.length c9) R.length (R2.map Prod.fst) * (rowsP R2 * (own 35 1 (.slice ao R.length co) R.length (R.map Prod.fst) * (rowsP (x0 gA :: R) * (own 5 1 (.slice a8 E.length c8) E.length (E.map bv) * (codes C * Mz.old w))))))) (fun vi _ => R.length - (intOf vi).toNat)
          case atStart => exact ⟨0, by omega, rfl, H9.out⟩
          case round =>
            clear H9
            obtain ⟨k, hk, rfl, hst⟩ := hrel
            by_cases hkn : k < R.length
            · have hkl : (k : Int) < R.length := by omega
              have hk2 : k < R2.length := by rw [HQ.out.2]; exact hkn
              obtain ⟨g, o, rfl, e1⟩ := (hst.reads).at_ hkn
              obtain ⟨g2, o2, rfl, e2⟩ := (hst.right.right.reads).at_ hkn
              have hx := List.getElem?_eq_getElem hkn
              have hy := List.getElem?_eq_getElem hk2
              have hz := congrArg (fun l => l[k]?) HQ.out.1
              simp only [List.getElem?_map] at hz
              rw [hx, hy] at hz
              rw [List.getElem?_map, hy] at e1
              rw [List.getElem?_map, hx] at e2
              simp only [Option.map_some, Option.some.injEq] at e1 e2 hz
              have hm1 : R[k] ∈ x0 gA :: R := List.mem_cons_of_mem _ (List.getElem_mem hkn)
              have hm2 : R2[k] ∈ R2 := List.getElem_mem hk2
              clear hx hy
              generalize R[k] = x at *
              generalize R2[k] = y at *
              obtain ⟨xv, xl⟩ := x
              obtain ⟨yv, yl⟩ := y
              simp only at hz e1 e2
              subst hz
              have r1 : ∀ n, Reads (wr.drewN n) 1 xv yl.length (yl.map nv) := fun n => rowsP_reads (x0 gA :: R) _ (hst.drewN n).right.right.right _ hm1
              have r2 : ∀ n, Reads (wr.drewN n) 1 yv yl.length (yl.map nv) := fun n => rowsP_reads R2 _ (hst.drewN n).right _ hm2
              obtain ⟨ax, cx, rfl⟩ := (r1 0).sub
              obtain ⟨ay, cy, rfl⟩ := (r2 0).sub
              have HS := Lib.hid (fun n => Calls.quiet_of (by have C := same_any (r1 n) (r2 n); rw [decide_eq_true rfl] at C; exact C))
              have HST2 := Lib.hid hst
              clear hst r1 r2 hm1 hm2 hk2
              go_wp2_with fail
              go_quiet ((go_at_call 29; exact HS.out _))
              have H10 := Lib.hid (HST2.out.drewN nq)
              generalize wr.drewN nq = w12 at *
              go_wp2_with fail
              exact ⟨⟨k + 1, by omega, by go_num, H10.out⟩, by simp [intOf]; omega⟩
            · obtain rfl : k = R.length := by omega
              have HF := Lib.hid (FIN.out _ hst.right.right.right.right.right.right)
              clear hst
              go_wp2_with fail
              go_ret
              exact ⟨rfl, HF.out⟩
#print axioms walk
end Go.Proofs.YtljdohfdafnnaaaDoor.magain
