/-
  Layer 13: lengths that are told, of any colours, are read, one behind the other; and nil books.
-/
import Derived.Test.YtbpikbdebffnjaaDoorFaxE
import Derived.Test.YtbpikbdebffnjaaDoorFaxV
import Derived.Below
namespace Go.Proofs.YtbpikbdebffnjaaDoor.fagain
open Go.RowKit Go.Mz
set_option linter.unusedVariables false
set_option linter.unusedSimpArgs false

theorem tab_old {w : World} (h : Lib.TabIs Tryd.prog w "strings.asciiSpace" .u8 Lib.asciiSpaceTab) : Tab w (Mz.old w) := fun w' s => by
  have B : Below w.heap.size w w' := (s.perm ((emp_star _).symm.trans (star_comm _ _))).below
  unfold Lib.TabIs World.var? at h ⊢
  cases hg : Tryd.prog.globalNamed "strings.asciiSpace" with
  | none => rw [hg] at h; simp at h
  | some g =>
    rw [hg] at h
    simp only [Option.bind_some] at h ⊢
    have hlt : g < w.heap.size := by
      rcases Nat.lt_or_ge g w.heap.size with h' | h'
      · exact h'
      · simp [Array.getElem?_eq_none h'] at h
    rw [B.block g hlt]
    exact h

theorem rdW_at {W : List (List Nat)} (pf : PF W) {i : Nat} {w r : List Nat} (hi : W[i]? = some w) (hw : w ≠ []) : rdW W [] (w ++ r) = (w.length, .inl i) := rdW_hit pf hi w [] r rfl hw
theorem drop_more {t a b : List Nat} {p : Nat} (h : t.drop p = a ++ b) : t.drop (p + a.length) = b := by
  rw [← List.drop_drop, h, List.drop_left]
theorem getD_of {W : List (List Nat)} {i : Nat} {w : List Nat} (h : W[i]? = some w) : W.getD i [] = w := by
  rw [List.getD_eq_getElem?_getD, h]; rfl
/-- What is told is read. -/
theorem read_told (black : Bool) {t r : List Nat} (most : Int) : ∀ (m : Nat) (f p n : Nat), m ≤ 1000000 → (placesL m).length ≤ f → t.drop p = kbits (faxW black) (placesL m) ++ r → ((n + m : Nat) : Int) ≤ most →
    readFx (faxW black) t most f p n = (p + (kbits (faxW black) (placesL m)).length, .inl (n + m)) := by
  intro m
  induction m using Nat.strongRecOn with
  | ind m ih =>
    intro f p n hm hf ht hle
    by_cases hg : 2560 ≤ m
    · rw [placesL_great hg] at hf ht ⊢
      rw [kbits_cons] at ht ⊢
      obtain ⟨v, hv, hvn⟩ := ne_fax black (i := 103) (by omega)
      rw [getD_of hv, List.append_assoc] at ht
      rw [getD_of hv]
      obtain ⟨f, rfl⟩ : ∃ g, f = g + 1 := ⟨f - 1, by simp at hf; omega⟩
      rw [readFx, ht, rdW_at (pf_fax black) hv hvn]
      simp only
      rw [show faxL 103 = 2560 from rfl, if_neg (by omega), if_neg (by omega), ih (m - 2560) (by omega) f (p + v.length) (n + 2560) (by omega) (by simp at hf; omega) (drop_more ht) (by omega), List.length_append, Nat.add_assoc, show n + 2560 + (m - 2560) = n + m by omega]
    · by_cases h64 : 64 ≤ m
      · rw [placesL_more (by omega) h64] at hf ht ⊢
        rw [kbits_cons] at ht ⊢
        obtain ⟨v, hv, hvn⟩ := ne_fax black (i := 63 + m / 64) (by omega)
        rw [getD_of hv, List.append_assoc] at ht
        rw [getD_of hv]
        obtain ⟨f, rfl⟩ : ∃ g, f = g + 1 := ⟨f - 1, by simp at hf; omega⟩
        have hfl : faxL (63 + m / 64) = 64 * (m / 64) := by rw [faxL, if_neg (by omega)]; omega
        rw [readFx, ht, rdW_at (pf_fax black) hv hvn]
        simp only
        rw [hfl, if_neg (by omega), if_neg (by omega), ih (m % 64) (by omega) f (p + v.length) (n + 64 * (m / 64)) (by omega) (by simp at hf; omega) (drop_more ht) (by omega), List.length_append, Nat.add_assoc, show n + 64 * (m / 64) + m % 64 = n + m by omega]
      · rw [placesL_less (by omega)] at hf ht ⊢
        rw [kbits_cons] at ht ⊢
        obtain ⟨v, hv, hvn⟩ := ne_fax black (i := m) (by omega)
        have hk : kbits (faxW black) [] = [] := rfl
        rw [getD_of hv, hk, List.append_nil] at ht ⊢
        obtain ⟨f, rfl⟩ : ∃ g, f = g + 1 := ⟨f - 1, by simp at hf; omega⟩
        have hfl : faxL m = m := by rw [faxL, if_pos (by omega)]
        rw [readFx, ht, rdW_at (pf_fax black) hv hvn]
        simp only
        rw [hfl, if_neg (by omega), if_pos (by omega)]
theorem kbits_ge (black : Bool) : ∀ K : List Nat, (∀ i ∈ K, i < 104) → K.length ≤ (kbits (faxW black) K).length ∧ (kbits (faxW black) K).length ≤ 13 * K.length := by
  intro K
  induction K with
  | nil => intro _; simp [kbits]
  | cons i K ih =>
    intro h
    have h1 := ih fun j hj => h j (by simp [hj])
    obtain ⟨v, hv, hvn⟩ := ne_fax black (i := i) (h i (by simp))
    have hl := le_fax black v (List.mem_of_getElem? hv)
    rw [kbits_cons, getD_of hv, List.length_append, List.length_cons]; omega
theorem readL_told (black : Bool) {t r : List Nat} (most : Int) {m p : Nat} (hm : m ≤ 1000000) (hp : p ≤ t.length) (ht : t.drop p = tellB black m ++ r) (hle : (m : Int) ≤ most) :
    readL black t most p = (p + (tellB black m).length, .inl m) := by
  have hg := (kbits_ge black (placesL m) (fun i hi => placesL_lt i hi)).1
  have hl := congrArg List.length ht
  rw [List.length_drop, List.length_append] at hl
  have h2 : (tellB black m).length = (kbits (faxW black) (placesL m)).length := rfl
  have := read_told black (t := t) (r := r) most m (t.length + 1 - p) p 0 hm (by omega) ht (by omega)
  rw [readL, this, Nat.zero_add]; rfl
theorem tell_len (black : Bool) {n : Nat} (hn : n ≤ 32768) : (tellB black n).length ≤ 300 := by
  have h1 := (kbits_ge black (placesL n) (fun i hi => placesL_lt i hi)).2
  have h3 : (placesL n).length ≤ 20 := by
    rw [placesL]
    simp only [List.length_append, List.length_replicate, List.length_singleton]
    split
    · simp; omega
    · simp; omega
  rw [tellB]
  omega
def colF (cols : List Bool) (i : Nat) : Bool := cols.getD i false
/-- The bits of lengths, from a place's colour on. -/
def tol (cols : List Bool) : Nat → List Nat → List Nat
  | _, [] => []
  | i, x :: r => tellB (colF cols i) (x % 32769) ++ tol cols (i + 1) r
theorem bit_tol (cols : List Bool) : ∀ (l : List Nat) (i : Nat), Bit (tol cols i l) := by
  intro l
  induction l with
  | nil => intro i b hb; cases hb
  | cons x l ih => intro i; exact (bit_tellB _ _).append (ih _)
def u16v (x : Nat) : Value := .int .u16 (x : Int)
def bo (b : Bool) : Value := .bool b

section
variable {w0 w : World} {F : SProp}
theorem nread_nil (h : St w0 w F) (r : Value) (m : Int) (b : Bool) : Calls Tryd.prog 24 #[.pointer none, r, .int .i64 m, .bool b] w fun e w' => e = .returned (.tuple #[.int .i64 0, .int .i64 1]) ∧ St w0 w' F := by
  have H := Lib.hid h; clear h
  go_enter Tryd.func24, Tryd.ntmps24
  go_wp2_with fail
  go_ret2
  exact ⟨rfl, H.out⟩
theorem nmode_nil (h : St w0 w F) (r : Value) : Calls Tryd.prog 26 #[.pointer none, r] w fun e w' => e = .returned (.tuple #[.int .i64 0, .int .i64 1]) ∧ St w0 w' F := by
  have H := Lib.hid h; clear h
  go_enter Tryd.func26, Tryd.ntmps26
  go_wp2_with fail
  go_ret2
  exact ⟨rfl, H.out⟩
theorem nwrite_nil (h : St w0 w F) (r : Value) (m : Int) (b : Bool) : Calls Tryd.prog 16 #[.pointer none, r, .int .i64 m, .bool b] w fun e w' => e = .returned (.int .i64 1) ∧ St w0 w' F := by
  have H := Lib.hid h; clear h
  go_enter Tryd.func16, Tryd.ntmps16
  go_wp2_with fail
  go_ret
  exact ⟨rfl, H.out⟩
theorem nwmode_nil (h : St w0 w F) (r : Value) (m : Int) : Calls Tryd.prog 21 #[.pointer none, r, .int .i64 m] w fun e w' => e = .returned (.int .i64 1) ∧ St w0 w' F := by
  have H := Lib.hid h; clear h
  go_enter Tryd.func21, Tryd.ntmps21
  go_wp2_with fail
  go_ret
  exact ⟨rfl, H.out⟩
end

theorem col_any {w : World} {cb : Nat} {cols : List Bool} {a : Option Addr} {c : Nat} (hc : w.cell? ⟨cb, 0, none⟩ = some (.slice a cols.length c)) (hr : Reads w 1 (.slice a cols.length c) cols.length (cols.map bo)) (k : Nat) (hk : k ≤ 1000) :
    Calls Tryd.prog 29 #[.int .i64 k, .pointer (some ⟨cb, 0, none⟩)] w fun e w' => e = .returned (.bool (colF cols k)) ∧ w = w' := by
  by_cases hkn : k < cols.length
  · obtain ⟨g1, o1, rfl, e1⟩ := hr.at_ hkn
    have hx := List.getElem?_eq_getElem hkn
    have HR := Lib.hid (show colF cols k = cols[k] by rw [colF, List.getD_eq_getElem?_getD, hx]; rfl)
    rw [List.getElem?_map, hx] at e1
    simp only [Option.map_some, bo] at e1
    generalize cols[k] = b at *
    have hkl : (k : Int) < cols.length := by omega
    clear hr hx
    cases b
    · go_enter Tryd.func29, Tryd.ntmps29
      go_wp2_with fail
      go_ret
      exact ⟨by rw [HR.out]; rfl, rfl⟩
    · go_enter Tryd.func29, Tryd.ntmps29
      go_wp2_with fail
      go_ret
      exact ⟨by rw [HR.out]; rfl, rfl⟩
  · have HR := Lib.hid (show colF cols k = false by rw [colF, List.getD_eq_getElem?_getD, List.getElem?_eq_none (by omega)]; rfl)
    have hkl : ¬ (k : Int) < cols.length := by omega
    clear hr
    go_enter Tryd.func29, Tryd.ntmps29
    go_wp2_with fail
    go_ret
    exact ⟨by rw [HR.out]; rfl, rfl⟩

set_option maxRecDepth 100000 in
set_option maxHeartbeats 40000000 in
theorem walk (vl : Value) (l : List Nat) (vc : Value) (cols : List Bool) (w : World) (hl : Reads w 1 vl l.length (l.map u16v)) (h16 : ∀ x ∈ l, x < 65536) (hc : Reads w 1 vc cols.length (cols.map bo)) (htab : Lib.TabIs Tryd.prog w "strings.asciiSpace" .u8 Lib.asciiSpaceTab) :
    Calls Tryd.prog 6 #[vl, vc] w fun e w' => e = .returned (.bool true) ∧ Below w.heap.size w w' := by
  have HT := Lib.hid (tab_old htab); clear htab
  have HL := Lib.hid (Stb.of_old hl)
  have HC := Lib.hid (Stb.of_old hc)
  obtain ⟨a0, c0, rfl⟩ := hl.sub
  obtain ⟨a1, c1, rfl⟩ := hc.sub
  have hm := hl.len_le
  unfold maxLen at hm
  have hm1 := hc.len_le
  unfold maxLen at hm1
  clear hl hc
  have H16 := Lib.hid h16; clear h16
  have H := Lib.hid ((St.init w).alloc (.cells #[.slice a1 cols.length c1] 49))
  have fin : ∀ w', St w w' (Mz.old w) → Below w.heap.size w w' := fun w' h => (h.perm ((emp_star _).symm.trans (star_comm _ _))).below
  have FIN := Lib.hid fin; clear fin
  by_cases hl6 : 60 < l.length
  · have hl7 : 60 < (l.length : Int) := by omega
    go_enter Tryd.func6, Tryd.ntmps6
    go_wp2_with fail
    refine (lives13 H.out.right HT.out).mono ?_
    rintro e w1 ⟨rfl, h2⟩
    have H2 := Lib.hid h2; clear h2
    go_wp2_with fail
    refine (lives13 H2.out HT.out).mono ?_
    rintro e w2 ⟨rfl, h3⟩
    have H3 := Lib.hid h3; clear h3
    go_wp2_with fail
    go_ret
    exact ⟨rfl, FIN.out _ H3.out⟩
  have hl7 : ¬ 60 < (l.length : Int) := by omega
  go_enter Tryd.func6, Tryd.ntmps6
  go_wp2_with fail
  refine (lives13 H.out (fun w h => HT.out w h.right)).mono ?_
  rintro e w1 ⟨rfl, h2⟩
  obtain ⟨cb, hcb⟩ : ∃ cb, cb = w.heap.size := ⟨_, rfl⟩
  rw [← hcb] at h2 ⊢
  have H2 := Lib.hid h2; clear h2 hcb H
  go_wp2_with fail
  refine (newCodes_any H2.out (fun w h => HT.out w h.right)).mono ?_
  rintro e w2 ⟨C, rfl, h3⟩
  have H3 := Lib.hid h3; clear h3 H2
  go_wp2_with fail
  refine (newWriter_any (low := true) H3.out).mono ?_
  rintro e w3 ⟨Wb, rfl, h4⟩
  have H4 := Lib.hid h4; clear h4 H3
  generalize hALL : tol cols 0 l = ALL at *
  have HALL := Lib.hid hALL; clear hALL
  go_wp2_with fail
  go_loopw [33] (fun vi wr => ∃ (k : Nat) (acc : List Nat), k ≤ l.length ∧ vi = .int .i64 k ∧ acc.length ≤ 300 * k ∧ acc ++ tol cols k (l.drop k) = ALL ∧ St w wr (wrt Wb acc true * (codes C * (blk cb (.cells #[.slice a1 cols.length c1] 49) * Mz.old w)))) (fun vi _ => l.length - (intOf vi).toNat)
  case atStart => exact ⟨0, [], by omega, rfl, by simp, HALL.out, H4.out⟩
  case round =>
    clear H4
    obtain ⟨k, acc, hk, rfl, hacc, hall, hst⟩ := hrel
    by_cases hkn : k < l.length
    · obtain ⟨g1, o1, rfl, e1⟩ := (HL.out wr hst.right.right.right).at_ hkn
      have hx := List.getElem?_eq_getElem hkn
      rw [List.getElem?_map, hx] at e1
      simp only [Option.map_some, u16v] at e1
      have hx16 := H16.out l[k] (List.getElem_mem _)
      rw [List.drop_eq_getElem_cons hkn, tol, ← List.append_assoc] at hall
      generalize l[k] = x at *
      have hkl : (k : Int) < l.length := by omega
      have hp := hst.perm (show _ = blk cb (.cells #[.slice a1 cols.length c1] 49) * (wrt Wb acc true * (codes C * Mz.old w)) by ac_rfl)
      have HCA := Lib.hid (col_any (hp.cell 0 rfl) (HC.out _ hst.right.right.right) k (by omega))
      have HAL := Lib.hid hall; clear hall hx hp
      have HST := Lib.hid (hst.perm (star_left_comm _ _ _)); clear hst
      obtain ⟨m, hm'⟩ : ∃ m, m = x % 32769 := ⟨_, rfl⟩
      rw [← hm'] at HAL
      have hxm : (x : Int) % 32769 = (m : Int) := by omega
      have hm9 : m ≤ 32768 := by omega
      clear hm'
      go_wp2_with fail
      refine HCA.out.mono ?_
      rintro e w4 ⟨rfl, rfl⟩
      have htl := tell_len (colF cols k) hm9
      have HCW := Lib.hid (cwrite_any HST.out m hm9 (colF cols k) (by omega) (j := (m : Int)) rfl)
      generalize colF cols k = black at *
      go_wp2_with fail
      refine HCW.out.mono ?_
      rintro e w5 ⟨rfl, h6⟩
      have H6 := Lib.hid (h6.perm (star_left_comm _ _ _)); clear h6 HCW HST HCA
      go_wp2_with fail
      exact ⟨⟨k + 1, acc ++ tellB black m, by omega, by go_num, by rw [List.length_append]; omega, HAL.out, H6.out⟩, by simp [intOf]; omega⟩
    · obtain rfl : k = l.length := by omega
      rw [List.drop_length, tol, List.append_nil] at hall
      subst hall
      have HST := Lib.hid hst; clear hst
      have hacc9 : acc.length ≤ 18000 := by omega
      have hbac : Bit acc := by rw [← HALL.out]; exact bit_tol _ _ _
      go_wp2_with fail
      refine (bytes_any HST.out).mono ?_
      rintro e w6 ⟨v6, rfl, h7⟩
      obtain ⟨z, hz⟩ := bitsL_bytes true hbac
      have hbl : (bytesB true acc).length = (acc.length + 7) / 8 := length_bytesB _ _
      generalize bytesB true acc = bs at *
      rw [← hbl] at h7
      obtain ⟨a6, c6, rfl⟩ := h7.reads.sub
      have hbs : bs.length ≤ 3000 := by omega
      have HZ := Lib.hid hz; have HBL := Lib.hid hbl; clear hz hbl hbac
      have H7 := Lib.hid h7; clear h7 HST
      go_wp2_with fail
      refine (newReader_any (low := true) H7.out (bs := bs) (v := .slice a6 bs.length c6) Stb.of_own (by omega)).mono ?_
      rintro e w7 ⟨Rb, rfl, h8⟩
      have h8 := h8.perm (show _ = codes C * (rdr Rb bs 0 true * (wrt Wb acc true * (blk cb (.cells #[.slice a1 cols.length c1] 49) * (own 5 1 (.slice a6 bs.length c6) bs.length (bs.map bv) * Mz.old w)))) by ac_rfl)
      have H8 := Lib.hid h8; clear h8 H7
      have hdr0 : (bitsL true bs).drop 0 = tol cols 0 (l.drop 0) ++ z := by rw [List.drop_zero, List.drop_zero, HALL.out]; exact HZ.out
      have HD0 := Lib.hid hdr0; clear hdr0
      go_wp2_with fail
      go_loopw [54] (fun vi wr => ∃ (k p : Nat), k ≤ l.length ∧ vi = .int .i64 k ∧ p ≤ 8 * bs.length ∧ p + (tol cols k (l.drop k)).length = acc.length ∧ (bitsL true bs).drop p = tol cols k (l.drop k) ++ z ∧ St w wr (codes C * (rdr Rb bs p true * (wrt Wb acc true * (blk cb (.cells #[.slice a1 cols.length c1] 49) * (own 5 1 (.slice a6 bs.length c6) bs.length (bs.map bv) * Mz.old w)))))) (fun vi _ => l.length - (intOf vi).toNat)
      case atStart => exact ⟨0, 0, by omega, rfl, by omega, by rw [List.drop_zero, HALL.out]; omega, HD0.out, H8.out⟩
      case round =>
        clear H8 HD0
        obtain ⟨k, p, hk, rfl, hp, hpl, hdr, hst⟩ := hrel
        by_cases hkn : k < l.length
        · obtain ⟨g1, o1, rfl, e1⟩ := (HL.out wr hst.right.right.right.right.right).at_ hkn
          have hx := List.getElem?_eq_getElem hkn
          rw [List.getElem?_map, hx] at e1
          simp only [Option.map_some, u16v] at e1
          have hx16 := H16.out l[k] (List.getElem_mem _)
          rw [List.drop_eq_getElem_cons hkn, tol] at hpl hdr
          generalize l[k] = x at *
          have hkl : (k : Int) < l.length := by omega
          have hp2 := hst.perm (show _ = blk cb (.cells #[.slice a1 cols.length c1] 49) * (codes C * (rdr Rb bs p true * (wrt Wb acc true * (own 5 1 (.slice a6 bs.length c6) bs.length (bs.map bv) * Mz.old w)))) by ac_rfl)
          have HCA := Lib.hid (col_any (hp2.cell 0 rfl) (HC.out _ hst.right.right.right.right.right) k (by omega))
          obtain ⟨m, hm'⟩ : ∃ m, m = x % 32769 := ⟨_, rfl⟩
          rw [← hm'] at hpl hdr
          have hxm : (x : Int) % 32769 = (m : Int) := by omega
          have hm9 : m ≤ 32768 := by omega
          clear hm' hx hp2
          generalize colF cols k = black at *
          have hbl8 : (bitsL true bs).length = 8 * bs.length := length_bitsL _ _
          rw [List.append_assoc] at hdr
          have hR := readL_told black (t := bitsL true bs) (r := tol cols (k + 1) (l.drop (k + 1)) ++ z) 32768 (m := m) (p := p) (by omega) (by rw [hbl8]; exact hp) hdr (by omega)
          have hdr2 := drop_more hdr
          rw [List.length_append] at hpl
          have hp3 : p + (tellB black m).length ≤ 8 * bs.length := by
            have := congrArg List.length hdr
            rw [List.length_drop, hbl8, List.length_append] at this
            omega
          obtain ⟨p1, hp1⟩ : ∃ p1, p1 = p + (tellB black m).length := ⟨_, rfl⟩
          rw [← hp1] at hR hdr2 hp3
          have hpl2 : p1 + (tol cols (k + 1) (l.drop (k + 1))).length = acc.length := by omega
          have C2 := cread_any hst 32768 black (by omega) hp
          rw [hR] at C2
          have HCR := Lib.hid C2; clear C2 hst hR hdr hpl hp1 hbl8
          have HD2 := Lib.hid hdr2; have HPL := Lib.hid hpl2; have HP3 := Lib.hid hp3; clear hdr2 hpl2 hp3
          go_wp2_with fail
          refine HCA.out.mono ?_
          rintro e w8 ⟨rfl, rfl⟩
          go_wp2_with fail
          refine HCR.out.mono ?_
          rintro e w9 ⟨y, er, p', rfl, hfx, _, h10⟩
          obtain ⟨hp', hy, he⟩ := hfx
          simp only at hp' hy
          subst hp' hy he
          have H10 := Lib.hid h10; clear h10 HCR HCA
          go_wp2_with fail
          exact ⟨⟨k + 1, p', by omega, by go_num, HP3.out, HPL.out, HD2.out, H10.out⟩, by simp [intOf]; omega⟩
        · obtain rfl : k = l.length := by omega
          rw [List.drop_length, tol] at hpl
          have hpa : p = acc.length := by simpa using hpl
          subst hpa
          have HST := Lib.hid hst; clear hst hdr hpl
          go_wp2_with fail
          refine (nread_nil HST.out _ 9 false).mono ?_
          rintro e w8 ⟨rfl, h9⟩
          have H9 := Lib.hid h9; clear h9 HST
          go_wp2_with fail
          refine (nmode_nil H9.out _).mono ?_
          rintro e w9 ⟨rfl, h10⟩
          have HA := Lib.hid (at_any (rdr_at (h10.perm (star_left_comm _ _ _))))
          have HLN := Lib.hid (len_any (h10.perm (show _ = wrt Wb acc true * (codes C * (rdr Rb bs acc.length true * (blk cb (.cells #[.slice a1 cols.length c1] 49) * (own 5 1 (.slice a6 bs.length c6) bs.length (bs.map bv) * Mz.old w)))) by ac_rfl)))
          have H10 := Lib.hid h10; clear h10 H9
          go_wp2_with fail
          refine HA.out.mono ?_
          rintro e w10 ⟨rfl, rfl⟩
          go_wp2_with fail
          refine HLN.out.mono ?_
          rintro e w11 ⟨rfl, rfl⟩
          go_wp2_with fail
          refine (nwrite_nil H10.out _ 1 false).mono ?_
          rintro e w12 ⟨rfl, h11⟩
          have H11 := Lib.hid h11; clear h11
          go_wp2_with fail
          refine (nwmode_nil H11.out _ 0).mono ?_
          rintro e w13 ⟨rfl, h12⟩
          have H12 := Lib.hid h12; clear h12
          go_wp2_with fail
          go_ret
          exact ⟨rfl, FIN.out _ H12.out.right.right.right.right.right⟩
theorem bools_in {H : Type} {enc : TypeId × Value → H} {w : World} {base : Nat} {spare : Nat → Bool} {held : Bool} {fuel : Nat} {a : Option Addr} {len cap : Nat} {x : DataW H × List MemPlace}
    (h : DataW.trod enc Tryd.prog w base spare held fuel 49 (Value.slice a len cap).cells.toList = some x) :
    ∃ l : List Bool, l.length = len ∧ Reads w 1 (.slice a len cap) len (l.map bo) ∧ True := by
  rcases Deep.open_slice Tryd.underlying49 h with ⟨h0, _⟩ | ⟨b, l, c, m, n, D, Pl, hcs, _, hl, hm, hmm, _, hi⟩
  · simp [Value.cells] at h0
    obtain ⟨rfl, rfl, rfl⟩ := h0
    exact ⟨[], rfl, ⟨rfl, .inl ⟨rfl, rfl⟩⟩, by simp⟩
  · simp [Value.cells] at hcs
    obtain ⟨rfl, rfl, rfl⟩ := hcs
    have hC : Tryd.prog.cellsOf 4 = 1 := by kernel_rfl
    obtain ⟨l, h1, h2, hx⟩ := reads_of_each (α := Bool) (fun b => [bo b]) (m := 1) (by decide) (fun _ => rfl) hl hm (fun _ => True) (fun i hil => by
      obtain ⟨cs, hc, ht⟩ := hi i (by rw [hmm]; split <;> omega)
      rw [hC] at hc
      obtain ⟨_, hlen, hat⟩ := World.cells?_some hc
      obtain ⟨z, rfl, _⟩ := DataW.trod_bool Tryd.underlying4 ht
      refine ⟨z, fun j u hu => ?_, trivial⟩
      cases j with
      | zero =>
        cases hu
        have := hat 0 (by decide)
        rw [Deep.add_add] at this
        exact this
      | succ j => simp at hu)
    have e : l.flatMap (fun b => [bo b]) = l.map bo := by
      clear h1 h2 hx
      induction l with
      | nil => rfl
      | cons b l ih => rw [List.flatMap_cons, ih]; rfl
    rw [e] at h2
    exact ⟨l, h1, h2, trivial⟩
theorem u16s_in {H : Type} {enc : TypeId × Value → H} {w : World} {base : Nat} {spare : Nat → Bool} {held : Bool} {fuel : Nat} {a : Option Addr} {len cap : Nat} {x : DataW H × List MemPlace}
    (h : DataW.trod enc Tryd.prog w base spare held fuel 60 (Value.slice a len cap).cells.toList = some x) :
    ∃ l : List Nat, l.length = len ∧ Reads w 1 (.slice a len cap) len (l.map u16v) ∧ ∀ x ∈ l, x < 65536 := by
  rcases Deep.open_slice Tryd.underlying60 h with ⟨h0, _⟩ | ⟨b, l, c, m, n, D, Pl, hcs, _, hl, hm, hmm, _, hi⟩
  · simp [Value.cells] at h0
    obtain ⟨rfl, rfl, rfl⟩ := h0
    exact ⟨[], rfl, ⟨rfl, .inl ⟨rfl, rfl⟩⟩, by simp⟩
  · simp [Value.cells] at hcs
    obtain ⟨rfl, rfl, rfl⟩ := hcs
    have hC : Tryd.prog.cellsOf 62 = 1 := by kernel_rfl
    obtain ⟨l, h1, h2, hx⟩ := reads_of_each (α := Nat) (fun b => [u16v b]) (m := 1) (by decide) (fun _ => rfl) hl hm (fun x => x < 65536) (fun i hil => by
      obtain ⟨cs, hc, ht⟩ := hi i (by rw [hmm]; split <;> omega)
      rw [hC] at hc
      obtain ⟨_, hlen, hat⟩ := World.cells?_some hc
      obtain ⟨z, rfl, _, hw⟩ := DataW.trod_int Tryd.underlying62 ht
      have hz : 0 ≤ z ∧ z < 65536 := by
        simp [Lit.wf, IntKind.min, IntKind.max, IntKind.bits, IntKind.signed] at hw
        omega
      refine ⟨z.toNat, fun j u hu => ?_, by omega⟩
      cases j with
      | zero =>
        cases hu
        have := hat 0 (by decide)
        rw [Deep.add_add] at this
        show _ = some (Value.int .u16 ((z.toNat : Nat) : Int))
        rw [Int.toNat_of_nonneg hz.1]
        exact this
      | succ j => simp at hu)
    have e : l.flatMap (fun b => [u16v b]) = l.map u16v := by
      clear h1 h2 hx
      induction l with
      | nil => rfl
      | cons b l ih => rw [List.flatMap_cons, ih]; rfl
    rw [e] at h2
    exact ⟨l, h1, h2, hx⟩
#print axioms walk
#print axioms bools_in
#print axioms u16s_in
end Go.Proofs.YtbpikbdebffnjaaDoor.fagain
