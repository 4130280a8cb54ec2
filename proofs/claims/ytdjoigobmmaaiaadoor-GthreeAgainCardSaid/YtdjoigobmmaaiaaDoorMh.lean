/-
  Layer 14 (mh): rows by their lengths.
-/
import Derived.Test.YtdjoigobmmaaiaaDoorRuns
import Derived.Test.YtdjoigobmmaaiaaDoorMhA
namespace Go.Proofs.YtdjoigobmmaaiaaDoor
open Go.RowKit Go.Mz
set_option linter.unusedVariables false
set_option linter.unusedSimpArgs false
set_option maxRecDepth 100000

theorem rdRow_bd {t : List Nat} {width : Nat} : ∀ (f p : Nat) (px : List Nat) (b : Bool) (r : Nat × (List Nat ⊕ Nat)), rdRow t width f p px b = r → p ≤ t.length → px.length ≤ width → Bit px →
    r.1 ≤ t.length ∧ (∀ q, r.2 = .inl q → q.length = width ∧ Bit q) ∧ ∀ e, r.2 = .inr e → e ≠ 0 ∧ e < 100 := by
  intro f
  induction f with
  | zero => intro p px b r h hp _ _; rw [rdRow] at h; subst h; exact ⟨hp, fun q h => by simp at h, fun e h => by simp at h; omega⟩
  | succ f ih =>
    intro p px b r h hp hx hb
    rw [rdRow] at h
    cases hr : readL b t ((width - px.length : Nat) : Int) p with
    | mk k y =>
      rw [hr] at h
      cases y with
      | inr e =>
        have := readL_er hr hp
        subst h
        exact ⟨this.1, fun q h => by simp at h, fun e h => by simp at h; omega⟩
      | inl n =>
        have h1 := readL_ok hr hp
        simp only at h
        split at h
        · rename_i hw
          subst h
          exact ⟨h1.2.1, fun q h => by simp at h; subst h; exact ⟨by simp; exact hw, hb.append (bit_runP _ _)⟩, fun e h => by simp at h⟩
        · exact ih _ _ _ _ h h1.2.1 (by simp; omega) (hb.append (bit_runP _ _))
/-- The changes of what was read. -/
def okL : (List Nat ⊕ Nat) → List Nat
  | .inl px => chg px
  | .inr _ => []
def erN : (List Nat ⊕ Nat) → Nat
  | .inl _ => 0
  | .inr e => e
def readRow (t : List Nat) (width p : Nat) : Nat × (List Nat ⊕ Nat) := rdRow t width (t.length + 1 - p) p [] false

theorem bit_nil : Bit [] := fun x hx => by cases hx
theorem chg_len (p : List Nat) : (chg p).length ≤ p.length := chF_len p 0 0
theorem tog_len (l : List Nat) (x : Nat) : (tog l x).length ≤ l.length + 1 := by
  rw [tog]; split <;> simp; omega
theorem rel_len {row px : List Nat} {b : Bool} {width : Nat} (h : Rel row px b width) : row.length ≤ px.length + 1 := by
  have := chg_len px
  rw [Rel] at h
  rw [h]; split <;> simp <;> omega
theorem fits_any (w : World) (width : Int) : Calls Tryd.prog 53 #[.int .i64 width] w fun e w' => e = .returned (.bool (decide (1 ≤ width ∧ width ≤ 32768))) ∧ w' = w := by
  by_cases h1 : 1 ≤ width
  · by_cases h2 : width ≤ 32768
    · rw [decide_eq_true ⟨h1, h2⟩]
      go_enter Tryd.func53, Tryd.ntmps53
      go_wp2_with fail
      go_ret
      exact ⟨rfl, rfl⟩
    · rw [decide_eq_false (by omega)]
      go_enter Tryd.func53, Tryd.ntmps53
      go_wp2_with fail
      go_ret
      exact ⟨rfl, rfl⟩
  · rw [decide_eq_false (by omega)]
    go_enter Tryd.func53, Tryd.ntmps53
    go_wp2_with fail
    go_ret
    exact ⟨rfl, rfl⟩
theorem fits_ok (w : World) {width : Nat} (h1 : 1 ≤ width) (h2 : width ≤ 32768) : Calls Tryd.prog 53 #[.int .i64 (width : Int)] w fun e w' => e = .returned (.bool true) ∧ w' = w := by
  have := fits_any w (width : Int)
  rw [decide_eq_true (by omega)] at this
  exact this

theorem lensF_le (l : List Nat) (width : Nat) : ∀ was, (∀ x ∈ l, x < width) → ∀ y ∈ lensF was l width, y ≤ width := by
  induction l with
  | nil => intro was _ y hy; simp [lensF] at hy; omega
  | cons x r ih =>
    intro was h y hy
    rw [lensF] at hy
    rcases List.mem_cons.1 hy with rfl | hy
    · have := h x (by simp); omega
    · exact ih x (fun z hz => h z (by simp [hz])) y hy

set_option maxHeartbeats 4000000 in
theorem writeRow_any {w0 w : World} {F : SProp} {C Wb : Nat} {acc : List Nat} {low : Bool} (h : St w0 w (codes C * (wrt Wb acc low * F))) {l : List Nat} {v : Value} {width : Nat} (hr : Stb w0 F (fun w => Reads w 1 v l.length (l.map nv))) (hp : l.Pairwise (· < ·)) (hb : ∀ x ∈ l, x < width) (h1 : 1 ≤ width) (hw : width ≤ 32768) (hl : l.length ≤ 100000) (hm : acc.length ≤ 900000000) :
    Calls Tryd.prog 41 #[.pointer (some ⟨Wb, 0, none⟩), .pointer (some ⟨C, 0, none⟩), v, .int .i64 (width : Int)] w fun e w' => e = .returned (.int .i64 0) ∧ St w0 w' (codes C * (wrt Wb (acc ++ rowB false (lensF 0 l width)) low * F)) := by
  have HFT := Lib.hid (fun w => fits_ok w h1 hw)
  have HLN := Lib.hid (lengths_any h ((hr.more _).more _) hp hb hw (by omega))
  obtain ⟨al, c, rfl⟩ := (hr w h.right.right).sub
  have hle := lensF_le l width 0 hb
  have hll := lensF_len l width 0
  generalize lensF 0 l width = L at *
  have hLl : L.length ≤ 100001 := by omega
  have HLE := Lib.hid hle
  clear hle hll hb hp hr
  have H := Lib.hid h; clear h
  obtain ⟨res, hres⟩ : ∃ res, res = acc ++ rowB false L := ⟨_, rfl⟩
  rw [← hres]
  have HRES := Lib.hid hres; clear hres
  go_enter Tryd.func41, Tryd.ntmps41
  go_wp2_with fail
  refine (HFT.out _).mono ?_
  rintro e w2 ⟨rfl, rfl⟩
  go_wp2_with fail
  refine HLN.out.mono ?_
  rintro e w3 ⟨v3, rfl, h3⟩
  obtain ⟨a3, c3, rfl⟩ := h3.reads.sub
  have H3 := Lib.hid (h3.perm (show _ = codes C * (wrt Wb acc low * (own 3 1 (.slice a3 L.length c3) L.length (L.map nv) * F)) by ac_rfl)); clear h3 HLN HFT H
  go_wp2_with fail
  go_loopw [10, 32] (fun ve vi wr => ∃ (k : Nat) (acc2 : List Nat), k ≤ L.length ∧ ve = .int .i64 0 ∧ vi = .int .i64 k ∧ acc2.length ≤ acc.length + 300 * k ∧ acc2 ++ rowB (decide (k % 2 = 1)) (L.drop k) = res ∧ St w0 wr (codes C * (wrt Wb acc2 low * (own 3 1 (.slice a3 L.length c3) L.length (L.map nv) * F)))) (fun _ vi _ => L.length - (intOf vi).toNat)
  case atStart => exact ⟨0, acc, by omega, rfl, rfl, by omega, HRES.out.symm, H3.out⟩
  case round =>
    clear H3 HRES
    obtain ⟨k, acc2, hk, rfl, rfl, hacc, hall, hst⟩ := hrel
    by_cases hkn : k < L.length
    · obtain ⟨g, o, rfl, e1⟩ := hst.right.right.reads.at_ hkn
      have hx := List.getElem?_eq_getElem hkn
      rw [List.getElem?_map, hx] at e1
      simp only [Option.map_some, nv] at e1
      rw [List.drop_eq_getElem_cons hkn, rowB, ← List.append_assoc] at hall
      have hxw := HLE.out L[k] (List.getElem_mem _)
      have hpar : (!decide (k % 2 = 1)) = decide ((k + 1) % 2 = 1) := by
        rcases Nat.mod_two_eq_zero_or_one k with h | h
        · rw [h, show (k + 1) % 2 = 1 by omega]; rfl
        · rw [h, show (k + 1) % 2 = 0 by omega]; rfl
      rw [hpar] at hall
      have hkl : (k : Int) < L.length := by omega
      have hm2 : (k : Int) % 2 = ((k % 2 : Nat) : Int) := by omega
      clear hx hpar
      generalize L[k] = x at *
      have htl : ∀ b, (tellB b x).length ≤ 300 := fun b => tell_len b (by omega)
      have HTL := Lib.hid htl
      have HALL := Lib.hid hall
      have HACC := Lib.hid hacc
      clear htl hall
      rcases Nat.mod_two_eq_zero_or_one k with h2 | h2
      · rw [h2] at HALL hm2
        have HCW := Lib.hid (cwrite_any hst x (by omega) false (by omega) (j := (x : Int)) rfl)
        have HT2 := Lib.hid (HTL.out false)
        clear hst h2 hacc HTL
        go_wp2_with fail
        refine HCW.out.mono ?_
        rintro e w5 ⟨rfl, h6⟩
        have H6 := Lib.hid h6; clear h6 HCW
        go_wp2_with fail
        exact ⟨⟨k + 1, acc2 ++ tellB false x, by omega, rfl, by go_num, by have := HT2.out; have := HACC.out; rw [List.length_append]; omega, HALL.out, H6.out⟩, by simp [intOf]; omega⟩
      · rw [h2] at HALL hm2
        have HCW := Lib.hid (cwrite_any hst x (by omega) true (by omega) (j := (x : Int)) rfl)
        have HT2 := Lib.hid (HTL.out true)
        clear hst h2 hacc HTL
        go_wp2_with fail
        refine HCW.out.mono ?_
        rintro e w5 ⟨rfl, h6⟩
        have H6 := Lib.hid h6; clear h6 HCW
        go_wp2_with fail
        exact ⟨⟨k + 1, acc2 ++ tellB true x, by omega, rfl, by go_num, by have := HT2.out; have := HACC.out; rw [List.length_append]; omega, HALL.out, H6.out⟩, by simp [intOf]; omega⟩
    · obtain rfl : k = L.length := by omega
      rw [List.drop_length, rowB, List.append_nil] at hall
      subst hall
      have hst2 := (hst.perm (show _ = own 3 1 (.slice a3 L.length c3) L.length (L.map nv) * (codes C * (wrt Wb acc2 low * F)) by ac_rfl)).right
      have HST := Lib.hid hst2; clear hst hst2 hacc
      go_wp2_with fail
      go_ret
      exact ⟨rfl, HST.out⟩

set_option maxHeartbeats 1000000 in
theorem readRow_any {w0 w : World} {F : SProp} {C Rb : Nat} {bs : List UInt8} {p : Nat} {low : Bool} (h : St w0 w (codes C * (rdr Rb bs p low * F))) {width : Nat} (h1 : 1 ≤ width) (hw : width ≤ 32768) (hl : bs.length ≤ 100000000) (hp : p ≤ 8 * bs.length) :
    Calls Tryd.prog 46 #[.pointer (some ⟨Rb, 0, none⟩), .pointer (some ⟨C, 0, none⟩), .int .i64 (width : Int)] w fun e w' => ∃ v,
      e = .returned (.tuple #[v, .int .i64 (erN (readRow (bitsL low bs) width p).2 : Nat)]) ∧ St w0 w' (own 3 1 v (okL (readRow (bitsL low bs) width p).2).length ((okL (readRow (bitsL low bs) width p).2).map nv) * (codes C * (rdr Rb bs (readRow (bitsL low bs) width p).1 low * F))) := by
  have HFT := Lib.hid (fun w => fits_ok w h1 hw)
  have hbl : (bitsL low bs).length = 8 * bs.length := length_bitsL _ _
  obtain ⟨res, hres⟩ : ∃ res, readRow (bitsL low bs) width p = res := ⟨_, rfl⟩
  rw [hres]
  rw [readRow, hbl] at hres
  have HRES := Lib.hid hres; clear hres
  have HBL := Lib.hid hbl; clear hbl
  have H := Lib.hid h; clear h
  have T := elemI
  go_enter Tryd.func46, Tryd.ntmps46
  go_wp2_with fail
  refine (HFT.out _).mono ?_
  rintro e w2 ⟨rfl, rfl⟩
  have h2 := H.out.lit #[] 3 0 rfl (by decide)
  have H2 := Lib.hid h2; clear h2 H
  go_wp2_with fail
  go_loopg [8, 9, 10] (8 * bs.length + 1 - p) (fun g vr va vb wr => ∃ (q : Nat) (px row : List Nat) (b : Bool) (ao : Option Addr) (co : Nat), vr = .slice ao row.length co ∧ va = .int .i64 (px.length : Nat) ∧ vb = .bool b ∧ 8 * bs.length + 1 ≤ g + q ∧ q ≤ 8 * bs.length ∧ px.length < width ∧ Bit px ∧ Rel row px b width ∧ row.length ≤ px.length + 1 ∧ rdRow (bitsL low bs) width g q px b = res ∧ St w0 wr (own 3 1 (.slice ao row.length co) row.length (row.map nv) * (codes C * (rdr Rb bs q low * F))))
  case atStart => exact ⟨p, [], [], false, _, _, rfl, rfl, rfl, by omega, hp, by simp; omega, bit_nil, rel_init _, by simp, HRES.out, H2.out⟩
  case round =>
    clear H2 HRES
    obtain ⟨q, px, row, b, ao, co, rfl, rfl, rfl, hg, hq, hpw, hbp, hrl, hrw, hres, hst⟩ := hrel
    obtain ⟨g, rfl⟩ : ∃ g, gk = g + 1 := ⟨gk - 1, by omega⟩
    rw [rdRow] at hres
    have hsub : (width : Int) - (px.length : Nat) = ((width - px.length : Nat) : Int) := by omega
    have C1 := cread_any (hst.perm (show _ = codes C * (rdr Rb bs q low * (own 3 1 (.slice ao row.length co) row.length (row.map nv) * F)) by ac_rfl)) ((width - px.length : Nat) : Int) b hl hq
    obtain ⟨d, hd⟩ : ∃ d, d = width - px.length := ⟨_, rfl⟩
    rw [← hd] at hsub hres C1
    have HD := Lib.hid hd; clear hd
    cases hr : readL b (bitsL low bs) (d : Int) q with
    | mk k y =>
      rw [hr] at hres C1
      have HC1 := Lib.hid C1; clear C1 hst
      cases y with
      | inr er =>
        have hok := readL_er hr (by rw [HBL.out]; exact hq)
        simp only at hres
        subst hres
        have HOK := Lib.hid hok
        clear hr hok hrl hbp hg hq
        go_wp2_with fail
        refine HC1.out.mono ?_
        rintro e w3 ⟨z, x, p1, rfl, ⟨hp1, hz, hx⟩, _, h3⟩
        simp only at hp1 hz hx
        subst hp1 hz hx
        have hx0 : ¬ (x : Int) = 0 := by have := HOK.out.2.1; omega
        have h3 := h3.perm (show _ = own 3 1 (.slice ao row.length co) row.length (row.map nv) * (codes C * (rdr Rb bs p1 low * F)) by ac_rfl)
        have H3 := Lib.hid (St.own_nil 3 1 h3.right); clear h3 HC1
        go_wp2_with fail
        go_ret2
        exact ⟨_, rfl, H3.out⟩
      | inl n =>
        have hok := readL_ok hr (by rw [HBL.out]; exact hq)
        rw [HBL.out] at hok
        simp only at hres
        clear hr
        have hpn : px.length + n ≤ width := by have := HD.out; omega
        have hpi : (px.length : Int) + n = ((px.length + n : Nat) : Int) := by omega
        have hlen : (px ++ runP n b).length = px.length + n := by simp
        have hst1 := rel_step (n := n) hbp hrl hpn
        have hb2 := hbp.append (bit_runP n b)
        have hrl2 := rel_len hrl
        by_cases hw2 : px.length + n = width
        · rw [if_pos hw2] at hres
          rw [if_neg (by omega)] at hst1
          have hend := rel_end hst1 (by rw [hlen]; exact hw2)
          subst hres
          have hpw2 : (px.length : Int) + n = width := by omega
          have HE := Lib.hid hend
          clear hrl hbp hst1 hb2 hlen hpi hw2 hg hend
          go_wp2_with fail
          refine HC1.out.mono ?_
          rintro e w3 ⟨z, x, p1, rfl, ⟨hp1, hz, hx⟩, _, h3⟩
          simp only at hp1 hz hx
          subst hp1 hz hx
          have H3 := Lib.hid (h3.perm (show _ = own 3 1 (.slice ao row.length co) row.length (row.map nv) * (codes C * (rdr Rb bs p1 low * F)) by ac_rfl)); clear h3 HC1
          go_wp2_with fail
          go_ret2
          refine ⟨_, rfl, ?_⟩
          have e : okL (Sum.inl (px ++ runP n b)) = row := HE.out.symm
          rw [e]
          exact H3.out
        · rw [if_neg hw2] at hres
          rw [if_pos (by omega)] at hst1
          have hpw2 : ¬ (px.length : Int) + n = width := by omega
          have hpw3 : (px ++ runP n b).length < width := by rw [hlen]; omega
          rw [← hlen] at hpi hst1
          rw [hpi] at hpw2
          have hrl3 := rel_len hst1
          obtain ⟨px2, hpx2⟩ : ∃ px2, px2 = px ++ runP n b := ⟨_, rfl⟩
          rw [← hpx2] at hpi hst1 hpw2 hpw3 hrl3 hb2 hres
          have hrow : row.length ≤ 100000 := by omega
          have HRL := Lib.hid hst1; have HB2 := Lib.hid hb2; have HRES := Lib.hid hres; have HG := Lib.hid hg
          have HRL3 := Lib.hid hrl3; have HOK := Lib.hid hok
          clear hrl hbp hst1 hb2 hlen hw2 hpx2 hres hg hrl3 hok hrl2 hrw
          go_wp2_with fail
          refine HC1.out.mono ?_
          rintro e w3 ⟨z, x, p1, rfl, ⟨hp1, hz, hx⟩, _, h3⟩
          simp only at hp1 hz hx
          subst hp1 hz hx
          have h3 := h3.perm (show _ = own 3 1 (.slice ao row.length co) row.length (row.map nv) * (codes C * (rdr Rb bs p1 low * F)) by ac_rfl)
          have HT := Lib.hid (toggle_any h3 Stb.of_own px2.length (by omega))
          clear h3 HC1
          go_wp2_with fail
          refine HT.out.mono ?_
          rintro e w4 ⟨v4, rfl, h4⟩
          obtain ⟨a4, c4, rfl⟩ := h4.reads.sub
          have h4 := (h4.perm (star_left_comm _ _ _)).right
          have H4 := Lib.hid h4; clear h4 HT
          go_wp2_with fail
          go_roundg g
          case measure => omega
          case rel => exact ⟨p1, px2, tog row px2.length, !b, a4, c4, rfl, rfl, rfl, by have := HG.out; have := HOK.out; omega, HOK.out.2.1, hpw3, HB2.out, HRL.out, HRL3.out, HRES.out, H4.out⟩
#print axioms writeRow_any
#print axioms readRow_any
end Go.Proofs.YtdjoigobmmaaiaaDoor
