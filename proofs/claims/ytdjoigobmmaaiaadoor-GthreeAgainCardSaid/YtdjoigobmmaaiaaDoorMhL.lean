/-
  Layer 14 (mh): the line that is read by the row above it.
-/
import Derived.Test.YtdjoigobmmaaiaaDoorMh
namespace Go.Proofs.YtdjoigobmmaaiaaDoor
open Go.RowKit Go.Mz
set_option linter.unusedVariables false
set_option linter.unusedSimpArgs false
set_option maxRecDepth 100000

def lin (L : Nat) (v : Value) (at' : Int) (b : Bool) (width : Nat) : SProp := blk L (.cells #[v, .int .i64 at', .bool b, .int .i64 (width : Int)] 116)
def goTo (row : List Nat) (x width : Nat) : List Nat := if x < width then tog row x else row
theorem goTo_len (row : List Nat) (x width : Nat) : (goTo row x width).length ≤ row.length + 1 := by
  rw [goTo]; split
  · exact tog_len _ _
  · omega

set_option maxHeartbeats 1000000 in
theorem to_any {w0 w : World} {F : SProp} {L : Nat} {v : Value} {at' : Int} {b : Bool} {width : Nat} {row : List Nat} (h : St w0 w (lin L v at' b width * (own 3 1 v row.length (row.map nv) * F))) (x : Nat) (hl : row.length ≤ 1000000) :
    Calls Tryd.prog 68 #[.pointer (some ⟨L, 0, none⟩), .int .i64 (x : Int)] w fun e w' => e = .returned (.tuple #[]) ∧ ∃ v', St w0 w' (lin L v' (x : Int) b width * (own 3 1 v' (goTo row x width).length ((goTo row x width).map nv) * F)) := by
  have h : St w0 w (blk L (.cells #[v, .int .i64 at', .bool b, .int .i64 (width : Int)] 116) * (own 3 1 v row.length (row.map nv) * F)) := h
  obtain ⟨a, c, rfl⟩ := h.right.reads.sub
  by_cases hx : x < width
  · have hxi : (x : Int) < width := by omega
    have e : goTo row x width = tog row x := if_pos hx
    rw [e]; clear e hx
    have HT := Lib.hid (toggle_any h (Stb.of_own.more _) x hl)
    have c0 := h.cell 0 rfl
    have c3 := h.cell 3 rfl
    have H := Lib.hid h; clear h
    go_enter Tryd.func68, Tryd.ntmps68
    go_wp2_with (first | (go_at_call 79; refine HT.out.mono ?_; rintro e w2 ⟨v2, rfl, h2⟩; obtain ⟨a2, c2, rfl⟩ := h2.reads.sub; have h3 := (h2.perm (show _ = own 3 1 (.slice a row.length c) row.length (row.map nv) * (blk L (.cells #[.slice a row.length c, .int .i64 at', .bool b, .int .i64 (width : Int)] 116) * (own 3 1 (.slice a2 (tog row x).length c2) (tog row x).length ((tog row x).map nv) * F)) by ac_rfl)).right; clear h2; have f0 := h3.free 0; have f1 := h3.free 1; have d0 := h3.cell 0 rfl; have d1 := h3.cell 1 rfl; have H3 := Lib.hid h3; clear h3))
    go_end0
    exact ⟨rfl, _, (H3.out.set 0 _).set 1 _⟩
  · have hxi : ¬ (x : Int) < width := by omega
    have e : goTo row x width = row := if_neg hx
    rw [e]; clear e hx
    have c3 := h.cell 3 rfl
    have c1 := h.cell 1 rfl
    have f1 := h.free 1
    have H := Lib.hid h; clear h
    go_enter Tryd.func68, Tryd.ntmps68
    go_wp2_with fail
    go_end0
    exact ⟨rfl, _, H.out.set 1 _⟩

/-- Lengths of given colours. -/
def twoF (t : List Nat) (width : Nat) : List Bool → Nat → List Nat → Nat × (List Nat ⊕ Nat)
  | [], k, px => (k, .inl px)
  | b :: r, k, px =>
    match readL b t ((width - px.length : Nat) : Int) k with
    | (k1, .inr e) => (k1, .inr e)
    | (k1, .inl n) => twoF t width r k1 (px ++ runP n b)
theorem two_eq (t : List Nat) (width k : Nat) (px : List Nat) (b : Bool) : two t width k px b = twoF t width [b, !b] k px := by
  rw [two, twoF]
  cases readL b t ((width - px.length : Nat) : Int) k with
  | mk k1 y =>
    cases y with
    | inr e => rfl
    | inl n =>
      simp only [twoF, List.length_append, length_runP]
      cases readL (!b) t ((width - (px.length + n) : Nat) : Int) k1 with
      | mk k2 z => cases z <;> rfl
theorem twoF_bd {t : List Nat} {width : Nat} : ∀ (l : List Bool) (k : Nat) (px : List Nat) (r : Nat × (List Nat ⊕ Nat)), twoF t width l k px = r → k ≤ t.length → px.length ≤ width → Bit px →
    r.1 ≤ t.length ∧ (∀ q, r.2 = .inl q → k ≤ r.1 ∧ px.length ≤ q.length ∧ q.length ≤ width ∧ Bit q) ∧ ∀ e, r.2 = .inr e → e ≠ 0 ∧ e < 100 := by
  intro l
  induction l with
  | nil =>
    intro k px r h hk hp hb
    rw [twoF] at h; subst h
    exact ⟨hk, fun q h => by cases h; exact ⟨Nat.le_refl _, Nat.le_refl _, hp, hb⟩, fun e h => by cases h⟩
  | cons b l ih =>
    intro k px r h hk hp hb
    rw [twoF] at h
    cases hr : readL b t ((width - px.length : Nat) : Int) k with
    | mk k1 y =>
      rw [hr] at h
      cases y with
      | inr e =>
        have := readL_er hr hk
        subst h
        exact ⟨this.1, (fun q h => by cases h), (fun e h => by cases h; exact ⟨this.2.1, this.2.2⟩)⟩
      | inl n =>
        have h1 := readL_ok hr hk
        have h2 := ih _ _ _ h h1.2.1 (by simp; omega) (hb.append (bit_runP _ _))
        refine ⟨h2.1, fun q h => ?_, h2.2.2⟩
        have := h2.2.1 q h
        simp at this
        exact ⟨by omega, by omega, this.2.2.1, this.2.2.2⟩

set_option maxHeartbeats 1000000 in
theorem two_any {w0 w : World} {F : SProp} {L C Rb : Nat} {v : Value} {at' : Int} {b : Bool} {width : Nat} {row px : List Nat} {bs : List UInt8} {p : Nat} {low : Bool} (h : St w0 w (lin L v at' b width * (own 3 1 v row.length (row.map nv) * (codes C * (rdr Rb bs p low * F)))))
    (hat : max at' 0 = px.length) (hpx : px.length ≤ width) (hw : width ≤ 32768) (hb : Bit px) (hr : Rel row px b width) (hl : bs.length ≤ 100000000) (hp : p ≤ 8 * bs.length) :
    Calls Tryd.prog 67 #[.pointer (some ⟨L, 0, none⟩), .pointer (some ⟨Rb, 0, none⟩), .pointer (some ⟨C, 0, none⟩)] w fun e w' => e = .returned (.int .i64 (erN (two (bitsL low bs) width p px b).2 : Nat)) ∧
      ∃ v' row' at2, St w0 w' (lin L v' at2 b width * (own 3 1 v' row'.length (row'.map nv) * (codes C * (rdr Rb bs (two (bitsL low bs) width p px b).1 low * F)))) ∧ ∀ px2, (two (bitsL low bs) width p px b).2 = .inl px2 → Rel row' px2 b width ∧ at2 = px2.length := by
  have hbl : (bitsL low bs).length = 8 * bs.length := length_bitsL _ _
  obtain ⟨res, hres⟩ : ∃ res, twoF (bitsL low bs) width [b, !b] p px = res := ⟨_, rfl⟩
  rw [two_eq, hres]
  have HRES := Lib.hid hres; clear hres
  have HBL := Lib.hid hbl; clear hbl
  have h : St w0 w (blk L (.cells #[v, .int .i64 at', .bool b, .int .i64 (width : Int)] 116) * (own 3 1 v row.length (row.map nv) * (codes C * (rdr Rb bs p low * F)))) := h
  have c1 := h.cell 1 rfl
  have c2 := h.cell 2 rfl
  have HAT := Lib.hid hat; clear hat
  have hl2 := h.lit #[.bool b, .bool (!b)] 4 2 rfl (by decide)
  have HL2 := Lib.hid hl2
  have H := Lib.hid h; clear h hl2
  go_enter Tryd.func67, Tryd.ntmps67
  go_upto_region 2 with (fail)
  go_region
  rw [HAT.out]
  have HRL := Lib.hid hr; have HB := Lib.hid hb; clear hr hb HAT
  have hrow := rel_len HRL.out
  have HL3 := Lib.hid (show St w0 _ (own 4 1 (.slice (some ⟨w.heap.size, 0, none⟩) 2 2) 2 [.bool b, .bool (!b)] * (lin L v at' b width * (own 3 1 v row.length (row.map nv) * (codes C * (rdr Rb bs p low * F))))) from HL2.out.drew)
  clear HL2 H
  generalize w.heap.size = gB at *
  go_wp2_with fail
  go_loopw [7, 28] (fun va vi wr => ∃ (i : Nat) (px2 row2 : List Nat) (v2 : Value) (at2 : Int) (k2 : Nat), i ≤ 2 ∧ va = .int .i64 (px2.length : Nat) ∧ vi = .int .i64 i ∧ twoF (bitsL low bs) width ([b, !b].drop i) k2 px2 = res ∧ Rel row2 px2 ([b, !b].getD i b) width ∧ Bit px2 ∧ px2.length ≤ width ∧ k2 ≤ 8 * bs.length ∧ (i ≠ 0 → at2 = px2.length) ∧ St w0 wr (own 4 1 (.slice (some ⟨gB, 0, none⟩) 2 2) 2 [.bool b, .bool (!b)] * (lin L v2 at2 b width * (own 3 1 v2 row2.length (row2.map nv) * (codes C * (rdr Rb bs k2 low * F)))))) (fun _ vi _ => 2 - (intOf vi).toNat)
  case atStart => exact ⟨0, px, row, v, at', p, by omega, rfl, rfl, HRES.out, HRL.out, HB.out, hpx, hp, by omega, HL3.out⟩
  case round =>
    clear HL3 HRES HRL HB c1 c2 hrow hpx hp
    obtain ⟨i, px2, row2, v2, at2, k2, hi, rfl, rfl, hall, hrl, hb2, hpx2, hk2, hat2, hst⟩ := hrel
    by_cases hi2 : i < 2
    · obtain ⟨cc, hcc⟩ : ∃ cc, [b, !b].drop i = cc :: [b, !b].drop (i + 1) ∧ [b, !b].getD i b = cc ∧ [b, !b].getD (i + 1) b = !cc ∧ [Value.bool b, Value.bool (!b)][i]? = some (Value.bool cc) := by
        rcases Nat.lt_succ_iff_lt_or_eq.1 hi2 with h | h
        · obtain rfl : i = 0 := by omega
          exact ⟨b, rfl, rfl, rfl, rfl⟩
        · obtain rfl : i = 1 := h
          exact ⟨!b, rfl, rfl, by cases b <;> rfl, rfl⟩
      obtain ⟨e1, e2, e3, e4⟩ := hcc
      rw [e1, twoF] at hall
      rw [e2] at hrl
      have y0 : wr.cell? ⟨gB, i, none⟩ = some (.bool cc) := by
        rw [hst.own_cell e4]
      have hst2 := (hst.perm (star_left_comm _ _ _))
      have c3 : wr.cell? ⟨L, 3, none⟩ = some (.int .i64 (width : Int)) := St.cell hst2 3 rfl
      have hsub : (width : Int) - (px2.length : Nat) = ((width - px2.length : Nat) : Int) := by omega
      have C1 := cread_any (hst.perm (show _ = codes C * (rdr Rb bs k2 low * (own 4 1 (.slice (some ⟨gB, 0, none⟩) 2 2) 2 [.bool b, .bool (!b)] * (lin L v2 at2 b width * (own 3 1 v2 row2.length (row2.map nv) * F)))) by ac_rfl)) ((width - px2.length : Nat) : Int) cc hl hk2
      clear hst hst2 e1 e2 e4
      obtain ⟨d, hd⟩ : ∃ d, d = width - px2.length := ⟨_, rfl⟩
      rw [← hd] at hsub hall C1
      have HD := Lib.hid hd; clear hd
      cases hr : readL cc (bitsL low bs) (d : Int) k2 with
      | mk k y =>
        rw [hr] at hall C1
        have HC1 := Lib.hid C1; clear C1
        cases y with
        | inr er =>
          have hok := readL_er hr (by rw [HBL.out]; exact hk2)
          simp only at hall
          subst hall
          have HOK := Lib.hid hok
          clear hr hok hrl hb2 hat2 e3
          go_wp2_with fail
          refine HC1.out.mono ?_
          rintro e w3 ⟨z, x, p1, rfl, ⟨hp1, hz, hx⟩, _, h3⟩
          simp only at hp1 hz hx
          subst hp1 hz hx
          have hx0 : ¬ (x : Int) = 0 := by have := HOK.out.2.1; omega
          have h3 := (h3.perm (show _ = own 4 1 (.slice (some ⟨gB, 0, none⟩) 2 2) 2 [.bool b, .bool (!b)] * (lin L v2 at2 b width * (own 3 1 v2 row2.length (row2.map nv) * (codes C * (rdr Rb bs p1 low * F)))) by ac_rfl)).right
          have H3 := Lib.hid h3; clear h3 HC1
          go_wp2_with fail
          go_ret
          exact ⟨rfl, v2, row2, at2, H3.out⟩
        | inl n =>
          have hok := readL_ok hr (by rw [HBL.out]; exact hk2)
          rw [HBL.out] at hok
          simp only at hall
          clear hr
          have hpn : px2.length + n ≤ width := by have := HD.out; omega
          have hst1 : Rel (goTo row2 (px2.length + n) width) (px2 ++ runP n cc) (!cc) width := rel_step (n := n) hb2 hrl hpn
          rw [← e3] at hst1
          have hb3 := hb2.append (bit_runP n cc)
          have hrow := rel_len hrl
          have hlen : (px2 ++ runP n cc).length = px2.length + n := by simp
          have hr6 : row2.length ≤ 1000000 := by omega
          rw [← hlen] at hst1 hpn
          have hpi : (px2.length : Int) + n = ((px2 ++ runP n cc).length : Nat) := by omega
          generalize px2 ++ runP n cc = px3 at *
          have HH := Lib.hid (⟨hall, hst1, hb3, hok, hpn⟩ : _ ∧ _ ∧ _ ∧ _ ∧ _)
          clear hall hst1 hb3 hlen hrl hb2 e3 hat2 hok hrow
          go_wp2_with fail
          refine HC1.out.mono ?_
          rintro e w3 ⟨z, x, p1, rfl, ⟨hp1, hz, hx⟩, _, h3⟩
          simp only at hp1 hz hx
          subst hp1 hz hx
          have HTO := Lib.hid (to_any (h3.perm (show _ = lin L v2 at2 b width * (own 3 1 v2 row2.length (row2.map nv) * (own 4 1 (.slice (some ⟨gB, 0, none⟩) 2 2) 2 [.bool b, .bool (!b)] * (codes C * (rdr Rb bs p1 low * F)))) by ac_rfl)) px3.length hr6)
          clear h3 HC1
          go_wp2_with fail
          refine HTO.out.mono ?_
          rintro e w4 ⟨rfl, v4, h4⟩
          have H4 := Lib.hid h4; clear h4 HTO
          go_wp2_with fail
          obtain ⟨g1, g2, g3, g5, g6⟩ := HH.out
          exact ⟨⟨i + 1, px3, goTo row2 px3.length width, v4, _, _, by omega, rfl, by go_num, g1, g2, g3, g6, g5.2.1, fun _ => rfl, H4.out.perm (by ac_rfl)⟩, by simp [intOf]; omega⟩
    · obtain rfl : i = 2 := by omega
      have hst2 := hst.right
      have hall : (k2, Sum.inl px2) = res := hall
      subst hall
      have HST := Lib.hid (⟨hst2, hrl, hat2 (by omega)⟩ : _ ∧ _ ∧ _); clear hst hst2 hrl hat2 hb2
      go_wp2_with fail
      go_ret
      obtain ⟨s1, s2, rfl⟩ := HST.out
      exact ⟨rfl, v2, row2, s1, s2⟩
end Go.Proofs.YtdjoigobmmaaiaaDoor
