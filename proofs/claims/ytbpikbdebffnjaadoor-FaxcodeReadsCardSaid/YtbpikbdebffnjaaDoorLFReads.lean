/-
  Layer 13: lengths and modes of any bits, one behind the other.
-/
import Derived.Test.YtbpikbdebffnjaaDoorFaxE
import Derived.Test.YtbpikbdebffnjaaDoorFaxV
import Derived.Test.YtbpikbdebffnjaaDoorRef02
import Derived.Below
namespace Go.Proofs.YtbpikbdebffnjaaDoor.freads
open Go.RowKit Go.Mz
set_option linter.unusedVariables false
set_option linter.unusedSimpArgs false

theorem tab_old {w : World} (h : Lib.TabIs Tryd.prog w "strings.asciiSpace" .u8 Lib.asciiSpaceTab) : Tab w (Mz.old w) := fun w' s => by
  have B : Below w.heap.size w w' := (s.perm ((emp_star _).symm.trans (star_comm _ _))).below
  unfold Lib.TabIs World.var? at h ⊢
  cases hg : Tryd.prog.globalNamed "strings.asciiSpace" with
  | none => rw [hg] at h; simp at h
  | some g =>
    rw [hg] at h
    simp only [Option.bind_some] at h ⊢
    have hlt : g < w.heap.size := by
      rcases Nat.lt_or_ge g w.heap.size with h' | h'
      · exact h'
      · simp [Array.getElem?_eq_none h'] at h
    rw [B.block g hlt]
    exact h
def bo (b : Bool) : Value := .bool b
theorem fxR_same {r : Nat × (Nat ⊕ Nat)} {z z' : Int} {x x' p p' : Nat} (h : FxR r z x p) (h' : FxR r z' x' p') : z = z' ∧ x = x' ∧ p = p' := by
  obtain ⟨k, r⟩ := r
  obtain ⟨a, b⟩ := h
  obtain ⟨a', b'⟩ := h'
  cases r with
  | inl n => exact ⟨b.1.trans b'.1.symm, b.2.trans b'.2.symm, a.trans a'.symm⟩
  | inr n => exact ⟨b.1.trans b'.1.symm, b.2.trans b'.2.symm, a.trans a'.symm⟩
theorem mdR_same {r : Nat × (Int ⊕ Nat)} {z z' : Int} {x x' p p' : Nat} (h : MdR r z x p) (h' : MdR r z' x' p') : z = z' ∧ x = x' ∧ p = p' := by
  obtain ⟨k, r⟩ := r
  obtain ⟨a, b⟩ := h
  obtain ⟨a', b'⟩ := h'
  cases r with
  | inl n => exact ⟨b.1.trans b'.1.symm, b.2.trans b'.2.symm, a.trans a'.symm⟩
  | inr n => exact ⟨b.1.trans b'.1.symm, b.2.trans b'.2.symm, a.trans a'.symm⟩

set_option maxRecDepth 100000 in
set_option maxHeartbeats 40000000 in
theorem walk (vb : Value) (bs : List UInt8) (vl : Value) (l : List Bool) (most : Int) (w : World) (hb : Reads w 1 vb bs.length (bs.map bv)) (hl : Reads w 1 vl l.length (l.map bo)) (htab : Lib.TabIs Tryd.prog w "strings.asciiSpace" .u8 Lib.asciiSpaceTab) :
    Calls Tryd.prog 5 #[vb, vl, .int .i64 most] w fun e w' => e = .returned (.bool true) ∧ Below w.heap.size w w' := by
  have HT := Lib.hid (tab_old htab); clear htab
  have HB := Lib.hid (Stb.of_old hb)
  have HL := Lib.hid (Stb.of_old hl)
  obtain ⟨a0, c0, rfl⟩ := hb.sub
  obtain ⟨a1, c1, rfl⟩ := hl.sub
  have hm := hb.len_le
  unfold maxLen at hm
  have hm1 := hl.len_le
  unfold maxLen at hm1
  clear hb hl
  have H := Lib.hid (St.init w)
  have fin : ∀ w', St w w' (Mz.old w) → Below w.heap.size w w' := fun w' h => (h.perm ((emp_star _).symm.trans (star_comm _ _))).below
  have FIN := Lib.hid fin; clear fin
  by_cases hl6 : 60 < bs.length
  · have hl7 : 60 < (bs.length : Int) := by omega
    go_enter Tryd.func5, Tryd.ntmps5
    go_wp2_with fail
    refine (lives13 H.out HT.out).mono ?_
    rintro e w1 ⟨rfl, h2⟩
    have H2 := Lib.hid h2; clear h2
    go_wp2_with fail
    refine (lives13 H2.out HT.out).mono ?_
    rintro e w2 ⟨rfl, h3⟩
    have H3 := Lib.hid h3; clear h3
    go_wp2_with fail
    go_ret
    exact ⟨rfl, FIN.out _ H3.out⟩
  have hl7 : ¬ 60 < (bs.length : Int) := by omega
  by_cases hn : 60 < l.length
  · have hn7 : 60 < (l.length : Int) := by omega
    go_enter Tryd.func5, Tryd.ntmps5
    go_wp2_with fail
    refine (lives13 H.out HT.out).mono ?_
    rintro e w1 ⟨rfl, h2⟩
    have H2 := Lib.hid h2; clear h2
    go_wp2_with fail
    refine (lives13 H2.out HT.out).mono ?_
    rintro e w2 ⟨rfl, h3⟩
    have H3 := Lib.hid h3; clear h3
    go_wp2_with fail
    go_ret
    exact ⟨rfl, FIN.out _ H3.out⟩
  have hn7 : ¬ 60 < (l.length : Int) := by omega
  go_enter Tryd.func5, Tryd.ntmps5
  go_wp2_with fail
  refine (lives13 H.out HT.out).mono ?_
  rintro e w1 ⟨rfl, h2⟩
  have H2 := Lib.hid h2; clear h2
  go_wp2_with fail
  refine (newCodes_any H2.out HT.out).mono ?_
  rintro e w2 ⟨C, rfl, h3⟩
  have H3 := Lib.hid h3; clear h3 H2
  go_wp2_with (with_reducible (refine stop_conv 44 9 rfl ?_))
  refine on (wpList_b2s Tryd.underlying44 Tryd.underlying5 Tryd.underlying9 rfl rfl (HB.out _ H3.out.right) ?_)
  go_wp2_with fail
  refine (of_any bs false H3.out (by omega)).mono ?_
  rintro e w3 ⟨rfl, h4⟩
  have htb := bit_bitsL false bs
  have htl : (bitsL false bs).length = 8 * bs.length := length_bitsL _ _
  obtain ⟨sb, hsb⟩ : ∃ sb : ByteArray, sb = ⟨(tx (bitsL false bs)).toArray⟩ := ⟨_, rfl⟩
  rw [← hsb]
  have HSB := Lib.hid hsb; have HTB := Lib.hid htb; have HTL := Lib.hid htl; clear hsb htb htl
  have H4 := Lib.hid h4; clear h4 H3
  go_wp2_with fail
  refine (newReader_any (low := false) H4.out (bs := bs) (v := .slice a0 bs.length c0) (fun w h => HB.out w h.right) (by omega)).mono ?_
  rintro e w4 ⟨Ra, rfl, h5⟩
  have H5 := Lib.hid h5; clear h5 H4
  go_wp2_with fail
  refine (newReader_any (low := false) H5.out (bs := bs) (v := .slice a0 bs.length c0) (fun w h => HB.out w h.right.right) (by omega)).mono ?_
  rintro e w5 ⟨Rb, rfl, h6⟩
  have h6 := h6.perm (show _ = codes C * (rdr Ra bs 0 false * (rdr Rb bs 0 false * Mz.old w)) by ac_rfl)
  have H6 := Lib.hid h6; clear h6 H5
  go_wp2_with fail
  go_loopw [11, 12, 48] (fun vp vq vi wr => ∃ (k p q : Nat), k ≤ l.length ∧ vi = .int .i64 k ∧ vp = .int .i64 p ∧ vq = .int .i64 q ∧ p ≤ 8 * bs.length ∧ q ≤ 8 * bs.length ∧ St w wr (codes C * (rdr Ra bs p false * (rdr Rb bs q false * Mz.old w)))) (fun _ _ vi _ => l.length - (intOf vi).toNat)
  case atStart => exact ⟨0, 0, 0, by omega, rfl, rfl, rfl, by omega, by omega, H6.out⟩
  case round =>
    clear H6
    obtain ⟨k, p, q, hk, rfl, rfl, rfl, hp, hq, hst⟩ := hrel
    by_cases hkn : k < l.length
    · obtain ⟨g1, o1, rfl, e1⟩ := (HL.out wr hst.right.right.right).at_ hkn
      rw [List.getElem?_map, List.getElem?_eq_getElem hkn] at e1
      simp only [Option.map_some, bo] at e1
      generalize l[k] = black at *
      have hkl : (k : Int) < l.length := by omega
      have HP := Lib.hid hp; have HQ := Lib.hid hq; clear hp hq
      have HST := Lib.hid hst; clear hst
      go_wp2_with fail
      refine (cread_any HST.out most black (by omega) HP.out).mono ?_
      rintro e w6 ⟨z, x, p1, rfl, hfx, hp1, h7⟩
      have HF := Lib.hid hfx; have HP1 := Lib.hid hp1; clear hfx hp1
      have H7 := Lib.hid h7; clear h7 HST
      go_wp2_with fail
      refine (rwords13_any H7.out black).mono ?_
      rintro e w7 ⟨v7, rfl, h8⟩
      obtain ⟨a7, c7, rfl⟩ := h8.reads.sub
      have HRR := Lib.hid (rread13_any black HTB.out (by rw [HTL.out]; omega) (p := p) (by rw [HTL.out]; exact HP.out) most h8.reads HSB.out)
      have H8 := Lib.hid h8.right; clear h8 H7
      go_wp2_with fail
      refine HRR.out.mono ?_
      rintro e w8 ⟨z', x', p1', rfl, hfx', _, rfl⟩
      obtain ⟨ez, ex, ep⟩ := fxR_same HF.out hfx'
      subst ez ex ep
      have h9 := H8.out.perm (show _ = codes C * (rdr Rb bs q false * (rdr Ra bs p1 false * Mz.old w)) by ac_rfl)
      have H9 := Lib.hid h9; clear h9 H8 HRR hfx' HF
      go_wp2_with fail
      refine (creadMode_any H9.out (by omega) HQ.out).mono ?_
      rintro e w9 ⟨y, xm, q1, rfl, hmd, hq1, h10⟩
      have HF := Lib.hid hmd; have HQ1 := Lib.hid hq1; clear hmd hq1
      have H10 := Lib.hid h10; clear h10 H9
      go_wp2_with fail
      refine (rreadMode13_any H10.out HTB.out (by rw [HTL.out]; omega) (p := q) (by rw [HTL.out]; exact HQ.out) HSB.out).mono ?_
      rintro e w10 ⟨y', xm', q1', rfl, hmd', _, h11⟩
      obtain ⟨ez, ex, ep⟩ := mdR_same HF.out hmd'
      subst ez ex ep
      have h12 := h11.perm (show _ = codes C * (rdr Ra bs p1 false * (rdr Rb bs q1 false * Mz.old w)) by ac_rfl)
      have HA1 := Lib.hid (at_any (rdr_at (h12.perm (star_left_comm _ _ _))))
      have HA2 := Lib.hid (at_any (rdr_at (h12.perm (show _ = rdr Rb bs q1 false * (codes C * (rdr Ra bs p1 false * Mz.old w)) by ac_rfl))))
      have H12 := Lib.hid h12; clear h11 h12 H10 hmd' HF
      have hp1b : p1 ≤ 480 := by have := HP1.out; omega
      have hq1b : q1 ≤ 480 := by have := HQ1.out; omega
      go_wp2_with fail
      refine HA1.out.mono ?_
      rintro e w11 ⟨rfl, rfl⟩
      go_wp2_with fail
      refine HA2.out.mono ?_
      rintro e w12 ⟨rfl, rfl⟩
      go_wp2_with fail
      exact ⟨⟨k + 1, p1, q1, by omega, by go_num, rfl, rfl, HP1.out, HQ1.out, H12.out⟩, by simp [intOf]; omega⟩
    · obtain rfl : k = l.length := by omega
      have HST := Lib.hid hst; clear hst
      go_wp2_with fail
      go_ret
      exact ⟨rfl, FIN.out _ HST.out.right.right.right⟩
/-- A slice of truths that came in. -/
theorem bools_in {H : Type} {enc : TypeId × Value → H} {w : World} {base : Nat} {spare : Nat → Bool} {held : Bool} {fuel : Nat} {a : Option Addr} {len cap : Nat} {x : DataW H × List MemPlace}
    (h : DataW.trod enc Tryd.prog w base spare held fuel 49 (Value.slice a len cap).cells.toList = some x) :
    ∃ l : List Bool, l.length = len ∧ Reads w 1 (.slice a len cap) len (l.map bo) ∧ True := by
  rcases Deep.open_slice Tryd.underlying49 h with ⟨h0, _⟩ | ⟨b, l, c, m, n, D, Pl, hcs, _, hl, hm, hmm, _, hi⟩
  · simp [Value.cells] at h0
    obtain ⟨rfl, rfl, rfl⟩ := h0
    exact ⟨[], rfl, ⟨rfl, .inl ⟨rfl, rfl⟩⟩, trivial⟩
  · simp [Value.cells] at hcs
    obtain ⟨rfl, rfl, rfl⟩ := hcs
    have hC : Tryd.prog.cellsOf 4 = 1 := by kernel_rfl
    obtain ⟨l, h1, h2, hx⟩ := reads_of_each (α := Bool) (fun b => [bo b]) (m := 1) (by decide) (fun _ => rfl) hl hm (fun _ => True) (fun i hil => by
      obtain ⟨cs, hc, ht⟩ := hi i (by rw [hmm]; split <;> omega)
      rw [hC] at hc
      obtain ⟨_, hlen, hat⟩ := World.cells?_some hc
      obtain ⟨z, rfl, _⟩ := DataW.trod_bool Tryd.underlying4 ht
      refine ⟨z, fun j u hu => ?_, trivial⟩
      cases j with
      | zero =>
        cases hu
        have := hat 0 (by decide)
        rw [Deep.add_add] at this
        exact this
      | succ j => simp at hu)
    have e : l.flatMap (fun b => [bo b]) = l.map bo := by
      clear h1 h2 hx
      induction l with
      | nil => rfl
      | cons b l ih => rw [List.flatMap_cons, ih]; rfl
    rw [e] at h2
    exact ⟨l, h1, h2, trivial⟩
#print axioms walk
#print axioms bools_in
end Go.Proofs.YtbpikbdebffnjaaDoor.freads
