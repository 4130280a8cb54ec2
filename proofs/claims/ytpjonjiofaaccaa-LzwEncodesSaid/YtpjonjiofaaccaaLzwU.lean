/-
  Layer 5: the text of a code (package lzw).
-/
import Derived.Test.YtpjonjiofaaccaaLzwS
import Derived.Test.YtpjonjiofaaccaaWr2
import Derived.Test.YtpjonjiofaaccaaSep2
namespace Go.Proofs.Ytpjonjiofaaccaa
open Go.RowKit Go.Mz
set_option linter.unusedVariables false
set_option linter.unusedSimpArgs false

set_option maxRecDepth 100000 in
set_option maxHeartbeats 4000000 in
theorem text_walk {w0 w : World} {B : Nat} {va vl vg : Value} {L : List Txt} {ah : List Int} {la : List UInt8} {lo : List Nat} {F : SProp}
    (h : StL w0 w (tblL B L.length va vl vg ah la lo F)) (hT : TabOk L ah la lo) (hn : L.length ≤ 100000) (j : Nat) (t : Txt) (ht : L[j]? = some t) :
    Calls Try.prog 32 #[.pointer (some ⟨B, 0, none⟩), .int .i64 j] w fun e w' => ∃ v, e = .returned v ∧
      StL w0 w' (own 5 1 v t.length (t.map bv) :: tblL B L.length va vl vg ah la lo F) := by
  obtain ⟨a1, k1, rfl⟩ := (h.reads (i := 0) rfl).sub
  obtain ⟨a2, k2, rfl⟩ := (h.reads (i := 1) rfl).sub
  obtain ⟨a3, k3, rfl⟩ := (h.reads (i := 2) rfl).sub
  have hjl : j < L.length := (List.getElem?_eq_some_iff.1 ht).1
  obtain ⟨hlo, htl, _⟩ := hT.2.2.2 j t ht
  have c2 := h.cell (i := 3) rfl 2 rfl
  obtain ⟨g, off, rfl, hc⟩ := (h.reads (i := 2) rfl).at_ hjl
  have hc' : (lo.map nv)[j]? = some (.int .i64 (t.length : Int)) := by simp [hlo, nv]
  rw [hc'] at hc
  clear hc' hlo
  have T := elemBytes
  have HT := Lib.hid hT; clear hT
  have HTT := Lib.hid ht; clear ht
  have H := Lib.hid h; clear h
  have hj0 : (0 : Int) ≤ j := by omega
  have hj1 : (j : Int) < L.length := by omega
  generalize hN : L.length = N at *
  generalize hM : t.length = M at *
  have HN := Lib.hid hN; clear hN
  have HM := Lib.hid hM; clear hM
  go_enter Try.func32, Try.ntmps32
  go_wp2_with (at_make; apply stop)
  refine on (wpList_make_sep T rfl _ _ rfl M rfl rfl rfl rfl H.out (by unfold maxLen; omega) (by omega) ?_)
  intro v' w1 h1
  obtain ⟨a', cap', rfl⟩ := h1.reads.sub
  have h1 : StL w0 w1 (own 5 1 (.slice a' M cap') M ((List.replicate M (0 : UInt8) ++ t.drop M).map bv) :: tblL B N (.slice a1 N k1) (.slice a2 N k2) (.slice (some ⟨g, off, none⟩) N k3) ah la lo F) := by
    have e : (madeCells (Value.int .u8 0).cells (M * 1)).toList = (List.replicate M (0 : UInt8) ++ t.drop M).map bv := by
      rw [Nat.mul_one, ← HM.out, List.drop_length]
      simp [Value.cells, toList_madeCells_one, bv]
    rw [← e]
    exact h1
  have H1 := Lib.hid h1; clear h1 H
  go_wp2_with fail
  go_loopw [6, 1] (fun i cd wr => ∃ m : Nat, m ≤ M ∧ i = .int .i64 ((m : Int) - 1) ∧ (m = 0 ∧ cd = .int .i64 (-1) ∨ 0 < m ∧ ∃ q : Nat, q < N ∧ cd = .int .i64 q ∧ L[q]? = some (t.take m)) ∧
      StL w0 wr (own 5 1 (.slice a' M cap') M ((List.replicate m (0 : UInt8) ++ t.drop m).map bv) :: tblL B N (.slice a1 N k1) (.slice a2 N k2) (.slice (some ⟨g, off, none⟩) N k3) ah la lo F)) (fun i _ _ => (intOf i + 1).toNat)
  case atStart =>
    refine ⟨M, Nat.le_refl _, by go_num, .inr ⟨?_, j, by omega, rfl, ?_⟩, H1.out⟩
    · have := HT.out.ne HTT.out
      rw [← HM.out]
      exact List.length_pos_iff.2 this
    · rw [← HM.out, List.take_length]; exact HTT.out
  case round =>
    obtain ⟨m, hm, rfl, hcd, hst⟩ := hrel
    rcases hcd with ⟨rfl, rfl⟩ | ⟨hm0, q, hq, rfl, hLq⟩
    · have HS := Lib.hid hst; clear hst
      go_wp2_with fail
      go_ret
      exact ⟨_, rfl, by
        have := HS.out
        simpa [HM.out] using this⟩
    · have hmw0 : IntKind.i64.wrap ((m : Int) - 1 - 1) = ((m - 1 : Nat) : Int) - 1 := by
        have : M ≤ 100000 := by omega
        rw [IntWalk.i64_in _ (by omega)]; omega
      have hi0 : (0 : Int) ≤ (m : Int) - 1 := by omega
      have hi1 : (m : Int) - 1 < M := by omega
      have hi2 : ((m : Int) - 1).toNat = m - 1 := by omega
      have hq0 : (0 : Int) ≤ q := by omega
      have hq1 : (q : Int) < N := by omega
      obtain ⟨_, _, c, hla, hor⟩ := HT.out.2.2.2 q _ hLq
      have hmt : m - 1 < t.length := by have := HM.out; omega
      have hlen : (t.take m).length = m := by rw [List.length_take, HM.out]; omega
      have hnx : ∃ x : Int, ah[q]? = some x ∧ t[m-1]? = some c ∧ (m = 1 ∧ x = -1 ∨ 1 < m ∧ ∃ p : Nat, p < N ∧ x = p ∧ L[p]? = some (t.take (m - 1))) := by
        rcases hor with ⟨e1, e2⟩ | ⟨p, u, e1, e2, e3, e4, e5⟩
        · have h1 : m = 1 := by rw [e1] at hlen; simpa using hlen.symm
          subst h1
          refine ⟨-1, e2, ?_, .inl ⟨rfl, rfl⟩⟩
          have : (t.take 1)[0]? = some c := by rw [e1]; rfl
          rw [List.getElem?_take] at this
          simpa using this
        · have hu : u.length = m - 1 := by rw [e4] at hlen; simp at hlen; omega
          have hu0 : 0 < u.length := List.length_pos_iff.2 e3
          refine ⟨p, e5, ?_, .inr ⟨by omega, p, ?_, rfl, ?_⟩⟩
          · have : (t.take m)[m-1]? = some c := by rw [e4, ← hu]; simp
            rw [List.getElem?_take, if_pos (by omega)] at this
            exact this
          · rw [← HN.out]; exact (List.getElem?_eq_some_iff.1 e2).1
          · rw [e2]
            have : (t.take m).take (m - 1) = t.take (m - 1) := by rw [List.take_take]; congr 1; omega
            rw [← this, e4, ← hu]; simp
      clear hor
      obtain ⟨x, hx, htc, hxor⟩ := hnx
      obtain ⟨g', rfl⟩ := own_at (show St w0 wr (own 5 1 (.slice a' M cap') M _ * _) from hst) (by omega)
      have d0 := hst.cell (i := 4) rfl 0 rfl
      have d1 := hst.cell (i := 4) rfl 1 rfl
      obtain ⟨b1, o1, rfl, e1⟩ := (hst.reads (i := 1) rfl).at_ hq
      obtain ⟨b2, o2, rfl, e2⟩ := (hst.reads (i := 2) rfl).at_ hq
      have e1' : (ah.map iv)[q]? = some (.int .i64 x) := by simp [hx, iv]
      have e2' : (la.map bv)[q]? = some (.int .u8 (c.toNat : Int)) := by simp [hla, bv]
      rw [e1'] at e1
      rw [e2'] at e2
      clear e1' e2'
      have hfz := St.own_free (show St w0 wr (own 5 1 (.slice (some ⟨g', 0, none⟩) M cap') M _ * _) from hst) (m - 1)
      have hcc := St.own_cell (show St w0 wr (own 5 1 (.slice (some ⟨g', 0, none⟩) M cap') M _ * _) from hst) (i := m - 1) (u := .int .u8 0) (by
        rw [List.getElem?_map, List.getElem?_append_left (by simp; omega), List.getElem?_replicate, if_pos (by omega)]; rfl)
      have hset : StL w0 (wr.setCell ⟨g', m - 1, none⟩ (.int .u8 (c.toNat : Int))) (own 5 1 (.slice (some ⟨g', 0, none⟩) M cap') M ((List.replicate (m - 1) (0 : UInt8) ++ t.drop (m - 1)).map bv) :: tblL B N (.slice (some ⟨b1, o1, none⟩) N k1) (.slice (some ⟨b2, o2, none⟩) N k2) (.slice (some ⟨g, off, none⟩) N k3) ah la lo F) := by
        have e : ((List.replicate m (0 : UInt8) ++ t.drop m).map bv).set (m - 1) (.int .u8 (c.toNat : Int)) = (List.replicate (m - 1) (0 : UInt8) ++ t.drop (m - 1)).map bv := by
          have e : (.int .u8 (c.toNat : Int) : Value) = bv c := rfl
          rw [e, ← List.map_set]
          congr 1
          rw [List.set_append_left _ _ (by simp; omega)]
          have e2 : t.drop (m - 1) = c :: t.drop m := by
            rw [List.drop_eq_getElem_cons hmt]
            have : t[m-1] = c := by
              rw [List.getElem?_eq_getElem hmt] at htc; simpa using htc
            rw [this, Nat.sub_add_cancel hm0]
          rw [e2]
          have e3 : (List.replicate m (0 : UInt8)) = List.replicate (m - 1) 0 ++ [0] := by
            rw [← List.replicate_succ', Nat.sub_add_cancel hm0]
          rw [e3, List.set_append_right _ _ (by simp), List.length_replicate, Nat.sub_self]
          simp
        rw [← e]
        exact St.own_set (show St w0 wr (own 5 1 (.slice (some ⟨g', 0, none⟩) M cap') M _ * _) from hst) (m - 1) _
      have n1 : (wr.setCell ⟨g', m - 1, none⟩ (.int .u8 (c.toNat : Int))).cell? ⟨B, 0, none⟩ = some (.slice (some ⟨b1, o1, none⟩) N k1) := hset.cell (i := 4) rfl 0 rfl
      have n2 : (wr.setCell ⟨g', m - 1, none⟩ (.int .u8 (c.toNat : Int))).cell? ⟨b1, o1 + q, none⟩ = some (.int .i64 x) := by
        obtain ⟨b1', o1', he, e⟩ := (hset.reads (i := 1) rfl).at_ hq
        cases he
        rw [e]; simp [hx, iv]
      have HSET := Lib.hid hset; clear hset hst
      have hmw : IntKind.i64.wrap ((m : Int) - 1 - 1) = ((m - 1 : Nat) : Int) - 1 := hmw0
      generalize hcn : c.toNat = cn at *
      have HX := Lib.hid hxor; clear hxor
      clear hcn hla hlen hLq hx htc
      go_wp2_with fail
      refine ⟨⟨m - 1, Nat.le_trans (Nat.sub_le _ _) hm, rfl, ?_, HSET.out⟩, by simp [intOf]; omega⟩
      rcases HX.out with ⟨rfl, rfl⟩ | ⟨h1, p, h2, rfl, h3⟩
      · exact .inl ⟨rfl, rfl⟩
      · exact .inr ⟨by omega, p, h2, rfl, h3⟩
#print axioms text_walk
end Go.Proofs.Ytpjonjiofaaccaa
