/-
  Layer 6 (huff): what the next word means.
-/
import Derived.Test.YtljdohfdafnnaaaDoorHufBI
import Derived.Test.YtljdohfdafnnaaaDoorRd
import Derived.Deep.LoopGhost
import Derived.Deep.QuietTactic
import Derived.BigQuiet
namespace Go.Proofs.YtljdohfdafnnaaaDoor
open Go.RowKit Go.Mz
set_option linter.unusedVariables false
set_option linter.unusedSimpArgs false
set_option maxRecDepth 100000

def readResI (ms : List Int) : Nat ⊕ Nat → Value
  | .inl m => .tuple #[iv (ms.getD m 0), .int .i64 0]
  | .inr er => .tuple #[iv 0, .int .i64 er]
set_option maxHeartbeats 40000000 in
theorem read_anyI {w0 w : World} {F : SProp} {B Rb : Nat} {N : List Nd} {ms : List Int} {ws : List (List UInt8)} {bs : List UInt8} {p : Nat} {low : Bool} (h : St w0 w (bookI B N ms ws * (rdr Rb bs p low * F))) (hN : NOk N) (hM : MOk N ms.length) (hp : p ≤ 8 * bs.length)
    {p' : Nat} {res : Nat ⊕ Nat} (hR : readN N bs low p = (p', res)) :
    Calls Tryd.prog 75 #[.pointer (some ⟨B, 0, none⟩), .pointer (some ⟨Rb, 0, none⟩)] w fun e w' =>
      e = .returned (readResI ms res) ∧ St w0 w' (bookI B N ms ws * (rdr Rb bs p' low * F)) := by
  obtain ⟨⟨vn, vm, vw⟩, h⟩ := h.ex_l
  simp only at h
  have hback : ∀ w' p', St w0 w' (rdr Rb bs p' low * (blk B (.cells #[vn, vm, vw] 121) * (own 116 3 vn N.length (flatN N) * (own 3 1 vm ms.length (ms.map iv) * (own 9 1 vw ws.length (ws.map svB) * F))))) → St w0 w' (bookI B N ms ws * (rdr Rb bs p' low * F)) :=
    fun w' p' h => St.mk_ex_l (vn, vm, vw) (h.perm (by ac_rfl))
  have HBACK := Lib.hid hback; clear hback
  have h1 : St w0 w (rdr Rb bs p low * (blk B (.cells #[vn, vm, vw] 121) * (own 116 3 vn N.length (flatN N) * (own 3 1 vm ms.length (ms.map iv) * (own 9 1 vw ws.length (ws.map svB) * F))))) := h.perm (by ac_rfl)
  have H1 := Lib.hid h1; clear h1 h
  have HM := Lib.hid hM; clear hM
  have HR := Lib.hid hR; clear hR
  go_enter Tryd.func75, Tryd.ntmps75
  go_wp2_with fail
  go_loopg [7] (8 * bs.length + 1 - p) (fun g va wr => ∃ (a q : Nat), va = .int .i64 a ∧ a < N.length ∧ q ≤ 8 * bs.length ∧ g = 8 * bs.length + 1 - q ∧ readF N bs low g q a = (p', res) ∧
    St w0 wr (rdr Rb bs q low * (blk B (.cells #[vn, vm, vw] 121) * (own 116 3 vn N.length (flatN N) * (own 3 1 vm ms.length (ms.map iv) * (own 9 1 vw ws.length (ws.map svB) * F))))))
  case atStart => exact ⟨0, p, rfl, hN.1, hp, rfl, HR.out, H1.out⟩
  case round =>
    clear H1 HR
    obtain ⟨a, q, rfl, ha, hq, hg, hread, hst⟩ := hrel
    obtain ⟨g, rfl⟩ : ∃ g, gk = g + 1 := ⟨gk - 1, by omega⟩
    rw [readF] at hread
    have HST := Lib.hid hst; clear hst
    by_cases hcut : 8 * bs.length < q + 1
    · rw [if_pos hcut] at hread
      have HRR := Lib.hid (show q = p' ∧ res = .inr 2 by cases hread; exact ⟨rfl, rfl⟩)
      clear hread
      go_wp2_with fail
      refine (read_cut_st HST.out 1 rfl (by omega) hcut).mono ?_
      rintro e w4 ⟨rfl, h4⟩
      have H4 := Lib.hid (HBACK.out _ _ h4); clear h4
      go_wp2_with fail
      go_ret2
      obtain ⟨e1, e2⟩ := HRR.out
      rw [e2, ← e1]
      exact ⟨rfl, H4.out⟩
    · rw [if_neg hcut] at hread
      have HREAD := Lib.hid hread; clear hread
      go_wp2_with fail
      refine (read_ok HST.out 1 rfl (by omega) (by omega)).mono ?_
      rintro e w4 ⟨rfl, h4⟩
      have hc1 : peekV bs low q 1 ≤ 1 := by have := peekV_lt bs low q 1; omega
      have hread := HREAD.out
      generalize peekV bs low q 1 = c at *
      obtain ⟨d, hd⟩ : ∃ d, N[a]? = some d := ⟨N[a], List.getElem?_eq_getElem ha⟩
      have hgd : N.getD a nd0 = d := by rw [List.getD_eq_getElem?_getD, hd]; rfl
      rw [hgd] at hread
      have hb := hN.nx hd c
      obtain ⟨an, cn, rfl⟩ := h4.right.right.reads.sub
      obtain ⟨gn, rfl⟩ := own_at h4.right.right (by omega)
      have b0 := h4.right.cell 0 rfl
      have b1 := h4.right.cell 1 rfl
      have xc := h4.right.right.own_cellS (flatN_next hd hc1)
      have hnl : (a : Int) < N.length := by omega
      clear HREAD
      generalize hbb : d.nx c = b at *
      obtain ⟨d2, hd2⟩ : ∃ d, N[b]? = some d := ⟨N[b], List.getElem?_eq_getElem hb⟩
      have hgd2 : N.getD b nd0 = d2 := by rw [List.getD_eq_getElem?_getD, hd2]; rfl
      rw [hgd2] at hread
      have mc := h4.right.right.own_cellS (flatN_mean hd2)
      have hmd := HM.out d2 (List.mem_of_getElem? hd2)
      have hc2 : (c : Int) < 2 := by omega
      have hbl : (b : Int) < N.length := by omega
      by_cases hb0 : b = 0
      · simp only [if_pos hb0] at hread
        have HRR := Lib.hid (show q + 1 = p' ∧ res = .inr 6 by cases hread; exact ⟨rfl, rfl⟩)
        clear hread hd hgd hd2 hgd2 hmd mc hbb
        have hbi : (b : Int) = 0 := by omega
        have H4 := Lib.hid (HBACK.out _ _ h4); clear h4
        go_wp2_with fail
        go_ret2
        obtain ⟨e1, e2⟩ := HRR.out
        rw [e2, ← e1]
        exact ⟨rfl, H4.out⟩
      · simp only [if_neg hb0] at hread
        have hbi : ¬ (b : Int) = 0 := by omega
        by_cases hmean : 0 ≤ d2.mean
        · simp only [if_pos hmean] at hread
          obtain ⟨m, hm⟩ : ∃ m : Nat, d2.mean = m := ⟨d2.mean.toNat, by omega⟩
          rw [hm] at hread hmd mc
          have hmm : m < ms.length := by omega
          have HRR := Lib.hid (show q + 1 = p' ∧ res = .inl m by
            rw [Int.toNat_natCast] at hread
            cases hread; exact ⟨rfl, rfl⟩)
          clear hread hd hgd hd2 hgd2 hbb
          obtain ⟨am, cm, rfl⟩ := (h4.right.right.right).reads.sub
          obtain ⟨g6, o6, rfl, e6⟩ := (h4.right.right.right).reads.at_ hmm
          obtain ⟨t, ht⟩ : ∃ t, ms[m]? = some t := ⟨ms[m], List.getElem?_eq_getElem hmm⟩
          have e6' : (ms.map iv)[m]? = some (.int .i64 t) := by simp [ht, iv]
          rw [e6'] at e6
          clear e6'
          have HGT := Lib.hid (show iv (ms.getD m 0) = .int .i64 t by rw [List.getD_eq_getElem?_getD, ht]; rfl)
          clear ht
          have hm0 : (0 : Int) ≤ m := by omega
          have hm1 : (m : Int) < ms.length := by omega
          have H4 := Lib.hid (HBACK.out _ _ h4); clear h4
          go_upto_region 12 with (fail)
          go_quiet (fail)
          have h8 := H4.out.drewN nq
          generalize w4.drewN nq = w8 at *
          have H8 := Lib.hid h8; clear h8
          go_wp2_with fail
          go_ret2
          obtain ⟨e1, e2⟩ := HRR.out
          rw [e2, ← e1, readResI, HGT.out]
          exact ⟨rfl, H8.out⟩
        · simp only [if_neg hmean] at hread
          have HRR := Lib.hid hread; clear hread hd hgd hd2 hgd2 hmd hbb
          have H4 := Lib.hid h4; clear h4
          have hmean' : d2.mean < 0 := by omega
          go_wp2_with fail
          go_roundg g
          case measure => omega
          case rel => exact ⟨b, q + 1, rfl, hb, by omega, by omega, HRR.out, H4.out⟩
#print axioms read_anyI
end Go.Proofs.YtljdohfdafnnaaaDoor
