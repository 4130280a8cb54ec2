/-
  Layer 13 (faxcode): the books of all words.
-/
import Derived.Test.YtljdohfdafnnaaaDoorFaxB
import Derived.Test.YtljdohfdafnnaaaDoorFaxS
import Derived.RegionTactic
import Derived.BigRegion
namespace Go.Proofs.YtljdohfdafnnaaaDoor
open Go.RowKit Go.Mz
set_option linter.unusedVariables false
set_option linter.unusedSimpArgs false
set_option maxRecDepth 100000

def ptr (b : Nat) : Value := .pointer (some ⟨b, 0, none⟩)
/-- The books of all words. -/
def codes (C : Nat) : SProp := sEx fun x : Nat × Nat × Nat =>
  blk C (.cells #[.pointer (some ⟨x.1, 0, none⟩), .pointer (some ⟨x.2.1, 0, none⟩), .pointer (some ⟨x.2.2, 0, none⟩)] 74) * (bkI x.1 (faxW false) faxI * (bkI x.2.1 (faxW true) faxI * bkM x.2.2 modW modI))
theorem codes_open {w0 w : World} {C : Nat} {F : SProp} (h : St w0 w (codes C * F)) : ∃ B0 B1 Bm : Nat,
    St w0 w (blk C (.cells #[.pointer (some ⟨B0, 0, none⟩), .pointer (some ⟨B1, 0, none⟩), .pointer (some ⟨Bm, 0, none⟩)] 74) * (bkI B0 (faxW false) faxI * (bkI B1 (faxW true) faxI * (bkM Bm modW modI * F)))) := by
  obtain ⟨⟨B0, B1, Bm⟩, h⟩ := h.ex_l
  exact ⟨B0, B1, Bm, h.perm (by simp only; ac_rfl)⟩
theorem codes_shut {w0 w : World} {C B0 B1 Bm : Nat} {F : SProp}
    (h : St w0 w (blk C (.cells #[.pointer (some ⟨B0, 0, none⟩), .pointer (some ⟨B1, 0, none⟩), .pointer (some ⟨Bm, 0, none⟩)] 74) * (bkI B0 (faxW false) faxI * (bkI B1 (faxW true) faxI * (bkM Bm modW modI * F))))) : St w0 w (codes C * F) :=
  St.mk_ex_l (B0, B1, Bm) (h.perm (by simp only; ac_rfl))
theorem newI_fax {w0 w : World} {F : SProp} (black : Bool) {vm vw : Value} (h : St w0 w (own 3 1 vm 104 (faxI.map iv) * (own 9 1 vw 104 ((faxW black).map txv) * F))) :
    Calls Tryd.prog 40 #[vw, vm] w fun e w' => ∃ B, e = .returned (.tuple #[.pointer (some ⟨B, 0, none⟩), .int .i64 0]) ∧ St w0 w' (bkI B (faxW black) faxI * F) :=
  bkI_new h (by rw [len_fax]) (by rw [length_faxI, len_fax]) (bit_fax black) (pf_fax black) (by rw [len_fax]; decide) (fun w hw => by have := (le_fax black w hw).2; omega)
theorem newM_fax {w0 w : World} {F : SProp} {vm vw : Value} (h : St w0 w (own 84 1 vm 10 (modI.map iv) * (own 9 1 vw 10 (modW.map txv) * F))) :
    Calls Tryd.prog 42 #[vw, vm] w fun e w' => ∃ B, e = .returned (.tuple #[.pointer (some ⟨B, 0, none⟩), .int .i64 0]) ∧ St w0 w' (bkM B modW modI * F) :=
  bkM_new h (by rw [len_mod]) (by rw [length_modI, len_mod]) bit_mod pf_mod (by rw [len_mod]; decide) (fun w hw => by have := (le_mod w hw).2; omega)

set_option maxHeartbeats 40000000 in
theorem newCodes_any {w0 w : World} {F : SProp} (h : St w0 w F) (ht : Tab w0 F) :
    Calls Tryd.prog 17 #[] w fun e w' => ∃ C, e = .returned (.pointer (some ⟨C, 0, none⟩)) ∧ St w0 w' (codes C * F) := by
  have h1 := h.alloc (.cells #[.pointer none, .pointer none, .pointer none] 74)
  have H1 := Lib.hid h1; clear h h1
  have HT := Lib.hid ht; clear ht
  go_enter Tryd.func17, Tryd.ntmps17
  go_upto_region 2 with (fail)
  generalize w.heap.size = C at *
  generalize w.alloc (.cells #[.pointer none, .pointer none, .pointer none] 74) = w1 at *
  go_wp2_with fail
  go_loopw [9] (fun vi wr => (vi = .int .i64 0 ∧ St w0 wr (blk C (.cells #[.pointer none, .pointer none, .pointer none] 74) * F)) ∨
    (vi = .int .i64 1 ∧ ∃ B0 : Nat, St w0 wr (blk C (.cells #[.pointer (some ⟨B0, 0, none⟩), .pointer none, .pointer none] 74) * (bkI B0 (faxW false) faxI * F))) ∨
    (vi = .int .i64 2 ∧ ∃ B0 B1 : Nat, St w0 wr (blk C (.cells #[.pointer (some ⟨B0, 0, none⟩), .pointer (some ⟨B1, 0, none⟩), .pointer none] 74) * (bkI B1 (faxW true) faxI * (bkI B0 (faxW false) faxI * F))))) (fun vi _ => 2 - (intOf vi).toNat)
  case atStart => exact .inl ⟨rfl, H1.out⟩
  case round =>
    clear H1
    rcases hrel with ⟨rfl, hst⟩ | ⟨rfl, B0, hst⟩ | ⟨rfl, B0, B1, hst⟩
    · have HW := Lib.hid (words_any hst (fun w h => HT.out w h.right) false); clear hst
      go_wp2_with fail
      refine HW.out.mono ?_
      rintro e w2 ⟨vw, vl, rfl, h2⟩
      obtain ⟨aw, cw, rfl⟩ := h2.right.reads.sub
      obtain ⟨al, cl, rfl⟩ := h2.reads.sub
      have HN := Lib.hid (newI_fax false h2.drew)
      clear h2 HW
      go_upto_region 6 with (fail)
      go_region_with (first | (go_at_call 40; refine HN.out.mono ?_; rintro e w3 ⟨B0, rfl, h3⟩; have h3 := h3.perm (star_left_comm _ _ _); have f0 := h3.free 0; have c0 := h3.cell 0 rfl; have H4 := Lib.hid (h3.set 0 (.pointer (some ⟨B0, 0, none⟩))); clear h3))
      all_goals
        clear f0 c0 HN
        generalize w3.setCell ⟨C, 0, none⟩ (.pointer (some ⟨B0, 0, none⟩)) = w4 at *
        go_wp2_with fail
        exact ⟨.inr (.inl ⟨by go_num, B0, H4.out⟩), by simp [intOf]⟩
    · have HW := Lib.hid (words_any hst (fun w h => HT.out w h.right.right) true); clear hst
      go_wp2_with fail
      refine HW.out.mono ?_
      rintro e w2 ⟨vw, vl, rfl, h2⟩
      obtain ⟨aw, cw, rfl⟩ := h2.right.reads.sub
      obtain ⟨al, cl, rfl⟩ := h2.reads.sub
      have HN := Lib.hid (newI_fax true h2.drew)
      clear h2 HW
      go_upto_region 6 with (fail)
      go_region_with (first | (go_at_call 40; refine HN.out.mono ?_; rintro e w3 ⟨B1, rfl, h3⟩; have h3 := h3.perm (star_left_comm _ _ _); have f0 := h3.free 1; have c0 := h3.cell 1 rfl; have H4 := Lib.hid (h3.set 1 (.pointer (some ⟨B1, 0, none⟩))); clear h3))
      all_goals
        clear f0 c0 HN
        generalize w3.setCell ⟨C, 1, none⟩ (.pointer (some ⟨B1, 0, none⟩)) = w4 at *
        go_wp2_with fail
        exact ⟨.inr (.inr ⟨by go_num, B0, B1, H4.out⟩), by simp [intOf]⟩
    · have HM := Lib.hid (modes_any hst (fun w h => HT.out w h.right.right.right)); clear hst
      go_wp2_with fail
      refine HM.out.mono ?_
      rintro e w2 ⟨vw, vm, rfl, h2⟩
      have h2 := h2.perm (star_left_comm _ _ _)
      obtain ⟨aw, cw, rfl⟩ := h2.right.reads.sub
      obtain ⟨am, cm, rfl⟩ := h2.reads.sub
      have HN := Lib.hid (newM_fax h2)
      clear h2 HM
      go_wp2_with fail
      refine HN.out.mono ?_
      rintro e w3 ⟨Bm, rfl, h3⟩
      have h3 := h3.perm (star_left_comm _ _ _)
      have f0 := h3.free 2
      have c0 := h3.cell 2 rfl
      have H4 := Lib.hid (h3.set 2 (.pointer (some ⟨Bm, 0, none⟩))); clear h3
      go_wp2_with fail
      go_ret
      refine ⟨C, rfl, codes_shut (B0 := B0) (B1 := B1) (Bm := Bm) ?_⟩
      exact H4.out.perm (show _ = blk C (.cells #[.pointer (some ⟨B0, 0, none⟩), .pointer (some ⟨B1, 0, none⟩), .pointer (some ⟨Bm, 0, none⟩)] 74) * (bkI B0 (faxW false) faxI * (bkI B1 (faxW true) faxI * (bkM Bm modW modI * F))) by
        show blk C (.cells #[.pointer (some ⟨B0, 0, none⟩), .pointer (some ⟨B1, 0, none⟩), .pointer (some ⟨Bm, 0, none⟩)] 74) * (bkM Bm modW modI * (bkI B1 (faxW true) faxI * (bkI B0 (faxW false) faxI * F))) = _
        ac_rfl)
#print axioms newCodes_any
end Go.Proofs.YtljdohfdafnnaaaDoor
