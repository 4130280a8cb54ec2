/-
  Layer 6 (huff): a book's words, and writing them.
-/
import Derived.Test.YtljdohfdafnnaaaDoorHufBI
import Derived.Test.YtljdohfdafnnaaaDoorWr2
namespace Go.Proofs.YtljdohfdafnnaaaDoor
open Go.RowKit Go.Mz
set_option linter.unusedVariables false
set_option linter.unusedSimpArgs false
set_option maxRecDepth 100000

def wAt (ws : List (List UInt8)) (i : Int) : List UInt8 := if 0 ≤ i ∧ i < ws.length then ws.getD i.toNat [] else []
def wordR (ws : List (List UInt8)) (i : Int) : Value := if 0 ≤ i ∧ i < ws.length then .tuple #[svB (ws.getD i.toNat []), .int .i64 0] else .tuple #[.string ⟨#[]⟩, .int .i64 12]

theorem bookI_words {w0 w : World} {F : SProp} {B : Nat} {N : List Nd} {ms : List Int} {ws : List (List UInt8)} (h : St w0 w (bookI B N ms ws * F)) :
    ∃ aw cw, w.cell? ⟨B, 2, none⟩ = some (.slice aw ws.length cw) ∧ Reads w 1 (.slice aw ws.length cw) ws.length (ws.map svB) := by
  obtain ⟨⟨vn, vm, vw⟩, h⟩ := h.ex_l
  simp only at h
  have h' := h.perm (show _ = own 9 1 vw ws.length (ws.map svB) * (blk B (.cells #[vn, vm, vw] 121) * (own 116 3 vn N.length (flatN N) * (own 3 1 vm ms.length (ms.map iv) * F))) by ac_rfl)
  obtain ⟨aw, cw, rfl⟩ := h'.reads.sub
  exact ⟨aw, cw, h'.right.cell 2 rfl, h'.reads⟩
theorem hlen_anyI {w0 w : World} {F : SProp} {B : Nat} {N : List Nd} {ms : List Int} {ws : List (List UInt8)} (h : St w0 w (bookI B N ms ws * F)) :
    Calls Tryd.prog 87 #[.pointer (some ⟨B, 0, none⟩)] w fun e w' => e = .returned (.int .i64 ws.length) ∧ w' = w := by
  obtain ⟨aw, cw, c2, hr⟩ := bookI_words h
  clear h hr
  go_enter Tryd.func87, Tryd.ntmps87
  go_wp2_with fail
  go_ret
  exact ⟨rfl, rfl⟩
theorem hword_anyI {w0 w : World} {F : SProp} {B : Nat} {N : List Nd} {ms : List Int} {ws : List (List UInt8)} (h : St w0 w (bookI B N ms ws * F)) (i : Int) :
    Calls Tryd.prog 81 #[.pointer (some ⟨B, 0, none⟩), .int .i64 i] w fun e w' => e = .returned (wordR ws i) ∧ w' = w := by
  obtain ⟨aw, cw, c2, hr⟩ := bookI_words h
  have HL := Lib.hid (hlen_anyI h)
  by_cases hi : i < 0
  · have HR := Lib.hid (show wordR ws i = .tuple #[.string ⟨#[]⟩, .int .i64 12] by rw [wordR, if_neg (by omega)])
    clear h hr
    go_enter Tryd.func81, Tryd.ntmps81
    go_wp2_with fail
    go_ret2
    exact ⟨by rw [HR.out]; rfl, rfl⟩
  · obtain ⟨k, rfl⟩ : ∃ k : Nat, i = k := ⟨i.toNat, by omega⟩
    by_cases hk : k < ws.length
    · obtain ⟨g, o, rfl, e⟩ := hr.at_ hk
      have hx := List.getElem?_eq_getElem hk
      have HR := Lib.hid (show wordR ws k = .tuple #[svB ws[k], .int .i64 0] by rw [wordR, if_pos (by omega), Int.toNat_natCast, List.getD_eq_getElem?_getD, hx]; rfl)
      rw [List.getElem?_map, hx] at e
      generalize ws[k] = t at *
      simp only [Option.map_some, svB] at e
      have hk2 : (k : Int) < ws.length := by omega
      clear h hr hx
      go_enter Tryd.func81, Tryd.ntmps81
      go_wp2_with fail
      refine HL.out.mono ?_
      rintro e w' ⟨rfl, rfl⟩
      go_wp2_with fail
      go_ret2
      exact ⟨by rw [HR.out]; rfl, rfl⟩
    · have HR := Lib.hid (show wordR ws k = .tuple #[.string ⟨#[]⟩, .int .i64 12] by rw [wordR, if_neg (by omega)])
      have hk2 : (ws.length : Int) ≤ k := by omega
      clear h hr
      go_enter Tryd.func81, Tryd.ntmps81
      go_wp2_with fail
      refine HL.out.mono ?_
      rintro e w' ⟨rfl, rfl⟩
      go_wp2_with fail
      go_ret2
      exact ⟨by rw [HR.out]; rfl, rfl⟩
theorem hwrite_anyI {w0 w : World} {F : SProp} {B W : Nat} {N : List Nd} {ms : List Int} {ws : List (List UInt8)} {l : List Nat} {low : Bool} (h : St w0 w (bookI B N ms ws * (wrt W l low * F))) (i : Int)
    (hd : digB (wAt ws i) = true) (hl : (wAt ws i).length ≤ 1000000) (hm : l.length ≤ 10000000000000) :
    Calls Tryd.prog 72 #[.pointer (some ⟨B, 0, none⟩), .pointer (some ⟨W, 0, none⟩), .int .i64 i] w fun e w' => e = .returned (.int .i64 (if wAt ws i = [] then 12 else 0)) ∧ St w0 w' (bookI B N ms ws * (wrt W (l ++ unTx (wAt ws i)) low * F)) := by
  have HW := Lib.hid (hword_anyI h i)
  have H := Lib.hid h
  have hC := fun (hne : wAt ws i ≠ []) => word_ok (h.perm (star_left_comm _ _ _)) (wAt ws i) (by omega) hd (by omega)
  by_cases hi : 0 ≤ i ∧ i < ws.length
  · have e1 : wordR ws i = .tuple #[svB (wAt ws i), .int .i64 0] := by rw [wordR, wAt, if_pos hi, if_pos hi]
    rw [e1] at HW
    clear e1
    generalize wAt ws i = t at *
    have HC := Lib.hid hC; clear hC h
    by_cases ht : t = []
    · subst ht
      go_enter Tryd.func72, Tryd.ntmps72
      go_wp2_with fail
      refine HW.out.mono ?_
      rintro e w' ⟨rfl, rfl⟩
      unfold svB
      go_wp2_with fail
      go_ret
      refine ⟨rfl, ?_⟩
      simpa [unTx] using H.out
    · have hne : ¬ (ByteArray.mk t.toArray).toList = [] := by rw [ByteArray.toList_eq]; exact ht
      have hne2 : (ByteArray.mk t.toArray).toList.isEmpty = false := by
        cases hq : (ByteArray.mk t.toArray).toList with
        | nil => exact absurd hq hne
        | cons _ _ => rfl
      have C := Lib.hid (HC.out ht); clear HC
      have HT := Lib.hid ht; clear ht
      unfold svB at HW
      generalize ByteArray.mk t.toArray = tb at *
      go_enter Tryd.func72, Tryd.ntmps72
      go_wp2_with fail
      refine HW.out.mono ?_
      rintro e w' ⟨rfl, rfl⟩
      go_wp2_with fail
      refine C.out.mono ?_
      rintro e w2 ⟨rfl, h2⟩
      have H2 := Lib.hid h2; clear h2
      go_wp2_with fail
      go_ret
      refine ⟨rfl, H2.out.perm (star_left_comm _ _ _)⟩
  · have e1 : wordR ws i = .tuple #[.string ⟨#[]⟩, .int .i64 12] := by rw [wordR, if_neg hi]
    have e2 : wAt ws i = [] := by rw [wAt, if_neg hi]
    rw [e1] at HW
    rw [e2]
    clear hC h hd hl hi
    go_enter Tryd.func72, Tryd.ntmps72
    go_wp2_with fail
    refine HW.out.mono ?_
    rintro e w' ⟨rfl, rfl⟩
    go_wp2_with fail
    go_ret
    refine ⟨rfl, ?_⟩
    simpa [unTx] using H.out
#print axioms hwrite_anyI
end Go.Proofs.YtljdohfdafnnaaaDoor
