/-
  Layer 2: what is looked at ahead is what is read, if it is there; looking moves nothing.
-/
import Derived.Test.YtifbhbknpecnbaaLBase
namespace Go.Proofs.Ytifbhbknpecnbaa.peeks
open Go.RowKit Go.Mz
set_option linter.unusedVariables false

theorem long (n m c1 c2 : Nat) (a1 a2 : Option Addr) (low : Bool) (w : World) (hn : 300 < n ∨ 300 < m) :
    Calls Try.prog 3 #[.slice a1 n c1, .bool low, .slice a2 m c2] w fun e w' => e = .returned (.bool true) ∧ Below w.heap.size w w' := by
  have H := Lib.hid (St.init w)
  have fin : ∀ w', St w w' (old w) → Below w.heap.size w w' := fun w' h => (h.perm ((emp_star _).symm.trans (star_comm _ _))).below
  have FIN := Lib.hid fin; clear fin
  by_cases h1 : 300 < n
  all_goals
    have h2 : h1 = h1 := rfl
    clear h2
    go_enter Try.func3, Try.ntmps3
    go_wp2_with fail
    refine (lives02 H.out).mono ?_
    rintro e w1 ⟨rfl, h2⟩
    have H2 := Lib.hid h2; clear h2
    go_wp2_with fail
    refine (lives02 H2.out).mono ?_
    rintro e w2 ⟨rfl, h3⟩
    have H3 := Lib.hid h3; clear h3
    go_wp2_with fail
    go_ret
    exact ⟨rfl, FIN.out _ H3.out⟩

set_option maxRecDepth 100000 in
theorem walk (vb vl : Value) (bs ls : List UInt8) (low : Bool) (w : World) (hb : Reads w 1 vb bs.length (bs.map bv)) (hl : Reads w 1 vl ls.length (ls.map bv)) :
    Calls Try.prog 3 #[vb, .bool low, vl] w fun e w' => e = .returned (.bool true) ∧ Below w.heap.size w w' := by
  have HB := Lib.hid (Stb.of_old hb)
  have HL := Lib.hid (Stb.of_old hl)
  obtain ⟨a1, c1, rfl⟩ := hb.sub
  obtain ⟨a2, c2, rfl⟩ := hl.sub
  clear hb hl
  by_cases hn : 300 < bs.length ∨ 300 < ls.length
  · exact long _ _ _ _ _ _ _ _ hn
  have hn1 : ¬ (300 < (bs.length : Int)) := by omega
  have hn2 : ¬ (300 < (ls.length : Int)) := by omega
  have H := Lib.hid (St.init w)
  have fin : ∀ w', St w w' (old w) → Below w.heap.size w w' := fun w' h => (h.perm ((emp_star _).symm.trans (star_comm _ _))).below
  have FIN := Lib.hid fin; clear fin
  go_enter Try.func3, Try.ntmps3
  go_wp2_with fail
  refine (lives02 H.out).mono ?_
  rintro e w1 ⟨rfl, h2⟩
  have H2 := Lib.hid h2; clear h2
  go_wp2_with fail
  refine (newReader_any H2.out HB.out (by omega)).mono ?_
  rintro e w2 ⟨B, rfl, h3⟩
  have H3 := Lib.hid h3; clear h3
  go_wp2_with fail
  go_loopw [35] (fun i wr => ∃ k p : Nat, k ≤ ls.length ∧ i = .int .i64 k ∧ p ≤ 8 * bs.length ∧ St w wr (rdr B bs p low * old w)) (fun i _ => ls.length - (intOf i).toNat)
  case atStart => exact ⟨0, 0, Nat.zero_le _, rfl, Nat.zero_le _, H3.out⟩
  case round =>
    obtain ⟨k, p, hk, rfl, hp, hst⟩ := hrel
    by_cases hkn : k < ls.length
    · obtain ⟨b, off, rfl, hc⟩ := (HL.out _ hst.right).at_ hkn
      have hc' : (ls.map bv)[k]? = some (.int .u8 ((ls.getD k 0).toNat : Int)) := by simp [hkn, bv]
      rw [hc'] at hc
      clear hc'
      have hc8 : (ls.getD k 0).toNat < 256 := UInt8.toNat_lt _
      generalize (ls.getD k 0).toNat = c at *
      have HS := Lib.hid hst; clear hst
      go_wp2_with fail
      refine (at_any (rdr_at HS.out)).mono ?_
      rintro e w' ⟨rfl, rfl⟩
      go_wp2_with fail
      refine (left_st HS.out).mono ?_
      rintro e w3 ⟨rfl, h4⟩
      have H4 := Lib.hid h4; clear h4
      go_wp2_with fail
      refine (peek_st H4.out (c % 33) (by simp) (by omega)).mono ?_
      rintro e w4 ⟨rfl, h5⟩
      have H5 := Lib.hid h5; clear h5
      generalize hv : peekV bs low p (c % 33) = v
      have HV := Lib.hid hv; clear hv
      go_wp2_with fail
      refine (at_any (rdr_at H5.out)).mono ?_
      rintro e w' ⟨rfl, rfl⟩
      go_wp2_with fail
      refine (left_st H5.out).mono ?_
      rintro e w5 ⟨rfl, h6⟩
      have H6 := Lib.hid h6; clear h6
      by_cases hcut : p + c % 33 ≤ 8 * bs.length
      · have hg : ¬ 8 * (bs.length : Int) - p < (c : Int) % 33 := by omega
        go_wp2_with fail
        refine (read_ok H6.out (c % 33) (by simp) (by omega) hcut).mono ?_
        rintro e w6 ⟨rfl, h7⟩
        rw [HV.out]
        have H7 := Lib.hid h7; clear h7
        go_wp2_with fail
        refine (at_any (rdr_at H7.out)).mono ?_
        rintro e w' ⟨rfl, rfl⟩
        go_wp2_with fail
        go_roundw
        case rel => exact ⟨k + 1, p + c % 33, by omega, by go_num, hcut, H7.out⟩
        case measure => simp [intOf]; omega
      · have hg : 8 * (bs.length : Int) - p < (c : Int) % 33 := by omega
        go_wp2_with fail
        refine (read_cut_st H6.out (c % 33) (by simp) (by omega) (by omega)).mono ?_
        rintro e w6 ⟨rfl, h7⟩
        have H7 := Lib.hid h7.right; clear h7
        go_wp2_with fail
        go_ret
        exact ⟨rfl, FIN.out _ H7.out⟩
    · obtain rfl : k = ls.length := by omega
      have H7 := Lib.hid hst.right; clear hst
      go_wp2_with fail
      go_ret
      exact ⟨rfl, FIN.out _ H7.out⟩
end Go.Proofs.Ytifbhbknpecnbaa.peeks
