/-
  Bytes turned round (package bits).
-/
import Derived.Test.YtifbhbknpecnbaaWr2
import Derived.Test.YtifbhbknpecnbaaRevM
import Derived.Test.YtifbhbknpecnbaaSep2
namespace Go.Proofs.Ytifbhbknpecnbaa
open Go.RowKit Go.Mz
set_option linter.unusedVariables false
set_option linter.unusedSimpArgs false

theorem rev_step {x c : Nat} (hx : x < 128) (hc : c < 256) : bits BinOp.or .u8 ((x : Int) * 2) (bits BinOp.and .u8 (c : Int) 1) = ((x * 2 + c % 2 : Nat) : Int) := by
  have e1 : bits BinOp.and .u8 (c : Int) 1 = ((c % 2 : Nat) : Int) := by
    have := u8_and_nat c 1 hc (by decide)
    rw [nat_mask1] at this; exact this
  have e2 : (x : Int) * 2 = ((x * 2 : Nat) : Int) := by omega
  rw [e1, e2, u8_or_nat _ _ (by omega) (by omega)]
  congr 1
  exact nat_join 1 _ _ (by omega) (by omega)

/-- k of a byte's bits, the lowest ahead. -/
def revN (c : Nat) : Nat → Nat
  | 0 => 0
  | k + 1 => revN c k * 2 + c / 2 ^ k % 2
theorem revN_eq (c : Nat) : ∀ k, revN c k = numB (wordB c k).reverse
  | 0 => rfl
  | k + 1 => by rw [revN, wordB, List.reverse_cons, numB_snoc, revN_eq c k]
theorem revN_lt (c k : Nat) : revN c k < 2 ^ k := by
  rw [revN_eq]
  have := numB_lt (bit_wordB c k).reverse
  simpa using this

theorem reverse_any {w : World} (c : Nat) (hc : c < 256) :
    Calls Try.prog 33 #[.int .u8 c] w fun e w' => e = .returned (.int .u8 (revN c 8)) ∧ w = w' := by
  go_enter Try.func33, Try.ntmps33
  go_wp2_with fail
  go_loop [0, 3, 4] (fun x o i => ∃ k : Nat, k ≤ 8 ∧ i = .int .i64 k ∧ x = .int .u8 ((c / 2 ^ k : Nat) : Int) ∧ o = .int .u8 (revN c k)) (fun _ _ i => 8 - (intOf i).toNat)
  case atStart => exact ⟨0, by omega, rfl, by simp, rfl⟩
  case round =>
    obtain ⟨k, hk, rfl, rfl, rfl⟩ := hrel
    by_cases hkn : k < 8
    · have hlt := revN_lt c (k + 1)
      have hp : 2 ^ (k + 1) ≤ 2 ^ 8 := Nat.pow_le_pow_right (by decide) (by omega)
      have hr := Lib.hid (show revN c (k + 1) = revN c k * 2 + c / 2 ^ k % 2 from rfl)
      have hx : c / 2 ^ k < 256 := Nat.lt_of_le_of_lt (Nat.div_le_self _ _) hc
      have hq := Lib.hid (show c / 2 ^ (k + 1) = c / 2 ^ k / 2 by rw [Nat.pow_succ, ← Nat.div_div_eq_div_mul])
      have hlt2 : revN c k < 128 := by rw [hr.out] at hlt; omega
      have E := Lib.hid (rev_step (x := revN c k) (c := c / 2 ^ k) hlt2 hx)
      clear hlt hp
      generalize c / 2 ^ k = y at *
      generalize revN c k = x at *
      go_wp2_with fail
      refine ⟨⟨k + 1, by omega, by go_num, by rw [hq.out]; simp, ?_⟩, by simp [intOf]; omega⟩
      rw [hr.out]
      exact int_eq E.out
    · obtain rfl : k = 8 := by omega
      go_wp2_with fail
      go_ret
      exact ⟨rfl, rfl⟩

theorem revB_N (c : UInt8) : (revB c).toNat = revN c.toNat 8 := by rw [revB_toNat, revN_eq]

theorem reverseAll_any {w0 w : World} {F : SProp} (h : St w0 w F) (bs : List UInt8) {v : Value} (hv : Stb w0 F (fun w => Reads w 1 v bs.length (bs.map bv))) (hl : bs.length ≤ 100000000000000) :
    Calls Try.prog 30 #[v] w fun e w' => ∃ v', e = .returned v' ∧ St w0 w' (own 5 1 v' (bs.map revB).length ((bs.map revB).map bv) * F) := by
  obtain ⟨a, cap, rfl⟩ := (hv w h).sub
  have H := Lib.hid h; clear h
  have HV := Lib.hid hv; clear hv
  have T := elemBytes
  go_enter Try.func30, Try.ntmps30
  go_wp2_with (at_make; apply stop)
  refine on (wpList_make_sep T rfl _ _ rfl bs.length rfl rfl rfl rfl H.out (by unfold maxLen; omega) (by omega) ?_)
  intro v' w1 h1
  obtain ⟨a', cap', rfl⟩ := h1.reads.sub
  have H1 := Lib.hid h1; clear h1
  go_wp2_with fail
  go_loopw [11] (fun i wr => ∃ k : Nat, k ≤ bs.length ∧ i = .int .i64 k ∧ St w0 wr (own 5 1 (.slice a' bs.length cap') bs.length (((bs.take k).map revB ++ List.replicate (bs.length - k) 0).map bv) * F)) (fun i _ => bs.length - (intOf i).toNat)
  case atStart => exact ⟨0, Nat.zero_le _, rfl, by
    have e : (madeCells (Value.int .u8 0).cells (bs.length * 1)).toList = ((bs.take 0).map revB ++ List.replicate (bs.length - 0) 0).map bv := by
      rw [Nat.mul_one]
      simp [Value.cells, toList_madeCells_one, bv]
    rw [← e]; exact H1.out⟩
  case round =>
    obtain ⟨k, hk, rfl, hst⟩ := hrel
    by_cases hkn : k < bs.length
    · obtain ⟨g, rfl⟩ := own_at hst (by omega)
      obtain ⟨b, off, rfl, hc⟩ := (HV.out _ hst.right).at_ hkn
      have hc' : (bs.map bv)[k]? = some (.int .u8 ((bs.getD k 0).toNat : Int)) := by simp [hkn, bv]
      rw [hc'] at hc
      clear hc'
      have hfz := hst.own_free k
      have hcc := hst.own_cell (i := k) (u := .int .u8 0) (by
        rw [List.getElem?_map, List.getElem?_append_right (by simp; omega), List.getElem?_replicate, if_pos (by simp; omega)]; rfl)
      have HT := Lib.hid (show (((bs.take k).map revB ++ List.replicate (bs.length - k) 0).map bv).set k (.int .u8 (revN (bs.getD k 0).toNat 8)) = ((bs.take (k + 1)).map revB ++ List.replicate (bs.length - (k + 1)) 0).map bv by
        have e : (.int .u8 (revN (bs.getD k 0).toNat 8) : Value) = bv (revB (bs.getD k 0)) := by rw [bv, revB_N]
        rw [e, ← List.map_set]
        congr 1
        rw [List.take_succ_eq_append_getElem hkn, List.map_append, List.set_append_right _ _ (by simp; omega)]
        have e2 : List.replicate (bs.length - k) (0 : UInt8) = 0 :: List.replicate (bs.length - (k + 1)) 0 := by
          rw [← List.replicate_succ]; congr 1; omega
        rw [e2]
        have e3 : k - ((bs.take k).map revB).length = 0 := by simp; omega
        rw [e3]
        simp [hkn])
      have hc8 : (bs.getD k 0).toNat < 256 := UInt8.toNat_lt _
      generalize (bs.getD k 0).toNat = c at *
      have HST := Lib.hid hst; clear hst
      go_wp2_with fail
      refine (reverse_any c hc8).mono ?_
      rintro e w2 ⟨rfl, rfl⟩
      go_wp2_with fail
      go_roundw
      case rel => exact ⟨k + 1, by omega, by go_num, by rw [← HT.out]; exact HST.out.own_set k _⟩
      case measure => simp [intOf]; omega
    · obtain rfl : k = bs.length := by omega
      have HST := Lib.hid hst; clear hst
      go_wp2_with fail
      go_ret
      exact ⟨_, rfl, by simpa using HST.out⟩
end Go.Proofs.Ytifbhbknpecnbaa
