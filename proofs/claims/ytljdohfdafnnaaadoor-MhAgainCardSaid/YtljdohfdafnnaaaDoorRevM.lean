/-
  Bytes turned round, and what is read of what was written: plain Lean, no program.
-/
import Derived.Test.YtljdohfdafnnaaaDoorWrM
namespace Go.Mz
open Go.RowKit
set_option linter.unusedVariables false
set_option linter.unusedSimpArgs false

def revB (c : UInt8) : UInt8 := UInt8.ofNat (numB (wordB c.toNat 8).reverse)
theorem revB_toNat (c : UInt8) : (revB c).toNat = numB (wordB c.toNat 8).reverse := by
  have := numB_lt (bit_wordB c.toNat 8).reverse
  simp [revB] at this ⊢; omega
theorem wordB_num (l : List Nat) (h : Bit l) : wordB (numB l) l.length = l := by
  induction l with
  | nil => rfl
  | cons b l ih =>
    have hb := h b (by simp)
    have hl : Bit l := fun c hc => h c (by simp [hc])
    have hlt := numB_lt (l := l) hl
    have e1 : numB (b :: l) / 2 ^ l.length % 2 = b := by
      rw [numB_cons, Nat.mul_comm, Nat.mul_add_div (Nat.pow_pos (by decide)), Nat.div_eq_of_lt hlt]; omega
    have e2 : ∀ n, n ≤ l.length → wordB (numB (b :: l)) n = wordB (numB l) n := by
      intro n hn
      have key : ∀ i, i < n → numB (b :: l) / 2 ^ i % 2 = numB l / 2 ^ i % 2 := by
        intro i hi
        rw [numB_cons, show l.length = (l.length - i - 1) + 1 + i by omega, Nat.pow_add, ← Nat.mul_assoc, Nat.mul_comm _ (2 ^ i), Nat.mul_add_div (Nat.pow_pos (by decide)), Nat.pow_succ, ← Nat.mul_assoc]
        omega
      clear hn
      induction n with
      | zero => rfl
      | succ n ihn => rw [wordB, wordB, key n (by omega), ihn (fun i hi => key i (by omega))]
    rw [List.length_cons, wordB, e1, e2 _ (Nat.le_refl _), ih hl]
theorem bits8_rev (low : Bool) (c : UInt8) : bits8 (!low) (revB c) = bits8 low c := by
  have h := wordB_num (wordB c.toNat 8).reverse (bit_wordB _ _).reverse
  simp only [List.length_reverse, length_wordB] at h
  cases low
  · simp only [bits8, Bool.not_false, cond, revB_toNat, h, List.reverse_reverse]
  · simp only [bits8, Bool.not_true, cond, revB_toNat, h]
theorem bitsL_rev (low : Bool) (bs : List UInt8) : bitsL (!low) (bs.map revB) = bitsL low bs := by
  simp only [bitsL, List.flatMap_map]
  congr 1; funext c; exact bits8_rev low c
theorem numV_take8 (low : Bool) (f : Nat → Nat) (hf : ∀ i, f i ≤ 1) (n i : Nat) (hi : i < n) : numV low f n / 2 ^ (cond low i (n - 1 - i)) % 2 = f i := by
  have hl : Bit ((List.range n).map f) := fun b hb => by obtain ⟨i, _, rfl⟩ := List.mem_map.1 hb; exact hf i
  have h2 := wordB_num _ hl
  have h3 := wordB_num _ hl.reverse
  simp only [List.length_map, List.length_range, List.length_reverse] at h2 h3
  cases low
  · rw [numV_hi]
    have := wordB_get (numB ((List.range n).map f)) n i hi
    rw [h2, List.getElem?_map, List.getElem?_range hi] at this
    simpa using this.symm
  · rw [numV_lo]
    have := wordB_get (numB ((List.range n).map f).reverse) n (n - 1 - i) (by omega)
    rw [h3, List.getElem?_reverse (by simp; omega)] at this
    simp only [List.length_map, List.length_range] at this
    rw [show n - 1 - (n - 1 - i) = i by omega, List.getElem?_map, List.getElem?_range hi] at this
    simpa using this.symm
/-- What was written is read. -/
theorem bitV_bytesB (low : Bool) {l : List Nat} (hb : Bit l) (i : Nat) (h : i < 8 * ((l.length + 7) / 8)) : bitV (bytesB low l) low i = l.getD i 0 := by
  unfold bitV
  rw [List.getD_eq_getElem?_getD, bytesB_get low l (i / 8) (by omega), Option.getD_some, toNat_byteB low hb]
  have := numV_take8 low (fun j => l.getD (8 * (i / 8) + j) 0) (fun j => hb.getD _) 8 (i % 8) (by omega)
  simp only [show 8 - 1 - i % 8 = 7 - i % 8 by omega] at this
  unfold byteB
  rw [this]
  congr 1; omega
theorem bitsL_bytesB (low : Bool) {l : List Nat} (hb : Bit l) (i : Nat) : (bitsL low (bytesB low l)).getD i 0 = l.getD i 0 := by
  by_cases h : i < 8 * ((l.length + 7) / 8)
  · rw [bitsL_getD, bitV_bytesB low hb i h]
  · rw [List.getD_eq_getElem?_getD, List.getD_eq_getElem?_getD, List.getElem?_eq_none (by simp; omega), List.getElem?_eq_none (by omega)]
theorem numV_wrN (low : Bool) (v n : Nat) (hv : v < 2 ^ n) (f : Nat → Nat) (hf : ∀ i, i < n → f i = (wrN low v n).getD i 0) : numV low f n = v := by
  have e : (List.range n).map f = wrN low v n := by
    apply List.ext_getElem?
    intro i
    by_cases hi : i < n
    · rw [List.getElem?_map, List.getElem?_range hi, wrN_get low v n i hi]
      simp only [Option.map_some]
      rw [hf i hi, List.getD_eq_getElem?_getD, wrN_get low v n i hi]; rfl
    · rw [List.getElem?_eq_none (by simp; omega), List.getElem?_eq_none (by simp; omega)]
  rw [numV_L, e]
  cases low <;> simp [wrN, numB_wordB, Nat.mod_eq_of_lt hv]
theorem wordB_numV_rev (low : Bool) (v n : Nat) (f : Nat → Nat) (hf : ∀ i, i < n → f i = (wrN low v n).getD i 0) : wordB (numV (!low) f n) n = (wordB v n).reverse := by
  have e : (List.range n).map f = wrN low v n := by
    apply List.ext_getElem?
    intro i
    by_cases hi : i < n
    · rw [List.getElem?_map, List.getElem?_range hi, wrN_get low v n i hi]
      simp only [Option.map_some]
      rw [hf i hi, List.getD_eq_getElem?_getD, wrN_get low v n i hi]; rfl
    · rw [List.getElem?_eq_none (by simp; omega), List.getElem?_eq_none (by simp; omega)]
  rw [numV_L, e]
  have h2 := wordB_num (wordB v n).reverse (bit_wordB v n).reverse
  simp only [List.length_reverse, length_wordB] at h2
  cases low <;> simp [wrN, h2]
#print axioms bitsL_bytesB
end Go.Mz
