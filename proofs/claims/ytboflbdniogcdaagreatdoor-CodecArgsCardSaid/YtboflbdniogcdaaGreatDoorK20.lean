/-
  Parts of a proof.
-/
import Derived.Test.YtboflbdniogcdaaGreatDoorK14
import Derived.Test.YtboflbdniogcdaaGreatDoorK15
namespace Go.Proofs.YtboflbdniogcdaaGreatDoor
open Go.RowKit Go.Mz
set_option linter.unusedVariables false
set_option linter.unusedSimpArgs false
theorem wordsC_get {l : List Nat} {i : Nat} {w : List Nat} (h : (wordsC l)[i]? = some w) : i < l.length ∧ w = wordC l i := by
 have hi : i < l.length := by
  obtain ⟨hx, _⟩ := List.getElem?_eq_some_iff.1 h
  simpa [wordsC] using hx
 rw [wordsC, List.getElem?_map, List.getElem?_range hi] at h
 exact ⟨hi, (Option.some.inj h).symm⟩
theorem wordsC_at {l : List Nat} {i : Nat} (h : i < l.length) : (wordsC l)[i]? = some (wordC l i) := by
 rw [wordsC, List.getElem?_map, List.getElem?_range h]; rfl
theorem wordC_ne {l : List Nat} {i : Nat} (h : wordC l i ≠ []) : 0 < l.getD i 0 := by
 rcases Nat.eq_zero_or_pos (l.getD i 0) with h0 | h0
 ·exact absurd (List.eq_nil_of_length_eq_zero (by rw [length_wordC, h0])) h
 ·exact h0
theorem pf_wordsC {l : List Nat} (ok : OkC l) (h30 : ∀ n ∈ l, n ≤ 30) : PF (wordsC l) := by
 intro i k v w hik hv hw hvn
 obtain ⟨hi, rfl⟩ := wordsC_get hv
 obtain ⟨hk, rfl⟩ := wordsC_get hw
 exact wordC_free ok h30 hi hk hik (wordC_ne hvn)
theorem bit_wordsC (l : List Nat) : ∀ w ∈ wordsC l, Bit w := fun w hw => by
 rw [wordsC, List.mem_map] at hw
 obtain ⟨i, _, rfl⟩ := hw
 exact bit_wordC l i
theorem bitsL_bytes (low : Bool) {l : List Nat} (hb : Bit l) : ∃ z, bitsL low (bytesB low l) = l ++ z := by
 refine ⟨(bitsL low (bytesB low l)).drop l.length, ?_⟩
 have : (bitsL low (bytesB low l)).take l.length = l := by
  apply List.ext_getElem?
  intro i
  by_cases hi : i < l.length
  ·have := bitsL_bytesB low hb i
   rw [List.getElem?_take_of_lt hi]
   simp only [List.getD_eq_getElem?_getD] at this
   have h2 : i < (bitsL low (bytesB low l)).length := by simp; omega
   rw [List.getElem?_eq_getElem h2, List.getElem?_eq_getElem hi] at this ⊢
   simpa using this
  ·rw [List.getElem?_eq_none (by simp; omega), List.getElem?_eq_none (by omega)]
 conv => lhs; rw [← List.take_append_drop l.length (bitsL low (bytesB low l)), this]
def kbits (W : List (List Nat)) (K : List Nat) : List Nat := K.flatMap fun i => W.getD i []
end Go.Proofs.YtboflbdniogcdaaGreatDoor
