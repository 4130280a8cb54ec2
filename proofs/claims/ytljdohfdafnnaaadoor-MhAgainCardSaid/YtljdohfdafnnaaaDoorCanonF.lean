/-
  Layer 6 (huff): canonical words begin none another, and rise; plain Lean, no program.
-/
import Derived.Test.YtljdohfdafnnaaaDoorCanonM
import Derived.Lib.Strings
namespace Go.Mz
open Go.RowKit
set_option linter.unusedVariables false
set_option linter.unusedSimpArgs false

def posC (l : List Nat) (i : Nat) : Nat := codeC l (l.getD i 0) + (l.take i).count (l.getD i 0)

theorem take_count_lt {l : List Nat} {i k n : Nat} (hi : i < l.length) (hn : l.getD i 0 = n) (hk : i < k) : (l.take i).count n < (l.take k).count n := by
  have h1 : l.take (i + 1) = l.take i ++ [n] := by
    rw [List.take_add_one, List.getElem?_eq_getElem hi, ← hn, List.getD_eq_getElem?_getD, List.getElem?_eq_getElem hi]; rfl
  have h2 : (l.take (i + 1)).count n ≤ (l.take k).count n := List.Sublist.count_le _ (List.take_sublist_take_left (by omega))
  rw [h1, List.count_append] at h2
  simp at h2; omega
theorem posC_lt {l : List Nat} {i : Nat} (hi : i < l.length) (hn : 0 < l.getD i 0) : posC l i + 1 ≤ codeC l (l.getD i 0) + cntC l (l.getD i 0) := by
  have := take_count_lt hi rfl hi
  rw [List.take_length] at this
  rw [posC, cntC, if_neg (by omega)]; omega
theorem codeC_far (l : List Nat) (n d : Nat) : (codeC l n + cntC l n) * 2 ^ (d + 1) ≤ codeC l (n + d + 1) := by
  induction d with
  | zero => rw [codeC]; exact Nat.le_refl _
  | succ d ih =>
    rw [Nat.pow_succ, ← Nat.mul_assoc, show n + (d + 1) + 1 = (n + d + 1) + 1 from rfl, codeC]
    exact Nat.mul_le_mul_right _ (by omega)
theorem num_wordC {l : List Nat} (ok : OkC l) {i : Nat} (hi : i < l.length) (hn : 0 < l.getD i 0) (h30 : l.getD i 0 ≤ 30) : numB (wordC l i) = posC l i := by
  rw [wordC, numB_wordB]
  exact Nat.mod_eq_of_lt (by have := posC_lt hi hn; have := ok _ h30; rw [posC] at *; omega)
theorem bit_wordC (l : List Nat) (i : Nat) : Bit (wordC l i) := bit_wordB _ _

theorem wordC_free {l : List Nat} (ok : OkC l) (h30 : ∀ n ∈ l, n ≤ 30) {i k : Nat} (hi : i < l.length) (hk : k < l.length) (hik : i ≠ k) (hn : 0 < l.getD i 0) : ¬ wordC l i <+: wordC l k := by
  rintro ⟨r, hr⟩
  have g : ∀ j, l.getD j 0 ≤ 30 := fun j => by
    rw [List.getD_eq_getElem?_getD]
    cases e : l[j]? with
    | none => simp
    | some b => exact h30 b (List.mem_of_getElem? e)
  have hl := congrArg List.length hr
  rw [List.length_append, length_wordC, length_wordC] at hl
  have hb : Bit r := fun b hx => bit_wordC l k b (by rw [← hr]; exact List.mem_append_right _ hx)
  have hnum := congrArg numB hr
  rw [numB_append, num_wordC ok hi hn (g i), num_wordC ok hk (by omega) (g k)] at hnum
  have hlt := numB_lt hb
  rcases e : r.length with _ | d
  · rw [e] at hl hnum hlt
    have hE : l.getD k 0 = l.getD i 0 := by omega
    rw [posC, posC, hE] at hnum
    rcases Nat.lt_or_ge i k with h | h
    · have := take_count_lt hi rfl h
      rw [Nat.pow_zero] at hnum hlt; omega
    · have := take_count_lt hk hE (show k < i by omega)
      rw [Nat.pow_zero] at hnum hlt; omega
  · rw [e] at hl hnum hlt
    have h1 := posC_lt hi hn
    have h2 := codeC_far l (l.getD i 0) d
    have h3 : codeC l (l.getD i 0 + d + 1) ≤ posC l k := by rw [posC, ← hl, show l.getD i 0 + (d + 1) = l.getD i 0 + d + 1 from rfl]; omega
    have h4 := Nat.mul_le_mul_right (2 ^ (d + 1)) h1
    rw [Nat.add_mul] at h4
    omega
theorem wordC_rise {l : List Nat} (ok : OkC l) (h30 : ∀ n ∈ l, n ≤ 30) {i k : Nat} (hi : i < k) (hk : k < l.length) (he : l.getD i 0 = l.getD k 0) (hn : 0 < l.getD i 0) : numB (wordC l i) < numB (wordC l k) := by
  have hm : l.getD i 0 ≤ 30 := by
    rw [List.getD_eq_getElem?_getD, List.getElem?_eq_getElem (by omega)]; exact h30 _ (List.getElem_mem _)
  rw [num_wordC ok (by omega) hn hm, num_wordC ok hk (by omega) (by omega), posC, posC, ← he]
  have := take_count_lt (show i < l.length by omega) rfl hi
  omega

theorem dg_inj {a b : Nat} (ha : a ≤ 1) (hb : b ≤ 1) (h : dg a = dg b) : a = b := by
  have := congrArg UInt8.toNat h
  rw [toNat_dg ha, toNat_dg hb] at this; omega
theorem tx_inj {l m : List Nat} (hl : Bit l) (hm : Bit m) (h : tx l = tx m) : l = m := by
  induction l generalizing m with
  | nil => cases m with
    | nil => rfl
    | cons b m => simp at h
  | cons a l ih => cases m with
    | nil => simp at h
    | cons b m =>
      rw [tx_cons, tx_cons, List.cons.injEq] at h
      rw [dg_inj (hl a (by simp)) (hm b (by simp)) h.1, ih (fun c hc => hl c (by simp [hc])) (fun c hc => hm c (by simp [hc])) h.2]
theorem tx_prefix {l m : List Nat} (hl : Bit l) (hm : Bit m) (h : tx l <+: tx m) : l <+: m := by
  have := List.prefix_iff_eq_take.1 h
  rw [length_tx, tx_take] at this
  rw [tx_inj hl (hm.take _) this]
  exact List.take_prefix _ _
theorem tx_less {l m : List Nat} (hl : Bit l) (hm : Bit m) (he : l.length = m.length) (h : numB l < numB m) : Go.Op.bytesLess (tx l) (tx m) = true := by
  induction l generalizing m with
  | nil => cases m with
    | nil => simp [numB] at h
    | cons b m => simp at he
  | cons a l ih => cases m with
    | nil => simp at he
    | cons b m =>
      simp only [List.length_cons, Nat.add_right_cancel_iff] at he
      have ha := hl a (by simp); have hb := hm b (by simp)
      have hl' : Bit l := fun c hc => hl c (by simp [hc])
      have hm' : Bit m := fun c hc => hm c (by simp [hc])
      rw [numB_cons, numB_cons, he] at h
      have h1 := numB_lt hl'; have h2 := numB_lt hm'
      rw [he] at h1
      rw [tx_cons, tx_cons, Go.Op.bytesLess]
      by_cases hab : a = b
      · subst hab
        simp [ih hl' hm' he (by omega)]
      · have h3 : a = 0 ∧ b = 1 := by
          rcases (show a = 0 ∨ a = 1 by omega) with rfl | rfl <;> rcases (show b = 0 ∨ b = 1 by omega) with rfl | rfl <;> simp at * <;> omega
        obtain ⟨rfl, rfl⟩ := h3
        rfl
#print axioms tx_less
#print axioms wordC_free
end Go.Mz
