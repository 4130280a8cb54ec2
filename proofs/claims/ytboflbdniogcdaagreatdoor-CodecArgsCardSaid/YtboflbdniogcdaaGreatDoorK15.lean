/-
  Parts of a proof.
-/
import Derived.Lib.Strings
import Derived.Test.YtboflbdniogcdaaGreatDoorK04
namespace Go.Mz
open Go.RowKit
set_option linter.unusedVariables false
set_option linter.unusedSimpArgs false
theorem numB_append (l m : List Nat) : numB (l ++ m) = numB l * 2 ^ m.length + numB m := by
 rw [numB, List.foldl_append, foldl_num]; rfl
theorem numB_ones (k : Nat) : numB (List.replicate k 1) + 1 = 2 ^ k := by
 induction k with
 | zero => rfl
 | succ k ih => rw [List.replicate_succ, numB_cons, List.length_replicate, Nat.one_mul, Nat.add_assoc, ih, Nat.pow_succ]; omega
theorem numB_nils (k : Nat) : numB (List.replicate k 0) = 0 := by
 induction k with
 | zero => rfl
 | succ k ih => rw [List.replicate_succ, numB_cons, ih]; simp
theorem next_num (p : List Nat) (k : Nat) : numB (p ++ 1 :: List.replicate k 0) = numB (p ++ 0 :: List.replicate k 1) + 1 := by
 rw [numB_append, numB_append, numB_cons, numB_cons, numB_nils]
 have := numB_ones k
 simp only [List.length_cons, List.length_replicate]
 omega
def cntC (l : List Nat) (n : Nat) : Nat := if n = 0 then 0 else l.count n
def codeC (l : List Nat) : Nat → Nat
 | 0 => 0
 | n + 1 => (codeC l n + cntC l n) * 2
def OkC (l : List Nat) : Prop := ∀ n, n ≤ 30 → codeC l n + cntC l n ≤ 2 ^ n
instance (l : List Nat) : Decidable (OkC l) := inferInstanceAs (Decidable (∀ n, n ≤ 30 → _))
def wordC (l : List Nat) (i : Nat) : List Nat := wordB (codeC l (l.getD i 0) + (l.take i).count (l.getD i 0)) (l.getD i 0)
def wordsC (l : List Nat) : List (List Nat) := (List.range l.length).map (wordC l)
def fullC (l : List Nat) : Bool := codeC l 31 == 2 ^ 31
theorem length_wordC (l : List Nat) (i : Nat) : (wordC l i).length = l.getD i 0 := by rw [wordC, length_wordB]
def StandC (l : List Nat) (n r : Nat) (was : List Nat) (first : Bool) : Prop :=
 (first = true ∧ was = [] ∧ codeC l n + r = 0) ∨ (first = false ∧ Bit was ∧ was.length ≤ n ∧ (numB was + 1) * 2 ^ (n - was.length) = codeC l n + r)
theorem StandC.le {l : List Nat} {n r : Nat} {was : List Nat} {first : Bool} (h : StandC l n r was first) : codeC l n + r ≤ 2 ^ n := by
 rcases h with ⟨_, _, h⟩ | ⟨_, hb, hl, h⟩
 ·rw [h]; exact Nat.zero_le _
 ·rw [← h]
  have := numB_lt hb
  calc (numB was + 1) * 2 ^ (n - was.length) ≤ 2 ^ was.length * 2 ^ (n - was.length) := Nat.mul_le_mul_right _ this
   _ = 2 ^ n := by rw [← Nat.pow_add]; congr 1; omega
theorem StandC.up {l : List Nat} {n : Nat} {was : List Nat} {first : Bool} (h : StandC l n (cntC l n) was first) : StandC l (n + 1) 0 was first := by
 rcases h with ⟨h1, h2, h⟩ | ⟨h1, hb, hl, h⟩
 ·exact .inl ⟨h1, h2, by rw [codeC]; omega⟩
 ·refine .inr ⟨h1, hb, by omega, ?_⟩
  rw [codeC, ← h, Nat.add_zero, Nat.mul_assoc, ← Nat.pow_succ]
  congr 2; omega
theorem StandC.one {l : List Nat} {n r : Nat} {was : List Nat} (h : StandC l n r was true) : List.replicate n 0 = wordB (codeC l n + r) n ∧ StandC l n (r + 1) (List.replicate n 0) false := by
 rcases h with ⟨_, _, h⟩ | ⟨h1, _⟩
 ·have e := wordB_num (List.replicate n 0) (bit_rep n)
  rw [numB_nils, List.length_replicate] at e
  refine ⟨by rw [h, e], .inr ⟨rfl, bit_rep n, by simp, ?_⟩⟩
  rw [numB_nils, List.length_replicate, Nat.sub_self]
  omega
 ·cases h1
theorem StandC.more {l : List Nat} {n r k : Nat} {p : List Nat} (h : StandC l n r (p ++ 0 :: List.replicate k 1) false) :
  (p ++ 1 :: List.replicate k 0) ++ List.replicate (n - (p.length + k + 1)) 0 = wordB (codeC l n + r) n ∧ StandC l n (r + 1) ((p ++ 1 :: List.replicate k 0) ++ List.replicate (n - (p.length + k + 1)) 0) false := by
 rcases h with ⟨h1, _⟩ | ⟨_, hb, hl, h⟩
 ·cases h1
 ·have hlen : (p ++ 0 :: List.replicate k 1).length = p.length + k + 1 := by simp; omega
  rw [hlen] at hl h
  have hbp : Bit p := fun b hx => hb b (List.mem_append_left _ hx)
  have hb2 : Bit ((p ++ 1 :: List.replicate k 0) ++ List.replicate (n - (p.length + k + 1)) 0) := by
   refine (hbp.append fun b hx => ?_).append (bit_rep _)
   rcases List.mem_cons.1 hx with rfl | hx
   ·omega
   ·exact bit_rep k b hx
  have hn : numB ((p ++ 1 :: List.replicate k 0) ++ List.replicate (n - (p.length + k + 1)) 0) = codeC l n + r := by
   rw [numB_append, numB_nils, next_num, List.length_replicate]
   omega
  have hl2 : ((p ++ 1 :: List.replicate k 0) ++ List.replicate (n - (p.length + k + 1)) 0).length = n := by simp; omega
  have e := wordB_num _ hb2
  rw [hn, hl2] at e
  refine ⟨e.symm, .inr ⟨rfl, hb2, by omega, ?_⟩⟩
  rw [hl2, hn, Nat.sub_self]
  omega
theorem StandC.none {l : List Nat} {n r k : Nat} (h : StandC l n r (List.replicate k 1) false) : codeC l n + r = 2 ^ n := by
 rcases h with ⟨h1, _⟩ | ⟨_, hb, hl, h⟩
 ·cases h1
 ·rw [List.length_replicate] at hl h
  rw [← h, numB_ones, ← Nat.pow_add]
  congr 1; omega
end Go.Mz
namespace Go.Mz
open Go.RowKit
set_option linter.unusedVariables false
set_option linter.unusedSimpArgs false
def posC (l : List Nat) (i : Nat) : Nat := codeC l (l.getD i 0) + (l.take i).count (l.getD i 0)
theorem take_count_lt {l : List Nat} {i k n : Nat} (hi : i < l.length) (hn : l.getD i 0 = n) (hk : i < k) : (l.take i).count n < (l.take k).count n := by
 have h1 : l.take (i + 1) = l.take i ++ [n] := by
  rw [List.take_add_one, List.getElem?_eq_getElem hi, ← hn, List.getD_eq_getElem?_getD, List.getElem?_eq_getElem hi]; rfl
 have h2 : (l.take (i + 1)).count n ≤ (l.take k).count n := List.Sublist.count_le _ (List.take_sublist_take_left (by omega))
 rw [h1, List.count_append] at h2
 simp at h2; omega
theorem posC_lt {l : List Nat} {i : Nat} (hi : i < l.length) (hn : 0 < l.getD i 0) : posC l i + 1 ≤ codeC l (l.getD i 0) + cntC l (l.getD i 0) := by
 have := take_count_lt hi rfl hi
 rw [List.take_length] at this
 rw [posC, cntC, if_neg (by omega)]; omega
theorem codeC_far (l : List Nat) (n d : Nat) : (codeC l n + cntC l n) * 2 ^ (d + 1) ≤ codeC l (n + d + 1) := by
 induction d with
 | zero => rw [codeC]; exact Nat.le_refl _
 | succ d ih =>
  rw [Nat.pow_succ, ← Nat.mul_assoc, show n + (d + 1) + 1 = (n + d + 1) + 1 from rfl, codeC]
  exact Nat.mul_le_mul_right _ (by omega)
theorem num_wordC {l : List Nat} (ok : OkC l) {i : Nat} (hi : i < l.length) (hn : 0 < l.getD i 0) (h30 : l.getD i 0 ≤ 30) : numB (wordC l i) = posC l i := by
 rw [wordC, numB_wordB]
 exact Nat.mod_eq_of_lt (by have := posC_lt hi hn; have := ok _ h30; rw [posC] at *; omega)
theorem bit_wordC (l : List Nat) (i : Nat) : Bit (wordC l i) := bit_wordB _ _
theorem wordC_free {l : List Nat} (ok : OkC l) (h30 : ∀ n ∈ l, n ≤ 30) {i k : Nat} (hi : i < l.length) (hk : k < l.length) (hik : i ≠ k) (hn : 0 < l.getD i 0) : ¬ wordC l i <+: wordC l k := by
 rintro ⟨r, hr⟩
 have g : ∀ j, l.getD j 0 ≤ 30 := fun j => by
  rw [List.getD_eq_getElem?_getD]
  cases e : l[j]? with
  | none => simp
  | some b => exact h30 b (List.mem_of_getElem? e)
 have hl := congrArg List.length hr
 rw [List.length_append, length_wordC, length_wordC] at hl
 have hb : Bit r := fun b hx => bit_wordC l k b (by rw [← hr]; exact List.mem_append_right _ hx)
 have hnum := congrArg numB hr
 rw [numB_append, num_wordC ok hi hn (g i), num_wordC ok hk (by omega) (g k)] at hnum
 have hlt := numB_lt hb
 rcases e : r.length with _ | d
 ·rw [e] at hl hnum hlt
  have hE : l.getD k 0 = l.getD i 0 := by omega
  rw [posC, posC, hE] at hnum
  rcases Nat.lt_or_ge i k with h | h
  ·have := take_count_lt hi rfl h
   rw [Nat.pow_zero] at hnum hlt; omega
  ·have := take_count_lt hk hE (show k < i by omega)
   rw [Nat.pow_zero] at hnum hlt; omega
 ·rw [e] at hl hnum hlt
  have h1 := posC_lt hi hn
  have h2 := codeC_far l (l.getD i 0) d
  have h3 : codeC l (l.getD i 0 + d + 1) ≤ posC l k := by rw [posC, ← hl, show l.getD i 0 + (d + 1) = l.getD i 0 + d + 1 from rfl]; omega
  have h4 := Nat.mul_le_mul_right (2 ^ (d + 1)) h1
  rw [Nat.add_mul] at h4
  omega
end Go.Mz
