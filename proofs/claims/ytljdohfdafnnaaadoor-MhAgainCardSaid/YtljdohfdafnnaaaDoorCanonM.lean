/-
  Layer 6 (huff): canonical words, as plain Lean; no program.
-/
import Derived.Test.YtljdohfdafnnaaaDoorRevM
namespace Go.Mz
open Go.RowKit
set_option linter.unusedVariables false
set_option linter.unusedSimpArgs false

theorem numB_append (l m : List Nat) : numB (l ++ m) = numB l * 2 ^ m.length + numB m := by
  rw [numB, List.foldl_append, foldl_num]; rfl
theorem numB_ones (k : Nat) : numB (List.replicate k 1) + 1 = 2 ^ k := by
  induction k with
  | zero => rfl
  | succ k ih => rw [List.replicate_succ, numB_cons, List.length_replicate, Nat.one_mul, Nat.add_assoc, ih, Nat.pow_succ]; omega
theorem numB_nils (k : Nat) : numB (List.replicate k 0) = 0 := by
  induction k with
  | zero => rfl
  | succ k ih => rw [List.replicate_succ, numB_cons, ih]; simp
theorem next_num (p : List Nat) (k : Nat) : numB (p ++ 1 :: List.replicate k 0) = numB (p ++ 0 :: List.replicate k 1) + 1 := by
  rw [numB_append, numB_append, numB_cons, numB_cons, numB_nils]
  have := numB_ones k
  simp only [List.length_cons, List.length_replicate]
  omega

/-- How many words there are of the length. -/
def cntC (l : List Nat) (n : Nat) : Nat := if n = 0 then 0 else l.count n
/-- The first code of the length. -/
def codeC (l : List Nat) : Nat → Nat
  | 0 => 0
  | n + 1 => (codeC l n + cntC l n) * 2
def OkC (l : List Nat) : Prop := ∀ n, n ≤ 30 → codeC l n + cntC l n ≤ 2 ^ n
instance (l : List Nat) : Decidable (OkC l) := inferInstanceAs (Decidable (∀ n, n ≤ 30 → _))
def wordC (l : List Nat) (i : Nat) : List Nat := wordB (codeC l (l.getD i 0) + (l.take i).count (l.getD i 0)) (l.getD i 0)
def wordsC (l : List Nat) : List (List Nat) := (List.range l.length).map (wordC l)
def fullC (l : List Nat) : Bool := codeC l 31 == 2 ^ 31

theorem length_wordC (l : List Nat) (i : Nat) : (wordC l i).length = l.getD i 0 := by rw [wordC, length_wordB]

/-- Where the document stands: of the length n, r words are laid; the last word. -/
def StandC (l : List Nat) (n r : Nat) (was : List Nat) (first : Bool) : Prop :=
  (first = true ∧ was = [] ∧ codeC l n + r = 0) ∨ (first = false ∧ Bit was ∧ was.length ≤ n ∧ (numB was + 1) * 2 ^ (n - was.length) = codeC l n + r)

theorem StandC.le {l : List Nat} {n r : Nat} {was : List Nat} {first : Bool} (h : StandC l n r was first) : codeC l n + r ≤ 2 ^ n := by
  rcases h with ⟨_, _, h⟩ | ⟨_, hb, hl, h⟩
  · rw [h]; exact Nat.zero_le _
  · rw [← h]
    have := numB_lt hb
    calc (numB was + 1) * 2 ^ (n - was.length) ≤ 2 ^ was.length * 2 ^ (n - was.length) := Nat.mul_le_mul_right _ this
      _ = 2 ^ n := by rw [← Nat.pow_add]; congr 1; omega

theorem StandC.up {l : List Nat} {n : Nat} {was : List Nat} {first : Bool} (h : StandC l n (cntC l n) was first) : StandC l (n + 1) 0 was first := by
  rcases h with ⟨h1, h2, h⟩ | ⟨h1, hb, hl, h⟩
  · exact .inl ⟨h1, h2, by rw [codeC]; omega⟩
  · refine .inr ⟨h1, hb, by omega, ?_⟩
    rw [codeC, ← h, Nat.add_zero, Nat.mul_assoc, ← Nat.pow_succ]
    congr 2; omega

/-- The first word of all. -/
theorem StandC.one {l : List Nat} {n r : Nat} {was : List Nat} (h : StandC l n r was true) : List.replicate n 0 = wordB (codeC l n + r) n ∧ StandC l n (r + 1) (List.replicate n 0) false := by
  rcases h with ⟨_, _, h⟩ | ⟨h1, _⟩
  · have e := wordB_num (List.replicate n 0) (bit_rep n)
    rw [numB_nils, List.length_replicate] at e
    refine ⟨by rw [h, e], .inr ⟨rfl, bit_rep n, by simp, ?_⟩⟩
    rw [numB_nils, List.length_replicate, Nat.sub_self]
    omega
  · cases h1

/-- One more word. -/
theorem StandC.more {l : List Nat} {n r k : Nat} {p : List Nat} (h : StandC l n r (p ++ 0 :: List.replicate k 1) false) :
    (p ++ 1 :: List.replicate k 0) ++ List.replicate (n - (p.length + k + 1)) 0 = wordB (codeC l n + r) n ∧ StandC l n (r + 1) ((p ++ 1 :: List.replicate k 0) ++ List.replicate (n - (p.length + k + 1)) 0) false := by
  rcases h with ⟨h1, _⟩ | ⟨_, hb, hl, h⟩
  · cases h1
  · have hlen : (p ++ 0 :: List.replicate k 1).length = p.length + k + 1 := by simp; omega
    rw [hlen] at hl h
    have hbp : Bit p := fun b hx => hb b (List.mem_append_left _ hx)
    have hb2 : Bit ((p ++ 1 :: List.replicate k 0) ++ List.replicate (n - (p.length + k + 1)) 0) := by
      refine (hbp.append fun b hx => ?_).append (bit_rep _)
      rcases List.mem_cons.1 hx with rfl | hx
      · omega
      · exact bit_rep k b hx
    have hn : numB ((p ++ 1 :: List.replicate k 0) ++ List.replicate (n - (p.length + k + 1)) 0) = codeC l n + r := by
      rw [numB_append, numB_nils, next_num, List.length_replicate]
      omega
    have hl2 : ((p ++ 1 :: List.replicate k 0) ++ List.replicate (n - (p.length + k + 1)) 0).length = n := by simp; omega
    have e := wordB_num _ hb2
    rw [hn, hl2] at e
    refine ⟨e.symm, .inr ⟨rfl, hb2, by omega, ?_⟩⟩
    rw [hl2, hn, Nat.sub_self]
    omega

/-- There is no more. -/
theorem StandC.none {l : List Nat} {n r k : Nat} (h : StandC l n r (List.replicate k 1) false) : codeC l n + r = 2 ^ n := by
  rcases h with ⟨h1, _⟩ | ⟨_, hb, hl, h⟩
  · cases h1
  · rw [List.length_replicate] at hl h
    rw [← h, numB_ones, ← Nat.pow_add]
    congr 1; omega
theorem StandC.not_full {l : List Nat} {n r k : Nat} {p : List Nat} (h : StandC l n r (p ++ 0 :: List.replicate k 1) false) : codeC l n + r < 2 ^ n := by
  have := (h.more.2).le
  omega
#print axioms StandC.more
end Go.Mz
