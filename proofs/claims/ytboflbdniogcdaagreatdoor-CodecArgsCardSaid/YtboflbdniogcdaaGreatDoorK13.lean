/-
  Parts of a proof.
-/
import Derived.Test.YtboflbdniogcdaaGreatDoorK01
import Derived.Deep.Slices
import Derived.Deep.Fields
import Derived.ProofKit
namespace Go.Mz
open Go.RowKit Go.ChangeShapes Go.WideShapes Go.Deep
set_option linter.unusedVariables false
set_option linter.unusedSimpArgs false
section
variable {H : Type} {enc : TypeId × Value → H} {P : Program} {w : World} {base : Nat} {spare : Nat → Bool} {held : Bool}
end
theorem flat_get {α : Type} (enc : α → List Value) (m : Nat) (hm : ∀ x, (enc x).length = m) (l : List α) (k : Nat) (x : α) (h : l[k]? = some x) (j : Nat) (hj : j < m) : (l.flatMap enc)[k * m + j]? = (enc x)[j]? := by
 induction l generalizing k with
 | nil => simp at h
 | cons p l ih =>
  cases k with
  | zero =>
   simp only [List.getElem?_cons_zero, Option.some.injEq] at h
   subst h
   rw [List.flatMap_cons, Nat.zero_mul, Nat.zero_add, List.getElem?_append_left (by rw [hm]; exact hj)]
  | succ k =>
   simp only [List.getElem?_cons_succ] at h
   rw [List.flatMap_cons, List.getElem?_append_right (by rw [hm, Nat.succ_mul]; omega), ← ih k h, hm]
   congr 1; rw [Nat.succ_mul]; omega
theorem length_flat {α : Type} (enc : α → List Value) (m : Nat) (hm : ∀ x, (enc x).length = m) (l : List α) : (l.flatMap enc).length = l.length * m := by
 induction l with
 | nil => simp
 | cons p l ih => rw [List.flatMap_cons, List.length_append, hm, ih, List.length_cons, Nat.succ_mul]; omega
theorem reads_of_cells {α : Type} {w : World} (enc : α → List Value) {m : Nat} (hpos : 0 < m) (hm : ∀ x, (enc x).length = m) {a : Addr} {len cap : Nat} (hl : len ≤ cap) (hc : cap ≤ maxLen) (l : List α) (hlen : l.length = len)
  (h : ∀ k x, l[k]? = some x → ∀ j u, (enc x)[j]? = some u → w.cell? (a.add (k * m + j)) = some u) : Reads w m (.slice (some a) len cap) len (l.flatMap enc) := by
 refine ⟨by rw [length_flat enc m hm, hlen], .inr ⟨a, cap, rfl, hl, hc, fun i u hu => ?_⟩⟩
 have hi : i < l.length * m := by
  have := (List.getElem?_eq_some_iff.1 hu).1
  rwa [length_flat enc m hm] at this
 have hk : i / m < l.length := (Nat.div_lt_iff_lt_mul hpos).2 hi
 have hx : l[i / m]? = some l[i / m] := List.getElem?_eq_getElem hk
 have e := Nat.div_add_mod' i m
 have hj : i % m < m := Nat.mod_lt _ hpos
 have g := flat_get enc m hm l (i / m) _ hx (i % m) hj
 rw [e, hu] at g
 have := h _ _ hx (i % m) u g.symm
 rwa [e] at this
theorem reads_of_each {α : Type} [Inhabited α] {w : World} (enc : α → List Value) {m : Nat} (hpos : 0 < m) (hm : ∀ x, (enc x).length = m) {a : Addr} {len cap : Nat} (hl : len ≤ cap) (hc : cap ≤ maxLen) (Q : α → Prop)
  (hx : ∀ i, i < len → ∃ x : α, (∀ j u, (enc x)[j]? = some u → w.cell? (a.add (i * m + j)) = some u) ∧ Q x) :
  ∃ l : List α, l.length = len ∧ Reads w m (.slice (some a) len cap) len (l.flatMap enc) ∧ ∀ x ∈ l, Q x := by
 obtain ⟨f, hf⟩ := Deep.choose_lt (α := α) hx
 refine ⟨(List.range len).map f, by simp, reads_of_cells enc hpos hm hl hc _ (by simp) ?_, ?_⟩
 ·intro k o hk j u hu
  have hk' : k < len := by
   have := (List.getElem?_eq_some_iff.1 hk).1
   simpa using this
  rw [List.getElem?_map, List.getElem?_range hk'] at hk
  cases hk
  exact (hf k hk').1 j u hu
 ·intro o ho
  obtain ⟨i, hi, rfl⟩ := List.mem_map.1 ho
  exact (hf i (List.mem_range.1 hi)).2
end Go.Mz
