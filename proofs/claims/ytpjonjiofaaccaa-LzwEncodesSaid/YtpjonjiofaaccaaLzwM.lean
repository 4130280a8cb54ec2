/-
  Layer 5 (lzw): what codes stand for, as plain Lean; no program.
-/
import Derived.Test.YtpjonjiofaaccaaWrM
namespace Go.Mz
open Go.RowKit
set_option linter.unusedVariables false
set_option linter.unusedSimpArgs false

abbrev Txt := List UInt8
def start0 : List Txt := (List.range 258).map fun i => [UInt8.ofNat i]
theorem length_start0 : start0.length = 258 := by simp [start0]
def widthL (k : Nat) (old : Bool) : Nat :=
  if cond old k (k + 1) < 512 then 9 else if cond old k (k + 1) < 1024 then 10 else if cond old k (k + 1) < 2048 then 11 else 12
theorem widthL_bd (k : Nat) (old : Bool) : 9 ≤ widthL k old ∧ widthL k old ≤ 12 := by
  unfold widthL; split
  · omega
  · split
    · omega
    · split <;> omega

/-- Texts of codes, the text of the code ahead (empty: none is), how many bits were read. -/
structure LS where
  L : List Txt
  a : Txt
  p : Nat

/-- The next code's number, of old or new kind. -/
def codeAt (bits : List Nat) (old : Bool) (s : LS) : Nat := numV old (fun i => bits.getD (s.p + i) 0) (widthL s.L.length old)

/-- The next code: the state behind it, its text; whether it is End; the error. -/
def codeS (bits : List Nat) (old : Bool) (s : LS) : LS × Txt × Bool × Nat :=
  if bits.length < s.p + widthL s.L.length old then (s, [], false, 2)
  else if codeAt bits old s = 256 then (⟨start0, [], s.p + widthL s.L.length old⟩, [], false, 0)
  else if codeAt bits old s = 257 then (⟨s.L, s.a, s.p + widthL s.L.length old⟩, [], true, 0)
  else if s.a = [] ∧ 255 < codeAt bits old s then (⟨s.L, s.a, s.p + widthL s.L.length old⟩, [], false, 6)
  else if s.a = [] then (⟨s.L, s.L.getD (codeAt bits old s) [], s.p + widthL s.L.length old⟩, s.L.getD (codeAt bits old s) [], false, 0)
  else if s.L.length < codeAt bits old s ∨ codeAt bits old s = s.L.length ∧ 4096 ≤ s.L.length then (⟨s.L, s.a, s.p + widthL s.L.length old⟩, [], false, 6)
  else
    let t := if codeAt bits old s < s.L.length then s.L.getD (codeAt bits old s) [] else s.a ++ s.a.take 1
    (⟨if s.L.length < 4096 then s.L ++ [s.a ++ t.take 1] else s.L, t, s.p + widthL s.L.length old⟩, t, false, 0)

/-- So many bytes; the error. -/
def decF (bits : List Nat) (old : Bool) (n : Nat) : Nat → LS → Txt → Txt × Nat
  | 0, _, _ => ([], 99)
  | f + 1, s, out =>
    if n ≤ out.length then (out, 0)
    else match codeS bits old s with
      | (s', t, e, err) =>
        if err ≠ 0 then ([], err)
        else if e then ([], 2)
        else if n < (out ++ t).length then ([], 5)
        else decF bits old n f s' (out ++ t)
def dec (bits : List Nat) (old : Bool) (n : Int) : Txt × Nat :=
  if n < 0 then ([], 1) else decF bits old n.toNat (bits.length + 1) ⟨start0, [], 0⟩ []

/-- What a table holds: codes ahead, last bytes, lengths. -/
def TabOk (L : List Txt) (ah : List Int) (la : List UInt8) (lo : List Nat) : Prop :=
  ah.length = L.length ∧ la.length = L.length ∧ lo.length = L.length ∧
  ∀ i t, L[i]? = some t → lo[i]? = some t.length ∧ t.length ≤ L.length ∧
    ∃ c, la[i]? = some c ∧ ((t = [c] ∧ ah[i]? = some (-1)) ∨ ∃ (j : Nat) (u : Txt), j < i ∧ L[j]? = some u ∧ u ≠ [] ∧ t = u ++ [c] ∧ ah[i]? = some (j : Int))

theorem TabOk.ne {L : List Txt} {ah la lo} (h : TabOk L ah la lo) {i : Nat} {t : Txt} (hi : L[i]? = some t) : t ≠ [] := by
  obtain ⟨_, _, c, _, ⟨rfl, _⟩ | ⟨j, u, _, _, _, rfl, _⟩⟩ := h.2.2.2 i t hi <;> simp

set_option maxRecDepth 10000 in
theorem tabOk_start : TabOk start0 (List.replicate 258 (-1)) ((List.range 258).map UInt8.ofNat) (List.replicate 258 1) := by
  refine ⟨by simp [start0], by simp [start0], by simp [start0], fun i t hi => ?_⟩
  have hlt : i < 258 := by
    have := (List.getElem?_eq_some_iff.1 hi).1
    rwa [length_start0] at this
  simp only [start0] at hi
  rw [List.getElem?_map, List.getElem?_range hlt] at hi
  cases hi
  refine ⟨?_, by simp [start0], UInt8.ofNat i, ?_, .inl ⟨rfl, ?_⟩⟩
  · rw [List.getElem?_replicate, if_pos hlt]; rfl
  · rw [List.getElem?_map, List.getElem?_range hlt]; rfl
  · rw [List.getElem?_replicate, if_pos hlt]

theorem tabOk_add {L : List Txt} {ah la lo} (h : TabOk L ah la lo) {j : Nat} {u : Txt} (hj : L[j]? = some u) (c : UInt8) :
    TabOk (L ++ [u ++ [c]]) (ah ++ [(j : Int)]) (la ++ [c]) (lo ++ [u.length + 1]) := by
  obtain ⟨h1, h2, h3, h4⟩ := h
  have hjl : j < L.length := (List.getElem?_eq_some_iff.1 hj).1
  have hne := TabOk.ne ⟨h1, h2, h3, h4⟩ hj
  refine ⟨by simp [h1], by simp [h2], by simp [h3], fun i t hi => ?_⟩
  by_cases hil : i < L.length
  · rw [List.getElem?_append_left hil] at hi
    obtain ⟨g1, g2, d, g3, g4⟩ := h4 i t hi
    refine ⟨by rw [List.getElem?_append_left (by omega)]; exact g1, by simp; omega, d, by rw [List.getElem?_append_left (by omega)]; exact g3, ?_⟩
    rcases g4 with ⟨rfl, g5⟩ | ⟨k, v, g5, g6, g7, g8, g9⟩
    · exact .inl ⟨rfl, by rw [List.getElem?_append_left (by omega)]; exact g5⟩
    · exact .inr ⟨k, v, g5, by rw [List.getElem?_append_left (by omega)]; exact g6, g7, g8, by rw [List.getElem?_append_left (by omega)]; exact g9⟩
  · have hie : i = L.length := by
      have := (List.getElem?_eq_some_iff.1 hi).1
      simp at this; omega
    subst hie
    rw [List.getElem?_append_right (Nat.le_refl _), Nat.sub_self] at hi
    cases hi
    obtain ⟨_, g2, _⟩ := h4 j u hj
    refine ⟨?_, by simp; omega, c, ?_, .inr ⟨j, u, hjl, by rw [List.getElem?_append_left hjl]; exact hj, hne, rfl, ?_⟩⟩
    · rw [List.getElem?_append_right (by omega), h3, Nat.sub_self]; simp
    · rw [List.getElem?_append_right (by omega), h2, Nat.sub_self]; rfl
    · rw [List.getElem?_append_right (by omega), h1, Nat.sub_self]; rfl
#print axioms tabOk_add
end Go.Mz
