/-
  Layer 5: what holds of every state of the document's decoder; plain Lean, no program.
-/
import Derived.Test.YtpjonjiofaaccaaLzwN
namespace Go.Mz
open Go.RowKit
set_option linter.unusedVariables false
set_option linter.unusedSimpArgs false

structure LOk (bits : List Nat) (s : LS) : Prop where
  L1 : 258 ≤ s.L.length
  L2 : s.L.length ≤ 4096
  lt : ∀ (i : Nat) (t : Txt), s.L[i]? = some t → t ≠ [] ∧ t.length ≤ s.L.length
  al : s.a.length ≤ s.L.length
  pl : s.p ≤ bits.length

theorem start0_lt : ∀ (i : Nat) (t : Txt), start0[i]? = some t → t ≠ [] ∧ t.length ≤ start0.length := by
  intro i t h
  simp only [start0, List.getElem?_map] at h
  cases hq : (List.range 258)[i]? with
  | none => rw [hq] at h; cases h
  | some x => rw [hq] at h; cases h; exact ⟨by simp, by rw [length_start0]; simp⟩

theorem LOk.start (bits : List Nat) : LOk bits ⟨start0, [], 0⟩ :=
  ⟨by simp only [length_start0]; omega, by simp only [length_start0]; omega, start0_lt, by simp, by simp⟩

theorem codeS_inv {bits : List Nat} {old : Bool} {s s' : LS} {t : Txt} {e : Bool} {err : Nat} (h : LOk bits s) (hc : codeS bits old s = (s', t, e, err)) :
    LOk bits s' ∧ t.length ≤ 4096 ∧ (err = 0 → s.p + 9 ≤ s'.p) := by
  obtain ⟨L1, L2, lt, al, pl⟩ := h
  have hw := widthL_bd s.L.length old
  have gl : (s.L.getD (codeAt bits old s) []).length ≤ s.L.length := by
    rw [List.getD_eq_getElem?_getD]
    cases hq : s.L[codeAt bits old s]? with
    | none => simp
    | some x => simpa using (lt _ _ hq).2
  unfold codeS at hc
  split at hc
  · cases hc; exact ⟨⟨L1, L2, lt, al, pl⟩, by simp, fun h => by cases h⟩
  rename_i hp
  split at hc
  · cases hc
    exact ⟨⟨by simp only [length_start0]; omega, by simp only [length_start0]; omega, start0_lt, by simp, by simp only; omega⟩, by simp, fun _ => by simp only; omega⟩
  split at hc
  · cases hc; exact ⟨⟨L1, L2, lt, al, by simp only; omega⟩, by simp, fun _ => by simp only; omega⟩
  split at hc
  · cases hc; exact ⟨⟨L1, L2, lt, al, by simp only; omega⟩, by simp, fun _ => by simp only; omega⟩
  split at hc
  · cases hc; exact ⟨⟨L1, L2, lt, gl, by simp only; omega⟩, by omega, fun _ => by simp only; omega⟩
  rename_i ha
  split at hc
  · cases hc; exact ⟨⟨L1, L2, lt, al, by simp only; omega⟩, by simp, fun _ => by simp only; omega⟩
  rename_i hn
  simp only at hc
  generalize ht : (if codeAt bits old s < s.L.length then s.L.getD (codeAt bits old s) [] else s.a ++ s.a.take 1) = u at hc
  have hu : u.length ≤ s.L.length ∨ s.L.length < 4096 ∧ u.length ≤ s.L.length + 1 := by
    rw [← ht]
    split
    · exact .inl gl
    · refine .inr ⟨by omega, ?_⟩
      rw [List.length_append, List.length_take]; omega
  cases hc
  by_cases hf : s.L.length < 4096
  · rw [if_pos hf]
    refine ⟨⟨?_, ?_, ?_, ?_, by simp only; omega⟩, by omega, fun _ => by simp only; omega⟩
    · simp only [List.length_append, List.length_cons, List.length_nil]; omega
    · simp only [List.length_append, List.length_cons, List.length_nil]; omega
    · intro i x hi
      simp only at hi ⊢
      rw [List.length_append]
      by_cases hil : i < s.L.length
      · rw [List.getElem?_append_left hil] at hi
        have := lt i x hi
        exact ⟨this.1, by omega⟩
      · rw [List.getElem?_append_right (by omega)] at hi
        have hx : x = s.a ++ t.take 1 := by
          cases hq : i - s.L.length with
          | zero => rw [hq] at hi; simpa using hi.symm
          | succ m => rw [hq] at hi; simp at hi
        subst hx
        refine ⟨by simp [ha], ?_⟩
        rw [List.length_append, List.length_take, List.length_cons, List.length_nil]; omega
    · simp only [List.length_append, List.length_cons, List.length_nil]; omega
  · rw [if_neg hf]
    exact ⟨⟨L1, L2, lt, by simp only; omega, by simp only; omega⟩, by omega, fun _ => by simp only; omega⟩
#print axioms codeS_inv
end Go.Mz
