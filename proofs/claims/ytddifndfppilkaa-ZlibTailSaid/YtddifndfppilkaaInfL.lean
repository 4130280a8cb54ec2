/-
  Layer 8 (inflate): how far blocks reach, and how many bytes come; plain Lean.
-/
import Derived.Test.YtddifndfppilkaaInfH
namespace Go.Proofs.Ytddifndfppilkaa
open Go.RowKit Go.Mz
set_option linter.unusedVariables false
set_option linter.unusedSimpArgs false
set_option maxRecDepth 10000

/-- Behind a place within, as many bytes as may be. -/
def UpS (t : List Nat) (most q : Nat) (o : List UInt8) : Prop := q ≤ t.length ∧ o.length ≤ most
theorem rdW_up {W : List (List Nat)} {t : List Nat} {p k v : Nat} (hp : p ≤ t.length) (h : rdW W [] (t.drop p) = (k, .inl v)) : p + k ≤ t.length := by
  have := (rdW_len W (t.drop p) []).2.1
  rw [h, List.length_nil, List.length_drop] at this
  simp only at this
  omega
theorem bytesF_up {t : List Nat} {most : Nat} : ∀ (n p q : Nat) (out o : List UInt8), bytesF t most n p out = .inr (q, o) → UpS t most p out → UpS t most q o := by
  intro n
  induction n with
  | zero => intro p q out o h u; rw [bytesF] at h; cases h; exact u
  | succ n ih =>
    intro p q out o h u
    rw [bytesF] at h
    split at h
    · cases h
    · split at h
      · cases h
      · refine ih _ _ _ _ h ⟨by omega, ?_⟩
        rw [List.length_append, List.length_singleton]; omega
theorem storedF_up {t : List Nat} {most p q : Nat} {out o : List UInt8} (h : storedF t most p out = .inr (q, o)) (u : UpS t most p out) : UpS t most q o := by
  rw [storedF] at h
  split at h
  · cases h
  · split at h
    · cases h
    · exact bytesF_up _ _ _ _ _ h ⟨by omega, u.2⟩
theorem numberF_up {t : List Nat} {l : List (Nat × Nat)} {i p q d : Nat} (h : numberF t l i p = .inr (q, d)) : q ≤ t.length := by
  rw [numberF] at h
  split at h
  · cases h
  · split at h
    · cases h
    · cases h; omega
theorem copyR_up {t : List Nat} {B : List (List Nat)} {most n p q : Nat} {out o : List UInt8} (h : copyR t B most n p out = .inr (q, o)) : UpS t most q o := by
  rw [copyR] at h
  split at h
  · cases h
  · split at h
    · cases h
    · rename_i e
      have := numberF_up e
      split at h
      · cases h
      · split at h
        · cases h
        · cases h
          refine ⟨this, ?_⟩
          rw [copyF_len]; omega
theorem blockS_up {t : List Nat} {A B : List (List Nat)} {most p q : Nat} {out o : List UInt8} {d : Bool} (h : blockS t A B most p out = .inr (q, o, d)) (u : UpS t most p out) : UpS t most q o := by
  rw [blockS] at h
  split at h
  · cases h
  · rename_i k v e
    have hk := rdW_up u.1 e
    split at h
    · cases h; exact ⟨hk, u.2⟩
    · split at h
      · split at h
        · cases h
        · cases h
          refine ⟨hk, ?_⟩
          rw [List.length_append, List.length_singleton]; omega
      · split at h
        · cases h
        · split at h
          · cases h
          · rename_i e2
            cases h
            exact copyR_up e2
theorem blockF_up {t : List Nat} {A B : List (List Nat)} {most : Nat} : ∀ (f p q : Nat) (out o : List UInt8), blockF t A B most f p out = .inr (q, o) → UpS t most p out → UpS t most q o := by
  intro f
  induction f with
  | zero => intro p q out o h; rw [blockF] at h; cases h
  | succ f ih =>
    intro p q out o h u
    rw [blockF] at h
    cases e : blockS t A B most p out with
    | inl e' => rw [e] at h; cases h
    | inr x =>
      obtain ⟨q1, o1, d⟩ := x
      rw [e] at h
      have h1 := blockS_up e u
      cases d with
      | true => simp only at h; cases h; exact h1
      | false => simp only at h; exact ih _ _ _ _ h h1
theorem blockL_up {t : List Nat} {la lb : List Nat} {how most p q : Nat} {out o : List UInt8} (h : blockL t la lb how most p out = .inr (q, o)) (u : UpS t most p out) : UpS t most q o := by
  rw [blockL] at h
  split at h
  · cases h
  · split at h
    · cases h
    · exact blockF_up _ _ _ _ _ h u
theorem metaF_up {t : List Nat} : ∀ (l : List Nat) (p q : Nat) (a b : List Nat), metaF t l p a = .inr (q, b) → p ≤ t.length → q ≤ t.length := by
  intro l
  induction l with
  | nil => intro p q a b h u; rw [metaF] at h; cases h; exact u
  | cons i l ih =>
    intro p q a b h u
    rw [metaF] at h
    split at h
    · cases h
    · exact ih _ _ _ _ h (by omega)
theorem lengthsF_up {t : List Nat} {W : List (List Nat)} {n : Nat} : ∀ (f : Nat) (all : List Nat) (p q : Nat) (l : List Nat), lengthsF t W n f all p = .inr (q, l) → p ≤ t.length → q ≤ t.length := by
  intro f
  induction f with
  | zero => intro all p q l h; rw [lengthsF] at h; cases h
  | succ f ih =>
    intro all p q l h u
    rw [lengthsF] at h
    by_cases hln : all.length < n
    · rw [if_pos hln] at h
      cases hr : rdW W [] (t.drop p) with
      | mk k r =>
      rw [hr] at h
      cases r with
      | inr e => cases h
      | inl v =>
        have hk := rdW_up u hr
        simp only at h
        by_cases h16 : v < 16
        · rw [if_pos h16] at h
          exact ih _ _ _ _ h hk
        · rw [if_neg h16] at h
          by_cases hb : v = 16 ∧ all = []
          · rw [if_pos hb] at h; cases h
          · rw [if_neg hb] at h
            generalize (if v = 16 then all.getD (all.length - 1) 0 else 0) = val at *
            generalize (if v = 16 then 2 else if v = 18 then 7 else 3) = wide at *
            generalize (if v = 18 then 11 else 3) = least at *
            by_cases hc : t.length < p + k + wide
            · rw [if_pos hc] at h; cases h
            · rw [if_neg hc] at h
              exact ih _ _ _ _ h (by omega)
    · rw [if_neg hln] at h
      split at h
      · cases h
      · cases h; exact u
theorem dynamicF_up {t : List Nat} {most p q : Nat} {out o : List UInt8} (h : dynamicF t most p out = .inr (q, o)) (u : UpS t most p out) : UpS t most q o := by
  rw [dynamicF] at h
  split at h
  · cases h
  · simp only at h
    split at h
    · cases h
    · split at h
      · cases h
      · rename_i e1
        have h1 := metaF_up _ _ _ _ _ e1 (by omega)
        split at h
        · cases h
        · split at h
          · cases h
          · rename_i e2
            have h2 := lengthsF_up _ _ _ _ _ e2 h1
            split at h
            · cases h
            · exact blockL_up h ⟨h2, u.2⟩
theorem partF_up {t : List Nat} {most hd p q : Nat} {out o : List UInt8} (h : partF t most hd p out = .inr (q, o)) (u : UpS t most p out) : UpS t most q o := by
  rw [partF] at h
  split at h
  · exact storedF_up h u
  · split at h
    · exact blockL_up h u
    · split at h
      · exact dynamicF_up h u
      · cases h
theorem inflF_up {t : List Nat} {most : Nat} : ∀ (f p q : Nat) (out o : List UInt8), inflF t most f p out = .inr (q, o) → UpS t most p out → UpS t most q o := by
  intro f
  induction f with
  | zero => intro p q out o h; rw [inflF] at h; cases h
  | succ f ih =>
    intro p q out o h u
    rw [inflF] at h
    split at h
    · cases h
    · cases e : partF t most (vl t p 3 / 2) (p + 3) out with
      | inl e' => rw [e] at h; cases h
      | inr x =>
        obtain ⟨q1, o1⟩ := x
        rw [e] at h
        have h1 := partF_up e ⟨by omega, u.2⟩
        simp only at h
        split at h
        · cases h; exact h1
        · exact ih _ _ _ _ h h1
theorem inflI_up {bs : List UInt8} {most : Int} {o : List UInt8} {n : Nat} (h : inflI bs most = .inr (o, n)) : n ≤ bs.length ∧ (o.length : Int) ≤ most := by
  rw [inflI] at h
  split at h
  · cases h
  · cases e : inflF (bitsL true bs) most.toNat (8 * bs.length + 1) 0 [] with
    | inl e' => rw [e] at h; cases h
    | inr x =>
      obtain ⟨q, o1⟩ := x
      rw [e] at h
      obtain ⟨h1, h2⟩ := inflF_up _ _ _ _ _ e ⟨by omega, by simp⟩
      cases h
      rw [length_bitsL] at h1
      exact ⟨by omega, by omega⟩
end Go.Proofs.Ytddifndfppilkaa
