/-
  Layer 5: the document's next code, by cases; plain Lean, no program.
-/
import Derived.Test.YtpjonjiofaaccaaLzwM
import Derived.Test.YtpjonjiofaaccaaWrM
namespace Go.Mz
open Go.RowKit
set_option linter.unusedVariables false
set_option linter.unusedSimpArgs false

theorem decF_done {bits : List Nat} {old : Bool} {n g : Nat} {s : LS} {out : Txt} (h : n ≤ out.length) : decF bits old n (g + 1) s out = (out, 0) := by
  rw [decF, if_pos h]
theorem decF_err {bits : List Nat} {old : Bool} {n g err : Nat} {s s' : LS} {t out : Txt} {e : Bool} (h : ¬ n ≤ out.length) (hc : codeS bits old s = (s', t, e, err)) (he : err ≠ 0) : decF bits old n (g + 1) s out = ([], err) := by
  rw [decF, if_neg h, hc]; simp [he]
theorem decF_end {bits : List Nat} {old : Bool} {n g : Nat} {s s' : LS} {t out : Txt} (h : ¬ n ≤ out.length) (hc : codeS bits old s = (s', t, true, 0)) : decF bits old n (g + 1) s out = ([], 2) := by
  rw [decF, if_neg h, hc]; simp
theorem decF_long {bits : List Nat} {old : Bool} {n g : Nat} {s s' : LS} {t out : Txt} (h : ¬ n ≤ out.length) (hc : codeS bits old s = (s', t, false, 0)) (hl : n < (out ++ t).length) : decF bits old n (g + 1) s out = ([], 5) := by
  rw [decF, if_neg h, hc]
  have : n < out.length + t.length := by simpa using hl
  simp [this]
theorem decF_next {bits : List Nat} {old : Bool} {n g : Nat} {s s' : LS} {t out : Txt} (h : ¬ n ≤ out.length) (hc : codeS bits old s = (s', t, false, 0)) (hl : ¬ n < (out ++ t).length) : decF bits old n (g + 1) s out = decF bits old n g s' (out ++ t) := by
  rw [decF, if_neg h, hc]
  have : ¬ n < out.length + t.length := by simpa using hl
  simp [this]

theorem codeS_cut {bits : List Nat} {old : Bool} {s : LS} (h : bits.length < s.p + widthL s.L.length old) : codeS bits old s = (s, [], false, 2) := by
  rw [codeS, if_pos h]
section
variable {bits : List Nat} {old : Bool} {L : List Txt} {a : Txt} {p c W : Nat} (hW : widthL L.length old = W) (h0 : ¬ bits.length < p + W) (hc : codeAt bits old ⟨L, a, p⟩ = c)
include hW h0 hc
theorem codeS_clear (h : c = 256) : codeS bits old ⟨L, a, p⟩ = (⟨start0, [], p + W⟩, [], false, 0) := by
  subst hW hc
  rw [codeS, if_neg h0, if_pos h]
theorem codeS_end (h : c = 257) : codeS bits old ⟨L, a, p⟩ = (⟨L, a, p + W⟩, [], true, 0) := by
  subst hW hc
  rw [codeS, if_neg h0, if_neg (by omega), if_pos h]
theorem codeS_bad0 (h1 : ¬ c = 256) (h2 : ¬ c = 257) (ha : a = []) (h : 255 < c) : codeS bits old ⟨L, a, p⟩ = (⟨L, a, p + W⟩, [], false, 6) := by
  subst hW hc
  rw [codeS, if_neg h0, if_neg h1, if_neg h2, if_pos ⟨ha, h⟩]
theorem codeS_lit (h1 : ¬ c = 256) (h2 : ¬ c = 257) (ha : a = []) (h : ¬ 255 < c) {t : Txt} (ht : L[c]? = some t) : codeS bits old ⟨L, a, p⟩ = (⟨L, t, p + W⟩, t, false, 0) := by
  subst hW hc
  have : L.getD (codeAt bits old ⟨L, a, p⟩) [] = t := by rw [List.getD_eq_getElem?_getD, ht]; rfl
  rw [codeS, if_neg h0, if_neg h1, if_neg h2, if_neg (fun h' => h h'.2), if_pos ha, this]
theorem codeS_bad (h1 : ¬ c = 256) (h2 : ¬ c = 257) (ha : a ≠ []) (h : L.length < c ∨ c = L.length ∧ 4096 ≤ L.length) : codeS bits old ⟨L, a, p⟩ = (⟨L, a, p + W⟩, [], false, 6) := by
  subst hW hc
  rw [codeS, if_neg h0, if_neg h1, if_neg h2, if_neg (fun h' => ha h'.1), if_neg ha, if_pos h]
theorem codeS_full (h1 : ¬ c = 256) (h2 : ¬ c = 257) (ha : a ≠ []) (h : c < L.length) (hf : ¬ L.length < 4096) {t : Txt} (ht : L[c]? = some t) : codeS bits old ⟨L, a, p⟩ = (⟨L, t, p + W⟩, t, false, 0) := by
  subst hW hc
  have : L.getD (codeAt bits old ⟨L, a, p⟩) [] = t := by rw [List.getD_eq_getElem?_getD, ht]; rfl
  rw [codeS, if_neg h0, if_neg h1, if_neg h2, if_neg (fun h' => ha h'.1), if_neg ha, if_neg (show ¬ (L.length < codeAt bits old ⟨L, a, p⟩ ∨ codeAt bits old ⟨L, a, p⟩ = L.length ∧ 4096 ≤ L.length) by omega)]
  simp only [if_pos h, if_neg hf, this]
theorem codeS_old (h1 : ¬ c = 256) (h2 : ¬ c = 257) (ha : a ≠ []) (h : c < L.length) (hf : L.length < 4096) {d : UInt8} {t : Txt} (ht : L[c]? = some (d :: t)) : codeS bits old ⟨L, a, p⟩ = (⟨L ++ [a ++ [d]], d :: t, p + W⟩, d :: t, false, 0) := by
  subst hW hc
  have : L.getD (codeAt bits old ⟨L, a, p⟩) [] = d :: t := by rw [List.getD_eq_getElem?_getD, ht]; rfl
  rw [codeS, if_neg h0, if_neg h1, if_neg h2, if_neg (fun h' => ha h'.1), if_neg ha, if_neg (show ¬ (L.length < codeAt bits old ⟨L, a, p⟩ ∨ codeAt bits old ⟨L, a, p⟩ = L.length ∧ 4096 ≤ L.length) by omega)]
  simp only [if_pos h, if_pos hf, this]
  rfl
theorem codeS_new (h1 : ¬ c = 256) (h2 : ¬ c = 257) {d : UInt8} {t : Txt} (ha : a = d :: t) (h : c = L.length) (hf : L.length < 4096) : codeS bits old ⟨L, a, p⟩ = (⟨L ++ [a ++ [d]], a ++ [d], p + W⟩, a ++ [d], false, 0) := by
  subst hW hc
  have ha' : a ≠ [] := by rw [ha]; simp
  rw [codeS, if_neg h0, if_neg h1, if_neg h2, if_neg (fun h' => ha' h'.1), if_neg ha', if_neg (show ¬ (L.length < codeAt bits old ⟨L, a, p⟩ ∨ codeAt bits old ⟨L, a, p⟩ = L.length ∧ 4096 ≤ L.length) by omega)]
  rw [ha] at *
  simp only [if_neg (show ¬ codeAt bits old ⟨L, d :: t, p⟩ < L.length by omega), if_pos hf]
  rfl
end

end Go.Mz
