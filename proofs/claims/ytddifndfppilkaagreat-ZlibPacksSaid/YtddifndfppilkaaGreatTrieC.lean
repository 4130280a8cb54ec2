/-
  Layer 6 (huff): the places of canonical words; full ones; what is written is read. Plain Lean, no program.
-/
import Derived.Test.YtddifndfppilkaaGreatTrie
import Derived.Test.YtddifndfppilkaaGreatCanonM
namespace Go.Proofs.YtddifndfppilkaaGreat
open Go.RowKit Go.Mz
set_option linter.unusedVariables false
set_option linter.unusedSimpArgs false

theorem wordsC_get {l : List Nat} {i : Nat} {w : List Nat} (h : (wordsC l)[i]? = some w) : i < l.length ∧ w = wordC l i := by
  have hi : i < l.length := by
    obtain ⟨hx, _⟩ := List.getElem?_eq_some_iff.1 h
    simpa [wordsC] using hx
  rw [wordsC, List.getElem?_map, List.getElem?_range hi] at h
  exact ⟨hi, (Option.some.inj h).symm⟩
theorem wordsC_at {l : List Nat} {i : Nat} (h : i < l.length) : (wordsC l)[i]? = some (wordC l i) := by
  rw [wordsC, List.getElem?_map, List.getElem?_range h]; rfl
theorem wordC_ne {l : List Nat} {i : Nat} (h : wordC l i ≠ []) : 0 < l.getD i 0 := by
  rcases Nat.eq_zero_or_pos (l.getD i 0) with h0 | h0
  · exact absurd (List.eq_nil_of_length_eq_zero (by rw [length_wordC, h0])) h
  · exact h0
theorem pf_wordsC {l : List Nat} (ok : OkC l) (h30 : ∀ n ∈ l, n ≤ 30) : PF (wordsC l) := by
  intro i k v w hik hv hw hvn
  obtain ⟨hi, rfl⟩ := wordsC_get hv
  obtain ⟨hk, rfl⟩ := wordsC_get hw
  exact wordC_free ok h30 hi hk hik (wordC_ne hvn)
theorem bit_wordsC (l : List Nat) : ∀ w ∈ wordsC l, Bit w := fun w hw => by
  rw [wordsC, List.mem_map] at hw
  obtain ⟨i, _, rfl⟩ := hw
  exact bit_wordC l i
theorem rank (l : List Nat) (n r : Nat) (h : r < l.count n) : ∃ i, i < l.length ∧ l.getD i 0 = n ∧ (l.take i).count n = r := by
  induction l generalizing r with
  | nil => simp at h
  | cons x l ih =>
    by_cases hx : x = n
    · subst hx
      cases r with
      | zero => exact ⟨0, by simp, rfl, by simp⟩
      | succ r =>
        rw [List.count_cons_self] at h
        obtain ⟨i, h1, h2, h3⟩ := ih r (by omega)
        refine ⟨i + 1, by simp; omega, by simpa using h2, ?_⟩
        rw [List.take_succ_cons, List.count_cons_self, h3]
    · rw [List.count_cons_of_ne hx] at h
      obtain ⟨i, h1, h2, h3⟩ := ih r h
      refine ⟨i + 1, by simp; omega, by simpa using h2, ?_⟩
      rw [List.take_succ_cons, List.count_cons_of_ne hx, h3]
theorem full_at {l t : List Nat} (hb : Bit t) : ∀ n, n ≤ t.length → numB (t.take n) < codeC l n + cntC l n → ∃ (i : Nat) (w : List Nat), (wordsC l)[i]? = some w ∧ w ≠ [] ∧ w <+: t ∧ w.length ≤ n := by
  intro n
  induction n with
  | zero => intro _ h; simp [codeC, cntC, numB] at h
  | succ n ih =>
    intro hn h
    have hl : (t.take (n + 1)).length = n + 1 := by simp; omega
    by_cases hc : codeC l (n + 1) ≤ numB (t.take (n + 1))
    · have hr : numB (t.take (n + 1)) - codeC l (n + 1) < l.count (n + 1) := by
        rw [cntC, if_neg (by omega)] at h; omega
      obtain ⟨i, h1, h2, h3⟩ := rank l (n + 1) _ hr
      have e : wordC l i = t.take (n + 1) := by
        have := wordB_num _ (hb.take (n + 1))
        rw [hl] at this
        rw [wordC, h2, h3, Nat.add_sub_cancel' hc]; exact this
      refine ⟨i, _, wordsC_at h1, ?_, ?_, ?_⟩
      · intro h0
        have := congrArg List.length h0
        rw [length_wordC, h2] at this; simp at this
      · rw [e]; exact List.take_prefix _ _
      · rw [length_wordC, h2]; exact Nat.le_refl _
    · have e : t.take (n + 1) = t.take n ++ [t.getD n 0] := by
        rw [List.take_add_one, List.getElem?_eq_getElem (by omega), List.getD_eq_getElem?_getD, List.getElem?_eq_getElem (by omega)]; rfl
      have e2 : numB (t.take (n + 1)) = numB (t.take n) * 2 + t.getD n 0 := by rw [e, numB_snoc]
      rw [codeC] at hc
      obtain ⟨i, w, h1, h2, h3, h4⟩ := ih (by omega) (by omega)
      exact ⟨i, w, h1, h2, h3, by omega⟩
theorem full_any {l t : List Nat} (hf : fullC l = true) (hb : Bit t) (ht : 30 ≤ t.length) : ∃ (i : Nat) (w : List Nat), (wordsC l)[i]? = some w ∧ w ≠ [] ∧ w <+: t ∧ w.length ≤ 30 := by
  refine full_at hb 30 ht ?_
  have h1 : codeC l 31 = 2 ^ 31 := by simpa [fullC] using hf
  have h2 : codeC l 31 = (codeC l 30 + cntC l 30) * 2 := rfl
  have h3 := numB_lt (hb.take 30)
  have h4 : (t.take 30).length = 30 := by simp; omega
  rw [h4] at h3
  omega
theorem bitsL_bytes (low : Bool) {l : List Nat} (hb : Bit l) : ∃ z, bitsL low (bytesB low l) = l ++ z := by
  refine ⟨(bitsL low (bytesB low l)).drop l.length, ?_⟩
  have : (bitsL low (bytesB low l)).take l.length = l := by
    apply List.ext_getElem?
    intro i
    by_cases hi : i < l.length
    · have := bitsL_bytesB low hb i
      rw [List.getElem?_take_of_lt hi]
      simp only [List.getD_eq_getElem?_getD] at this
      have h2 : i < (bitsL low (bytesB low l)).length := by simp; omega
      rw [List.getElem?_eq_getElem h2, List.getElem?_eq_getElem hi] at this ⊢
      simpa using this
    · rw [List.getElem?_eq_none (by simp; omega), List.getElem?_eq_none (by omega)]
  conv => lhs; rw [← List.take_append_drop l.length (bitsL low (bytesB low l)), this]
/-- The bits of the words at places. -/
def kbits (W : List (List Nat)) (K : List Nat) : List Nat := K.flatMap fun i => W.getD i []
theorem kbits_snoc (W : List (List Nat)) (K : List Nat) (i : Nat) : kbits W (K ++ [i]) = kbits W K ++ W.getD i [] := by simp [kbits]
theorem bit_kbits {W : List (List Nat)} (hb : ∀ w ∈ W, Bit w) (K : List Nat) : Bit (kbits W K) := fun b h => by
  obtain ⟨i, _, h⟩ := List.mem_flatMap.1 h
  rw [List.getD_eq_getElem?_getD] at h
  cases e : W[i]? with
  | none => rw [e] at h; simp at h
  | some w => rw [e] at h; exact hb w (List.mem_of_getElem? e) b h
theorem again_read {W : List (List Nat)} {N : List Nd} (hT : Trie N W) (hb : ∀ w ∈ W, Bit w) (pf : PF W) (low : Bool) (K : List Nat) {m i : Nat} (hm : K[m]? = some i) {w : List Nat} (hi : W[i]? = some w) (hw : w ≠ []) :
    (kbits W (K.take m)).length ≤ 8 * (bytesB low (kbits W K)).length ∧ readN N (bytesB low (kbits W K)) low (kbits W (K.take m)).length = ((kbits W (K.take (m + 1))).length, .inl i) := by
  have hml : m < K.length := by obtain ⟨hx, _⟩ := List.getElem?_eq_some_iff.1 hm; exact hx
  have e1 : K = K.take m ++ i :: K.drop (m + 1) := by
    have := List.take_append_drop m K
    rw [List.drop_eq_getElem_cons hml] at this
    have e : K[m] = i := by rw [List.getElem?_eq_getElem hml] at hm; exact Option.some.inj hm
    rw [e] at this; exact this.symm
  have hg : W.getD i [] = w := by rw [List.getD_eq_getElem?_getD, hi]; rfl
  have e2 : kbits W K = kbits W (K.take m) ++ (w ++ kbits W (K.drop (m + 1))) := by
    conv => lhs; rw [e1]
    simp [kbits, hi]
  have e3 : kbits W (K.take (m + 1)) = kbits W (K.take m) ++ w := by
    rw [List.take_add_one, hm, Option.toList_some, kbits_snoc, hg]
  obtain ⟨z, hz⟩ := bitsL_bytes low (bit_kbits hb K)
  have hle : (kbits W (K.take m)).length ≤ 8 * (bytesB low (kbits W K)).length := by
    rw [length_bytesB, e2]; simp; omega
  refine ⟨hle, ?_⟩
  rw [readN_trie hT _ _ _ hle, hz, e2, List.append_assoc, List.drop_left, List.append_assoc, rdW_hit pf hi w [] _ rfl hw, e3, List.length_append]
end Go.Proofs.YtddifndfppilkaaGreat
