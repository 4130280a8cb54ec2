/-
  Layer 5: codes of single bytes give these bytes; plain Lean, no program.
-/
import Derived.Test.YtpjonjiofaaccaaLzwO
import Derived.Test.YtpjonjiofaaccaaRevM
namespace Go.Mz
open Go.RowKit
set_option linter.unusedVariables false
set_option linter.unusedSimpArgs false

/-- The next code is the number that stands there. -/
theorem codeAt_of {bits : List Nat} {old : Bool} {s : LS} {c W : Nat} (hW : widthL s.L.length old = W) (hc : c < 2 ^ W) (hg : ∀ j, j < W → bits.getD (s.p + j) 0 = (wrN old c W).getD j 0) : codeAt bits old s = c := by
  rw [codeAt, hW]
  exact numV_wrN old c W hc _ hg

def raw9 (low : Bool) (l : List UInt8) : List Nat := l.flatMap fun c => wrN low c.toNat 9
theorem length_raw9 (low : Bool) (l : List UInt8) : (raw9 low l).length = 9 * l.length := by
  induction l with
  | nil => rfl
  | cons c l ih => simp only [raw9, List.flatMap_cons, List.length_append, List.length_cons] at ih ⊢; rw [ih]; cases low <;> simp [wrN] <;> omega
theorem bit_raw9 (low : Bool) (l : List UInt8) : Bit (raw9 low l) := by
  intro b hb
  obtain ⟨c, _, hc⟩ := List.mem_flatMap.1 hb
  exact bit_wrN _ _ _ b hc
theorem raw9_snoc (low : Bool) (l : List UInt8) (c : UInt8) : raw9 low (l ++ [c]) = raw9 low l ++ wrN low c.toNat 9 := by simp [raw9]
theorem raw9_at (low : Bool) (l : List UInt8) {k : Nat} {c : UInt8} (h : l[k]? = some c) {j : Nat} (hj : j < 9) : (raw9 low l).getD (9 * k + j) 0 = (wrN low c.toNat 9).getD j 0 := by
  have hk : k < l.length := (List.getElem?_eq_some_iff.1 h).1
  have e : l = l.take k ++ (c :: l.drop (k + 1)) := by
    conv => lhs; rw [← List.take_append_drop k l]
    rw [List.drop_eq_getElem_cons hk]
    congr 2
    rw [List.getElem?_eq_getElem hk] at h
    simpa using h
  have hs : raw9 low l = raw9 low (l.take k) ++ (wrN low c.toNat 9 ++ raw9 low (l.drop (k + 1))) := by
    conv => lhs; rw [e]
    simp [raw9]
  have hl : (raw9 low (l.take k)).length = 9 * k := by rw [length_raw9, List.length_take]; congr 1; omega
  have h9 : (wrN low c.toNat 9).length = 9 := by cases low <;> simp [wrN]
  rw [hs]
  simp only [List.getD_eq_getElem?_getD]
  rw [List.getElem?_append_right (by omega), List.getElem?_append_left (by omega), hl]
  congr 2; omega

theorem start0_get (c : UInt8) : start0[c.toNat]? = some [c] := by
  simp only [start0, List.getElem?_map]
  have : c.toNat < 256 := UInt8.toNat_lt c
  rw [List.getElem?_range (by omega)]
  simp

theorem dec_codes (low : Bool) (l : List UInt8) (hl : l.length ≤ 200) (bits : List Nat) (hlen : 9 * l.length ≤ bits.length) (hg : ∀ i, bits.getD i 0 = (raw9 low l).getD i 0) :
    ∀ (m k : Nat), k + m = l.length → ∀ (L : List Txt) (a : Txt) (f : Nat), (∀ c : UInt8, L[c.toNat]? = some [c]) → 258 ≤ L.length → L.length ≤ 258 + k → (a = [] ∧ k = 0 ∨ a ≠ []) → m < f →
      decF bits low l.length f ⟨L, a, 9 * k⟩ (l.take k) = (l, 0) := by
  intro m
  induction m with
  | zero =>
    intro k hk L a f h1 h2 h3 ha hf
    obtain ⟨f, rfl⟩ : ∃ g, f = g + 1 := ⟨f - 1, by omega⟩
    obtain rfl : k = l.length := by omega
    rw [List.take_length, decF_done (Nat.le_refl _)]
  | succ m ih =>
    intro k hk L a f h1 h2 h3 ha hf
    obtain ⟨f, rfl⟩ : ∃ g, f = g + 1 := ⟨f - 1, by omega⟩
    have hkl : k < l.length := by omega
    obtain ⟨c, hc⟩ : ∃ c, l[k]? = some c := ⟨l[k], List.getElem?_eq_getElem hkl⟩
    have hW : widthL L.length low = 9 := by
      unfold widthL
      rw [if_pos]
      cases low <;> simp <;> omega
    have hc8 : c.toNat < 256 := UInt8.toNat_lt c
    have hcA : codeAt bits low ⟨L, a, 9 * k⟩ = c.toNat := codeAt_of hW (by omega) fun j hj => by rw [hg]; exact raw9_at low l hc hj
    have h0 : ¬ bits.length < 9 * k + 9 := by omega
    have htk : l.take (k + 1) = l.take k ++ [c] := by rw [List.take_add_one, hc]; rfl
    have hlt : (l.take k).length = k := by rw [List.length_take]; omega
    rcases ha with ⟨ha, hk0⟩ | ha
    · have hs := codeS_lit hW h0 hcA (by omega) (by omega) ha (by omega) (h1 c)
      rw [decF_next (by omega) hs (by rw [List.length_append, hlt]; simp; omega), ← htk]
      exact ih (k + 1) (by omega) L [c] f h1 h2 (by omega) (.inr (by simp)) (by omega)
    · have hs := codeS_old hW h0 hcA (by omega) (by omega) ha (by omega) (by omega) (h1 c)
      rw [decF_next (by omega) hs (by rw [List.length_append, hlt]; simp; omega), ← htk]
      refine ih (k + 1) (by omega) (L ++ [a ++ [c]]) [c] f (fun d => ?_) (by simp; omega) (by simp; omega) (.inr (by simp)) (by omega)
      have : d.toNat < 256 := UInt8.toNat_lt d
      rw [List.getElem?_append_left (by omega)]
      exact h1 d

theorem dec_raw9 (low : Bool) (l : List UInt8) (hl : l.length ≤ 200) : dec (bitsL low (bytesB low (raw9 low l))) low l.length = (l, 0) := by
  rw [dec, if_neg (by omega), Int.toNat_natCast]
  have hlen : (bitsL low (bytesB low (raw9 low l))).length = 8 * ((9 * l.length + 7) / 8) := by rw [length_bitsL, length_bytesB, length_raw9]
  have := dec_codes low l hl (bitsL low (bytesB low (raw9 low l))) (by rw [hlen]; omega) (fun i => bitsL_bytesB low (bit_raw9 low l) i) l.length 0 (by omega) start0 [] ((bitsL low (bytesB low (raw9 low l))).length + 1) start0_get (by rw [length_start0]; omega) (by rw [length_start0]; omega) (.inl ⟨rfl, rfl⟩) (by rw [hlen]; omega)
  simpa using this
#print axioms dec_raw9
end Go.Mz
