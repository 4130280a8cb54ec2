/-
  Layer 5: so many bytes of what an encoder writes; plain Lean, no program.
-/
import Derived.Test.YtpjonjiofaaccaaLzwQ
namespace Go.Mz
open Go.RowKit
set_option linter.unusedVariables false
set_option linter.unusedSimpArgs false

theorem codeS_p (bits : List Nat) (old : Bool) (s : LS) : s.p ≤ (codeS bits old s).1.p := by
  unfold codeS
  repeat' split
  all_goals simp
theorem Run.len {bits : List Nat} {s s' : LS} {ts : List Txt} (r : Run bits s ts s') : s.p + 9 * ts.length ≤ s'.p := by
  induction r with
  | nil s => simp
  | cons h hm hp r ih => rw [List.length_cons]; omega

theorem decF_run {bits : List Nat} {s s' s2 : LS} {ts : List Txt} (r : Run bits s ts s') (hend : codeS bits false s' = (s2, [], true, 0)) (n : Nat) :
    ∀ (f : Nat) (out : Txt), ts.length < f → out.length ≤ n →
      ((out ++ ts.flatten).length < n → decF bits false n f s out = ([], 2)) ∧
      (n ≤ (out ++ ts.flatten).length → decF bits false n f s out = ((out ++ ts.flatten).take n, 0) ∨ decF bits false n f s out = ([], 5)) ∧
      (n = (out ++ ts.flatten).length → decF bits false n f s out = (out ++ ts.flatten, 0)) := by
  induction r with
  | nil s =>
    intro f out hf ho
    obtain ⟨f, rfl⟩ : ∃ g, f = g + 1 := ⟨f - 1, by omega⟩
    simp only [List.flatten_nil, List.append_nil]
    refine ⟨fun h => decF_end (by omega) hend, fun h => .inl ?_, fun h => decF_done (by omega)⟩
    rw [decF_done h, List.take_of_length_le (by omega)]
  | @cons s s1 s3 t ts h hm hp r ih =>
    intro f out hf ho
    obtain ⟨f, rfl⟩ : ∃ g, f = g + 1 := ⟨f - 1, by omega⟩
    have e : out ++ (t :: ts).flatten = (out ++ t) ++ ts.flatten := by simp
    rw [e]
    by_cases hd : n ≤ out.length
    · have ho2 : n = out.length := by omega
      have hdone := decF_done (bits := bits) (old := false) (g := f) (s := s) hd
      refine ⟨fun h => ?_, fun _ => .inl ?_, fun h => ?_⟩
      · simp only [List.length_append] at h; omega
      · rw [hdone, ho2, List.append_assoc, List.take_left]
      · have hl : (t ++ ts.flatten).length = 0 := by
          simp only [List.length_append] at h ⊢; omega
        have := List.eq_nil_of_length_eq_zero hl
        rw [hdone, List.append_assoc, this, List.append_nil]
    · by_cases hlong : n < (out ++ t).length
      · have := decF_long (g := f) hd h hlong
        refine ⟨fun h => ?_, fun _ => .inr this, fun h => ?_⟩
        · simp only [List.length_append] at h hlong; omega
        · simp only [List.length_append] at h hlong; omega
      · rw [decF_next hd h hlong]
        rw [List.length_cons] at hf
        exact ih hend f (out ++ t) (by omega) (by omega)

/-- Decoded of what is written, and whatever stands behind. -/
theorem dec_encB {bits : List Nat} (b : Txt) (h : Agree bits 0 (encB b)) (n : Nat) :
    (b.length < n → dec bits false n = ([], 2)) ∧ (n ≤ b.length → dec bits false n = (b.take n, 0) ∨ dec bits false n = ([], 5)) ∧ (n = b.length → dec bits false n = (b, 0)) := by
  obtain ⟨hs, ts, s1, s2, r1, r2, r3, r4⟩ := encB_run b h
  have hp : (9 : Nat) + 9 * ts.length ≤ s1.p := r1.len
  have hp2 : s1.p ≤ s2.p := by
    have := codeS_p bits false s1
    rw [r2] at this
    exact this
  have hl := h.1
  have key : ∀ m, dec bits false (m : Nat) = decF bits false m (bits.length + 1) ⟨start0, [], 0⟩ [] := fun m => by
    rw [dec, if_neg (by omega), Int.toNat_natCast]
  have := decF_run (.cons hs (by simp only [length_start0]; omega) (by simp only; omega) r1) r2 n (bits.length + 1) [] (by rw [List.length_cons]; omega) (by simp)
  simp only [List.nil_append, List.flatten_cons, r3] at this
  rw [key]
  exact this

theorem length_encF : ∀ (cs : Txt) (EL : List Txt) (M : Pairs) (st : Option Nat), (encF EL M st cs).length ≤ 24 * cs.length + 24 := by
  intro cs
  induction cs with
  | nil =>
    intro EL M st
    cases st with
    | none => rw [encF, length_wordB]; have := widN_bd EL.length; omega
    | some q => rw [encF, List.length_append, length_wordB, length_wordB]; have := widN_bd EL.length; have := widN_bd (EL.length + 1); simp; omega
  | cons c cs ih =>
    intro EL M st
    rw [List.length_cons]
    cases st with
    | none => rw [encF]; have := ih EL M (some c.toNat); omega
    | some q =>
      rw [encF]
      split
      · rename_i r hr; have := ih EL M (some r); omega
      · split
        · rw [List.length_append, List.length_append, length_wordB, length_wordB]; have := ih start0 noPairs (some c.toNat); have := widN_bd EL.length; omega
        · rw [List.length_append, length_wordB]; have := ih (EL ++ [EL.getD q [] ++ [c]]) (putPair M q c.toNat EL.length) (some c.toNat); have := widN_bd EL.length; omega
theorem length_encB (b : Txt) : (encB b).length ≤ 24 * b.length + 33 := by
  rw [encB, List.length_append, length_wordB]; have := length_encF b start0 noPairs none; omega
theorem bit_encF : ∀ (cs : Txt) (EL : List Txt) (M : Pairs) (st : Option Nat), Bit (encF EL M st cs) := by
  intro cs
  induction cs with
  | nil =>
    intro EL M st
    cases st with
    | none => rw [encF]; exact bit_wordB _ _
    | some q => rw [encF]; exact (bit_wordB _ _).append (bit_wordB _ _)
  | cons c cs ih =>
    intro EL M st
    cases st with
    | none => rw [encF]; exact ih _ _ _
    | some q =>
      rw [encF]
      split
      · exact ih _ _ _
      · split
        · exact (bit_wordB _ _).append ((bit_wordB _ _).append (ih _ _ _))
        · exact (bit_wordB _ _).append (ih _ _ _)
theorem bit_encB (b : Txt) : Bit (encB b) := (bit_wordB _ _).append (bit_encF _ _ _ _)

/-- The bytes of what is written, and whatever behind, agree with it. -/
theorem agree_encB (b tail : Txt) : Agree (bitsL false (bytesB false (encB b) ++ tail)) 0 (encB b) := by
  have hl : (bitsL false (bytesB false (encB b))).length = 8 * (((encB b).length + 7) / 8) := by rw [length_bitsL, length_bytesB]
  refine ⟨by rw [bitsL_append, List.length_append, hl]; omega, fun i hi => ?_⟩
  rw [Nat.zero_add, bitsL_append]
  have : (bitsL false (bytesB false (encB b)) ++ bitsL false tail).getD i 0 = (bitsL false (bytesB false (encB b))).getD i 0 := by
    simp only [List.getD_eq_getElem?_getD]
    rw [List.getElem?_append_left (by omega)]
  rw [this]
  exact bitsL_bytesB false (bit_encB b) i
#print axioms agree_encB
#print axioms dec_encB
end Go.Mz
