/-
  Numbers that are written in so many bits are read in as many: plain Lean, no program.
-/
import Derived.Test.YtifbhbknpecnbaaOps
import Derived.Test.YtifbhbknpecnbaaRevM
namespace Go.Proofs.Ytifbhbknpecnbaa
open Go.RowKit Go.Mz
set_option linter.unusedVariables false
set_option linter.unusedSimpArgs false

def bitsK (low : Bool) (K : List OpD) : List Nat := K.flatMap fun o => wrN low o.v o.n.toNat
def GoodK (K : List OpD) : Prop := ∀ o ∈ K, wrE o.v o.n = 0 ∧ o.v < 4294967296
theorem wrE_zero {v : Nat} {n : Int} (h : wrE v n = 0) (hv : v < 4294967296) : 0 ≤ n ∧ n ≤ 32 ∧ v < 2 ^ n.toNat := by
  unfold wrE at h
  split at h
  · cases h
  · rename_i h1
    split at h
    · cases h
    · rename_i h2
      refine ⟨by omega, by omega, ?_⟩
      by_cases h3 : n < 32
      · have : ¬ (v / 2 ^ n.toNat ≠ 0) := fun e => h2 ⟨h3, e⟩
        have h4 : v / 2 ^ n.toNat = 0 := by simpa using this
        exact (Nat.div_eq_zero_iff.1 h4).resolve_left (by have := Nat.pow_pos (a := 2) (n := n.toNat) (by decide); omega)
      · have : n.toNat = 32 := by omega
        rw [this]; exact hv
theorem bit_bitsK (low : Bool) (K : List OpD) : Bit (bitsK low K) := fun b hb => by
  obtain ⟨o, _, h⟩ := List.mem_flatMap.1 hb
  exact bit_wrN _ _ _ b h
theorem bitsK_snoc (low : Bool) (K : List OpD) (o : OpD) : bitsK low (K ++ [o]) = bitsK low K ++ wrN low o.v o.n.toNat := by simp [bitsK]
theorem bitsK_len (low : Bool) {K : List OpD} (h : GoodK K) : (bitsK low K).length ≤ 32 * K.length := by
  induction K with
  | nil => simp [bitsK]
  | cons o K ih =>
    have h1 := ih fun p hp => h p (by simp [hp])
    have h2 := wrE_zero (h o (by simp)).1 (h o (by simp)).2
    simp only [bitsK, List.flatMap_cons, List.length_append, length_wrN, List.length_cons] at h1 ⊢
    omega
theorem bitsK_take (low : Bool) (K : List OpD) (i : Nat) (o : OpD) (h : K[i]? = some o) : bitsK low (K.take (i + 1)) = bitsK low (K.take i) ++ wrN low o.v o.n.toNat := by
  rw [List.take_add_one, h, ← bitsK_snoc]; rfl
theorem bitsK_split (low : Bool) (K : List OpD) (i : Nat) (o : OpD) (h : K[i]? = some o) : bitsK low K = bitsK low (K.take i) ++ (wrN low o.v o.n.toNat ++ bitsK low (K.drop (i + 1))) := by
  rw [← List.append_assoc, ← bitsK_take low K i o h]
  simp only [bitsK]
  rw [← List.flatMap_append, List.take_append_drop]

theorem again_facts (low : Bool) {K : List OpD} (hK : GoodK K) {i : Nat} {o : OpD} (h : K[i]? = some o) :
    (bitsK low (K.take i)).length + o.n.toNat ≤ 8 * (bytesB low (bitsK low K)).length ∧
    peekV (bytesB low (bitsK low K)) low (bitsK low (K.take i)).length o.n.toNat = o.v ∧
    wordB (peekV ((bytesB low (bitsK low K)).map revB) (!low) (bitsK low (K.take i)).length o.n.toNat) o.n.toNat = (wordB o.v o.n.toNat).reverse ∧
    (bitsK low (K.take (i + 1))).length = (bitsK low (K.take i)).length + o.n.toNat := by
  have hs := bitsK_split low K i o h
  have hb := bit_bitsK low K
  have hg := hK o (List.mem_of_getElem? h)
  obtain ⟨_, _, hv⟩ := wrE_zero hg.1 hg.2
  have hf : ∀ j, j < o.n.toNat → (bitsL low (bytesB low (bitsK low K))).getD ((bitsK low (K.take i)).length + j) 0 = (wrN low o.v o.n.toNat).getD j 0 := by
    intro j hj
    rw [bitsL_bytesB low hb, hs]
    simp only [List.getD_eq_getElem?_getD]
    rw [List.getElem?_append_right (by omega), List.getElem?_append_left (by simp; omega)]
    congr 2; omega
  refine ⟨?_, ?_, ?_, ?_⟩
  · have : (bitsK low K).length = (bitsK low (K.take i)).length + (o.n.toNat + (bitsK low (K.drop (i + 1))).length) := by
      conv => lhs; rw [hs]
      simp
    rw [length_bytesB]; omega
  · rw [peekV_eq]; exact numV_wrN low o.v _ hv _ hf
  · rw [peekV_eq, bitsL_rev]; exact wordB_numV_rev low o.v _ _ hf
  · rw [bitsK_take low K i o h]; simp
#print axioms again_facts
end Go.Proofs.Ytifbhbknpecnbaa
