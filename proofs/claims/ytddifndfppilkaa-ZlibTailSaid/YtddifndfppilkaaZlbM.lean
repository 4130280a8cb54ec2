/-
  Layer 11: what is wrapped is opened; plain Lean.
-/
import Derived.Test.YtddifndfppilkaaZlb
namespace Go.Proofs.Ytddifndfppilkaa
open Go.RowKit Go.Mz
set_option linter.unusedVariables false
set_option linter.unusedSimpArgs false
set_option maxRecDepth 10000

theorem numH_cons (c : UInt8) (l : List UInt8) : numH (c :: l) = c.toNat * 256 ^ l.length + numH l := by
  have key : ∀ r : List UInt8, numH (c :: r.reverse) = c.toNat * 256 ^ r.length + numH r.reverse := by
    intro r
    induction r with
    | nil => simp [numH]
    | cons d r ih =>
      rw [List.reverse_cons, ← List.cons_append, numH_snoc, ih, numH_snoc, List.length_cons, Nat.pow_succ, Nat.add_mul, Nat.mul_assoc, Nat.add_assoc]
  have := key l.reverse
  rwa [List.reverse_reverse, List.length_reverse] at this
theorem numH_bytes (v : Nat) : ∀ n, numH (bytesL v n).reverse = v % 256 ^ n := by
  intro n
  induction n with
  | zero => simp [bytesL, numH, Nat.mod_one]
  | succ n ih =>
    rw [bytesL, List.reverse_append]
    show numH (UInt8.ofNat (v / 256 ^ n % 256) :: (bytesL v n).reverse) = _
    rw [numH_cons, ih, List.length_reverse, length_bytesL, UInt8.toNat_ofNat', show v / 256 ^ n % 256 % 2 ^ 8 = v / 256 ^ n % 256 by omega, Nat.pow_succ, Nat.mod_mul, Nat.mul_comm, Nat.add_comm]
theorem numH_put {v n : Nat} (h : v < 256 ^ n) : numH (bytesO true v n) = v := by
  rw [bytesO, cond, numH_bytes, Nat.mod_eq_of_lt h]
theorem numH_inj : ∀ {l m : List UInt8}, l.length = m.length → numH l = numH m → l = m := by
  intro l
  induction l with
  | nil => intro m h _; exact (List.eq_nil_of_length_eq_zero h.symm).symm
  | cons c l ih =>
    intro m h e
    cases m with
    | nil => simp at h
    | cons d m =>
      have hl : l.length = m.length := by simpa using h
      rw [numH_cons, numH_cons, hl] at e
      have h1 := numH_lt l; have h2 := numH_lt m
      rw [hl] at h1
      have hp : 0 < 256 ^ m.length := Nat.pow_pos (by decide)
      have hc : c.toNat = d.toNat := by
        have e1 : (c.toNat * 256 ^ m.length + numH l) / 256 ^ m.length = c.toNat := by
          rw [Nat.add_comm, Nat.add_mul_div_right _ _ hp, Nat.div_eq_of_lt h1, Nat.zero_add]
        have e2 : (d.toNat * 256 ^ m.length + numH m) / 256 ^ m.length = d.toNat := by
          rw [Nat.add_comm, Nat.add_mul_div_right _ _ hp, Nat.div_eq_of_lt h2, Nat.zero_add]
        rw [← e1, ← e2, e]
      rw [hc] at e
      rw [UInt8.toNat_inj.1 hc, ih hl (by omega)]
/-- A wrapping, with whatever sum. -/
def wrapS (x : List Nat) (S : List UInt8) : List UInt8 := (120 : UInt8) :: 1 :: (bytesB true x ++ S)
theorem length_wrapS (x : List Nat) (S : List UInt8) : (wrapS x S).length = (bytesB true x).length + S.length + 2 := by simp [wrapS]
theorem zopen_head (r : List UInt8) {most : Int} (h : ¬ most < 0) : zopen (120 :: 1 :: r) most = zrest r most := by
  show (if most < 0 then _ else if zheadB 120 1 then _ else _) = _
  rw [if_neg h, if_neg (by decide)]
theorem zopen_wrap {b : List UInt8} {x : List Nat} {n : Nat} (h : DoneS b x n) {S : List UInt8} (hS : S.length = 4) (ex : List UInt8) (most : Int) :
    zopen (wrapS x S ++ ex) most = if most < 0 then .inl 1 else if most.toNat < b.length then .inl 8 else if numH S ≠ adlerN b then .inl 4 else .inr (b, (wrapS x S).length) := by
  by_cases h0 : most < 0
  · rw [if_pos h0]
    show (if most < 0 then _ else _) = _
    rw [if_pos h0]
  rw [if_neg h0]
  show zopen (120 :: 1 :: ((bytesB true x ++ S) ++ ex)) most = _
  rw [zopen_head _ h0, zrest, List.append_assoc, h.infl, if_neg h0]
  by_cases h1 : most.toNat < b.length
  · rw [if_pos h1, if_pos h1]
  · rw [if_neg h1, if_neg h1]
    simp only
    rw [if_neg (by simp [hS] <;> omega), List.drop_left, show (S ++ ex).take 4 = S by rw [← hS, List.take_left], length_wrapS, hS]
theorem zopen_cut {b : List UInt8} {x : List Nat} {n : Nat} (h : DoneS b x n) {S : List UInt8} (hS : S.length = 4) {m : Nat} (hm : m < (wrapS x S).length) (most : Int) (hb : (b.length : Int) ≤ most) :
    zopen ((wrapS x S).take m) most = .inl 2 := by
  have h0 : ¬ most < 0 := by omega
  rw [length_wrapS, hS] at hm
  match m, hm with
  | 0, _ => show (if most < 0 then _ else _) = _; rw [if_neg h0]; rfl
  | 1, _ => show (if most < 0 then _ else _) = _; rw [if_neg h0]; rfl
  | k + 2, hm =>
    show zopen (120 :: 1 :: ((bytesB true x ++ S).take k)) most = _
    rw [zopen_head _ h0, zrest]
    by_cases hk : k < (bytesB true x).length
    · rw [List.take_append_of_le_length (by omega), h.short hk most hb]
    · rw [List.take_append, List.take_of_length_le (by omega), h.infl, if_neg h0, if_neg (by omega)]
      simp only
      rw [if_pos (by rw [List.length_append, List.length_take, hS]; omega)]
/-- A byte with a bit turned. -/
theorem xor_bit (c : UInt8) {t : Nat} (ht : t < 8) : ∃ d : UInt8, d ≠ c ∧ bits .xor .u8 (c.toNat : Int) ((2 : Int) ^ t % 256) = (d.toNat : Int) := by
  have key : ∀ t : Fin 8, ∀ c : Fin 256, bits .xor .u8 (c.val : Int) ((2 : Int) ^ t.val % 256) = ((c.val ^^^ 2 ^ t.val : Nat) : Int) ∧ c.val ^^^ 2 ^ t.val < 256 ∧ c.val ^^^ 2 ^ t.val ≠ c.val := by decide +kernel
  obtain ⟨h1, h2, h3⟩ := key ⟨t, ht⟩ ⟨c.toNat, UInt8.toNat_lt c⟩
  refine ⟨UInt8.ofNat (c.toNat ^^^ 2 ^ t), fun e => h3 ?_, ?_⟩
  · have := congrArg UInt8.toNat e
    rw [UInt8.toNat_ofNat'] at this
    simp only at h2 ⊢
    omega
  · simp only at h1 h2
    rw [h1, UInt8.toNat_ofNat']
    congr 1; omega
theorem numH_turned {S : List UInt8} {j : Nat} {d : UInt8} (hj : j < S.length) (hd : d ≠ S[j]) : numH (S.set j d) ≠ numH S := by
  intro e
  have := numH_inj (by simp) e
  have h1 : (S.set j d)[j]? = some d := by rw [List.getElem?_set, if_pos rfl, if_pos hj]
  rw [this, List.getElem?_eq_getElem hj] at h1
  exact hd (Option.some.inj h1).symm
end Go.Proofs.Ytddifndfppilkaa
