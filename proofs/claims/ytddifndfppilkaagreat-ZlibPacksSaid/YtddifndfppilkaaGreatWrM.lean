/-
  Bits packed into bytes, bit by bit: plain Lean, no program.
  Bytes turned round, and what is read of what was written: plain Lean, no program.
-/
import Derived.Test.YtddifndfppilkaaGreatBitsM
import Derived.Deep.LoopGhost
namespace Go.Mz
open Go.RowKit
set_option linter.unusedVariables false
set_option linter.unusedSimpArgs false

/-- Byte i of bits, noughts behind them. -/
def byteB (low : Bool) (l : List Nat) (i : Nat) : Nat := numV low (fun j => l.getD (8 * i + j) 0) 8
def bytesB (low : Bool) (l : List Nat) : List UInt8 := (List.range ((l.length + 7) / 8)).map fun i => UInt8.ofNat (byteB low l i)
@[simp] theorem length_bytesB (low : Bool) (l : List Nat) : (bytesB low l).length = (l.length + 7) / 8 := by simp [bytesB]

theorem numV_congr (low : Bool) {f g : Nat → Nat} : ∀ n, (∀ i, i < n → f i = g i) → numV low f n = numV low g n
  | 0, _ => rfl
  | n + 1, h => by simp only [numV]; rw [numV_congr low n (fun i hi => h i (by omega)), h n (by omega)]
theorem numV_zero (low : Bool) (n : Nat) : numV low (fun _ => 0) n = 0 := by induction n <;> cases low <;> simp_all [numV]
/-- One more bit, where there was none. -/
theorem numV_set (low : Bool) (f : Nat → Nat) (i c : Nat) (h0 : f i = 0) : ∀ n, i < n → numV low (fun j => if j = i then c else f j) n = numV low f n + c * 2 ^ (cond low i (n - 1 - i)) := by
  intro n
  induction n with
  | zero => intro h; omega
  | succ n ih =>
    intro hi
    by_cases e : i = n
    · subst e
      have hc : numV low (fun j => if j = i then c else f j) i = numV low f i := numV_congr low i fun j hj => by simp [Nat.ne_of_lt hj]
      cases low <;> simp [numV, hc, h0]
    · have hlt : i < n := by omega
      have h1 := ih hlt
      have hn : (if n = i then c else f n) = f n := by simp [Ne.symm e]
      cases low
      · simp only [numV, cond, h1, hn, Nat.add_mul, Nat.mul_assoc]
        simp only [cond] at h1
        rw [show n + 1 - 1 - i = (n - 1 - i) + 1 by omega, Nat.pow_succ]; omega
      · simp only [numV, cond, h1, hn]; omega
/-- Bits behind place i are noughts: the number is small, or ends in noughts. -/
theorem numV_low_lt (f : Nat → Nat) (hf : ∀ i, f i ≤ 1) (i : Nat) (h0 : ∀ j, i ≤ j → f j = 0) : ∀ n, numV true f n < 2 ^ i
  | 0 => by simp [numV, Nat.pow_pos]
  | n + 1 => by
    simp only [numV, cond]
    by_cases h : i ≤ n
    · rw [h0 n h]; simpa using numV_low_lt f hf i h0 n
    · have := numV_lt true f hf (n + 1)
      simp only [numV, cond] at this
      exact Nat.lt_of_lt_of_le this (Nat.pow_le_pow_right (by decide) (by omega))
theorem numV_hi_mod (f : Nat → Nat) (i : Nat) (h0 : ∀ j, i ≤ j → f j = 0) : ∀ n, numV false f n % 2 ^ (n - i) = 0
  | 0 => by simp [numV]
  | n + 1 => by
    simp only [numV, cond]
    by_cases h : i ≤ n
    · rw [h0 n h, show n + 1 - i = (n - i) + 1 by omega, Nat.pow_succ, Nat.add_zero, Nat.mul_mod_mul_right, numV_hi_mod f i h0 n]
    · rw [show n + 1 - i = 0 by omega]; simp [Nat.mod_one]

theorem getD_snoc (l : List Nat) (c k : Nat) : (l ++ [c]).getD k 0 = if k = l.length then c else l.getD k 0 := by
  simp only [List.getD_eq_getElem?_getD]
  by_cases h : k < l.length
  · rw [List.getElem?_append_left h]; simp [Nat.ne_of_lt h]
  · rw [List.getElem?_append_right (by omega)]
    by_cases e : k = l.length
    · simp [e]
    · rw [List.getElem?_eq_none (by simp; omega), List.getElem?_eq_none (by omega)]; simp [e]
theorem byteB_lt (low : Bool) {l : List Nat} (hb : Bit l) (i : Nat) : byteB low l i < 256 := numV_lt low _ (fun j => hb.getD _) 8
/-- The byte in which the next bit comes. -/
theorem byteB_snoc (low : Bool) (l : List Nat) (c : Nat) : byteB low (l ++ [c]) (l.length / 8) = byteB low l (l.length / 8) + c * 2 ^ (cond low (l.length % 8) (7 - l.length % 8)) := by
  unfold byteB
  rw [show (7 - l.length % 8) = 8 - 1 - l.length % 8 by omega, ← numV_set low (fun j => l.getD (8 * (l.length / 8) + j) 0) (l.length % 8) c ?_ 8 (by omega)]
  · refine numV_congr low 8 fun j hj => ?_
    rw [getD_snoc]
    by_cases e : j = l.length % 8
    · rw [if_pos (by omega), if_pos e]
    · rw [if_neg (by omega), if_neg e]
  · show l.getD _ 0 = 0
    rw [List.getD_eq_getElem?_getD, List.getElem?_eq_none (by omega)]; rfl
theorem byteB_snoc_other (low : Bool) (l : List Nat) (c i : Nat) (h : i < l.length / 8) : byteB low (l ++ [c]) i = byteB low l i := by
  unfold byteB
  refine numV_congr low 8 fun j hj => ?_
  rw [getD_snoc, if_neg (by omega)]
theorem byteB_or (low : Bool) {l : List Nat} (hb : Bit l) {c : Nat} (hc : c ≤ 1) :
    byteB low l (l.length / 8) ||| c * 2 ^ (cond low (l.length % 8) (7 - l.length % 8)) = byteB low (l ++ [c]) (l.length / 8) := by
  rw [byteB_snoc]
  have h0 : ∀ j, l.length % 8 ≤ j → l.getD (8 * (l.length / 8) + j) 0 = 0 := fun j hj => by
    rw [List.getD_eq_getElem?_getD, List.getElem?_eq_none (by omega)]; rfl
  cases low
  · have h1 := numV_hi_mod (fun j => l.getD (8 * (l.length / 8) + j) 0) (l.length % 8) h0 8
    have h2 : c * 2 ^ (7 - l.length % 8) < 2 ^ (8 - l.length % 8) := by
      rw [show 8 - l.length % 8 = (7 - l.length % 8) + 1 by omega, Nat.pow_succ]
      have : c * 2 ^ (7 - l.length % 8) ≤ 1 * 2 ^ (7 - l.length % 8) := Nat.mul_le_mul_right _ hc
      have := Nat.pow_pos (a := 2) (n := 7 - l.length % 8) (by decide)
      omega
    exact nat_join _ _ _ h1 h2
  · have h1 := numV_low_lt (fun j => l.getD (8 * (l.length / 8) + j) 0) (fun j => hb.getD _) (l.length % 8) h0 8
    rw [Nat.or_comm, Nat.add_comm]
    exact nat_join _ _ _ (by simp) h1
theorem bytesB_full (low : Bool) {l : List Nat} (h : l.length % 8 = 0) : bytesB low (l ++ [0]) = bytesB low l ++ [0] := by
  have e : ((l ++ [0]).length + 7) / 8 = (l.length + 7) / 8 + 1 := by simp; omega
  unfold bytesB
  rw [e, List.range_succ, List.map_append]
  congr 1
  · refine List.map_congr_left fun i hi => ?_
    rw [byteB_snoc_other low l 0 i (by have := List.mem_range.1 hi; omega)]
  · have e2 : (l.length + 7) / 8 = l.length / 8 := by omega
    simp only [List.map_cons, List.map_nil, e2]
    have : byteB low (l ++ [0]) (l.length / 8) = 0 := by
      rw [byteB_snoc]
      unfold byteB
      rw [numV_congr low (g := fun _ => 0) 8 (fun j _ => by rw [List.getD_eq_getElem?_getD, List.getElem?_eq_none (by omega)]; rfl), numV_zero]; simp
    rw [this]; rfl
/-- The last byte of bits and one more, put. -/
theorem bytesB_put (low : Bool) {l : List Nat} (c : Nat) (bs : List UInt8) (hlen : bs.length = l.length / 8 + 1) (hbs : ∀ i, i < l.length / 8 → bs[i]? = some (UInt8.ofNat (byteB low l i))) :
    bs.set (l.length / 8) (UInt8.ofNat (byteB low (l ++ [c]) (l.length / 8))) = bytesB low (l ++ [c]) := by
  apply List.ext_getElem?
  intro i
  have e : ((l ++ [c]).length + 7) / 8 = l.length / 8 + 1 := by simp; omega
  by_cases hi : i < l.length / 8 + 1
  · rw [show (bytesB low (l ++ [c]))[i]? = some (UInt8.ofNat (byteB low (l ++ [c]) i)) by simp only [bytesB, e]; rw [List.getElem?_map, List.getElem?_range hi]; rfl]
    by_cases h : i = l.length / 8
    · subst h; rw [List.getElem?_set_self (by omega)]
    · rw [List.getElem?_set_ne (by omega), hbs i (by omega), byteB_snoc_other low l c i (by omega)]
  · rw [List.getElem?_eq_none (by simp; omega), List.getElem?_eq_none (by simp; omega)]
theorem bytesB_get (low : Bool) (l : List Nat) (i : Nat) (h : i < (l.length + 7) / 8) : (bytesB low l)[i]? = some (UInt8.ofNat (byteB low l i)) := by
  simp only [bytesB]; rw [List.getElem?_map, List.getElem?_range h]; rfl
theorem toNat_byteB (low : Bool) {l : List Nat} (hb : Bit l) (i : Nat) : (UInt8.ofNat (byteB low l i)).toNat = byteB low l i := by
  have := byteB_lt low hb i
  simp; omega
/-- In the walk's spelling. -/
theorem byteB_or8 (low : Bool) {l : List Nat} (hb : Bit l) {c : Nat} (hc : c ≤ 1) :
    bits BinOp.or .u8 (byteB low l (l.length / 8) : Int) ((c : Int) * 2 ^ (cond low (l.length % 8) (7 - l.length % 8)) % 256) = (byteB low (l ++ [c]) (l.length / 8) : Nat) := by
  have h7 : 2 ^ (cond low (l.length % 8) (7 - l.length % 8)) ≤ 2 ^ 7 := Nat.pow_le_pow_right (by decide) (by cases low <;> simp <;> omega)
  have hsh : c * 2 ^ (cond low (l.length % 8) (7 - l.length % 8)) ≤ 1 * 128 := Nat.mul_le_mul hc h7
  have e : (c : Int) * 2 ^ (cond low (l.length % 8) (7 - l.length % 8)) % 256 = ((c * 2 ^ (cond low (l.length % 8) (7 - l.length % 8)) : Nat) : Int) := by
    have e1 : ((c * 2 ^ (cond low (l.length % 8) (7 - l.length % 8)) : Nat) : Int) = (c : Int) * 2 ^ (cond low (l.length % 8) (7 - l.length % 8)) := by simp
    rw [← e1]
    generalize c * 2 ^ (cond low (l.length % 8) (7 - l.length % 8)) = y at *
    omega
  rw [e, u8_or_nat _ _ (byteB_lt low hb _) (by omega), byteB_or low hb hc]
/-- What Write answers, and the bits that it adds. -/
def wrE (v : Nat) (n : Int) : Nat := if n < 0 ∨ 32 < n then 1 else if n < 32 ∧ v / 2 ^ n.toNat ≠ 0 then 7 else 0
def wrN (low : Bool) (v n : Nat) : List Nat := cond low (wordB v n).reverse (wordB v n)
def wrL (low : Bool) (v : Nat) (n : Int) : List Nat := if wrE v n = 0 then wrN low v n.toNat else []
@[simp] theorem length_wrN (low : Bool) (v n : Nat) : (wrN low v n).length = n := by cases low <;> simp [wrN]
theorem bit_wrN (low : Bool) (v n : Nat) : Bit (wrN low v n) := by cases low; exact bit_wordB _ _; exact (bit_wordB _ _).reverse
theorem wrN_get (low : Bool) (v n i : Nat) (h : i < n) : (wrN low v n)[i]? = some (v / 2 ^ (cond low i (n - 1 - i)) % 2) := by
  cases low
  · exact wordB_get v n i h
  · simp only [wrN, cond]
    rw [List.getElem?_reverse (by simpa using h), length_wordB, wordB_get _ _ _ (by omega)]
    congr 4; omega
theorem take_wrN (low : Bool) (v n i : Nat) (h : i < n) : (wrN low v n).take (i + 1) = (wrN low v n).take i ++ [v / 2 ^ (cond low i (n - 1 - i)) % 2] := by
  rw [List.take_add_one, wrN_get low v n i h]; rfl
theorem wordB_add (v a b : Nat) : wordB v (a + b) = wordB (v / 2 ^ b) a ++ wordB v b := by
  induction a with
  | zero => simp [wordB]
  | succ a ih => rw [show a + 1 + b = (a + b) + 1 by omega, wordB, wordB, ih, List.cons_append, Nat.div_div_eq_div_mul, ← Nat.pow_add, Nat.add_comm b a]
def alignL (l : List Nat) : List Nat := l ++ List.replicate ((8 - l.length % 8) % 8) 0
def digB (s : List UInt8) : Bool := s.all fun c => c == 48 || c == 49
def unTx (s : List UInt8) : List Nat := s.map fun c => c.toNat - 48
theorem digB_tx {s : List UInt8} (h : digB s = true) : s = tx (unTx s) ∧ Bit (unTx s) := by
  have hc : ∀ c ∈ s, c = 48 ∨ c = 49 := by simpa [digB] using h
  refine ⟨?_, ?_⟩
  · simp only [tx, unTx, List.map_map]
    conv => lhs; rw [← List.map_id s]
    refine List.map_congr_left fun c hm => ?_
    rcases hc c hm with rfl | rfl <;> rfl
  · intro b hb
    obtain ⟨c, hm, rfl⟩ := List.mem_map.1 hb
    rcases hc c hm with rfl | rfl <;> decide
@[simp] theorem length_unTx (s : List UInt8) : (unTx s).length = s.length := by simp [unTx]
theorem bytesB_append8 (low : Bool) (l m : List Nat) (h : l.length % 8 = 0) : bytesB low (l ++ m) = bytesB low l ++ bytesB low m := by
  apply List.ext_getElem?
  intro i
  have e : ((l ++ m).length + 7) / 8 = l.length / 8 + (m.length + 7) / 8 := by simp; omega
  have e' : (l.length + 7) / 8 = l.length / 8 := by omega
  by_cases hi : i < l.length / 8
  · rw [bytesB_get _ _ _ (by omega), List.getElem?_append_left (by simp; omega), bytesB_get _ _ _ (by omega)]
    congr 2; unfold byteB
    refine numV_congr low 8 fun j hj => ?_
    simp only [List.getD_eq_getElem?_getD]; rw [List.getElem?_append_left (by omega)]
  · rw [List.getElem?_append_right (by simp; omega), length_bytesB, e']
    by_cases h2 : i < l.length / 8 + (m.length + 7) / 8
    · rw [bytesB_get _ _ _ (by omega), bytesB_get _ _ _ (by omega)]
      congr 2; unfold byteB
      refine numV_congr low 8 fun j hj => ?_
      simp only [List.getD_eq_getElem?_getD]; rw [List.getElem?_append_right (by omega)]
      congr 2; omega
    · rw [List.getElem?_eq_none (by simp; omega), List.getElem?_eq_none (by simp; omega)]
theorem digB_split (s : List UInt8) (k : Nat) (hk : k < s.length) (h : digB (s.take k) = true) (hc : s[k] = 48 ∨ s[k] = 49) : digB (s.take (k + 1)) = true := by
  rw [List.take_succ_eq_append_getElem hk]
  simp only [digB, List.all_append, Bool.and_eq_true] at h ⊢
  exact ⟨h, by rcases hc with e | e <;> simp [e]⟩
theorem digB_no (s : List UInt8) (k : Nat) (hk : k < s.length) (hc : ¬ (s[k] = 48 ∨ s[k] = 49)) : digB s = false := by
  rw [digB, List.all_eq_false]
  exact ⟨s[k], by simp, by simpa using hc⟩

theorem byte_ne {c d : UInt8} (h : ¬ c = d) : ((c.toNat : Int) != d.toNat) = true := by
  rw [bne_iff_ne]
  exact fun e => h (UInt8.toNat_inj.1 (by omega))

end Go.Mz

namespace Go.Mz
open Go.RowKit
set_option linter.unusedVariables false
set_option linter.unusedSimpArgs false

def revB (c : UInt8) : UInt8 := UInt8.ofNat (numB (wordB c.toNat 8).reverse)
theorem revB_toNat (c : UInt8) : (revB c).toNat = numB (wordB c.toNat 8).reverse := by
  have := numB_lt (bit_wordB c.toNat 8).reverse
  simp [revB] at this ⊢; omega
theorem wordB_num (l : List Nat) (h : Bit l) : wordB (numB l) l.length = l := by
  induction l with
  | nil => rfl
  | cons b l ih =>
    have hb := h b (by simp)
    have hl : Bit l := fun c hc => h c (by simp [hc])
    have hlt := numB_lt (l := l) hl
    have e1 : numB (b :: l) / 2 ^ l.length % 2 = b := by
      rw [numB_cons, Nat.mul_comm, Nat.mul_add_div (Nat.pow_pos (by decide)), Nat.div_eq_of_lt hlt]; omega
    have e2 : ∀ n, n ≤ l.length → wordB (numB (b :: l)) n = wordB (numB l) n := by
      intro n hn
      have key : ∀ i, i < n → numB (b :: l) / 2 ^ i % 2 = numB l / 2 ^ i % 2 := by
        intro i hi
        rw [numB_cons, show l.length = (l.length - i - 1) + 1 + i by omega, Nat.pow_add, ← Nat.mul_assoc, Nat.mul_comm _ (2 ^ i), Nat.mul_add_div (Nat.pow_pos (by decide)), Nat.pow_succ, ← Nat.mul_assoc]
        omega
      clear hn
      induction n with
      | zero => rfl
      | succ n ihn => rw [wordB, wordB, key n (by omega), ihn (fun i hi => key i (by omega))]
    rw [List.length_cons, wordB, e1, e2 _ (Nat.le_refl _), ih hl]
theorem bits8_rev (low : Bool) (c : UInt8) : bits8 (!low) (revB c) = bits8 low c := by
  have h := wordB_num (wordB c.toNat 8).reverse (bit_wordB _ _).reverse
  simp only [List.length_reverse, length_wordB] at h
  cases low
  · simp only [bits8, Bool.not_false, cond, revB_toNat, h, List.reverse_reverse]
  · simp only [bits8, Bool.not_true, cond, revB_toNat, h]
theorem bitsL_rev (low : Bool) (bs : List UInt8) : bitsL (!low) (bs.map revB) = bitsL low bs := by
  simp only [bitsL, List.flatMap_map]
  congr 1; funext c; exact bits8_rev low c
theorem numV_take8 (low : Bool) (f : Nat → Nat) (hf : ∀ i, f i ≤ 1) (n i : Nat) (hi : i < n) : numV low f n / 2 ^ (cond low i (n - 1 - i)) % 2 = f i := by
  have hl : Bit ((List.range n).map f) := fun b hb => by obtain ⟨i, _, rfl⟩ := List.mem_map.1 hb; exact hf i
  have h2 := wordB_num _ hl
  have h3 := wordB_num _ hl.reverse
  simp only [List.length_map, List.length_range, List.length_reverse] at h2 h3
  cases low
  · rw [numV_hi]
    have := wordB_get (numB ((List.range n).map f)) n i hi
    rw [h2, List.getElem?_map, List.getElem?_range hi] at this
    simpa using this.symm
  · rw [numV_lo]
    have := wordB_get (numB ((List.range n).map f).reverse) n (n - 1 - i) (by omega)
    rw [h3, List.getElem?_reverse (by simp; omega)] at this
    simp only [List.length_map, List.length_range] at this
    rw [show n - 1 - (n - 1 - i) = i by omega, List.getElem?_map, List.getElem?_range hi] at this
    simpa using this.symm
/-- What was written is read. -/
theorem bitV_bytesB (low : Bool) {l : List Nat} (hb : Bit l) (i : Nat) (h : i < 8 * ((l.length + 7) / 8)) : bitV (bytesB low l) low i = l.getD i 0 := by
  unfold bitV
  rw [List.getD_eq_getElem?_getD, bytesB_get low l (i / 8) (by omega), Option.getD_some, toNat_byteB low hb]
  have := numV_take8 low (fun j => l.getD (8 * (i / 8) + j) 0) (fun j => hb.getD _) 8 (i % 8) (by omega)
  simp only [show 8 - 1 - i % 8 = 7 - i % 8 by omega] at this
  unfold byteB
  rw [this]
  congr 1; omega
theorem bitsL_bytesB (low : Bool) {l : List Nat} (hb : Bit l) (i : Nat) : (bitsL low (bytesB low l)).getD i 0 = l.getD i 0 := by
  by_cases h : i < 8 * ((l.length + 7) / 8)
  · rw [bitsL_getD, bitV_bytesB low hb i h]
  · rw [List.getD_eq_getElem?_getD, List.getD_eq_getElem?_getD, List.getElem?_eq_none (by simp; omega), List.getElem?_eq_none (by omega)]
theorem numV_wrN (low : Bool) (v n : Nat) (hv : v < 2 ^ n) (f : Nat → Nat) (hf : ∀ i, i < n → f i = (wrN low v n).getD i 0) : numV low f n = v := by
  have e : (List.range n).map f = wrN low v n := by
    apply List.ext_getElem?
    intro i
    by_cases hi : i < n
    · rw [List.getElem?_map, List.getElem?_range hi, wrN_get low v n i hi]
      simp only [Option.map_some]
      rw [hf i hi, List.getD_eq_getElem?_getD, wrN_get low v n i hi]; rfl
    · rw [List.getElem?_eq_none (by simp; omega), List.getElem?_eq_none (by simp; omega)]
  rw [numV_L, e]
  cases low <;> simp [wrN, numB_wordB, Nat.mod_eq_of_lt hv]
theorem wordB_numV_rev (low : Bool) (v n : Nat) (f : Nat → Nat) (hf : ∀ i, i < n → f i = (wrN low v n).getD i 0) : wordB (numV (!low) f n) n = (wordB v n).reverse := by
  have e : (List.range n).map f = wrN low v n := by
    apply List.ext_getElem?
    intro i
    by_cases hi : i < n
    · rw [List.getElem?_map, List.getElem?_range hi, wrN_get low v n i hi]
      simp only [Option.map_some]
      rw [hf i hi, List.getD_eq_getElem?_getD, wrN_get low v n i hi]; rfl
    · rw [List.getElem?_eq_none (by simp; omega), List.getElem?_eq_none (by simp; omega)]
  rw [numV_L, e]
  have h2 := wordB_num (wordB v n).reverse (bit_wordB v n).reverse
  simp only [List.length_reverse, length_wordB] at h2
  cases low <;> simp [wrN, h2]
end Go.Mz
