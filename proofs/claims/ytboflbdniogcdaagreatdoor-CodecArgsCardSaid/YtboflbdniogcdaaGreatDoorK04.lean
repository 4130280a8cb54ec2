/-
  Parts of a proof.
-/
import Derived.Test.YtboflbdniogcdaaGreatDoorK01
import Derived.Deep.LoopGhost
namespace Go.Mz
open Go.RowKit
set_option linter.unusedVariables false
set_option linter.unusedSimpArgs false
def byteB (low : Bool) (l : List Nat) (i : Nat) : Nat := numV low (fun j => l.getD (8 * i + j) 0) 8
def bytesB (low : Bool) (l : List Nat) : List UInt8 := (List.range ((l.length + 7) / 8)).map fun i => UInt8.ofNat (byteB low l i)
@[simp] theorem length_bytesB (low : Bool) (l : List Nat) : (bytesB low l).length = (l.length + 7) / 8 := by simp [bytesB]
theorem numV_congr (low : Bool) {f g : Nat → Nat} : ∀ n, (∀ i, i < n → f i = g i) → numV low f n = numV low g n
 | 0, _ => rfl
 | n + 1, h => by simp only [numV]; rw [numV_congr low n (fun i hi => h i (by omega)), h n (by omega)]
theorem numV_zero (low : Bool) (n : Nat) : numV low (fun _ => 0) n = 0 := by induction n <;> cases low <;> simp_all [numV]
theorem numV_set (low : Bool) (f : Nat → Nat) (i c : Nat) (h0 : f i = 0) : ∀ n, i < n → numV low (fun j => if j = i then c else f j) n = numV low f n + c * 2 ^ (cond low i (n - 1 - i)) := by
 intro n
 induction n with
 | zero => intro h; omega
 | succ n ih =>
  intro hi
  by_cases e : i = n
  ·subst e
   have hc : numV low (fun j => if j = i then c else f j) i = numV low f i := numV_congr low i fun j hj => by simp [Nat.ne_of_lt hj]
   cases low <;> simp [numV, hc, h0]
  ·have hlt : i < n := by omega
   have h1 := ih hlt
   have hn : (if n = i then c else f n) = f n := by simp [Ne.symm e]
   cases low
   ·simp only [numV, cond, h1, hn, Nat.add_mul, Nat.mul_assoc]
    simp only [cond] at h1
    rw [show n + 1 - 1 - i = (n - 1 - i) + 1 by omega, Nat.pow_succ]; omega
   ·simp only [numV, cond, h1, hn]; omega
theorem numV_low_lt (f : Nat → Nat) (hf : ∀ i, f i ≤ 1) (i : Nat) (h0 : ∀ j, i ≤ j → f j = 0) : ∀ n, numV true f n < 2 ^ i
 | 0 => by simp [numV, Nat.pow_pos]
 | n + 1 => by
  simp only [numV, cond]
  by_cases h : i ≤ n
  ·rw [h0 n h]; simpa using numV_low_lt f hf i h0 n
  ·have := numV_lt true f hf (n + 1)
   simp only [numV, cond] at this
   exact Nat.lt_of_lt_of_le this (Nat.pow_le_pow_right (by decide) (by omega))
theorem numV_hi_mod (f : Nat → Nat) (i : Nat) (h0 : ∀ j, i ≤ j → f j = 0) : ∀ n, numV false f n % 2 ^ (n - i) = 0
 | 0 => by simp [numV]
 | n + 1 => by
  simp only [numV, cond]
  by_cases h : i ≤ n
  ·rw [h0 n h, show n + 1 - i = (n - i) + 1 by omega, Nat.pow_succ, Nat.add_zero, Nat.mul_mod_mul_right, numV_hi_mod f i h0 n]
  ·rw [show n + 1 - i = 0 by omega]; simp [Nat.mod_one]
theorem getD_snoc (l : List Nat) (c k : Nat) : (l ++ [c]).getD k 0 = if k = l.length then c else l.getD k 0 := by
 simp only [List.getD_eq_getElem?_getD]
 by_cases h : k < l.length
 ·rw [List.getElem?_append_left h]; simp [Nat.ne_of_lt h]
 ·rw [List.getElem?_append_right (by omega)]
  by_cases e : k = l.length
  ·simp [e]
  ·rw [List.getElem?_eq_none (by simp; omega), List.getElem?_eq_none (by omega)]; simp [e]
theorem byteB_lt (low : Bool) {l : List Nat} (hb : Bit l) (i : Nat) : byteB low l i < 256 := numV_lt low _ (fun j => hb.getD _) 8
theorem byteB_snoc (low : Bool) (l : List Nat) (c : Nat) : byteB low (l ++ [c]) (l.length / 8) = byteB low l (l.length / 8) + c * 2 ^ (cond low (l.length % 8) (7 - l.length % 8)) := by
 unfold byteB
 rw [show (7 - l.length % 8) = 8 - 1 - l.length % 8 by omega, ← numV_set low (fun j => l.getD (8 * (l.length / 8) + j) 0) (l.length % 8) c ?_ 8 (by omega)]
 ·refine numV_congr low 8 fun j hj => ?_
  rw [getD_snoc]
  by_cases e : j = l.length % 8
  ·rw [if_pos (by omega), if_pos e]
  ·rw [if_neg (by omega), if_neg e]
 ·show l.getD _ 0 = 0
  rw [List.getD_eq_getElem?_getD, List.getElem?_eq_none (by omega)]; rfl
theorem byteB_snoc_other (low : Bool) (l : List Nat) (c i : Nat) (h : i < l.length / 8) : byteB low (l ++ [c]) i = byteB low l i := by
 unfold byteB
 refine numV_congr low 8 fun j hj => ?_
 rw [getD_snoc, if_neg (by omega)]
theorem byteB_or (low : Bool) {l : List Nat} (hb : Bit l) {c : Nat} (hc : c ≤ 1) :
  byteB low l (l.length / 8) ||| c * 2 ^ (cond low (l.length % 8) (7 - l.length % 8)) = byteB low (l ++ [c]) (l.length / 8) := by
 rw [byteB_snoc]
 have h0 : ∀ j, l.length % 8 ≤ j → l.getD (8 * (l.length / 8) + j) 0 = 0 := fun j hj => by
  rw [List.getD_eq_getElem?_getD, List.getElem?_eq_none (by omega)]; rfl
 cases low
 ·have h1 := numV_hi_mod (fun j => l.getD (8 * (l.length / 8) + j) 0) (l.length % 8) h0 8
  have h2 : c * 2 ^ (7 - l.length % 8) < 2 ^ (8 - l.length % 8) := by
   rw [show 8 - l.length % 8 = (7 - l.length % 8) + 1 by omega, Nat.pow_succ]
   have : c * 2 ^ (7 - l.length % 8) ≤ 1 * 2 ^ (7 - l.length % 8) := Nat.mul_le_mul_right _ hc
   have := Nat.pow_pos (a := 2) (n := 7 - l.length % 8) (by decide)
   omega
  exact nat_join _ _ _ h1 h2
 ·have h1 := numV_low_lt (fun j => l.getD (8 * (l.length / 8) + j) 0) (fun j => hb.getD _) (l.length % 8) h0 8
  rw [Nat.or_comm, Nat.add_comm]
  exact nat_join _ _ _ (by simp) h1
theorem bytesB_put (low : Bool) {l : List Nat} (c : Nat) (bs : List UInt8) (hlen : bs.length = l.length / 8 + 1) (hbs : ∀ i, i < l.length / 8 → bs[i]? = some (UInt8.ofNat (byteB low l i))) :
  bs.set (l.length / 8) (UInt8.ofNat (byteB low (l ++ [c]) (l.length / 8))) = bytesB low (l ++ [c]) := by
 apply List.ext_getElem?
 intro i
 have e : ((l ++ [c]).length + 7) / 8 = l.length / 8 + 1 := by simp; omega
 by_cases hi : i < l.length / 8 + 1
 ·rw [show (bytesB low (l ++ [c]))[i]? = some (UInt8.ofNat (byteB low (l ++ [c]) i)) by simp only [bytesB, e]; rw [List.getElem?_map, List.getElem?_range hi]; rfl]
  by_cases h : i = l.length / 8
  ·subst h; rw [List.getElem?_set_self (by omega)]
  ·rw [List.getElem?_set_ne (by omega), hbs i (by omega), byteB_snoc_other low l c i (by omega)]
 ·rw [List.getElem?_eq_none (by simp; omega), List.getElem?_eq_none (by simp; omega)]
theorem bytesB_get (low : Bool) (l : List Nat) (i : Nat) (h : i < (l.length + 7) / 8) : (bytesB low l)[i]? = some (UInt8.ofNat (byteB low l i)) := by
 simp only [bytesB]; rw [List.getElem?_map, List.getElem?_range h]; rfl
theorem toNat_byteB (low : Bool) {l : List Nat} (hb : Bit l) (i : Nat) : (UInt8.ofNat (byteB low l i)).toNat = byteB low l i := by
 have := byteB_lt low hb i
 simp; omega
theorem byteB_or8 (low : Bool) {l : List Nat} (hb : Bit l) {c : Nat} (hc : c ≤ 1) :
  bits BinOp.or .u8 (byteB low l (l.length / 8) : Int) ((c : Int) * 2 ^ (cond low (l.length % 8) (7 - l.length % 8)) % 256) = (byteB low (l ++ [c]) (l.length / 8) : Nat) := by
 have h7 : 2 ^ (cond low (l.length % 8) (7 - l.length % 8)) ≤ 2 ^ 7 := Nat.pow_le_pow_right (by decide) (by cases low <;> simp <;> omega)
 have hsh : c * 2 ^ (cond low (l.length % 8) (7 - l.length % 8)) ≤ 1 * 128 := Nat.mul_le_mul hc h7
 have e : (c : Int) * 2 ^ (cond low (l.length % 8) (7 - l.length % 8)) % 256 = ((c * 2 ^ (cond low (l.length % 8) (7 - l.length % 8)) : Nat) : Int) := by
  have e1 : ((c * 2 ^ (cond low (l.length % 8) (7 - l.length % 8)) : Nat) : Int) = (c : Int) * 2 ^ (cond low (l.length % 8) (7 - l.length % 8)) := by simp
  rw [← e1]
  generalize c * 2 ^ (cond low (l.length % 8) (7 - l.length % 8)) = y at *
  omega
 rw [e, u8_or_nat _ _ (byteB_lt low hb _) (by omega), byteB_or low hb hc]
def wrN (low : Bool) (v n : Nat) : List Nat := cond low (wordB v n).reverse (wordB v n)
@[simp] theorem length_wrN (low : Bool) (v n : Nat) : (wrN low v n).length = n := by cases low <;> simp [wrN]
theorem bit_wrN (low : Bool) (v n : Nat) : Bit (wrN low v n) := by cases low; exact bit_wordB _ _; exact (bit_wordB _ _).reverse
theorem wrN_get (low : Bool) (v n i : Nat) (h : i < n) : (wrN low v n)[i]? = some (v / 2 ^ (cond low i (n - 1 - i)) % 2) := by
 cases low
 ·exact wordB_get v n i h
 ·simp only [wrN, cond]
  rw [List.getElem?_reverse (by simpa using h), length_wordB, wordB_get _ _ _ (by omega)]
  congr 4; omega
theorem take_wrN (low : Bool) (v n i : Nat) (h : i < n) : (wrN low v n).take (i + 1) = (wrN low v n).take i ++ [v / 2 ^ (cond low i (n - 1 - i)) % 2] := by
 rw [List.take_add_one, wrN_get low v n i h]; rfl
def alignL (l : List Nat) : List Nat := l ++ List.replicate ((8 - l.length % 8) % 8) 0
def digB (s : List UInt8) : Bool := s.all fun c => c == 48 || c == 49
def unTx (s : List UInt8) : List Nat := s.map fun c => c.toNat - 48
@[simp] theorem length_unTx (s : List UInt8) : (unTx s).length = s.length := by simp [unTx]
end Go.Mz
namespace Go.Mz
open Go.RowKit
set_option linter.unusedVariables false
set_option linter.unusedSimpArgs false
abbrev Txt := List UInt8
def start0 : List Txt := (List.range 258).map fun i => [UInt8.ofNat i]
theorem length_start0 : start0.length = 258 := by simp [start0]
def widthL (k : Nat) (old : Bool) : Nat :=
 if cond old k (k + 1) < 512 then 9 else if cond old k (k + 1) < 1024 then 10 else if cond old k (k + 1) < 2048 then 11 else 12
structure LS where
 L : List Txt
 a : Txt
 p : Nat
def codeAt (bits : List Nat) (old : Bool) (s : LS) : Nat := numV old (fun i => bits.getD (s.p + i) 0) (widthL s.L.length old)
def codeS (bits : List Nat) (old : Bool) (s : LS) : LS × Txt × Bool × Nat :=
 if bits.length < s.p + widthL s.L.length old then (s, [], false, 2)
 else if codeAt bits old s = 256 then (⟨start0, [], s.p + widthL s.L.length old⟩, [], false, 0)
 else if codeAt bits old s = 257 then (⟨s.L, s.a, s.p + widthL s.L.length old⟩, [], true, 0)
 else if s.a = [] ∧ 255 < codeAt bits old s then (⟨s.L, s.a, s.p + widthL s.L.length old⟩, [], false, 6)
 else if s.a = [] then (⟨s.L, s.L.getD (codeAt bits old s) [], s.p + widthL s.L.length old⟩, s.L.getD (codeAt bits old s) [], false, 0)
 else if s.L.length < codeAt bits old s ∨ codeAt bits old s = s.L.length ∧ 4096 ≤ s.L.length then (⟨s.L, s.a, s.p + widthL s.L.length old⟩, [], false, 6)
 else
  let t := if codeAt bits old s < s.L.length then s.L.getD (codeAt bits old s) [] else s.a ++ s.a.take 1
  (⟨if s.L.length < 4096 then s.L ++ [s.a ++ t.take 1] else s.L, t, s.p + widthL s.L.length old⟩, t, false, 0)
def TabOk (L : List Txt) (ah : List Int) (la : List UInt8) (lo : List Nat) : Prop :=
 ah.length = L.length ∧ la.length = L.length ∧ lo.length = L.length ∧
 ∀ i t, L[i]? = some t → lo[i]? = some t.length ∧ t.length ≤ L.length ∧
  ∃ c, la[i]? = some c ∧ ((t = [c] ∧ ah[i]? = some (-1)) ∨ ∃ (j : Nat) (u : Txt), j < i ∧ L[j]? = some u ∧ u ≠ [] ∧ t = u ++ [c] ∧ ah[i]? = some (j : Int))
theorem TabOk.ne {L : List Txt} {ah la lo} (h : TabOk L ah la lo) {i : Nat} {t : Txt} (hi : L[i]? = some t) : t ≠ [] := by
 obtain ⟨_, _, c, _, ⟨rfl, _⟩ | ⟨j, u, _, _, _, rfl, _⟩⟩ := h.2.2.2 i t hi <;> simp
end Go.Mz
namespace Go.Mz
open Go.RowKit
set_option linter.unusedVariables false
set_option linter.unusedSimpArgs false
structure LOk (bits : List Nat) (s : LS) : Prop where
 L1 : 258 ≤ s.L.length
 L2 : s.L.length ≤ 4096
 lt : ∀ (i : Nat) (t : Txt), s.L[i]? = some t → t ≠ [] ∧ t.length ≤ s.L.length
 al : s.a.length ≤ s.L.length
 pl : s.p ≤ bits.length
theorem start0_lt : ∀ (i : Nat) (t : Txt), start0[i]? = some t → t ≠ [] ∧ t.length ≤ start0.length := by
 intro i t h
 simp only [start0, List.getElem?_map] at h
 cases hq : (List.range 258)[i]? with
 | none => rw [hq] at h; cases h
 | some x => rw [hq] at h; cases h; exact ⟨by simp, by rw [length_start0]; simp⟩
theorem LOk.start (bits : List Nat) : LOk bits ⟨start0, [], 0⟩ :=
 ⟨by simp only [length_start0]; omega, by simp only [length_start0]; omega, start0_lt, by simp, by simp⟩
end Go.Mz
namespace Go.Mz
open Go.RowKit
set_option linter.unusedVariables false
set_option linter.unusedSimpArgs false
def revB (c : UInt8) : UInt8 := UInt8.ofNat (numB (wordB c.toNat 8).reverse)
theorem revB_toNat (c : UInt8) : (revB c).toNat = numB (wordB c.toNat 8).reverse := by
 have := numB_lt (bit_wordB c.toNat 8).reverse
 simp [revB] at this ⊢; omega
theorem wordB_num (l : List Nat) (h : Bit l) : wordB (numB l) l.length = l := by
 induction l with
 | nil => rfl
 | cons b l ih =>
  have hb := h b (by simp)
  have hl : Bit l := fun c hc => h c (by simp [hc])
  have hlt := numB_lt (l := l) hl
  have e1 : numB (b :: l) / 2 ^ l.length % 2 = b := by
   rw [numB_cons, Nat.mul_comm, Nat.mul_add_div (Nat.pow_pos (by decide)), Nat.div_eq_of_lt hlt]; omega
  have e2 : ∀ n, n ≤ l.length → wordB (numB (b :: l)) n = wordB (numB l) n := by
   intro n hn
   have key : ∀ i, i < n → numB (b :: l) / 2 ^ i % 2 = numB l / 2 ^ i % 2 := by
    intro i hi
    rw [numB_cons, show l.length = (l.length - i - 1) + 1 + i by omega, Nat.pow_add, ← Nat.mul_assoc, Nat.mul_comm _ (2 ^ i), Nat.mul_add_div (Nat.pow_pos (by decide)), Nat.pow_succ, ← Nat.mul_assoc]
    omega
   clear hn
   induction n with
   | zero => rfl
   | succ n ihn => rw [wordB, wordB, key n (by omega), ihn (fun i hi => key i (by omega))]
  rw [List.length_cons, wordB, e1, e2 _ (Nat.le_refl _), ih hl]
theorem numV_take8 (low : Bool) (f : Nat → Nat) (hf : ∀ i, f i ≤ 1) (n i : Nat) (hi : i < n) : numV low f n / 2 ^ (cond low i (n - 1 - i)) % 2 = f i := by
 have hl : Bit ((List.range n).map f) := fun b hb => by obtain ⟨i, _, rfl⟩ := List.mem_map.1 hb; exact hf i
 have h2 := wordB_num _ hl
 have h3 := wordB_num _ hl.reverse
 simp only [List.length_map, List.length_range, List.length_reverse] at h2 h3
 cases low
 ·rw [numV_hi]
  have := wordB_get (numB ((List.range n).map f)) n i hi
  rw [h2, List.getElem?_map, List.getElem?_range hi] at this
  simpa using this.symm
 ·rw [numV_lo]
  have := wordB_get (numB ((List.range n).map f).reverse) n (n - 1 - i) (by omega)
  rw [h3, List.getElem?_reverse (by simp; omega)] at this
  simp only [List.length_map, List.length_range] at this
  rw [show n - 1 - (n - 1 - i) = i by omega, List.getElem?_map, List.getElem?_range hi] at this
  simpa using this.symm
theorem bitV_bytesB (low : Bool) {l : List Nat} (hb : Bit l) (i : Nat) (h : i < 8 * ((l.length + 7) / 8)) : bitV (bytesB low l) low i = l.getD i 0 := by
 unfold bitV
 rw [List.getD_eq_getElem?_getD, bytesB_get low l (i / 8) (by omega), Option.getD_some, toNat_byteB low hb]
 have := numV_take8 low (fun j => l.getD (8 * (i / 8) + j) 0) (fun j => hb.getD _) 8 (i % 8) (by omega)
 simp only [show 8 - 1 - i % 8 = 7 - i % 8 by omega] at this
 unfold byteB
 rw [this]
 congr 1; omega
theorem bitsL_bytesB (low : Bool) {l : List Nat} (hb : Bit l) (i : Nat) : (bitsL low (bytesB low l)).getD i 0 = l.getD i 0 := by
 by_cases h : i < 8 * ((l.length + 7) / 8)
 ·rw [bitsL_getD, bitV_bytesB low hb i h]
 ·rw [List.getD_eq_getElem?_getD, List.getD_eq_getElem?_getD, List.getElem?_eq_none (by simp; omega), List.getElem?_eq_none (by omega)]
theorem numV_wrN (low : Bool) (v n : Nat) (hv : v < 2 ^ n) (f : Nat → Nat) (hf : ∀ i, i < n → f i = (wrN low v n).getD i 0) : numV low f n = v := by
 have e : (List.range n).map f = wrN low v n := by
  apply List.ext_getElem?
  intro i
  by_cases hi : i < n
  ·rw [List.getElem?_map, List.getElem?_range hi, wrN_get low v n i hi]
   simp only [Option.map_some]
   rw [hf i hi, List.getD_eq_getElem?_getD, wrN_get low v n i hi]; rfl
  ·rw [List.getElem?_eq_none (by simp; omega), List.getElem?_eq_none (by simp; omega)]
 rw [numV_L, e]
 cases low <;> simp [wrN, numB_wordB, Nat.mod_eq_of_lt hv]
end Go.Mz
namespace Go.Mz
open Go.RowKit
set_option linter.unusedVariables false
set_option linter.unusedSimpArgs false
theorem start0_get (c : UInt8) : start0[c.toNat]? = some [c] := by
 simp only [start0, List.getElem?_map]
 have : c.toNat < 256 := UInt8.toNat_lt c
 rw [List.getElem?_range (by omega)]
 simp
end Go.Mz
namespace Go.Mz
open Go.RowKit
set_option linter.unusedVariables false
set_option linter.unusedSimpArgs false
def widN (q : Nat) : Nat := if q < 512 then 9 else if q < 1024 then 10 else if q < 2048 then 11 else 12
theorem lt_widN {q k : Nat} (h : q < k) (hk : k ≤ 4096) : q < 2 ^ widN k := by
 unfold widN
 split
 ·simp; omega
 ·split
  ·simp; omega
  ·split
   ·simp; omega
   ·simp; omega
theorem widN_bd (k : Nat) : 9 ≤ widN k ∧ widN k ≤ 12 := by
 unfold widN; split
 ·omega
 ·split
  ·omega
  ·split <;> omega
abbrev Pairs := Nat → Nat → Option Nat
def noPairs : Pairs := fun _ _ => none
def putPair (M : Pairs) (p c r : Nat) : Pairs := fun p' c' => if p' = p ∧ c' = c then some r else M p' c'
def encF : List Txt → Pairs → Option Nat → Txt → List Nat
 | EL, _, none, [] => wordB 257 (widN EL.length)
 | EL, _, some q, [] => wordB q (widN EL.length) ++ wordB 257 (widN (EL.length + 1))
 | EL, M, none, c :: cs => encF EL M (some c.toNat) cs
 | EL, M, some q, c :: cs =>
  match M q c.toNat with
  | some r => encF EL M (some r) cs
  | none =>
   if EL.length + 1 = 4094 then wordB q (widN EL.length) ++ (wordB 256 12 ++ encF start0 noPairs (some c.toNat) cs)
   else wordB q (widN EL.length) ++ encF (EL ++ [EL.getD q [] ++ [c]]) (putPair M q c.toNat EL.length) (some c.toNat) cs
def encB (b : Txt) : List Nat := wordB 256 9 ++ encF start0 noPairs none b
structure EOk (EL : List Txt) (M : Pairs) : Prop where
 l1 : 258 ≤ EL.length
 l2 : EL.length < 4094
 one : ∀ c : UInt8, EL[c.toNat]? = some [c]
 ne : ∀ (i : Nat) (t : Txt), EL[i]? = some t → t ≠ []
 pr : ∀ (p : Nat) (c : UInt8) (r : Nat), M p c.toNat = some r → 258 ≤ r ∧ ∃ u, EL[p]? = some u ∧ EL[r]? = some (u ++ [c])
theorem EOk.start : EOk start0 noPairs :=
 ⟨by rw [length_start0]; omega, by rw [length_start0]; omega, start0_get, fun i t h => (start0_lt i t h).1, fun p c r h => by cases h⟩
theorem EOk.add {EL : List Txt} {M : Pairs} (h : EOk EL M) {q : Nat} {u : Txt} (hq : EL[q]? = some u) (c : UInt8) (h2 : EL.length + 1 < 4094) : EOk (EL ++ [u ++ [c]]) (putPair M q c.toNat EL.length) := by
 have hlt : ∀ {i : Nat} {t : Txt}, EL[i]? = some t → (EL ++ [u ++ [c]])[i]? = some t := fun {i t} hi => by
  rw [List.getElem?_append_left (List.getElem?_eq_some_iff.1 hi).1]; exact hi
 refine ⟨by simp; have := h.l1; omega, by simp; omega, fun d => hlt (h.one d), fun i t hi => ?_, fun p d r hr => ?_⟩
 ·by_cases hil : i < EL.length
  ·rw [List.getElem?_append_left hil] at hi
   exact h.ne i t hi
  ·rw [List.getElem?_append_right (by omega)] at hi
   have : t ∈ [u ++ [c]] := List.mem_of_getElem? hi
   simp at this
   subst this
   simp
 ·unfold putPair at hr
  split at hr
  ·rename_i e
   obtain ⟨rfl, e2⟩ := e
   cases hr
   have : d = c := UInt8.toNat_inj.1 e2
   subst this
   exact ⟨h.l1, u, hlt hq, by simp⟩
  ·obtain ⟨g1, v, g2, g3⟩ := h.pr p d r hr
   exact ⟨g1, v, hlt g2, hlt g3⟩
inductive Run (bits : List Nat) : LS → List Txt → LS → Prop
 | nil (s : LS) : Run bits s [] s
 | cons {s s1 s2 : LS} {t : Txt} {ts : List Txt} (h : codeS bits false s = (s1, t, false, 0)) (hm : s1.L.length ≤ 4093) (hp : s.p + 9 ≤ s1.p) (r : Run bits s1 ts s2) : Run bits s (t :: ts) s2
def Agree (bits : List Nat) (p : Nat) (l : List Nat) : Prop := p + l.length ≤ bits.length ∧ ∀ i, i < l.length → bits.getD (p + i) 0 = l.getD i 0
theorem Agree.left {bits : List Nat} {p : Nat} {l m : List Nat} (h : Agree bits p (l ++ m)) : Agree bits p l := by
 refine ⟨by have := h.1; rw [List.length_append] at this; omega, fun i hi => ?_⟩
 rw [h.2 i (by rw [List.length_append]; omega)]
 simp only [List.getD_eq_getElem?_getD]
 rw [List.getElem?_append_left hi]
theorem Agree.right {bits : List Nat} {p : Nat} {l m : List Nat} (h : Agree bits p (l ++ m)) : Agree bits (p + l.length) m := by
 refine ⟨by have := h.1; rw [List.length_append] at this; omega, fun i hi => ?_⟩
 rw [Nat.add_assoc, h.2 (l.length + i) (by rw [List.length_append]; omega)]
 simp only [List.getD_eq_getElem?_getD]
 rw [List.getElem?_append_right (by omega)]
 congr 2; omega
end Go.Mz
namespace Go.Mz
open Go.RowKit
set_option linter.unusedVariables false
set_option linter.unusedSimpArgs false
theorem Run.len {bits : List Nat} {s s' : LS} {ts : List Txt} (r : Run bits s ts s') : s.p + 9 * ts.length ≤ s'.p := by
 induction r with
 | nil s => simp
 | cons h hm hp r ih => rw [List.length_cons]; omega
theorem length_encF : ∀ (cs : Txt) (EL : List Txt) (M : Pairs) (st : Option Nat), (encF EL M st cs).length ≤ 24 * cs.length + 24 := by
 intro cs
 induction cs with
 | nil =>
  intro EL M st
  cases st with
  | none => rw [encF, length_wordB]; have := widN_bd EL.length; omega
  | some q => rw [encF, List.length_append, length_wordB, length_wordB]; have := widN_bd EL.length; have := widN_bd (EL.length + 1); simp; omega
 | cons c cs ih =>
  intro EL M st
  rw [List.length_cons]
  cases st with
  | none => rw [encF]; have := ih EL M (some c.toNat); omega
  | some q =>
   rw [encF]
   split
   ·rename_i r hr; have := ih EL M (some r); omega
   ·split
    ·rw [List.length_append, List.length_append, length_wordB, length_wordB]; have := ih start0 noPairs (some c.toNat); have := widN_bd EL.length; omega
    ·rw [List.length_append, length_wordB]; have := ih (EL ++ [EL.getD q [] ++ [c]]) (putPair M q c.toNat EL.length) (some c.toNat); have := widN_bd EL.length; omega
theorem length_encB (b : Txt) : (encB b).length ≤ 24 * b.length + 33 := by
 rw [encB, List.length_append, length_wordB]; have := length_encF b start0 noPairs none; omega
end Go.Mz
