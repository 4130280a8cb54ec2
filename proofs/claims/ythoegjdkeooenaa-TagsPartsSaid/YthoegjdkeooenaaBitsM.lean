/-
  Bits of bytes, as numbers: plain Lean, no program.
  Texts of 0 and 1: plain Lean, no program.
-/
import Derived.Test.YthoegjdkeooenaaSep
namespace Go.Mz
open Go.RowKit
set_option linter.unusedVariables false
set_option linter.unusedSimpArgs false

def bv (c : UInt8) : Value := .int .u8 (c.toNat : Int)
/-- The bit at a place, of bytes, from either end; nought behind them. -/
def bitV (bs : List UInt8) (low : Bool) (i : Nat) : Nat := (bs.getD (i / 8) 0).toNat / 2 ^ (cond low (i % 8) (7 - i % 8)) % 2
/-- The number of n bits: the first one the lowest (true), or the highest. -/
def numV (low : Bool) (f : Nat → Nat) : Nat → Nat
  | 0 => 0
  | n + 1 => cond low (numV low f n + f n * 2 ^ n) (numV low f n * 2 + f n)
def peekV (bs : List UInt8) (low : Bool) (p n : Nat) : Nat := numV low (fun i => bitV bs low (p + i)) n

theorem bitV_le (bs : List UInt8) (low : Bool) (i : Nat) : bitV bs low i ≤ 1 := by unfold bitV; omega
theorem bitV_out (bs : List UInt8) (low : Bool) (i : Nat) (h : 8 * bs.length ≤ i) : bitV bs low i = 0 := by
  unfold bitV
  rw [List.getD_eq_getElem?_getD, List.getElem?_eq_none (by omega)]
  simp
theorem numV_lt (low : Bool) (f : Nat → Nat) (hf : ∀ i, f i ≤ 1) : ∀ n, numV low f n < 2 ^ n
  | 0 => by simp [numV]
  | n + 1 => by
    have h := numV_lt low f hf n
    have h1 := hf n
    rw [Nat.pow_succ]
    cases low <;> simp only [numV, cond]
    · omega
    · have : f n * 2 ^ n ≤ 1 * 2 ^ n := Nat.mul_le_mul_right _ h1
      omega
theorem peekV_lt (bs : List UInt8) (low : Bool) (p n : Nat) : peekV bs low p n < 2 ^ n := numV_lt _ _ (fun _ => bitV_le _ _ _) n

theorem pow32 {n : Nat} (h : n ≤ 32) : 2 ^ n ≤ 4294967296 := Nat.pow_le_pow_right (n := 2) (by decide) h
theorem and1_u32 (x : Nat) (h : x < 4294967296) : bits .and .u32 (x : Int) 1 = ((x % 2 : Nat) : Int) := by
  have := u32_and_nat x 1 h (by decide)
  rw [nat_mask1] at this; exact this


theorem or_hi {x b k : Nat} (hx : x < 2 ^ k) (hk : k < 32) (hb : b ≤ 1) : bits .or .u32 ((x : Int) * 2 % 4294967296) (b : Int) = ((x * 2 + b : Nat) : Int) := by
  have h2 : x * 2 < 4294967296 := by
    have := pow32 (n := k + 1) (by omega)
    rw [Nat.pow_succ] at this; omega
  have e : (x : Int) * 2 % 4294967296 = ((x * 2 : Nat) : Int) := by omega
  rw [e, u32_or_nat _ _ h2 (by omega)]
  congr 1
  exact nat_join 1 (x * 2) b (by omega) (by omega)
theorem or_lo {x b k : Nat} (hx : x < 2 ^ k) (hk : k < 32) (hb : b ≤ 1) : bits .or .u32 (x : Int) ((b : Int) * 2 ^ k % 4294967296) = ((x + b * 2 ^ k : Nat) : Int) := by
  have h1 := pow32 (n := k + 1) (by omega)
  rw [Nat.pow_succ] at h1
  have h3 : b * 2 ^ k ≤ 1 * 2 ^ k := Nat.mul_le_mul_right _ hb
  have e : (b : Int) * 2 ^ k % 4294967296 = ((b * 2 ^ k : Nat) : Int) := by
    have e1 : ((b * 2 ^ k : Nat) : Int) = (b : Int) * 2 ^ k := by simp
    rw [← e1]
    generalize b * 2 ^ k = y at *
    omega
  rw [e, u32_or_nat _ _ (by omega) (by omega)]
  congr 1
  rw [Nat.or_comm, nat_join k (b * 2 ^ k) x (by simp) hx, Nat.add_comm]
theorem ret2_u32 {x y : Int} (h : x = y) (k : Int) : Ending.returned (.tuple #[.int .u32 x, .int .i64 k]) = .returned (.tuple #[.int .u32 y, .int .i64 k]) := by rw [h]
theorem peekV_succ_hi (bs : List UInt8) (p k : Nat) : peekV bs false p (k + 1) = peekV bs false p k * 2 + bitV bs false (p + k) := rfl
theorem peekV_succ_lo (bs : List UInt8) (p k : Nat) : peekV bs true p (k + 1) = peekV bs true p k + bitV bs true (p + k) * 2 ^ k := rfl


theorem run_b2s {P : Program} {w : World} {src dst e : TypeId} (hs : P.underlying src = some (.slice e)) (he : P.underlying e = some (.int .u8)) (hd : P.underlying dst = some .string)
    {v : Value} {n : Nat} {bs : List UInt8} (hr : Reads w 1 v n (bs.map bv)) : (convert src dst v).run P w = .ok (.string ⟨bs.toArray⟩) w := by
  obtain ⟨hl, ⟨rfl, rfl⟩ | ⟨x, cap, rfl, h1, h2, h3⟩⟩ := hr
  · have hb : bs = [] := List.eq_nil_of_length_eq_zero (by simpa using hl)
    subst hb
    exact run_convert_bytes_nil w src e hs he 0 0 dst hd
  · have hn : bs.length = n := by simpa using hl
    subst hn
    exact run_convert_bytes_back w src dst e x cap bs hs he hd fun j hj => h3 j _ (by simp [hj, bv])

theorem wpList_b2s {P : Program} {src dst e : TypeId} (hs : P.underlying src = some (.slice e)) (he : P.underlying e = some (.int .u8)) (hd : P.underlying dst = some .string)
    {ops : Array Oper} {rest : List Oper} {o : Oper} {a : Act} {w : World} {Q : Exit → Act → World → Prop} (hg : o.guard = none) {x : Operand} (ho : o.op = .convert src dst x)
    {n : Nat} {bs : List UInt8} (hr : Reads w 1 (a.eval x) n (bs.map bv)) (hK : wpList P ops Q rest (a.put o.dst (.string ⟨bs.toArray⟩)) w) : wpList P ops Q (o :: rest) a w := by
  refine wpList_plain hg fun K hk => ?_
  unfold Oper.wp execOp
  simp only [ho, Sem.run_bind, run_b2s hs he hd hr, Result.andThen_ok, Sem.run_pure]
  exact hk _ _ hK

theorem wpList_s2b {P : Program} {src dst e : TypeId} (hs : P.underlying src = some .string) (he : P.underlying e = some (.int .u8)) (hd : P.underlying dst = some (.slice e))
    {ops : Array Oper} {rest : List Oper} {o : Oper} {a : Act} {w0 w : World} {F : SProp} {Q : Exit → Act → World → Prop} (hg : o.guard = none) {x : Operand} (ho : o.op = .convert src dst x)
    {bs : List UInt8} (hx : a.eval x = .string ⟨bs.toArray⟩) (hm : bs.length ≤ 1000000000000000) (h : St w0 w F)
    (hK : ∀ v' w', St w0 w' (rdo 1 v' bs.length (bs.map bv) * F) → wpList P ops Q rest (a.put o.dst v') w') : wpList P ops Q (o :: rest) a w := by
  refine wpList_plain hg fun K hk => ?_
  have hr : ∃ v' w', (convert src dst (.string ⟨bs.toArray⟩)).run P w = .ok v' w' ∧ St w0 w' (rdo 1 v' bs.length (bs.map bv) * F) := by
    have hge := grownCap_ge w bs.length 0 e
    have hcm : grownCap w bs.length 0 e ≤ maxLen := grownCap_le_maxLen w bs.length 0 e (by unfold maxLen; omega)
    have e1 : (ByteArray.mk bs.toArray).size = bs.length := rfl
    have hb := run_bytes_of_string (P := P) w src dst e ⟨bs.toArray⟩ hs hd he
    rw [e1] at hb
    refine ⟨_, _, hb, (h.drew.alloc _).rdo_blk hge hcm (by simp) ?_⟩
    simp only [bytesRow, e1, Nat.mul_one, Array.toList_append, Array.toList_map, List.take_append]
    rw [List.take_of_length_le (by simp)]
    simp [bv, Function.comp_def]
  obtain ⟨v', w', hr, h2⟩ := hr
  unfold Oper.wp execOp
  simp only [ho, hx, Sem.run_bind, hr, Result.andThen_ok, Sem.run_pure]
  exact hk _ _ (hK v' w' h2)

theorem reads_one (w : World) (e : TypeId) (c : UInt8) {z : Int} (hz : z = (c.toNat : Int)) :
    Reads (w.alloc (.cells #[.int .u8 z] e)) 1 (.slice (some ⟨w.heap.size, 0, none⟩) 1 1) 1 ([c].map bv) := by
  subst hz
  exact ((St.init w).lit #[.int .u8 (c.toNat : Int)] e 1 rfl (by decide)).reads

/-- A slice of bytes that came in. -/
theorem bytes_of_row {w : World} {a : Option Addr} {len cap : Nat} {zs : List Int} (h : (a = none ∧ len = 0 ∧ cap = 0 ∧ zs = []) ∨
    ∃ x, a = some x ∧ len ≤ cap ∧ cap ≤ maxLen ∧ zs.length = cap ∧ (∀ i, i < zs.length → w.cell? (x.add i) = some (.int .u8 (zs.getD i 0))) ∧ ∀ n ∈ zs, (Lit.int .u8 n).wf = true) :
    ∃ bs : List UInt8, bs.length = len ∧ Reads w 1 (.slice a len cap) len (bs.map bv) := by
  rcases h with ⟨rfl, rfl, rfl, rfl⟩ | ⟨x, rfl, h1, h2, h3, h4, h5⟩
  · exact ⟨[], rfl, rfl, .inl ⟨rfl, rfl⟩⟩
  · refine ⟨(zs.take len).map fun n => UInt8.ofNat n.toNat, by simp; omega, by simp; omega, .inr ⟨x, cap, rfl, h1, h2, fun j u hu => ?_⟩⟩
    have hj := (List.getElem?_eq_some_iff.1 hu).1
    simp only [List.length_map, List.length_take] at hj
    have hj' : j < zs.length := by omega
    have hj1 : j < len := by omega
    rw [h4 j hj']
    have hz := h5 zs[j] (by simp)
    simp [Lit.wf, IntKind.min, IntKind.max, IntKind.bits, IntKind.signed] at hz
    rw [← hu]
    simp [hj', hj1, bv]
    omega

end Go.Mz

namespace Go.Mz
open Go.RowKit
set_option linter.unusedVariables false
set_option linter.unusedSimpArgs false

def dg (b : Nat) : UInt8 := UInt8.ofNat (48 + b)
def tx (l : List Nat) : List UInt8 := l.map dg
def Bit (l : List Nat) : Prop := ∀ b ∈ l, b ≤ 1
/-- The lowest n bits of v, the highest first. -/
def wordB (v : Nat) : Nat → List Nat
  | 0 => []
  | n + 1 => (v / 2 ^ n % 2) :: wordB v n
def numB (l : List Nat) : Nat := l.foldl (fun v b => v * 2 + b) 0
def bits8 (low : Bool) (c : UInt8) : List Nat := cond low (wordB c.toNat 8).reverse (wordB c.toNat 8)
def bitsL (low : Bool) (bs : List UInt8) : List Nat := bs.flatMap (bits8 low)

@[simp] theorem length_tx (l : List Nat) : (tx l).length = l.length := by simp [tx]
@[simp] theorem tx_nil : tx [] = [] := rfl
@[simp] theorem tx_cons (b : Nat) (l : List Nat) : tx (b :: l) = dg b :: tx l := rfl
theorem tx_append (l m : List Nat) : tx (l ++ m) = tx l ++ tx m := by simp [tx]
theorem tx_reverse (l : List Nat) : (tx l).reverse = tx l.reverse := by simp [tx]
theorem tx_drop (l : List Nat) (k : Nat) : (tx l).drop k = tx (l.drop k) := by simp [tx]
theorem tx_take (l : List Nat) (k : Nat) : (tx l).take k = tx (l.take k) := by simp [tx]
theorem toNat_dg {b : Nat} (h : b ≤ 1) : (dg b).toNat = 48 + b := by simp [dg]; omega
@[simp] theorem length_wordB (v n : Nat) : (wordB v n).length = n := by induction n <;> simp_all [wordB]
theorem bit_wordB (v n : Nat) : Bit (wordB v n) := by
  induction n with
  | zero => intro b hb; simp [wordB] at hb
  | succ n ih => intro b hb; simp [wordB] at hb; rcases hb with rfl | hb; omega; exact ih b hb
theorem Bit.reverse {l : List Nat} (h : Bit l) : Bit l.reverse := fun b hb => h b (by simpa using hb)
theorem Bit.append {l m : List Nat} (h : Bit l) (k : Bit m) : Bit (l ++ m) := fun b hb => by rcases List.mem_append.1 hb with e | e; exact h b e; exact k b e
theorem Bit.take {l : List Nat} (h : Bit l) (k : Nat) : Bit (l.take k) := fun b hb => h b (List.mem_of_mem_take hb)
theorem Bit.drop {l : List Nat} (h : Bit l) (k : Nat) : Bit (l.drop k) := fun b hb => h b (List.mem_of_mem_drop hb)
theorem bit_rep (n : Nat) : Bit (List.replicate n 0) := fun b hb => by simp at hb; omega
theorem Bit.getD {l : List Nat} (h : Bit l) (k : Nat) : l.getD k 0 ≤ 1 := by
  rw [List.getD_eq_getElem?_getD]
  cases e : l[k]? with
  | none => simp
  | some b => exact h b (List.mem_of_getElem? e)
theorem bit_bits8 (low : Bool) (c : UInt8) : Bit (bits8 low c) := by cases low; exact bit_wordB _ _; exact (bit_wordB _ _).reverse
@[simp] theorem length_bits8 (low : Bool) (c : UInt8) : (bits8 low c).length = 8 := by cases low <;> simp [bits8]
theorem bit_bitsL (low : Bool) (bs : List UInt8) : Bit (bitsL low bs) := fun b hb => by
  obtain ⟨c, _, h⟩ := List.mem_flatMap.1 hb
  exact bit_bits8 low c b h
@[simp] theorem length_bitsL (low : Bool) (bs : List UInt8) : (bitsL low bs).length = 8 * bs.length := by
  induction bs with
  | nil => rfl
  | cons c l ih => simp [bitsL] at ih ⊢; omega
theorem bitsL_append (low : Bool) (a b : List UInt8) : bitsL low (a ++ b) = bitsL low a ++ bitsL low b := by simp [bitsL]

theorem wordB_get (v n i : Nat) (h : i < n) : (wordB v n)[i]? = some (v / 2 ^ (n - 1 - i) % 2) := by
  induction n generalizing i with
  | zero => omega
  | succ n ih =>
    cases i with
    | zero => simp [wordB]
    | succ i => simp only [wordB, List.getElem?_cons_succ]; rw [ih i (by omega)]; congr 4; omega
theorem bits8_get (low : Bool) (c : UInt8) (i : Nat) (h : i < 8) : (bits8 low c)[i]? = some (c.toNat / 2 ^ (cond low i (7 - i)) % 2) := by
  cases low
  · simp only [bits8, cond]; exact wordB_get _ 8 i h
  · simp only [bits8, cond]
    rw [List.getElem?_reverse (by simpa using h), length_wordB, wordB_get _ 8 _ (by omega)]
    congr 4; omega
theorem bitsL_get (low : Bool) (bs : List UInt8) (i : Nat) (h : i < 8 * bs.length) : (bitsL low bs)[i]? = some (bitV bs low i) := by
  induction bs generalizing i with
  | nil => simp at h
  | cons c l ih =>
    have e : bitsL low (c :: l) = bits8 low c ++ bitsL low l := by simp [bitsL]
    rw [e]
    by_cases hi : i < 8
    · rw [List.getElem?_append_left (by simpa using hi), bits8_get _ _ _ hi]
      have h1 : i / 8 = 0 := by omega
      have h2 : i % 8 = i := by omega
      simp [bitV, h1, h2]
    · rw [List.getElem?_append_right (by simp; omega), length_bits8, ih _ (by simp at h; omega)]
      have h1 : i / 8 = (i - 8) / 8 + 1 := by omega
      have h2 : i % 8 = (i - 8) % 8 := by omega
      simp [bitV, h1, h2]
theorem bitsL_getD (low : Bool) (bs : List UInt8) (i : Nat) : (bitsL low bs).getD i 0 = bitV bs low i := by
  by_cases h : i < 8 * bs.length
  · rw [List.getD_eq_getElem?_getD, bitsL_get _ _ _ h]; rfl
  · rw [bitV_out _ _ _ (by omega), List.getD_eq_getElem?_getD, List.getElem?_eq_none (by simp; omega)]; rfl

theorem foldl_num (l : List Nat) (a : Nat) : l.foldl (fun v b => v * 2 + b) a = a * 2 ^ l.length + numB l := by
  induction l generalizing a with
  | nil => simp [numB]
  | cons b l ih =>
    simp only [numB, List.foldl_cons, List.length_cons, Nat.pow_succ]
    rw [ih, ih (0 * 2 + b)]
    simp only [Nat.add_mul, Nat.mul_assoc, Nat.zero_mul, Nat.zero_add]
    rw [Nat.mul_comm 2 (2 ^ l.length)]; omega
theorem numB_cons (b : Nat) (l : List Nat) : numB (b :: l) = b * 2 ^ l.length + numB l := by
  have := foldl_num l b
  simp only [numB, List.foldl_cons, Nat.zero_mul, Nat.zero_add] at this ⊢; exact this
theorem numB_snoc (b : Nat) (l : List Nat) : numB (l ++ [b]) = numB l * 2 + b := by simp [numB]
theorem numB_lt {l : List Nat} (h : Bit l) : numB l < 2 ^ l.length := by
  induction l with
  | nil => simp [numB]
  | cons b l ih =>
    rw [numB_cons, List.length_cons, Nat.pow_succ]
    have h1 := h b (by simp)
    have h2 := ih (fun c hc => h c (by simp [hc]))
    have : b * 2 ^ l.length ≤ 1 * 2 ^ l.length := Nat.mul_le_mul_right _ h1
    omega
theorem numB_wordB (v n : Nat) : numB (wordB v n) = v % 2 ^ n := by
  induction n with
  | zero => simp [wordB, numB, Nat.mod_one]
  | succ n ih =>
    rw [wordB, numB_cons, ih, length_wordB, Nat.pow_succ, Nat.mod_mul]; rw [Nat.mul_comm]; omega
theorem numV_hi (f : Nat → Nat) (n : Nat) : numV false f n = numB ((List.range n).map f) := by
  induction n with
  | zero => rfl
  | succ n ih => rw [List.range_succ, List.map_append, List.map_cons, List.map_nil, numB_snoc, ← ih]; rfl
theorem numV_lo (f : Nat → Nat) (n : Nat) : numV true f n = numB ((List.range n).map f).reverse := by
  induction n with
  | zero => rfl
  | succ n ih =>
    rw [List.range_succ, List.map_append, List.map_cons, List.map_nil, List.reverse_append, List.reverse_cons, List.reverse_nil, List.nil_append, List.cons_append, List.nil_append, numB_cons, ← ih]
    simp [numV]; omega
theorem numV_L (low : Bool) (f : Nat → Nat) (n : Nat) : numV low f n = numB (cond low ((List.range n).map f).reverse ((List.range n).map f)) := by
  cases low; exact numV_hi f n; exact numV_lo f n
/-- n of a text's bits from a place on, noughts behind them. -/
theorem window (l : List Nat) (p n m : Nat) (hm : n ≤ m) : ((l.drop p) ++ List.replicate m 0).take n = (List.range n).map fun i => l.getD (p + i) 0 := by
  apply List.ext_getElem?
  intro i
  by_cases hi : i < n
  · rw [List.getElem?_take_of_lt hi, List.getElem?_map, List.getElem?_range hi]
    simp only [Option.map_some, List.getD_eq_getElem?_getD]
    by_cases h : p + i < l.length
    · rw [List.getElem?_append_left (by simp; omega)]; simp [h]
    · rw [List.getElem?_append_right (by simp; omega), List.getElem?_eq_none (l := l) (by omega), List.getElem?_replicate, if_pos (by simp; omega)]
      rfl
  · rw [List.getElem?_eq_none (by simp; omega), List.getElem?_eq_none (by simp; omega)]

theorem ba_get {l : List UInt8} {k : Nat} {c : UInt8} (h : l[k]? = some c) (hk : k < (ByteArray.mk l.toArray).size) : (ByteArray.mk l.toArray)[k]'hk = c := by
  have hk' : k < l.length := hk
  rw [List.getElem?_eq_getElem hk'] at h
  simp only [Option.some.injEq] at h
  rw [← h]; rfl
theorem int_eq {k : IntKind} {x y : Int} (h : x = y) : Value.int k x = Value.int k y := by rw [h]
theorem str_eq {x y : List UInt8} (h : x = y) : Value.string ⟨x.toArray⟩ = .string ⟨y.toArray⟩ := by rw [h]
theorem dg_add {b : Nat} (h : b ≤ 1) : UInt8.ofNat ((48 + b) % 256) = dg b := by rw [dg]; congr 1; omega

/-- What is read: the number, the place behind it, the error. -/
def rdI (l : List Nat) (low : Bool) (p : Nat) (n : Int) : Nat × Nat × Nat :=
  if n < 0 ∨ 32 < n then (0, p, 1) else if l.length < p + n.toNat then (0, p, 2) else (numV low (fun i => l.getD (p + i) 0) n.toNat, p + n.toNat, 0)
def pkI (l : List Nat) (low : Bool) (p : Nat) (n : Int) : Nat × Nat :=
  if n < 0 ∨ 32 < n then (0, 1) else (numV low (fun i => l.getD (p + i) 0) n.toNat, 0)
theorem rdI_le {l : List Nat} {low : Bool} {p : Nat} {n : Int} (h : p ≤ l.length) : (rdI l low p n).2.1 ≤ l.length := by
  unfold rdI; split
  · exact h
  · split
    · exact h
    · simp; omega
theorem peekV_eq (bs : List UInt8) (low : Bool) (p n : Nat) : peekV bs low p n = numV low (fun i => (bitsL low bs).getD (p + i) 0) n := by
  unfold peekV; congr 1; funext i; exact (bitsL_getD _ _ _).symm

end Go.Mz
