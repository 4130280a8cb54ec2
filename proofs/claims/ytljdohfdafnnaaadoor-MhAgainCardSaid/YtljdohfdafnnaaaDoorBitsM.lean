/-
  Bits of bytes, as numbers: plain Lean, no program.
-/
import Derived.Test.YtljdohfdafnnaaaDoorSep
namespace Go.Mz
open Go.RowKit
set_option linter.unusedVariables false
set_option linter.unusedSimpArgs false

def bv (c : UInt8) : Value := .int .u8 (c.toNat : Int)
/-- The bit at a place, of bytes, from either end; nought behind them. -/
def bitV (bs : List UInt8) (low : Bool) (i : Nat) : Nat := (bs.getD (i / 8) 0).toNat / 2 ^ (cond low (i % 8) (7 - i % 8)) % 2
/-- The number of n bits: the first one the lowest (true), or the highest. -/
def numV (low : Bool) (f : Nat → Nat) : Nat → Nat
  | 0 => 0
  | n + 1 => cond low (numV low f n + f n * 2 ^ n) (numV low f n * 2 + f n)
def peekV (bs : List UInt8) (low : Bool) (p n : Nat) : Nat := numV low (fun i => bitV bs low (p + i)) n

theorem bitV_le (bs : List UInt8) (low : Bool) (i : Nat) : bitV bs low i ≤ 1 := by unfold bitV; omega
theorem bitV_out (bs : List UInt8) (low : Bool) (i : Nat) (h : 8 * bs.length ≤ i) : bitV bs low i = 0 := by
  unfold bitV
  rw [List.getD_eq_getElem?_getD, List.getElem?_eq_none (by omega)]
  simp
theorem numV_lt (low : Bool) (f : Nat → Nat) (hf : ∀ i, f i ≤ 1) : ∀ n, numV low f n < 2 ^ n
  | 0 => by simp [numV]
  | n + 1 => by
    have h := numV_lt low f hf n
    have h1 := hf n
    rw [Nat.pow_succ]
    cases low <;> simp only [numV, cond]
    · omega
    · have : f n * 2 ^ n ≤ 1 * 2 ^ n := Nat.mul_le_mul_right _ h1
      omega
theorem peekV_lt (bs : List UInt8) (low : Bool) (p n : Nat) : peekV bs low p n < 2 ^ n := numV_lt _ _ (fun _ => bitV_le _ _ _) n

theorem pow32 {n : Nat} (h : n ≤ 32) : 2 ^ n ≤ 4294967296 := Nat.pow_le_pow_right (n := 2) (by decide) h
theorem and1_u32 (x : Nat) (h : x < 4294967296) : bits .and .u32 (x : Int) 1 = ((x % 2 : Nat) : Int) := by
  have := u32_and_nat x 1 h (by decide)
  rw [nat_mask1] at this; exact this


theorem or_hi {x b k : Nat} (hx : x < 2 ^ k) (hk : k < 32) (hb : b ≤ 1) : bits .or .u32 ((x : Int) * 2 % 4294967296) (b : Int) = ((x * 2 + b : Nat) : Int) := by
  have h2 : x * 2 < 4294967296 := by
    have := pow32 (n := k + 1) (by omega)
    rw [Nat.pow_succ] at this; omega
  have e : (x : Int) * 2 % 4294967296 = ((x * 2 : Nat) : Int) := by omega
  rw [e, u32_or_nat _ _ h2 (by omega)]
  congr 1
  exact nat_join 1 (x * 2) b (by omega) (by omega)
theorem or_lo {x b k : Nat} (hx : x < 2 ^ k) (hk : k < 32) (hb : b ≤ 1) : bits .or .u32 (x : Int) ((b : Int) * 2 ^ k % 4294967296) = ((x + b * 2 ^ k : Nat) : Int) := by
  have h1 := pow32 (n := k + 1) (by omega)
  rw [Nat.pow_succ] at h1
  have h3 : b * 2 ^ k ≤ 1 * 2 ^ k := Nat.mul_le_mul_right _ hb
  have e : (b : Int) * 2 ^ k % 4294967296 = ((b * 2 ^ k : Nat) : Int) := by
    have e1 : ((b * 2 ^ k : Nat) : Int) = (b : Int) * 2 ^ k := by simp
    rw [← e1]
    generalize b * 2 ^ k = y at *
    omega
  rw [e, u32_or_nat _ _ (by omega) (by omega)]
  congr 1
  rw [Nat.or_comm, nat_join k (b * 2 ^ k) x (by simp) hx, Nat.add_comm]
theorem ret2_u32 {x y : Int} (h : x = y) (k : Int) : Ending.returned (.tuple #[.int .u32 x, .int .i64 k]) = .returned (.tuple #[.int .u32 y, .int .i64 k]) := by rw [h]
theorem peekV_succ_hi (bs : List UInt8) (p k : Nat) : peekV bs false p (k + 1) = peekV bs false p k * 2 + bitV bs false (p + k) := rfl
theorem peekV_succ_lo (bs : List UInt8) (p k : Nat) : peekV bs true p (k + 1) = peekV bs true p k + bitV bs true (p + k) * 2 ^ k := rfl


theorem run_b2s {P : Program} {w : World} {src dst e : TypeId} (hs : P.underlying src = some (.slice e)) (he : P.underlying e = some (.int .u8)) (hd : P.underlying dst = some .string)
    {v : Value} {n : Nat} {bs : List UInt8} (hr : Reads w 1 v n (bs.map bv)) : (convert src dst v).run P w = .ok (.string ⟨bs.toArray⟩) w := by
  obtain ⟨hl, ⟨rfl, rfl⟩ | ⟨x, cap, rfl, h1, h2, h3⟩⟩ := hr
  · have hb : bs = [] := List.eq_nil_of_length_eq_zero (by simpa using hl)
    subst hb
    exact run_convert_bytes_nil w src e hs he 0 0 dst hd
  · have hn : bs.length = n := by simpa using hl
    subst hn
    exact run_convert_bytes_back w src dst e x cap bs hs he hd fun j hj => h3 j _ (by simp [hj, bv])

theorem wpList_b2s {P : Program} {src dst e : TypeId} (hs : P.underlying src = some (.slice e)) (he : P.underlying e = some (.int .u8)) (hd : P.underlying dst = some .string)
    {ops : Array Oper} {rest : List Oper} {o : Oper} {a : Act} {w : World} {Q : Exit → Act → World → Prop} (hg : o.guard = none) {x : Operand} (ho : o.op = .convert src dst x)
    {n : Nat} {bs : List UInt8} (hr : Reads w 1 (a.eval x) n (bs.map bv)) (hK : wpList P ops Q rest (a.put o.dst (.string ⟨bs.toArray⟩)) w) : wpList P ops Q (o :: rest) a w := by
  refine wpList_plain hg fun K hk => ?_
  unfold Oper.wp execOp
  simp only [ho, Sem.run_bind, run_b2s hs he hd hr, Result.andThen_ok, Sem.run_pure]
  exact hk _ _ hK

theorem wpList_s2b {P : Program} {src dst e : TypeId} (hs : P.underlying src = some .string) (he : P.underlying e = some (.int .u8)) (hd : P.underlying dst = some (.slice e))
    {ops : Array Oper} {rest : List Oper} {o : Oper} {a : Act} {w0 w : World} {F : SProp} {Q : Exit → Act → World → Prop} (hg : o.guard = none) {x : Operand} (ho : o.op = .convert src dst x)
    {bs : List UInt8} (hx : a.eval x = .string ⟨bs.toArray⟩) (hm : bs.length ≤ 1000000000000000) (h : St w0 w F)
    (hK : ∀ v' w', St w0 w' (rdo 1 v' bs.length (bs.map bv) * F) → wpList P ops Q rest (a.put o.dst v') w') : wpList P ops Q (o :: rest) a w := by
  refine wpList_plain hg fun K hk => ?_
  have hr : ∃ v' w', (convert src dst (.string ⟨bs.toArray⟩)).run P w = .ok v' w' ∧ St w0 w' (rdo 1 v' bs.length (bs.map bv) * F) := by
    have hge := grownCap_ge w bs.length 0 e
    have hcm : grownCap w bs.length 0 e ≤ maxLen := grownCap_le_maxLen w bs.length 0 e (by unfold maxLen; omega)
    have e1 : (ByteArray.mk bs.toArray).size = bs.length := rfl
    have hb := run_bytes_of_string (P := P) w src dst e ⟨bs.toArray⟩ hs hd he
    rw [e1] at hb
    refine ⟨_, _, hb, (h.drew.alloc _).rdo_blk hge hcm (by simp) ?_⟩
    simp only [bytesRow, e1, Nat.mul_one, Array.toList_append, Array.toList_map, List.take_append]
    rw [List.take_of_length_le (by simp)]
    simp [bv, Function.comp_def]
  obtain ⟨v', w', hr, h2⟩ := hr
  unfold Oper.wp execOp
  simp only [ho, hx, Sem.run_bind, hr, Result.andThen_ok, Sem.run_pure]
  exact hk _ _ (hK v' w' h2)

theorem reads_one (w : World) (e : TypeId) (c : UInt8) {z : Int} (hz : z = (c.toNat : Int)) :
    Reads (w.alloc (.cells #[.int .u8 z] e)) 1 (.slice (some ⟨w.heap.size, 0, none⟩) 1 1) 1 ([c].map bv) := by
  subst hz
  exact ((St.init w).lit #[.int .u8 (c.toNat : Int)] e 1 rfl (by decide)).reads

/-- A slice of bytes that came in. -/
theorem bytes_of_row {w : World} {a : Option Addr} {len cap : Nat} {zs : List Int} (h : (a = none ∧ len = 0 ∧ cap = 0 ∧ zs = []) ∨
    ∃ x, a = some x ∧ len ≤ cap ∧ cap ≤ maxLen ∧ zs.length = cap ∧ (∀ i, i < zs.length → w.cell? (x.add i) = some (.int .u8 (zs.getD i 0))) ∧ ∀ n ∈ zs, (Lit.int .u8 n).wf = true) :
    ∃ bs : List UInt8, bs.length = len ∧ Reads w 1 (.slice a len cap) len (bs.map bv) := by
  rcases h with ⟨rfl, rfl, rfl, rfl⟩ | ⟨x, rfl, h1, h2, h3, h4, h5⟩
  · exact ⟨[], rfl, rfl, .inl ⟨rfl, rfl⟩⟩
  · refine ⟨(zs.take len).map fun n => UInt8.ofNat n.toNat, by simp; omega, by simp; omega, .inr ⟨x, cap, rfl, h1, h2, fun j u hu => ?_⟩⟩
    have hj := (List.getElem?_eq_some_iff.1 hu).1
    simp only [List.length_map, List.length_take] at hj
    have hj' : j < zs.length := by omega
    have hj1 : j < len := by omega
    rw [h4 j hj']
    have hz := h5 zs[j] (by simp)
    simp [Lit.wf, IntKind.min, IntKind.max, IntKind.bits, IntKind.signed] at hz
    rw [← hu]
    simp [hj', hj1, bv]
    omega

#print axioms and1_u32
end Go.Mz
