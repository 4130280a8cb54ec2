/-
  Layer 3 (adler): the sum of bytes (package adler), and the document's.
-/
import Derived.Test.YtddifndfppilkaaOct
import Derived.Test.YtddifndfppilkaaRef02
namespace Go.Proofs.Ytddifndfppilkaa
open Go.RowKit Go.Mz
set_option linter.unusedVariables false
set_option linter.unusedSimpArgs false
set_option maxRecDepth 100000

def adStep (s : Nat × Nat) (c : UInt8) : Nat × Nat := ((s.1 + c.toNat) % 65521, (s.2 + (s.1 + c.toNat) % 65521) % 65521)
def adF (l : List UInt8) : Nat × Nat := l.foldl adStep (1, 0)
/-- The sum of bytes. -/
def adlerN (l : List UInt8) : Nat := (adF l).2 * 65536 + (adF l).1
theorem adF_snoc (l : List UInt8) (c : UInt8) : adF (l ++ [c]) = adStep (adF l) c := by simp [adF, List.foldl_append]
theorem adF_lt (l : List UInt8) : (adF l).1 < 65521 ∧ (adF l).2 < 65521 := by
  have key : ∀ l : List UInt8, (adF l.reverse).1 < 65521 ∧ (adF l.reverse).2 < 65521 := by
    intro l
    cases l with
    | nil => decide
    | cons c l =>
      rw [List.reverse_cons, adF_snoc]
      exact ⟨Nat.mod_lt _ (by decide), Nat.mod_lt _ (by decide)⟩
  have := key l.reverse
  rwa [List.reverse_reverse] at this
theorem adlerN_lt (l : List UInt8) : adlerN l < 4294967296 := by
  have := adF_lt l
  unfold adlerN; omega
/-! ### The document's -/
def sumL (l : List UInt8) : Nat := (l.map UInt8.toNat).sum
theorem sumL_snoc (l : List UInt8) (c : UInt8) : sumL (l ++ [c]) = sumL l + c.toNat := by simp [sumL]
/-- Each byte as often as it is added, of n bytes in all. -/
def oftN (n : Nat) : List UInt8 → Nat
  | [] => 0
  | c :: l => n * c.toNat + oftN (n - 1) l
theorem oftN_snoc : ∀ (l : List UInt8) (n : Nat) (c : UInt8), oftN n (l ++ [c]) = oftN n l + (n - l.length) * c.toNat := by
  intro l
  induction l with
  | nil => intro n c; simp [oftN]
  | cons d l ih => intro n c; rw [List.cons_append, oftN, ih, oftN, List.length_cons, Nat.sub_sub, Nat.add_comm 1, Nat.add_assoc]
theorem oftN_up : ∀ (l : List UInt8) (n : Nat), l.length ≤ n → oftN (n + 1) l = oftN n l + sumL l := by
  intro l
  induction l with
  | nil => intro n _; simp [oftN, sumL]
  | cons d l ih =>
    intro n h
    rw [List.length_cons] at h
    have e := ih (n - 1) (by omega)
    rw [show n - 1 + 1 = n by omega] at e
    rw [oftN, oftN, Nat.add_sub_cancel, e, Nat.add_mul]
    simp only [sumL, List.map_cons, List.sum_cons]
    omega
theorem adF_sum (l : List UInt8) : (adF l).1 = (1 + sumL l) % 65521 ∧ (adF l).2 = (l.length + oftN l.length l) % 65521 := by
  have key : ∀ r : List UInt8, (adF r.reverse).1 = (1 + sumL r.reverse) % 65521 ∧ (adF r.reverse).2 = (r.length + oftN r.length r.reverse) % 65521 := by
    intro r
    induction r with
    | nil => decide
    | cons c r ih =>
      obtain ⟨h1, h2⟩ := ih
      rw [List.reverse_cons, adF_snoc, sumL_snoc, List.length_cons, oftN_snoc, List.length_reverse, oftN_up _ _ (by simp), show r.length + 1 - r.length = 1 by omega]
      unfold adStep
      rw [h1, h2]
      constructor
      · simp only; omega
      · simp only; omega
  have := key l.reverse
  rwa [List.reverse_reverse, List.length_reverse] at this
theorem u32_join {a b : Nat} (ha : a < 65536) (hb : b < 65536) : bits .or .u32 ((a : Int) * 65536) (b : Int) = ((a * 65536 + b : Nat) : Int) := by
  have e : (a : Int) * 65536 = ((a * 65536 : Nat) : Int) := by omega
  rw [e, u32_or_nat _ _ (by omega) (by omega)]
  congr 1
  exact nat_join 16 (a * 65536) b (by omega) (by omega)
set_option maxHeartbeats 4000000 in
theorem adler_any {w0 w : World} {F : SProp} (h : St w0 w F) {bs : List UInt8} {v : Value} (hv : Stb w0 F (fun w => Reads w 1 v bs.length (bs.map bv))) :
    Calls Try.prog 63 #[.int .u32 1, v] w fun e w' => e = .returned (.int .u32 (adlerN bs : Nat)) ∧ St w0 w' F := by
  obtain ⟨ab, cb, rfl⟩ := (hv w h).sub
  have hm := (hv w h).len_le
  unfold maxLen at hm
  have H := Lib.hid h; have HV := Lib.hid hv
  obtain ⟨L, hL⟩ : ∃ L, bs.length = L := ⟨_, rfl⟩
  rw [hL] at HV hm
  simp only [hL]
  have HL := Lib.hid hL
  have hc1 : bits .and .u32 1 65535 = 1 := by decide
  clear h hv hL
  go_enter Try.func63, Try.ntmps63
  go_wp2_with fail
  go_loopw [5, 6, 19] (fun vl vh vi wr => ∃ k : Nat, k ≤ L ∧ vi = .int .i64 k ∧ vl = .int .u64 ((adF (bs.take k)).1 : Nat) ∧ vh = .int .u64 ((adF (bs.take k)).2 : Nat) ∧ wr = w) (fun _ _ vi _ => L - (intOf vi).toNat)
  case atStart => exact ⟨0, by omega, rfl, rfl, rfl, rfl⟩
  case round =>
    obtain ⟨k, hk, rfl, rfl, rfl, rfl⟩ := hrel
    by_cases hkL : k < L
    · have hkI : (k : Int) < L := by omega
      obtain ⟨b, off, rfl, hc⟩ := (HV.out _ H.out).at_ hkL
      rw [List.getElem?_map, List.getElem?_eq_getElem (by rw [HL.out]; exact hkL)] at hc
      replace hc : _ = some (Value.int .u8 ((bs[k]'(by rw [HL.out]; exact hkL)).toNat : Int)) := hc
      have hx8 := UInt8.toNat_lt (bs[k]'(by rw [HL.out]; exact hkL))
      have hsn := adF_snoc (bs.take k) (bs[k]'(by rw [HL.out]; exact hkL))
      rw [← List.take_succ_eq_append_getElem] at hsn
      unfold adStep at hsn
      obtain ⟨h1, h2⟩ := adF_lt (bs.take k)
      generalize (bs[k]'(by rw [HL.out]; exact hkL)).toNat = x at *
      have HSN := Lib.hid hsn
      clear hsn
      generalize (adF (bs.take k)).1 = lo at *
      generalize (adF (bs.take k)).2 = hi at *
      go_wp2_with fail
      refine ⟨⟨k + 1, by omega, by go_num, congrArg (Value.int .u64) ?_, congrArg (Value.int .u64) ?_, trivial⟩, by simp [intOf]; omega⟩
      · rw [HSN.out]; simp only; omega
      · rw [HSN.out]; simp only; omega
    · obtain rfl : L = k := by omega
      have hkI : ¬ ((L : Int) < L) := by omega
      rw [List.take_of_length_le (by rw [HL.out]; exact Nat.le_refl _)]
      obtain ⟨h1, h2⟩ := adF_lt bs
      have hN := Lib.hid (show adlerN bs = (adF bs).2 * 65536 + (adF bs).1 from rfl)
      generalize (adF bs).1 = lo at *
      generalize (adF bs).2 = hi at *
      have hj := u32_join (a := hi) (b := lo) (by omega) (by omega)
      have HJ := Lib.hid hj
      clear hj
      go_wp2_with fail
      go_ret
      refine ⟨?_, H.out⟩
      rw [hN.out, ← HJ.out]
      rfl
theorem sum_any {w0 w : World} {F : SProp} (h : St w0 w F) {bs : List UInt8} {v : Value} (hv : Stb w0 F (fun w => Reads w 1 v bs.length (bs.map bv))) :
    Calls Try.prog 33 #[v] w fun e w' => e = .returned (.int .u32 (adlerN bs : Nat)) ∧ St w0 w' F := by
  have HA := Lib.hid (adler_any h hv)
  clear h hv
  go_enter Try.func33, Try.ntmps33
  go_wp2_with fail
  refine HA.out.mono ?_
  rintro e w1 ⟨rfl, h1⟩
  have H1 := Lib.hid h1
  clear h1
  go_wp2_with fail
  go_ret
  exact ⟨rfl, H1.out⟩
end Go.Proofs.Ytddifndfppilkaa
