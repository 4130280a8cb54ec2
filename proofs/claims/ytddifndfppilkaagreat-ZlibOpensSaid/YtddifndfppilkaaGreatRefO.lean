/-
  The document's answers for layer 1 (octets: Turn, Number, Put) and layer 3 (adler).
  The document's answer for layer 11 (zlib): Wrap, Open.
-/
import Derived.Test.YtddifndfppilkaaGreatOct
import Derived.Test.YtddifndfppilkaaGreatRef02
import Derived.Test.YtddifndfppilkaaGreatInfL
import Derived.Test.YtddifndfppilkaaGreatRefB
import Derived.Test.YtddifndfppilkaaGreatDefQ
import Derived.BigQuiet
namespace Go.Proofs.YtddifndfppilkaaGreat
open Go.RowKit Go.Mz
set_option linter.unusedVariables false
set_option linter.unusedSimpArgs false
set_option maxRecDepth 100000

theorem oturn_any (l : List UInt8) (w : World) (hl : l.length ≤ 1000000000) :
    Calls Tryz.prog 38 #[.string ⟨l.toArray⟩] w fun e w' => e = .returned (.string ⟨l.reverse.toArray⟩) ∧ w = w' := by
  go_enter Tryz.func38, Tryz.ntmps38
  go_wp2_with fail
  go_loop [3, 4] (fun o i => ∃ k : Nat, k ≤ l.length ∧ i = .int .i64 (k : Int) ∧ o = .string ⟨(l.take k).reverse.toArray⟩) (fun _ i => l.length - (intOf i).toNat)
  case atStart => exact ⟨0, Nat.zero_le _, rfl, rfl⟩
  case round =>
    obtain ⟨k, hk, rfl, rfl⟩ := hrel
    by_cases hkl : k < l.length
    · have hkI : (k : Int) < l.length := by omega
      have hr := Lib.hid (show (l.take (k + 1)).reverse = l[k] :: (l.take k).reverse by rw [List.take_succ_eq_append_getElem hkl]; simp)
      have hlen : (l.take k).reverse.length ≤ l.length := by simp; omega
      go_wp2_with fail
      refine ⟨⟨k + 1, by omega, by go_num, ?_⟩, by simp [intOf]; omega⟩
      rw [hr.out, ByteArray.extract_mk, ByteArray.mk_append_mk]
      simp [List.take_one, List.head?_drop, hkl]
    · obtain rfl : k = l.length := by omega
      have hkI : ¬ ((l.length : Int) < l.length) := by omega
      go_wp2_with fail
      go_ret
      exact ⟨by simp, rfl⟩
theorem osized_any {w : World} {n : Nat} (h : okW n) : Calls Tryz.prog 45 #[.int .i64 (n : Int)] w fun e w' => e = .returned (.bool true) ∧ w = w' := by
  rcases h with rfl | rfl | rfl | rfl
  all_goals
    go_enter Tryz.func45, Tryz.ntmps45
    go_wp2_with fail
    go_ret
    exact ⟨rfl, rfl⟩
theorem onumber_hi (ds : List UInt8) (w : World) (hl : ds.length ≤ 8) :
    Calls Tryz.prog 15 #[.string ⟨ds.toArray⟩, .bool true] w fun e w' => e = .returned (.int .u64 (numH ds : Nat)) ∧ w = w' := by
  go_enter Tryz.func15, Tryz.ntmps15
  go_wp2_with fail
  go_loop [5, 6] (fun v i => ∃ k : Nat, k ≤ ds.length ∧ i = .int .i64 (k : Int) ∧ v = .int .u64 (numH (ds.take k) : Nat)) (fun _ i => ds.length - (intOf i).toNat)
  case atStart => exact ⟨0, Nat.zero_le _, rfl, rfl⟩
  case round =>
    obtain ⟨k, hk, rfl, rfl⟩ := hrel
    by_cases hkl : k < ds.length
    · have hkI : (k : Int) < ds.length := by omega
      have hs : numH (ds.take (k + 1)) = numH (ds.take k) * 256 + ds[k].toNat := by rw [List.take_succ_eq_append_getElem hkl, numH_snoc]
      have hlt := numH_lt (ds.take (k + 1))
      have hp : 256 ^ (ds.take (k + 1)).length ≤ 256 ^ 8 := Nat.pow_le_pow_right (by decide) (by simp; omega)
      rw [hs] at hlt
      have hc := UInt8.toNat_lt ds[k]
      have hg : ds[k]? = some ds[k] := List.getElem?_eq_getElem hkl
      have HS := Lib.hid hs; have HG := Lib.hid hg
      have hlt2 : numH (ds.take k) * 256 + ds[k].toNat < 18446744073709551616 := by omega
      clear hs hg hp hlt
      generalize numH (ds.take k) = x at *
      generalize hy : ds[k] = y at *
      clear hy
      go_wp2_with fail
      refine ⟨⟨k + 1, by omega, by go_num, ?_⟩, by simp [intOf]; omega⟩
      rw [HS.out, ba_get HG.out, IntWalk.u64_in (y.toNat : Int) (by omega), IntWalk.u64_in _ (by omega)]
      exact int_eq (by omega)
    · obtain rfl : k = ds.length := by omega
      have hkI : ¬ ((ds.length : Int) < ds.length) := by omega
      go_wp2_with fail
      go_ret
      exact ⟨by simp, rfl⟩
theorem onumber_lo (bs : List UInt8) (w : World) (hl : bs.length ≤ 8) :
    Calls Tryz.prog 15 #[.string ⟨bs.toArray⟩, .bool false] w fun e w' => e = .returned (.int .u64 (numH bs.reverse : Nat)) ∧ w = w' := by
  have HT := Lib.hid (oturn_any bs w (by omega))
  have hl' : bs.reverse.length ≤ 8 := by simpa using hl
  generalize bs.reverse = ds at *
  clear hl
  go_enter Tryz.func15, Tryz.ntmps15
  go_wp2_with fail
  refine HT.out.mono ?_
  rintro e w1 ⟨rfl, rfl⟩
  go_wp2_with fail
  go_loop [5, 6] (fun v i => ∃ k : Nat, k ≤ ds.length ∧ i = .int .i64 (k : Int) ∧ v = .int .u64 (numH (ds.take k) : Nat)) (fun _ i => ds.length - (intOf i).toNat)
  case atStart => exact ⟨0, Nat.zero_le _, rfl, rfl⟩
  case round =>
    obtain ⟨k, hk, rfl, rfl⟩ := hrel
    by_cases hkl : k < ds.length
    · have hkI : (k : Int) < ds.length := by omega
      have hs : numH (ds.take (k + 1)) = numH (ds.take k) * 256 + ds[k].toNat := by rw [List.take_succ_eq_append_getElem hkl, numH_snoc]
      have hlt := numH_lt (ds.take (k + 1))
      have hp : 256 ^ (ds.take (k + 1)).length ≤ 256 ^ 8 := Nat.pow_le_pow_right (by decide) (by simp; omega)
      rw [hs] at hlt
      have hc := UInt8.toNat_lt ds[k]
      have hg : ds[k]? = some ds[k] := List.getElem?_eq_getElem hkl
      have HS := Lib.hid hs; have HG := Lib.hid hg
      have hlt2 : numH (ds.take k) * 256 + ds[k].toNat < 18446744073709551616 := by omega
      clear hs hg hp hlt
      generalize numH (ds.take k) = x at *
      generalize hy : ds[k] = y at *
      clear hy
      go_wp2_with fail
      refine ⟨⟨k + 1, by omega, by go_num, ?_⟩, by simp [intOf]; omega⟩
      rw [HS.out, ba_get HG.out, IntWalk.u64_in (y.toNat : Int) (by omega), IntWalk.u64_in _ (by omega)]
      exact int_eq (by omega)
    · obtain rfl : k = ds.length := by omega
      have hkI : ¬ ((ds.length : Int) < ds.length) := by omega
      go_wp2_with fail
      go_ret
      exact ⟨by simp, rfl⟩
theorem onumber_any (bs : List UInt8) (big : Bool) (w : World) (hl : bs.length ≤ 8) :
    Calls Tryz.prog 15 #[.string ⟨bs.toArray⟩, .bool big] w fun e w' => e = .returned (.int .u64 (numO big bs : Nat)) ∧ w = w' := by
  cases big
  · exact onumber_lo bs w hl
  · exact onumber_hi bs w hl
theorem bytesL_rev (v n : Nat) : (bytesL v (n + 1)).reverse = UInt8.ofNat (v / 256 ^ n % 256) :: (bytesL v n).reverse := by rw [bytesL, List.reverse_append]; rfl
theorem oput_hi {w0 w : World} {F : SProp} (h : St w0 w F) {v n : Nat} (hw : okW n) (hv : v < 256 ^ n) :
    Calls Tryz.prog 19 #[.int .u64 (v : Int), .int .i64 (n : Int), .bool true] w fun e w' => e = .returned (.tuple #[.string ⟨(bytesO true v n).toArray⟩, .int .i64 0]) ∧ St w0 w' F := by
  have HS := Lib.hid (osized_any (w := w) hw)
  have hn8 : n ≤ 8 := by rcases hw with rfl | rfl | rfl | rfl <;> omega
  have H := Lib.hid h
  have hv8 : v < 18446744073709551616 := Nat.lt_of_lt_of_le hv (show 256 ^ n ≤ 256 ^ 8 from Nat.pow_le_pow_right (by decide) hn8)
  have hz : v / 256 ^ n = 0 := Nat.div_eq_of_lt hv
  have HZ := Lib.hid hz
  clear h hw hv hz
  go_enter Tryz.func19, Tryz.ntmps19
  go_wp2_with (go_at_call 45; refine HS.out.mono ?_; rintro e w1 ⟨rfl, rfl⟩)
  go_loopw [0, 8, 9] (fun x s i wr => ∃ k : Nat, k ≤ n ∧ i = .int .i64 k ∧ x = .int .u64 ((v / 256 ^ k : Nat) : Int) ∧ s = .string ⟨(bytesL v k).reverse.toArray⟩ ∧ St w0 wr F) (fun _ _ i _ => n - (intOf i).toNat)
  case atStart => exact ⟨0, Nat.zero_le _, rfl, by simp, rfl, H.out⟩
  case round =>
    obtain ⟨k, hk, rfl, rfl, rfl, hst⟩ := hrel
    by_cases hkn : k < n
    · have hx : v / 256 ^ k < 18446744073709551616 := Nat.lt_of_le_of_lt (Nat.div_le_self _ _) hv8
      have hq : Hid (v / 256 ^ (k + 1) = v / 256 ^ k / 256) := by rw [Nat.pow_succ, ← Nat.div_div_eq_div_mul]; rfl
      have hw : Hid ((bytesL v (k + 1)).reverse = UInt8.ofNat (v / 256 ^ k % 256) :: (bytesL v k).reverse) := bytesL_rev v k
      have HST := Lib.hid hst; clear hst
      have hlen : (bytesL v k).reverse.length ≤ 8 := by simp; omega
      generalize v / 256 ^ k = x at *
      go_wp2_with (with_reducible (refine stop_conv 22 9 rfl ?_))
      refine on (wpList_b2s Tryz.underlying22 Tryz.underlying5 Tryz.underlying9 rfl rfl (n := 1) (reads_one wr 5 (UInt8.ofNat (x % 256)) (by rw [UInt8.toNat_ofNat']; omega)) ?_)
      go_wp2_with fail
      refine ⟨⟨k + 1, by omega, by go_num, by rw [hq.out]; simp, ?_, HST.out.drop_alloc _⟩, by simp [intOf]; omega⟩
      rw [hw.out]
      exact (congrArg Value.string (ByteArray.mk_append_mk _ _))
    · obtain rfl : k = n := by omega
      have hkI : ¬ ((k : Int) < k) := by omega
      rw [HZ.out]
      have HST := Lib.hid hst; clear hst
      have hlen : (bytesL v k).length ≤ 1000 := by simp; omega
      go_wp2_with fail
      go_ret2
      exact ⟨rfl, HST.out⟩
theorem oput_lo {w0 w : World} {F : SProp} (h : St w0 w F) {v n : Nat} (hw : okW n) (hv : v < 256 ^ n) :
    Calls Tryz.prog 19 #[.int .u64 (v : Int), .int .i64 (n : Int), .bool false] w fun e w' => e = .returned (.tuple #[.string ⟨(bytesO false v n).toArray⟩, .int .i64 0]) ∧ St w0 w' F := by
  have HS := Lib.hid (osized_any (w := w) hw)
  have hn8 : n ≤ 8 := by rcases hw with rfl | rfl | rfl | rfl <;> omega
  have H := Lib.hid h
  have hv8 : v < 18446744073709551616 := Nat.lt_of_lt_of_le hv (show 256 ^ n ≤ 256 ^ 8 from Nat.pow_le_pow_right (by decide) hn8)
  have hz : v / 256 ^ n = 0 := Nat.div_eq_of_lt hv
  have HZ := Lib.hid hz
  clear h hw hv hz
  go_enter Tryz.func19, Tryz.ntmps19
  go_wp2_with (go_at_call 45; refine HS.out.mono ?_; rintro e w1 ⟨rfl, rfl⟩)
  go_loopw [0, 8, 9] (fun x s i wr => ∃ k : Nat, k ≤ n ∧ i = .int .i64 k ∧ x = .int .u64 ((v / 256 ^ k : Nat) : Int) ∧ s = .string ⟨(bytesL v k).reverse.toArray⟩ ∧ St w0 wr F) (fun _ _ i _ => n - (intOf i).toNat)
  case atStart => exact ⟨0, Nat.zero_le _, rfl, by simp, rfl, H.out⟩
  case round =>
    obtain ⟨k, hk, rfl, rfl, rfl, hst⟩ := hrel
    by_cases hkn : k < n
    · have hx : v / 256 ^ k < 18446744073709551616 := Nat.lt_of_le_of_lt (Nat.div_le_self _ _) hv8
      have hq : Hid (v / 256 ^ (k + 1) = v / 256 ^ k / 256) := by rw [Nat.pow_succ, ← Nat.div_div_eq_div_mul]; rfl
      have hw : Hid ((bytesL v (k + 1)).reverse = UInt8.ofNat (v / 256 ^ k % 256) :: (bytesL v k).reverse) := bytesL_rev v k
      have HST := Lib.hid hst; clear hst
      have hlen : (bytesL v k).reverse.length ≤ 8 := by simp; omega
      generalize v / 256 ^ k = x at *
      go_wp2_with (with_reducible (refine stop_conv 22 9 rfl ?_))
      refine on (wpList_b2s Tryz.underlying22 Tryz.underlying5 Tryz.underlying9 rfl rfl (n := 1) (reads_one wr 5 (UInt8.ofNat (x % 256)) (by rw [UInt8.toNat_ofNat']; omega)) ?_)
      go_wp2_with fail
      refine ⟨⟨k + 1, by omega, by go_num, by rw [hq.out]; simp, ?_, HST.out.drop_alloc _⟩, by simp [intOf]; omega⟩
      rw [hw.out]
      exact (congrArg Value.string (ByteArray.mk_append_mk _ _))
    · obtain rfl : k = n := by omega
      have hkI : ¬ ((k : Int) < k) := by omega
      rw [HZ.out]
      have HST := Lib.hid hst; clear hst
      have hlen : (bytesL v k).length ≤ 1000 := by simp; omega
      have HT := Lib.hid (oturn_any (bytesL v k).reverse wr (by simpa using (by omega : (bytesL v k).length ≤ 1000000000)))
      rw [List.reverse_reverse] at HT
      go_wp2_with fail
      refine HT.out.mono ?_
      rintro e w1 ⟨rfl, rfl⟩
      go_wp2_with fail
      go_ret2
      exact ⟨rfl, HST.out⟩
theorem oput_any {w0 w : World} {F : SProp} (h : St w0 w F) {v n : Nat} (hw : okW n) (hv : v < 256 ^ n) (big : Bool) :
    Calls Tryz.prog 19 #[.int .u64 (v : Int), .int .i64 (n : Int), .bool big] w fun e w' => e = .returned (.tuple #[.string ⟨(bytesO big v n).toArray⟩, .int .i64 0]) ∧ St w0 w' F := by
  cases big
  · exact oput_lo h hw hv
  · exact oput_hi h hw hv
theorem w64 {x : Int} (h : 0 ≤ x) (h2 : x < 1000000000000) : wrap64 x = x := by rw [wrap64]; omega
theorem modmul (A d c M : Nat) : (A + d * c) % M = (A % M + d % M * c) % M := by
  have h1 : d % M * c % M = d * c % M := by rw [Nat.mul_mod, Nat.mod_mod, ← Nat.mul_mod]
  have h2 : (A % M + d % M * c) % M = (A % M + d * c % M) % M := by rw [Nat.add_mod, Nat.mod_mod, h1]
  rw [h2, ← Nat.add_mod]
set_option maxHeartbeats 4000000 in
theorem rupd_any {w : World} {bs : List UInt8} (hl : bs.length ≤ 1000000000) :
    Calls Tryz.prog 39 #[.int .u32 1, .string ⟨bs.toArray⟩] w fun e w' => e = .returned (.int .u32 (adlerN bs : Nat)) ∧ w' = w := by
  obtain ⟨L, hL⟩ : ∃ L, bs.length = L := ⟨_, rfl⟩
  have hsz : (⟨bs.toArray⟩ : ByteArray).size = L := hL
  rw [hL] at hl
  have HL := Lib.hid hL
  clear hL
  have hsum : ∀ k, k ≤ L → sumL (bs.take k) ≤ 255 * k := by
    intro k
    induction k with
    | zero => intro _; simp [sumL]
    | succ k ih =>
      intro h
      have hk : k < bs.length := by rw [HL.out]; omega
      have := ih (by omega)
      have := UInt8.toNat_lt bs[k]
      rw [List.take_succ_eq_append_getElem hk, sumL_snoc]; omega
  have HSM := Lib.hid hsum
  clear hsum
  go_enter Tryz.func39, Tryz.ntmps39
  go_wp2_with fail
  go_loopw [5, 6, 8] (fun va vb vi wr => ∃ k : Nat, k ≤ L ∧ vi = .int .i64 k ∧ va = .int .i64 (1 + sumL (bs.take k) : Nat) ∧ vb = .int .i64 ((L + oftN L (bs.take k)) % 65521 : Nat) ∧ wr = w) (fun _ _ vi _ => L - (intOf vi).toNat)
  case atStart =>
    refine ⟨0, by omega, rfl, rfl, congrArg (Value.int .i64) ?_, rfl⟩
    rw [show oftN L (bs.take 0) = 0 from rfl]
    omega
  case round =>
    obtain ⟨k, hk, rfl, rfl, rfl, rfl⟩ := hrel
    by_cases hkL : k < L
    · have hkI : (k : Int) < L := by omega
      have hkb : k < bs.length := by rw [HL.out]; exact hkL
      have hsn := sumL_snoc (bs.take k) bs[k]
      have hof := oftN_snoc (bs.take k) L bs[k]
      rw [← List.take_succ_eq_append_getElem] at hsn hof
      rw [List.length_take, Nat.min_eq_left (by omega)] at hof
      have h1 := HSM.out k hk
      have h2 : (L + oftN L (bs.take k)) % 65521 < 65521 := Nat.mod_lt _ (by decide)
      have hx8 := UInt8.toNat_lt bs[k]
      have hg : bs[k]? = some bs[k] := List.getElem?_eq_getElem hkb
      obtain ⟨d, hd⟩ : ∃ d, L - k = d := ⟨_, rfl⟩
      have hdI : (L : Int) - (k : Int) = (d : Int) := by omega
      obtain ⟨r, hr, hr2⟩ : ∃ r : Nat, (d : Int) % 65521 = (r : Int) ∧ r < 65521 := ⟨d % 65521, by omega, by omega⟩
      have hrN : d % 65521 = r := by omega
      obtain ⟨p, hp, hp2⟩ : ∃ p : Nat, (r : Int) * (bs[k].toNat : Int) = (p : Int) ∧ p ≤ 16707855 := ⟨r * bs[k].toNat, by simp, by
        have := Nat.mul_le_mul (show r ≤ 65520 by omega) (show bs[k].toNat ≤ 255 by omega)
        omega⟩
      have hpN : r * bs[k].toNat = p := by have : ((r * bs[k].toNat : Nat) : Int) = p := by rw [Int.natCast_mul]; exact hp
                                           omega
      rw [hd] at hof
      have hmod : (L + oftN L (bs.take (k + 1))) % 65521 = ((L + oftN L (bs.take k)) % 65521 + p) % 65521 := by
        rw [hof, ← hpN, ← hrN, ← Nat.add_assoc]
        exact modmul _ _ _ _
      have HMOD := Lib.hid hmod; have HSN := Lib.hid hsn; have HG := Lib.hid hg
      clear hof hsn hg hmod hrN hpN
      generalize (L + oftN L (bs.take k)) % 65521 = y at *
      generalize sumL (bs.take k) = sm at *
      generalize hc : bs[k] = c at *
      clear hc
      go_wp2_with fail
      have g1 : (c.toNat : Int) < 1000000000000 := by omega
      have g2 : (p : Int) < 1000000000000 := by omega
      have g3 : (y : Int) + p < 1000000000000 := by omega
      have g4 : 1 + (sm : Int) + c.toNat < 1000000000000 := by omega
      have E4 := Lib.hid (w64 (x := 1 + (sm : Int) + c.toNat) (by omega) g4)
      have E1 := Lib.hid (w64 (Int.natCast_nonneg c.toNat) g1)
      have E2 := Lib.hid (w64 (Int.natCast_nonneg p) g2)
      have E3 := Lib.hid (w64 (x := (y : Int) + p) (Int.add_nonneg (Int.natCast_nonneg y) (Int.natCast_nonneg p)) g3)
      have HP := Lib.hid hp
      clear hp
      refine ⟨⟨k + 1, by omega, by go_num, ?_, ?_, trivial⟩, by simp [intOf]; omega⟩
      · rw [HSN.out, ba_get HG.out, E1.out, E4.out]
        exact int_eq (by omega)
      · rw [HMOD.out, ba_get HG.out, E1.out, HP.out, E2.out, E3.out, Int.tmod_eq_emod_of_nonneg (by omega)]
        exact int_eq (by omega)
    · obtain rfl : L = k := by omega
      have hkI : ¬ ((L : Int) < L) := by omega
      obtain ⟨hs1, hs2⟩ := adF_sum bs
      rw [HL.out] at hs2
      rw [List.take_of_length_le (by rw [HL.out]; exact Nat.le_refl _)]
      have hsm := HSM.out L (Nat.le_refl _)
      rw [List.take_of_length_le (by rw [HL.out]; exact Nat.le_refl _)] at hsm
      have hm : (L + oftN L bs) % 65521 < 65521 := Nat.mod_lt _ (by decide)
      have HN := Lib.hid (show adlerN bs = (L + oftN L bs) % 65521 * 65536 + (1 + sumL bs) % 65521 by rw [adlerN, hs1, hs2])
      clear hs1 hs2
      generalize (L + oftN L bs) % 65521 = y at *
      generalize sumL bs = sm at *
      go_wp2_with fail
      go_ret
      refine ⟨?_, rfl⟩
      rw [HN.out, show ((y * 65536 + (1 + sm) % 65521 : Nat) : Int) = (y : Int) * 65536 + (1 + (sm : Int)) % 65521 by omega]
      rfl
theorem rsum_any {w : World} {bs : List UInt8} (hl : bs.length ≤ 1000000000) {s : ByteArray} (hs : s = ⟨bs.toArray⟩) :
    Calls Tryz.prog 16 #[.string s] w fun e w' => e = .returned (.int .u32 (adlerN bs : Nat)) ∧ w = w' := by
  subst hs
  have HU := Lib.hid (rupd_any (w := w) hl)
  clear hl
  go_enter Tryz.func16, Tryz.ntmps16
  go_wp2_with fail
  refine HU.out.mono ?_
  rintro e w1 ⟨rfl, rfl⟩
  go_wp2_with fail
  go_ret
  exact ⟨rfl, rfl⟩
end Go.Proofs.YtddifndfppilkaaGreat

namespace Go.Proofs.YtddifndfppilkaaGreat
open Go.RowKit Go.Mz
set_option linter.unusedVariables false
set_option linter.unusedSimpArgs false
set_option maxRecDepth 100000

set_option maxHeartbeats 4000000 in
theorem wrap_any {w0 w : World} {F : SProp} (h : St w0 w F) {hd bl b : List UInt8} (hl : b.length ≤ 1000000) (hb : bl.length ≤ 100000000) (hh : hd.length ≤ 100) {s1 s2 s3 : ByteArray} (e1 : s1 = ⟨hd.toArray⟩) (e2 : s2 = ⟨bl.toArray⟩) (e3 : s3 = ⟨b.toArray⟩) :
    Calls Tryz.prog 9 #[.string s1, .string s2, .string s3] w fun e w' => e = .returned (.string ⟨(hd ++ bl ++ bytesO true (adlerN b) 4).toArray⟩) ∧ St w0 w' F := by
  subst e1 e2 e3
  have HS := Lib.hid (rsum_any (w := w) (bs := b) (by omega) rfl)
  have HP := Lib.hid (oput_any h (v := adlerN b) (n := 4) (.inr (.inr (.inl rfl))) (adlerN_lt b) true)
  have hlt := adlerN_lt b
  have hSl := length_bytesO true (adlerN b) 4
  obtain ⟨S, hS⟩ : ∃ S, bytesO true (adlerN b) 4 = S := ⟨_, rfl⟩
  rw [hS] at HP hSl ⊢
  obtain ⟨ad, had⟩ : ∃ ad, adlerN b = ad := ⟨_, rfl⟩
  rw [had] at HP hlt HS
  clear h hS had
  go_enter Tryz.func9, Tryz.ntmps9
  go_wp2_with (go_at_call 16; refine HS.out.mono ?_; rintro e w1 ⟨rfl, rfl⟩; apply stop)
  refine on ?_
  go_wp2_with (go_at_call 19; refine HP.out.mono ?_; rintro e w2 ⟨rfl, h2⟩; have H2 := Lib.hid h2; clear h2; apply stop)
  refine on ?_
  go_wp2_with fail
  go_ret
  refine ⟨congrArg (fun z => Ending.returned (Value.string z)) ?_, H2.out⟩
  show (⟨hd.toArray⟩ : ByteArray) ++ ⟨bl.toArray⟩ ++ ⟨S.toArray⟩ = _
  rw [ByteArray.mk_append_mk, ByteArray.mk_append_mk]
set_option maxHeartbeats 40000000 in
theorem ropen_any {w0 w : World} {F : SProp} (h : St w0 w F) (bs : List UInt8) (most : Int) (hl : bs.length ≤ 1000000) (hm : most ≤ 1000000) {s : ByteArray} (hs : s = ⟨bs.toArray⟩) :
    Calls Tryz.prog 7 #[.string s, .int .i64 most] w fun e w' => ∃ (s : List UInt8) (n x : Nat), e = .returned (.tuple #[.string ⟨s.toArray⟩, .int .i64 (n : Nat), .int .i64 (x : Nat)]) ∧ RInfR (zopen bs most) s n x ∧ St w0 w' F := by
  subst hs
  have H := Lib.hid h
  clear h
  by_cases hneg : most < 0
  · have hz : zopen bs most = .inl 1 := by unfold zopen; rw [if_pos hneg]
    rw [hz]
    clear hz
    go_enter Tryz.func7, Tryz.ntmps7
    go_wp2_with fail
    go_ret3
    exact ⟨[], 0, 1, rfl, ⟨rfl, rfl, rfl⟩, H.out⟩
  obtain ⟨M, rfl⟩ : ∃ M : Nat, most = M := ⟨most.toNat, by omega⟩
  have short : ∀ bs : List UInt8, bs.length < 2 → zopen bs M = .inl 2 → Calls Tryz.prog 7 #[.string ⟨bs.toArray⟩, .int .i64 (M : Int)] w fun e w' => ∃ (s : List UInt8) (n x : Nat), e = .returned (.tuple #[.string ⟨s.toArray⟩, .int .i64 (n : Nat), .int .i64 (x : Nat)]) ∧ RInfR (zopen bs M) s n x ∧ St w0 w' F := by
    intro bs hl hz
    rw [hz]
    have hl2 : (bs.length : Int) < 2 := by omega
    clear hz
    go_enter Tryz.func7, Tryz.ntmps7
    go_wp2_with fail
    go_ret3
    exact ⟨[], 0, 2, rfl, ⟨rfl, rfl, rfl⟩, H.out⟩
  rcases bs with _ | ⟨XY, _ | ⟨YY, r⟩⟩
  · exact short [] (by decide) (by unfold zopen; rw [if_neg hneg])
  · exact short [XY] (by simp) (by unfold zopen; rw [if_neg hneg])
  clear short
  have hres : zopen (XY :: YY :: r) M = if zheadB XY.toNat YY.toNat then .inl 3 else zrest r M := by rw [zopen, if_neg hneg]
  rw [hres]
  clear hres
  obtain ⟨n, hn⟩ : ∃ n, r.length = n := ⟨_, rfl⟩
  have hlen : (XY :: YY :: r).length = n + 2 := by rw [List.length_cons, List.length_cons, hn]
  have hz0 : ∀ hh, (⟨(XY :: YY :: r).toArray⟩ : ByteArray)[0]'hh = XY := fun _ => rfl
  have hz1 : ∀ hh, (⟨(XY :: YY :: r).toArray⟩ : ByteArray)[1]'hh = YY := fun _ => rfl
  have hsz : (⟨(XY :: YY :: r).toArray⟩ : ByteArray).size = n + 2 := hlen
  have hx8 := UInt8.toNat_lt XY; have hy8 := UInt8.toNat_lt YY
  have hn2 : ¬ (((n + 2 : Nat) : Int) < 2) := by omega
  have HN := Lib.hid hn
  clear hn
  have hexN : (⟨(XY :: YY :: r).toArray⟩ : ByteArray).extract 2 (n + 2) = ⟨r.toArray⟩ := by
    apply ByteArray.ext
    rw [ByteArray.data_extract]
    apply Array.toList_inj.1
    rw [Array.toList_extract]
    show List.extract (XY :: YY :: r) 2 (n + 2) = _
    rw [List.extract_eq_take_drop]
    simp [List.take_of_length_le, HN.out]
  have HEX : Hid (∀ k, k + 4 ≤ n → (⟨(XY :: YY :: r).toArray⟩ : ByteArray).extract (2 + k) (6 + k) = ⟨((r.drop k).take 4).toArray⟩) := Lib.hid fun k hk => by
    apply ByteArray.ext
    rw [ByteArray.data_extract]
    apply Array.toList_inj.1
    rw [Array.toList_extract]
    show List.extract (XY :: YY :: r) (2 + k) (6 + k) = _
    rw [List.extract_eq_take_drop, show 6 + k - (2 + k) = 4 by omega, Nat.add_comm 2 k]
    rfl
  generalize hbb : (⟨(XY :: YY :: r).toArray⟩ : ByteArray) = bb at *
  clear hbb
  have hz0' : ∀ hh, (bb[0]'hh).toNat = XY.toNat := fun hh => by rw [hz0 hh]
  have hz1' : ∀ hh, (bb[1]'hh).toNat = YY.toNat := fun hh => by rw [hz1 hh]
  clear hz0 hz1
  generalize XY.toNat = x at *
  generalize YY.toNat = y at *
  have hnN : n ≤ 1000000 := by simp at hl; have := HN.out; omega
  clear hl
  have HNZ := Lib.hid (fun (e : Nat) (he : inflI r (M : Int) = .inl e) => inflI_nz he)
  by_cases hbad : zheadB x y = true
  · rw [hbad, if_pos rfl]
    have HB := Lib.hid (or_true4 hbad)
    clear hbad
    obtain hA | ⟨hA, hB⟩ | ⟨hA, hB, hC⟩ | ⟨hA, hB, hC, hD⟩ := HB.out
    · have eA : ((x : Int) % 16 != 8) = true := by simp at hA ⊢; omega
      clear hA
      go_enter Tryz.func7, Tryz.ntmps7
      go_upto_region 5 with (fail)
      go_quiet (fail)
      have H' := Lib.hid (H.out.drewN nq)
      generalize w.drewN nq = wq at *
      go_wp2_with fail
      go_ret3
      exact ⟨[], 0, 3, rfl, ⟨rfl, rfl, rfl⟩, H'.out⟩
    · have eA : ((x : Int) % 16 != 8) = false := by simp at hA ⊢; omega
      have eB : decide ((127 : Int) < (x : Int)) = true := by simp at hB ⊢; omega
      clear hA hB
      go_enter Tryz.func7, Tryz.ntmps7
      go_upto_region 5 with (fail)
      go_quiet (fail)
      have H' := Lib.hid (H.out.drewN nq)
      generalize w.drewN nq = wq at *
      go_wp2_with fail
      go_ret3
      exact ⟨[], 0, 3, rfl, ⟨rfl, rfl, rfl⟩, H'.out⟩
    · have eA : ((x : Int) % 16 != 8) = false := by simp at hA ⊢; omega
      have eB : decide ((127 : Int) < (x : Int)) = false := by simp at hB ⊢; omega
      have eC : (((x : Int) * 256 + (y : Int)) % 31 != 0) = true := by simp at hC ⊢; omega
      clear hA hB hC
      go_enter Tryz.func7, Tryz.ntmps7
      go_upto_region 5 with (fail)
      go_quiet (fail)
      have H' := Lib.hid (H.out.drewN nq)
      generalize w.drewN nq = wq at *
      go_wp2_with fail
      go_ret3
      exact ⟨[], 0, 3, rfl, ⟨rfl, rfl, rfl⟩, H'.out⟩
    · have eA : ((x : Int) % 16 != 8) = false := by simp at hA ⊢; omega
      have eB : decide ((127 : Int) < (x : Int)) = false := by simp at hB ⊢; omega
      have eC : (((x : Int) * 256 + (y : Int)) % 31 != 0) = false := by simp at hC ⊢; omega
      have eD : ((y : Int) / 32 % 2 == 1) = true := by simp at hD ⊢; omega
      clear hA hB hC hD
      go_enter Tryz.func7, Tryz.ntmps7
      go_upto_region 5 with (fail)
      go_quiet (fail)
      have H' := Lib.hid (H.out.drewN nq)
      generalize w.drewN nq = wq at *
      go_wp2_with fail
      go_ret3
      exact ⟨[], 0, 3, rfl, ⟨rfl, rfl, rfl⟩, H'.out⟩
  · rw [if_neg hbad]
    have hA : (x % 16 != 8) = false ∧ decide (7 < x / 16) = false ∧ ((x * 256 + y) % 31 != 0) = false ∧ (y / 32 % 2 == 1) = false := by
      unfold zheadB at hbad
      revert hbad
      cases (x % 16 != 8) <;> cases decide (7 < x / 16) <;> cases ((x * 256 + y) % 31 != 0) <;> cases (y / 32 % 2 == 1) <;> simp
    obtain ⟨hA, hB, hC, hD⟩ := hA
    clear hbad
    have eA : ((x : Int) % 16 != 8) = false := by simp at hA ⊢; omega
    have eB : decide ((127 : Int) < (x : Int)) = false := by simp at hB ⊢; omega
    have eC : (((x : Int) * 256 + (y : Int)) % 31 != 0) = false := by simp at hC ⊢; omega
    have eD : ((y : Int) / 32 % 2 == 1) = false := by simp at hD ⊢; omega
    clear hA hB hC hD
    go_enter Tryz.func7, Tryz.ntmps7
    go_upto_region 5 with (fail)
    go_quiet (fail)
    have H' := Lib.hid (H.out.drewN nq)
    generalize w.drewN nq = wq at *
    have HI := Lib.hid (rinflate_any H'.out r (M : Int) (by rw [HN.out]; omega) (by omega))
    go_wp2_with (go_at_call 14; apply stop)
    refine on ?_
    refine HI.out.mono ?_
    rintro e w2 ⟨o, k, x2, rfl, hR, h2⟩
    have hzr : zrest r (M : Int) = match inflI r (M : Int) with
        | .inl e => .inl e
        | .inr (o, n) => if r.length < n + 4 then .inl 2 else if numH ((r.drop n).take 4) ≠ adlerN o then .inl 4 else .inr (o, n + 6) := rfl
    have H2 := Lib.hid h2
    clear h2 HI eA eB eC eD
    cases hI : inflI r (M : Int) with
    | inl ee =>
      rw [hI] at hR hzr
      obtain ⟨rfl, rfl, rfl⟩ := hR
      have hne : x2 ≠ 0 := HNZ.out x2 hI
      have hneI : ((x2 : Int) != 0) = true := by simp; omega
      have HZ := Lib.hid hzr
      clear hzr hI hne
      go_wp2_with fail
      go_ret3
      exact ⟨[], 0, x2, rfl, by rw [HZ.out]; exact ⟨rfl, rfl, rfl⟩, H2.out⟩
    | inr z =>
      obtain ⟨o', k'⟩ := z
      rw [hI] at hR hzr
      obtain ⟨hk1, hk2⟩ := inflI_up hI
      obtain ⟨rfl, rfl, rfl⟩ := hR
      rw [HN.out] at hk1 hzr
      have HZ := Lib.hid hzr
      clear hzr hI
      have hol : o.length ≤ 1000000 := by omega
      by_cases hs : n < k + 4
      · have hsI : (n : Int) + 2 < (k : Int) + 6 := by omega
        have hsN : n + 2 < k + 6 := by omega
        go_wp2_with fail
        go_ret3
        exact ⟨[], 0, 2, rfl, by rw [HZ.out, if_pos hs]; exact ⟨rfl, rfl, rfl⟩, H2.out⟩
      · have hsI : ¬ (n : Int) + 2 < (k : Int) + 6 := by omega
        have hsN : ¬ n + 2 < k + 6 := by omega
        have hex := HEX.out k (by omega)
        obtain ⟨d4, hd4⟩ : ∃ d4, (r.drop k).take 4 = d4 := ⟨_, rfl⟩
        have hl4 : d4.length ≤ 8 := by rw [← hd4, List.length_take]; omega
        rw [hd4] at hex
        have HD4 := Lib.hid hd4
        have HNU := Lib.hid (fun (W : World) => onumber_any d4 true W hl4)
        have HSU := Lib.hid (fun (W : World) => rsum_any (w := W) (bs := o) (by omega) rfl)
        have hadl := adlerN_lt o
        have hlt := numH_lt d4
        obtain ⟨ad, had⟩ : ∃ ad, adlerN o = ad := ⟨_, rfl⟩
        obtain ⟨sm, hsm⟩ : ∃ sm, numH d4 = sm := ⟨_, rfl⟩
        have hnu : numO true d4 = sm := hsm
        rw [hnu] at HNU
        rw [had] at HSU hadl
        have HAD := Lib.hid had; have HSM := Lib.hid hsm
        clear had hsm hd4 hnu hl4 hlt
        by_cases he : sm = ad
        · have heI : ((sm : Int) != (ad : Int)) = false := by simp; omega
          have HE := Lib.hid he
          clear he
          go_wp2_with (first | (go_at_call 15; refine (HNU.out _).mono ?_; rintro e w3 ⟨rfl, rfl⟩) | (go_at_call 16; refine (HSU.out _).mono ?_; rintro e w3 ⟨rfl, rfl⟩))
          go_ret3
          refine ⟨o, k + 6, 0, rfl, ?_, H2.out⟩
          rw [HZ.out, if_neg hs, if_neg (by rw [HD4.out, HSM.out, HAD.out]; exact fun h => h HE.out)]
          exact ⟨rfl, rfl, rfl⟩
        · have heI : ((sm : Int) != (ad : Int)) = true := by simp; omega
          have HE := Lib.hid he
          clear he
          go_wp2_with (first | (go_at_call 15; refine (HNU.out _).mono ?_; rintro e w3 ⟨rfl, rfl⟩) | (go_at_call 16; refine (HSU.out _).mono ?_; rintro e w3 ⟨rfl, rfl⟩))
          go_ret3
          refine ⟨[], 0, 4, rfl, ?_, H2.out⟩
          rw [HZ.out, if_neg hs, if_pos (by rw [HD4.out, HSM.out, HAD.out]; exact HE.out)]
          exact ⟨rfl, rfl, rfl⟩
end Go.Proofs.YtddifndfppilkaaGreat
