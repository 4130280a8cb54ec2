/-
  The document's answer for layer 2 (texts of 0 and 1): what each of its functions gives.
  The document's answer for layer 2, the writing side.
-/
import Derived.Test.YtddifndfppilkaaGreatChecked
import Derived.Test.YtddifndfppilkaaGreatBitsM
import Derived.WalkLawsBesides
import Derived.Test.YtddifndfppilkaaGreatWrM
namespace Go.Proofs.YtddifndfppilkaaGreat
open Go.RowKit Go.Mz
set_option linter.unusedVariables false
set_option linter.unusedSimpArgs false

theorem turn_any (l : List UInt8) (w : World) (hl : l.length ≤ 1000000000) :
    Calls Tryz.prog 60 #[.string ⟨l.toArray⟩] w fun e w' => e = .returned (.string ⟨l.reverse.toArray⟩) ∧ w = w' := by
  go_enter Tryz.func60, Tryz.ntmps60
  go_wp2_with fail
  go_loop [3, 4] (fun o i => ∃ k : Nat, k ≤ l.length ∧ i = .int .i64 ((k : Int) - 1) ∧ o = .string ⟨(l.drop k).reverse.toArray⟩) (fun _ i => (intOf i + 1).toNat)
  case atStart => exact ⟨l.length, Nat.le_refl _, rfl, by simp⟩
  case round =>
    obtain ⟨k, hk, rfl, rfl⟩ := hrel
    cases k with
    | zero =>
      go_wp2_with fail
      go_ret
      exact ⟨by simp, rfl⟩
    | succ m =>
      rw [show (((m + 1 : Nat) : Int) - 1) = (m : Int) from by omega]
      go_wp2_with fail
      refine ⟨⟨m, by omega, rfl, ?_⟩, by simp [intOf]⟩
      rw [ByteArray.extract_mk, ByteArray.mk_append_mk, List.drop_eq_getElem_cons (show m < l.length by omega), List.reverse_cons]
      simp [List.take_one, List.head?_drop, show m < l.length by omega]

theorem turn_tx {l : List Nat} (w : World) (hl : l.length ≤ 1000000000) {s : ByteArray} (hs : s = ⟨(tx l).toArray⟩) :
    Calls Tryz.prog 60 #[.string s] w fun e w' => e = .returned (.string ⟨(tx l.reverse).toArray⟩) ∧ w = w' := by
  subst hs
  have := turn_any (tx l) w (by simpa using hl)
  rw [tx_reverse] at this
  exact this

theorem number_tx {l : List Nat} (w : World) (hb : Bit l) (hl : l.length ≤ 32) {s : ByteArray} (hs : s = ⟨(tx l).toArray⟩) :
    Calls Tryz.prog 75 #[.string s] w fun e w' => e = .returned (.int .u32 (numB l)) ∧ w = w' := by
  subst hs
  go_enter Tryz.func75, Tryz.ntmps75
  go_wp2_with fail
  go_loop [3, 4] (fun v i => ∃ k : Nat, k ≤ l.length ∧ i = .int .i64 k ∧ v = .int .u32 (numB (l.take k))) (fun _ i => l.length - (intOf i).toNat)
  case atStart => exact ⟨0, Nat.zero_le _, rfl, rfl⟩
  case round =>
    obtain ⟨k, hk, rfl, rfl⟩ := hrel
    by_cases hkn : k < l.length
    · have hk1 : (k : Int) < (tx l).length := by simpa using hkn
      have hs : numB (l.take (k + 1)) = numB (l.take k) * 2 + l[k] := by
        rw [List.take_succ_eq_append_getElem hkn, numB_snoc]
      have hlt := numB_lt (hb.take (k + 1))
      have hp := pow32 (n := (l.take (k + 1)).length) (by simp; omega)
      rw [hs] at hlt
      have hg : (tx l)[k]? = some (dg l[k]) := by simp [tx, hkn]
      have hd := toNat_dg (hb l[k] (by simp))
      have hbit := hb l[k] (by simp)
      have HS := Lib.hid hs; clear hs
      generalize hx : numB (l.take k) = x at *
      generalize hy : l[k] = y at *
      clear hx hy
      go_wp2_with fail
      refine ⟨⟨k + 1, by omega, by go_num, ?_⟩, by simp [intOf]; omega⟩
      rw [ba_get hg, hd, HS.out]
      exact int_eq (by omega)
    · obtain rfl : k = l.length := by omega
      go_wp2_with fail
      go_ret
      exact ⟨by simp, rfl⟩

theorem word_any (v n : Nat) {w0 w : World} {F : SProp} (h : St w0 w F) {i j : Int} (hi : i = v) (hj : j = n) (hv : v < 4294967296) (hn : n ≤ 32) :
    Calls Tryz.prog 59 #[.int .u32 i, .int .i64 j] w fun e w' => e = .returned (.string ⟨(tx (wordB v n)).toArray⟩) ∧ St w0 w' F := by
  subst hi hj
  have H := Lib.hid h; clear h
  go_enter Tryz.func59, Tryz.ntmps59
  go_wp2_with fail
  go_loopw [0, 5, 6] (fun x s i wr => ∃ k : Nat, k ≤ n ∧ i = .int .i64 k ∧ x = .int .u32 ((v / 2 ^ k : Nat) : Int) ∧ s = .string ⟨(tx (wordB v k)).toArray⟩ ∧ St w0 wr F) (fun _ _ i _ => n - (intOf i).toNat)
  case atStart => exact ⟨0, Nat.zero_le _, rfl, by simp, rfl, H.out⟩
  case round =>
    obtain ⟨k, hk, rfl, rfl, rfl, hst⟩ := hrel
    by_cases hkn : k < n
    · have hb : v / 2 ^ k % 2 ≤ 1 := by omega
      have hx : v / 2 ^ k < 4294967296 := Nat.lt_of_le_of_lt (Nat.div_le_self _ _) hv
      have hq : Hid (v / 2 ^ (k + 1) = v / 2 ^ k / 2) := by rw [Nat.pow_succ, ← Nat.div_div_eq_div_mul]; rfl
      have hw : Hid (wordB v (k + 1) = (v / 2 ^ k % 2) :: wordB v k) := rfl
      have HS := Lib.hid hst; clear hst
      have hlen : (tx (wordB v k)).length ≤ 32 := by simp; omega
      generalize v / 2 ^ k = x at *
      go_wp2_with (with_reducible (refine stop_conv 22 9 rfl ?_))
      refine on (wpList_b2s Tryz.underlying22 Tryz.underlying5 Tryz.underlying9 rfl rfl (n := 1) (reads_one wr 5 (dg (x % 2)) (by rw [toNat_dg hb]; simp)) ?_)
      go_wp2_with fail
      refine ⟨⟨k + 1, by omega, by go_num, by rw [hq.out]; simp, ?_, HS.out.drop_alloc _⟩, by simp [intOf]; omega⟩
      rw [hw.out, tx_cons]
      exact (congrArg Value.string (ByteArray.mk_append_mk _ _))
    · obtain rfl : k = n := by omega
      go_wp2_with fail
      go_ret
      exact ⟨rfl, hst⟩

theorem of_any (bs : List UInt8) (low : Bool) {w0 w : World} {F : SProp} (h : St w0 w F) (hl : bs.length ≤ 100000000) :
    Calls Tryz.prog 31 #[.string ⟨bs.toArray⟩, .bool low] w fun e w' => e = .returned (.string ⟨(tx (bitsL low bs)).toArray⟩) ∧ St w0 w' F := by
  have H := Lib.hid h; clear h
  go_enter Tryz.func31, Tryz.ntmps31
  go_wp2_with fail
  go_loopw [5, 6] (fun s i wr => ∃ k : Nat, k ≤ bs.length ∧ i = .int .i64 k ∧ s = .string ⟨(tx (bitsL low (bs.take k))).toArray⟩ ∧ St w0 wr F) (fun _ i _ => bs.length - (intOf i).toNat)
  case atStart => exact ⟨0, Nat.zero_le _, rfl, rfl, H.out⟩
  case round =>
    obtain ⟨k, hk, rfl, rfl, hst⟩ := hrel
    by_cases hkn : k < bs.length
    · have HS := Lib.hid hst; clear hst
      have hg := Lib.hid (List.getElem?_eq_getElem hkn)
      have hw : Hid (bitsL low (bs.take (k + 1)) = bitsL low (bs.take k) ++ bits8 low bs[k]) := by
        show _ = _
        rw [List.take_succ_eq_append_getElem hkn, bitsL_append]; simp [bitsL]
      have hlen : (tx (bitsL low (bs.take k))).length ≤ 8 * bs.length := by simp; omega
      have hc : bs[k].toNat < 256 := UInt8.toNat_lt _
      generalize bs[k] = c at *
      cases low
      all_goals
        go_wp2_with fail
        refine (word_any c.toNat 8 HS.out (by rw [ba_get hg.out]; omega) rfl (by omega) (by decide)).mono ?_
        rintro e w1 ⟨rfl, h1⟩
        have H1 := Lib.hid h1; clear h1
        have hlw : (tx (wordB c.toNat 8)).length = 8 := by simp
        try (
          go_wp2_with fail
          refine (turn_tx _ (by simp) rfl).mono ?_
          rintro e w2 ⟨rfl, rfl⟩
          have hlw2 : (tx (wordB c.toNat 8).reverse).length = 8 := by simp)
        go_wp2_with fail
        refine ⟨⟨k + 1, by omega, by go_num, ?_, H1.out⟩, by simp [intOf]; omega⟩
        rw [hw.out, tx_append]
        exact (congrArg Value.string (ByteArray.mk_append_mk _ _))
    · obtain rfl : k = bs.length := by omega
      go_wp2_with fail
      go_ret
      exact ⟨by simp, hst⟩

theorem rpeek_bad (s a low : Value) (n : Int) (w : World) (h : n < 0 ∨ 32 < n) :
    Calls Tryz.prog 46 #[s, a, .int .i64 n, low] w fun e w' => e = .returned (.tuple #[.int .u32 0, .int .i64 1]) ∧ w = w' := by
  rcases h with h | h
  · have h1 : decide (n < 0) = true := by simpa using h
    go_enter Tryz.func46, Tryz.ntmps46
    go_wp2_with fail
    go_ret2
    exact ⟨rfl, rfl⟩
  · have h1 : ¬ n < 0 := by omega
    go_enter Tryz.func46, Tryz.ntmps46
    go_wp2_with fail
    go_ret2
    exact ⟨rfl, rfl⟩

theorem rpeek_any {l : List Nat} (hb : Bit l) (p n : Nat) (low : Bool) (w : World) (hp : p ≤ l.length) (hn : n ≤ 32) (hl : l.length ≤ 1000000000) {i j : Int} (hi : i = p) (hj : j = n) :
    Calls Tryz.prog 46 #[.string ⟨(tx l).toArray⟩, .int .i64 i, .int .i64 j, .bool low] w fun e w' => e = .returned (.tuple #[.int .u32 (numV low (fun i => l.getD (p + i) 0) n), .int .i64 0]) ∧ w = w' := by
  subst hi hj
  have hw := window l p n 32 hn
  rw [numV_L, ← hw]
  have hbx : Bit (((l.drop p) ++ List.replicate 32 0).take n) := ((hb.drop p).append (bit_rep 32)).take n
  have hlx : (((l.drop p) ++ List.replicate 32 0).take n).length = n := by simp; omega
  have hex : ByteArray.extract (ByteArray.extract ⟨(tx l).toArray⟩ p l.length ++ ⟨#[48, 48, 48, 48, 48, 48, 48, 48, 48, 48, 48, 48, 48, 48, 48, 48, 48, 48, 48, 48, 48, 48, 48, 48, 48, 48, 48, 48, 48, 48, 48, 48]⟩) 0 n = ⟨(tx (((l.drop p) ++ List.replicate 32 0).take n)).toArray⟩ := by
    rw [ByteArray.extract_mk (tx l) p l.length, ByteArray.mk_append_mk, ByteArray.extract_mk _ 0 n, List.drop_zero, Nat.sub_zero, ← tx_take, tx_append, ← tx_drop, List.take_of_length_le (i := l.length - p) (by simp)]
    rfl
  have HX := Lib.hid hex; clear hex
  have hl2 : (tx l).length = l.length := by simp
  clear hw
  generalize ((l.drop p) ++ List.replicate 32 0).take n = x at *
  cases low
  · go_enter Tryz.func46, Tryz.ntmps46
    go_wp2_with fail
    refine (number_tx _ hbx (by omega) HX.out).mono ?_
    rintro e w2 ⟨rfl, rfl⟩
    go_wp2_with fail
    go_ret2
    exact ⟨rfl, rfl⟩
  · go_enter Tryz.func46, Tryz.ntmps46
    go_wp2_with fail
    refine (turn_tx (l := x) _ (by omega) HX.out).mono ?_
    rintro e w2 ⟨rfl, rfl⟩
    go_wp2_with fail
    refine (number_tx _ hbx.reverse (by simp; omega) rfl).mono ?_
    rintro e w2 ⟨rfl, rfl⟩
    go_wp2_with fail
    go_ret2
    exact ⟨rfl, rfl⟩


theorem rpeek_all {l : List Nat} (hb : Bit l) (p : Nat) (n : Int) (low : Bool) (w : World) (hp : p ≤ l.length) (hl : l.length ≤ 1000000000) {i : Int} (hi : i = p) {s : ByteArray} (hs : s = ⟨(tx l).toArray⟩) :
    Calls Tryz.prog 46 #[.string s, .int .i64 i, .int .i64 n, .bool low] w fun e w' => e = .returned (.tuple #[.int .u32 (pkI l low p n).1, .int .i64 (pkI l low p n).2]) ∧ w = w' := by
  by_cases h : n < 0 ∨ 32 < n
  · have e : pkI l low p n = (0, 1) := by unfold pkI; rw [if_pos h]
    rw [e]; exact rpeek_bad _ _ _ _ _ h
  · have e : pkI l low p n = (numV low (fun i => l.getD (p + i) 0) n.toNat, 0) := by unfold pkI; rw [if_neg h]
    rw [e]; subst hs; exact rpeek_any hb p n.toNat low w hp (by omega) hl hi (by omega)

theorem rread_all {l : List Nat} (hb : Bit l) (p : Nat) (n : Int) (low : Bool) (w : World) (hp : p ≤ l.length) (hl : l.length ≤ 1000000000) {i : Int} (hi : i = p) {s : ByteArray} (hs : s = ⟨(tx l).toArray⟩) :
    Calls Tryz.prog 61 #[.string s, .int .i64 i, .int .i64 n, .bool low] w fun e w' =>
      e = .returned (.tuple #[.int .u32 (rdI l low p n).1, .int .i64 (rdI l low p n).2.1, .int .i64 (rdI l low p n).2.2]) ∧ w = w' := by
  subst hi hs
  have hl2 : (tx l).length = l.length := by simp
  have hpk := Lib.hid (rpeek_all hb p n low w hp hl rfl rfl)
  by_cases h : n < 0 ∨ 32 < n
  · have e : pkI l low p n = (0, 1) := by unfold pkI; rw [if_pos h]
    have E := Lib.hid (show rdI l low p n = (0, p, 1) by unfold rdI; rw [if_pos h])
    rw [e] at hpk
    clear h
    go_enter Tryz.func61, Tryz.ntmps61
    go_wp2_with fail
    refine (hpk.out).mono ?_
    rintro e w2 ⟨rfl, rfl⟩
    go_wp2_with fail
    go_ret3
    exact ⟨by rw [E.out]; rfl, rfl⟩
  · have e : pkI l low p n = (numV low (fun i => l.getD (p + i) 0) n.toNat, 0) := by unfold pkI; rw [if_neg h]
    rw [e] at hpk
    by_cases hc : l.length < p + n.toNat
    · have E := Lib.hid (show rdI l low p n = (0, p, 2) by unfold rdI; rw [if_neg h, if_pos hc])
      have hc' : (l.length : Int) < p + n := by omega
      have hn1 : 0 ≤ n := by omega
      have hn2 : n ≤ 32 := by omega
      clear h hc
      generalize numV low (fun i => l.getD (p + i) 0) n.toNat = x at *
      go_enter Tryz.func61, Tryz.ntmps61
      go_wp2_with fail
      refine (hpk.out).mono ?_
      rintro e w2 ⟨rfl, rfl⟩
      go_wp2_with fail
      go_ret3
      exact ⟨by rw [E.out]; rfl, rfl⟩
    · have E := Lib.hid (show rdI l low p n = (numV low (fun i => l.getD (p + i) 0) n.toNat, p + n.toNat, 0) by unfold rdI; rw [if_neg h, if_neg hc])
      have hc' : ¬ (l.length : Int) < p + n := by omega
      have hn1 : 0 ≤ n := by omega
      have hn2 : n ≤ 32 := by omega
      have HN := Lib.hid (show ((p + n.toNat : Nat) : Int) = p + n by omega)
      clear h hc
      generalize numV low (fun i => l.getD (p + i) 0) n.toNat = x at *
      go_enter Tryz.func61, Tryz.ntmps61
      go_wp2_with fail
      refine (hpk.out).mono ?_
      rintro e w2 ⟨rfl, rfl⟩
      go_wp2_with fail
      go_ret3
      exact ⟨by rw [E.out]; simp only []; rw [HN.out]; rfl, rfl⟩
end Go.Proofs.YtddifndfppilkaaGreat

namespace Go.Proofs.YtddifndfppilkaaGreat
open Go.RowKit Go.Mz
set_option linter.unusedVariables false
set_option linter.unusedSimpArgs false





end Go.Proofs.YtddifndfppilkaaGreat
