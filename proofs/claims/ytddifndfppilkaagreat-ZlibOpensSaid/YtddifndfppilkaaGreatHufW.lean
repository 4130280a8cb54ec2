/-
  Layer 6 (huff): a number in so many bits; the next word of the document.
-/
import Derived.Test.YtddifndfppilkaaGreatWrM
import Derived.Test.YtddifndfppilkaaGreatRd
import Derived.WalkLawsBesides
import Derived.Test.YtddifndfppilkaaGreatCanonM
import Derived.Test.YtddifndfppilkaaGreatSep
import Derived.Test.YtddifndfppilkaaGreatRef02
import Derived.Deep.LoopGhost
namespace Go.Proofs.YtddifndfppilkaaGreat
open Go.RowKit Go.Mz
set_option linter.unusedVariables false
set_option linter.unusedSimpArgs false
set_option maxRecDepth 100000

theorem i64_and1 (x : Nat) (h : x < 1000000000000) : bits .and .i64 (x : Int) 1 = ((x % 2 : Nat) : Int) := by
  show IntKind.i64.wrap ((BitVec.ofInt 64 (x : Int) &&& BitVec.ofInt 64 1).toNat : Int) = _
  rw [BitVec.toNat_and, BitVec.toNat_ofInt, BitVec.toNat_ofInt]
  have e1 : ((x : Int) % ((2 ^ 64 : Nat) : Int)).toNat = x := by omega
  have e2 : ((1 : Int) % ((2 ^ 64 : Nat) : Int)).toNat = 1 := by decide
  rw [e1, e2, nat_mask1, IntWalk.i64_in _ (by omega)]

theorem hword_any {w0 w : World} {F : SProp} (h : St w0 w F) (v n : Nat) (hv : v < 1000000000000) (hn : n ≤ 30) {i j : Int} (hi : i = v) (hj : j = n) :
    Calls Tryz.prog 91 #[.int .i64 i, .int .i64 j] w fun e w' => e = .returned (.string ⟨(tx (wordB v n)).toArray⟩) ∧ St w0 w' F := by
  subst hi hj
  have H := Lib.hid h; clear h
  have T := elemBytes
  go_enter Tryz.func91, Tryz.ntmps91
  go_wp2_with (at_make; apply stop)
  refine on (wpList_make_sep T rfl _ _ rfl n rfl rfl rfl rfl H.out (by unfold maxLen; omega) (by omega) ?_)
  intro v' w1 h1
  obtain ⟨a', cap', rfl⟩ := h1.reads.sub
  have H1 := Lib.hid h1; clear h1
  have hlt : (tx (wordB v n)).length = n := by simp
  have HLT := Lib.hid hlt; clear hlt
  go_wp2_with fail
  go_loopw [11] (fun i wr => ∃ k : Nat, k ≤ n ∧ i = .int .i64 k ∧ St w0 wr (own 5 1 (.slice a' n cap') n (((tx (wordB v n)).take k ++ List.replicate (n - k) 0).map bv) * F)) (fun i _ => n - (intOf i).toNat)
  case atStart => exact ⟨0, Nat.zero_le _, rfl, by
    have e : (madeCells (Value.int .u8 0).cells (n * 1)).toList = ((tx (wordB v n)).take 0 ++ List.replicate (n - 0) 0).map bv := by
      rw [Nat.mul_one]
      simp [Value.cells, toList_madeCells_one, bv]
    rw [← e]; exact H1.out⟩
  case round =>
    obtain ⟨k, hk, rfl, hst⟩ := hrel
    by_cases hkn : k < n
    · obtain ⟨g, rfl⟩ := own_at hst (by omega)
      have hfz := hst.own_free k
      have hcc := hst.own_cell (i := k) (u := .int .u8 0) (by
        rw [List.getElem?_map, List.getElem?_append_right (by rw [List.length_take, HLT.out]; omega), List.length_take, HLT.out, List.getElem?_replicate, if_pos (by omega)]; rfl)
      have hbit : v / 2 ^ (n - 1 - k) % 2 ≤ 1 := by omega
      have hx : (tx (wordB v n))[k]? = some (dg (v / 2 ^ (n - 1 - k) % 2)) := by rw [tx, List.getElem?_map, wordB_get v n k hkn]; rfl
      have HT := Lib.hid (show (((tx (wordB v n)).take k ++ List.replicate (n - k) 0).map bv).set k (bv (dg (v / 2 ^ (n - 1 - k) % 2))) = ((tx (wordB v n)).take (k + 1) ++ List.replicate (n - (k + 1)) 0).map bv by
        rw [← List.map_set]
        congr 1
        rw [List.take_add_one, hx, List.set_append_right _ _ (by rw [List.length_take, HLT.out]; omega), List.length_take, HLT.out]
        have e2 : List.replicate (n - k) (0 : UInt8) = 0 :: List.replicate (n - (k + 1)) 0 := by rw [← List.replicate_succ]; congr 1; omega
        have e3 : k - min k n = 0 := by omega
        rw [e2, e3]
        simp)
      have hsub1 : IntKind.i64.wrap ((n : Int) - 1) = (n : Int) - 1 := IntWalk.i64_in _ (by omega)
      have hsub2 : IntKind.i64.wrap ((n : Int) - 1 - k) = ((n - 1 - k : Nat) : Int) := by rw [IntWalk.i64_in _ (by omega)]; omega
      have HST := Lib.hid hst; clear hst
      generalize hp : n - 1 - k = p at *
      have hdv : bits BinOp.and IntKind.i64 ((v : Int) / 2 ^ p) 1 = ((v / 2 ^ p % 2 : Nat) : Int) := by
        rw [← i64_and1 _ (Nat.lt_of_le_of_lt (Nat.div_le_self _ _) hv)]
        congr 1
      have hdg := toNat_dg hbit
      generalize v / 2 ^ p % 2 = b at *
      have HDV := Lib.hid hdv; clear hdv
      have hk1 : (k : Int) < n := by omega
      go_wp2_with fail
      refine ⟨⟨k + 1, by omega, by go_num, ?_⟩, by simp [intOf]; omega⟩
      rw [HDV.out, ← HT.out]
      have e : (Value.int .u8 ((48 + (b : Int)) % 256)) = bv (dg b) := by
        rw [bv, hdg]
        exact int_eq (by omega)
      rw [e]
      exact HST.out.own_set k _
    · obtain rfl : k = n := by omega
      have HST := Lib.hid hst; clear hst
      go_wp2_with (with_reducible (refine stop_conv 22 9 rfl ?_))
      refine on (wpList_b2s Tryz.underlying22 Tryz.underlying5 Tryz.underlying9 rfl rfl (n := k) (bs := tx (wordB v k)) (by
        have := HST.out.reads
        rw [Nat.sub_self, List.replicate_zero, List.append_nil, List.take_of_length_le (by rw [HLT.out]; omega)] at this
        exact this) ?_)
      go_wp2_with fail
      go_ret
      exact ⟨rfl, HST.out.right⟩
theorem rnext_none {w : World} (k : Nat) (hk : k ≤ 30) {s : ByteArray} (hs : s = ⟨(tx (List.replicate k 1)).toArray⟩) :
    Calls Tryz.prog 80 #[.string s] w fun e w' => e = .returned (.tuple #[.string ⟨#[]⟩, .bool false]) ∧ w = w' := by
  subst hs
  have hl : (tx (List.replicate k 1)).length = k := by simp
  go_enter Tryz.func80, Tryz.ntmps80
  go_wp2_with fail
  go_loop [4] (fun i => ∃ j : Nat, j ≤ k ∧ i = .int .i64 ((j : Int) - 1)) (fun i => (intOf i + 1).toNat)
  case atStart => exact ⟨k, Nat.le_refl _, by simp⟩
  case round =>
    obtain ⟨j, hj, rfl⟩ := hrel
    cases j with
    | zero =>
      go_wp2_with fail
      go_ret2
      exact ⟨rfl, rfl⟩
    | succ m =>
      have e : (((m + 1 : Nat) : Int) - 1) = (m : Int) := by omega
      rw [e]
      have hg : (tx (List.replicate k 1))[m]? = some (dg 1) := by rw [tx, List.map_replicate, List.getElem?_replicate, if_pos (by omega)]
      have hm1 : (m : Int) < k := by omega
      have hgx : ∀ h, (ByteArray.mk (tx (List.replicate k 1)).toArray)[m]'h = dg 1 := fun h => ba_get hg h
      have hd : (dg 1).toNat = 49 := by decide
      clear hg
      go_wp2_with fail
      exact ⟨⟨m, by omega, rfl⟩, by simp [intOf]⟩

theorem rnext_some {w : World} (p : List Nat) (k : Nat) (hb : Bit p) (hk : p.length + k + 1 ≤ 30) {s : ByteArray} (hs : s = ⟨(tx (p ++ 0 :: List.replicate k 1)).toArray⟩) :
    Calls Tryz.prog 80 #[.string s] w fun e w' => e = .returned (.tuple #[.string ⟨(tx (p ++ 1 :: List.replicate k 0)).toArray⟩, .bool true]) ∧ w = w' := by
  have hl : (tx (p ++ 0 :: List.replicate k 1)).length = p.length + k + 1 := by simp; omega
  have hz : s.size = p.length + k + 1 := by rw [hs]; exact hl
  have hat : ∀ m, (hm : m < s.size) → s[m]'hm = if m < p.length then dg (p.getD m 0) else if m = p.length then dg 0 else dg 1 := fun m hm => by
    subst hs
    refine ba_get ?_ hm
    rw [tx, List.getElem?_map]
    rw [hz] at hm
    by_cases h1 : m < p.length
    · rw [List.getElem?_append_left h1, if_pos h1, List.getElem?_eq_getElem h1]; simp [h1]
    · rw [List.getElem?_append_right (by omega), if_neg h1]
      by_cases h2 : m = p.length
      · rw [if_pos h2, h2, Nat.sub_self]; rfl
      · rw [if_neg h2]
        obtain ⟨q, hq⟩ : ∃ q, m - p.length = q + 1 := ⟨m - p.length - 1, by omega⟩
        rw [hq, List.getElem?_cons_succ, List.getElem?_replicate, if_pos (by omega)]; rfl
  have HAT := Lib.hid hat; clear hat
  have hex : s.extract 0 p.length = ⟨(tx p).toArray⟩ := by
    subst hs
    rw [ByteArray.extract_mk, tx_append]
    have : (tx p).length = p.length := by simp
    rw [List.drop_zero, Nat.sub_zero, List.take_append_of_le_length (by omega), List.take_of_length_le (by omega)]
  have HEX := Lib.hid hex; clear hex
  have HS := Lib.hid hs; clear hs hl
  go_enter Tryz.func80, Tryz.ntmps80
  go_wp2_with fail
  go_loop [4] (fun i => ∃ j : Nat, p.length ≤ j ∧ j ≤ p.length + k ∧ i = .int .i64 j) (fun i => (intOf i).toNat)
  case atStart => exact ⟨p.length + k, by omega, by omega, by simp⟩
  case round =>
    obtain ⟨j, hj1, hj2, rfl⟩ := hrel
    have hjs : j < s.size := by omega
    have hgx := HAT.out j hjs
    rw [if_neg (by omega)] at hgx
    have hd1 : (dg 1).toNat = 49 := by decide
    have hd0 : (dg 0).toNat = 48 := by decide
    have hji : (j : Int) < s.size := by omega
    by_cases hjp : j = p.length
    · rw [if_pos hjp] at hgx
      subst hjp
      have hle : (p.length : Int) ≤ s.size := by omega
      go_wp2_with fail
      go_loopg [5] k (fun g v wr => ∃ q : Nat, q + g = k ∧ v = .string ⟨(tx (p ++ 1 :: List.replicate q 0)).toArray⟩ ∧ wr = w)
      case atStart => exact ⟨0, by omega, by
        rw [HEX.out, show (ByteArray.mk #[49]) = ⟨(tx [1]).toArray⟩ from rfl, ByteArray.mk_append_mk, ← tx_append]; rfl, rfl⟩
      case round =>
        obtain ⟨q, hq, rfl, rfl⟩ := hrel
        have hlq : (tx (p ++ 1 :: List.replicate q 0)).length = p.length + q + 1 := by simp; omega
        have hap : (tx (p ++ 1 :: List.replicate (q + 1) 0)) = tx (p ++ 1 :: List.replicate q 0) ++ tx [0] := by
          rw [← tx_append, List.append_assoc, List.cons_append, ← List.replicate_succ']
        have HAP := Lib.hid hap; clear hap
        by_cases hg : gk = 0
        · obtain rfl : q = k := by omega
          generalize htt : tx (p ++ 1 :: List.replicate q 0) = tt at *
          have HTT := Lib.hid htt; clear htt
          go_wp2_with fail
          go_ret2
          refine ⟨?_, rfl⟩
          rw [HTT.out]; rfl
        · have hqk : q < k := by omega
          generalize tx (p ++ 1 :: List.replicate q 0) = tt at *
          go_wp2_with fail
          go_roundg (gk - 1)
          case measure => omega
          case rel =>
            refine ⟨q + 1, by omega, ?_, rfl⟩
            rw [HAP.out, ← ByteArray.mk_append_mk]; rfl
    · rw [if_neg hjp] at hgx
      go_wp2_with fail
      refine ⟨⟨j - 1, by omega, by omega, by go_num⟩, by simp [intOf]; omega⟩
end Go.Proofs.YtddifndfppilkaaGreat
