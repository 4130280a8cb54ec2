/-
  Parts of a proof.
-/
import Derived.Test.YtboflbdniogcdaaGreatDoorK04
import Derived.Test.YtboflbdniogcdaaGreatDoorK02
import Derived.WalkLawsBesides
import Derived.Test.YtboflbdniogcdaaGreatDoorK15
import Derived.Test.YtboflbdniogcdaaGreatDoorK01
import Derived.Test.YtboflbdniogcdaaGreatDoorChecked
import Derived.Deep.LoopGhost
namespace Go.Proofs.YtboflbdniogcdaaGreatDoor
open Go.RowKit Go.Mz
set_option linter.unusedVariables false
set_option linter.unusedSimpArgs false
set_option maxRecDepth 100000
theorem i64_and1 (x : Nat) (h : x < 1000000000000) : bits .and .i64 (x : Int) 1 = ((x % 2 : Nat) : Int) := by
 show IntKind.i64.wrap ((BitVec.ofInt 64 (x : Int) &&& BitVec.ofInt 64 1).toNat : Int) = _
 rw [BitVec.toNat_and, BitVec.toNat_ofInt, BitVec.toNat_ofInt]
 have e1 : ((x : Int) % ((2 ^ 64 : Nat) : Int)).toNat = x := by omega
 have e2 : ((1 : Int) % ((2 ^ 64 : Nat) : Int)).toNat = 1 := by decide
 rw [e1, e2, nat_mask1, IntWalk.i64_in _ (by omega)]
theorem hword_any {w0 w : World} {F : SProp} (h : St w0 w F) (v n : Nat) (hv : v < 1000000000000) (hn : n ≤ 30) {i j : Int} (hi : i = v) (hj : j = n) :
  Calls Tryz.prog 219 #[.int .i64 i, .int .i64 j] w fun e w' => e = .returned (.string ⟨(tx (wordB v n)).toArray⟩) ∧ St w0 w' F := by
 subst hi hj
 have H := Lib.hid h; clear h
 have T := elemBytes
 go_enter Tryz.func219, Tryz.ntmps219
 go_wp2_with (at_make; apply stop)
 refine on (wpList_make_sep T rfl _ _ rfl n rfl rfl rfl rfl H.out (by unfold maxLen; omega) (by omega) ?_)
 intro v' w1 h1
 obtain ⟨a', cap', rfl⟩ := h1.reads.sub
 have H1 := Lib.hid h1; clear h1
 have hlt : (tx (wordB v n)).length = n := by simp
 have HLT := Lib.hid hlt; clear hlt
 go_wp2_with fail
 go_loopw [11] (fun i wr => ∃ k : Nat, k ≤ n ∧ i = .int .i64 k ∧ St w0 wr (own 5 1 (.slice a' n cap') n (((tx (wordB v n)).take k ++ List.replicate (n - k) 0).map bv) * F)) (fun i _ => n - (intOf i).toNat)
 case atStart => exact ⟨0, Nat.zero_le _, rfl, by
  have e : (madeCells (Value.int .u8 0).cells (n * 1)).toList = ((tx (wordB v n)).take 0 ++ List.replicate (n - 0) 0).map bv := by
   rw [Nat.mul_one]
   simp [Value.cells, toList_madeCells_one, bv]
  rw [← e]; exact H1.out⟩
 case round =>
  obtain ⟨k, hk, rfl, hst⟩ := hrel
  by_cases hkn : k < n
  ·obtain ⟨g, rfl⟩ := own_at hst (by omega)
   have hfz := hst.own_free k
   have hcc := hst.own_cell (i := k) (u := .int .u8 0) (by
    rw [List.getElem?_map, List.getElem?_append_right (by rw [List.length_take, HLT.out]; omega), List.length_take, HLT.out, List.getElem?_replicate, if_pos (by omega)]; rfl)
   have hbit : v / 2 ^ (n - 1 - k) % 2 ≤ 1 := by omega
   have hx : (tx (wordB v n))[k]? = some (dg (v / 2 ^ (n - 1 - k) % 2)) := by rw [tx, List.getElem?_map, wordB_get v n k hkn]; rfl
   have HT := Lib.hid (show (((tx (wordB v n)).take k ++ List.replicate (n - k) 0).map bv).set k (bv (dg (v / 2 ^ (n - 1 - k) % 2))) = ((tx (wordB v n)).take (k + 1) ++ List.replicate (n - (k + 1)) 0).map bv by
    rw [← List.map_set]
    congr 1
    rw [List.take_add_one, hx, List.set_append_right _ _ (by rw [List.length_take, HLT.out]; omega), List.length_take, HLT.out]
    have e2 : List.replicate (n - k) (0 : UInt8) = 0 :: List.replicate (n - (k + 1)) 0 := by rw [← List.replicate_succ]; congr 1; omega
    have e3 : k - min k n = 0 := by omega
    rw [e2, e3]
    simp)
   have hsub1 : IntKind.i64.wrap ((n : Int) - 1) = (n : Int) - 1 := IntWalk.i64_in _ (by omega)
   have hsub2 : IntKind.i64.wrap ((n : Int) - 1 - k) = ((n - 1 - k : Nat) : Int) := by rw [IntWalk.i64_in _ (by omega)]; omega
   have HST := Lib.hid hst; clear hst
   generalize hp : n - 1 - k = p at *
   have hdv : bits BinOp.and IntKind.i64 ((v : Int) / 2 ^ p) 1 = ((v / 2 ^ p % 2 : Nat) : Int) := by
    rw [← i64_and1 _ (Nat.lt_of_le_of_lt (Nat.div_le_self _ _) hv)]
    congr 1
   have hdg := toNat_dg hbit
   generalize v / 2 ^ p % 2 = b at *
   have HDV := Lib.hid hdv; clear hdv
   have hk1 : (k : Int) < n := by omega
   go_wp2_with fail
   refine ⟨⟨k + 1, by omega, by go_num, ?_⟩, by simp [intOf]; omega⟩
   rw [HDV.out, ← HT.out]
   have e : (Value.int .u8 ((48 + (b : Int)) % 256)) = bv (dg b) := by
    rw [bv, hdg]
    exact int_eq (by omega)
   rw [e]
   exact HST.out.own_set k _
  ·obtain rfl : k = n := by omega
   have HST := Lib.hid hst; clear hst
   go_wp2_with (with_reducible (refine stop_conv 32 9 rfl ?_))
   refine on (wpList_b2s Tryz.underlying32 Tryz.underlying5 Tryz.underlying9 rfl rfl (n := k) (bs := tx (wordB v k)) (by
    have := HST.out.reads
    rw [Nat.sub_self, List.replicate_zero, List.append_nil, List.take_of_length_le (by rw [HLT.out]; omega)] at this
    exact this) ?_)
   go_wp2_with fail
   go_ret
   exact ⟨rfl, HST.out.right⟩
end Go.Proofs.YtboflbdniogcdaaGreatDoor
