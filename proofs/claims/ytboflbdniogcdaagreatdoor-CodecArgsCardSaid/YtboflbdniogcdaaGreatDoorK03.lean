/-
  Parts of a proof.
-/
import Derived.WalkLawsBesides
import Derived.Test.YtboflbdniogcdaaGreatDoorK02
import Derived.Test.YtboflbdniogcdaaGreatDoorK01
import Derived.Laws.Externs
import Derived.Test.YtboflbdniogcdaaGreatDoorChecked
namespace Go.Proofs.YtboflbdniogcdaaGreatDoor
open Go.RowKit Go.Mz
set_option linter.unusedVariables false
set_option linter.unusedSimpArgs false
set_option maxRecDepth 100000
theorem add64_run (x y : Nat) (w : World) : (callFunc 195 #[.int .u64 (x : Int), .int .u64 (y : Int), .int .u64 0]).run Tryz.prog w =
  .ok (.value (.tuple #[.int .u64 (((x : Int) + (y : Int) + 0) % 18446744073709551616), .int .u64 (((x : Int) + (y : Int) + 0) / 18446744073709551616)])) w := by
 rw [run_callFunc_extern (fn := Tryz.f195) (by kernel_rfl) (by kernel_rfl) (by kernel_rfl) (by kernel_rfl) (e := add64Entry) (by kernel_rfl), run_add64 x y 0 (by omega) (by omega) (by omega) (by omega)]
 rfl
theorem add64_ok {x y n : Nat} (hn : x + y = n) (h : n < 18446744073709551616) (w : World) : (callFunc 195 #[.int .u64 (x : Int), .int .u64 (y : Int), .int .u64 0]).run Tryz.prog w =
  .ok (.value (.tuple #[.int .u64 (n : Int), .int .u64 0])) w := by
 rw [add64_run, show ((x : Int) + y + 0) % 18446744073709551616 = (n : Int) by omega, show ((x : Int) + y + 0) / 18446744073709551616 = 0 by omega]
theorem oadd_ok {x y n : Nat} (hn : x + y = n) (h : n < 18446744073709551616) {w : World} :
  Calls Tryz.prog 166 #[.int .u64 (x : Int), .int .u64 (y : Int)] w fun e w' => e = .returned (.tuple #[.int .u64 (n : Int), .int .i64 0]) ∧ w = w' := by
 have hr := add64_ok hn h w
 clear hn h
 go_enter Tryz.func166, Tryz.ntmps166
 go_wp2_with fail
 go_ret2
 exact ⟨rfl, rfl⟩
theorem rd_cap {w : World} {a : Option Addr} {n c size : Nat} {xs : List Value} (h : Reads w size (.slice a n c) n xs) : n ≤ c ∧ c ≤ maxLen := by
 obtain ⟨hl, ⟨e1, e2⟩ | ⟨x, cap, e1, h1, h2, h3⟩⟩ := h
 ·cases e1; exact ⟨Nat.le_refl _, Nat.zero_le _⟩
 ·cases e1; exact ⟨h1, h2⟩
theorem rd_sub {w : World} {x : Addr} {n c : Nat} {xs : List Value} (h : Reads w 1 (.slice (some x) n c) n xs) {i j : Nat} (hi : i ≤ j) (hj : j ≤ n) : Reads w 1 (.slice (some (x.add i)) (j - i) (c - i)) (j - i) ((xs.drop i).take (j - i)) := by
 obtain ⟨hl, ⟨h0, _⟩ | ⟨x, c, h1, h2, h3, h4⟩⟩ := h
 ·cases h0
 ·cases h1
  refine ⟨by rw [List.length_take, List.length_drop, hl]; omega, .inr ⟨_, _, rfl, by omega, by omega, fun k u hu => ?_⟩⟩
  rw [List.getElem?_take] at hu
  split at hu
  ·rw [List.getElem?_drop] at hu
   rw [Addr.add_add]
   exact h4 _ _ hu
  ·cases hu
theorem rd_nil (w : World) (a : Option Addr) : Reads w 1 (.slice a 0 0) 0 [] := by
 refine ⟨rfl, ?_⟩
 cases a with
 | none => exact .inl ⟨rfl, rfl⟩
 | some x => exact .inr ⟨x, 0, rfl, Nat.le_refl _, Nat.zero_le _, fun j u hu => by simp at hu⟩
theorem rd_some {w : World} {a : Option Addr} {n c size : Nat} {xs : List Value} (h : Reads w size (.slice a n c) n xs) (hc : 0 < c) : ∃ x, a = some x := by
 obtain ⟨hl, ⟨e1, e2⟩ | ⟨x, cap, e1, h1, h2, h3⟩⟩ := h
 ·cases e1; omega
 ·cases e1; exact ⟨_, rfl⟩
theorem window_ok {w0 w : World} {F : SProp} (h : St w0 w F) {bs : List UInt8} {v : Value} (hv : Stb w0 F (fun w => Reads w 1 v bs.length (bs.map bv))) {p n : Nat} (hn : p + n ≤ bs.length) (hl : bs.length ≤ 1000000000) :
  Calls Tryz.prog 128 #[v, .int .u64 (p : Int), .int .u64 (n : Int)] w fun e w' => ∃ v', e = .returned (.tuple #[v', .int .i64 0]) ∧ St w0 w' (own 5 1 v' n (((bs.drop p).take n).map bv) * F) := by
 obtain ⟨ab, cb, rfl⟩ := (hv w h).sub
 have hm := (hv w h).len_le
 obtain ⟨hcap, hcap2⟩ := rd_cap (hv w h)
 unfold maxLen at hm hcap2
 have H := Lib.hid h; have HV := Lib.hid hv
 obtain ⟨L, hL⟩ : ∃ L, bs.length = L := ⟨_, rfl⟩
 rw [hL] at HV hn hm hcap hl
 simp only [hL]
 obtain ⟨q, hq⟩ : ∃ q, p + n = q := ⟨_, rfl⟩
 have HA := Lib.hid (oadd_ok hq (w := w) (by omega))
 have hqL : (q : Int) ≤ L := by omega
 have hpq : (p : Int) ≤ q := by omega
 have hpq2 : p ≤ q := by omega
 have hqL2 : q ≤ L := by omega
 have hqm : n ≤ 1000000000 := by omega
 have HL := Lib.hid hL; have HQ := Lib.hid hq
 clear h hv hL hq hn
 have T := elemBytes
 have hT : ((bs.map bv).drop p).take (q - p) = ((bs.drop p).take n).map bv := by rw [← HQ.out, Nat.add_sub_cancel_left, ← List.map_drop, ← List.map_take]
 have HT := Lib.hid hT
 clear hT
 by_cases hcp : cb = p
 ·subst hcp
  have hq0 : q = cb := by omega
  go_enter Tryz.func128, Tryz.ntmps128
  go_wp2_with (first | (go_at_call 166; refine HA.out.mono ?_; rintro e w1 ⟨rfl, rfl⟩) | (at_builtin; apply stop))
  obtain rfl : n = 0 := by have := HQ.out; omega
  refine on (wpList_append_sep T rfl _ _ rfl rfl (St.own_blk (e := 5) (size := 1) (n := 0) (cap := 0) (xs := []) (H.out.alloc (.cells #[] 5)) (Nat.le_refl _) (Nat.zero_le _) rfl rfl) rfl (rd_nil _ ab) (by simp) (by decide) (by decide) ?_)
  intro v4 w4 h4 _
  rw [List.nil_append, Nat.zero_add] at h4
  have H4 := Lib.hid h4
  clear h4
  go_wp2_with fail
  go_ret2
  exact ⟨v4, rfl, H4.out⟩
 ·obtain ⟨x, rfl⟩ := rd_some (HV.out _ H.out) (by omega)
  go_enter Tryz.func128, Tryz.ntmps128
  go_wp2_with (first | (go_at_call 166; refine HA.out.mono ?_; rintro e w1 ⟨rfl, rfl⟩) | (at_builtin; apply stop))
  have hrd := rd_sub (HV.out _ (H.out.drop_alloc (.cells #[] 5))) hpq2 hqL2
  rw [HT.out, show q - p = n by have := HQ.out; omega] at hrd
  have hqp : q - p = n := by have := HQ.out; omega
  refine on (wpList_append_sep T rfl _ _ rfl rfl (St.own_blk (e := 5) (size := 1) (n := 0) (cap := 0) (xs := []) (H.out.alloc (.cells #[] 5)) (Nat.le_refl _) (Nat.zero_le _) rfl rfl) (by simp [Act.eval, hqp]) hrd (bv_oneCell _) (by unfold maxLen; omega) (by omega) ?_)
  intro v4 w4 h4 _
  rw [List.nil_append, Nat.zero_add] at h4
  have H4 := Lib.hid h4
  clear h4 hqp
  go_wp2_with fail
  go_ret2
  exact ⟨v4, rfl, H4.out⟩
def numH (bs : List UInt8) : Nat := bs.foldl (fun n c => n * 256 + c.toNat) 0
def numO (big : Bool) (bs : List UInt8) : Nat := numH (cond big bs bs.reverse)
theorem numH_snoc (bs : List UInt8) (c : UInt8) : numH (bs ++ [c]) = numH bs * 256 + c.toNat := by simp [numH, List.foldl_append]
theorem numH_lt (bs : List UInt8) : numH bs < 256 ^ bs.length := by
 have key : ∀ l : List UInt8, numH l.reverse < 256 ^ l.length := by
  intro l
  induction l with
  | nil => decide
  | cons c l ih =>
   have := UInt8.toNat_lt c
   rw [List.reverse_cons, numH_snoc, List.length_cons, Nat.pow_succ]
   omega
 have := key bs.reverse
 rwa [List.reverse_reverse, List.length_reverse] at this
def okW (n : Nat) : Prop := n = 1 ∨ n = 2 ∨ n = 4 ∨ n = 8
theorem sized_any {w : World} {n : Nat} (h : okW n) : Calls Tryz.prog 127 #[.int .i64 (n : Int)] w fun e w' => e = .returned (.bool true) ∧ w = w' := by
 rcases h with rfl | rfl | rfl | rfl
 all_goals
  go_enter Tryz.func127, Tryz.ntmps127
  go_wp2_with fail
  go_ret
  exact ⟨rfl, rfl⟩
theorem u64_or_nat (a b : Nat) (ha : a < 18446744073709551616) (hb : b < 18446744073709551616) : bits .or .u64 (a : Int) (b : Int) = ((a ||| b : Nat) : Int) := by
 have hx : a ||| b < 2 ^ 64 := Nat.or_lt_two_pow (by omega) (by omega)
 show IntKind.u64.wrap ((BitVec.ofInt 64 (a : Int) ||| BitVec.ofInt 64 (b : Int)).toNat : Int) = _
 rw [BitVec.toNat_or, ofInt_u64 a (by omega), ofInt_u64 b (by omega)]
 exact IntWalk.u64_in _ (by omega)
theorem u64_or_byte {x c : Nat} (hx : x * 256 < 18446744073709551616) (hc : c < 256) : bits .or .u64 ((x : Int) * 256) (c : Int) = ((x * 256 + c : Nat) : Int) := by
 have e : (x : Int) * 256 = ((x * 256 : Nat) : Int) := by omega
 rw [e, u64_or_nat _ _ hx (by omega)]
 congr 1
 exact nat_join 8 (x * 256) c (by omega) (by omega)
theorem get_ok {w0 w : World} {F : SProp} (h : St w0 w F) {bs : List UInt8} {v : Value} (hv : Stb w0 F (fun w => Reads w 1 v bs.length (bs.map bv))) {p n : Nat} (hn : p + n ≤ bs.length) (hl : bs.length ≤ 1000000000) (hw : okW n) (big : Bool) :
  Calls Tryz.prog 79 #[v, .int .u64 (p : Int), .int .i64 (n : Int), .bool big] w fun e w' => e = .returned (.tuple #[.int .u64 (numO big ((bs.drop p).take n) : Nat), .int .i64 0]) ∧ St w0 w' F := by
 have HW := Lib.hid (window_ok h hv hn hl)
 have HS := Lib.hid (sized_any (w := w) hw)
 have hn8 : n ≤ 8 := by rcases hw with rfl | rfl | rfl | rfl <;> omega
 generalize hcs : (bs.drop p).take n = cs at *
 have hcl : cs.length = n := by rw [← hcs, List.length_take, List.length_drop]; omega
 have HCL := Lib.hid hcl
 clear h hv hn hw hcs hcl
 go_enter Tryz.func79, Tryz.ntmps79
 go_wp2_with (first | (go_at_call 127; refine HS.out.mono ?_; rintro e w1 ⟨rfl, rfl⟩) | (go_at_call 128; refine HW.out.mono ?_; rintro e w2 ⟨v2, rfl, h2⟩; have H2 := Lib.hid h2; obtain ⟨a2, c2, rfl⟩ := h2.reads.sub; clear h2))
 obtain ⟨ds, hds⟩ : ∃ ds, cond big cs cs.reverse = ds := ⟨_, rfl⟩
 have hdl : ds.length = n := by rw [← hds]; cases big <;> simp [HCL.out]
 have HDL := Lib.hid hdl; have HDS := Lib.hid hds
 clear hdl hds
 go_loopw [12, 31] (fun vn vi wr => ∃ k : Nat, k ≤ n ∧ vi = .int .i64 k ∧ vn = .int .u64 (numH (ds.take k) : Nat) ∧ ∃ m, wr = w2.drewN m) (fun _ vi _ => n - (intOf vi).toNat)
 case atStart => exact ⟨0, by omega, rfl, rfl, 0, by rw [World.drewN_zero]⟩
 case round =>
  obtain ⟨k, hk, rfl, rfl, m, rfl⟩ := hrel
  by_cases hkn : k < n
  ·have hkI : (k : Int) < n := by omega
   obtain ⟨g, rfl⟩ := own_at H2.out (by omega)
   obtain ⟨j, hj⟩ : ∃ j, n - 1 - k = j := ⟨_, rfl⟩
   have hjn : j < n := by omega
   have hjI : (n : Int) - 1 - (k : Int) = (j : Int) := by omega
   have hjl : (j : Int) < n := by omega
   obtain ⟨x, hx⟩ : ∃ x, (cs.getD k 0).toNat = x := ⟨_, rfl⟩
   obtain ⟨y, hy⟩ : ∃ y, (cs.getD j 0).toNat = y := ⟨_, rfl⟩
   have hc1 := (H2.out.drewN m).own_cell (i := k) (u := .int .u8 (x : Int)) (by rw [List.getElem?_map, ← hx, List.getD_eq_getElem?_getD, List.getElem?_eq_getElem (by rw [HCL.out]; exact hkn)]; rfl)
   have hc2 := (H2.out.drewN m).own_cell (i := j) (u := .int .u8 (y : Int)) (by rw [List.getElem?_map, ← hy, List.getD_eq_getElem?_getD, List.getElem?_eq_getElem (by rw [HCL.out]; exact hjn)]; rfl)
   have hx8 : x < 256 := by rw [← hx]; exact UInt8.toNat_lt _
   have hy8 : y < 256 := by rw [← hy]; exact UInt8.toNat_lt _
   have hnum : numH (ds.take (k + 1)) = numH (ds.take k) * 256 + cond big x y := by
    have hkd : k < ds.length := by rw [HDL.out]; exact hkn
    rw [List.take_succ_eq_append_getElem hkd, numH_snoc]
    congr 1
    cases big
    ·have hds := HDS.out
     simp only [cond] at hds
     subst hds
     simp only [cond]
     rw [List.getElem_reverse, ← hy, List.getD_eq_getElem?_getD, List.getElem?_eq_getElem (by rw [HCL.out]; exact hjn)]
     simp only [Option.getD_some]
     congr 2
     rw [HCL.out]; exact hj
    ·have hds := HDS.out
     simp only [cond] at hds
     subst hds
     simp only [cond]
     rw [← hx, List.getD_eq_getElem?_getD, List.getElem?_eq_getElem (by rw [HCL.out]; exact hkn)]
     rfl
   have hlt : numH (ds.take k) * 256 < 18446744073709551616 := by
    have h1 := numH_lt (ds.take k)
    rw [List.length_take, HDL.out] at h1
    have h2 : 256 ^ (min k n) ≤ 256 ^ 7 := Nat.pow_le_pow_right (by decide) (by omega)
    omega
   have HNUM := Lib.hid hnum
   generalize numH (ds.take k) = nk at *
   have HO1 := Lib.hid (u64_or_byte hlt hx8)
   have HO2 := Lib.hid (u64_or_byte hlt hy8)
   clear hnum hj hx hy
   cases big
   ·go_wp2_with fail
    exact ⟨⟨k + 1, by omega, by go_num, congrArg (Value.int .u64) (by rw [HNUM.out, HO2.out]; rfl), m, rfl⟩, by simp [intOf]; omega⟩
   ·go_wp2_with fail
    exact ⟨⟨k + 1, by omega, by go_num, congrArg (Value.int .u64) (by rw [HNUM.out, HO1.out]; rfl), m, rfl⟩, by simp [intOf]; omega⟩
  ·obtain rfl : n = k := by omega
   have hkI : ¬ ((n : Int) < n) := by omega
   have HNO := Lib.hid (show numH (ds.take n) = numO big cs by rw [List.take_of_length_le (by rw [HDL.out]; exact Nat.le_refl _), ← HDS.out]; rfl)
   generalize numH (ds.take n) = nk at *
   go_wp2_with fail
   go_ret2
   refine ⟨?_, (H2.out.drewN m).right⟩
   rw [← HNO.out]; rfl
def bytesL (v : Nat) : Nat → List UInt8
 | 0 => []
 | n + 1 => bytesL v n ++ [UInt8.ofNat (v / 256 ^ n % 256)]
def bytesO (big : Bool) (v n : Nat) : List UInt8 := cond big (bytesL v n).reverse (bytesL v n)
@[simp] theorem length_bytesL (v n : Nat) : (bytesL v n).length = n := by induction n with
 | zero => rfl
 | succ n ih => simp [bytesL, ih]
theorem length_bytesO (big : Bool) (v n : Nat) : (bytesO big v n).length = n := by cases big <;> simp [bytesO]
theorem bv_of (x : Nat) : Value.int .u8 ((x % 256 : Nat) : Int) = bv (UInt8.ofNat (x % 256)) := by
 unfold bv; rw [UInt8.toNat_ofNat']; congr 1; omega
theorem putL_set (v n k : Nat) (h : k < n) : (((bytesL v k ++ List.replicate (n - k) 0).map bv).set k (.int .u8 ((v / 256 ^ k % 256 : Nat) : Int))) = (bytesL v (k + 1) ++ List.replicate (n - (k + 1)) 0).map bv := by
 rw [bv_of, ← List.map_set, List.set_append_right _ _ (by simp), length_bytesL, Nat.sub_self]
 obtain ⟨m, hm⟩ : ∃ m, n - k = m + 1 := ⟨n - k - 1, by omega⟩
 rw [hm, show n - (k + 1) = m by omega, List.replicate_succ, List.set_cons_zero, bytesL, List.append_assoc]
 rfl
theorem putH_set (v n k : Nat) (h : k < n) : (((List.replicate (n - k) 0 ++ (bytesL v k).reverse).map bv).set (n - 1 - k) (.int .u8 ((v / 256 ^ k % 256 : Nat) : Int))) = (List.replicate (n - (k + 1)) 0 ++ (bytesL v (k + 1)).reverse).map bv := by
 obtain ⟨m, hm⟩ : ∃ m, n - k = m + 1 := ⟨n - k - 1, by omega⟩
 rw [bv_of, ← List.map_set, hm, show n - (k + 1) = m by omega, show n - 1 - k = m by omega, List.replicate_succ', List.append_assoc, List.set_append_right _ _ (by simp), List.length_replicate, Nat.sub_self, bytesL, List.reverse_append]
 rfl
theorem shr8 (v k : Nat) : (v : Int) / 2 ^ (8 * k) = ((v / 256 ^ k : Nat) : Int) := by rw [Int.pow_mul]; simp
set_option maxHeartbeats 4000000 in
theorem put_ok {w0 w : World} {F : SProp} (h : St w0 w F) {v n : Nat} (hw : okW n) (hv : v < 256 ^ n) (big : Bool) :
  Calls Tryz.prog 83 #[.int .u64 (v : Int), .int .i64 (n : Int), .bool big] w fun e w' => ∃ v', e = .returned (.tuple #[v', .int .i64 0]) ∧ St w0 w' (own 5 1 v' n ((bytesO big v n).map bv) * F) := by
 have HS := Lib.hid (sized_any (w := w) hw)
 have hn8 : 1 ≤ n ∧ n ≤ 8 := by rcases hw with rfl | rfl | rfl | rfl <;> omega
 have H := Lib.hid h
 have hv8 : v < 18446744073709551616 := Nat.lt_of_lt_of_le hv (show 256 ^ n ≤ 256 ^ 8 from Nat.pow_le_pow_right (by decide) hn8.2)
 have hz : ((v : Int) / 2 ^ (8 * n) != 0) = false := by rw [shr8, Nat.div_eq_of_lt hv]; rfl
 obtain ⟨n1, n8⟩ := hn8
 clear h hv hw
 have T := elemBytes
 have key : ∀ (w1 : World) (v2 : Value), St w0 w1 (own 5 1 v2 n (madeCells (Value.int .u8 0).cells (n * 1)).toList * F) → St w0 w1 (own 5 1 v2 n ((List.replicate n 0).map bv) * F) := by
  intro w1 v2 h
  have e : (madeCells (Value.int .u8 0).cells (n * 1)).toList = (List.replicate n 0).map bv := by rw [Nat.mul_one]; simp [Value.cells, toList_madeCells_one, bv]
  rwa [e] at h
 have KEY := Lib.hid key
 clear key
 by_cases h8 : n < 8
 ·have h8I : (n : Int) < 8 := by omega
  go_enter Tryz.func83, Tryz.ntmps83
  go_wp2_with (first | (go_at_call 127; refine HS.out.mono ?_; rintro e w1 ⟨rfl, rfl⟩) | (at_make; apply stop))
  refine on (wpList_make_sep T rfl _ _ rfl n rfl rfl rfl rfl H.out (by unfold maxLen; omega) (by omega) ?_)
  intro v2 w2 h2
  have h2 := KEY.out _ _ h2
  obtain ⟨a2, c2, rfl⟩ := h2.reads.sub
  have H2 := Lib.hid h2
  clear h2 H
  go_wp2_with fail
  cases big
  ·go_loopw [27] (fun vi wr => ∃ k : Nat, k ≤ n ∧ vi = .int .i64 k ∧ St w0 wr (own 5 1 (.slice a2 n c2) n ((bytesL v k ++ List.replicate (n - k) 0).map bv) * F)) (fun vi _ => n - (intOf vi).toNat)
   case atStart => exact ⟨0, by omega, rfl, by rw [show bytesL v 0 ++ List.replicate (n - 0) 0 = List.replicate n 0 by rfl]; exact H2.out⟩
   case round =>
    clear H2
    obtain ⟨k, hk, rfl, hst⟩ := hrel
    by_cases hkn : k < n
    ·have hkI : (k : Int) < n := by omega
     obtain ⟨g, rfl⟩ := own_at hst (by omega)
     obtain ⟨j, hj⟩ : ∃ j, n - 1 - k = j := ⟨_, rfl⟩
     have hjn : j < n := by omega
     have hjI : (n : Int) - 1 - (k : Int) = (j : Int) := by omega
     have hjl : (j : Int) < n := by omega
     have hfz := hst.own_free k
     have hcc := hst.own_cell (i := k) (u := .int .u8 0) (by rw [List.getElem?_map, List.getElem?_append_right (by simp), length_bytesL, Nat.sub_self, List.getElem?_replicate, if_pos (by omega)]; rfl)
     have hst2 := hst.own_set k (.int .u8 ((v / 256 ^ k % 256 : Nat) : Int))
     have hps := putL_set v n k hkn
     skip
     rw [hps] at hst2
     have hpow : (v : Int) / 2 ^ (8 * k) % 256 = ((v / 256 ^ k % 256 : Nat) : Int) := by rw [shr8]; omega
     generalize v / 256 ^ k % 256 = z at *
     have HST := Lib.hid hst2
     clear hst hst2 hps hj
     go_wp2_with fail
     exact ⟨⟨k + 1, by omega, by go_num, HST.out⟩, by simp [intOf]; omega⟩
    ·obtain rfl : n = k := by omega
     have hkI : ¬ ((n : Int) < n) := by omega
     rw [Nat.sub_self] at hst
     have HST := Lib.hid hst
     clear hst
     go_wp2_with fail
     go_ret2
     exact ⟨_, rfl, by simpa [bytesO] using HST.out⟩
  ·go_loopw [27] (fun vi wr => ∃ k : Nat, k ≤ n ∧ vi = .int .i64 k ∧ St w0 wr (own 5 1 (.slice a2 n c2) n ((List.replicate (n - k) 0 ++ (bytesL v k).reverse).map bv) * F)) (fun vi _ => n - (intOf vi).toNat)
   case atStart => exact ⟨0, by omega, rfl, by rw [show List.replicate (n - 0) 0 ++ (bytesL v 0).reverse = List.replicate n 0 by simp [bytesL]]; exact H2.out⟩
   case round =>
    clear H2
    obtain ⟨k, hk, rfl, hst⟩ := hrel
    by_cases hkn : k < n
    ·have hkI : (k : Int) < n := by omega
     obtain ⟨g, rfl⟩ := own_at hst (by omega)
     obtain ⟨j, hj⟩ : ∃ j, n - 1 - k = j := ⟨_, rfl⟩
     have hjn : j < n := by omega
     have hjI : (n : Int) - 1 - (k : Int) = (j : Int) := by omega
     have hjl : (j : Int) < n := by omega
     have hfz := hst.own_free j
     have hcc := hst.own_cell (i := j) (u := .int .u8 0) (by rw [List.getElem?_map, List.getElem?_append_left (by simp; omega), List.getElem?_replicate, if_pos (by omega)]; rfl)
     have hst2 := hst.own_set j (.int .u8 ((v / 256 ^ k % 256 : Nat) : Int))
     have hps := putH_set v n k hkn
     rw [hj] at hps
     rw [hps] at hst2
     have hpow : (v : Int) / 2 ^ (8 * k) % 256 = ((v / 256 ^ k % 256 : Nat) : Int) := by rw [shr8]; omega
     generalize v / 256 ^ k % 256 = z at *
     have HST := Lib.hid hst2
     clear hst hst2 hps hj
     go_wp2_with fail
     exact ⟨⟨k + 1, by omega, by go_num, HST.out⟩, by simp [intOf]; omega⟩
    ·obtain rfl : n = k := by omega
     have hkI : ¬ ((n : Int) < n) := by omega
     rw [Nat.sub_self] at hst
     have HST := Lib.hid hst
     clear hst
     go_wp2_with fail
     go_ret2
     exact ⟨_, rfl, by simpa [bytesO] using HST.out⟩
 ·have h8I : ¬ (n : Int) < 8 := by omega
  go_enter Tryz.func83, Tryz.ntmps83
  go_wp2_with (first | (go_at_call 127; refine HS.out.mono ?_; rintro e w1 ⟨rfl, rfl⟩) | (at_make; apply stop))
  refine on (wpList_make_sep T rfl _ _ rfl n rfl rfl rfl rfl H.out (by unfold maxLen; omega) (by omega) ?_)
  intro v2 w2 h2
  have h2 := KEY.out _ _ h2
  obtain ⟨a2, c2, rfl⟩ := h2.reads.sub
  have H2 := Lib.hid h2
  clear h2 H
  go_wp2_with fail
  cases big
  ·go_loopw [27] (fun vi wr => ∃ k : Nat, k ≤ n ∧ vi = .int .i64 k ∧ St w0 wr (own 5 1 (.slice a2 n c2) n ((bytesL v k ++ List.replicate (n - k) 0).map bv) * F)) (fun vi _ => n - (intOf vi).toNat)
   case atStart => exact ⟨0, by omega, rfl, by rw [show bytesL v 0 ++ List.replicate (n - 0) 0 = List.replicate n 0 by rfl]; exact H2.out⟩
   case round =>
    clear H2
    obtain ⟨k, hk, rfl, hst⟩ := hrel
    by_cases hkn : k < n
    ·have hkI : (k : Int) < n := by omega
     obtain ⟨g, rfl⟩ := own_at hst (by omega)
     obtain ⟨j, hj⟩ : ∃ j, n - 1 - k = j := ⟨_, rfl⟩
     have hjn : j < n := by omega
     have hjI : (n : Int) - 1 - (k : Int) = (j : Int) := by omega
     have hjl : (j : Int) < n := by omega
     have hfz := hst.own_free k
     have hcc := hst.own_cell (i := k) (u := .int .u8 0) (by rw [List.getElem?_map, List.getElem?_append_right (by simp), length_bytesL, Nat.sub_self, List.getElem?_replicate, if_pos (by omega)]; rfl)
     have hst2 := hst.own_set k (.int .u8 ((v / 256 ^ k % 256 : Nat) : Int))
     have hps := putL_set v n k hkn
     skip
     rw [hps] at hst2
     have hpow : (v : Int) / 2 ^ (8 * k) % 256 = ((v / 256 ^ k % 256 : Nat) : Int) := by rw [shr8]; omega
     generalize v / 256 ^ k % 256 = z at *
     have HST := Lib.hid hst2
     clear hst hst2 hps hj
     go_wp2_with fail
     exact ⟨⟨k + 1, by omega, by go_num, HST.out⟩, by simp [intOf]; omega⟩
    ·obtain rfl : n = k := by omega
     have hkI : ¬ ((n : Int) < n) := by omega
     rw [Nat.sub_self] at hst
     have HST := Lib.hid hst
     clear hst
     go_wp2_with fail
     go_ret2
     exact ⟨_, rfl, by simpa [bytesO] using HST.out⟩
  ·go_loopw [27] (fun vi wr => ∃ k : Nat, k ≤ n ∧ vi = .int .i64 k ∧ St w0 wr (own 5 1 (.slice a2 n c2) n ((List.replicate (n - k) 0 ++ (bytesL v k).reverse).map bv) * F)) (fun vi _ => n - (intOf vi).toNat)
   case atStart => exact ⟨0, by omega, rfl, by rw [show List.replicate (n - 0) 0 ++ (bytesL v 0).reverse = List.replicate n 0 by simp [bytesL]]; exact H2.out⟩
   case round =>
    clear H2
    obtain ⟨k, hk, rfl, hst⟩ := hrel
    by_cases hkn : k < n
    ·have hkI : (k : Int) < n := by omega
     obtain ⟨g, rfl⟩ := own_at hst (by omega)
     obtain ⟨j, hj⟩ : ∃ j, n - 1 - k = j := ⟨_, rfl⟩
     have hjn : j < n := by omega
     have hjI : (n : Int) - 1 - (k : Int) = (j : Int) := by omega
     have hjl : (j : Int) < n := by omega
     have hfz := hst.own_free j
     have hcc := hst.own_cell (i := j) (u := .int .u8 0) (by rw [List.getElem?_map, List.getElem?_append_left (by simp; omega), List.getElem?_replicate, if_pos (by omega)]; rfl)
     have hst2 := hst.own_set j (.int .u8 ((v / 256 ^ k % 256 : Nat) : Int))
     have hps := putH_set v n k hkn
     rw [hj] at hps
     rw [hps] at hst2
     have hpow : (v : Int) / 2 ^ (8 * k) % 256 = ((v / 256 ^ k % 256 : Nat) : Int) := by rw [shr8]; omega
     generalize v / 256 ^ k % 256 = z at *
     have HST := Lib.hid hst2
     clear hst hst2 hps hj
     go_wp2_with fail
     exact ⟨⟨k + 1, by omega, by go_num, HST.out⟩, by simp [intOf]; omega⟩
    ·obtain rfl : n = k := by omega
     have hkI : ¬ ((n : Int) < n) := by omega
     rw [Nat.sub_self] at hst
     have HST := Lib.hid hst
     clear hst
     go_wp2_with fail
     go_ret2
     exact ⟨_, rfl, by simpa [bytesO] using HST.out⟩
theorem put_over {w0 w : World} {F : SProp} (h : St w0 w F) {v n : Nat} (hw : okW n) (hv : 256 ^ n ≤ v) (hv8 : v < 18446744073709551616) (big : Bool) :
  Calls Tryz.prog 83 #[.int .u64 (v : Int), .int .i64 (n : Int), .bool big] w fun e w' => e = .returned (.tuple #[.slice none 0 0, .int .i64 7]) ∧ St w0 w' F := by
 have HS := Lib.hid (sized_any (w := w) hw)
 have hn8 : 1 ≤ n ∧ n < 8 := by rcases hw with rfl | rfl | rfl | rfl <;> omega
 have H := Lib.hid h
 have hz : ((v : Int) / 2 ^ (8 * n) != 0) = true := by
  rw [shr8]
  have : 0 < v / 256 ^ n := Nat.div_pos hv (Nat.pow_pos (by decide))
  obtain ⟨q, hq⟩ : ∃ q, v / 256 ^ n = q := ⟨_, rfl⟩
  rw [hq] at this ⊢
  simp; omega
 obtain ⟨n1, n8⟩ := hn8
 have h8I : (n : Int) < 8 := by omega
 clear h hv hw
 go_enter Tryz.func83, Tryz.ntmps83
 go_wp2_with (first | (go_at_call 127; refine HS.out.mono ?_; rintro e w1 ⟨rfl, rfl⟩))
 go_ret2
 exact ⟨rfl, H.out⟩
end Go.Proofs.YtboflbdniogcdaaGreatDoor
namespace Go.Proofs.YtboflbdniogcdaaGreatDoor
open Go.RowKit Go.Mz
set_option linter.unusedVariables false
set_option linter.unusedSimpArgs false
set_option maxRecDepth 100000
def adStep (s : Nat × Nat) (c : UInt8) : Nat × Nat := ((s.1 + c.toNat) % 65521, (s.2 + (s.1 + c.toNat) % 65521) % 65521)
def adF (l : List UInt8) : Nat × Nat := l.foldl adStep (1, 0)
def adlerN (l : List UInt8) : Nat := (adF l).2 * 65536 + (adF l).1
theorem adF_snoc (l : List UInt8) (c : UInt8) : adF (l ++ [c]) = adStep (adF l) c := by simp [adF, List.foldl_append]
theorem adF_lt (l : List UInt8) : (adF l).1 < 65521 ∧ (adF l).2 < 65521 := by
 have key : ∀ l : List UInt8, (adF l.reverse).1 < 65521 ∧ (adF l.reverse).2 < 65521 := by
  intro l
  cases l with
  | nil => decide
  | cons c l =>
   rw [List.reverse_cons, adF_snoc]
   exact ⟨Nat.mod_lt _ (by decide), Nat.mod_lt _ (by decide)⟩
 have := key l.reverse
 rwa [List.reverse_reverse] at this
theorem adlerN_lt (l : List UInt8) : adlerN l < 4294967296 := by
 have := adF_lt l
 unfold adlerN; omega
theorem u32_join {a b : Nat} (ha : a < 65536) (hb : b < 65536) : bits .or .u32 ((a : Int) * 65536) (b : Int) = ((a * 65536 + b : Nat) : Int) := by
 have e : (a : Int) * 65536 = ((a * 65536 : Nat) : Int) := by omega
 rw [e, u32_or_nat _ _ (by omega) (by omega)]
 congr 1
 exact nat_join 16 (a * 65536) b (by omega) (by omega)
set_option maxHeartbeats 4000000 in
theorem adler_any {w0 w : World} {F : SProp} (h : St w0 w F) {bs : List UInt8} {v : Value} (hv : Stb w0 F (fun w => Reads w 1 v bs.length (bs.map bv))) :
  Calls Tryz.prog 136 #[.int .u32 1, v] w fun e w' => e = .returned (.int .u32 (adlerN bs : Nat)) ∧ St w0 w' F := by
 obtain ⟨ab, cb, rfl⟩ := (hv w h).sub
 have hm := (hv w h).len_le
 unfold maxLen at hm
 have H := Lib.hid h; have HV := Lib.hid hv
 obtain ⟨L, hL⟩ : ∃ L, bs.length = L := ⟨_, rfl⟩
 rw [hL] at HV hm
 simp only [hL]
 have HL := Lib.hid hL
 have hc1 : bits .and .u32 1 65535 = 1 := by decide
 clear h hv hL
 go_enter Tryz.func136, Tryz.ntmps136
 go_wp2_with fail
 go_loopw [5, 6, 19] (fun vl vh vi wr => ∃ k : Nat, k ≤ L ∧ vi = .int .i64 k ∧ vl = .int .u64 ((adF (bs.take k)).1 : Nat) ∧ vh = .int .u64 ((adF (bs.take k)).2 : Nat) ∧ wr = w) (fun _ _ vi _ => L - (intOf vi).toNat)
 case atStart => exact ⟨0, by omega, rfl, rfl, rfl, rfl⟩
 case round =>
  obtain ⟨k, hk, rfl, rfl, rfl, rfl⟩ := hrel
  by_cases hkL : k < L
  ·have hkI : (k : Int) < L := by omega
   obtain ⟨b, off, rfl, hc⟩ := (HV.out _ H.out).at_ hkL
   rw [List.getElem?_map, List.getElem?_eq_getElem (by rw [HL.out]; exact hkL)] at hc
   replace hc : _ = some (Value.int .u8 ((bs[k]'(by rw [HL.out]; exact hkL)).toNat : Int)) := hc
   have hx8 := UInt8.toNat_lt (bs[k]'(by rw [HL.out]; exact hkL))
   have hsn := adF_snoc (bs.take k) (bs[k]'(by rw [HL.out]; exact hkL))
   rw [← List.take_succ_eq_append_getElem] at hsn
   unfold adStep at hsn
   obtain ⟨h1, h2⟩ := adF_lt (bs.take k)
   generalize (bs[k]'(by rw [HL.out]; exact hkL)).toNat = x at *
   have HSN := Lib.hid hsn
   clear hsn
   generalize (adF (bs.take k)).1 = lo at *
   generalize (adF (bs.take k)).2 = hi at *
   go_wp2_with fail
   refine ⟨⟨k + 1, by omega, by go_num, congrArg (Value.int .u64) ?_, congrArg (Value.int .u64) ?_, trivial⟩, by simp [intOf]; omega⟩
   ·rw [HSN.out]; simp only; omega
   ·rw [HSN.out]; simp only; omega
  ·obtain rfl : L = k := by omega
   have hkI : ¬ ((L : Int) < L) := by omega
   rw [List.take_of_length_le (by rw [HL.out]; exact Nat.le_refl _)]
   obtain ⟨h1, h2⟩ := adF_lt bs
   have hN := Lib.hid (show adlerN bs = (adF bs).2 * 65536 + (adF bs).1 from rfl)
   generalize (adF bs).1 = lo at *
   generalize (adF bs).2 = hi at *
   have hj := u32_join (a := hi) (b := lo) (by omega) (by omega)
   have HJ := Lib.hid hj
   clear hj
   go_wp2_with fail
   go_ret
   refine ⟨?_, H.out⟩
   rw [hN.out, ← HJ.out]
   rfl
theorem sum_any {w0 w : World} {F : SProp} (h : St w0 w F) {bs : List UInt8} {v : Value} (hv : Stb w0 F (fun w => Reads w 1 v bs.length (bs.map bv))) :
  Calls Tryz.prog 90 #[v] w fun e w' => e = .returned (.int .u32 (adlerN bs : Nat)) ∧ St w0 w' F := by
 have HA := Lib.hid (adler_any h hv)
 clear h hv
 go_enter Tryz.func90, Tryz.ntmps90
 go_wp2_with fail
 refine HA.out.mono ?_
 rintro e w1 ⟨rfl, h1⟩
 have H1 := Lib.hid h1
 clear h1
 go_wp2_with fail
 go_ret
 exact ⟨rfl, H1.out⟩
end Go.Proofs.YtboflbdniogcdaaGreatDoor
