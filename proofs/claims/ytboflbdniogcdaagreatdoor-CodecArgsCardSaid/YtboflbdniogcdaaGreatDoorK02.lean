/-
  Parts of a proof.
-/
import Derived.Test.YtboflbdniogcdaaGreatDoorChecked
import Derived.Test.YtboflbdniogcdaaGreatDoorK01
namespace Go.Proofs.YtboflbdniogcdaaGreatDoor
open Go.RowKit Go.Mz
set_option linter.unusedVariables false
structure RdrAt (w : World) (B : Nat) (bs : List UInt8) (p : Nat) (low : Bool) : Prop where
 sl : ∃ v, w.cell? ⟨B, 0, none⟩ = some v ∧ Reads w 1 v bs.length (bs.map bv)
 at_ : w.cell? ⟨B, 1, none⟩ = some (.int .i64 (p : Int))
 low : w.cell? ⟨B, 2, none⟩ = some (.bool low)
 len : bs.length ≤ 1000000000000000
 le : p ≤ 8 * bs.length
theorem RdrAt.len_cell {w : World} {B : Nat} {bs : List UInt8} {p : Nat} {low : Bool} (h : RdrAt w B bs p low) : ∃ a cap, w.cell? ⟨B, 0, none⟩ = some (.slice a bs.length cap) := by
 obtain ⟨v, hv, hr⟩ := h.sl
 obtain ⟨a, cap, rfl⟩ := hr.sub
 exact ⟨a, cap, hv⟩
theorem RdrAt.byte {w : World} {B : Nat} {bs : List UInt8} {p : Nat} {low : Bool} (h : RdrAt w B bs p low) {i : Nat} (hi : i < bs.length) :
  ∃ b off cap, w.cell? ⟨B, 0, none⟩ = some (.slice (some ⟨b, off, none⟩) bs.length cap) ∧ w.cell? ⟨b, off + i, none⟩ = some (.int .u8 ((bs.getD i 0).toNat : Int)) := by
 obtain ⟨v, hv, hr⟩ := h.sl
 obtain ⟨b, off, cap, rfl, hc⟩ := hr.cell hi
 refine ⟨b, off, cap, hv, ?_⟩
 rw [hc]; simp [hi, bv]
theorem RdrAt.drewN {w : World} {B : Nat} {bs : List UInt8} {p : Nat} {low : Bool} (h : RdrAt w B bs p low) (n : Nat) : RdrAt (w.drewN n) B bs p low :=
 ⟨h.sl, h.at_, h.low, h.len, h.le⟩
theorem left_any {w : World} {B : Nat} {bs : List UInt8} {p : Nat} {low : Bool} (h : RdrAt w B bs p low) :
  Calls Tryz.prog 130 #[.pointer (some ⟨B, 0, none⟩)] w fun e w' => e = .returned (.int .i64 (8 * (bs.length : Int) - p)) ∧ ∃ n, w' = w.drewN n := by
 obtain ⟨a, cap, h0⟩ := h.len_cell
 have h1 := h.at_
 have h2 := h.len
 have h3 := h.le
 clear h
 go_enter Tryz.func130, Tryz.ntmps130
 go_wp2
 go_quiet (fail)
 go_wp2
 go_ret
 exact ⟨rfl, _, rfl⟩
theorem bit_form (c k : Nat) (hc : c < 256) : bits BinOp.and .u32 ((c : Int) / 2 ^ k % 4294967296) 1 = ((c / 2 ^ k % 2 : Nat) : Int) := by
 have h : c / 2 ^ k < 256 := Nat.lt_of_le_of_lt (Nat.div_le_self _ _) hc
 have e : ((c : Int) / 2 ^ k % 4294967296) = ((c / 2 ^ k : Nat) : Int) := by
  have e1 : ((c / 2 ^ k : Nat) : Int) = (c : Int) / 2 ^ k := by simp
  rw [← e1]
  generalize c / 2 ^ k = x at *
  omega
 rw [e]; exact and1_u32 _ (by omega)
theorem bit_any {w : World} {B : Nat} {bs : List UInt8} {p : Nat} {low : Bool} (h : RdrAt w B bs p low) {j : Int} (i : Nat) (hj : j = i) (hi : i < 8 * bs.length) :
  Calls Tryz.prog 167 #[.pointer (some ⟨B, 0, none⟩), .int .i64 j] w fun e w' => e = .returned (.int .u32 (bitV bs low i)) ∧ w = w' := by
 subst hj
 obtain ⟨b, off, cap, h0, hc⟩ := h.byte (i := i / 8) (by omega)
 have h2 := h.low
 have h3 := h.len
 have hb : (i : Int) / 8 < bs.length := by omega
 have hc8 : (bs.getD (i / 8) 0).toNat < 256 := UInt8.toNat_lt _
 have E : Hid (bitV bs low i = (bs.getD (i / 8) 0).toNat / 2 ^ (cond low (i % 8) (7 - i % 8)) % 2) := Lib.hid rfl
 generalize (bs.getD (i / 8) 0).toNat = c at *
 generalize bitV bs low i = r at *
 clear h
 cases low
 all_goals
  go_enter Tryz.func167, Tryz.ntmps167
  go_wp2
  go_ret
  refine ⟨?_, rfl⟩
  rw [E.out]
  exact congrArg (fun x => Ending.returned (.int .u32 x)) (bit_form _ _ hc8)
theorem peek_any {w : World} {B : Nat} {bs : List UInt8} {p : Nat} {low : Bool} (h : RdrAt w B bs p low) {j : Int} (n : Nat) (hj : j = n) (hn : n ≤ 32) :
  Calls Tryz.prog 129 #[.pointer (some ⟨B, 0, none⟩), .int .i64 j] w fun e w' => e = .returned (.tuple #[.int .u32 (peekV bs low p n), .int .i64 0]) ∧ ∃ m, w' = w.drewN m := by
 subst hj
 have h2 := h.low
 have h1 := h.at_
 have h3 := h.len
 have h4 := h.le
 go_enter Tryz.func129, Tryz.ntmps129
 go_wp2_with fail
 go_loopw [6, 16] (fun v i wr => ∃ k : Nat, k ≤ n ∧ i = .int .i64 k ∧ v = .int .u32 (peekV bs low p k) ∧ ∃ m, wr = w.drewN m) (fun _ i _ => n - (intOf i).toNat)
 case atStart => exact ⟨0, Nat.zero_le _, rfl, rfl, 0, rfl⟩
 case round =>
  obtain ⟨k, hk, rfl, rfl, m, rfl⟩ := hrel
  have H := Lib.hid h; clear h
  have hlt := peekV_lt bs low p k
  by_cases hkn : k < n
  ·by_cases hkl : p + k < 8 * bs.length
   ·have hkl' : (k : Int) < 8 * (bs.length : Int) - p := by omega
    have hb := bitV_le bs low (p + k)
    have hbit : ∀ W, RdrAt W B bs p low → Calls Tryz.prog 167 #[.pointer (some ⟨B, 0, none⟩), .int .i64 ((p : Int) + k)] W fun e w' => e = .returned (.int .u32 (bitV bs low (p + k))) ∧ W = w' :=
     fun W hW => bit_any hW (p + k) (by simp) hkl
    have Hb := Lib.hid hbit; clear hbit
    have hs : Hid (peekV bs low p (k + 1) = cond low (peekV bs low p k + bitV bs low (p + k) * 2 ^ k) (peekV bs low p k * 2 + bitV bs low (p + k))) := by
     cases low <;> rfl
    generalize bitV bs low (p + k) = b at *
    generalize peekV bs low p k = x at *
    have E1 := Lib.hid (or_hi hlt (by omega) hb)
    have E2 := Lib.hid (or_lo hlt (by omega) hb)
    cases low
    all_goals
     go_wp2_with (first | (go_at_call 130; refine (left_any (H.out.drewN _)).mono ?_; rintro e w' ⟨rfl, m1, rfl⟩) | (go_at_call 167; refine (Hb.out _ (H.out.drewN _)).mono ?_; rintro e w' ⟨rfl, rfl⟩))
     go_roundw
     case rel => exact ⟨k + 1, by omega, by go_num, by rw [hs.out]; simp only [cond]; first | rw [E1.out] | rw [E2.out], _, rfl⟩
     case measure => simp [intOf]; omega
   ·have hkl' : ¬ (k : Int) < 8 * (bs.length : Int) - p := by omega
    have hs : Hid (peekV bs low p (k + 1) = cond low (peekV bs low p k + 0 * 2 ^ k) (peekV bs low p k * 2 + 0)) := by
     have e := bitV_out bs low (p + k) (by omega)
     cases low
     ·rw [peekV_succ_hi, e]; rfl
     ·rw [peekV_succ_lo, e]; rfl
    generalize peekV bs low p k = x at *
    have E1 := Lib.hid (or_hi (b := 0) hlt (by omega) (by omega))
    have E2 := Lib.hid (or_lo (b := 0) hlt (by omega) (by omega))
    cases low
    all_goals
     go_wp2_with (first | (go_at_call 130; refine (left_any (H.out.drewN _)).mono ?_; rintro e w' ⟨rfl, m1, rfl⟩))
     go_roundw
     case rel => exact ⟨k + 1, by omega, by go_num, by rw [hs.out]; simp only [cond]; (first | rw [← E1.out] | rw [← E2.out]); simp, _, rfl⟩
     case measure => simp [intOf]; omega
  ·obtain rfl : k = n := by omega
   go_wp2
   go_ret2
   exact ⟨rfl, _, rfl⟩
def rdr (B : Nat) (bs : List UInt8) (p : Nat) (low : Bool) : SProp :=
 sEx fun v : Value => lift (bs.length ≤ 1000000000000000 ∧ p ≤ 8 * bs.length) * (blk B (.cells #[v, .int .i64 (p : Int), .bool low] 170 (0, 0)) * own 5 1 v bs.length (bs.map bv))
theorem rdr_open {w0 w : World} {B : Nat} {bs : List UInt8} {p : Nat} {low : Bool} {F : SProp} (h : St w0 w (rdr B bs p low * F)) :
  bs.length ≤ 1000000000000000 ∧ p ≤ 8 * bs.length ∧ ∃ v, St w0 w (blk B (.cells #[v, .int .i64 (p : Int), .bool low] 170 (0, 0)) * (own 5 1 v bs.length (bs.map bv) * F)) := by
 obtain ⟨v, h⟩ := h.ex_l
 have h := h.perm (star_assoc _ _ _)
 obtain ⟨⟨h1, h2⟩, h⟩ := h.pure_l
 exact ⟨h1, h2, v, h.perm (star_assoc _ _ _)⟩
theorem rdr_shut {w0 w : World} {B : Nat} {bs : List UInt8} {p : Nat} {low : Bool} {F : SProp} {v : Value} (h1 : bs.length ≤ 1000000000000000) (h2 : p ≤ 8 * bs.length)
  (h : St w0 w (blk B (.cells #[v, .int .i64 (p : Int), .bool low] 170 (0, 0)) * (own 5 1 v bs.length (bs.map bv) * F))) : St w0 w (rdr B bs p low * F) := by
 refine St.mk_ex_l v ?_
 refine St.perm ?_ (star_assoc _ _ _).symm
 exact St.mk_pure_l ⟨h1, h2⟩ (h.perm (star_assoc _ _ _).symm)
theorem rdr_at {w0 w : World} {B : Nat} {bs : List UInt8} {p : Nat} {low : Bool} {F : SProp} (h : St w0 w (rdr B bs p low * F)) : RdrAt w B bs p low := by
 obtain ⟨h1, h2, v, h⟩ := rdr_open h
 exact ⟨⟨v, h.cell 0 rfl, h.right.reads⟩, h.cell 1 rfl, h.cell 2 rfl, h1, h2⟩
theorem read_ok {w0 w : World} {B : Nat} {bs : List UInt8} {p : Nat} {low : Bool} {F : SProp} (h : St w0 w (rdr B bs p low * F)) {j : Int} (n : Nat) (hj : j = n) (hn : n ≤ 32) (hp : p + n ≤ 8 * bs.length) :
  Calls Tryz.prog 81 #[.pointer (some ⟨B, 0, none⟩), .int .i64 j] w fun e w' => e = .returned (.tuple #[.int .u32 (peekV bs low p n), .int .i64 0]) ∧ St w0 w' (rdr B bs (p + n) low * F) := by
 subst hj
 have hr := rdr_at h
 have hg : ¬ 8 * (bs.length : Int) - p < n := by omega
 obtain ⟨h3, h4, v, hb⟩ := rdr_open h
 have c1 : w.cell? ⟨B, 1, none⟩ = some (.int .i64 p) := hb.cell 1 rfl
 have f1 := hb.free 1
 have H := Lib.hid hr; clear hr h
 have HB := Lib.hid hb; clear hb
 generalize hx : peekV bs low p n = x
 have hp := Lib.hid (peek_any H.out n rfl hn)
 rw [hx] at hp
 clear hx
 go_enter Tryz.func81, Tryz.ntmps81
 go_wp2_with (first | (go_at_call 129; refine hp.out.mono ?_; rintro e w' ⟨rfl, m1, rfl⟩) | (go_at_call 130; refine (left_any (H.out.drewN _)).mono ?_; rintro e w' ⟨rfl, m2, rfl⟩))
 go_ret2
 refine ⟨rfl, ?_⟩
 have := (HB.out.drewN (m1 + m2)).set 1 (.int .i64 ((p + n : Nat) : Int))
 exact rdr_shut h3 (by omega) this
theorem elemBytes : ElemT Tryz.prog 32 5 1 1 (.int .u8 0) :=
 ⟨Tryz.underlying32, info_parts (by kernel_rfl), rfl, by decide⟩
theorem bv_oneCell (bs : List UInt8) : ∀ u ∈ bs.map bv, u.oneCell' = true := by
 intro u hu
 obtain ⟨c, _, rfl⟩ := List.mem_map.1 hu
 rfl
theorem newReader_any {w0 w : World} {bs : List UInt8} {v : Value} {low : Bool} {F : SProp} (h : St w0 w F) (hv : Stb w0 F (fun w => Reads w 1 v bs.length (bs.map bv))) (hl : bs.length ≤ 100000000000000) :
  Calls Tryz.prog 80 #[v, .bool low] w fun e w' => ∃ B, e = .returned (.pointer (some ⟨B, 0, none⟩)) ∧ St w0 w' (rdr B bs 0 low * F) := by
 have H := Lib.hid h; clear h
 have HV := Lib.hid hv; clear hv
 have T := elemBytes
 go_enter Tryz.func80, Tryz.ntmps80
 go_wp2_with (at_builtin; apply stop)
 refine on (wpList_append_sep T rfl (.tmp 5) (.tmp 6) rfl rfl (St.own_blk (e := 5) (size := 1) (n := 0) (cap := 0) (xs := []) (H.out.alloc (.cells #[] 5)) (Nat.le_refl _) (Nat.zero_le _) rfl rfl) rfl (HV.out _ (H.out.drop_alloc _)) (bv_oneCell bs) ?_ ?_ ?_)
 ·unfold maxLen; omega
 ·omega
 intro v' w1 h1 _
 simp only [Nat.zero_add, List.nil_append] at h1
 obtain ⟨a, cap, rfl⟩ := h1.reads.sub
 have H1 := Lib.hid h1; clear h1 H HV
 go_wp2
 go_ret
 exact ⟨_, rfl, rdr_shut (by omega) (by omega) (H1.out.alloc _)⟩
end Go.Proofs.YtboflbdniogcdaaGreatDoor
