/-
  The writer of bits (package bits): what each of its calls does.
  The writer of bits, more: a text's bits, filling up, what was written; bytes turned round.
-/
import Derived.Test.YtddifndfppilkaaGreatRd
import Derived.Test.YtddifndfppilkaaGreatWrM
import Derived.Test.YtddifndfppilkaaGreatSep
import Derived.RegionTactic
import Derived.BigRegion
import Derived.WalkLawsBesides
import Derived.Deep.Cut
import Derived.Deep.LoopGhost
namespace Go.Proofs.YtddifndfppilkaaGreat
open Go.RowKit Go.Mz
set_option linter.unusedVariables false
set_option linter.unusedSimpArgs false

/-- A writer at block B that has written the bits l. -/
def wrt (B : Nat) (l : List Nat) (low : Bool) : SProp :=
  sEx fun v : Value => lift (Bit l ∧ l.length ≤ 100000000000000) * (blk B (.cells #[v, .int .i64 (l.length : Int), .bool low] 109 (0, 0)) * own 5 1 v ((l.length + 7) / 8) ((bytesB low l).map bv))

theorem wrt_open {w0 w : World} {B : Nat} {l : List Nat} {low : Bool} {F : SProp} (h : St w0 w (wrt B l low * F)) :
    Bit l ∧ l.length ≤ 100000000000000 ∧ ∃ v, St w0 w (blk B (.cells #[v, .int .i64 (l.length : Int), .bool low] 109 (0, 0)) * (own 5 1 v ((l.length + 7) / 8) ((bytesB low l).map bv) * F)) := by
  obtain ⟨v, h⟩ := h.ex_l
  have h := h.perm (star_assoc _ _ _)
  obtain ⟨⟨h1, h2⟩, h⟩ := h.pure_l
  exact ⟨h1, h2, v, h.perm (star_assoc _ _ _)⟩

theorem wrt_shut {w0 w : World} {B : Nat} {l : List Nat} {low : Bool} {F : SProp} {v : Value} (h1 : Bit l) (h2 : l.length ≤ 100000000000000)
    (h : St w0 w (blk B (.cells #[v, .int .i64 (l.length : Int), .bool low] 109 (0, 0)) * (own 5 1 v ((l.length + 7) / 8) ((bytesB low l).map bv) * F))) : St w0 w (wrt B l low * F) := by
  refine St.mk_ex_l v ?_
  refine St.perm ?_ (star_assoc _ _ _).symm
  exact St.mk_pure_l ⟨h1, h2⟩ (h.perm (star_assoc _ _ _).symm)

theorem newWriter_any {w0 w : World} {low : Bool} {F : SProp} (h : St w0 w F) :
    Calls Tryz.prog 40 #[.bool low] w fun e w' => ∃ B, e = .returned (.pointer (some ⟨B, 0, none⟩)) ∧ St w0 w' (wrt B [] low * F) := by
  have H := Lib.hid h; clear h
  go_enter Tryz.func40, Tryz.ntmps40
  go_wp2_with fail
  go_ret
  refine ⟨_, rfl, wrt_shut (v := .slice none 0 0) (by intro b hb; cases hb) (Nat.zero_le _) ?_⟩
  exact ((H.out.own_nil 5 1).alloc _)

theorem put_tail {w0 w : World} {B : Nat} {l : List Nat} {low : Bool} {F : SProp} {c : Nat} {bs : List UInt8} {g cap : Nat} (hb : Bit l) (hc : c ≤ 1) (hlen : bs.length = l.length / 8 + 1)
    (hbs : ∀ i, i < l.length / 8 → bs[i]? = some (UInt8.ofNat (byteB low l i))) (hm : l.length < 100000000000000) (u z : Value)
    (hu : u = .int .u8 (byteB low (l ++ [c]) (l.length / 8))) (hz : z = .int .i64 ((l ++ [c]).length : Nat))
    (h : St w0 w (blk B (.cells #[.slice (some ⟨g, 0, none⟩) (l.length / 8 + 1) cap, .int .i64 (l.length : Int), .bool low] 109 (0, 0)) * (own 5 1 (.slice (some ⟨g, 0, none⟩) (l.length / 8 + 1) cap) (l.length / 8 + 1) (bs.map bv) * F))) :
    St w0 (((w.setCell ⟨g, l.length / 8, none⟩ u)).setCell ⟨B, 1, none⟩ z) (wrt B (l ++ [c]) low * F) := by
  have hbc : Bit (l ++ [c]) := hb.append (fun b hb => by simp at hb; omega)
  have e : ((l ++ [c]).length + 7) / 8 = l.length / 8 + 1 := by simp; omega
  have h1 := ((h.perm (star_left_comm _ _ _)).own_set (l.length / 8) u).perm (star_left_comm _ _ _)
  have h2 := h1.set 1 z
  refine wrt_shut hbc (by simp; omega) (v := .slice (some ⟨g, 0, none⟩) (l.length / 8 + 1) cap) ?_
  rw [e, ← bytesB_put low c bs hlen hbs, List.map_set]
  have e2 : bv (UInt8.ofNat (byteB low (l ++ [c]) (l.length / 8))) = u := by rw [hu, bv, toNat_byteB low hbc]
  rw [e2]
  rw [hz] at h2 ⊢
  exact h2

/-- What is known behind the first statement of put: room for the bit. -/
structure PutMid (w0 w : World) (B : Nat) (l : List Nat) (low : Bool) (F : SProp) (bs : List UInt8) (g cap : Nat) : Prop where
  len : bs.length = l.length / 8 + 1
  old : ∀ i, i < l.length / 8 → bs[i]? = some (UInt8.ofNat (byteB low l i))
  last : bs[l.length / 8]? = some (UInt8.ofNat (byteB low l (l.length / 8)))
  st : St w0 w (blk B (.cells #[.slice (some ⟨g, 0, none⟩) (l.length / 8 + 1) cap, .int .i64 (l.length : Int), .bool low] 109 (0, 0)) * (own 5 1 (.slice (some ⟨g, 0, none⟩) (l.length / 8 + 1) cap) (l.length / 8 + 1) (bs.map bv) * F))

theorem putMid_old {w0 w : World} {B : Nat} {l : List Nat} {low : Bool} {F : SProp} {a : Option Addr} {cap : Nat} (h8 : ¬ l.length % 8 = 0)
    (h : St w0 w (blk B (.cells #[.slice a ((l.length + 7) / 8) cap, .int .i64 (l.length : Int), .bool low] 109 (0, 0)) * (own 5 1 (.slice a ((l.length + 7) / 8) cap) ((l.length + 7) / 8) ((bytesB low l).map bv) * F))) :
    ∃ g, a = some ⟨g, 0, none⟩ ∧ PutMid w0 w B l low F (bytesB low l) g cap := by
  have e : (l.length + 7) / 8 = l.length / 8 + 1 := by omega
  obtain ⟨g, rfl⟩ := own_at h.right (by omega)
  rw [e] at h
  exact ⟨g, rfl, by simp; omega, fun i hi => bytesB_get low l i (by omega), bytesB_get low l _ (by omega), h⟩

theorem putMid_new {w0 w : World} {B : Nat} {l : List Nat} {low : Bool} {F : SProp} {a : Option Addr} {cap : Nat} (h8 : l.length % 8 = 0)
    (h : St w0 w (blk B (.cells #[.slice a ((l.length + 7) / 8 + 1) cap, .int .i64 (l.length : Int), .bool low] 109 (0, 0)) * (own 5 1 (.slice a ((l.length + 7) / 8 + 1) cap) ((l.length + 7) / 8 + 1) ((bytesB low l).map bv ++ [(0 : UInt8)].map bv) * F))) :
    ∃ g, a = some ⟨g, 0, none⟩ ∧ PutMid w0 w B l low F (bytesB low l ++ [0]) g cap := by
  have e : (l.length + 7) / 8 = l.length / 8 := by omega
  obtain ⟨g, rfl⟩ := own_at h.right (by omega)
  rw [e, ← List.map_append] at h
  refine ⟨g, rfl, by simp; omega, fun i hi => ?_, ?_, h⟩
  · rw [List.getElem?_append_left (by simp; omega)]; exact bytesB_get low l i (by omega)
  · rw [List.getElem?_append_right (by simp; omega)]
    have z : byteB low l (l.length / 8) = 0 := by
      unfold byteB
      rw [numV_congr low (g := fun _ => 0) 8 (fun j _ => by rw [List.getD_eq_getElem?_getD, List.getElem?_eq_none (by omega)]; rfl), numV_zero]
    rw [z]; simp [e]

set_option maxHeartbeats 1000000 in
theorem put_any {w0 w : World} {B : Nat} {l : List Nat} {low : Bool} {F : SProp} (h : St w0 w (wrt B l low * F)) {i : Int} (c : Nat) (hi : i = c) (hc : c ≤ 1) (hm : l.length < 100000000000000) :
    Calls Tryz.prog 83 #[.pointer (some ⟨B, 0, none⟩), .int .u32 i] w fun e w' => e = .returned (.tuple #[]) ∧ St w0 w' (wrt B (l ++ [c]) low * F) := by
  subst hi
  obtain ⟨hb, _, v, h⟩ := wrt_open h
  have c0 : w.cell? ⟨B, 0, none⟩ = some v := h.cell 0 rfl
  have c1 : w.cell? ⟨B, 1, none⟩ = some (.int .i64 (l.length : Int)) := h.cell 1 rfl
  obtain ⟨a, cap, rfl⟩ := h.right.reads.sub
  have T := elemBytes
  by_cases h8 : l.length % 8 = 0
  · have h8'' : ((l.length : Int) % 8 == 0) = true := by simp; omega
    have H := Lib.hid h; clear h
    go_enter Tryz.func83, Tryz.ntmps83
    go_wp2_with (at_builtin; apply stop)
    refine on (wpList_append_sep T rfl (.tmp 15) (.tmp 16) rfl rfl ((H.out.drop_alloc _).perm (star_left_comm _ _ _)) rfl (reads_one w 5 0 rfl) (bv_oneCell [0]) ?_ ?_ ?_)
    · unfold maxLen; omega
    · omega
    intro v' w3 h4 _
    have h4 := h4.perm (star_left_comm _ _ _)
    have f0 := h4.free 0
    have c0 : w3.cell? ⟨B, 0, none⟩ = some (.slice a ((l.length + 7) / 8) cap) := h4.cell 0 rfl
    obtain ⟨a', cap', rfl⟩ := h4.right.reads.sub
    have h5 := h4.set 0 (.slice a' ((l.length + 7) / 8 + 1) cap')
    have H5 := Lib.hid h5; clear h5 h4
    go_upto_region 2 with (fail)
    generalize w3.setCell ⟨B, 0, none⟩ (.slice a' ((l.length + 7) / 8 + 1) cap') = w4 at *
    obtain ⟨g, rfl, M⟩ := putMid_new h8 H5.out
    clear H5 f0 c0 c1 T H h8 h8'' h
    generalize hbs : bytesB low l ++ [0] = bs at *
    have d0 : w4.cell? ⟨B, 0, none⟩ = some (.slice (some ⟨g, 0, none⟩) (l.length / 8 + 1) cap') := M.st.cell 0 rfl
    have d1 : w4.cell? ⟨B, 1, none⟩ = some (.int .i64 (l.length : Int)) := M.st.cell 1 rfl
    have d2 : w4.cell? ⟨B, 2, none⟩ = some (.bool low) := M.st.cell 2 rfl
    have dc : w4.cell? ⟨g, l.length / 8, none⟩ = some (.int .u8 (byteB low l (l.length / 8))) :=
      M.st.right.own_cell (i := l.length / 8) (by rw [List.getElem?_map, M.last]; simp only [Option.map_some, bv, toNat_byteB low hb])
    have fg := M.st.right.own_free (l.length / 8)
    have f1 := M.st.free 1
    have hne := M.st.own_ne
    have hne' : ¬ B = g := fun e => hne e.symm
    have hby := byteB_lt low hb (l.length / 8)
    have hor := Lib.hid (byteB_or8 low hb hc)
    have MM := Lib.hid (fun u z hu hz => put_tail hb hc M.len M.old hm u z hu hz M.st); clear M
    generalize hq : l.length / 8 = q at *
    have hq1 : q ≤ 12500000000000 := by omega
    clear hq hbs
    have s1 : IntKind.i64.wrap (q : Int) = q := IntWalk.i64_in _ (by omega)
    have s2 : (q : Int) < q + 1 := by omega
    have s3 : (0 : Int) ≤ q := by omega
    cases low
    all_goals
      go_upto_region 5 with (fail)
      go_region
      all_goals
        go_wp2_with fail
        go_end0
        refine ⟨rfl, ?_⟩
        exact (MM.out _ _ (int_eq hor.out) (int_eq (by simp))).drew
  · have h8'' : ((l.length : Int) % 8 == 0) = false := by simp; omega
    go_enter Tryz.func83, Tryz.ntmps83
    go_upto_region 2 with (fail)
    clear c1
    obtain ⟨g, rfl, M⟩ := putMid_old h8 h
    clear c0 T h8'' h8 h
    generalize hbs : bytesB low l = bs at *
    have d0 : w.cell? ⟨B, 0, none⟩ = some (.slice (some ⟨g, 0, none⟩) (l.length / 8 + 1) cap) := M.st.cell 0 rfl
    have d1 : w.cell? ⟨B, 1, none⟩ = some (.int .i64 (l.length : Int)) := M.st.cell 1 rfl
    have d2 : w.cell? ⟨B, 2, none⟩ = some (.bool low) := M.st.cell 2 rfl
    have dc : w.cell? ⟨g, l.length / 8, none⟩ = some (.int .u8 (byteB low l (l.length / 8))) :=
      M.st.right.own_cell (i := l.length / 8) (by rw [List.getElem?_map, M.last]; simp only [Option.map_some, bv, toNat_byteB low hb])
    have fg := M.st.right.own_free (l.length / 8)
    have f1 := M.st.free 1
    have hne := M.st.own_ne
    have hne' : ¬ B = g := fun e => hne e.symm
    have hby := byteB_lt low hb (l.length / 8)
    have hor := Lib.hid (byteB_or8 low hb hc)
    have MM := Lib.hid (fun u z hu hz => put_tail hb hc M.len M.old hm u z hu hz M.st); clear M
    generalize hq : l.length / 8 = q at *
    have hq1 : q ≤ 12500000000000 := by omega
    clear hq hbs
    have s1 : IntKind.i64.wrap (q : Int) = q := IntWalk.i64_in _ (by omega)
    have s2 : (q : Int) < q + 1 := by omega
    have s3 : (0 : Int) ≤ q := by omega
    cases low
    all_goals
      go_upto_region 5 with (fail)
      go_region
      all_goals
        go_wp2_with fail
        go_end0
        refine ⟨rfl, ?_⟩
        exact (MM.out _ _ (int_eq hor.out) (int_eq (by simp))).drew

theorem write_bad {w : World} (p : Value) (v : Int) (n : Int) (h : n < 0 ∨ 32 < n) :
    Calls Tryz.prog 69 #[p, .int .u32 v, .int .i64 n] w fun e w' => e = .returned (.int .i64 1) ∧ w = w' := by
  rcases h with h | h
  · have h1 : decide (n < 0) = true := by simpa using h
    go_enter Tryz.func69, Tryz.ntmps69
    go_wp2_with fail
    go_ret
    exact ⟨rfl, rfl⟩
  · have h1 : ¬ n < 0 := by omega
    go_enter Tryz.func69, Tryz.ntmps69
    go_wp2_with fail
    go_ret
    exact ⟨rfl, rfl⟩

theorem write_over {w : World} (p : Value) (v n : Nat) (hn : n < 32) (hv : v / 2 ^ n ≠ 0) :
    Calls Tryz.prog 69 #[p, .int .u32 v, .int .i64 n] w fun e w' => e = .returned (.int .i64 7) ∧ w = w' := by
  have h2 : ¬ (n : Int) < 0 := by omega
  have h3 : ¬ (32 : Int) < n := by omega
  have h4 : (n : Int) < 32 := by omega
  have h1 : ((v : Int) / 2 ^ n != 0) = true := by
    have : ((v / 2 ^ n : Nat) : Int) = (v : Int) / 2 ^ n := by simp
    rw [← this, bne_iff_ne]
    generalize v / 2 ^ n = y at *
    omega
  clear hv
  go_enter Tryz.func69, Tryz.ntmps69
  go_wp2_with fail
  go_ret
  exact ⟨rfl, rfl⟩

theorem write_ok {w0 w : World} {B : Nat} {l : List Nat} {low : Bool} {F : SProp} (h : St w0 w (wrt B l low * F)) (v n : Nat) (hn : n ≤ 32) (hv : n < 32 → v / 2 ^ n = 0) (hv2 : v < 4294967296) (hm : l.length + 32 ≤ 100000000000000) :
    Calls Tryz.prog 69 #[.pointer (some ⟨B, 0, none⟩), .int .u32 v, .int .i64 n] w fun e w' => e = .returned (.int .i64 0) ∧ St w0 w' (wrt B (l ++ wrN low v n) low * F) := by
  have h2 : ¬ (n : Int) < 0 := by omega
  have h3 : ¬ (32 : Int) < n := by omega
  have h1 : n < 32 → ((v : Int) / 2 ^ n != 0) = false := by
    intro hlt
    have : ((v / 2 ^ n : Nat) : Int) = (v : Int) / 2 ^ n := by simp
    rw [← this, hv hlt]; rfl
  have H := Lib.hid h; clear h hv
  by_cases h4 : (n : Int) < 32
  all_goals
    try (have h1' := h1 (by omega))
    clear h1
    go_enter Tryz.func69, Tryz.ntmps69
    go_wp2_with fail
    go_loopw [28] (fun i wr => ∃ k : Nat, k ≤ n ∧ i = .int .i64 k ∧ St w0 wr (wrt B (l ++ (wrN low v n).take k) low * F)) (fun i _ => n - (intOf i).toNat)
    case atStart => exact ⟨0, Nat.zero_le _, rfl, by simpa using H.out⟩
    case round =>
      obtain ⟨k, hk, rfl, hst⟩ := hrel
      by_cases hkn : k < n
      · obtain ⟨_, _, b0, hb0⟩ := wrt_open hst
        have c2 : wr.cell? ⟨B, 2, none⟩ = some (.bool low) := hb0.cell 2 rfl
        have HT := Lib.hid (take_wrN low v n k hkn)
        have HS := Lib.hid hst; clear hst hb0
        have hx : ∀ j, v / 2 ^ j < 4294967296 := fun j => Nat.lt_of_le_of_lt (Nat.div_le_self _ _) hv2
        have HA := Lib.hid (fun j => and1_u32 (v / 2 ^ j) (hx j)); clear hx
        have hle : ((wrN low v n).take k).length ≤ 32 := by simp; omega
        cases low
        · go_wp2_with fail
          refine (put_any HS.out (v / 2 ^ (n - 1 - k) % 2) (by rw [← HA.out]; simp) (by omega) (by simp; omega)).mono ?_
          rintro e w' ⟨rfl, h⟩
          have e := HT.out
          simp only [cond] at e
          rw [List.append_assoc, ← e] at h
          clear e
          have H2 := Lib.hid h; clear h
          go_wp2_with fail
          go_roundw
          case rel => exact ⟨k + 1, by omega, by go_num, H2.out⟩
          case measure => simp [intOf]; omega
        · go_wp2_with fail
          refine (put_any HS.out (v / 2 ^ k % 2) (by rw [← HA.out]; simp) (by omega) (by simp; omega)).mono ?_
          rintro e w' ⟨rfl, h⟩
          have e := HT.out
          simp only [cond] at e
          rw [List.append_assoc, ← e] at h
          clear e
          have H2 := Lib.hid h; clear h
          go_wp2_with fail
          go_roundw
          case rel => exact ⟨k + 1, by omega, by go_num, H2.out⟩
          case measure => simp [intOf]; omega
      · obtain rfl : k = n := by omega
        rw [List.take_of_length_le (by simp)] at hst
        have HS := Lib.hid hst; clear hst
        go_wp2_with fail
        go_ret
        exact ⟨rfl, HS.out⟩

end Go.Proofs.YtddifndfppilkaaGreat

namespace Go.Proofs.YtddifndfppilkaaGreat
open Go.RowKit Go.Mz
set_option linter.unusedVariables false
set_option linter.unusedSimpArgs false

theorem write_all {w0 w : World} {B : Nat} {l : List Nat} {low : Bool} {F : SProp} (h : St w0 w (wrt B l low * F)) (v : Nat) (n : Int) (hv2 : v < 4294967296) (hm : l.length + 32 ≤ 100000000000000) :
    Calls Tryz.prog 69 #[.pointer (some ⟨B, 0, none⟩), .int .u32 v, .int .i64 n] w fun e w' => e = .returned (.int .i64 (wrE v n)) ∧ St w0 w' (wrt B (l ++ wrL low v n) low * F) := by
  by_cases hn : n < 0 ∨ 32 < n
  · have e : wrE v n = 1 := by unfold wrE; rw [if_pos hn]
    have e2 : wrL low v n = [] := by unfold wrL; rw [if_neg (by omega)]
    rw [e, e2, List.append_nil]
    exact (write_bad _ _ _ hn).mono fun _ _ ⟨he, hw⟩ => ⟨he, hw ▸ h⟩
  · obtain ⟨k, rfl⟩ := Int.eq_ofNat_of_zero_le (show 0 ≤ n by omega)
    by_cases hv : (k : Int) < 32 ∧ v / 2 ^ (k : Int).toNat ≠ 0
    · have e : wrE v k = 7 := by unfold wrE; rw [if_neg hn, if_pos hv]
      have e2 : wrL low v k = [] := by unfold wrL; rw [if_neg (by omega)]
      rw [e, e2, List.append_nil]
      exact (write_over _ _ _ (by omega) (by simpa using hv.2)).mono fun _ _ ⟨he, hw⟩ => ⟨he, hw ▸ h⟩
    · have e : wrE v k = 0 := by unfold wrE; rw [if_neg hn, if_neg hv]
      have e2 : wrL low v k = wrN low v k := by unfold wrL; rw [if_pos e, Int.toNat_natCast]
      rw [e, e2]
      exact write_ok h v k (by omega) (fun hk => by
        have := fun h => hv ⟨by omega, h⟩
        simpa using this) hv2 hm


theorem bytes_any {w0 w : World} {B : Nat} {l : List Nat} {low : Bool} {F : SProp} (h : St w0 w (wrt B l low * F)) :
    Calls Tryz.prog 44 #[.pointer (some ⟨B, 0, none⟩)] w fun e w' => ∃ v, e = .returned v ∧ St w0 w' (own 5 1 v ((l.length + 7) / 8) ((bytesB low l).map bv) * (wrt B l low * F)) := by
  obtain ⟨hb, hm, v, h⟩ := wrt_open h
  have c0 : w.cell? ⟨B, 0, none⟩ = some v := h.cell 0 rfl
  obtain ⟨a, cap, rfl⟩ := h.right.reads.sub
  have T := elemBytes
  have c0' : (w.alloc (.cells #[] 5)).cell? ⟨B, 0, none⟩ = some (.slice a ((l.length + 7) / 8) cap) := by
    rw [World.cell?_alloc_lt _ _ _ h.lt]; exact c0
  have H := Lib.hid h; clear h
  go_enter Tryz.func44, Tryz.ntmps44
  go_wp2_with (at_builtin; apply stop)
  refine on (wpList_append_sep T rfl _ _ rfl rfl (St.own_blk (e := 5) (size := 1) (n := 0) (cap := 0) (xs := []) (H.out.alloc (.cells #[] 5)) (Nat.le_refl _) (Nat.zero_le _) rfl rfl) rfl ((H.out.drop_alloc _).right.reads) (bv_oneCell _) ?_ ?_ ?_)
  · unfold maxLen; omega
  · omega
  intro v' w3 h4 _
  simp only [Nat.zero_add, List.nil_append] at h4
  obtain ⟨a', cap', rfl⟩ := h4.reads.sub
  have H4 := Lib.hid h4; clear h4
  go_wp2_with fail
  go_ret
  refine ⟨_, rfl, ?_⟩
  have := wrt_shut hb hm (F := own 5 1 (.slice a' ((l.length + 7) / 8) cap') ((l.length + 7) / 8) ((bytesB low l).map bv) * F) (H4.out.perm (by ac_rfl))
  exact this.perm (by ac_rfl)

theorem word_bad {w : World} (p : Value) (s : List UInt8) (hs : s.length ≤ maxLen) (hd : digB s = false) :
    Calls Tryz.prog 103 #[p, .string ⟨s.toArray⟩] w fun e w' => e = .returned (.int .i64 3) ∧ w = w' := by
  unfold maxLen at hs
  have HD := Lib.hid hd; clear hd
  go_enter Tryz.func103, Tryz.ntmps103
  go_wp2_with fail
  go_loop [9] (fun i => ∃ k : Nat, k ≤ s.length ∧ i = .int .i64 k ∧ digB (s.take k) = true) (fun i => s.length - (intOf i).toNat)
  case atStart => exact ⟨0, Nat.zero_le _, rfl, rfl⟩
  case round =>
    obtain ⟨k, hk, rfl, hdk⟩ := hrel
    by_cases hkn : k < s.length
    · have hg := List.getElem?_eq_getElem hkn
      have G := fun h => ba_get hg h; clear hg
      by_cases hc : s[k] = 48 ∨ s[k] = 49
      · have HN := Lib.hid (digB_split s k hkn hdk hc); clear hdk
        generalize s[k] = c at *
        rcases hc with rfl | rfl
        all_goals
          go_wp2_with fail
          refine ⟨⟨k + 1, by omega, by go_num, HN.out⟩, by simp [intOf]; omega⟩
      · have n1 : ((s[k].toNat : Int) != 48) = true := byte_ne (d := 48) (fun e => hc (.inl e))
        have n2 : ((s[k].toNat : Int) != 49) = true := byte_ne (d := 49) (fun e => hc (.inr e))
        clear hc hdk
        generalize s[k] = c at *
        go_wp2_with fail
        go_ret
        exact ⟨rfl, rfl⟩
    · obtain rfl : k = s.length := by omega
      rw [List.take_length, HD.out] at hdk
      cases hdk

theorem word_ok {w0 w : World} {B : Nat} {l : List Nat} {low : Bool} {F : SProp} (h : St w0 w (wrt B l low * F)) (s : List UInt8) (hs : s.length ≤ 1000000000000) (hd : digB s = true) (hm : l.length + s.length ≤ 100000000000000) :
    Calls Tryz.prog 103 #[.pointer (some ⟨B, 0, none⟩), .string ⟨s.toArray⟩] w fun e w' => e = .returned (.int .i64 0) ∧ St w0 w' (wrt B (l ++ unTx s) low * F) := by
  have HC := Lib.hid (show ∀ c ∈ s, c = 48 ∨ c = 49 by simpa [digB] using hd)
  have H := Lib.hid h; clear h hd
  go_enter Tryz.func103, Tryz.ntmps103
  go_wp2_with fail
  go_loop [9] (fun i => ∃ k : Nat, k ≤ s.length ∧ i = .int .i64 k) (fun i => s.length - (intOf i).toNat)
  case atStart => exact ⟨0, Nat.zero_le _, rfl⟩
  case round =>
    obtain ⟨k, hk, rfl⟩ := hrel
    by_cases hkn : k < s.length
    · have hg := List.getElem?_eq_getElem hkn
      have G := fun h => ba_get hg h; clear hg
      have hc := HC.out s[k] (by simp)
      generalize s[k] = c at *
      rcases hc with rfl | rfl
      all_goals
        go_wp2_with fail
        refine ⟨⟨k + 1, by omega, by go_num⟩, by simp [intOf]; omega⟩
    · obtain rfl : k = s.length := by omega
      go_wp2_with fail
      go_loopw [27] (fun i wr => ∃ k : Nat, k ≤ s.length ∧ i = .int .i64 k ∧ St w0 wr (wrt B (l ++ unTx (s.take k)) low * F)) (fun i _ => s.length - (intOf i).toNat)
      case atStart => exact ⟨0, Nat.zero_le _, rfl, by simpa [unTx] using H.out⟩
      case round =>
        obtain ⟨k, hk, rfl, hst⟩ := hrel
        by_cases hkn : k < s.length
        · have hg := List.getElem?_eq_getElem hkn
          have G := fun h => ba_get hg h; clear hg
          have hc := HC.out s[k] (by simp)
          have HT := Lib.hid (show unTx (s.take (k + 1)) = unTx (s.take k) ++ [s[k].toNat - 48] by unfold unTx; rw [List.take_succ_eq_append_getElem hkn, List.map_append]; rfl)
          have hle : (unTx (s.take k)).length ≤ k := by simp; omega
          have HS := Lib.hid hst; clear hst
          generalize s[k] = c at *
          rcases hc with rfl | rfl
          · go_wp2_with fail
            refine (put_any HS.out 0 rfl (by omega) (by simp; omega)).mono ?_
            rintro e w' ⟨rfl, h⟩
            rw [List.append_assoc, ← show unTx (s.take (k + 1)) = _ ++ [0] from HT.out] at h
            have H2 := Lib.hid h; clear h
            go_wp2_with fail
            go_roundw
            case rel => exact ⟨k + 1, by omega, by go_num, H2.out⟩
            case measure => simp [intOf]; omega
          · go_wp2_with fail
            refine (put_any HS.out 1 rfl (by omega) (by simp; omega)).mono ?_
            rintro e w' ⟨rfl, h⟩
            rw [List.append_assoc, ← show unTx (s.take (k + 1)) = _ ++ [1] from HT.out] at h
            have H2 := Lib.hid h; clear h
            go_wp2_with fail
            go_roundw
            case rel => exact ⟨k + 1, by omega, by go_num, H2.out⟩
            case measure => simp [intOf]; omega
        · obtain rfl : k = s.length := by omega
          rw [List.take_length] at hst
          have HS := Lib.hid hst; clear hst
          go_wp2_with fail
          go_ret
          exact ⟨rfl, HS.out⟩

theorem walign_any {w0 w : World} {B : Nat} {l : List Nat} {low : Bool} {F : SProp} (h : St w0 w (wrt B l low * F)) (hm : l.length + 8 ≤ 100000000000000) :
    Calls Tryz.prog 68 #[.pointer (some ⟨B, 0, none⟩)] w fun e w' => e = .returned (.tuple #[]) ∧ St w0 w' (wrt B (alignL l) low * F) := by
  have H := Lib.hid h; clear h
  go_enter Tryz.func68, Tryz.ntmps68
  go_wp2_with fail
  go_loopg [11] ((8 - l.length % 8) % 8) (fun g u wr => ∃ k : Nat, k + g = (8 - l.length % 8) % 8 ∧ St w0 wr (wrt B (l ++ List.replicate k 0) low * F))
  case atStart => exact ⟨0, by omega, by simpa using H.out⟩
  case round =>
    obtain ⟨k, hk, hst⟩ := hrel
    obtain ⟨_, _, v, hb⟩ := wrt_open hst
    have c1 : wr.cell? ⟨B, 1, none⟩ = some (.int .i64 ((l.length + k : Nat) : Int)) := by rw [hb.cell 1 rfl]; simp
    have HS := Lib.hid hst; clear hst hb
    by_cases hg : gk = 0
    · subst hg
      have h8 : (((l.length + k : Nat) : Int) % 8 != 0) = false := by
        have : (((l.length + k : Nat) : Int) % 8) = 0 := by omega
        rw [this]; rfl
      have HK := Lib.hid (show k = (8 - l.length % 8) % 8 by omega); clear hk
      generalize l.length + k = n at *
      go_wp2_with fail
      go_end0
      refine ⟨rfl, ?_⟩
      unfold alignL
      rw [← HK.out]
      exact HS.out
    · have h8 : (((l.length + k : Nat) : Int) % 8 != 0) = true := by
        rw [bne_iff_ne]; omega
      have hk2 : k + 1 + (gk - 1) = (8 - l.length % 8) % 8 := by omega
      have hk3 : k ≤ 7 := by omega
      have HK := Lib.hid hk2; clear hk hk2
      generalize hn : l.length + k = n at *
      clear hn
      go_wp2_with fail
      refine (put_any HS.out 0 rfl (by omega) (by simp; omega)).mono ?_
      rintro e w' ⟨rfl, h⟩
      rw [List.append_assoc, ← List.replicate_succ'] at h
      have H2 := Lib.hid h; clear h
      go_wp2_with fail
      go_roundg (gk - 1)
      case measure => omega
      case rel => exact ⟨k + 1, HK.out, H2.out⟩
end Go.Proofs.YtddifndfppilkaaGreat
