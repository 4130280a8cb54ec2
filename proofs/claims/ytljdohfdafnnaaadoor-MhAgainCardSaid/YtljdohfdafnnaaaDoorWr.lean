/-
  The writer of bits (package bits): what each of its calls does.
-/
import Derived.Test.YtljdohfdafnnaaaDoorRd
import Derived.Test.YtljdohfdafnnaaaDoorWrM
import Derived.Test.YtljdohfdafnnaaaDoorSep2
import Derived.RegionTactic
import Derived.BigRegion
import Derived.WalkLawsBesides
import Derived.Deep.Cut
namespace Go.Proofs.YtljdohfdafnnaaaDoor
open Go.RowKit Go.Mz
set_option linter.unusedVariables false
set_option linter.unusedSimpArgs false

/-- A writer at block B that has written the bits l. -/
def wrt (B : Nat) (l : List Nat) (low : Bool) : SProp :=
  sEx fun v : Value => lift (Bit l ∧ l.length ≤ 100000000000000) * (blk B (.cells #[v, .int .i64 (l.length : Int), .bool low] 69 (0, 0)) * own 5 1 v ((l.length + 7) / 8) ((bytesB low l).map bv))

theorem wrt_open {w0 w : World} {B : Nat} {l : List Nat} {low : Bool} {F : SProp} (h : St w0 w (wrt B l low * F)) :
    Bit l ∧ l.length ≤ 100000000000000 ∧ ∃ v, St w0 w (blk B (.cells #[v, .int .i64 (l.length : Int), .bool low] 69 (0, 0)) * (own 5 1 v ((l.length + 7) / 8) ((bytesB low l).map bv) * F)) := by
  obtain ⟨v, h⟩ := h.ex_l
  have h := h.perm (star_assoc _ _ _)
  obtain ⟨⟨h1, h2⟩, h⟩ := h.pure_l
  exact ⟨h1, h2, v, h.perm (star_assoc _ _ _)⟩

theorem wrt_shut {w0 w : World} {B : Nat} {l : List Nat} {low : Bool} {F : SProp} {v : Value} (h1 : Bit l) (h2 : l.length ≤ 100000000000000)
    (h : St w0 w (blk B (.cells #[v, .int .i64 (l.length : Int), .bool low] 69 (0, 0)) * (own 5 1 v ((l.length + 7) / 8) ((bytesB low l).map bv) * F))) : St w0 w (wrt B l low * F) := by
  refine St.mk_ex_l v ?_
  refine St.perm ?_ (star_assoc _ _ _).symm
  exact St.mk_pure_l ⟨h1, h2⟩ (h.perm (star_assoc _ _ _).symm)

theorem newWriter_any {w0 w : World} {low : Bool} {F : SProp} (h : St w0 w F) :
    Calls Tryd.prog 16 #[.bool low] w fun e w' => ∃ B, e = .returned (.pointer (some ⟨B, 0, none⟩)) ∧ St w0 w' (wrt B [] low * F) := by
  have H := Lib.hid h; clear h
  go_enter Tryd.func16, Tryd.ntmps16
  go_wp2_with fail
  go_ret
  refine ⟨_, rfl, wrt_shut (v := .slice none 0 0) (by intro b hb; cases hb) (Nat.zero_le _) ?_⟩
  exact ((H.out.own_nil 5 1).alloc _)

theorem put_tail {w0 w : World} {B : Nat} {l : List Nat} {low : Bool} {F : SProp} {c : Nat} {bs : List UInt8} {g cap : Nat} (hb : Bit l) (hc : c ≤ 1) (hlen : bs.length = l.length / 8 + 1)
    (hbs : ∀ i, i < l.length / 8 → bs[i]? = some (UInt8.ofNat (byteB low l i))) (hm : l.length < 100000000000000) (u z : Value)
    (hu : u = .int .u8 (byteB low (l ++ [c]) (l.length / 8))) (hz : z = .int .i64 ((l ++ [c]).length : Nat))
    (h : St w0 w (blk B (.cells #[.slice (some ⟨g, 0, none⟩) (l.length / 8 + 1) cap, .int .i64 (l.length : Int), .bool low] 69 (0, 0)) * (own 5 1 (.slice (some ⟨g, 0, none⟩) (l.length / 8 + 1) cap) (l.length / 8 + 1) (bs.map bv) * F))) :
    St w0 (((w.setCell ⟨g, l.length / 8, none⟩ u)).setCell ⟨B, 1, none⟩ z) (wrt B (l ++ [c]) low * F) := by
  have hbc : Bit (l ++ [c]) := hb.append (fun b hb => by simp at hb; omega)
  have e : ((l ++ [c]).length + 7) / 8 = l.length / 8 + 1 := by simp; omega
  have h1 := ((h.perm (star_left_comm _ _ _)).own_set (l.length / 8) u).perm (star_left_comm _ _ _)
  have h2 := h1.set 1 z
  refine wrt_shut hbc (by simp; omega) (v := .slice (some ⟨g, 0, none⟩) (l.length / 8 + 1) cap) ?_
  rw [e, ← bytesB_put low c bs hlen hbs, List.map_set]
  have e2 : bv (UInt8.ofNat (byteB low (l ++ [c]) (l.length / 8))) = u := by rw [hu, bv, toNat_byteB low hbc]
  rw [e2]
  rw [hz] at h2 ⊢
  exact h2

/-- What is known behind the first statement of put: room for the bit. -/
structure PutMid (w0 w : World) (B : Nat) (l : List Nat) (low : Bool) (F : SProp) (bs : List UInt8) (g cap : Nat) : Prop where
  len : bs.length = l.length / 8 + 1
  old : ∀ i, i < l.length / 8 → bs[i]? = some (UInt8.ofNat (byteB low l i))
  last : bs[l.length / 8]? = some (UInt8.ofNat (byteB low l (l.length / 8)))
  st : St w0 w (blk B (.cells #[.slice (some ⟨g, 0, none⟩) (l.length / 8 + 1) cap, .int .i64 (l.length : Int), .bool low] 69 (0, 0)) * (own 5 1 (.slice (some ⟨g, 0, none⟩) (l.length / 8 + 1) cap) (l.length / 8 + 1) (bs.map bv) * F))

theorem putMid_old {w0 w : World} {B : Nat} {l : List Nat} {low : Bool} {F : SProp} {a : Option Addr} {cap : Nat} (h8 : ¬ l.length % 8 = 0)
    (h : St w0 w (blk B (.cells #[.slice a ((l.length + 7) / 8) cap, .int .i64 (l.length : Int), .bool low] 69 (0, 0)) * (own 5 1 (.slice a ((l.length + 7) / 8) cap) ((l.length + 7) / 8) ((bytesB low l).map bv) * F))) :
    ∃ g, a = some ⟨g, 0, none⟩ ∧ PutMid w0 w B l low F (bytesB low l) g cap := by
  have e : (l.length + 7) / 8 = l.length / 8 + 1 := by omega
  obtain ⟨g, rfl⟩ := own_at h.right (by omega)
  rw [e] at h
  exact ⟨g, rfl, by simp; omega, fun i hi => bytesB_get low l i (by omega), bytesB_get low l _ (by omega), h⟩

theorem putMid_new {w0 w : World} {B : Nat} {l : List Nat} {low : Bool} {F : SProp} {a : Option Addr} {cap : Nat} (h8 : l.length % 8 = 0)
    (h : St w0 w (blk B (.cells #[.slice a ((l.length + 7) / 8 + 1) cap, .int .i64 (l.length : Int), .bool low] 69 (0, 0)) * (own 5 1 (.slice a ((l.length + 7) / 8 + 1) cap) ((l.length + 7) / 8 + 1) ((bytesB low l).map bv ++ [(0 : UInt8)].map bv) * F))) :
    ∃ g, a = some ⟨g, 0, none⟩ ∧ PutMid w0 w B l low F (bytesB low l ++ [0]) g cap := by
  have e : (l.length + 7) / 8 = l.length / 8 := by omega
  obtain ⟨g, rfl⟩ := own_at h.right (by omega)
  rw [e, ← List.map_append] at h
  refine ⟨g, rfl, by simp; omega, fun i hi => ?_, ?_, h⟩
  · rw [List.getElem?_append_left (by simp; omega)]; exact bytesB_get low l i (by omega)
  · rw [List.getElem?_append_right (by simp; omega)]
    have z : byteB low l (l.length / 8) = 0 := by
      unfold byteB
      rw [numV_congr low (g := fun _ => 0) 8 (fun j _ => by rw [List.getD_eq_getElem?_getD, List.getElem?_eq_none (by omega)]; rfl), numV_zero]
    rw [z]; simp [e]

set_option maxHeartbeats 1000000 in
theorem put_any {w0 w : World} {B : Nat} {l : List Nat} {low : Bool} {F : SProp} (h : St w0 w (wrt B l low * F)) {i : Int} (c : Nat) (hi : i = c) (hc : c ≤ 1) (hm : l.length < 100000000000000) :
    Calls Tryd.prog 64 #[.pointer (some ⟨B, 0, none⟩), .int .u32 i] w fun e w' => e = .returned (.tuple #[]) ∧ St w0 w' (wrt B (l ++ [c]) low * F) := by
  subst hi
  obtain ⟨hb, _, v, h⟩ := wrt_open h
  have c0 : w.cell? ⟨B, 0, none⟩ = some v := h.cell 0 rfl
  have c1 : w.cell? ⟨B, 1, none⟩ = some (.int .i64 (l.length : Int)) := h.cell 1 rfl
  obtain ⟨a, cap, rfl⟩ := h.right.reads.sub
  have T := elemBytes
  by_cases h8 : l.length % 8 = 0
  · have h8'' : ((l.length : Int) % 8 == 0) = true := by simp; omega
    have H := Lib.hid h; clear h
    go_enter Tryd.func64, Tryd.ntmps64
    go_wp2_with (at_builtin; apply stop)
    refine on (wpList_append_sep T rfl (.tmp 15) (.tmp 16) rfl rfl ((H.out.drop_alloc _).perm (star_left_comm _ _ _)) rfl (reads_one w 5 0 rfl) (bv_oneCell [0]) ?_ ?_ ?_)
    · unfold maxLen; omega
    · omega
    intro v' w3 h4 _
    have h4 := h4.perm (star_left_comm _ _ _)
    have f0 := h4.free 0
    have c0 : w3.cell? ⟨B, 0, none⟩ = some (.slice a ((l.length + 7) / 8) cap) := h4.cell 0 rfl
    obtain ⟨a', cap', rfl⟩ := h4.right.reads.sub
    have h5 := h4.set 0 (.slice a' ((l.length + 7) / 8 + 1) cap')
    have H5 := Lib.hid h5; clear h5 h4
    go_upto_region 2 with (fail)
    generalize w3.setCell ⟨B, 0, none⟩ (.slice a' ((l.length + 7) / 8 + 1) cap') = w4 at *
    obtain ⟨g, rfl, M⟩ := putMid_new h8 H5.out
    clear H5 f0 c0 c1 T H h8 h8'' h
    generalize hbs : bytesB low l ++ [0] = bs at *
    have d0 : w4.cell? ⟨B, 0, none⟩ = some (.slice (some ⟨g, 0, none⟩) (l.length / 8 + 1) cap') := M.st.cell 0 rfl
    have d1 : w4.cell? ⟨B, 1, none⟩ = some (.int .i64 (l.length : Int)) := M.st.cell 1 rfl
    have d2 : w4.cell? ⟨B, 2, none⟩ = some (.bool low) := M.st.cell 2 rfl
    have dc : w4.cell? ⟨g, l.length / 8, none⟩ = some (.int .u8 (byteB low l (l.length / 8))) :=
      M.st.right.own_cell (i := l.length / 8) (by rw [List.getElem?_map, M.last]; simp only [Option.map_some, bv, toNat_byteB low hb])
    have fg := M.st.right.own_free (l.length / 8)
    have f1 := M.st.free 1
    have hne := M.st.own_ne
    have hne' : ¬ B = g := fun e => hne e.symm
    have hby := byteB_lt low hb (l.length / 8)
    have hor := Lib.hid (byteB_or8 low hb hc)
    have MM := Lib.hid (fun u z hu hz => put_tail hb hc M.len M.old hm u z hu hz M.st); clear M
    generalize hq : l.length / 8 = q at *
    have hq1 : q ≤ 12500000000000 := by omega
    clear hq hbs
    have s1 : IntKind.i64.wrap (q : Int) = q := IntWalk.i64_in _ (by omega)
    have s2 : (q : Int) < q + 1 := by omega
    have s3 : (0 : Int) ≤ q := by omega
    cases low
    all_goals
      go_upto_region 5 with (fail)
      go_region
      all_goals
        go_wp2_with fail
        go_end0
        refine ⟨rfl, ?_⟩
        exact (MM.out _ _ (int_eq hor.out) (int_eq (by simp))).drew
  · have h8'' : ((l.length : Int) % 8 == 0) = false := by simp; omega
    go_enter Tryd.func64, Tryd.ntmps64
    go_upto_region 2 with (fail)
    clear c1
    obtain ⟨g, rfl, M⟩ := putMid_old h8 h
    clear c0 T h8'' h8 h
    generalize hbs : bytesB low l = bs at *
    have d0 : w.cell? ⟨B, 0, none⟩ = some (.slice (some ⟨g, 0, none⟩) (l.length / 8 + 1) cap) := M.st.cell 0 rfl
    have d1 : w.cell? ⟨B, 1, none⟩ = some (.int .i64 (l.length : Int)) := M.st.cell 1 rfl
    have d2 : w.cell? ⟨B, 2, none⟩ = some (.bool low) := M.st.cell 2 rfl
    have dc : w.cell? ⟨g, l.length / 8, none⟩ = some (.int .u8 (byteB low l (l.length / 8))) :=
      M.st.right.own_cell (i := l.length / 8) (by rw [List.getElem?_map, M.last]; simp only [Option.map_some, bv, toNat_byteB low hb])
    have fg := M.st.right.own_free (l.length / 8)
    have f1 := M.st.free 1
    have hne := M.st.own_ne
    have hne' : ¬ B = g := fun e => hne e.symm
    have hby := byteB_lt low hb (l.length / 8)
    have hor := Lib.hid (byteB_or8 low hb hc)
    have MM := Lib.hid (fun u z hu hz => put_tail hb hc M.len M.old hm u z hu hz M.st); clear M
    generalize hq : l.length / 8 = q at *
    have hq1 : q ≤ 12500000000000 := by omega
    clear hq hbs
    have s1 : IntKind.i64.wrap (q : Int) = q := IntWalk.i64_in _ (by omega)
    have s2 : (q : Int) < q + 1 := by omega
    have s3 : (0 : Int) ≤ q := by omega
    cases low
    all_goals
      go_upto_region 5 with (fail)
      go_region
      all_goals
        go_wp2_with fail
        go_end0
        refine ⟨rfl, ?_⟩
        exact (MM.out _ _ (int_eq hor.out) (int_eq (by simp))).drew



end Go.Proofs.YtljdohfdafnnaaaDoor