/-
  Layer 5: the table as one piece of memory, and the width of a code (package lzw).
-/
import Derived.Test.YtpjonjiofaaccaaLzwU
namespace Go.Proofs.Ytpjonjiofaaccaa
open Go.RowKit Go.Mz
set_option linter.unusedVariables false
set_option linter.unusedSimpArgs false

/-- A table at block B that holds the texts L. -/
def tab (B : Nat) (L : List Txt) : SProp :=
  sEx fun x : Value × Value × Value × List Int × List UInt8 × List Nat => lift (TabOk L x.2.2.2.1 x.2.2.2.2.1 x.2.2.2.2.2) *
    (own 3 1 x.1 L.length (x.2.2.2.1.map iv) * (own 5 1 x.2.1 L.length (x.2.2.2.2.1.map bv) * (own 3 1 x.2.2.1 L.length (x.2.2.2.2.2.map nv) * blk B (.cells #[x.1, x.2.1, x.2.2.1] 68))))

theorem tab_open {w0 w : World} {B : Nat} {L : List Txt} {F : SProp} (h : St w0 w (tab B L * F)) :
    ∃ va vl vg ah la lo, TabOk L ah la lo ∧ StL w0 w (tblL B L.length va vl vg ah la lo F) := by
  obtain ⟨⟨va, vl, vg, ah, la, lo⟩, h⟩ := h.ex_l
  obtain ⟨h1, h2⟩ := (h.perm (star_assoc _ _ _)).pure_l
  refine ⟨va, vl, vg, ah, la, lo, h1, h2.perm ?_⟩
  simp only [tblL, prodL, star_assoc]
  rw [star_comm F emp, emp_star]
theorem tab_shut {w0 w : World} {B : Nat} {L : List Txt} {n : Nat} {va vl vg : Value} {ah : List Int} {la : List UInt8} {lo : List Nat} {F : SProp} (hn : n = L.length) (h1 : TabOk L ah la lo)
    (h : StL w0 w (tblL B n va vl vg ah la lo F)) : St w0 w (tab B L * F) := by
  subst hn
  refine St.mk_ex_l (va, vl, vg, ah, la, lo) (St.perm (St.mk_pure_l h1 h) ?_)
  simp only [tblL, prodL, star_assoc]
  rw [star_comm F emp, emp_star]
theorem tab_len {w0 w : World} {B : Nat} {L : List Txt} {F : SProp} (h : St w0 w (tab B L * F)) : ∃ a k, w.cell? ⟨B, 1, none⟩ = some (.slice a L.length k) := by
  obtain ⟨va, vl, vg, ah, la, lo, _, h⟩ := tab_open h
  obtain ⟨a2, k2, rfl⟩ := (h.reads (i := 1) rfl).sub
  exact ⟨a2, k2, h.cell (i := 3) rfl 1 rfl⟩

theorem start_any {w0 w : World} {F : SProp} (h : St w0 w F) :
    Calls Try.prog 29 #[] w fun e w' => ∃ B, e = .returned (.pointer (some ⟨B, 0, none⟩)) ∧ St w0 w' (tab B start0 * F) :=
  (start_walk h).mono fun e w' ⟨B, he, va, vl, vg, h'⟩ => ⟨B, he, tab_shut length_start0.symm tabOk_start h'⟩

theorem add_any {w0 w : World} {B : Nat} {L : List Txt} {F : SProp} (h : St w0 w (tab B L * F)) (hn : L.length ≤ 5000) {i : Int} (j : Nat) (hi : i = j) {u : Txt} (hu : L[j]? = some u) (c : UInt8) {x : Int} (hx : x = c.toNat) :
    Calls Try.prog 31 #[.pointer (some ⟨B, 0, none⟩), .int .i64 i, .int .u8 x] w fun e w' => e = .returned (.tuple #[]) ∧ St w0 w' (tab B (L ++ [u ++ [c]]) * F) := by
  subst hi hx
  obtain ⟨va, vl, vg, ah, la, lo, hT, h⟩ := tab_open h
  obtain ⟨a1, k1, rfl⟩ := (h.reads (i := 0) rfl).sub
  obtain ⟨a2, k2, rfl⟩ := (h.reads (i := 1) rfl).sub
  obtain ⟨a3, k3, rfl⟩ := (h.reads (i := 2) rfl).sub
  obtain ⟨h1, h2, _⟩ := hT.2.2.2 j u hu
  refine (add_walk h (by omega) j (List.getElem?_eq_some_iff.1 hu).1 c c.toNat rfl u.length h1 (by omega)).mono ?_
  rintro e w' ⟨he, va, vl, vg, h'⟩
  exact ⟨he, tab_shut (by simp) (tabOk_add hT hu c) h'⟩

theorem text_any {w0 w : World} {B : Nat} {L : List Txt} {F : SProp} (h : St w0 w (tab B L * F)) (hn : L.length ≤ 5000) {i : Int} (j : Nat) (hi : i = j) {t : Txt} (ht : L[j]? = some t) :
    Calls Try.prog 32 #[.pointer (some ⟨B, 0, none⟩), .int .i64 i] w fun e w' => ∃ v, e = .returned v ∧ St w0 w' (own 5 1 v t.length (t.map bv) * (tab B L * F)) := by
  subst hi
  obtain ⟨va, vl, vg, ah, la, lo, hT, h⟩ := tab_open h
  refine (text_walk h hT (by omega) j t ht).mono ?_
  rintro e w' ⟨v, he, h'⟩
  refine ⟨v, he, ?_⟩
  have h2 : StL w0 w' (tblL B L.length va vl vg ah la lo (F * own 5 1 v t.length (t.map bv))) := St.perm h' (by simp only [tblL, prodL]; ac_rfl)
  exact (tab_shut rfl hT h2).perm (by ac_rfl)

set_option maxRecDepth 100000
def widN (q : Nat) : Nat := if q < 512 then 9 else if q < 1024 then 10 else if q < 2048 then 11 else 12
theorem width_any {w : World} {i j : Int} (q : Nat) (hq : i + j = q) (hi : 0 ≤ i) (hj : 0 ≤ j) (hq2 : q ≤ 100000) :
    Calls Try.prog 26 #[.int .i64 i, .int .i64 j] w fun e w' => e = .returned (.int .i64 (widN q)) ∧ w = w' := by
  have hs : IntKind.i64.wrap (i + j) = q := by rw [IntWalk.i64_in _ (by omega)]; exact hq
  go_enter Try.func26, Try.ntmps26
  go_wp2_with fail
  go_loop [5] (fun n => ∃ k : Nat, 9 ≤ k ∧ k ≤ 12 ∧ n = .int .i64 k ∧ (9 < k → 2 ^ (k - 1) ≤ q)) (fun n => 12 - (intOf n).toNat)
  case atStart => exact ⟨9, by omega, by omega, rfl, fun h => by omega⟩
  case round =>
    obtain ⟨k, hk1, hk2, rfl, hk3⟩ := hrel
    have hk : k = 9 ∨ k = 10 ∨ k = 11 ∨ k = 12 := by omega
    rcases hk with rfl | rfl | rfl | rfl
    · by_cases hc : q < 512
      · have hc' : (q : Int) < 512 := by omega
        have HW := Lib.hid (show widN q = 9 by rw [widN, if_pos hc])
        clear hk3
        go_wp2_with fail
        go_ret
        refine ⟨?_, rfl⟩
        rw [HW.out]; rfl
      · have hc' : ¬ (q : Int) < 512 := by omega
        clear hk3
        go_wp2_with fail
        exact ⟨⟨10, by omega, by omega, rfl, fun _ => by simp; omega⟩, by simp [intOf]⟩
    · by_cases hc : q < 1024
      · have hc' : (q : Int) < 1024 := by omega
        have h5 : 2 ^ 9 ≤ q := hk3 (by omega)
        simp at h5
        have HW := Lib.hid (show widN q = 10 by rw [widN, if_neg (show ¬ q < 512 by omega), if_pos hc])
        clear hk3
        go_wp2_with fail
        go_ret
        refine ⟨?_, rfl⟩
        rw [HW.out]; rfl
      · have hc' : ¬ (q : Int) < 1024 := by omega
        clear hk3
        go_wp2_with fail
        exact ⟨⟨11, by omega, by omega, rfl, fun _ => by simp; omega⟩, by simp [intOf]⟩
    · by_cases hc : q < 2048
      · have hc' : (q : Int) < 2048 := by omega
        have h5 : 2 ^ 10 ≤ q := hk3 (by omega)
        simp at h5
        have HW := Lib.hid (show widN q = 11 by rw [widN, if_neg (show ¬ q < 512 by omega), if_neg (show ¬ q < 1024 by omega), if_pos hc])
        clear hk3
        go_wp2_with fail
        go_ret
        refine ⟨?_, rfl⟩
        rw [HW.out]; rfl
      · have hc' : ¬ (q : Int) < 2048 := by omega
        clear hk3
        go_wp2_with fail
        exact ⟨⟨12, by omega, by omega, rfl, fun _ => by simp; omega⟩, by simp [intOf]⟩
    · have h5 : 2 ^ 11 ≤ q := hk3 (by omega)
      simp at h5
      have HW := Lib.hid (show widN q = 12 by rw [widN, if_neg (show ¬ q < 512 by omega), if_neg (show ¬ q < 1024 by omega), if_neg (show ¬ q < 2048 by omega)])
      clear hk3
      go_wp2_with fail
      go_ret
      refine ⟨?_, rfl⟩
      rw [HW.out]; rfl
#print axioms width_any
end Go.Proofs.Ytpjonjiofaaccaa
