/-
  Layer 5: the table of texts (package lzw).
-/
import Derived.Test.YtpjonjiofaaccaaChecked
import Derived.Test.YtpjonjiofaaccaaLzwM
import Derived.Test.YtpjonjiofaaccaaSepL
import Derived.Test.YtpjonjiofaaccaaRd
import Derived.Test.YtpjonjiofaaccaaReg3
import Derived.Deep.RegionHeld3
namespace Go.Proofs.Ytpjonjiofaaccaa
open Go.RowKit Go.Mz
set_option linter.unusedVariables false
set_option linter.unusedSimpArgs false

theorem elemInts : ElemT Try.prog 42 3 1 8 (.int .i64 0) :=
  ⟨Try.underlying42, info_parts (by kernel_rfl), rfl, by decide⟩
def iv (n : Int) : Value := .int .i64 n
theorem iv_oneCell (l : List Int) : ∀ u ∈ l.map iv, u.oneCell' = true := by
  intro u hu
  obtain ⟨c, _, rfl⟩ := List.mem_map.1 hu
  rfl
def nv (n : Nat) : Value := .int .i64 (n : Int)

/-- A table at block B that holds the texts L. -/
def tblL (B : Nat) (n : Nat) (va vl vg : Value) (ah : List Int) (la : List UInt8) (lo : List Nat) (F : SProp) : List SProp :=
  [own 3 1 va n (ah.map iv), own 5 1 vl n (la.map bv), own 3 1 vg n (lo.map nv), blk B (.cells #[va, vl, vg] 68), F]

set_option maxRecDepth 100000 in
set_option maxHeartbeats 4000000 in
theorem add_walk {w0 w : World} {B n : Nat} {a1 a2 a3 : Option Addr} {k1 k2 k3 : Nat} {ah : List Int} {la : List UInt8} {lo : List Nat} {F : SProp}
    (h : StL w0 w (tblL B n (.slice a1 n k1) (.slice a2 n k2) (.slice a3 n k3) ah la lo F)) (hn : n ≤ 100000) (j : Nat) (hj : j < n) (c : UInt8) (cc : Nat) (hc8 : cc = c.toNat) (x : Nat) (hx : lo[j]? = some x) (hx2 : x ≤ 100000) :
    Calls Try.prog 31 #[.pointer (some ⟨B, 0, none⟩), .int .i64 j, .int .u8 cc] w fun e w' => e = .returned (.tuple #[]) ∧
      ∃ va vl vg, StL w0 w' (tblL B (n + 1) va vl vg (ah ++ [(j : Int)]) (la ++ [c]) (lo ++ [x + 1]) F) := by
  have c0 : w.cell? ⟨B, 0, none⟩ = some (.slice a1 n k1) := h.cell (i := 3) rfl 0 rfl
  have c1 : w.cell? ⟨B, 1, none⟩ = some (.slice a2 n k2) := h.cell (i := 3) rfl 1 rfl
  have c2 : w.cell? ⟨B, 2, none⟩ = some (.slice a3 n k3) := h.cell (i := 3) rfl 2 rfl
  obtain ⟨g, off, rfl, hc⟩ := (h.reads (i := 2) rfl).at_ hj
  have hc' : (lo.map nv)[j]? = some (.int .i64 (x : Int)) := by simp [hx, nv]
  rw [hc'] at hc
  clear hc'
  have TI := elemInts
  have TB := elemBytes
  have H := Lib.hid h; clear h
  have hj0 : (0 : Int) ≤ j := by omega
  have hj1 : (j : Int) < n := by omega
  have hs1 : IntKind.i64.wrap ((x : Int) + 1) = x + 1 := IntWalk.i64_in _ (by omega)
  have hlx := Lib.hid hx; clear hx
  have hcc := Lib.hid hc8; clear hc8
  go_enter Try.func31, Try.ntmps31
  go_wp2_with fail
  refine wp_region_noPanic ?_
  refine region_till (S := fun w' : World => w'.cell? ⟨B, 0, none⟩ = some (.slice a1 n k1) ∧ w'.cell? ⟨B, 1, none⟩ = some (.slice a2 n k2) ∧ w'.cell? ⟨B, 2, none⟩ = some (.slice (some ⟨g, off, none⟩) n k3) ∧ w'.cell? ⟨g, off + j, none⟩ = some (.int .i64 x)) (k := 31) (by kernel_rfl) ?_
  have hS : (fun w' : World => w'.cell? ⟨B, 0, none⟩ = some (.slice a1 n k1) ∧ w'.cell? ⟨B, 1, none⟩ = some (.slice a2 n k2) ∧ w'.cell? ⟨B, 2, none⟩ = some (.slice (some ⟨g, off, none⟩) n k3) ∧ w'.cell? ⟨g, off + j, none⟩ = some (.int .i64 x)) w.drew := ⟨c0, c1, c2, hc⟩
  refine till_take0 (i := 0) (oi := ?_) (v := ?_) ?_ (by kernel_rfl) (by kernel_rfl) (by kernel_rfl) (by decide) (fun _ _ _ h => h.elim) (by assumption) (.inl ⟨?_, fun w => ?_⟩) ?_
  rotate_left 2
  · (simp only [List.getElem?_toArray, List.getElem?_cons_succ, List.getElem?_cons_zero]; rfl)
  · rfl
  · (go_simp; try with_reducible rfl)
  simp only [Act.put, List.setIfInBounds_toArray, List.set_cons_zero, List.set_cons_succ]
  refine till_take0 (i := 1) (oi := ?_) (v := ?_) ?_ (by kernel_rfl) (by kernel_rfl) (by kernel_rfl) (by decide) (fun _ _ _ h => h.elim) (by assumption) (.inl ⟨?_, fun w => ?_⟩) ?_
  rotate_left 2
  · (simp only [List.getElem?_toArray, List.getElem?_cons_succ, List.getElem?_cons_zero]; rfl)
  · rfl
  · (go_simp; try with_reducible rfl)
  simp only [Act.put, List.setIfInBounds_toArray, List.set_cons_zero, List.set_cons_succ]
  refine till_take0 (i := 2) (oi := ?_) (v := ?_) ?_ (by kernel_rfl) (by kernel_rfl) (by kernel_rfl) (by decide) (fun _ _ _ h => h.elim) (by assumption) (.inl ⟨?_, fun w => ?_⟩) ?_
  rotate_left 2
  · (simp only [List.getElem?_toArray, List.getElem?_cons_succ, List.getElem?_cons_zero]; rfl)
  · rfl
  · (go_simp; try with_reducible rfl)
  simp only [Act.put, List.setIfInBounds_toArray, List.set_cons_zero, List.set_cons_succ]
  refine till_take0 (i := 3) (oi := ?_) (v := ?_) ?_ (by kernel_rfl) (by kernel_rfl) (by kernel_rfl) (by decide) (fun _ _ _ h => h.elim) (by assumption) (.inl ⟨?_, fun w => ?_⟩) ?_
  rotate_left 2
  · (simp only [List.getElem?_toArray, List.getElem?_cons_succ, List.getElem?_cons_zero]; rfl)
  · rfl
  · (go_simp; try with_reducible rfl)
  simp only [Act.put, List.setIfInBounds_toArray, List.set_cons_zero, List.set_cons_succ]
  refine till_take0 (i := 4) (oi := ?_) (v := ?_) ?_ (by kernel_rfl) (by kernel_rfl) (by kernel_rfl) (by decide) (fun _ _ _ h => h.elim) (by assumption) (.inl ⟨?_, fun w => ?_⟩) ?_
  rotate_left 2
  · (simp only [List.getElem?_toArray, List.getElem?_cons_succ, List.getElem?_cons_zero]; rfl)
  · rfl
  · (go_simp; try with_reducible rfl)
  simp only [Act.put, List.setIfInBounds_toArray, List.set_cons_zero, List.set_cons_succ]
  refine till_take0 (i := 5) (oi := ?_) (v := ?_) ?_ (by kernel_rfl) (by kernel_rfl) (by kernel_rfl) (by decide) (fun _ _ _ h => h.elim) (by assumption) (.inl ⟨?_, fun w => ?_⟩) ?_
  rotate_left 2
  · (simp only [List.getElem?_toArray, List.getElem?_cons_succ, List.getElem?_cons_zero]; rfl)
  · rfl
  · (go_simp; try with_reducible rfl)
  simp only [Act.put, List.setIfInBounds_toArray, List.set_cons_zero, List.set_cons_succ]
  refine till_take (i := 6) (oi := ?_) (v := ?_) ?_ (by kernel_rfl) (by kernel_rfl) (by kernel_rfl) (by kernel_rfl) (by kernel_rfl) (fun _ _ _ h => h.elim) (by assumption) (.inl ⟨?_, fun w hSw => ?_⟩) ?_
  rotate_left 2
  · (simp only [List.getElem?_toArray, List.getElem?_cons_succ, List.getElem?_cons_zero]; rfl)
  · rfl
  · ((try dsimp only at hSw); go_simp; try with_reducible rfl)
  simp only [Act.put, List.setIfInBounds_toArray, List.set_cons_zero, List.set_cons_succ]
  refine till_take0 (i := 7) (oi := ?_) (v := ?_) ?_ (by kernel_rfl) (by kernel_rfl) (by kernel_rfl) (by decide) (fun _ _ _ h => h.elim) (by assumption) (.inl ⟨?_, fun w => ?_⟩) ?_
  rotate_left 2
  · (simp only [List.getElem?_toArray, List.getElem?_cons_succ, List.getElem?_cons_zero]; rfl)
  · rfl
  · (go_simp; try with_reducible rfl)
  simp only [Act.put, List.setIfInBounds_toArray, List.set_cons_zero, List.set_cons_succ]
  refine till_take0 (i := 10) (oi := ?_) (v := ?_) ?_ (by kernel_rfl) (by kernel_rfl) (by kernel_rfl) (by decide) (fun _ _ _ h => h.elim) (by assumption) (.inl ⟨?_, fun w => ?_⟩) ?_
  rotate_left 2
  · (simp only [List.getElem?_toArray, List.getElem?_cons_succ, List.getElem?_cons_zero]; rfl)
  · rfl
  · (go_simp; try with_reducible rfl)
  simp only [Act.put, List.setIfInBounds_toArray, List.set_cons_zero, List.set_cons_succ]
  refine till_take0 (i := 11) (oi := ?_) (v := ?_) ?_ (by kernel_rfl) (by kernel_rfl) (by kernel_rfl) (by decide) (fun _ _ _ h => h.elim) (by assumption) (.inl ⟨?_, fun w => ?_⟩) ?_
  rotate_left 2
  · (simp only [List.getElem?_toArray, List.getElem?_cons_succ, List.getElem?_cons_zero]; rfl)
  · rfl
  · (go_simp; try with_reducible rfl)
  simp only [Act.put, List.setIfInBounds_toArray, List.set_cons_zero, List.set_cons_succ]
  refine till_take0 (i := 12) (oi := ?_) (v := ?_) ?_ (by kernel_rfl) (by kernel_rfl) (by kernel_rfl) (by decide) (fun _ _ _ h => h.elim) (by assumption) (.inl ⟨?_, fun w => ?_⟩) ?_
  rotate_left 2
  · (simp only [List.getElem?_toArray, List.getElem?_cons_succ, List.getElem?_cons_zero]; rfl)
  · rfl
  · (go_simp; try with_reducible rfl)
  simp only [Act.put, List.setIfInBounds_toArray, List.set_cons_zero, List.set_cons_succ]
  refine till_take (i := 13) (oi := ?_) (v := ?_) ?_ (by kernel_rfl) (by kernel_rfl) (by kernel_rfl) (by kernel_rfl) (by kernel_rfl) (fun _ _ _ h => h.elim) (by assumption) (.inl ⟨?_, fun w hSw => ?_⟩) ?_
  rotate_left 2
  · (simp only [List.getElem?_toArray, List.getElem?_cons_succ, List.getElem?_cons_zero]; rfl)
  · rfl
  · ((try dsimp only at hSw); go_simp; try with_reducible rfl)
  simp only [Act.put, List.setIfInBounds_toArray, List.set_cons_zero, List.set_cons_succ]
  refine till_take0 (i := 14) (oi := ?_) (v := ?_) ?_ (by kernel_rfl) (by kernel_rfl) (by kernel_rfl) (by decide) (fun _ _ _ h => h.elim) (by assumption) (.inl ⟨?_, fun w => ?_⟩) ?_
  rotate_left 2
  · (simp only [List.getElem?_toArray, List.getElem?_cons_succ, List.getElem?_cons_zero]; rfl)
  · rfl
  · (go_simp; try with_reducible rfl)
  simp only [Act.put, List.setIfInBounds_toArray, List.set_cons_zero, List.set_cons_succ]
  refine till_take0 (i := 17) (oi := ?_) (v := ?_) ?_ (by kernel_rfl) (by kernel_rfl) (by kernel_rfl) (by decide) (fun _ _ _ h => h.elim) (by assumption) (.inl ⟨?_, fun w => ?_⟩) ?_
  rotate_left 2
  · (simp only [List.getElem?_toArray, List.getElem?_cons_succ, List.getElem?_cons_zero]; rfl)
  · rfl
  · (go_simp; try with_reducible rfl)
  simp only [Act.put, List.setIfInBounds_toArray, List.set_cons_zero, List.set_cons_succ]
  refine till_take0 (i := 18) (oi := ?_) (v := ?_) ?_ (by kernel_rfl) (by kernel_rfl) (by kernel_rfl) (by decide) (fun _ _ _ h => h.elim) (by assumption) (.inl ⟨?_, fun w => ?_⟩) ?_
  rotate_left 2
  · (simp only [List.getElem?_toArray, List.getElem?_cons_succ, List.getElem?_cons_zero]; rfl)
  · rfl
  · (go_simp; try with_reducible rfl)
  simp only [Act.put, List.setIfInBounds_toArray, List.set_cons_zero, List.set_cons_succ]
  refine till_take0 (i := 19) (oi := ?_) (v := ?_) ?_ (by kernel_rfl) (by kernel_rfl) (by kernel_rfl) (by decide) (fun _ _ _ h => h.elim) (by assumption) (.inl ⟨?_, fun w => ?_⟩) ?_
  rotate_left 2
  · (simp only [List.getElem?_toArray, List.getElem?_cons_succ, List.getElem?_cons_zero]; rfl)
  · rfl
  · (go_simp; try with_reducible rfl)
  simp only [Act.put, List.setIfInBounds_toArray, List.set_cons_zero, List.set_cons_succ]
  refine till_take (i := 20) (oi := ?_) (v := ?_) ?_ (by kernel_rfl) (by kernel_rfl) (by kernel_rfl) (by kernel_rfl) (by kernel_rfl) (fun _ _ _ h => h.elim) (by assumption) (.inl ⟨?_, fun w hSw => ?_⟩) ?_
  rotate_left 2
  · (simp only [List.getElem?_toArray, List.getElem?_cons_succ, List.getElem?_cons_zero]; rfl)
  · rfl
  · ((try dsimp only at hSw); go_simp; try with_reducible rfl)
  simp only [Act.put, List.setIfInBounds_toArray, List.set_cons_zero, List.set_cons_succ]
  refine till_take0 (i := 21) (oi := ?_) (v := ?_) ?_ (by kernel_rfl) (by kernel_rfl) (by kernel_rfl) (by decide) (fun _ _ _ h => h.elim) (by assumption) (.inl ⟨?_, fun w => ?_⟩) ?_
  rotate_left 2
  · (simp only [List.getElem?_toArray, List.getElem?_cons_succ, List.getElem?_cons_zero]; rfl)
  · rfl
  · (go_simp; try with_reducible rfl)
  simp only [Act.put, List.setIfInBounds_toArray, List.set_cons_zero, List.set_cons_succ]
  refine till_take0 (i := 22) (oi := ?_) (v := ?_) ?_ (by kernel_rfl) (by kernel_rfl) (by kernel_rfl) (by decide) (fun _ _ _ h => h.elim) (by assumption) (.inl ⟨?_, fun w => ?_⟩) ?_
  rotate_left 2
  · (simp only [List.getElem?_toArray, List.getElem?_cons_succ, List.getElem?_cons_zero]; rfl)
  · rfl
  · (go_simp; try with_reducible rfl)
  simp only [Act.put, List.setIfInBounds_toArray, List.set_cons_zero, List.set_cons_succ]
  refine till_take0 (i := 23) (oi := ?_) (v := ?_) ?_ (by kernel_rfl) (by kernel_rfl) (by kernel_rfl) (by decide) (fun _ _ _ h => h.elim) (by assumption) (.inl ⟨?_, fun w => ?_⟩) ?_
  rotate_left 2
  · (simp only [List.getElem?_toArray, List.getElem?_cons_succ, List.getElem?_cons_zero]; rfl)
  · rfl
  · (go_simp; try with_reducible rfl)
  simp only [Act.put, List.setIfInBounds_toArray, List.set_cons_zero, List.set_cons_succ]
  refine till_take (i := 24) (oi := ?_) (v := ?_) ?_ (by kernel_rfl) (by kernel_rfl) (by kernel_rfl) (by kernel_rfl) (by kernel_rfl) (fun _ _ _ h => h.elim) (by assumption) (.inl ⟨?_, fun w hSw => ?_⟩) ?_
  rotate_left 2
  · (simp only [List.getElem?_toArray, List.getElem?_cons_succ, List.getElem?_cons_zero]; rfl)
  · rfl
  · ((try dsimp only at hSw); go_simp; try with_reducible rfl)
  simp only [Act.put, List.setIfInBounds_toArray, List.set_cons_zero, List.set_cons_succ]
  refine till_take0 (i := 25) (oi := ?_) (v := ?_) ?_ (by kernel_rfl) (by kernel_rfl) (by kernel_rfl) (by decide) (fun _ _ _ h => h.elim) (by assumption) (.inl ⟨?_, fun w => ?_⟩) ?_
  rotate_left 2
  · (simp only [List.getElem?_toArray, List.getElem?_cons_succ, List.getElem?_cons_zero]; rfl)
  · rfl
  · (go_simp; try with_reducible rfl)
  simp only [Act.put, List.setIfInBounds_toArray, List.set_cons_zero, List.set_cons_succ]
  refine till_take0 (i := 26) (oi := ?_) (v := ?_) ?_ (by kernel_rfl) (by kernel_rfl) (by kernel_rfl) (by decide) (fun _ _ _ h => h.elim) (by assumption) (.inl ⟨?_, fun w => ?_⟩) ?_
  rotate_left 2
  · (simp only [List.getElem?_toArray, List.getElem?_cons_succ, List.getElem?_cons_zero]; rfl)
  · rfl
  · (go_simp; try with_reducible rfl)
  simp only [Act.put, List.setIfInBounds_toArray, List.set_cons_zero, List.set_cons_succ]
  refine till_take (i := 27) (oi := ?_) (v := ?_) ?_ (by kernel_rfl) (by kernel_rfl) (by kernel_rfl) (by kernel_rfl) (by kernel_rfl) (fun _ _ _ h => h.elim) (by assumption) (.inl ⟨?_, fun w hSw => ?_⟩) ?_
  rotate_left 2
  · (simp only [List.getElem?_toArray, List.getElem?_cons_succ, List.getElem?_cons_zero]; rfl)
  · rfl
  · ((try dsimp only at hSw); go_simp; try with_reducible rfl)
  simp only [Act.put, List.setIfInBounds_toArray, List.set_cons_zero, List.set_cons_succ]
  refine till_take0 (i := 28) (oi := ?_) (v := ?_) ?_ (by kernel_rfl) (by kernel_rfl) (by kernel_rfl) (by decide) (fun _ _ _ h => h.elim) (by assumption) (.inl ⟨?_, fun w => ?_⟩) ?_
  rotate_left 2
  · (simp only [List.getElem?_toArray, List.getElem?_cons_succ, List.getElem?_cons_zero]; rfl)
  · rfl
  · (go_simp; try with_reducible rfl)
  simp only [Act.put, List.setIfInBounds_toArray, List.set_cons_zero, List.set_cons_succ]
  refine append3 (S := _) (k := 31) (w0 := w0) (F := F) (D := blk B (.cells #[.slice a1 n k1, .slice a2 n k2, .slice (some ⟨g, off, none⟩) n k3] 68)) (fuel := 9)
    ⟨42, 3, .slice a1 n k1, n, ah.map iv, .int .i64 j⟩ ⟨22, 5, .slice a2 n k2, n, la.map bv, .int .u8 cc⟩ ⟨42, 3, .slice (some ⟨g, off, none⟩) n k3, n, lo.map nv, .int .i64 (x + 1)⟩
    ?ok1 ?ok2 ?ok3 8 9 15 16 29 30 (fun b1 b2 b3 c => #[true, true, true, true, true, true, true, true, b1, decide (0 < c), true, true, true, true, true, b2, decide (1 < c), true, true, true, true, true, true, true, true, true, true, true, true, b3, decide (2 < c), false, false, false, false, false, false, false, false, false]) (by kernel_rfl) (fun u1 u2 u3 v1 v2 v3 => { tmps := #[Value.pointer (some ⟨B, 0, none⟩), .int .i64 j, .int .u8 cc, undef, undef, undef, Value.pointer (some ⟨B, 0, none⟩), Value.pointer (some ⟨B, 0, none⟩), Value.pointer (some ⟨B, 0, none⟩), Value.pointer (some ⟨B, 0, none⟩), Value.pointer (some ⟨B, 0, none⟩), .pointer (some ⟨B, 0, none⟩), .slice a1 n k1, .int .i64 j, u1, v1, Value.pointer (some ⟨B, 0, none⟩), Value.pointer (some ⟨B, 0, none⟩), .pointer (some ⟨B, 1, none⟩), .slice a2 n k2, .int .u8 cc, u2, v2, Value.pointer (some ⟨B, 0, none⟩), Value.pointer (some ⟨B, 0, none⟩), .pointer (some ⟨B, 2, none⟩), .slice (some ⟨g, off, none⟩) n k3, Value.pointer (some ⟨B, 0, none⟩), Value.pointer (some ⟨B, 0, none⟩), .pointer (some ⟨B, 2, none⟩), .slice (some ⟨g, off, none⟩) n k3, .int .i64 j, .pointer (some ⟨g, off + j, none⟩), .int .i64 x, .int .i64 (x + 1), u3, v3, undef, undef, undef, undef, undef, undef], defers := [] }) ?hb1 ?hb2 ?hb3 ?ha1 ?ha2 ?ha3 ?hS ?hend 6 false false false 0 undef undef undef undef undef undef w.drew rfl rfl ?h0
  case ok1 => exact ⟨⟨_, _, TI, by dsimp only; omega⟩, by dsimp only; unfold maxLen; omega, rfl⟩
  case ok2 => exact ⟨⟨_, _, TB, by dsimp only; omega⟩, by dsimp only; unfold maxLen; omega, rfl⟩
  case ok3 => exact ⟨⟨_, _, TI, by dsimp only; omega⟩, by dsimp only; unfold maxLen; omega, rfl⟩
  case ha1 => exact fun u2 u3 v2 v3 => ⟨_, _, _, rfl, rfl, rfl, fun u v => ⟨rfl, rfl, fun _ => rfl⟩⟩
  case ha2 => exact fun u2 u3 v2 v3 => ⟨_, _, _, rfl, rfl, rfl, fun u v => ⟨rfl, rfl, fun _ => rfl⟩⟩
  case ha3 => exact fun u2 u3 v2 v3 => ⟨_, _, _, rfl, rfl, rfl, fun u v => ⟨rfl, rfl, fun _ => rfl⟩⟩
  case hS =>
    intro w' A hD hR
    obtain ⟨g', off', he, hc'⟩ := hR.at_ hj
    cases he
    refine ⟨hD.cell 0 rfl, hD.cell 1 rfl, hD.cell 2 rfl, ?_⟩
    rw [hc']
    simp [hlx.out, nv]
  case h0 =>
    have := H.out.drew
    simpa [L3, apP, tmP, StL, prodL, tblL, emp_star] using this
  case hb1 =>
    intro u2 u3 v1 v2 v3 u w' K hK
    refine wpOp_step (by rfl) fun K' hK' => ?_
    go_simp
    exact hK' _ _ hK
  case hb2 =>
    intro u1 u3 v1 v2 v3 u w' K hK
    refine wpOp_step (by rfl) fun K' hK' => ?_
    go_simp
    exact hK' _ _ hK
  case hb3 =>
    intro u1 u2 v1 v2 v3 u w' K hK
    refine wpOp_step (by rfl) fun K' hK' => ?_
    go_simp
    exact hK' _ _ hK
  case hend =>
    intro u1 u2 u3 v1 v2 v3 w' h'
    have h' : StL w0 w' [own 3 1 v1 (n + 1) (ah.map iv ++ [.int .i64 j]), own 5 1 v2 (n + 1) (la.map bv ++ [.int .u8 cc]), own 3 1 v3 (n + 1) (lo.map nv ++ [.int .i64 (x + 1)]), blk B (.cells #[.slice a1 n k1, .slice a2 n k2, .slice (some ⟨g, off, none⟩) n k3] 68), F, own 3 1 u1 1 [.int .i64 j], own 5 1 u2 1 [.int .u8 cc], own 3 1 u3 1 [.int .i64 (x + 1)]] := h'
    obtain ⟨x1, y1, rfl⟩ := (h'.reads (i := 0) rfl).sub
    obtain ⟨x2, y2, rfl⟩ := (h'.reads (i := 1) rfl).sub
    obtain ⟨x3, y3, rfl⟩ := (h'.reads (i := 2) rfl).sub
    refine till_one (i := 31) (by kernel_rfl) ?_
    refine wpOp_step (by rfl) fun K hK => ?_
    go_simp
    refine hK _ _ ⟨fun e => (by cases e), ?_⟩
    clear hK K
    refine till_one (i := 32) (by kernel_rfl) ?_
    refine wpOp_step (by rfl) fun K hK => ?_
    go_simp
    refine hK _ _ ⟨fun e => (by cases e), ?_⟩
    clear hK K
    have f0 := h'.free (i := 3) rfl 0
    have e0 := h'.cell (i := 3) rfl 0 rfl
    have s0 := h'.set (i := 3) rfl 0 (.slice x1 (n + 1 : Nat) y1)
    clear h'
    have h' := s0
    clear s0
    refine till_one (i := 33) (by kernel_rfl) ?_
    refine wpOp_step (by rfl) fun K hK => ?_
    go_simp
    refine hK _ _ ⟨fun e => (by cases e), ?_⟩
    clear hK K
    refine till_one (i := 34) (by kernel_rfl) ?_
    refine wpOp_step (by rfl) fun K hK => ?_
    go_simp
    refine hK _ _ ⟨fun e => (by cases e), ?_⟩
    clear hK K
    refine till_one (i := 35) (by kernel_rfl) ?_
    refine wpOp_step (by rfl) fun K hK => ?_
    go_simp
    refine hK _ _ ⟨fun e => (by cases e), ?_⟩
    clear hK K
    have f1 := h'.free (i := 3) rfl 1
    have e1 := h'.cell (i := 3) rfl 1 rfl
    have s1 := h'.set (i := 3) rfl 1 (.slice x2 (n + 1 : Nat) y2)
    clear h'
    have h' := s1
    clear s1
    refine till_one (i := 36) (by kernel_rfl) ?_
    refine wpOp_step (by rfl) fun K hK => ?_
    go_simp
    refine hK _ _ ⟨fun e => (by cases e), ?_⟩
    clear hK K
    refine till_one (i := 37) (by kernel_rfl) ?_
    refine wpOp_step (by rfl) fun K hK => ?_
    go_simp
    refine hK _ _ ⟨fun e => (by cases e), ?_⟩
    clear hK K
    refine till_one (i := 38) (by kernel_rfl) ?_
    refine wpOp_step (by rfl) fun K hK => ?_
    go_simp
    refine hK _ _ ⟨fun e => (by cases e), ?_⟩
    clear hK K
    have f2 := h'.free (i := 3) rfl 2
    have e2 := h'.cell (i := 3) rfl 2 rfl
    have s2 := h'.set (i := 3) rfl 2 (.slice x3 (n + 1 : Nat) y3)
    clear h'
    have h' := s2
    clear s2
    refine till_one (i := 39) (by kernel_rfl) ?_
    refine wpOp_step (by rfl) fun K hK => ?_
    go_simp
    refine hK _ _ ⟨fun e => (by cases e), ?_⟩
    clear hK K
    refine ⟨by kernel_rfl, NoPanic.normal ?_⟩
    have HF := Lib.hid h'
    clear h' f0 e0 f1 e1 f2 e2 hS
    go_wp2_with fail
    go_end0
    refine ⟨rfl, .slice x1 (n + 1 : Nat) y1, .slice x2 (n + 1 : Nat) y2, .slice x3 (n + 1 : Nat) y3, ?_⟩
    have hf := HF.out
    simp only [List.set_cons_zero, List.set_cons_succ, List.setIfInBounds_toArray] at hf
    have hf := StL.take (l1 := [_, _, _, _, _]) hf
    simpa [tblL, iv, nv, bv, hcc.out] using hf
end Go.Proofs.Ytpjonjiofaaccaa
