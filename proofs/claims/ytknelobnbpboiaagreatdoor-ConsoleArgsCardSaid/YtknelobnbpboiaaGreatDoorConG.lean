/-
  Layer 28 (console): the orders of the chapter's example, each at its numbers.
-/
import Derived.Test.YtknelobnbpboiaaGreatDoorConB
import Derived.Test.YtknelobnbpboiaaGreatDoorConF
import Derived.Test.YtknelobnbpboiaaGreatDoorFld
import Derived.Test.YtknelobnbpboiaaGreatDoorReg3
import Derived.Test.YtknelobnbpboiaaGreatDoorPhG
import Derived.Test.YtknelobnbpboiaaGreatDoorTagS
import Derived.Deep.RegionHeld3
namespace Go.Proofs.YtknelobnbpboiaaGreatDoor
open Go.RowKit Go.Mz
set_option linter.unusedVariables false
set_option linter.unusedSimpArgs false
set_option maxRecDepth 100000

set_option maxHeartbeats 4000000 in
theorem decode_any {w0 w : World} {b : Nat} {l : Value} {lw : Bool} {out : List UInt8} {F : SProp} {vn : Value} (h : St w0 w (sesB b l lw (.slice none 0 0) out * F)) :
    Calls Tryz.prog 35 #[.pointer (some ⟨b, 0, none⟩), vn] w fun e w' => e = .returned (.tuple #[.string ⟨#[]⟩, .int .i64 2]) ∧ St w0 w' (sesB b l lw (.slice none 0 0) out * F) := by
  obtain ⟨p, q, hp, h⟩ := sesB_open h
  have c15 : w.cell? ⟨b, 15, none⟩ = some (.slice none 0 0) := h.cell 15 rfl
  have H := Lib.hid h; clear h
  go_enter Tryz.func35, Tryz.ntmps35
  go_wp2_with (go_at_call 58; refine (fdec_nil H.out _ _ _).mono ?_; rintro e w2 ⟨rfl, h2⟩; have H3 := Lib.hid ((h2.drop_alloc (.cells #[.bool false, .bool false, .int .u64 0] 105))); clear h2 H)
  go_ret2
  exact ⟨rfl, sesB_shut hp H3.out⟩
#print axioms decode_any

theorem elemImg : ElemT Tryz.prog 34 95 7 88 (.agg #[.int .i64 0, .int .i64 0, .int .i64 0, .int .i64 0, .int .u64 0, .slice none 0 0, .slice none 0 0]) :=
  ⟨Tryz.underlying34, info_parts (by kernel_rfl), rfl, by decide⟩

set_option maxHeartbeats 40000000 in
theorem image_any {w0 w : World} {b : Nat} {lw : Bool} {out : List UInt8} {F : SProp} {g c : Nat}
    (h : St w0 w (sesB b (.slice none 0 0) lw (.slice none 0 0) out * (own 3 1 (.slice (some ⟨g, 0, none⟩) 4 c) 4 [.int .i64 2, .int .i64 1, .int .i64 1, .int .i64 8] * F))) :
    Calls Tryz.prog 30 #[.pointer (some ⟨b, 0, none⟩), .slice (some ⟨g, 0, none⟩) 4 c] w fun e w' => e = .returned (.tuple #[.string ⟨#[]⟩, .int .i64 0]) ∧
      ∃ x y n m, St w0 w' (sesB b (.slice (some ⟨x, 0, none⟩) 1 n) lw (.slice none 0 0) out * (own 95 7 (.slice (some ⟨x, 0, none⟩) 1 n) 1 (imgC (.slice (some ⟨y, 0, none⟩) 2 m)).toList * (own 84 1 (.slice (some ⟨y, 0, none⟩) 2 m) 2 [.int .u32 0, .int .u32 0] * F))) := by
  obtain ⟨p, q, hp, h⟩ := sesB_open h
  have hl : w.cell? ⟨b, 0, none⟩ = some (.slice none 0 0) := h.cell 0 rfl
  have H := Lib.hid h; clear h
  go_enter Tryz.func30, Tryz.ntmps30
  go_upto_region 3 with (fail)
  clear hl
  have hd := H.out.drew
  obtain ⟨A, hA⟩ : ∃ A, A = (blk b (sesO (.slice none 0 0) lw (.slice none 0 0) p q) * (own 5 1 q out.length (out.map bC) * (own 3 1 (.slice (some ⟨g, 0, none⟩) 4 c) 4 [.int .i64 2, .int .i64 1, .int .i64 1, .int .i64 8] * F))) := ⟨_, rfl⟩
  rw [← hA] at hd
  have HA := Lib.hid hA; clear hA H
  have hN : ∀ (w' : World) (G : SProp), St w0 w' (G * A) → w'.cell? ⟨g, 0, none⟩ = some (.int .i64 2) ∧ w'.cell? ⟨g, 1, none⟩ = some (.int .i64 1) ∧ w'.cell? ⟨g, 2, none⟩ = some (.int .i64 1) ∧ w'.cell? ⟨g, 3, none⟩ = some (.int .i64 8) := fun w' G h' => by
    rw [HA.out] at h'
    have hn := h'.right.right.right
    exact ⟨hn.own_cell (i := 0) rfl, hn.own_cell (i := 1) rfl, hn.own_cell (i := 2) rfl, hn.own_cell (i := 3) rfl⟩
  have HN := Lib.hid hN; clear hN
  refine wp_region_noPanic ?_
  refine region_till (S := fun w' : World => ∃ G, St w0 w' (G * A)) (k := 14) (by kernel_rfl) ?_
  have hS : (fun w' : World => ∃ G, St w0 w' (G * A)) w.drew := ⟨emp, hd.perm (emp_star _).symm⟩
  refine till_take0 (i := 0) (oi := ?_) (v := ?_) ?_ (by kernel_rfl) (by kernel_rfl) (by kernel_rfl) (by decide) (fun _ _ _ h => h.elim) (by assumption) (.inl ⟨?_, fun w => ?_⟩) ?_
  rotate_left 2
  · (simp only [List.getElem?_toArray, List.getElem?_cons_succ, List.getElem?_cons_zero]; rfl)
  · rfl
  · (go_simp; try with_reducible rfl)
  simp only [Act.put, List.setIfInBounds_toArray, List.set_cons_zero, List.set_cons_succ]
  refine till_take0 (i := 1) (oi := ?_) (v := ?_) ?_ (by kernel_rfl) (by kernel_rfl) (by kernel_rfl) (by decide) (fun _ _ _ h => h.elim) (by assumption) (.inl ⟨?_, fun w => ?_⟩) ?_
  rotate_left 2
  · (simp only [List.getElem?_toArray, List.getElem?_cons_succ, List.getElem?_cons_zero]; rfl)
  · rfl
  · (go_simp; try with_reducible rfl)
  simp only [Act.put, List.setIfInBounds_toArray, List.set_cons_zero, List.set_cons_succ]
  refine till_take (i := 2) (oi := ?_) (v := ?_) ?_ (by kernel_rfl) (by kernel_rfl) (by kernel_rfl) (by kernel_rfl) (by kernel_rfl) (fun _ _ _ h => h.elim) (by assumption) (.inl ⟨?_, fun w9 hSw => ?_⟩) ?_
  rotate_left 2
  · (simp only [List.getElem?_toArray, List.getElem?_cons_succ, List.getElem?_cons_zero]; rfl)
  · rfl
  · (obtain ⟨G9, hG9⟩ := hSw; obtain ⟨f0, f1, f2, f3⟩ := HN.out _ _ hG9; clear hG9; go_simp; try with_reducible rfl)
  simp only [Act.put, List.setIfInBounds_toArray, List.set_cons_zero, List.set_cons_succ]
  refine till_take0 (i := 3) (oi := ?_) (v := ?_) ?_ (by kernel_rfl) (by kernel_rfl) (by kernel_rfl) (by decide) (fun _ _ _ h => h.elim) (by assumption) (.inl ⟨?_, fun w => ?_⟩) ?_
  rotate_left 2
  · (simp only [List.getElem?_toArray, List.getElem?_cons_succ, List.getElem?_cons_zero]; rfl)
  · rfl
  · (go_simp; try with_reducible rfl)
  simp only [Act.put, List.setIfInBounds_toArray, List.set_cons_zero, List.set_cons_succ]
  refine till_take0 (i := 4) (oi := ?_) (v := ?_) ?_ (by kernel_rfl) (by kernel_rfl) (by kernel_rfl) (by decide) (fun _ _ _ h => h.elim) (by assumption) (.inl ⟨?_, fun w => ?_⟩) ?_
  rotate_left 2
  · (simp only [List.getElem?_toArray, List.getElem?_cons_succ, List.getElem?_cons_zero]; rfl)
  · rfl
  · (go_simp; try with_reducible rfl)
  simp only [Act.put, List.setIfInBounds_toArray, List.set_cons_zero, List.set_cons_succ]
  refine till_take (i := 5) (oi := ?_) (v := ?_) ?_ (by kernel_rfl) (by kernel_rfl) (by kernel_rfl) (by kernel_rfl) (by kernel_rfl) (fun _ _ _ h => h.elim) (by assumption) (.inl ⟨?_, fun w9 hSw => ?_⟩) ?_
  rotate_left 2
  · (simp only [List.getElem?_toArray, List.getElem?_cons_succ, List.getElem?_cons_zero]; rfl)
  · rfl
  · (obtain ⟨G9, hG9⟩ := hSw; obtain ⟨f0, f1, f2, f3⟩ := HN.out _ _ hG9; clear hG9; go_simp; try with_reducible rfl)
  simp only [Act.put, List.setIfInBounds_toArray, List.set_cons_zero, List.set_cons_succ]
  refine till_take0 (i := 6) (oi := ?_) (v := ?_) ?_ (by kernel_rfl) (by kernel_rfl) (by kernel_rfl) (by decide) (fun _ _ _ h => h.elim) (by assumption) (.inl ⟨?_, fun w => ?_⟩) ?_
  rotate_left 2
  · (simp only [List.getElem?_toArray, List.getElem?_cons_succ, List.getElem?_cons_zero]; rfl)
  · rfl
  · (go_simp; try with_reducible rfl)
  simp only [Act.put, List.setIfInBounds_toArray, List.set_cons_zero, List.set_cons_succ]
  refine till_take0 (i := 7) (oi := ?_) (v := ?_) ?_ (by kernel_rfl) (by kernel_rfl) (by kernel_rfl) (by decide) (fun _ _ _ h => h.elim) (by assumption) (.inl ⟨?_, fun w => ?_⟩) ?_
  rotate_left 2
  · (simp only [List.getElem?_toArray, List.getElem?_cons_succ, List.getElem?_cons_zero]; rfl)
  · rfl
  · (go_simp; try with_reducible rfl)
  simp only [Act.put, List.setIfInBounds_toArray, List.set_cons_zero, List.set_cons_succ]
  refine till_take (i := 8) (oi := ?_) (v := ?_) ?_ (by kernel_rfl) (by kernel_rfl) (by kernel_rfl) (by kernel_rfl) (by kernel_rfl) (fun _ _ _ h => h.elim) (by assumption) (.inl ⟨?_, fun w9 hSw => ?_⟩) ?_
  rotate_left 2
  · (simp only [List.getElem?_toArray, List.getElem?_cons_succ, List.getElem?_cons_zero]; rfl)
  · rfl
  · (obtain ⟨G9, hG9⟩ := hSw; obtain ⟨f0, f1, f2, f3⟩ := HN.out _ _ hG9; clear hG9; go_simp; try with_reducible rfl)
  simp only [Act.put, List.setIfInBounds_toArray, List.set_cons_zero, List.set_cons_succ]
  refine till_take0 (i := 9) (oi := ?_) (v := ?_) ?_ (by kernel_rfl) (by kernel_rfl) (by kernel_rfl) (by decide) (fun _ _ _ h => h.elim) (by assumption) (.inl ⟨?_, fun w => ?_⟩) ?_
  rotate_left 2
  · (simp only [List.getElem?_toArray, List.getElem?_cons_succ, List.getElem?_cons_zero]; rfl)
  · rfl
  · (go_simp; try with_reducible rfl)
  simp only [Act.put, List.setIfInBounds_toArray, List.set_cons_zero, List.set_cons_succ]
  refine till_take0 (i := 10) (oi := ?_) (v := ?_) ?_ (by kernel_rfl) (by kernel_rfl) (by kernel_rfl) (by decide) (fun _ _ _ h => h.elim) (by assumption) (.inl ⟨?_, fun w => ?_⟩) ?_
  rotate_left 2
  · (simp only [List.getElem?_toArray, List.getElem?_cons_succ, List.getElem?_cons_zero]; rfl)
  · rfl
  · (go_simp; try with_reducible rfl)
  simp only [Act.put, List.setIfInBounds_toArray, List.set_cons_zero, List.set_cons_succ]
  refine till_take (i := 11) (oi := ?_) (v := ?_) ?_ (by kernel_rfl) (by kernel_rfl) (by kernel_rfl) (by kernel_rfl) (by kernel_rfl) (fun _ _ _ h => h.elim) (by assumption) (.inl ⟨?_, fun w9 hSw => ?_⟩) ?_
  rotate_left 2
  · (simp only [List.getElem?_toArray, List.getElem?_cons_succ, List.getElem?_cons_zero]; rfl)
  · rfl
  · (obtain ⟨G9, hG9⟩ := hSw; obtain ⟨f0, f1, f2, f3⟩ := HN.out _ _ hG9; clear hG9; go_simp; try with_reducible rfl)
  simp only [Act.put, List.setIfInBounds_toArray, List.set_cons_zero, List.set_cons_succ]
  refine till_take0 (i := 12) (oi := ?_) (v := ?_) ?_ (by kernel_rfl) (by kernel_rfl) (by kernel_rfl) (by decide) (fun _ _ _ h => h.elim) (by assumption) (.inl ⟨?_, fun w => ?_⟩) ?_
  rotate_left 2
  · (simp only [List.getElem?_toArray, List.getElem?_cons_succ, List.getElem?_cons_zero]; rfl)
  · rfl
  · (go_simp; try with_reducible rfl)
  simp only [Act.put, List.setIfInBounds_toArray, List.set_cons_zero, List.set_cons_succ]
  have ha := hd.alloc (.cells #[.int .i64 0, .int .i64 0, .int .i64 0, .int .i64 0, .int .u64 0, .slice none 0 0, .slice none 0 0] 95)
  obtain ⟨m, hm⟩ : ∃ m, w.drew.heap.size = m := ⟨_, rfl⟩
  rw [hm] at ha
  refine till_one (i := 13) (by kernel_rfl) ?_
  refine wpOp_runTo rfl rfl (v := .pointer (some ⟨m, 0, none⟩)) (w' := w.drew.alloc (.cells #[.int .i64 0, .int .i64 0, .int .i64 0, .int .i64 0, .int .u64 0, .slice none 0 0, .slice none 0 0] 95)) (by rw [← hm]; kernel_rfl) ⟨fun _ => ⟨_, ha⟩, ?_⟩
  generalize w.drew.alloc (.cells #[.int .i64 0, .int .i64 0, .int .i64 0, .int .i64 0, .int .u64 0, .slice none 0 0, .slice none 0 0] 95) = W1 at *
  clear hm
  simp only [Act.put, List.setIfInBounds_toArray, List.set_cons_zero, List.set_cons_succ, List.getElem_toArray, List.getElem_cons_succ, List.getElem_cons_zero]
  refine till_one (i := 14) (by kernel_rfl) ?_
  refine wpOp_store (cells := #[.int .i64 2, .int .i64 1, .int .i64 1, .int .i64 8, .int .u64 0, .slice none 0 0, .slice none 0 0]) rfl rfl 95 (.tmp 6) (.tmp 25) rfl ha rfl rfl (by show _ = some 7; kernel_rfl) rfl rfl ⟨fun hf => (by cases hf), ?_⟩
  have hb := ha.setRow #[.int .i64 2, .int .i64 1, .int .i64 1, .int .i64 8, .int .u64 0, .slice none 0 0, .slice none 0 0]
  refine ⟨by kernel_rfl, NoPanic.normal ?_⟩
  generalize W1.setRow m #[.int .i64 2, .int .i64 1, .int .i64 1, .int .i64 8, .int .u64 0, .slice none 0 0, .slice none 0 0] = W2 at *
  clear ha
  simp only [Act.put, List.setIfInBounds_toArray, List.set_cons_zero, List.set_cons_succ, List.getElem_toArray, List.getElem_cons_succ, List.getElem_cons_zero]
  obtain ⟨f0, f1, f2, f3⟩ := HN.out _ _ hb
  go_upto_region 6 with (fail)
  clear f0 f1 f2 f3 hS hd
  have hd := hb.drew
  refine wp_region_noPanic ?_
  refine region_till (S := fun w' : World => ∃ G, St w0 w' (G * A)) (k := 13) (by kernel_rfl) ?_
  have hS : (fun w' : World => ∃ G, St w0 w' (G * A)) W2.drew := ⟨_, hd⟩
  refine till_take0 (i := 0) (oi := ?_) (v := ?_) ?_ (by kernel_rfl) (by kernel_rfl) (by kernel_rfl) (by decide) (fun _ _ _ h => h.elim) (by assumption) (.inl ⟨?_, fun w => ?_⟩) ?_
  rotate_left 2
  · (simp only [List.getElem?_toArray, List.getElem?_cons_succ, List.getElem?_cons_zero]; rfl)
  · rfl
  · (go_simp; try with_reducible rfl)
  simp only [Act.put, List.setIfInBounds_toArray, List.set_cons_zero, List.set_cons_succ]
  refine till_take0 (i := 1) (oi := ?_) (v := ?_) ?_ (by kernel_rfl) (by kernel_rfl) (by kernel_rfl) (by decide) (fun _ _ _ h => h.elim) (by assumption) (.inl ⟨?_, fun w => ?_⟩) ?_
  rotate_left 2
  · (simp only [List.getElem?_toArray, List.getElem?_cons_succ, List.getElem?_cons_zero]; rfl)
  · rfl
  · (go_simp; try with_reducible rfl)
  simp only [Act.put, List.setIfInBounds_toArray, List.set_cons_zero, List.set_cons_succ]
  refine till_take (i := 2) (oi := ?_) (v := ?_) ?_ (by kernel_rfl) (by kernel_rfl) (by kernel_rfl) (by kernel_rfl) (by kernel_rfl) (fun _ _ _ h => h.elim) (by assumption) (.inl ⟨?_, fun w9 hSw => ?_⟩) ?_
  rotate_left 2
  · (simp only [List.getElem?_toArray, List.getElem?_cons_succ, List.getElem?_cons_zero]; rfl)
  · rfl
  · (obtain ⟨G9, hG9⟩ := hSw; obtain ⟨f0, f1, f2, f3⟩ := HN.out _ _ hG9; clear hG9; go_simp; try with_reducible rfl)
  simp only [Act.put, List.setIfInBounds_toArray, List.set_cons_zero, List.set_cons_succ]
  refine till_take0 (i := 3) (oi := ?_) (v := ?_) ?_ (by kernel_rfl) (by kernel_rfl) (by kernel_rfl) (by decide) (fun _ _ _ h => h.elim) (by assumption) (.inl ⟨?_, fun w => ?_⟩) ?_
  rotate_left 2
  · (simp only [List.getElem?_toArray, List.getElem?_cons_succ, List.getElem?_cons_zero]; rfl)
  · rfl
  · (go_simp; try with_reducible rfl)
  simp only [Act.put, List.setIfInBounds_toArray, List.set_cons_zero, List.set_cons_succ]
  refine till_take0 (i := 4) (oi := ?_) (v := ?_) ?_ (by kernel_rfl) (by kernel_rfl) (by kernel_rfl) (by decide) (fun _ _ _ h => h.elim) (by assumption) (.inl ⟨?_, fun w => ?_⟩) ?_
  rotate_left 2
  · (simp only [List.getElem?_toArray, List.getElem?_cons_succ, List.getElem?_cons_zero]; rfl)
  · rfl
  · (go_simp; try with_reducible rfl)
  simp only [Act.put, List.setIfInBounds_toArray, List.set_cons_zero, List.set_cons_succ]
  refine till_take (i := 5) (oi := ?_) (v := ?_) ?_ (by kernel_rfl) (by kernel_rfl) (by kernel_rfl) (by kernel_rfl) (by kernel_rfl) (fun _ _ _ h => h.elim) (by assumption) (.inl ⟨?_, fun w9 hSw => ?_⟩) ?_
  rotate_left 2
  · (simp only [List.getElem?_toArray, List.getElem?_cons_succ, List.getElem?_cons_zero]; rfl)
  · rfl
  · (obtain ⟨G9, hG9⟩ := hSw; obtain ⟨f0, f1, f2, f3⟩ := HN.out _ _ hG9; clear hG9; go_simp; try with_reducible rfl)
  simp only [Act.put, List.setIfInBounds_toArray, List.set_cons_zero, List.set_cons_succ]
  refine till_take0 (i := 6) (oi := ?_) (v := ?_) ?_ (by kernel_rfl) (by kernel_rfl) (by kernel_rfl) (by decide) (fun _ _ _ h => h.elim) (by assumption) (.inl ⟨?_, fun w => ?_⟩) ?_
  rotate_left 2
  · (simp only [List.getElem?_toArray, List.getElem?_cons_succ, List.getElem?_cons_zero]; rfl)
  · rfl
  · (go_simp; try with_reducible rfl)
  simp only [Act.put, List.setIfInBounds_toArray, List.set_cons_zero, List.set_cons_succ]
  refine till_take0 (i := 7) (oi := ?_) (v := ?_) ?_ (by kernel_rfl) (by kernel_rfl) (by kernel_rfl) (by decide) (fun _ _ _ h => h.elim) (by assumption) (.inl ⟨?_, fun w => ?_⟩) ?_
  rotate_left 2
  · (simp only [List.getElem?_toArray, List.getElem?_cons_succ, List.getElem?_cons_zero]; rfl)
  · rfl
  · (go_simp; try with_reducible rfl)
  simp only [Act.put, List.setIfInBounds_toArray, List.set_cons_zero, List.set_cons_succ]
  refine till_take0 (i := 8) (oi := ?_) (v := ?_) ?_ (by kernel_rfl) (by kernel_rfl) (by kernel_rfl) (by decide) (fun _ _ _ h => h.elim) (by assumption) (.inl ⟨?_, fun w => ?_⟩) ?_
  rotate_left 2
  · (simp only [List.getElem?_toArray, List.getElem?_cons_succ, List.getElem?_cons_zero]; rfl)
  · rfl
  · (go_simp; try with_reducible rfl)
  simp only [Act.put, List.setIfInBounds_toArray, List.set_cons_zero, List.set_cons_succ]
  refine till_take (i := 9) (oi := ?_) (v := ?_) ?_ (by kernel_rfl) (by kernel_rfl) (by kernel_rfl) (by kernel_rfl) (by kernel_rfl) (fun _ _ _ h => h.elim) (by assumption) (.inl ⟨?_, fun w9 hSw => ?_⟩) ?_
  rotate_left 2
  · (simp only [List.getElem?_toArray, List.getElem?_cons_succ, List.getElem?_cons_zero]; rfl)
  · rfl
  · (obtain ⟨G9, hG9⟩ := hSw; obtain ⟨f0, f1, f2, f3⟩ := HN.out _ _ hG9; clear hG9; go_simp; try with_reducible rfl)
  simp only [Act.put, List.setIfInBounds_toArray, List.set_cons_zero, List.set_cons_succ]
  refine till_take0 (i := 10) (oi := ?_) (v := ?_) ?_ (by kernel_rfl) (by kernel_rfl) (by kernel_rfl) (by decide) (fun _ _ _ h => h.elim) (by assumption) (.inl ⟨?_, fun w => ?_⟩) ?_
  rotate_left 2
  · (simp only [List.getElem?_toArray, List.getElem?_cons_succ, List.getElem?_cons_zero]; rfl)
  · rfl
  · (go_simp; try with_reducible rfl)
  simp only [Act.put, List.setIfInBounds_toArray, List.set_cons_zero, List.set_cons_succ]
  have ha := hd.lit #[.int .u32 0, .int .u32 0] 84 2 rfl (by decide)
  obtain ⟨y, hy⟩ : ∃ y, W2.drew.heap.size = y := ⟨_, rfl⟩
  rw [hy] at ha
  refine till_one (i := 11) (by kernel_rfl) ?_
  refine wpOp_runTo rfl rfl (v := .slice (some ⟨y, 0, none⟩) 2 2) (w' := W2.drew.alloc (.cells #[.int .u32 0, .int .u32 0] 84)) (by rw [← hy]; kernel_rfl) ⟨fun _ => ⟨_, ha.perm (star_assoc _ _ _).symm⟩, ?_⟩
  generalize W2.drew.alloc (.cells #[.int .u32 0, .int .u32 0] 84) = W3 at *
  simp only [Act.put, List.setIfInBounds_toArray, List.set_cons_zero, List.set_cons_succ, List.getElem_toArray, List.getElem_cons_succ, List.getElem_cons_zero]
  refine till_one (i := 12) (by kernel_rfl) ?_
  refine wpOp_runTo rfl rfl (v := .pointer (some ⟨m, 5, none⟩)) (w' := W3) (by kernel_rfl) ⟨fun _ => ⟨_, ha.perm (star_assoc _ _ _).symm⟩, ?_⟩
  simp only [Act.put, List.setIfInBounds_toArray, List.set_cons_zero, List.set_cons_succ, List.getElem_toArray, List.getElem_cons_succ, List.getElem_cons_zero]
  have hb3 := ha.perm (star_left_comm _ _ _)
  have c5 : W3.cell? ⟨m, 5, none⟩ = some (.slice none 0 0) := hb3.cell 5 rfl
  have z5 := hb3.free 5
  refine till_one (i := 13) (by kernel_rfl) ?_
  refine wpOp_step rfl fun K' hK' => ?_
  go_simp
  refine hK' _ _ ⟨fun hf => (by cases hf), ⟨by kernel_rfl, NoPanic.normal ?_⟩⟩
  have h4 := (hb3.set 5 (.slice (some ⟨y, 0, none⟩) 2 2)).perm (star_left_comm _ _ _)
  generalize W3.setCell ⟨m, 5, none⟩ (.slice (some ⟨y, 0, none⟩) 2 2) = W4 at *
  have H4 := Lib.hid (show St w0 W4 (own 84 1 (.slice (some ⟨y, 0, none⟩) 2 2) 2 [.int .u32 0, .int .u32 0] * (blk m (.cells (imgC (.slice (some ⟨y, 0, none⟩) 2 2)) 95) * A)) from h4)
  clear h4 hb3 c5 z5 ha hS hd hK' K' hy hb
  go_upto_region 9 with (first
    | (refine wpList_load_blk rfl 95 _ rfl H4.out.right rfl Tryz.underlying95 rfl (by show _ = some 7; kernel_rfl) ?_)
    | (go_at_call 54; refine (right_any H4.out).mono ?_; rintro e W5 ⟨rfl, h5⟩; have H5 := Lib.hid h5; clear h5 H4))
  obtain ⟨B, hB⟩ : ∃ B, B = blk m (.cells (imgC (.slice (some ⟨y, 0, none⟩) 2 2)) 95) * A := ⟨_, rfl⟩
  have hd := H5.out.drew
  rw [← hB] at hd
  have hM : ∀ (w' : World) (G : SProp), St w0 w' (G * B) → St w0 w' (blk m (.cells (imgC (.slice (some ⟨y, 0, none⟩) 2 2)) 95) * A) := fun w' G h' => by
    rw [hB] at h'
    exact h'.right
  have hL : ∀ (w' : World) (G : SProp), St w0 w' (G * B) → St w0 w' (blk b (sesO (.slice none 0 0) lw (.slice none 0 0) p q) * (G * (own 5 1 q out.length (out.map bC) * (own 3 1 (.slice (some ⟨g, 0, none⟩) 4 c) 4 [.int .i64 2, .int .i64 1, .int .i64 1, .int .i64 8] * (F * blk m (.cells (imgC (.slice (some ⟨y, 0, none⟩) 2 2)) 95)))))) := fun w' G h' => by
    rw [hB, HA.out] at h'
    exact h'.perm (by ac_rfl)
  have HM := Lib.hid hM
  have HL := Lib.hid hL
  clear hM hL hB H5
  refine wp_region_noPanic ?_
  refine region_till (S := fun w' : World => ∃ G, St w0 w' (G * B)) (k := 10) (by kernel_rfl) ?_
  have hS : (fun w' : World => ∃ G, St w0 w' (G * B)) W5.drew := ⟨_, hd⟩
  refine till_take0 (i := 0) (oi := ?_) (v := ?_) ?_ (by kernel_rfl) (by kernel_rfl) (by kernel_rfl) (by decide) (fun _ _ _ h => h.elim) (by assumption) (.inl ⟨?_, fun w => ?_⟩) ?_
  rotate_left 2
  · (simp only [List.getElem?_toArray, List.getElem?_cons_succ, List.getElem?_cons_zero]; rfl)
  · rfl
  · (go_simp; try with_reducible rfl)
  simp only [Act.put, List.setIfInBounds_toArray, List.set_cons_zero, List.set_cons_succ]
  refine till_take0 (i := 1) (oi := ?_) (v := ?_) ?_ (by kernel_rfl) (by kernel_rfl) (by kernel_rfl) (by decide) (fun _ _ _ h => h.elim) (by assumption) (.inl ⟨?_, fun w => ?_⟩) ?_
  rotate_left 2
  · (simp only [List.getElem?_toArray, List.getElem?_cons_succ, List.getElem?_cons_zero]; rfl)
  · rfl
  · (go_simp; try with_reducible rfl)
  simp only [Act.put, List.setIfInBounds_toArray, List.set_cons_zero, List.set_cons_succ]
  refine till_take0 (i := 2) (oi := ?_) (v := ?_) ?_ (by kernel_rfl) (by kernel_rfl) (by kernel_rfl) (by decide) (fun _ _ _ h => h.elim) (by assumption) (.inl ⟨?_, fun w => ?_⟩) ?_
  rotate_left 2
  · (simp only [List.getElem?_toArray, List.getElem?_cons_succ, List.getElem?_cons_zero]; rfl)
  · rfl
  · (go_simp; try with_reducible rfl)
  simp only [Act.put, List.setIfInBounds_toArray, List.set_cons_zero, List.set_cons_succ]
  refine till_take0 (i := 3) (oi := ?_) (v := ?_) ?_ (by kernel_rfl) (by kernel_rfl) (by kernel_rfl) (by decide) (fun _ _ _ h => h.elim) (by assumption) (.inl ⟨?_, fun w => ?_⟩) ?_
  rotate_left 2
  · (simp only [List.getElem?_toArray, List.getElem?_cons_succ, List.getElem?_cons_zero]; rfl)
  · rfl
  · (go_simp; try with_reducible rfl)
  simp only [Act.put, List.setIfInBounds_toArray, List.set_cons_zero, List.set_cons_succ]
  refine till_take (i := 4) (oi := ?_) (v := ?_) ?_ (by kernel_rfl) (by kernel_rfl) (by kernel_rfl) (by kernel_rfl) (by kernel_rfl) (fun _ _ _ h => h.elim) (by assumption) (.inl ⟨?_, fun w9 hSw => ?_⟩) ?_
  rotate_left 2
  · (simp only [List.getElem?_toArray, List.getElem?_cons_succ, List.getElem?_cons_zero]; rfl)
  · rfl
  · (obtain ⟨G9, hG9⟩ := hSw; have f0 : w9.cell? ⟨b, 0, none⟩ = some (.slice none 0 0) := (HL.out _ _ hG9).cell 0 rfl; clear hG9; go_simp; try with_reducible rfl)
  simp only [Act.put, List.setIfInBounds_toArray, List.set_cons_zero, List.set_cons_succ]
  refine till_take (i := 5) (oi := ?_) (v := .agg (imgC (.slice (some ⟨y, 0, none⟩) 2 2))) ?_ (by kernel_rfl) (by kernel_rfl) (by kernel_rfl) (by kernel_rfl) (by kernel_rfl) (fun _ _ _ h => h.elim) (by assumption) (.inl ⟨?_, fun w9 hSw => ?_⟩) ?_
  rotate_left 1
  · (simp only [List.getElem?_toArray, List.getElem?_cons_succ, List.getElem?_cons_zero]; rfl)
  · rfl
  · exact (let ⟨G9, hG9⟩ := hSw; exec_load_blkP 95 (.tmp 6) rfl (HM.out _ _ hG9) rfl Tryz.underlying95 rfl (by show _ = some 7; kernel_rfl))
  simp only [Act.put, List.setIfInBounds_toArray, List.set_cons_zero, List.set_cons_succ]
  obtain ⟨z, hz⟩ : ∃ z, W5.drew.heap.size = z := ⟨_, rfl⟩
  have ha := hd.alloc (.cells (imgC (.slice (some ⟨y, 0, none⟩) 2 2)) 95)
  rw [hz] at ha
  refine till_one (i := 6) (by kernel_rfl) ?_
  refine wpOp_runTo rfl rfl (v := .slice (some ⟨z, 0, none⟩) 1 1) (w' := W5.drew.alloc (.cells (imgC (.slice (some ⟨y, 0, none⟩) 2 2)) 95)) (by rw [← hz]; kernel_rfl) ⟨fun _ => ⟨_, ha.perm (show _ = (blk z (.cells (imgC (.slice (some ⟨y, 0, none⟩) 2 2)) 95) * own 84 1 (.slice (some ⟨y, 0, none⟩) 2 2) 2 [.int .u32 0, .int .u32 0]) * B by ac_rfl)⟩, ?_⟩
  generalize W5.drew.alloc (.cells (imgC (.slice (some ⟨y, 0, none⟩) 2 2)) 95) = W6 at *
  simp only [Act.put, List.setIfInBounds_toArray, List.set_cons_zero, List.set_cons_succ, List.getElem_toArray, List.getElem_cons_succ, List.getElem_cons_zero]
  refine till_one (i := 7) (by kernel_rfl) ?_
  have hrd : Reads W6 7 (.slice (some ⟨z, 0, none⟩) 1 1) 1 (imgC (.slice (some ⟨y, 0, none⟩) 2 2)).toList := (St.own_blk (e := 95) (size := 7) (n := 1) (cap := 1) (xs := (imgC (.slice (some ⟨y, 0, none⟩) 2 2)).toList) ha (Nat.le_refl _) (by decide) rfl rfl).reads
  refine wpOp_append (xs := []) (n := 0) elemImg rfl rfl (.tmp 62) (.tmp 64) rfl rfl (St.own_nil 95 7 ha.right) rfl hrd (by intro u hu; simp [imgC] at hu; rcases hu with rfl | rfl | rfl | rfl | rfl | rfl <;> rfl) (by decide) (by decide) fun v' W7 h7 => ⟨fun _ => ⟨_, h7.perm (show _ = (own 95 7 v' (0 + 1) ([] ++ (imgC (.slice (some ⟨y, 0, none⟩) 2 2)).toList) * own 84 1 (.slice (some ⟨y, 0, none⟩) 2 2) 2 [.int .u32 0, .int .u32 0]) * B by ac_rfl)⟩, ?_⟩
  obtain ⟨x, n, rfl⟩ : ∃ x n, v' = .slice (some ⟨x, 0, none⟩) 1 n := by
    obtain ⟨_, ⟨_, h0, _⟩ | ⟨x, n, _, e, _⟩⟩ := h7.own_split
    · cases h0
    · exact ⟨x, n, e⟩
  clear hrd ha hS hd
  simp only [Act.put, List.setIfInBounds_toArray, List.set_cons_zero, List.set_cons_succ, List.getElem_toArray, List.getElem_cons_succ, List.getElem_cons_zero]
  have h8 := HL.out W7 (own 95 7 (.slice (some ⟨x, 0, none⟩) 1 n) (0 + 1) ([] ++ (imgC (.slice (some ⟨y, 0, none⟩) 2 2)).toList) * own 84 1 (.slice (some ⟨y, 0, none⟩) 2 2) 2 [.int .u32 0, .int .u32 0]) (h7.perm (by ac_rfl))
  have c0 : W7.cell? ⟨b, 0, none⟩ = some (.slice none 0 0) := h8.cell 0 rfl
  have z0 := h8.free 0
  have hSS : ∃ G, St w0 W7 (G * B) := ⟨_, h7.perm (show _ = (own 95 7 (.slice (some ⟨x, 0, none⟩) 1 n) (0 + 1) ([] ++ (imgC (.slice (some ⟨y, 0, none⟩) 2 2)).toList) * own 84 1 (.slice (some ⟨y, 0, none⟩) 2 2) 2 [.int .u32 0, .int .u32 0]) * B by ac_rfl)⟩
  refine till_one (i := 8) (by kernel_rfl) ?_
  refine wpOp_runTo rfl rfl (v := .pointer (some ⟨b, 0, none⟩)) (w' := W7) (by kernel_rfl) ⟨fun _ => hSS, ?_⟩
  simp only [Act.put, List.setIfInBounds_toArray, List.set_cons_zero, List.set_cons_succ, List.getElem_toArray, List.getElem_cons_succ, List.getElem_cons_zero]
  refine till_one (i := 9) (by kernel_rfl) ?_
  refine wpOp_runTo rfl rfl (v := .pointer (some ⟨b, 0, none⟩)) (w' := W7) (by kernel_rfl) ⟨fun _ => hSS, ?_⟩
  simp only [Act.put, List.setIfInBounds_toArray, List.set_cons_zero, List.set_cons_succ, List.getElem_toArray, List.getElem_cons_succ, List.getElem_cons_zero]
  refine till_one (i := 10) (by kernel_rfl) ?_
  refine wpOp_step rfl fun K' hK' => ?_
  go_simp
  refine hK' _ _ ⟨fun hf => (by cases hf), ⟨by kernel_rfl, NoPanic.normal ?_⟩⟩
  have H9 := Lib.hid (h8.set 0 (.slice (some ⟨x, 0, none⟩) 1 n))
  generalize W7.setCell ⟨b, 0, none⟩ (.slice (some ⟨x, 0, none⟩) 1 n) = W9 at *
  clear h8 c0 z0 hSS h7 hK' K'
  go_wp2_with fail
  go_ret2
  refine ⟨rfl, x, y, n, 2, sesB_shut (q := q) hp ?_⟩
  have h9 := H9.out.perm (show _ = (blk b (sesO (.slice (some ⟨x, 0, none⟩) 1 n) lw (.slice none 0 0) p q) * (own 5 1 q out.length (out.map bC) * (own 95 7 (.slice (some ⟨x, 0, none⟩) 1 n) 1 (imgC (.slice (some ⟨y, 0, none⟩) 2 2)).toList * (own 84 1 (.slice (some ⟨y, 0, none⟩) 2 2) 2 [.int .u32 0, .int .u32 0] * F)))) * (own 3 1 (.slice (some ⟨g, 0, none⟩) 4 c) 4 [.int .i64 2, .int .i64 1, .int .i64 1, .int .i64 8] * blk m (.cells (imgC (.slice (some ⟨y, 0, none⟩) 2 2)) 95)) by
    show blk b (sesO (.slice (some ⟨x, 0, none⟩) 1 n) lw (.slice none 0 0) p q) * ((own 95 7 (.slice (some ⟨x, 0, none⟩) 1 n) 1 (imgC (.slice (some ⟨y, 0, none⟩) 2 2)).toList * own 84 1 (.slice (some ⟨y, 0, none⟩) 2 2) 2 [.int .u32 0, .int .u32 0]) * (own 5 1 q out.length (out.map bC) * (own 3 1 (.slice (some ⟨g, 0, none⟩) 4 c) 4 [.int .i64 2, .int .i64 1, .int .i64 1, .int .i64 8] * (F * blk m (.cells (imgC (.slice (some ⟨y, 0, none⟩) 2 2)) 95))))) = _
    ac_rfl)
  exact h9.left
#print axioms image_any
end Go.Proofs.YtknelobnbpboiaaGreatDoor
