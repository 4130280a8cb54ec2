/-
  Layer 5: the table behind a Clear (package lzw).
-/
import Derived.Test.YtpjonjiofaaccaaLzwT
namespace Go.Proofs.Ytpjonjiofaaccaa
open Go.RowKit Go.Mz
set_option linter.unusedVariables false
set_option linter.unusedSimpArgs false

set_option maxRecDepth 100000 in
set_option maxHeartbeats 4000000 in
theorem start_walk {w0 w : World} {F : SProp} (h : St w0 w F) :
    Calls Try.prog 29 #[] w fun e w' => ∃ B, e = .returned (.pointer (some ⟨B, 0, none⟩)) ∧
      ∃ va vl vg, StL w0 w' (tblL B 258 va vl vg (List.replicate 258 (-1)) ((List.range 258).map UInt8.ofNat) (List.replicate 258 1) F) := by
  have H := Lib.hid h; clear h
  have TI := elemInts
  have TB := elemBytes
  go_enter Try.func29, Try.ntmps29
  go_wp2_with fail
  have h1 := St.own_nil 3 1 (St.own_nil 5 1 (St.own_nil 3 1 (H.out.alloc (.cells #[.slice none 0 0, .slice none 0 0, .slice none 0 0] 68))))
  generalize hB : w.heap.size = B at *
  generalize hW : w.alloc (.cells #[.slice none 0 0, .slice none 0 0, .slice none 0 0] 68) = W at *
  have hL : ∃ va vl vg, StL w0 W (tblL B 0 va vl vg (List.replicate 0 (-1)) ((List.range 0).map UInt8.ofNat) (List.replicate 0 1) F) := by
    refine ⟨.slice none 0 0, .slice none 0 0, .slice none 0 0, St.perm h1 ?_⟩
    simp only [tblL, prodL, List.replicate_zero, List.range_zero, List.map_nil]
    rw [star_comm F emp, emp_star]
  have HL := Lib.hid hL; clear hL h1 H hW hB
  go_loopw [5] (fun v wr => ∃ k : Nat, k ≤ 258 ∧ v = .int .i64 k ∧ ∃ va vl vg, StL w0 wr (tblL B k va vl vg (List.replicate k (-1)) ((List.range k).map UInt8.ofNat) (List.replicate k 1) F)) (fun v _ => 258 - (intOf v).toNat)
  case atStart => exact ⟨0, by omega, rfl, HL.out⟩
  case round =>
    obtain ⟨c, hc, rfl, va, vl, vg, hst⟩ := hrel
    by_cases hc2 : c < 258
    · obtain ⟨a1, k1, rfl⟩ := (hst.reads (i := 0) rfl).sub
      obtain ⟨a2, k2, rfl⟩ := (hst.reads (i := 1) rfl).sub
      obtain ⟨a3, k3, rfl⟩ := (hst.reads (i := 2) rfl).sub
      have c0 := hst.cell (i := 3) rfl 0 rfl
      have c1 := hst.cell (i := 3) rfl 1 rfl
      have c2 := hst.cell (i := 3) rfl 2 rfl
      have HS := Lib.hid hst; clear hst
      have hw8 : IntKind.u8.wrap (c : Int) = ((UInt8.ofNat c).toNat : Int) := by rw [IntKind.wrap_u8']; simp
      have hc0 : (0 : Int) ≤ c := by omega
      have hc1 : (c : Int) < 258 := by omega
      generalize hd : UInt8.ofNat c = d at *
      have HD := Lib.hid hd; clear hd
      go_wp2_with fail
      refine wp_region_noPanic ?_
      refine region_till (S := fun w' : World => w'.cell? ⟨B, 0, none⟩ = some (.slice a1 c k1) ∧ w'.cell? ⟨B, 1, none⟩ = some (.slice a2 c k2) ∧ w'.cell? ⟨B, 2, none⟩ = some (.slice a3 c k3)) (k := 23) (by kernel_rfl) ?_
      have hS : (fun w' : World => w'.cell? ⟨B, 0, none⟩ = some (.slice a1 c k1) ∧ w'.cell? ⟨B, 1, none⟩ = some (.slice a2 c k2) ∧ w'.cell? ⟨B, 2, none⟩ = some (.slice a3 c k3)) wr.drew := ⟨c0, c1, c2⟩
      refine till_take0 (i := 0) (oi := ?_) (v := ?_) ?_ (by kernel_rfl) (by kernel_rfl) (by kernel_rfl) (by decide) (fun _ _ _ h => h.elim) (by assumption) (.inl ⟨?_, fun w => ?_⟩) ?_
      rotate_left 2
      · (simp only [List.getElem?_toArray, List.getElem?_cons_succ, List.getElem?_cons_zero]; rfl)
      · rfl
      · (go_simp; try with_reducible rfl)
      simp only [Act.put, List.setIfInBounds_toArray, List.set_cons_zero, List.set_cons_succ]
      refine till_take0 (i := 1) (oi := ?_) (v := ?_) ?_ (by kernel_rfl) (by kernel_rfl) (by kernel_rfl) (by decide) (fun _ _ _ h => h.elim) (by assumption) (.inl ⟨?_, fun w => ?_⟩) ?_
      rotate_left 2
      · (simp only [List.getElem?_toArray, List.getElem?_cons_succ, List.getElem?_cons_zero]; rfl)
      · rfl
      · (go_simp; try with_reducible rfl)
      simp only [Act.put, List.setIfInBounds_toArray, List.set_cons_zero, List.set_cons_succ]
      refine till_take0 (i := 2) (oi := ?_) (v := ?_) ?_ (by kernel_rfl) (by kernel_rfl) (by kernel_rfl) (by decide) (fun _ _ _ h => h.elim) (by assumption) (.inl ⟨?_, fun w => ?_⟩) ?_
      rotate_left 2
      · (simp only [List.getElem?_toArray, List.getElem?_cons_succ, List.getElem?_cons_zero]; rfl)
      · rfl
      · (go_simp; try with_reducible rfl)
      simp only [Act.put, List.setIfInBounds_toArray, List.set_cons_zero, List.set_cons_succ]
      refine till_take0 (i := 3) (oi := ?_) (v := ?_) ?_ (by kernel_rfl) (by kernel_rfl) (by kernel_rfl) (by decide) (fun _ _ _ h => h.elim) (by assumption) (.inl ⟨?_, fun w => ?_⟩) ?_
      rotate_left 2
      · (simp only [List.getElem?_toArray, List.getElem?_cons_succ, List.getElem?_cons_zero]; rfl)
      · rfl
      · (go_simp; try with_reducible rfl)
      simp only [Act.put, List.setIfInBounds_toArray, List.set_cons_zero, List.set_cons_succ]
      refine till_take0 (i := 4) (oi := ?_) (v := ?_) ?_ (by kernel_rfl) (by kernel_rfl) (by kernel_rfl) (by decide) (fun _ _ _ h => h.elim) (by assumption) (.inl ⟨?_, fun w => ?_⟩) ?_
      rotate_left 2
      · (simp only [List.getElem?_toArray, List.getElem?_cons_succ, List.getElem?_cons_zero]; rfl)
      · rfl
      · (go_simp; try with_reducible rfl)
      simp only [Act.put, List.setIfInBounds_toArray, List.set_cons_zero, List.set_cons_succ]
      refine till_take0 (i := 5) (oi := ?_) (v := ?_) ?_ (by kernel_rfl) (by kernel_rfl) (by kernel_rfl) (by decide) (fun _ _ _ h => h.elim) (by assumption) (.inl ⟨?_, fun w => ?_⟩) ?_
      rotate_left 2
      · (simp only [List.getElem?_toArray, List.getElem?_cons_succ, List.getElem?_cons_zero]; rfl)
      · rfl
      · (go_simp; try with_reducible rfl)
      simp only [Act.put, List.setIfInBounds_toArray, List.set_cons_zero, List.set_cons_succ]
      refine till_take (i := 6) (oi := ?_) (v := ?_) ?_ (by kernel_rfl) (by kernel_rfl) (by kernel_rfl) (by kernel_rfl) (by kernel_rfl) (fun _ _ _ h => h.elim) (by assumption) (.inl ⟨?_, fun w hSw => ?_⟩) ?_
      rotate_left 2
      · (simp only [List.getElem?_toArray, List.getElem?_cons_succ, List.getElem?_cons_zero]; rfl)
      · rfl
      · ((try dsimp only at hSw); go_simp; try with_reducible rfl)
      simp only [Act.put, List.setIfInBounds_toArray, List.set_cons_zero, List.set_cons_succ]
      refine till_take0 (i := 9) (oi := ?_) (v := ?_) ?_ (by kernel_rfl) (by kernel_rfl) (by kernel_rfl) (by decide) (fun _ _ _ h => h.elim) (by assumption) (.inl ⟨?_, fun w => ?_⟩) ?_
      rotate_left 2
      · (simp only [List.getElem?_toArray, List.getElem?_cons_succ, List.getElem?_cons_zero]; rfl)
      · rfl
      · (go_simp; try with_reducible rfl)
      simp only [Act.put, List.setIfInBounds_toArray, List.set_cons_zero, List.set_cons_succ]
      refine till_take0 (i := 10) (oi := ?_) (v := ?_) ?_ (by kernel_rfl) (by kernel_rfl) (by kernel_rfl) (by decide) (fun _ _ _ h => h.elim) (by assumption) (.inl ⟨?_, fun w => ?_⟩) ?_
      rotate_left 2
      · (simp only [List.getElem?_toArray, List.getElem?_cons_succ, List.getElem?_cons_zero]; rfl)
      · rfl
      · (go_simp; try with_reducible rfl)
      simp only [Act.put, List.setIfInBounds_toArray, List.set_cons_zero, List.set_cons_succ]
      refine till_take0 (i := 11) (oi := ?_) (v := ?_) ?_ (by kernel_rfl) (by kernel_rfl) (by kernel_rfl) (by decide) (fun _ _ _ h => h.elim) (by assumption) (.inl ⟨?_, fun w => ?_⟩) ?_
      rotate_left 2
      · (simp only [List.getElem?_toArray, List.getElem?_cons_succ, List.getElem?_cons_zero]; rfl)
      · rfl
      · (go_simp; try with_reducible rfl)
      simp only [Act.put, List.setIfInBounds_toArray, List.set_cons_zero, List.set_cons_succ]
      refine till_take (i := 12) (oi := ?_) (v := ?_) ?_ (by kernel_rfl) (by kernel_rfl) (by kernel_rfl) (by kernel_rfl) (by kernel_rfl) (fun _ _ _ h => h.elim) (by assumption) (.inl ⟨?_, fun w hSw => ?_⟩) ?_
      rotate_left 2
      · (simp only [List.getElem?_toArray, List.getElem?_cons_succ, List.getElem?_cons_zero]; rfl)
      · rfl
      · ((try dsimp only at hSw); go_simp; try with_reducible rfl)
      simp only [Act.put, List.setIfInBounds_toArray, List.set_cons_zero, List.set_cons_succ]
      refine till_take0 (i := 13) (oi := ?_) (v := ?_) ?_ (by kernel_rfl) (by kernel_rfl) (by kernel_rfl) (by decide) (fun _ _ _ h => h.elim) (by assumption) (.inl ⟨?_, fun w => ?_⟩) ?_
      rotate_left 2
      · (simp only [List.getElem?_toArray, List.getElem?_cons_succ, List.getElem?_cons_zero]; rfl)
      · rfl
      · (go_simp; try with_reducible rfl)
      simp only [Act.put, List.setIfInBounds_toArray, List.set_cons_zero, List.set_cons_succ]
      refine till_take0 (i := 14) (oi := ?_) (v := ?_) ?_ (by kernel_rfl) (by kernel_rfl) (by kernel_rfl) (by decide) (fun _ _ _ h => h.elim) (by assumption) (.inl ⟨?_, fun w => ?_⟩) ?_
      rotate_left 2
      · (simp only [List.getElem?_toArray, List.getElem?_cons_succ, List.getElem?_cons_zero]; rfl)
      · rfl
      · (go_simp; try with_reducible rfl)
      simp only [Act.put, List.setIfInBounds_toArray, List.set_cons_zero, List.set_cons_succ]
      refine till_take0 (i := 17) (oi := ?_) (v := ?_) ?_ (by kernel_rfl) (by kernel_rfl) (by kernel_rfl) (by decide) (fun _ _ _ h => h.elim) (by assumption) (.inl ⟨?_, fun w => ?_⟩) ?_
      rotate_left 2
      · (simp only [List.getElem?_toArray, List.getElem?_cons_succ, List.getElem?_cons_zero]; rfl)
      · rfl
      · (go_simp; try with_reducible rfl)
      simp only [Act.put, List.setIfInBounds_toArray, List.set_cons_zero, List.set_cons_succ]
      refine till_take0 (i := 18) (oi := ?_) (v := ?_) ?_ (by kernel_rfl) (by kernel_rfl) (by kernel_rfl) (by decide) (fun _ _ _ h => h.elim) (by assumption) (.inl ⟨?_, fun w => ?_⟩) ?_
      rotate_left 2
      · (simp only [List.getElem?_toArray, List.getElem?_cons_succ, List.getElem?_cons_zero]; rfl)
      · rfl
      · (go_simp; try with_reducible rfl)
      simp only [Act.put, List.setIfInBounds_toArray, List.set_cons_zero, List.set_cons_succ]
      refine till_take0 (i := 19) (oi := ?_) (v := ?_) ?_ (by kernel_rfl) (by kernel_rfl) (by kernel_rfl) (by decide) (fun _ _ _ h => h.elim) (by assumption) (.inl ⟨?_, fun w => ?_⟩) ?_
      rotate_left 2
      · (simp only [List.getElem?_toArray, List.getElem?_cons_succ, List.getElem?_cons_zero]; rfl)
      · rfl
      · (go_simp; try with_reducible rfl)
      simp only [Act.put, List.setIfInBounds_toArray, List.set_cons_zero, List.set_cons_succ]
      refine till_take (i := 20) (oi := ?_) (v := ?_) ?_ (by kernel_rfl) (by kernel_rfl) (by kernel_rfl) (by kernel_rfl) (by kernel_rfl) (fun _ _ _ h => h.elim) (by assumption) (.inl ⟨?_, fun w hSw => ?_⟩) ?_
      rotate_left 2
      · (simp only [List.getElem?_toArray, List.getElem?_cons_succ, List.getElem?_cons_zero]; rfl)
      · rfl
      · ((try dsimp only at hSw); go_simp; try with_reducible rfl)
      simp only [Act.put, List.setIfInBounds_toArray, List.set_cons_zero, List.set_cons_succ]
      refine append3_at (w0 := w0) (F := F) (D := blk B (.cells #[.slice a1 c k1, .slice a2 c k2, .slice a3 c k3] 68)) (fuel := 9)
        ⟨42, 3, .slice a1 c k1, c, (List.replicate c (-1)).map iv, .int .i64 (-1)⟩ ⟨22, 5, .slice a2 c k2, c, ((List.range c).map UInt8.ofNat).map bv, .int .u8 d.toNat⟩ ⟨42, 3, .slice a3 c k3, c, (List.replicate c 1).map nv, .int .i64 1⟩
        7 8 15 16 21 22 15 23 29 16 24 30 (by kernel_rfl) (by kernel_rfl) ?ok1 ?ok2 ?ok3 ?hb1 ?hb2 ?hb3 ?ha1 ?ha2 ?ha3 ?hS ?hend ?h0
      case ok1 => exact ⟨⟨_, _, TI, by dsimp only; omega⟩, by dsimp only; unfold maxLen; omega, rfl⟩
      case ok2 => exact ⟨⟨_, _, TB, by dsimp only; omega⟩, by dsimp only; unfold maxLen; omega, rfl⟩
      case ok3 => exact ⟨⟨_, _, TI, by dsimp only; omega⟩, by dsimp only; unfold maxLen; omega, rfl⟩
      case ha1 =>
        intro u2 u3 v2 v3
        refine ⟨_, _, _, (by simp only [List.getElem?_toArray, List.getElem?_cons_succ, List.getElem?_cons_zero]; rfl), rfl, rfl, fun u v => ?_⟩
        simp only [fr6, Act.put, List.setIfInBounds_toArray, List.set_cons_zero, List.set_cons_succ]
        exact ⟨rfl, rfl, fun _ => trivial⟩
      case ha2 =>
        intro u2 u3 v2 v3
        refine ⟨_, _, _, (by simp only [List.getElem?_toArray, List.getElem?_cons_succ, List.getElem?_cons_zero]; rfl), rfl, rfl, fun u v => ?_⟩
        simp only [fr6, Act.put, List.setIfInBounds_toArray, List.set_cons_zero, List.set_cons_succ]
        exact ⟨rfl, rfl, fun _ => trivial⟩
      case ha3 =>
        intro u2 u3 v2 v3
        refine ⟨_, _, _, (by simp only [List.getElem?_toArray, List.getElem?_cons_succ, List.getElem?_cons_zero]; rfl), rfl, rfl, fun u v => ?_⟩
        simp only [fr6, Act.put, List.setIfInBounds_toArray, List.set_cons_zero, List.set_cons_succ]
        exact ⟨rfl, rfl, fun _ => trivial⟩
      case hS =>
        intro w' A hD hR
        exact ⟨hD.cell 0 rfl, hD.cell 1 rfl, hD.cell 2 rfl⟩
      case h0 =>
        have := HS.out.drew
        rw [HD.out] at *
        simpa [L3, apP, tmP, StL, prodL, tblL, emp_star] using this
      case hb1 =>
        intro u2 u3 v1 v2 v3 u w' K hK
        simp only [fr6, List.setIfInBounds_toArray, List.set_cons_zero, List.set_cons_succ] at hK ⊢
        refine wpOp_step (by rfl) fun K' hK' => ?_
        go_simp
        exact hK' _ _ hK
      case hb2 =>
        intro u1 u3 v1 v2 v3 u w' K hK
        simp only [fr6, List.setIfInBounds_toArray, List.set_cons_zero, List.set_cons_succ] at hK ⊢
        refine wpOp_step (by rfl) fun K' hK' => ?_
        go_simp
        exact hK' _ _ hK
      case hb3 =>
        intro u1 u2 v1 v2 v3 u w' K hK
        simp only [fr6, List.setIfInBounds_toArray, List.set_cons_zero, List.set_cons_succ] at hK ⊢
        refine wpOp_step (by rfl) fun K' hK' => ?_
        go_simp
        exact hK' _ _ hK
      case hend =>
        intro u1 u2 u3 v1 v2 v3 w' h'
        simp only [fr6, List.setIfInBounds_toArray, List.set_cons_zero, List.set_cons_succ]
        have h' : StL w0 w' [own 3 1 v1 (c + 1) ((List.replicate c (-1)).map iv ++ [.int .i64 (-1)]), own 5 1 v2 (c + 1) (((List.range c).map UInt8.ofNat).map bv ++ [.int .u8 d.toNat]), own 3 1 v3 (c + 1) ((List.replicate c 1).map nv ++ [.int .i64 1]), blk B (.cells #[.slice a1 c k1, .slice a2 c k2, .slice a3 c k3] 68), F, own 3 1 u1 1 [.int .i64 (-1)], own 5 1 u2 1 [.int .u8 d.toNat], own 3 1 u3 1 [.int .i64 1]] := h'
        obtain ⟨x1, y1, rfl⟩ := (h'.reads (i := 0) rfl).sub
        obtain ⟨x2, y2, rfl⟩ := (h'.reads (i := 1) rfl).sub
        obtain ⟨x3, y3, rfl⟩ := (h'.reads (i := 2) rfl).sub
        refine till_one (i := 23) (by kernel_rfl) ?_
        refine wpOp_step (by rfl) fun K hK => ?_
        go_simp
        refine hK _ _ ⟨fun e => (by cases e), ?_⟩
        clear hK K
        refine till_one (i := 24) (by kernel_rfl) ?_
        refine wpOp_step (by rfl) fun K hK => ?_
        go_simp
        refine hK _ _ ⟨fun e => (by cases e), ?_⟩
        clear hK K
        have f0 := h'.free (i := 3) rfl 0
        have e0 := h'.cell (i := 3) rfl 0 rfl
        have s0 := h'.set (i := 3) rfl 0 (.slice x1 (c + 1 : Nat) y1)
        clear h'
        have h' := s0
        clear s0
        refine till_one (i := 25) (by kernel_rfl) ?_
        refine wpOp_step (by rfl) fun K hK => ?_
        go_simp
        refine hK _ _ ⟨fun e => (by cases e), ?_⟩
        clear hK K
        refine till_one (i := 26) (by kernel_rfl) ?_
        refine wpOp_step (by rfl) fun K hK => ?_
        go_simp
        refine hK _ _ ⟨fun e => (by cases e), ?_⟩
        clear hK K
        refine till_one (i := 27) (by kernel_rfl) ?_
        refine wpOp_step (by rfl) fun K hK => ?_
        go_simp
        refine hK _ _ ⟨fun e => (by cases e), ?_⟩
        clear hK K
        have f1 := h'.free (i := 3) rfl 1
        have e1 := h'.cell (i := 3) rfl 1 rfl
        have s1 := h'.set (i := 3) rfl 1 (.slice x2 (c + 1 : Nat) y2)
        clear h'
        have h' := s1
        clear s1
        refine till_one (i := 28) (by kernel_rfl) ?_
        refine wpOp_step (by rfl) fun K hK => ?_
        go_simp
        refine hK _ _ ⟨fun e => (by cases e), ?_⟩
        clear hK K
        refine till_one (i := 29) (by kernel_rfl) ?_
        refine wpOp_step (by rfl) fun K hK => ?_
        go_simp
        refine hK _ _ ⟨fun e => (by cases e), ?_⟩
        clear hK K
        refine till_one (i := 30) (by kernel_rfl) ?_
        refine wpOp_step (by rfl) fun K hK => ?_
        go_simp
        refine hK _ _ ⟨fun e => (by cases e), ?_⟩
        clear hK K
        have f2 := h'.free (i := 3) rfl 2
        have e2 := h'.cell (i := 3) rfl 2 rfl
        have s2 := h'.set (i := 3) rfl 2 (.slice x3 (c + 1 : Nat) y3)
        clear h'
        have h' := s2
        clear s2
        refine till_one (i := 31) (by kernel_rfl) ?_
        refine wpOp_step (by rfl) fun K hK => ?_
        go_simp
        refine hK _ _ ⟨fun e => (by cases e), ?_⟩
        clear hK K
        refine ⟨by kernel_rfl, NoPanic.normal ?_⟩
        have HF := Lib.hid h'
        clear h' f0 e0 f1 e1 f2 e2 hS c0 c1 c2 HS
        go_wp2_with fail
        go_roundw
        case rel =>
          refine ⟨c + 1, by omega, by go_num, .slice x1 (c + 1 : Nat) y1, .slice x2 (c + 1 : Nat) y2, .slice x3 (c + 1 : Nat) y3, ?_⟩
          have hf := HF.out
          simp only [List.set_cons_zero, List.set_cons_succ, List.setIfInBounds_toArray] at hf
          have hf := StL.take (l1 := [_, _, _, _, _]) hf
          simp only [tblL, List.replicate_succ', List.range_succ, List.map_append, List.map_cons, List.map_nil, HD.out]
          exact hf
        case measure => simp [intOf]; omega
    · obtain rfl : c = 258 := by omega
      have HS := Lib.hid hst; clear hst
      go_wp2_with fail
      go_ret
      exact ⟨B, rfl, va, vl, vg, HS.out⟩
#print axioms start_walk
end Go.Proofs.Ytpjonjiofaaccaa
