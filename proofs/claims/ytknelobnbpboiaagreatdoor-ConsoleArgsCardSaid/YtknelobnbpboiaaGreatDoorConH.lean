/-
  Layer 28 (console): the last image; its samples are filled.
-/
import Derived.Test.YtknelobnbpboiaaGreatDoorConG
import Derived.BigQuiet
namespace Go.Proofs.YtknelobnbpboiaaGreatDoor
open Go.RowKit Go.Mz
set_option linter.unusedVariables false
set_option linter.unusedSimpArgs false
set_option maxRecDepth 100000

set_option maxHeartbeats 4000000 in
theorem last_any {w0 w : World} {b x n : Nat} {lw : Bool} {f p q : Value} {F : SProp} (h : St w0 w (blk b (sesO (.slice (some ⟨x, 0, none⟩) 1 n) lw f p q) * F)) :
    Calls Tryz.prog 55 #[.pointer (some ⟨b, 0, none⟩)] w fun e w' => e = .returned (.tuple #[.pointer (some ⟨x, 0, none⟩), .int .i64 0]) ∧ St w0 w' (blk b (sesO (.slice (some ⟨x, 0, none⟩) 1 n) lw f p q) * F) := by
  have hl : w.cell? ⟨b, 0, none⟩ = some (.slice (some ⟨x, 0, none⟩) 1 n) := h.cell 0 rfl
  have H := Lib.hid h; clear h
  go_enter Tryz.func55, Tryz.ntmps55
  go_upto_region 3 with (fail)
  go_quiet (fail)
  go_wp2_with fail
  go_ret2
  exact ⟨rfl, H.out.drewN _⟩
#print axioms last_any
theorem own_cellS {w0 w : World} {e : TypeId} {s g n cap i : Nat} {xs : List Value} {u : Value} {F : SProp} (h : St w0 w (own e s (.slice (some ⟨g, 0, none⟩) n cap) n xs * F)) (hu : xs[i]? = some u) : w.cell? ⟨g, i, none⟩ = some u := by
  obtain ⟨hl, ⟨a1, _⟩ | ⟨x, c, a1, a2, a3, a4⟩⟩ := h.reads
  · cases a1
  · cases a1
    have := a4 i u hu
    rw [Addr.add_lit, Nat.zero_add] at this
    exact this
def fillR (k : Nat) : List Value := if k = 0 then [.int .u32 0, .int .u32 0] else if k = 1 then [.int .u32 7, .int .u32 0] else [.int .u32 7, .int .u32 8]

set_option maxHeartbeats 40000000 in
theorem fill_any {w0 w : World} {b x n y m g c : Nat} {lw : Bool} {f : Value} {out : List UInt8} {F : SProp}
    (h : St w0 w (sesB b (.slice (some ⟨x, 0, none⟩) 1 n) lw f out * (own 95 7 (.slice (some ⟨x, 0, none⟩) 1 n) 1 (imgC (.slice (some ⟨y, 0, none⟩) 2 m)).toList * (own 84 1 (.slice (some ⟨y, 0, none⟩) 2 m) 2 [.int .u32 0, .int .u32 0] * (own 3 1 (.slice (some ⟨g, 0, none⟩) 1 c) 1 [.int .i64 7] * F))))) :
    Calls Tryz.prog 32 #[.pointer (some ⟨b, 0, none⟩), .slice (some ⟨g, 0, none⟩) 1 c] w fun e w' => e = .returned (.tuple #[.string ⟨#[]⟩, .int .i64 0]) ∧
      St w0 w' (sesB b (.slice (some ⟨x, 0, none⟩) 1 n) lw f out * (own 95 7 (.slice (some ⟨x, 0, none⟩) 1 n) 1 (imgC (.slice (some ⟨y, 0, none⟩) 2 m)).toList * (own 84 1 (.slice (some ⟨y, 0, none⟩) 2 m) 2 [.int .u32 7, .int .u32 8] * F))) := by
  obtain ⟨p, q, hp, h⟩ := sesB_open h
  have hla := last_any h
  have HLA := Lib.hid hla
  obtain ⟨B, hB⟩ : ∃ B, B = blk b (sesO (.slice (some ⟨x, 0, none⟩) 1 n) lw f p q) * (own 5 1 q out.length (out.map bC) * (own 95 7 (.slice (some ⟨x, 0, none⟩) 1 n) 1 (imgC (.slice (some ⟨y, 0, none⟩) 2 m)).toList * (own 3 1 (.slice (some ⟨g, 0, none⟩) 1 c) 1 [.int .i64 7] * F))) := ⟨_, rfl⟩
  have hX : ∀ (w' : World) (G : SProp), St w0 w' (G * B) → w'.cell? ⟨x, 5, none⟩ = some (.slice (some ⟨y, 0, none⟩) 2 m) ∧ w'.cell? ⟨x, 3, none⟩ = some (.int .i64 8) ∧ w'.cell? ⟨g, 0, none⟩ = some (.int .i64 7) := fun w' G h' => by
    rw [hB] at h'
    have h2 := h'.right.right.right
    exact ⟨own_cellS h2 rfl, own_cellS h2 rfl, h2.right.own_cell (i := 0) rfl⟩
  have hG : ∀ w', St w0 w' (blk b (sesO (.slice (some ⟨x, 0, none⟩) 1 n) lw f p q) * (own 5 1 q out.length (out.map bC) * (own 95 7 (.slice (some ⟨x, 0, none⟩) 1 n) 1 (imgC (.slice (some ⟨y, 0, none⟩) 2 m)).toList * (own 84 1 (.slice (some ⟨y, 0, none⟩) 2 m) 2 [.int .u32 0, .int .u32 0] * (own 3 1 (.slice (some ⟨g, 0, none⟩) 1 c) 1 [.int .i64 7] * F))))) → St w0 w' (own 84 1 (.slice (some ⟨y, 0, none⟩) 2 m) 2 (fillR 0) * B) := fun w' h' => by
    rw [hB]
    exact h'.perm (by show _ = own 84 1 (.slice (some ⟨y, 0, none⟩) 2 m) 2 [.int .u32 0, .int .u32 0] * _; ac_rfl)
  have hE : ∀ w', St w0 w' (own 84 1 (.slice (some ⟨y, 0, none⟩) 2 m) 2 (fillR 2) * B) → St w0 w' (sesB b (.slice (some ⟨x, 0, none⟩) 1 n) lw f out * (own 95 7 (.slice (some ⟨x, 0, none⟩) 1 n) 1 (imgC (.slice (some ⟨y, 0, none⟩) 2 m)).toList * (own 84 1 (.slice (some ⟨y, 0, none⟩) 2 m) 2 [.int .u32 7, .int .u32 8] * F))) := fun w' h' => by
    rw [hB] at h'
    have h9 := h'.perm (show _ = (blk b (sesO (.slice (some ⟨x, 0, none⟩) 1 n) lw f p q) * (own 5 1 q out.length (out.map bC) * (own 95 7 (.slice (some ⟨x, 0, none⟩) 1 n) 1 (imgC (.slice (some ⟨y, 0, none⟩) 2 m)).toList * (own 84 1 (.slice (some ⟨y, 0, none⟩) 2 m) 2 [.int .u32 7, .int .u32 8] * F)))) * own 3 1 (.slice (some ⟨g, 0, none⟩) 1 c) 1 [.int .i64 7] by
      show own 84 1 (.slice (some ⟨y, 0, none⟩) 2 m) 2 [.int .u32 7, .int .u32 8] * _ = _; ac_rfl)
    exact sesB_shut hp h9.left
  have HX := Lib.hid hX; have HG := Lib.hid hG; have HE := Lib.hid hE
  clear hX hG hE hla h hB
  go_enter Tryz.func32, Tryz.ntmps32
  go_upto_region 4 with (go_at_call 55; refine HLA.out.mono ?_; rintro e w1 ⟨rfl, h1⟩; have H1 := Lib.hid (HG.out _ h1); clear h1 HLA HG)
  obtain ⟨f5, f3, f0⟩ := HX.out _ _ H1.out
  go_wp2
  go_loopw [22] (fun vi wr => ∃ k : Nat, k ≤ 2 ∧ vi = .int .i64 k ∧ St w0 wr (own 84 1 (.slice (some ⟨y, 0, none⟩) 2 m) 2 (fillR k) * B)) (fun vi _ => 2 - (intOf vi).toNat)
  case atStart => exact ⟨0, by omega, rfl, H1.out⟩
  clear f5 f3 f0 H1
  case round =>
    obtain ⟨k, hk, rfl, h2⟩ := hrel
    have H2 := Lib.hid h2; clear h2
    rcases (by omega : k = 0 ∨ k = 1 ∨ k = 2) with rfl | rfl | rfl
    · go_upto_region 7 with (fail)
      clear hk
      have hd := H2.out.drew
      refine wp_region_noPanic ?_
      refine region_till (S := fun w' : World => ∃ G, St w0 w' (G * B)) (k := 18) (by kernel_rfl) ?_
      have hS : (fun w' : World => ∃ G, St w0 w' (G * B)) wr.drew := ⟨_, hd⟩
      refine till_take0 (i := 0) (oi := ?_) (v := ?_) ?_ (by kernel_rfl) (by kernel_rfl) (by kernel_rfl) (by decide) (fun _ _ _ h => h.elim) (by assumption) (.inl ⟨?_, fun w => ?_⟩) ?_
      rotate_left 2
      · (simp only [List.getElem?_toArray, List.getElem?_cons_succ, List.getElem?_cons_zero]; rfl)
      · rfl
      · (go_simp; try with_reducible rfl)
      simp only [Act.put, List.setIfInBounds_toArray, List.set_cons_zero, List.set_cons_succ]
      refine till_take0 (i := 1) (oi := ?_) (v := ?_) ?_ (by kernel_rfl) (by kernel_rfl) (by kernel_rfl) (by decide) (fun _ _ _ h => h.elim) (by assumption) (.inl ⟨?_, fun w => ?_⟩) ?_
      rotate_left 2
      · (simp only [List.getElem?_toArray, List.getElem?_cons_succ, List.getElem?_cons_zero]; rfl)
      · rfl
      · (go_simp; try with_reducible rfl)
      simp only [Act.put, List.setIfInBounds_toArray, List.set_cons_zero, List.set_cons_succ]
      refine till_take0 (i := 2) (oi := ?_) (v := ?_) ?_ (by kernel_rfl) (by kernel_rfl) (by kernel_rfl) (by decide) (fun _ _ _ h => h.elim) (by assumption) (.inl ⟨?_, fun w => ?_⟩) ?_
      rotate_left 2
      · (simp only [List.getElem?_toArray, List.getElem?_cons_succ, List.getElem?_cons_zero]; rfl)
      · rfl
      · (go_simp; try with_reducible rfl)
      simp only [Act.put, List.setIfInBounds_toArray, List.set_cons_zero, List.set_cons_succ]
      refine till_take (i := 3) (oi := ?_) (v := ?_) ?_ (by kernel_rfl) (by kernel_rfl) (by kernel_rfl) (by kernel_rfl) (by kernel_rfl) (fun _ _ _ h => h.elim) (by assumption) (.inl ⟨?_, fun w9 hSw => ?_⟩) ?_
      rotate_left 2
      · (simp only [List.getElem?_toArray, List.getElem?_cons_succ, List.getElem?_cons_zero]; rfl)
      · rfl
      · (obtain ⟨G9, hG9⟩ := hSw; obtain ⟨f5, f3, f0⟩ := HX.out _ _ hG9; clear hG9; go_simp; try with_reducible rfl)
      simp only [Act.put, List.setIfInBounds_toArray, List.set_cons_zero, List.set_cons_succ]
      refine till_take0 (i := 4) (oi := ?_) (v := ?_) ?_ (by kernel_rfl) (by kernel_rfl) (by kernel_rfl) (by decide) (fun _ _ _ h => h.elim) (by assumption) (.inl ⟨?_, fun w => ?_⟩) ?_
      rotate_left 2
      · (simp only [List.getElem?_toArray, List.getElem?_cons_succ, List.getElem?_cons_zero]; rfl)
      · rfl
      · (go_simp; try with_reducible rfl)
      simp only [Act.put, List.setIfInBounds_toArray, List.set_cons_zero, List.set_cons_succ]
      refine till_take0 (i := 5) (oi := ?_) (v := ?_) ?_ (by kernel_rfl) (by kernel_rfl) (by kernel_rfl) (by decide) (fun _ _ _ h => h.elim) (by assumption) (.inl ⟨?_, fun w => ?_⟩) ?_
      rotate_left 2
      · (simp only [List.getElem?_toArray, List.getElem?_cons_succ, List.getElem?_cons_zero]; rfl)
      · rfl
      · (go_simp; try with_reducible rfl)
      simp only [Act.put, List.setIfInBounds_toArray, List.set_cons_zero, List.set_cons_succ]
      refine till_take0 (i := 6) (oi := ?_) (v := ?_) ?_ (by kernel_rfl) (by kernel_rfl) (by kernel_rfl) (by decide) (fun _ _ _ h => h.elim) (by assumption) (.inl ⟨?_, fun w => ?_⟩) ?_
      rotate_left 2
      · (simp only [List.getElem?_toArray, List.getElem?_cons_succ, List.getElem?_cons_zero]; rfl)
      · rfl
      · (go_simp; try with_reducible rfl)
      simp only [Act.put, List.setIfInBounds_toArray, List.set_cons_zero, List.set_cons_succ]
      refine till_take (i := 7) (oi := ?_) (v := ?_) ?_ (by kernel_rfl) (by kernel_rfl) (by kernel_rfl) (by kernel_rfl) (by kernel_rfl) (fun _ _ _ h => h.elim) (by assumption) (.inl ⟨?_, fun w9 hSw => ?_⟩) ?_
      rotate_left 2
      · (simp only [List.getElem?_toArray, List.getElem?_cons_succ, List.getElem?_cons_zero]; rfl)
      · rfl
      · (obtain ⟨G9, hG9⟩ := hSw; obtain ⟨f5, f3, f0⟩ := HX.out _ _ hG9; clear hG9; go_simp; try with_reducible rfl)
      simp only [Act.put, List.setIfInBounds_toArray, List.set_cons_zero, List.set_cons_succ]
      refine till_take0 (i := 8) (oi := ?_) (v := ?_) ?_ (by kernel_rfl) (by kernel_rfl) (by kernel_rfl) (by decide) (fun _ _ _ h => h.elim) (by assumption) (.inl ⟨?_, fun w => ?_⟩) ?_
      rotate_left 2
      · (simp only [List.getElem?_toArray, List.getElem?_cons_succ, List.getElem?_cons_zero]; rfl)
      · rfl
      · (go_simp; try with_reducible rfl)
      simp only [Act.put, List.setIfInBounds_toArray, List.set_cons_zero, List.set_cons_succ]
      refine till_take0 (i := 9) (oi := ?_) (v := ?_) ?_ (by kernel_rfl) (by kernel_rfl) (by kernel_rfl) (by decide) (fun _ _ _ h => h.elim) (by assumption) (.inl ⟨?_, fun w => ?_⟩) ?_
      rotate_left 2
      · (simp only [List.getElem?_toArray, List.getElem?_cons_succ, List.getElem?_cons_zero]; rfl)
      · rfl
      · (go_simp; try with_reducible rfl)
      simp only [Act.put, List.setIfInBounds_toArray, List.set_cons_zero, List.set_cons_succ]
      refine till_take0 (i := 10) (oi := ?_) (v := ?_) ?_ (by kernel_rfl) (by kernel_rfl) (by kernel_rfl) (by decide) (fun _ _ _ h => h.elim) (by assumption) (.inl ⟨?_, fun w => ?_⟩) ?_
      rotate_left 2
      · (simp only [List.getElem?_toArray, List.getElem?_cons_succ, List.getElem?_cons_zero]; rfl)
      · rfl
      · (go_simp; try with_reducible rfl)
      simp only [Act.put, List.setIfInBounds_toArray, List.set_cons_zero, List.set_cons_succ]
      refine till_take0 (i := 11) (oi := ?_) (v := ?_) ?_ (by kernel_rfl) (by kernel_rfl) (by kernel_rfl) (by decide) (fun _ _ _ h => h.elim) (by assumption) (.inl ⟨?_, fun w => ?_⟩) ?_
      rotate_left 2
      · (simp only [List.getElem?_toArray, List.getElem?_cons_succ, List.getElem?_cons_zero]; rfl)
      · rfl
      · (go_simp; try with_reducible rfl)
      simp only [Act.put, List.setIfInBounds_toArray, List.set_cons_zero, List.set_cons_succ]
      refine till_take0 (i := 12) (oi := ?_) (v := ?_) ?_ (by kernel_rfl) (by kernel_rfl) (by kernel_rfl) (by decide) (fun _ _ _ h => h.elim) (by assumption) (.inl ⟨?_, fun w => ?_⟩) ?_
      rotate_left 2
      · (simp only [List.getElem?_toArray, List.getElem?_cons_succ, List.getElem?_cons_zero]; rfl)
      · rfl
      · (go_simp; try with_reducible rfl)
      simp only [Act.put, List.setIfInBounds_toArray, List.set_cons_zero, List.set_cons_succ]
      refine till_take (i := 13) (oi := ?_) (v := ?_) ?_ (by kernel_rfl) (by kernel_rfl) (by kernel_rfl) (by kernel_rfl) (by kernel_rfl) (fun _ _ _ h => h.elim) (by assumption) (.inl ⟨?_, fun w9 hSw => ?_⟩) ?_
      rotate_left 2
      · (simp only [List.getElem?_toArray, List.getElem?_cons_succ, List.getElem?_cons_zero]; rfl)
      · rfl
      · (obtain ⟨G9, hG9⟩ := hSw; obtain ⟨f5, f3, f0⟩ := HX.out _ _ hG9; clear hG9; go_simp; try with_reducible rfl)
      simp only [Act.put, List.setIfInBounds_toArray, List.set_cons_zero, List.set_cons_succ]
      refine till_take0 (i := 14) (oi := ?_) (v := ?_) ?_ (by kernel_rfl) (by kernel_rfl) (by kernel_rfl) (by decide) (fun _ _ _ h => h.elim) (by assumption) (.inl ⟨?_, fun w => ?_⟩) ?_
      rotate_left 2
      · (simp only [List.getElem?_toArray, List.getElem?_cons_succ, List.getElem?_cons_zero]; rfl)
      · rfl
      · (go_simp; try with_reducible rfl)
      simp only [Act.put, List.setIfInBounds_toArray, List.set_cons_zero, List.set_cons_succ]
      refine till_take0 (i := 15) (oi := ?_) (v := .int .i64 7) ?_ (by kernel_rfl) (by kernel_rfl) (by kernel_rfl) (by decide) (fun _ _ _ h => h.elim) (by assumption) (.inl ⟨?_, fun w => ?_⟩) ?_
      rotate_left 1
      · (simp only [List.getElem?_toArray, List.getElem?_cons_succ, List.getElem?_cons_zero]; rfl)
      · rfl
      · exact (by kernel_rfl)
      simp only [Act.put, List.setIfInBounds_toArray, List.set_cons_zero, List.set_cons_succ]
      refine till_take0 (i := 16) (oi := ?_) (v := .int .u32 7) ?_ (by kernel_rfl) (by kernel_rfl) (by kernel_rfl) (by decide) (fun _ _ _ h => h.elim) (by assumption) (.inl ⟨?_, fun w => ?_⟩) ?_
      rotate_left 1
      · (simp only [List.getElem?_toArray, List.getElem?_cons_succ, List.getElem?_cons_zero]; rfl)
      · rfl
      · exact (by kernel_rfl)
      simp only [Act.put, List.setIfInBounds_toArray, List.set_cons_zero, List.set_cons_succ]
      refine till_one (i := 17) (by kernel_rfl) ?_
      refine wpOp_runTo rfl rfl (v := .pointer (some ⟨y, 0, none⟩)) (w' := wr.drew) (by kernel_rfl) ⟨fun _ => hS, ?_⟩
      simp only [Act.put, List.setIfInBounds_toArray, List.set_cons_zero, List.set_cons_succ, List.getElem_toArray, List.getElem_cons_succ, List.getElem_cons_zero]
      have c5 : wr.drew.cell? ⟨y, 0, none⟩ = some (.int .u32 0) := hd.own_cell (i := 0) rfl
      have z5 := hd.own_free 0
      refine till_one (i := 18) (by kernel_rfl) ?_
      refine wpOp_step rfl fun K' hK' => ?_
      go_simp
      refine hK' _ _ ⟨fun hf => (by cases hf), ⟨by kernel_rfl, NoPanic.normal ?_⟩⟩
      have h3 := hd.own_set 0 (.int .u32 7)
      have H3 := Lib.hid (show St w0 (wr.setCell ⟨y, 0, none⟩ (.int .u32 7)).drew (own 84 1 (.slice (some ⟨y, 0, none⟩) 2 m) 2 (fillR 1) * B) from h3)
      generalize (wr.setCell ⟨y, 0, none⟩ (.int .u32 7)).drew = W3 at *
      clear hS hd c5 z5 h3 hK' K' H2
      go_wp2
      exact ⟨⟨1, by omega, by go_num, H3.out⟩, by simp [intOf]⟩
    · go_upto_region 7 with (fail)
      clear hk
      have hd := H2.out.drew
      refine wp_region_noPanic ?_
      refine region_till (S := fun w' : World => ∃ G, St w0 w' (G * B)) (k := 18) (by kernel_rfl) ?_
      have hS : (fun w' : World => ∃ G, St w0 w' (G * B)) wr.drew := ⟨_, hd⟩
      refine till_take0 (i := 0) (oi := ?_) (v := ?_) ?_ (by kernel_rfl) (by kernel_rfl) (by kernel_rfl) (by decide) (fun _ _ _ h => h.elim) (by assumption) (.inl ⟨?_, fun w => ?_⟩) ?_
      rotate_left 2
      · (simp only [List.getElem?_toArray, List.getElem?_cons_succ, List.getElem?_cons_zero]; rfl)
      · rfl
      · (go_simp; try with_reducible rfl)
      simp only [Act.put, List.setIfInBounds_toArray, List.set_cons_zero, List.set_cons_succ]
      refine till_take0 (i := 1) (oi := ?_) (v := ?_) ?_ (by kernel_rfl) (by kernel_rfl) (by kernel_rfl) (by decide) (fun _ _ _ h => h.elim) (by assumption) (.inl ⟨?_, fun w => ?_⟩) ?_
      rotate_left 2
      · (simp only [List.getElem?_toArray, List.getElem?_cons_succ, List.getElem?_cons_zero]; rfl)
      · rfl
      · (go_simp; try with_reducible rfl)
      simp only [Act.put, List.setIfInBounds_toArray, List.set_cons_zero, List.set_cons_succ]
      refine till_take0 (i := 2) (oi := ?_) (v := ?_) ?_ (by kernel_rfl) (by kernel_rfl) (by kernel_rfl) (by decide) (fun _ _ _ h => h.elim) (by assumption) (.inl ⟨?_, fun w => ?_⟩) ?_
      rotate_left 2
      · (simp only [List.getElem?_toArray, List.getElem?_cons_succ, List.getElem?_cons_zero]; rfl)
      · rfl
      · (go_simp; try with_reducible rfl)
      simp only [Act.put, List.setIfInBounds_toArray, List.set_cons_zero, List.set_cons_succ]
      refine till_take (i := 3) (oi := ?_) (v := ?_) ?_ (by kernel_rfl) (by kernel_rfl) (by kernel_rfl) (by kernel_rfl) (by kernel_rfl) (fun _ _ _ h => h.elim) (by assumption) (.inl ⟨?_, fun w9 hSw => ?_⟩) ?_
      rotate_left 2
      · (simp only [List.getElem?_toArray, List.getElem?_cons_succ, List.getElem?_cons_zero]; rfl)
      · rfl
      · (obtain ⟨G9, hG9⟩ := hSw; obtain ⟨f5, f3, f0⟩ := HX.out _ _ hG9; clear hG9; go_simp; try with_reducible rfl)
      simp only [Act.put, List.setIfInBounds_toArray, List.set_cons_zero, List.set_cons_succ]
      refine till_take0 (i := 4) (oi := ?_) (v := ?_) ?_ (by kernel_rfl) (by kernel_rfl) (by kernel_rfl) (by decide) (fun _ _ _ h => h.elim) (by assumption) (.inl ⟨?_, fun w => ?_⟩) ?_
      rotate_left 2
      · (simp only [List.getElem?_toArray, List.getElem?_cons_succ, List.getElem?_cons_zero]; rfl)
      · rfl
      · (go_simp; try with_reducible rfl)
      simp only [Act.put, List.setIfInBounds_toArray, List.set_cons_zero, List.set_cons_succ]
      refine till_take0 (i := 5) (oi := ?_) (v := ?_) ?_ (by kernel_rfl) (by kernel_rfl) (by kernel_rfl) (by decide) (fun _ _ _ h => h.elim) (by assumption) (.inl ⟨?_, fun w => ?_⟩) ?_
      rotate_left 2
      · (simp only [List.getElem?_toArray, List.getElem?_cons_succ, List.getElem?_cons_zero]; rfl)
      · rfl
      · (go_simp; try with_reducible rfl)
      simp only [Act.put, List.setIfInBounds_toArray, List.set_cons_zero, List.set_cons_succ]
      refine till_take0 (i := 6) (oi := ?_) (v := ?_) ?_ (by kernel_rfl) (by kernel_rfl) (by kernel_rfl) (by decide) (fun _ _ _ h => h.elim) (by assumption) (.inl ⟨?_, fun w => ?_⟩) ?_
      rotate_left 2
      · (simp only [List.getElem?_toArray, List.getElem?_cons_succ, List.getElem?_cons_zero]; rfl)
      · rfl
      · (go_simp; try with_reducible rfl)
      simp only [Act.put, List.setIfInBounds_toArray, List.set_cons_zero, List.set_cons_succ]
      refine till_take (i := 7) (oi := ?_) (v := ?_) ?_ (by kernel_rfl) (by kernel_rfl) (by kernel_rfl) (by kernel_rfl) (by kernel_rfl) (fun _ _ _ h => h.elim) (by assumption) (.inl ⟨?_, fun w9 hSw => ?_⟩) ?_
      rotate_left 2
      · (simp only [List.getElem?_toArray, List.getElem?_cons_succ, List.getElem?_cons_zero]; rfl)
      · rfl
      · (obtain ⟨G9, hG9⟩ := hSw; obtain ⟨f5, f3, f0⟩ := HX.out _ _ hG9; clear hG9; go_simp; try with_reducible rfl)
      simp only [Act.put, List.setIfInBounds_toArray, List.set_cons_zero, List.set_cons_succ]
      refine till_take0 (i := 8) (oi := ?_) (v := ?_) ?_ (by kernel_rfl) (by kernel_rfl) (by kernel_rfl) (by decide) (fun _ _ _ h => h.elim) (by assumption) (.inl ⟨?_, fun w => ?_⟩) ?_
      rotate_left 2
      · (simp only [List.getElem?_toArray, List.getElem?_cons_succ, List.getElem?_cons_zero]; rfl)
      · rfl
      · (go_simp; try with_reducible rfl)
      simp only [Act.put, List.setIfInBounds_toArray, List.set_cons_zero, List.set_cons_succ]
      refine till_take0 (i := 9) (oi := ?_) (v := ?_) ?_ (by kernel_rfl) (by kernel_rfl) (by kernel_rfl) (by decide) (fun _ _ _ h => h.elim) (by assumption) (.inl ⟨?_, fun w => ?_⟩) ?_
      rotate_left 2
      · (simp only [List.getElem?_toArray, List.getElem?_cons_succ, List.getElem?_cons_zero]; rfl)
      · rfl
      · (go_simp; try with_reducible rfl)
      simp only [Act.put, List.setIfInBounds_toArray, List.set_cons_zero, List.set_cons_succ]
      refine till_take0 (i := 10) (oi := ?_) (v := ?_) ?_ (by kernel_rfl) (by kernel_rfl) (by kernel_rfl) (by decide) (fun _ _ _ h => h.elim) (by assumption) (.inl ⟨?_, fun w => ?_⟩) ?_
      rotate_left 2
      · (simp only [List.getElem?_toArray, List.getElem?_cons_succ, List.getElem?_cons_zero]; rfl)
      · rfl
      · (go_simp; try with_reducible rfl)
      simp only [Act.put, List.setIfInBounds_toArray, List.set_cons_zero, List.set_cons_succ]
      refine till_take0 (i := 11) (oi := ?_) (v := ?_) ?_ (by kernel_rfl) (by kernel_rfl) (by kernel_rfl) (by decide) (fun _ _ _ h => h.elim) (by assumption) (.inl ⟨?_, fun w => ?_⟩) ?_
      rotate_left 2
      · (simp only [List.getElem?_toArray, List.getElem?_cons_succ, List.getElem?_cons_zero]; rfl)
      · rfl
      · (go_simp; try with_reducible rfl)
      simp only [Act.put, List.setIfInBounds_toArray, List.set_cons_zero, List.set_cons_succ]
      refine till_take0 (i := 12) (oi := ?_) (v := ?_) ?_ (by kernel_rfl) (by kernel_rfl) (by kernel_rfl) (by decide) (fun _ _ _ h => h.elim) (by assumption) (.inl ⟨?_, fun w => ?_⟩) ?_
      rotate_left 2
      · (simp only [List.getElem?_toArray, List.getElem?_cons_succ, List.getElem?_cons_zero]; rfl)
      · rfl
      · (go_simp; try with_reducible rfl)
      simp only [Act.put, List.setIfInBounds_toArray, List.set_cons_zero, List.set_cons_succ]
      refine till_take (i := 13) (oi := ?_) (v := ?_) ?_ (by kernel_rfl) (by kernel_rfl) (by kernel_rfl) (by kernel_rfl) (by kernel_rfl) (fun _ _ _ h => h.elim) (by assumption) (.inl ⟨?_, fun w9 hSw => ?_⟩) ?_
      rotate_left 2
      · (simp only [List.getElem?_toArray, List.getElem?_cons_succ, List.getElem?_cons_zero]; rfl)
      · rfl
      · (obtain ⟨G9, hG9⟩ := hSw; obtain ⟨f5, f3, f0⟩ := HX.out _ _ hG9; clear hG9; go_simp; try with_reducible rfl)
      simp only [Act.put, List.setIfInBounds_toArray, List.set_cons_zero, List.set_cons_succ]
      refine till_take0 (i := 14) (oi := ?_) (v := ?_) ?_ (by kernel_rfl) (by kernel_rfl) (by kernel_rfl) (by decide) (fun _ _ _ h => h.elim) (by assumption) (.inl ⟨?_, fun w => ?_⟩) ?_
      rotate_left 2
      · (simp only [List.getElem?_toArray, List.getElem?_cons_succ, List.getElem?_cons_zero]; rfl)
      · rfl
      · (go_simp; try with_reducible rfl)
      simp only [Act.put, List.setIfInBounds_toArray, List.set_cons_zero, List.set_cons_succ]
      refine till_take0 (i := 15) (oi := ?_) (v := .int .i64 8) ?_ (by kernel_rfl) (by kernel_rfl) (by kernel_rfl) (by decide) (fun _ _ _ h => h.elim) (by assumption) (.inl ⟨?_, fun w => ?_⟩) ?_
      rotate_left 1
      · (simp only [List.getElem?_toArray, List.getElem?_cons_succ, List.getElem?_cons_zero]; rfl)
      · rfl
      · exact (by kernel_rfl)
      simp only [Act.put, List.setIfInBounds_toArray, List.set_cons_zero, List.set_cons_succ]
      refine till_take0 (i := 16) (oi := ?_) (v := .int .u32 8) ?_ (by kernel_rfl) (by kernel_rfl) (by kernel_rfl) (by decide) (fun _ _ _ h => h.elim) (by assumption) (.inl ⟨?_, fun w => ?_⟩) ?_
      rotate_left 1
      · (simp only [List.getElem?_toArray, List.getElem?_cons_succ, List.getElem?_cons_zero]; rfl)
      · rfl
      · exact (by kernel_rfl)
      simp only [Act.put, List.setIfInBounds_toArray, List.set_cons_zero, List.set_cons_succ]
      refine till_one (i := 17) (by kernel_rfl) ?_
      refine wpOp_runTo rfl rfl (v := .pointer (some ⟨y, 1, none⟩)) (w' := wr.drew) (by kernel_rfl) ⟨fun _ => hS, ?_⟩
      simp only [Act.put, List.setIfInBounds_toArray, List.set_cons_zero, List.set_cons_succ, List.getElem_toArray, List.getElem_cons_succ, List.getElem_cons_zero]
      have c5 : wr.drew.cell? ⟨y, 1, none⟩ = some (.int .u32 0) := hd.own_cell (i := 1) rfl
      have z5 := hd.own_free 1
      refine till_one (i := 18) (by kernel_rfl) ?_
      refine wpOp_step rfl fun K' hK' => ?_
      go_simp
      refine hK' _ _ ⟨fun hf => (by cases hf), ⟨by kernel_rfl, NoPanic.normal ?_⟩⟩
      have h3 := hd.own_set 1 (.int .u32 8)
      have H3 := Lib.hid (show St w0 (wr.setCell ⟨y, 1, none⟩ (.int .u32 8)).drew (own 84 1 (.slice (some ⟨y, 0, none⟩) 2 m) 2 (fillR 2) * B) from h3)
      generalize (wr.setCell ⟨y, 1, none⟩ (.int .u32 8)).drew = W3 at *
      clear hS hd c5 z5 h3 hK' K' H2
      go_wp2
      exact ⟨⟨2, by omega, by go_num, H3.out⟩, by simp [intOf]⟩
    · go_wp2_with fail
      go_ret2
      exact ⟨rfl, HE.out _ H2.out⟩
#print axioms fill_any
end Go.Proofs.YtknelobnbpboiaaGreatDoor
