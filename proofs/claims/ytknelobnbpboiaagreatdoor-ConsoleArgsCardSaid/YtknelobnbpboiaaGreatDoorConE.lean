/-
  Layer 28 (console): the options that are on or off, as a map of pointers.
-/
import Derived.Test.YtknelobnbpboiaaGreatDoorConD
import Derived.Test.YtknelobnbpboiaaGreatDoorReg3
import Derived.Great.Walk
import Derived.Deep.RegionHeld3
import Derived.Deep.CutRange
namespace Go.Proofs.YtknelobnbpboiaaGreatDoor
open Go.RowKit Go.Mz
set_option linter.unusedVariables false
set_option linter.unusedSimpArgs false
set_option maxRecDepth 100000

def ptrO (b j : Nat) : Value := .pointer (some ⟨b, j, none⟩)
def flagL (b : Nat) : List (Nat × ByteArray × Value) := [(4, ⟨#[98, 105, 103]⟩, ptrO b 1), (8, ⟨#[108, 97, 114, 103, 101]⟩, ptrO b 2), (12, ⟨#[112, 108, 97, 110, 97, 114]⟩, ptrO b 6), (16, ⟨#[112, 114, 101, 100, 105, 99, 116]⟩, ptrO b 8), (20, ⟨#[108, 111, 119]⟩, ptrO b 9), (25, ⟨#[116, 119, 111]⟩, ptrO b 10), (30, ⟨#[97, 108, 105, 103, 110, 101, 100]⟩, ptrO b 12), (35, ⟨#[101, 110, 100]⟩, ptrO b 13)]
theorem flagL_keys (b : Nat) : ((flagL b).map (·.2.1)).Nodup := by
  unfold flagL; simp only [List.map_cons, List.map_nil]; decide
theorem flagL_ix (b : Nat) : ((flagL b).map (·.1)).Nodup := by
  unfold flagL; simp only [List.map_cons, List.map_nil]; decide
theorem flagL_pos {b : Nat} {t : Nat × ByteArray × Value} (h : t ∈ flagL b) : t.1 ≠ 0 := by
  have : t.1 ∈ (flagL b).map (·.1) := List.mem_map.2 ⟨t, h, rfl⟩
  unfold flagL at this
  simp only [List.map_cons, List.map_nil] at this
  intro e
  rw [e] at this
  exact absurd this (by decide)
structure InvF (w0 : World) (F : SProp) (its : List (Nat × ByteArray × Value)) (σ : Nat → Option Value) (w : World) : Prop where
  st : ∀ m, σ 0 = some (.map (some m)) → St w0 w (mapK m (itM its σ) * F)
  st0 : σ 0 = none → St w0 w F
  f0 : ∀ v, σ 0 = some v → ∃ m, v = .map (some m)
  c0 : σ 0 = none → ∀ t ∈ its, σ t.1 = none
theorem setO_ne {σ : Nat → Option Value} {i j : Nat} {v : Value} (h : j ≠ i) : setO σ i v j = σ j := by simp [setO, h]
theorem setO_at {σ : Nat → Option Value} {i : Nat} {v : Value} : setO σ i v i = some v := by simp [setO]
theorem InvF.zero {w0 w : World} {F : SProp} {b : Nat} {σ : Nat → Option Value} (h : InvF w0 F (flagL b) σ w) (h0 : σ 0 = none) : InvF w0 F (flagL b) (setO σ 0 (.map (some w.heap.size))) (w.alloc (.map #[] 0)) := by
  have hn : ∀ t ∈ flagL b, setO σ 0 (.map (some w.heap.size)) t.1 = none := fun t ht => by rw [setO_ne (flagL_pos ht)]; exact h.c0 h0 t ht
  refine ⟨fun m hm => ?_, fun e => ?_, fun v hv => ?_, fun e => ?_⟩
  · rw [setO_at] at hm
    simp only [Option.some.injEq, Value.map.injEq] at hm
    subst hm
    rw [itM_start _ hn]
    exact mapK_new (h.st0 h0)
  · rw [setO_at] at e; cases e
  · rw [setO_at] at hv; exact ⟨_, (Option.some.inj hv).symm⟩
  · rw [setO_at] at e; cases e
theorem InvF.put {w0 w w' : World} {F : SProp} {b m i : Nat} {s : ByteArray} {v u : Value} {σ : Nat → Option Value} (h : InvF w0 F (flagL b) σ w) (h0 : σ 0 = some (.map (some m))) (hm : (i, s, v) ∈ flagL b)
    (h' : St w0 w' (mapK m (putK (itM (flagL b) σ) s v) * F)) : InvF w0 F (flagL b) (setO σ i u) w' := by
  have hi : (0 : Nat) ≠ i := fun e => flagL_pos hm e.symm
  refine ⟨fun m' hm' => ?_, fun e => ?_, fun v' hv => ?_, fun e => ?_⟩
  · rw [setO_ne hi, h0] at hm'
    simp only [Option.some.injEq, Value.map.injEq] at hm'
    subst hm'
    rw [← itM_put hm (flagL_keys b) (flagL_ix b)]
    exact h'
  · rw [setO_ne hi, h0] at e; cases e
  · rw [setO_ne hi] at hv; exact h.f0 v' hv
  · rw [setO_ne hi, h0] at e; cases e
/-- Where the options that are on or off lie. -/
structure FlagM (b : Nat) (M : ByteArray → Option Value) : Prop where
  low : M ⟨#[108, 111, 119]⟩ = some (ptrO b 9)
  image : M ⟨#[105, 109, 97, 103, 101]⟩ = none
  fill : M ⟨#[102, 105, 108, 108]⟩ = none
  row : M ⟨#[114, 111, 119]⟩ = none
  decode : M ⟨#[100, 101, 99, 111, 100, 101]⟩ = none

set_option maxHeartbeats 40000000 in
theorem flags_any {w0 w : World} {F : SProp} (h : St w0 w F) (b : Nat) : Calls Tryz.prog 12 #[.pointer (some ⟨b, 1, none⟩)] w fun e w' => ∃ m M, e = .returned (.map (some m)) ∧ FlagM b M ∧ St w0 w' (mapK m M * F) := by
  have hd := h.drew
  have H := Lib.hid hd
  clear h
  go_enter Tryz.func12, Tryz.ntmps12
  go_upto_region 1 with (fail)
  refine wp_region_noPanic ?_
  refine region_till (S := fun _ => True) (k := 37) (by kernel_rfl) ?_
  have hS : (fun _ : World => True) w.drew := trivial
  refine till_take0 (i := 1) (oi := ?_) (v := ?_) ?_ (by kernel_rfl) (by kernel_rfl) (by kernel_rfl) (by decide) (fun _ _ _ h => h.elim) (by assumption) (.inl ⟨?_, fun w => ?_⟩) ?_
  rotate_left 2
  · (simp only [List.getElem?_toArray, List.getElem?_cons_succ, List.getElem?_cons_zero]; rfl)
  · rfl
  · (go_simp; try with_reducible rfl)
  simp only [Act.put, List.setIfInBounds_toArray, List.set_cons_zero, List.set_cons_succ]
  refine till_take0 (i := 2) (oi := ?_) (v := ?_) ?_ (by kernel_rfl) (by kernel_rfl) (by kernel_rfl) (by decide) (fun _ _ _ h => h.elim) (by assumption) (.inl ⟨?_, fun w => ?_⟩) ?_
  rotate_left 2
  · (simp only [List.getElem?_toArray, List.getElem?_cons_succ, List.getElem?_cons_zero]; rfl)
  · rfl
  · (go_simp; try with_reducible rfl)
  simp only [Act.put, List.setIfInBounds_toArray, List.set_cons_zero, List.set_cons_succ]
  refine till_take0 (i := 3) (oi := ?_) (v := ?_) ?_ (by kernel_rfl) (by kernel_rfl) (by kernel_rfl) (by decide) (fun _ _ _ h => h.elim) (by assumption) (.inl ⟨?_, fun w => ?_⟩) ?_
  rotate_left 2
  · (simp only [List.getElem?_toArray, List.getElem?_cons_succ, List.getElem?_cons_zero]; rfl)
  · rfl
  · (go_simp; try with_reducible rfl)
  simp only [Act.put, List.setIfInBounds_toArray, List.set_cons_zero, List.set_cons_succ]
  refine till_take0 (i := 5) (oi := ?_) (v := ?_) ?_ (by kernel_rfl) (by kernel_rfl) (by kernel_rfl) (by decide) (fun _ _ _ h => h.elim) (by assumption) (.inl ⟨?_, fun w => ?_⟩) ?_
  rotate_left 2
  · (simp only [List.getElem?_toArray, List.getElem?_cons_succ, List.getElem?_cons_zero]; rfl)
  · rfl
  · (go_simp; try with_reducible rfl)
  simp only [Act.put, List.setIfInBounds_toArray, List.set_cons_zero, List.set_cons_succ]
  refine till_take0 (i := 6) (oi := ?_) (v := ?_) ?_ (by kernel_rfl) (by kernel_rfl) (by kernel_rfl) (by decide) (fun _ _ _ h => h.elim) (by assumption) (.inl ⟨?_, fun w => ?_⟩) ?_
  rotate_left 2
  · (simp only [List.getElem?_toArray, List.getElem?_cons_succ, List.getElem?_cons_zero]; rfl)
  · rfl
  · (go_simp; try with_reducible rfl)
  simp only [Act.put, List.setIfInBounds_toArray, List.set_cons_zero, List.set_cons_succ]
  refine till_take0 (i := 7) (oi := ?_) (v := ?_) ?_ (by kernel_rfl) (by kernel_rfl) (by kernel_rfl) (by decide) (fun _ _ _ h => h.elim) (by assumption) (.inl ⟨?_, fun w => ?_⟩) ?_
  rotate_left 2
  · (simp only [List.getElem?_toArray, List.getElem?_cons_succ, List.getElem?_cons_zero]; rfl)
  · rfl
  · (go_simp; try with_reducible rfl)
  simp only [Act.put, List.setIfInBounds_toArray, List.set_cons_zero, List.set_cons_succ]
  refine till_take0 (i := 9) (oi := ?_) (v := ?_) ?_ (by kernel_rfl) (by kernel_rfl) (by kernel_rfl) (by decide) (fun _ _ _ h => h.elim) (by assumption) (.inl ⟨?_, fun w => ?_⟩) ?_
  rotate_left 2
  · (simp only [List.getElem?_toArray, List.getElem?_cons_succ, List.getElem?_cons_zero]; rfl)
  · rfl
  · (go_simp; try with_reducible rfl)
  simp only [Act.put, List.setIfInBounds_toArray, List.set_cons_zero, List.set_cons_succ]
  refine till_take0 (i := 10) (oi := ?_) (v := ?_) ?_ (by kernel_rfl) (by kernel_rfl) (by kernel_rfl) (by decide) (fun _ _ _ h => h.elim) (by assumption) (.inl ⟨?_, fun w => ?_⟩) ?_
  rotate_left 2
  · (simp only [List.getElem?_toArray, List.getElem?_cons_succ, List.getElem?_cons_zero]; rfl)
  · rfl
  · (go_simp; try with_reducible rfl)
  simp only [Act.put, List.setIfInBounds_toArray, List.set_cons_zero, List.set_cons_succ]
  refine till_take0 (i := 11) (oi := ?_) (v := ?_) ?_ (by kernel_rfl) (by kernel_rfl) (by kernel_rfl) (by decide) (fun _ _ _ h => h.elim) (by assumption) (.inl ⟨?_, fun w => ?_⟩) ?_
  rotate_left 2
  · (simp only [List.getElem?_toArray, List.getElem?_cons_succ, List.getElem?_cons_zero]; rfl)
  · rfl
  · (go_simp; try with_reducible rfl)
  simp only [Act.put, List.setIfInBounds_toArray, List.set_cons_zero, List.set_cons_succ]
  refine till_take0 (i := 13) (oi := ?_) (v := ?_) ?_ (by kernel_rfl) (by kernel_rfl) (by kernel_rfl) (by decide) (fun _ _ _ h => h.elim) (by assumption) (.inl ⟨?_, fun w => ?_⟩) ?_
  rotate_left 2
  · (simp only [List.getElem?_toArray, List.getElem?_cons_succ, List.getElem?_cons_zero]; rfl)
  · rfl
  · (go_simp; try with_reducible rfl)
  simp only [Act.put, List.setIfInBounds_toArray, List.set_cons_zero, List.set_cons_succ]
  refine till_take0 (i := 14) (oi := ?_) (v := ?_) ?_ (by kernel_rfl) (by kernel_rfl) (by kernel_rfl) (by decide) (fun _ _ _ h => h.elim) (by assumption) (.inl ⟨?_, fun w => ?_⟩) ?_
  rotate_left 2
  · (simp only [List.getElem?_toArray, List.getElem?_cons_succ, List.getElem?_cons_zero]; rfl)
  · rfl
  · (go_simp; try with_reducible rfl)
  simp only [Act.put, List.setIfInBounds_toArray, List.set_cons_zero, List.set_cons_succ]
  refine till_take0 (i := 15) (oi := ?_) (v := ?_) ?_ (by kernel_rfl) (by kernel_rfl) (by kernel_rfl) (by decide) (fun _ _ _ h => h.elim) (by assumption) (.inl ⟨?_, fun w => ?_⟩) ?_
  rotate_left 2
  · (simp only [List.getElem?_toArray, List.getElem?_cons_succ, List.getElem?_cons_zero]; rfl)
  · rfl
  · (go_simp; try with_reducible rfl)
  simp only [Act.put, List.setIfInBounds_toArray, List.set_cons_zero, List.set_cons_succ]
  refine till_take0 (i := 17) (oi := ?_) (v := ?_) ?_ (by kernel_rfl) (by kernel_rfl) (by kernel_rfl) (by decide) (fun _ _ _ h => h.elim) (by assumption) (.inl ⟨?_, fun w => ?_⟩) ?_
  rotate_left 2
  · (simp only [List.getElem?_toArray, List.getElem?_cons_succ, List.getElem?_cons_zero]; rfl)
  · rfl
  · (go_simp; try with_reducible rfl)
  simp only [Act.put, List.setIfInBounds_toArray, List.set_cons_zero, List.set_cons_succ]
  refine till_take0 (i := 18) (oi := ?_) (v := ?_) ?_ (by kernel_rfl) (by kernel_rfl) (by kernel_rfl) (by decide) (fun _ _ _ h => h.elim) (by assumption) (.inl ⟨?_, fun w => ?_⟩) ?_
  rotate_left 2
  · (simp only [List.getElem?_toArray, List.getElem?_cons_succ, List.getElem?_cons_zero]; rfl)
  · rfl
  · (go_simp; try with_reducible rfl)
  simp only [Act.put, List.setIfInBounds_toArray, List.set_cons_zero, List.set_cons_succ]
  refine till_take0 (i := 19) (oi := ?_) (v := ?_) ?_ (by kernel_rfl) (by kernel_rfl) (by kernel_rfl) (by decide) (fun _ _ _ h => h.elim) (by assumption) (.inl ⟨?_, fun w => ?_⟩) ?_
  rotate_left 2
  · (simp only [List.getElem?_toArray, List.getElem?_cons_succ, List.getElem?_cons_zero]; rfl)
  · rfl
  · (go_simp; try with_reducible rfl)
  simp only [Act.put, List.setIfInBounds_toArray, List.set_cons_zero, List.set_cons_succ]
  refine till_take0 (i := 21) (oi := ?_) (v := ?_) ?_ (by kernel_rfl) (by kernel_rfl) (by kernel_rfl) (by decide) (fun _ _ _ h => h.elim) (by assumption) (.inl ⟨?_, fun w => ?_⟩) ?_
  rotate_left 2
  · (simp only [List.getElem?_toArray, List.getElem?_cons_succ, List.getElem?_cons_zero]; rfl)
  · rfl
  · (go_simp; try with_reducible rfl)
  simp only [Act.put, List.setIfInBounds_toArray, List.set_cons_zero, List.set_cons_succ]
  refine till_take0 (i := 22) (oi := ?_) (v := ?_) ?_ (by kernel_rfl) (by kernel_rfl) (by kernel_rfl) (by decide) (fun _ _ _ h => h.elim) (by assumption) (.inl ⟨?_, fun w => ?_⟩) ?_
  rotate_left 2
  · (simp only [List.getElem?_toArray, List.getElem?_cons_succ, List.getElem?_cons_zero]; rfl)
  · rfl
  · (go_simp; try with_reducible rfl)
  simp only [Act.put, List.setIfInBounds_toArray, List.set_cons_zero, List.set_cons_succ]
  refine till_take0 (i := 23) (oi := ?_) (v := ?_) ?_ (by kernel_rfl) (by kernel_rfl) (by kernel_rfl) (by decide) (fun _ _ _ h => h.elim) (by assumption) (.inl ⟨?_, fun w => ?_⟩) ?_
  rotate_left 2
  · (simp only [List.getElem?_toArray, List.getElem?_cons_succ, List.getElem?_cons_zero]; rfl)
  · rfl
  · (go_simp; try with_reducible rfl)
  simp only [Act.put, List.setIfInBounds_toArray, List.set_cons_zero, List.set_cons_succ]
  refine till_take0 (i := 24) (oi := ?_) (v := ?_) ?_ (by kernel_rfl) (by kernel_rfl) (by kernel_rfl) (by decide) (fun _ _ _ h => h.elim) (by assumption) (.inl ⟨?_, fun w => ?_⟩) ?_
  rotate_left 2
  · (simp only [List.getElem?_toArray, List.getElem?_cons_succ, List.getElem?_cons_zero]; rfl)
  · rfl
  · (go_simp; try with_reducible rfl)
  simp only [Act.put, List.setIfInBounds_toArray, List.set_cons_zero, List.set_cons_succ]
  refine till_take0 (i := 26) (oi := ?_) (v := ?_) ?_ (by kernel_rfl) (by kernel_rfl) (by kernel_rfl) (by decide) (fun _ _ _ h => h.elim) (by assumption) (.inl ⟨?_, fun w => ?_⟩) ?_
  rotate_left 2
  · (simp only [List.getElem?_toArray, List.getElem?_cons_succ, List.getElem?_cons_zero]; rfl)
  · rfl
  · (go_simp; try with_reducible rfl)
  simp only [Act.put, List.setIfInBounds_toArray, List.set_cons_zero, List.set_cons_succ]
  refine till_take0 (i := 27) (oi := ?_) (v := ?_) ?_ (by kernel_rfl) (by kernel_rfl) (by kernel_rfl) (by decide) (fun _ _ _ h => h.elim) (by assumption) (.inl ⟨?_, fun w => ?_⟩) ?_
  rotate_left 2
  · (simp only [List.getElem?_toArray, List.getElem?_cons_succ, List.getElem?_cons_zero]; rfl)
  · rfl
  · (go_simp; try with_reducible rfl)
  simp only [Act.put, List.setIfInBounds_toArray, List.set_cons_zero, List.set_cons_succ]
  refine till_take0 (i := 28) (oi := ?_) (v := ?_) ?_ (by kernel_rfl) (by kernel_rfl) (by kernel_rfl) (by decide) (fun _ _ _ h => h.elim) (by assumption) (.inl ⟨?_, fun w => ?_⟩) ?_
  rotate_left 2
  · (simp only [List.getElem?_toArray, List.getElem?_cons_succ, List.getElem?_cons_zero]; rfl)
  · rfl
  · (go_simp; try with_reducible rfl)
  simp only [Act.put, List.setIfInBounds_toArray, List.set_cons_zero, List.set_cons_succ]
  refine till_take0 (i := 29) (oi := ?_) (v := ?_) ?_ (by kernel_rfl) (by kernel_rfl) (by kernel_rfl) (by decide) (fun _ _ _ h => h.elim) (by assumption) (.inl ⟨?_, fun w => ?_⟩) ?_
  rotate_left 2
  · (simp only [List.getElem?_toArray, List.getElem?_cons_succ, List.getElem?_cons_zero]; rfl)
  · rfl
  · (go_simp; try with_reducible rfl)
  simp only [Act.put, List.setIfInBounds_toArray, List.set_cons_zero, List.set_cons_succ]
  refine till_take0 (i := 31) (oi := ?_) (v := ?_) ?_ (by kernel_rfl) (by kernel_rfl) (by kernel_rfl) (by decide) (fun _ _ _ h => h.elim) (by assumption) (.inl ⟨?_, fun w => ?_⟩) ?_
  rotate_left 2
  · (simp only [List.getElem?_toArray, List.getElem?_cons_succ, List.getElem?_cons_zero]; rfl)
  · rfl
  · (go_simp; try with_reducible rfl)
  simp only [Act.put, List.setIfInBounds_toArray, List.set_cons_zero, List.set_cons_succ]
  refine till_take0 (i := 32) (oi := ?_) (v := ?_) ?_ (by kernel_rfl) (by kernel_rfl) (by kernel_rfl) (by decide) (fun _ _ _ h => h.elim) (by assumption) (.inl ⟨?_, fun w => ?_⟩) ?_
  rotate_left 2
  · (simp only [List.getElem?_toArray, List.getElem?_cons_succ, List.getElem?_cons_zero]; rfl)
  · rfl
  · (go_simp; try with_reducible rfl)
  simp only [Act.put, List.setIfInBounds_toArray, List.set_cons_zero, List.set_cons_succ]
  refine till_take0 (i := 33) (oi := ?_) (v := ?_) ?_ (by kernel_rfl) (by kernel_rfl) (by kernel_rfl) (by decide) (fun _ _ _ h => h.elim) (by assumption) (.inl ⟨?_, fun w => ?_⟩) ?_
  rotate_left 2
  · (simp only [List.getElem?_toArray, List.getElem?_cons_succ, List.getElem?_cons_zero]; rfl)
  · rfl
  · (go_simp; try with_reducible rfl)
  simp only [Act.put, List.setIfInBounds_toArray, List.set_cons_zero, List.set_cons_succ]
  refine till_take0 (i := 34) (oi := ?_) (v := ?_) ?_ (by kernel_rfl) (by kernel_rfl) (by kernel_rfl) (by decide) (fun _ _ _ h => h.elim) (by assumption) (.inl ⟨?_, fun w => ?_⟩) ?_
  rotate_left 2
  · (simp only [List.getElem?_toArray, List.getElem?_cons_succ, List.getElem?_cons_zero]; rfl)
  · rfl
  · (go_simp; try with_reducible rfl)
  simp only [Act.put, List.setIfInBounds_toArray, List.set_cons_zero, List.set_cons_succ]
  refine till_phaseG (InvF w0 F (flagL b)) [0, 4, 8, 12, 16, 20, 25, 30, 35] 32 (fun _ _ _ => trivial) (by kernel_rfl) rfl ?_ 2 rfl ?_ ?_
  · intro i hi σ a W9 K hσ hw hsz9 hev hval hI hK
    have e6 : a.eval (.tmp 6) = ptrO b 1 := hev 6 (by decide)
    have e9 : a.eval (.tmp 9) = ptrO b 2 := hev 9 (by decide)
    have e12 : a.eval (.tmp 12) = ptrO b 6 := hev 12 (by decide)
    have e15 : a.eval (.tmp 15) = ptrO b 8 := hev 15 (by decide)
    have e18 : a.eval (.tmp 18) = ptrO b 9 := hev 18 (by decide)
    have e22 : a.eval (.tmp 22) = ptrO b 10 := hev 22 (by decide)
    have e26 : a.eval (.tmp 26) = ptrO b 12 := hev 26 (by decide)
    have e30 : a.eval (.tmp 30) = ptrO b 13 := hev 30 (by decide)
    clear hev
    simp only [List.mem_cons, List.not_mem_nil, or_false] at hi
    rcases hi with rfl | rfl | rfl | rfl | rfl | rfl | rfl | rfl | rfl
    · exact wpOp_runTo rfl rfl (v := .map (some W9.heap.size)) (w' := W9.alloc (.map #[] 0)) (by kernel_rfl) (hK _ _ (hI.zero hσ))
    · obtain ⟨v0, h0⟩ := Option.isSome_iff_exists.1 (hw 0 (by decide) (by kernel_rfl))
      obtain ⟨m, rfl⟩ := hI.f0 v0 h0
      have hm : (4, ⟨#[98, 105, 103]⟩, ptrO b 1) ∈ flagL b := by unfold flagL; simp
      refine wpOp_insertK rfl rfl (.tmp 3) _ (.tmp 6) rfl Tryz.underlying51 Tryz.underlying9 (hI.st m h0) (hval 0 _ h0 (by kernel_rfl)) rfl e6 (itM_none hm (flagL_keys b) hσ) fun w' h' => ?_
      have hk := hK undef w' (hI.put h0 hm h')
      rw [put_big hsz9 (by kernel_rfl)] at hk
      exact hk
    · obtain ⟨v0, h0⟩ := Option.isSome_iff_exists.1 (hw 0 (by decide) (by kernel_rfl))
      obtain ⟨m, rfl⟩ := hI.f0 v0 h0
      have hm : (8, ⟨#[108, 97, 114, 103, 101]⟩, ptrO b 2) ∈ flagL b := by unfold flagL; simp
      refine wpOp_insertK rfl rfl (.tmp 3) _ (.tmp 9) rfl Tryz.underlying51 Tryz.underlying9 (hI.st m h0) (hval 0 _ h0 (by kernel_rfl)) rfl e9 (itM_none hm (flagL_keys b) hσ) fun w' h' => ?_
      have hk := hK undef w' (hI.put h0 hm h')
      rw [put_big hsz9 (by kernel_rfl)] at hk
      exact hk
    · obtain ⟨v0, h0⟩ := Option.isSome_iff_exists.1 (hw 0 (by decide) (by kernel_rfl))
      obtain ⟨m, rfl⟩ := hI.f0 v0 h0
      have hm : (12, ⟨#[112, 108, 97, 110, 97, 114]⟩, ptrO b 6) ∈ flagL b := by unfold flagL; simp
      refine wpOp_insertK rfl rfl (.tmp 3) _ (.tmp 12) rfl Tryz.underlying51 Tryz.underlying9 (hI.st m h0) (hval 0 _ h0 (by kernel_rfl)) rfl e12 (itM_none hm (flagL_keys b) hσ) fun w' h' => ?_
      have hk := hK undef w' (hI.put h0 hm h')
      rw [put_big hsz9 (by kernel_rfl)] at hk
      exact hk
    · obtain ⟨v0, h0⟩ := Option.isSome_iff_exists.1 (hw 0 (by decide) (by kernel_rfl))
      obtain ⟨m, rfl⟩ := hI.f0 v0 h0
      have hm : (16, ⟨#[112, 114, 101, 100, 105, 99, 116]⟩, ptrO b 8) ∈ flagL b := by unfold flagL; simp
      refine wpOp_insertK rfl rfl (.tmp 3) _ (.tmp 15) rfl Tryz.underlying51 Tryz.underlying9 (hI.st m h0) (hval 0 _ h0 (by kernel_rfl)) rfl e15 (itM_none hm (flagL_keys b) hσ) fun w' h' => ?_
      have hk := hK undef w' (hI.put h0 hm h')
      rw [put_big hsz9 (by kernel_rfl)] at hk
      exact hk
    · obtain ⟨v0, h0⟩ := Option.isSome_iff_exists.1 (hw 0 (by decide) (by kernel_rfl))
      obtain ⟨m, rfl⟩ := hI.f0 v0 h0
      have hm : (20, ⟨#[108, 111, 119]⟩, ptrO b 9) ∈ flagL b := by unfold flagL; simp
      refine wpOp_insertK rfl rfl (.tmp 3) _ (.tmp 18) rfl Tryz.underlying51 Tryz.underlying9 (hI.st m h0) (hval 0 _ h0 (by kernel_rfl)) rfl e18 (itM_none hm (flagL_keys b) hσ) fun w' h' => ?_
      have hk := hK undef w' (hI.put h0 hm h')
      rw [put_big hsz9 (by kernel_rfl)] at hk
      exact hk
    · obtain ⟨v0, h0⟩ := Option.isSome_iff_exists.1 (hw 0 (by decide) (by kernel_rfl))
      obtain ⟨m, rfl⟩ := hI.f0 v0 h0
      have hm : (25, ⟨#[116, 119, 111]⟩, ptrO b 10) ∈ flagL b := by unfold flagL; simp
      refine wpOp_insertK rfl rfl (.tmp 3) _ (.tmp 22) rfl Tryz.underlying51 Tryz.underlying9 (hI.st m h0) (hval 0 _ h0 (by kernel_rfl)) rfl e22 (itM_none hm (flagL_keys b) hσ) fun w' h' => ?_
      have hk := hK undef w' (hI.put h0 hm h')
      rw [put_big hsz9 (by kernel_rfl)] at hk
      exact hk
    · obtain ⟨v0, h0⟩ := Option.isSome_iff_exists.1 (hw 0 (by decide) (by kernel_rfl))
      obtain ⟨m, rfl⟩ := hI.f0 v0 h0
      have hm : (30, ⟨#[97, 108, 105, 103, 110, 101, 100]⟩, ptrO b 12) ∈ flagL b := by unfold flagL; simp
      refine wpOp_insertK rfl rfl (.tmp 3) _ (.tmp 26) rfl Tryz.underlying51 Tryz.underlying9 (hI.st m h0) (hval 0 _ h0 (by kernel_rfl)) rfl e26 (itM_none hm (flagL_keys b) hσ) fun w' h' => ?_
      have hk := hK undef w' (hI.put h0 hm h')
      rw [put_big hsz9 (by kernel_rfl)] at hk
      exact hk
    · obtain ⟨v0, h0⟩ := Option.isSome_iff_exists.1 (hw 0 (by decide) (by kernel_rfl))
      obtain ⟨m, rfl⟩ := hI.f0 v0 h0
      have hm : (35, ⟨#[101, 110, 100]⟩, ptrO b 13) ∈ flagL b := by unfold flagL; simp
      refine wpOp_insertK rfl rfl (.tmp 3) _ (.tmp 30) rfl Tryz.underlying51 Tryz.underlying9 (hI.st m h0) (hval 0 _ h0 (by kernel_rfl)) rfl e30 (itM_none hm (flagL_keys b) hσ) fun w' h' => ?_
      have hk := hK undef w' (hI.put h0 hm h')
      rw [put_big hsz9 (by kernel_rfl)] at hk
      exact hk
  · exact ⟨fun m hm => (by cases hm), fun _ => H.out, fun v hv => (by cases hv), fun _ t _ => rfl⟩
  intro vs W12 h12
  obtain ⟨m, e0⟩ := h12.f0 (vs 0) rfl
  have hst := h12.st m (by show some (vs 0) = _; rw [e0])
  have HST := Lib.hid hst
  have hall : ∀ t ∈ flagL b, (sgO [0, 4, 8, 12, 16, 20, 25, 30, 35] vs t.1).isSome = true := by
    intro t ht
    unfold flagL at ht
    simp only [List.mem_cons, List.not_mem_nil, or_false] at ht
    rcases ht with rfl | rfl | rfl | rfl | rfl | rfl | rfl | rfl <;> rfl
  have HM := Lib.hid (show FlagM b (itM (flagL b) (sgO [0, 4, 8, 12, 16, 20, 25, 30, 35] vs)) from by
    constructor <;> (rw [itM_all hall]; rfl))
  clear hst hall
  generalize itM (flagL b) (sgO [0, 4, 8, 12, 16, 20, 25, 30, 35] vs) = M at *
  change anyTill _ _ _ _ _ _ _ _ (putsR _ [(3, vs 0), (100004, vs 4), (100008, vs 8), (100012, vs 12), (100016, vs 16), (100020, vs 20), (100025, vs 25), (100030, vs 30), (100035, vs 35)]) _
  rw [e0]
  simp only [putsR, Act.put, List.setIfInBounds_toArray, List.set_cons_zero, List.set_cons_succ, List.set_nil]
  refine till_one (i := 36) (by kernel_rfl) ?_
  refine wpOp_runTo rfl rfl (v := .map (some m)) (w' := W12) (by rfl) ⟨fun h => trivial, ?_⟩
  simp only [Act.put, List.setIfInBounds_toArray, List.set_cons_zero, List.set_cons_succ]
  refine till_one (i := 37) (by kernel_rfl) ?_
  refine wpOp_runTo rfl rfl (v := .map (some m)) (w' := W12) (by rfl) ⟨fun h => trivial, ?_⟩
  simp only [Act.put, List.setIfInBounds_toArray, List.set_cons_zero, List.set_cons_succ]
  refine ⟨by kernel_rfl, NoPanic.normal ?_⟩
  clear h12
  go_wp2_with fail
  go_ret
  exact ⟨_, rfl, _, HM.out, HST.out⟩
#print axioms flags_any
end Go.Proofs.YtknelobnbpboiaaGreatDoor
