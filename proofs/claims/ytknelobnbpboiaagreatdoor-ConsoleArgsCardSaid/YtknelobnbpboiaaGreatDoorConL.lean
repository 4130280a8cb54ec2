/-
  Layer 28 (console): a line that turns a flag on.
-/
import Derived.Test.YtknelobnbpboiaaGreatDoorConK
import Derived.Test.YtknelobnbpboiaaGreatDoorReg3
import Derived.Test.YtknelobnbpboiaaGreatDoorPhG
import Derived.Test.YtknelobnbpboiaaGreatDoorTagS
import Derived.Deep.RegionHeld3
import Derived.Test.YtknelobnbpboiaaGreatDoorConC
import Derived.Test.YtknelobnbpboiaaGreatDoorConE
import Derived.Test.YtknelobnbpboiaaGreatDoorConI
import Derived.Test.YtknelobnbpboiaaGreatDoorConN
import Derived.Test.YtknelobnbpboiaaGreatDoorFld
namespace Go.Proofs.YtknelobnbpboiaaGreatDoor
open Go.RowKit Go.Mz
set_option linter.unusedVariables false
set_option linter.unusedSimpArgs false
set_option maxRecDepth 100000


set_option maxHeartbeats 40000000 in
theorem line_low {w0 w : World} {b : Nat} {mx : Int} {l f : Value} {out : List UInt8} {F : SProp} {s : ByteArray}
    (h : St w0 w (sesB b l false f out * F)) (hM : ∀ w', St w0 w' F → w'.cell? ⟨2, 0, none⟩ = some (.int .i64 mx))
    (h0 : 0 < s.size) (hs0 : s[0]'h0 ≠ 35) (hs : s.size ≤ 200) (ht : (⟨(Lib.trimB s.data.toList 32).toArray⟩ : ByteArray).toList.isEmpty = false)
    (hc : Lib.countB s ⟨#[32]⟩ = 1) (hsp : Lib.splitB ⟨#[32]⟩ 0 1 s = [⟨#[108, 111, 119]⟩, ⟨#[111, 110]⟩]) (hl : out.length ≤ 90000) :
    Calls Tryz.prog 7 #[.pointer (some ⟨b, 0, none⟩), .string s] w fun e w' => e = .returned (.tuple #[]) ∧ St w0 w' (sesB b l true f (out ++ [111, 107] ++ [10]) * F) := by
  have hT := Tryz.strings_Trim_one s 32 (by decide) w (by omega)
  have HT := Lib.hid hT; clear hT
  have H := Lib.hid h; clear h
  have HMx := Lib.hid hM; have HS := Lib.hid hsp
  clear hM hsp
  have hi : (0 : Int) < (s.size : Int) := by omega
  have hz : ((((s[0]'h0).toNat : Nat) : Int) == 35) = false := by
    refine beq_eq_false_iff_ne.2 fun e => hs0 (UInt8.toNat_inj.1 ?_)
    have : (s[0]'h0).toNat = 35 := by omega
    rw [this]; rfl
  go_enter Tryz.func7, Tryz.ntmps7
  go_wp2_with (go_at_call 10; apply stop)
  refine on (HT.out.mono ?_)
  rintro e w1 ⟨rfl, hw⟩
  have h1 : St w0 w1 (sesB b l false f out * F) := by
    rcases hw with rfl | rfl
    · exact H.out
    · exact H.out.drew
  clear hw H HT
  obtain ⟨t, htt⟩ : ∃ t : ByteArray, ⟨(Lib.trimB s.data.toList 32).toArray⟩ = t := ⟨_, rfl⟩
  rw [htt] at ht
  rw [htt]
  clear htt
  have hp := Tryz.strings_Split s ⟨#[32]⟩ mx w1 (by omega) (HMx.out _ h1.right) (by decide)
  rw [hc, HS.out] at hp
  obtain ⟨q, hq⟩ : ∃ q, w1.heap.size = q := ⟨_, rfl⟩
  rw [hq] at hp
  have h2 := h1.alloc (.cells #[.string ⟨#[108, 111, 119]⟩, .string ⟨#[111, 110]⟩] 9)
  rw [hq] at h2
  have HP := Lib.hid hp
  have H2 := Lib.hid h2
  clear hp h1 h2 hq
  go_upto_region 2 with (go_at_call 11; refine HP.out.mono ?_; rintro e W1 ⟨rfl, rfl⟩)
  have h2 := H2.out
  clear H2 HP
  generalize w1.alloc (.cells #[.string ⟨#[108, 111, 119]⟩, .string ⟨#[111, 110]⟩] 9) = W1 at *
  obtain ⟨B, hB⟩ : ∃ B, B = blk q (.cells #[.string ⟨#[108, 111, 119]⟩, .string ⟨#[111, 110]⟩] 9) * (sesB b l false f out * F) := ⟨_, rfl⟩
  have h3 : St w0 W1.drew B := by rw [hB]; exact h2.drew
  have hQ : ∀ (w' : World) (G : SProp), St w0 w' (G * B) → w'.cell? ⟨q, 0, none⟩ = some (.string ⟨#[108, 111, 119]⟩) ∧ w'.cell? ⟨q, 1, none⟩ = some (.string ⟨#[111, 110]⟩) := fun w' G h' => by
    rw [hB] at h'
    have h2 := h'.right
    exact ⟨h2.cell 0 rfl, h2.cell 1 rfl⟩
  have HB := Lib.hid hB; have HQ := Lib.hid hQ
  clear h2 hB hQ
  refine wp_region_noPanic ?_
  refine region_till (S := fun w' : World => ∃ G, St w0 w' (G * B)) (k := 7) (by kernel_rfl) ?_
  have hS : (fun w' : World => ∃ G, St w0 w' (G * B)) W1.drew := ⟨emp, h3.perm (emp_star _).symm⟩
  refine till_take0 (i := 0) (oi := ?_) (v := ?_) ?_ (by kernel_rfl) (by kernel_rfl) (by kernel_rfl) (by decide) (fun _ _ _ h => h.elim) (by assumption) (.inl ⟨?_, fun w => ?_⟩) ?_
  rotate_left 2
  · (simp only [List.getElem?_toArray, List.getElem?_cons_succ, List.getElem?_cons_zero]; rfl)
  · rfl
  · (go_simp; try with_reducible rfl)
  simp only [Act.put, List.setIfInBounds_toArray, List.set_cons_zero, List.set_cons_succ]
  refine till_take0 (i := 1) (oi := ?_) (v := ?_) ?_ (by kernel_rfl) (by kernel_rfl) (by kernel_rfl) (by decide) (fun _ _ _ h => h.elim) (by assumption) (.inl ⟨?_, fun w => ?_⟩) ?_
  rotate_left 2
  · (simp only [List.getElem?_toArray, List.getElem?_cons_succ, List.getElem?_cons_zero]; rfl)
  · rfl
  · (go_simp; try with_reducible rfl)
  simp only [Act.put, List.setIfInBounds_toArray, List.set_cons_zero, List.set_cons_succ]
  refine till_take0 (i := 2) (oi := ?_) (v := ?_) ?_ (by kernel_rfl) (by kernel_rfl) (by kernel_rfl) (by decide) (fun _ _ _ h => h.elim) (by assumption) (.inl ⟨?_, fun w => ?_⟩) ?_
  rotate_left 2
  · (simp only [List.getElem?_toArray, List.getElem?_cons_succ, List.getElem?_cons_zero]; rfl)
  · rfl
  · (go_simp; try with_reducible rfl)
  simp only [Act.put, List.setIfInBounds_toArray, List.set_cons_zero, List.set_cons_succ]
  refine till_take0 (i := 4) (oi := ?_) (v := ?_) ?_ (by kernel_rfl) (by kernel_rfl) (by kernel_rfl) (by decide) (fun _ _ _ h => h.elim) (by assumption) (.inl ⟨?_, fun w => ?_⟩) ?_
  rotate_left 2
  · (simp only [List.getElem?_toArray, List.getElem?_cons_succ, List.getElem?_cons_zero]; rfl)
  · rfl
  · (go_simp; try with_reducible rfl)
  simp only [Act.put, List.setIfInBounds_toArray, List.set_cons_zero, List.set_cons_succ]
  refine till_take0 (i := 5) (oi := ?_) (v := ?_) ?_ (by kernel_rfl) (by kernel_rfl) (by kernel_rfl) (by decide) (fun _ _ _ h => h.elim) (by assumption) (.inl ⟨?_, fun w => ?_⟩) ?_
  rotate_left 2
  · (simp only [List.getElem?_toArray, List.getElem?_cons_succ, List.getElem?_cons_zero]; rfl)
  · rfl
  · (go_simp; try with_reducible rfl)
  simp only [Act.put, List.setIfInBounds_toArray, List.set_cons_zero, List.set_cons_succ]
  refine till_take (i := 6) (oi := ?_) (v := ?_) ?_ (by kernel_rfl) (by kernel_rfl) (by kernel_rfl) (by kernel_rfl) (by kernel_rfl) (fun _ _ _ h => h.elim) (by assumption) (.inl ⟨?_, fun w9 hSw => ?_⟩) ?_
  rotate_left 2
  · (simp only [List.getElem?_toArray, List.getElem?_cons_succ, List.getElem?_cons_zero]; rfl)
  · rfl
  · (obtain ⟨G9, hG9⟩ := hSw; obtain ⟨f0, f1⟩ := HQ.out _ _ hG9; clear hG9; go_simp; try with_reducible rfl)
  simp only [Act.put, List.setIfInBounds_toArray, List.set_cons_zero, List.set_cons_succ]
  refine till_one (i := 3) (by kernel_rfl) ?_
  refine wpOp_callv (args := #[.pointer (some ⟨b, 1, none⟩)]) rfl rfl (.func 12) #[.tmp 29] _ rfl rfl (by kernel_rfl) (fun args w => enters_of Tryz.func12 (by kernel_rfl) rfl args w) ((flags_any h3 b).mono ?_)
  rintro e W2 ⟨mf, hmf⟩
  obtain ⟨M, rfl, hFM, h4⟩ : ∃ M, e = .returned (.map (some mf)) ∧ FlagM b M ∧ St w0 W2 (mapK mf M * B) := by
    obtain ⟨M, e1, e2, e3⟩ := hmf
    exact ⟨M, e1, e2, e3⟩
  refine ⟨_, rfl, fun _ => ⟨_, h4⟩, ?_⟩
  simp only [Act.put, List.setIfInBounds_toArray, List.set_cons_zero, List.set_cons_succ, List.getElem_toArray, List.getElem_cons_succ, List.getElem_cons_zero]
  have hS2 : (fun w' : World => ∃ G, St w0 w' (G * B)) W2 := ⟨_, h4⟩
  have hlk := hFM.low
  refine till_one (i := 7) (by kernel_rfl) ?_
  refine wpOp_runTo rfl rfl (v := .tuple #[.pointer (some ⟨b, 9, none⟩), .bool true]) (w' := W2) ((exec_lookupK (z := .pointer none) (.tmp 30) (.tmp 33) rfl Tryz.underlying51 Tryz.underlying9 h4 rfl rfl (by kernel_rfl)).trans (by rw [hlk]; rfl)) ⟨fun _ => hS2, ?_⟩
  simp only [Act.put, List.setIfInBounds_toArray, List.set_cons_zero, List.set_cons_succ, List.getElem_toArray, List.getElem_cons_succ, List.getElem_cons_zero]
  refine till_take0 (i := 8) (oi := ?_) (v := ?_) ?_ (by kernel_rfl) (by kernel_rfl) (by kernel_rfl) (by decide) (fun _ _ _ h => h.elim) (by assumption) (.inl ⟨?_, fun w => ?_⟩) ?_
  rotate_left 2
  · (simp only [List.getElem?_toArray, List.getElem?_cons_succ, List.getElem?_cons_zero]; rfl)
  · rfl
  · (go_simp; try with_reducible rfl)
  simp only [Act.put, List.setIfInBounds_toArray, List.set_cons_zero, List.set_cons_succ]
  refine till_take0 (i := 9) (oi := ?_) (v := ?_) ?_ (by kernel_rfl) (by kernel_rfl) (by kernel_rfl) (by decide) (fun _ _ _ h => h.elim) (by assumption) (.inl ⟨?_, fun w => ?_⟩) ?_
  rotate_left 2
  · (simp only [List.getElem?_toArray, List.getElem?_cons_succ, List.getElem?_cons_zero]; rfl)
  · rfl
  · (go_simp; try with_reducible rfl)
  simp only [Act.put, List.setIfInBounds_toArray, List.set_cons_zero, List.set_cons_succ]
  refine till_take0 (i := 10) (oi := ?_) (v := ?_) ?_ (by kernel_rfl) (by kernel_rfl) (by kernel_rfl) (by decide) (fun _ _ _ h => h.elim) (by assumption) (.inl ⟨?_, fun w => ?_⟩) ?_
  rotate_left 2
  · (simp only [List.getElem?_toArray, List.getElem?_cons_succ, List.getElem?_cons_zero]; rfl)
  · rfl
  · (go_simp; try with_reducible rfl)
  simp only [Act.put, List.setIfInBounds_toArray, List.set_cons_zero, List.set_cons_succ]
  refine till_take0 (i := 11) (oi := ?_) (v := ?_) ?_ (by kernel_rfl) (by kernel_rfl) (by kernel_rfl) (by decide) (fun _ _ _ h => h.elim) (by assumption) (.inl ⟨?_, fun w => ?_⟩) ?_
  rotate_left 2
  · (simp only [List.getElem?_toArray, List.getElem?_cons_succ, List.getElem?_cons_zero]; rfl)
  · rfl
  · (go_simp; try with_reducible rfl)
  simp only [Act.put, List.setIfInBounds_toArray, List.set_cons_zero, List.set_cons_succ]
  refine till_take0 (i := 12) (oi := ?_) (v := ?_) ?_ (by kernel_rfl) (by kernel_rfl) (by kernel_rfl) (by decide) (fun _ _ _ h => h.elim) (by assumption) (.inl ⟨?_, fun w => ?_⟩) ?_
  rotate_left 2
  · (simp only [List.getElem?_toArray, List.getElem?_cons_succ, List.getElem?_cons_zero]; rfl)
  · rfl
  · (go_simp; try with_reducible rfl)
  simp only [Act.put, List.setIfInBounds_toArray, List.set_cons_zero, List.set_cons_succ]
  refine ⟨by kernel_rfl, NoPanic.normal ?_⟩
  clear hS hS2 h3
  obtain ⟨f0, f1⟩ := HQ.out _ _ h4
  have h5 := h4.right
  rw [HB.out] at h5
  have h5 := h5.right
  obtain ⟨p, r, hp, h6⟩ := sesB_open h5
  have c9 : W2.cell? ⟨b, 9, none⟩ = some (.bool false) := h6.cell 9 rfl
  have z9 := h6.free 9
  have h7 := h6.set 9 (.bool true)
  have h8 : St w0 (W2.setCell ⟨b, 9, none⟩ (.bool true)) (sesB b l true f out * F) := sesB_shut hp h7
  have HT := Lib.hid (tell_ok h8 hl)
  have hbb : ((⟨#[111, 110]⟩ : ByteArray) == ⟨#[111, 110]⟩) = true := by decide +kernel
  clear h4 h5 h6 h7 h8 hlk
  go_wp2_with fail
  refine HT.out.mono ?_
  rintro e w3 ⟨⟨v9, rfl⟩, h9⟩
  have H9 := Lib.hid h9
  clear h9 HT
  go_wp2_with fail
  refine bodyPost_ret (results_none rfl _ _ _) rfl ?_
  exact ⟨rfl, H9.out⟩
#print axioms line_low
end Go.Proofs.YtknelobnbpboiaaGreatDoor
