/-
  Parts of a proof.
-/
import Derived.Test.YtboflbdniogcdaaGreatDoorK24
import Derived.Test.YtboflbdniogcdaaGreatDoorK36
import Derived.Test.YtboflbdniogcdaaGreatDoorK06
import Derived.Test.YtboflbdniogcdaaGreatDoorK05
import Derived.Test.YtboflbdniogcdaaGreatDoorK37
import Derived.Test.YtboflbdniogcdaaGreatDoorK12
import Derived.Test.YtboflbdniogcdaaGreatDoorK22
import Derived.Test.YtboflbdniogcdaaGreatDoorK09
import Derived.Deep.LoopGhost
import Derived.Deep.Cut
import Derived.Deep.CutRange
import Derived.Test.YtboflbdniogcdaaGreatDoorK04
import Derived.Test.YtboflbdniogcdaaGreatDoorK01
import Derived.Test.YtboflbdniogcdaaGreatDoorChecked
import Derived.WalkLawsBesides
import Derived.Deep.RegionWith
import Derived.Deep.RegionHeld3
import Derived.Test.YtboflbdniogcdaaGreatDoorK08
import Derived.Deep.QuietTactic
import Derived.BigQuiet
import Derived.Laws.Rows
import Derived.Test.YtboflbdniogcdaaGreatDoorK23
import Derived.Test.YtboflbdniogcdaaGreatDoorK21
import Derived.Test.YtboflbdniogcdaaGreatDoorK27
namespace Go.Proofs.YtboflbdniogcdaaGreatDoor
open Go.RowKit Go.Mz
set_option linter.unusedVariables false
set_option linter.unusedSimpArgs false
set_option maxRecDepth 100000
def can24 (w h per : Int) : Bool := decide (1 ≤ w) && (decide (1 ≤ h) && (decide (w ≤ 32768) && (decide (h ≤ 32768) && (decide (1 ≤ per) && (decide (per ≤ 8) && decide (w * h * per ≤ 4194304))))))
set_option maxHeartbeats 4000000 in
theorem can_any (w h per : Int) (W : World) : Calls Tryz.prog 16 #[.int .i64 w, .int .i64 h, .int .i64 per] W fun r w' => r = .returned (.bool (can24 w h per)) ∧ w' = W := by
 by_cases a1 : 1 ≤ w
 rotate_left
 ·have d1 : decide (1 ≤ w) = false := decide_eq_false a1
  rw [can24, d1]; go_enter Tryz.func16, Tryz.ntmps16; go_wp2_with fail; go_ret; exact ⟨by first | rfl | simp, rfl⟩
 by_cases a2 : 1 ≤ h
 rotate_left
 ·have d1 : decide (1 ≤ w) = true := decide_eq_true a1
  have d2 : decide (1 ≤ h) = false := decide_eq_false a2
  rw [can24, d1, d2]; go_enter Tryz.func16, Tryz.ntmps16; go_wp2_with fail; go_ret; exact ⟨by first | rfl | simp, rfl⟩
 by_cases a3 : w ≤ 32768
 rotate_left
 ·have d1 : decide (1 ≤ w) = true := decide_eq_true a1
  have d2 : decide (1 ≤ h) = true := decide_eq_true a2
  have d3 : decide (w ≤ 32768) = false := decide_eq_false a3
  rw [can24, d1, d2, d3]; go_enter Tryz.func16, Tryz.ntmps16; go_wp2_with fail; go_ret; exact ⟨by first | rfl | simp, rfl⟩
 by_cases a4 : h ≤ 32768
 rotate_left
 ·have d1 : decide (1 ≤ w) = true := decide_eq_true a1
  have d2 : decide (1 ≤ h) = true := decide_eq_true a2
  have d3 : decide (w ≤ 32768) = true := decide_eq_true a3
  have d4 : decide (h ≤ 32768) = false := decide_eq_false a4
  rw [can24, d1, d2, d3, d4]; go_enter Tryz.func16, Tryz.ntmps16; go_wp2_with fail; go_ret; exact ⟨by first | rfl | simp, rfl⟩
 by_cases a5 : 1 ≤ per
 rotate_left
 ·have d1 : decide (1 ≤ w) = true := decide_eq_true a1
  have d2 : decide (1 ≤ h) = true := decide_eq_true a2
  have d3 : decide (w ≤ 32768) = true := decide_eq_true a3
  have d4 : decide (h ≤ 32768) = true := decide_eq_true a4
  have d5 : decide (1 ≤ per) = false := decide_eq_false a5
  rw [can24, d1, d2, d3, d4, d5]; go_enter Tryz.func16, Tryz.ntmps16; go_wp2_with fail; go_ret; exact ⟨by first | rfl | simp, rfl⟩
 by_cases a6 : per ≤ 8
 rotate_left
 ·have d1 : decide (1 ≤ w) = true := decide_eq_true a1
  have d2 : decide (1 ≤ h) = true := decide_eq_true a2
  have d3 : decide (w ≤ 32768) = true := decide_eq_true a3
  have d4 : decide (h ≤ 32768) = true := decide_eq_true a4
  have d5 : decide (1 ≤ per) = true := decide_eq_true a5
  have d6 : decide (per ≤ 8) = false := decide_eq_false a6
  rw [can24, d1, d2, d3, d4, d5, d6]; go_enter Tryz.func16, Tryz.ntmps16; go_wp2_with fail; go_ret; exact ⟨by first | rfl | simp, rfl⟩
 have d1 : decide (1 ≤ w) = true := decide_eq_true a1
 have d2 : decide (1 ≤ h) = true := decide_eq_true a2
 have d3 : decide (w ≤ 32768) = true := decide_eq_true a3
 have d4 : decide (h ≤ 32768) = true := decide_eq_true a4
 have d5 : decide (1 ≤ per) = true := decide_eq_true a5
 have d6 : decide (per ≤ 8) = true := decide_eq_true a6
 rw [can24, d1, d2, d3, d4, d5, d6]
 obtain ⟨m, hm⟩ : ∃ m, w * h = m := ⟨_, rfl⟩
 obtain ⟨k, hk⟩ : ∃ k, m * per = k := ⟨_, rfl⟩
 have m1 : 0 ≤ m := by rw [← hm]; exact Int.mul_nonneg (by omega) (by omega)
 have m2 : m ≤ 1073741824 := by rw [← hm]; exact Int.le_trans (Int.mul_le_mul a3 a4 (by omega) (by omega)) (by decide)
 have k1 : 0 ≤ k := by rw [← hk]; exact Int.mul_nonneg m1 (by omega)
 have k2 : k ≤ 8589934592 := by rw [← hk]; exact Int.le_trans (Int.mul_le_mul m2 a6 (by omega) (by omega)) (by decide)
 rw [hm, hk]
 go_enter Tryz.func16, Tryz.ntmps16
 go_wp2_with fail
 go_ret
 exact ⟨by first | rfl | simp, rfl⟩
theorem legal24_facts {per wide n : Int} {predict two : Bool} {every how : Int} (h : legal24 per wide n predict two every how = true) :
  (n = 1 ∨ n = 2 ∨ n = 3 ∨ n = 4 ∨ n = 5 ∨ n = 8 ∨ n = 32773 ∨ n = 32946) ∧ 1 ≤ per ∧ per ≤ 8 ∧ 1 ≤ wide ∧ wide ≤ 32 ∧ (n = 2 ∨ n = 3 ∨ n = 4 → per = 1 ∧ wide = 1) ∧ (n = 3 → two = true → 1 ≤ every) ∧ (predict = true → wide = 8 ∨ wide = 16 ∨ wide = 32) ∧ (n = 8 ∨ n = 32946 → 0 ≤ how ∧ how ≤ 2) := by
 simp only [legal24, schemeS, faxS, flateS, Bool.and_eq_true, Bool.or_eq_true, Bool.not_eq_true', beq_iff_eq, decide_eq_true_eq, Bool.or_eq_false_iff, Bool.and_eq_false_iff, beq_eq_false_iff_ne, bne_iff_ne, ne_eq, decide_eq_false_iff_not, Bool.not_eq_false', bne_eq_false_iff_eq] at h
 obtain ⟨⟨⟨⟨⟨⟨⟨⟨⟨h1, h2⟩, h3⟩, h4⟩, h5⟩, h6⟩, h7⟩, h8⟩, h9⟩, h10⟩ := h
 refine ⟨by omega, by omega, by omega, by omega, by omega, by omega, ?_, ?_, by omega⟩
 ·rintro rfl rfl
  simp at h7
  omega
 ·rintro rfl
  simp at h9
  omega
def TellS (o : Opt) (W : Nat) (L : List (List UInt8)) (z : List UInt8) : Prop :=
 (o.scheme = 1 ∧ z = joinL L) ∨ (o.scheme = 5 ∧ z = bytesB false (encB (joinL L))) ∨
 ((o.scheme = 8 ∨ o.scheme = 32946) ∧ ∃ hw x, hw ≤ 2 ∧ DefS (joinL L) hw x ∧ x.length ≤ 100000000 ∧ z = (120 : UInt8) :: 1 :: (bytesB true x ++ bytesO true (adlerN (joinL L)) 4)) ∨
 (o.scheme = 32773 ∧ PbRows L z) ∨ (o.scheme = 2 ∧ z = bytesB false (encF W (chgsF W L) [])) ∨
 (o.scheme = 3 ∧ z = bytesB false (enc3 W o.two o.al o.fin o.every (chgsF W L))) ∨ (o.scheme = 4 ∧ z = bytesB false (enc4 W (chgsF W L)))
set_option maxHeartbeats 4000000 in
theorem tell_any {w0 w : World} {F : SProp} (h : St w0 w F) (htab : Tab w0 F) {R : List (Value × List UInt8)} {v : Value} (hv : Stb w0 F (fun w => Reads w 1 v R.length (R.map Prod.fst))) (hr : Stb w0 F (fun w => ∀ x ∈ R, Reads w 1 x.1 x.2.length (x.2.map bv))) (hN : R.length ≤ 300) {W : Nat} (h1 : 1 ≤ W) (hw : W ≤ 400) (hL : ∀ x ∈ R, x.2.length ≤ 1000000) (hJ : (joinL (R.map Prod.snd)).length ≤ 1000000) (o : Opt)
  {per wide : Int} (hleg : o.legal per wide = true) (hfx : per = 1 → wide = 1 → ∀ x ∈ R, (W + 7) / 8 ≤ x.2.length) {ph pper pwide : Int} {pv : Value} :
  Calls Tryz.prog 18 #[v, .agg #[.int .i64 (W : Int), .int .i64 ph, .int .i64 pper, .int .i64 pwide, pv], o.v] w fun e w' => ∃ v' z, e = .returned (.tuple #[v', .int .i64 0]) ∧ TellS o W (R.map Prod.snd) z ∧ St w0 w' (own 5 1 v' z.length (z.map bv) * F) := by
 obtain ⟨g1, g2, g3, g4, g5, g6, g7, g8, g9⟩ := legal24_facts hleg
 rcases g1 with e | e | e | e | e | e | e | e
 ·refine (tell_none h hv hr (by omega) (by omega) o e _).mono ?_
  rintro r w' ⟨v', rfl, hs⟩
  exact ⟨v', _, rfl, .inl ⟨e, rfl⟩, hs⟩
 ·have hf := g6 (by omega)
  obtain ⟨big, large, tiled, ow, oh, planar, scheme, predict, low, two, every, al, fin, how⟩ := o
  simp only at e
  subst e
  refine (tell_mh h htab hv hr hN h1 hw (fun x hx => ⟨hfx hf.1 hf.2 x hx, hL x hx⟩)).mono ?_
  rintro r w' ⟨v', rfl, hs⟩
  exact ⟨v', _, rfl, .inr (.inr (.inr (.inr (.inl ⟨rfl, rfl⟩)))), hs⟩
 ·have hf := g6 (by omega)
  obtain ⟨big, large, tiled, ow, oh, planar, scheme, predict, low, two, every, al, fin, how⟩ := o
  simp only at e
  subst e
  cases two
  ·refine (tell_g3f (two := false) h htab hv hr hN h1 hw (fun x hx => ⟨hfx hf.1 hf.2 x hx, hL x hx⟩)).mono ?_
   rintro r w' ⟨v', rfl, hs⟩
   exact ⟨v', _, rfl, .inr (.inr (.inr (.inr (.inr (.inl ⟨rfl, rfl⟩))))), hs⟩
  ·refine (tell_g3t (two := true) h htab hv hr hN h1 hw (fun x hx => ⟨hfx hf.1 hf.2 x hx, hL x hx⟩) (g7 rfl rfl)).mono ?_
   rintro r w' ⟨v', rfl, hs⟩
   exact ⟨v', _, rfl, .inr (.inr (.inr (.inr (.inr (.inl ⟨rfl, rfl⟩))))), hs⟩
 ·have hf := g6 (by omega)
  obtain ⟨big, large, tiled, ow, oh, planar, scheme, predict, low, two, every, al, fin, how⟩ := o
  simp only at e
  subst e
  refine (tell_g4 h htab hv hr hN h1 hw (fun x hx => ⟨hfx hf.1 hf.2 x hx, hL x hx⟩)).mono ?_
  rintro r w' ⟨v', rfl, hs⟩
  exact ⟨v', _, rfl, .inr (.inr (.inr (.inr (.inr (.inr ⟨rfl, rfl⟩))))), hs⟩
 ·refine (tell_lzw h hv hr (by omega) (by omega) o e _).mono ?_
  rintro r w' ⟨v', rfl, hs⟩
  exact ⟨v', _, rfl, .inr (.inl ⟨e, rfl⟩), hs⟩
 ·have hq := g9 (.inl e)
  refine (tell_flate h hv hr (by omega) (by omega) o (.inl e) (hw := o.how.toNat) (by omega) (by omega) _).mono ?_
  rintro r w' ⟨v', x, z, rfl, hd, hxl, hz, hs⟩
  exact ⟨v', z, rfl, .inr (.inr (.inl ⟨.inl e, o.how.toNat, x, by omega, hd, hxl, hz⟩)), hs⟩
 ·refine (tell_pb h hv hr (by omega) (by omega) o e _).mono ?_
  rintro r w' ⟨v', z, rfl, hp, hs⟩
  exact ⟨v', z, rfl, .inr (.inr (.inr (.inl ⟨e, hp⟩))), hs⟩
 ·have hq := g9 (.inr e)
  refine (tell_flate h hv hr (by omega) (by omega) o (.inr e) (hw := o.how.toNat) (by omega) (by omega) _).mono ?_
  rintro r w' ⟨v', x, z, rfl, hd, hxl, hz, hs⟩
  exact ⟨v', z, rfl, .inr (.inr (.inl ⟨.inr e, o.how.toNat, x, by omega, hd, hxl, hz⟩)), hs⟩
theorem encF_len24 {width : Nat} (hw : width ≤ 32768) : ∀ (L : List (List Nat)) (acc : List Nat), (∀ l ∈ L, RowOk width l) → (encF width L acc).length ≤ acc.length + 130000 * L.length := by
 intro L
 induction L with
 | nil => intro acc _; simp [encF]
 | cons l r ih =>
  intro acc h
  rw [encF]
  have h1 := ih (alignL (acc ++ rowB false (lensF 0 l width))) (fun x hx => h x (by simp [hx]))
  have h2 := alignL_len (acc ++ rowB false (lensF 0 l width))
  have h3 := rowB_lenF (h l (by simp)) hw
  rw [List.length_append] at h2
  rw [List.length_cons]; omega
theorem chgsF_ok {W : Nat} (hw : W ≤ 400) {L : List (List UInt8)} (h : ∀ X ∈ L, (W + 7) / 8 ≤ X.length) : ∀ l ∈ chgsF W L, RowOk W l := by
 intro l hl
 obtain ⟨X, hX, rfl⟩ := List.mem_map.1 hl
 have := h X hX
 exact rowOk_chg24 (by rw [List.length_take, length_bitsL]; omega) hw
theorem fin3_len24 (two al fin : Bool) (acc : List Nat) : (fin3 two al fin acc).length ≤ acc.length + 120 := by
 cases fin
 ·exact Nat.le_add_right _ _
 ·have h1 := endB_len two al true acc
  have h2 := endB_len two false true (endB two al true acc)
  have h3 := endB_len two false true (endB two false true (endB two al true acc))
  have h4 := endB_len two false true (endB two false true (endB two false true (endB two al true acc)))
  have h5 := endB_len two false true (endB two false true (endB two false true (endB two false true (endB two al true acc))))
  have h6 := endB_len two false true (endB two false true (endB two false true (endB two false true (endB two false true (endB two al true acc)))))
  have e : fin3 two al true acc = endB two false true (endB two false true (endB two false true (endB two false true (endB two false true (endB two al true acc))))) := rfl
  rw [e]; omega
theorem TellS.len {o : Opt} {W : Nat} {L : List (List UInt8)} {z : List UInt8} (h : TellS o W L z) (hN : L.length ≤ 300) (hJ : (joinL L).length ≤ 1000000) (hw : W ≤ 400) (hfx : o.scheme = 2 ∨ o.scheme = 3 ∨ o.scheme = 4 → ∀ X ∈ L, (W + 7) / 8 ≤ X.length) : z.length ≤ 1000000000 := by
 have hcl : (chgsF W L).length = L.length := by rw [chgsF, List.length_map]
 rcases h with ⟨_, rfl⟩ | ⟨_, rfl⟩ | ⟨_, hw, x, _, _, hx, rfl⟩ | ⟨_, h⟩ | ⟨e, rfl⟩ | ⟨e, rfl⟩ | ⟨e, rfl⟩
 ·omega
 ·rw [length_bytesB]; have := length_encB (joinL L); omega
 ·simp only [List.length_cons, List.length_append, length_bytesB, length_bytesO]; omega
 ·have := h.len; omega
 ·have := encF_len24 (by omega : W ≤ 32768) (chgsF W L) [] (chgsF_ok hw (hfx (by omega)))
  rw [length_bytesB]; simp only [List.length_nil] at this; omega
 ·have := enc3F_len hw (two := o.two) (al := o.al) (every := o.every) (chgsF W L) 0 [] [] (chgsF_ok hw (hfx (by omega))) ⟨List.Pairwise.nil, fun x hx => by cases hx⟩
  have h2 := fin3_len24 o.two o.al o.fin (enc3F W o.two o.al o.every 0 [] (chgsF W L) [])
  rw [length_bytesB, enc3]; simp only [List.length_nil] at this; omega
 ·have := agAll_len hw (chgsF W L) [] (chgsF_ok hw (hfx (by omega))) ⟨List.Pairwise.nil, fun x hx => by cases hx⟩
  have h2 : endW.length = 24 := by decide
  rw [length_bytesB, enc4, List.length_append]; omega
end Go.Proofs.YtboflbdniogcdaaGreatDoor
namespace Go.Proofs.YtboflbdniogcdaaGreatDoor
open Go.RowKit Go.Mz
set_option linter.unusedVariables false
set_option linter.unusedSimpArgs false
set_option maxRecDepth 100000
set_option maxHeartbeats 4000000 in
theorem rcan_any (w h per : Int) (W : World) : Calls Tryz.prog 15 #[.int .i64 w, .int .i64 h, .int .i64 per] W fun r w' => r = .returned (.bool (can24 w h per)) ∧ w' = W := by
 by_cases a0 : 1 ≤ w
 rotate_left
 ·have b0 : w < 1 := by omega
  have d0 : decide (1 ≤ w) = false := decide_eq_false a0
  rw [can24, d0]; go_enter Tryz.func15, Tryz.ntmps15; go_wp2_with fail; go_ret; exact ⟨by first | rfl | simp, rfl⟩
 by_cases a1 : 1 ≤ h
 rotate_left
 ·have b1 : h < 1 := by omega
  have d0 : decide (1 ≤ w) = true := decide_eq_true a0
  have b0 : ¬ w < 1 := by omega
  have d1 : decide (1 ≤ h) = false := decide_eq_false a1
  rw [can24, d0, d1]; go_enter Tryz.func15, Tryz.ntmps15; go_wp2_with fail; go_ret; exact ⟨by first | rfl | simp, rfl⟩
 by_cases a2 : w ≤ 32768
 rotate_left
 ·have b2 : 32768 < w := by omega
  have d0 : decide (1 ≤ w) = true := decide_eq_true a0
  have b0 : ¬ w < 1 := by omega
  have d1 : decide (1 ≤ h) = true := decide_eq_true a1
  have b1 : ¬ h < 1 := by omega
  have d2 : decide (w ≤ 32768) = false := decide_eq_false a2
  rw [can24, d0, d1, d2]; go_enter Tryz.func15, Tryz.ntmps15; go_wp2_with fail; go_ret; exact ⟨by first | rfl | simp, rfl⟩
 by_cases a3 : h ≤ 32768
 rotate_left
 ·have b3 : 32768 < h := by omega
  have d0 : decide (1 ≤ w) = true := decide_eq_true a0
  have b0 : ¬ w < 1 := by omega
  have d1 : decide (1 ≤ h) = true := decide_eq_true a1
  have b1 : ¬ h < 1 := by omega
  have d2 : decide (w ≤ 32768) = true := decide_eq_true a2
  have b2 : ¬ 32768 < w := by omega
  have d3 : decide (h ≤ 32768) = false := decide_eq_false a3
  rw [can24, d0, d1, d2, d3]; go_enter Tryz.func15, Tryz.ntmps15; go_wp2_with fail; go_ret; exact ⟨by first | rfl | simp, rfl⟩
 by_cases a4 : 1 ≤ per
 rotate_left
 ·have b4 : per < 1 := by omega
  have d0 : decide (1 ≤ w) = true := decide_eq_true a0
  have b0 : ¬ w < 1 := by omega
  have d1 : decide (1 ≤ h) = true := decide_eq_true a1
  have b1 : ¬ h < 1 := by omega
  have d2 : decide (w ≤ 32768) = true := decide_eq_true a2
  have b2 : ¬ 32768 < w := by omega
  have d3 : decide (h ≤ 32768) = true := decide_eq_true a3
  have b3 : ¬ 32768 < h := by omega
  have d4 : decide (1 ≤ per) = false := decide_eq_false a4
  rw [can24, d0, d1, d2, d3, d4]; go_enter Tryz.func15, Tryz.ntmps15; go_wp2_with fail; go_ret; exact ⟨by first | rfl | simp, rfl⟩
 by_cases a5 : per ≤ 8
 rotate_left
 ·have b5 : 8 < per := by omega
  have d0 : decide (1 ≤ w) = true := decide_eq_true a0
  have b0 : ¬ w < 1 := by omega
  have d1 : decide (1 ≤ h) = true := decide_eq_true a1
  have b1 : ¬ h < 1 := by omega
  have d2 : decide (w ≤ 32768) = true := decide_eq_true a2
  have b2 : ¬ 32768 < w := by omega
  have d3 : decide (h ≤ 32768) = true := decide_eq_true a3
  have b3 : ¬ 32768 < h := by omega
  have d4 : decide (1 ≤ per) = true := decide_eq_true a4
  have b4 : ¬ per < 1 := by omega
  have d5 : decide (per ≤ 8) = false := decide_eq_false a5
  rw [can24, d0, d1, d2, d3, d4, d5]; go_enter Tryz.func15, Tryz.ntmps15; go_wp2_with fail; go_ret; exact ⟨by first | rfl | simp, rfl⟩
 have d0 : decide (1 ≤ w) = true := decide_eq_true a0
 have b0 : ¬ w < 1 := by omega
 have d1 : decide (1 ≤ h) = true := decide_eq_true a1
 have b1 : ¬ h < 1 := by omega
 have d2 : decide (w ≤ 32768) = true := decide_eq_true a2
 have b2 : ¬ 32768 < w := by omega
 have d3 : decide (h ≤ 32768) = true := decide_eq_true a3
 have b3 : ¬ 32768 < h := by omega
 have d4 : decide (1 ≤ per) = true := decide_eq_true a4
 have b4 : ¬ per < 1 := by omega
 have d5 : decide (per ≤ 8) = true := decide_eq_true a5
 have b5 : ¬ 8 < per := by omega
 rw [can24, d0, d1, d2, d3, d4, d5]
 obtain ⟨m, hm⟩ : ∃ m, w * h = m := ⟨_, rfl⟩
 obtain ⟨k, hk⟩ : ∃ k, m * per = k := ⟨_, rfl⟩
 have m1 : 0 ≤ m := by rw [← hm]; exact Int.mul_nonneg (by omega) (by omega)
 have m2 : m ≤ 1073741824 := by rw [← hm]; exact Int.le_trans (Int.mul_le_mul a2 a3 (by omega) (by omega)) (by decide)
 have k1 : 0 ≤ k := by rw [← hk]; exact Int.mul_nonneg m1 (by omega)
 have k2 : k ≤ 8589934592 := by rw [← hk]; exact Int.le_trans (Int.mul_le_mul m2 a5 (by omega) (by omega)) (by decide)
 rw [hm, hk]
 go_enter Tryz.func15, Tryz.ntmps15; go_wp2_with fail; go_ret; exact ⟨by first | rfl | simp, rfl⟩
set_option maxHeartbeats 4000000 in
theorem rsame17_any {w : World} {a b : List Nat} {va vb : Value} (ha : Reads w 1 va a.length (a.map uv)) (hb : Reads w 1 vb b.length (b.map uv)) (hl : a.length ≤ 1000000) (hla : ∀ x ∈ a, x < 4294967296) (hlb : ∀ x ∈ b, x < 4294967296) :
  Calls Tryz.prog 11 #[va, vb] w fun e w' => e = .returned (.bool (decide (a = b))) ∧ ∃ q, w' = w.drewN q := by
 obtain ⟨aa, ca, rfl⟩ := ha.sub
 obtain ⟨ab, cb, rfl⟩ := hb.sub
 by_cases hne : a.length = b.length
 rotate_left
 ·have hd : decide (a = b) = false := decide_eq_false fun e => hne (by rw [e])
  have hneI : ¬ (a.length : Int) = b.length := by omega
  rw [hd]
  clear ha hb hne
  go_enter Tryz.func11, Tryz.ntmps11
  go_wp2_with fail
  go_ret
  exact ⟨rfl, 0, rfl⟩
 obtain ⟨n, hn⟩ : ∃ n, a.length = n := ⟨_, rfl⟩
 rw [← hne, hn] at hb
 rw [hn] at ha hl hne ⊢
 have HA := Lib.hid ha; have HB := Lib.hid hb
 have HN := Lib.hid hn; have HNE := Lib.hid hne
 obtain ⟨res, hres⟩ : ∃ res, decide (a = b) = res := ⟨_, rfl⟩
 rw [← hne]
 rw [hres]
 have HR := Lib.hid hres
 clear ha hb hn hne hres
 go_enter Tryz.func11, Tryz.ntmps11
 go_wp2_with fail
 go_loopw [5] (fun vi wr => ∃ (k q : Nat), k ≤ n ∧ vi = .int .i64 k ∧ wr = w.drewN q ∧ RowKit.Hid (a.take k = b.take k)) (fun vi _ => n - (intOf vi).toNat)
 case atStart => exact ⟨0, 0, Nat.zero_le _, rfl, rfl, Lib.hid rfl⟩
 case round =>
  obtain ⟨k, q, hk, rfl, rfl, hQ⟩ := hrel
  by_cases hkn : k < n
  ·have hkI : (k : Int) < n := by omega
   obtain ⟨x, hx⟩ : ∃ x, a[k]? = some x := ⟨a[k]'(by rw [HN.out]; exact hkn), List.getElem?_eq_getElem _⟩
   obtain ⟨y, hy⟩ : ∃ y, b[k]? = some y := ⟨b[k]'(by rw [← HNE.out]; exact hkn), List.getElem?_eq_getElem _⟩
   obtain ⟨ga, oa, rfl, ha⟩ := HA.out.at_ hkn
   obtain ⟨gb, ob, rfl, hb⟩ := HB.out.at_ hkn
   rw [List.getElem?_map, hx] at ha
   rw [List.getElem?_map, hy] at hb
   simp only [Option.map_some, uv] at ha hb
   have ha : (w.drewN q).cell? ⟨ga, oa + k, none⟩ = some (.int .u32 (x : Int)) := ha
   have hb : (w.drewN q).cell? ⟨gb, ob + k, none⟩ = some (.int .u32 (y : Int)) := hb
   by_cases he : x = y
   ·have HQ := Lib.hid (show a.take (k + 1) = b.take (k + 1) by rw [take_snoc hx, take_snoc hy, hQ.out, he])
    have heI : (x : Int) = y := by omega
    clear hx hy hQ
    go_upto_region 6 with (fail)
    go_region
    go_wp2_with fail
    exact ⟨⟨k + 1, q + 1, by omega, by go_num, by rw [← World.drewN_drewN], HQ⟩, by simp [intOf]; omega⟩
   ·have heI : ¬ (x : Int) = y := by omega
    have HF := Lib.hid (show res = false by
     rw [← HR.out]
     exact decide_eq_false fun e => he (by rw [e, hy] at hx; exact (Option.some.inj hx).symm))
    clear hx hy hQ he
    go_upto_region 6 with (fail)
    go_region
    go_wp2_with fail
    go_ret
    exact ⟨by rw [HF.out]; rfl, q + 1, by rw [← World.drewN_drewN]⟩
  ·obtain rfl : k = n := by omega
   have HT := Lib.hid (show res = true by
    rw [← HR.out]
    refine decide_eq_true ?_
    have h := hQ.out
    rw [← HN.out, List.take_length, HN.out, HNE.out, List.take_length] at h
    exact h)
   go_wp2_with fail
   go_ret
   exact ⟨by rw [HT.out]; rfl, q, rfl⟩
set_option maxHeartbeats 40000000 in
theorem rlegal_any {w0 w : World} {F : SProp} (h : St w0 w F) (o : Opt) (per wide : Int) :
  Calls Tryz.prog 10 #[.int .i64 per, .int .i64 wide, o.v] w fun r w' => r = .returned (.bool (o.legal per wide)) ∧ St w0 w' F := by
 obtain ⟨big, large, tiled, ow, oh, planar, n, predict, low, two, every, al, fin, how⟩ := o
 simp only [Opt.v, Opt.legal]
 have h0 := h.alloc (.cells #[.bool big, .bool large, .bool tiled, .int .i64 ow, .int .i64 oh, .bool planar, .int .i64 n, .bool predict, .bool low, .bool two, .int .i64 every, .bool al, .bool fin, .int .i64 how] 28)
 have k6 := h0.cell 6 rfl
 have k7 := h0.cell 7 rfl
 have k9 := h0.cell 9 rfl
 have k10 := h0.cell 10 rfl
 have k13 := h0.cell 13 rfl
 have H := Lib.hid h0
 clear h h0
 by_cases hS : schemeS n = true
 ·have hn : n = 1 ∨ n = 2 ∨ n = 3 ∨ n = 4 ∨ n = 5 ∨ n = 8 ∨ n = 32773 ∨ n = 32946 := by simp [schemeS] at hS; omega
  clear hS
  rcases hn with rfl | rfl | rfl | rfl | rfl | rfl | rfl | rfl
  ·by_cases a1 : 1 ≤ per
   ·have a1' : ¬ per < 1 := by omega
    by_cases a2 : per ≤ 8
    ·have a2' : ¬ 8 < per := by omega
     by_cases a3 : 1 ≤ wide
     ·have a3' : ¬ wide < 1 := by omega
      by_cases a4 : wide ≤ 32
      ·have a4' : ¬ 32 < wide := by omega
       cases predict with
       | true =>
        have hL : legal24 per wide 1 true two every how = false := by first | (simp [legal24, schemeS, faxS, flateS]; done) | (simp [legal24, schemeS, faxS, flateS]; omega) | (simp [legal24, schemeS, faxS, flateS, *]; done) | (simp [legal24, schemeS, faxS, flateS, *]; omega)
        rw [hL]
        clear hL
        go_enter Tryz.func10, Tryz.ntmps10
        go_wp2_with fail
        go_ret
        exact ⟨by first | rfl | (exact congrArg (fun b => Ending.returned (.bool b)) (by simp [*])), H.out.right⟩
       | false =>
        have hL : legal24 per wide 1 false two every how = true := by first | (simp [legal24, schemeS, faxS, flateS]; done) | (simp [legal24, schemeS, faxS, flateS]; omega) | (simp [legal24, schemeS, faxS, flateS, *]; done) | (simp [legal24, schemeS, faxS, flateS, *]; omega)
        rw [hL]
        clear hL
        go_enter Tryz.func10, Tryz.ntmps10
        go_wp2_with fail
        go_ret
        exact ⟨by first | rfl | (exact congrArg (fun b => Ending.returned (.bool b)) (by simp [*])), H.out.right⟩
      ·have a4' : 32 < wide := by omega
       have a3'' : ¬ wide < 1 := by omega
       have hL : legal24 per wide 1 predict two every how = false := by first | (simp [legal24, schemeS, faxS, flateS]; done) | (simp [legal24, schemeS, faxS, flateS]; omega) | (simp [legal24, schemeS, faxS, flateS, *]; done) | (simp [legal24, schemeS, faxS, flateS, *]; omega)
       rw [hL]
       clear hL
       go_enter Tryz.func10, Tryz.ntmps10
       go_wp2_with fail
       go_ret
       exact ⟨by first | rfl | (exact congrArg (fun b => Ending.returned (.bool b)) (by simp [*])), H.out.right⟩
     ·have a3' : wide < 1 := by omega
      have hL : legal24 per wide 1 predict two every how = false := by first | (simp [legal24, schemeS, faxS, flateS]; done) | (simp [legal24, schemeS, faxS, flateS]; omega) | (simp [legal24, schemeS, faxS, flateS, *]; done) | (simp [legal24, schemeS, faxS, flateS, *]; omega)
      rw [hL]
      clear hL
      go_enter Tryz.func10, Tryz.ntmps10
      go_wp2_with fail
      go_ret
      exact ⟨by first | rfl | (exact congrArg (fun b => Ending.returned (.bool b)) (by simp [*])), H.out.right⟩
    ·have a2' : 8 < per := by omega
     have a1'' : ¬ per < 1 := by omega
     have hL : legal24 per wide 1 predict two every how = false := by first | (simp [legal24, schemeS, faxS, flateS]; done) | (simp [legal24, schemeS, faxS, flateS]; omega) | (simp [legal24, schemeS, faxS, flateS, *]; done) | (simp [legal24, schemeS, faxS, flateS, *]; omega)
     rw [hL]
     clear hL
     go_enter Tryz.func10, Tryz.ntmps10
     go_wp2_with fail
     go_ret
     exact ⟨by first | rfl | (exact congrArg (fun b => Ending.returned (.bool b)) (by simp [*])), H.out.right⟩
   ·have a1' : per < 1 := by omega
    have hL : legal24 per wide 1 predict two every how = false := by first | (simp [legal24, schemeS, faxS, flateS]; done) | (simp [legal24, schemeS, faxS, flateS]; omega) | (simp [legal24, schemeS, faxS, flateS, *]; done) | (simp [legal24, schemeS, faxS, flateS, *]; omega)
    rw [hL]
    clear hL
    go_enter Tryz.func10, Tryz.ntmps10
    go_wp2_with fail
    go_ret
    exact ⟨by first | rfl | (exact congrArg (fun b => Ending.returned (.bool b)) (by simp [*])), H.out.right⟩
  ·by_cases a1 : 1 ≤ per
   ·have a1' : ¬ per < 1 := by omega
    by_cases a2 : per ≤ 8
    ·have a2' : ¬ 8 < per := by omega
     by_cases a3 : 1 ≤ wide
     ·have a3' : ¬ wide < 1 := by omega
      by_cases a4 : wide ≤ 32
      ·have a4' : ¬ 32 < wide := by omega
       by_cases f1 : per = 1
       ·subst f1
        by_cases f2 : wide = 1
        ·subst f2
         cases predict with
         | true =>
          have hL : legal24 1 1 2 true two every how = false := by first | (simp [legal24, schemeS, faxS, flateS]; done) | (simp [legal24, schemeS, faxS, flateS]; omega) | (simp [legal24, schemeS, faxS, flateS, *]; done) | (simp [legal24, schemeS, faxS, flateS, *]; omega)
          rw [hL]
          clear hL
          go_enter Tryz.func10, Tryz.ntmps10
          go_wp2_with fail
          go_ret
          exact ⟨by first | rfl | (exact congrArg (fun b => Ending.returned (.bool b)) (by simp [*])), H.out.right⟩
         | false =>
          have hL : legal24 1 1 2 false two every how = true := by first | (simp [legal24, schemeS, faxS, flateS]; done) | (simp [legal24, schemeS, faxS, flateS]; omega) | (simp [legal24, schemeS, faxS, flateS, *]; done) | (simp [legal24, schemeS, faxS, flateS, *]; omega)
          rw [hL]
          clear hL
          go_enter Tryz.func10, Tryz.ntmps10
          go_wp2_with fail
          go_ret
          exact ⟨by first | rfl | (exact congrArg (fun b => Ending.returned (.bool b)) (by simp [*])), H.out.right⟩
        ·have hL : legal24 1 wide 2 predict two every how = false := by first | (simp [legal24, schemeS, faxS, flateS]; done) | (simp [legal24, schemeS, faxS, flateS]; omega) | (simp [legal24, schemeS, faxS, flateS, *]; done) | (simp [legal24, schemeS, faxS, flateS, *]; omega)
         rw [hL]
         clear hL
         go_enter Tryz.func10, Tryz.ntmps10
         go_wp2_with fail
         go_ret
         exact ⟨by first | rfl | (exact congrArg (fun b => Ending.returned (.bool b)) (by simp [*])), H.out.right⟩
       ·have hL : legal24 per wide 2 predict two every how = false := by first | (simp [legal24, schemeS, faxS, flateS]; done) | (simp [legal24, schemeS, faxS, flateS]; omega) | (simp [legal24, schemeS, faxS, flateS, *]; done) | (simp [legal24, schemeS, faxS, flateS, *]; omega)
        rw [hL]
        clear hL
        go_enter Tryz.func10, Tryz.ntmps10
        go_wp2_with fail
        go_ret
        exact ⟨by first | rfl | (exact congrArg (fun b => Ending.returned (.bool b)) (by simp [*])), H.out.right⟩
      ·have a4' : 32 < wide := by omega
       have a3'' : ¬ wide < 1 := by omega
       have hL : legal24 per wide 2 predict two every how = false := by first | (simp [legal24, schemeS, faxS, flateS]; done) | (simp [legal24, schemeS, faxS, flateS]; omega) | (simp [legal24, schemeS, faxS, flateS, *]; done) | (simp [legal24, schemeS, faxS, flateS, *]; omega)
       rw [hL]
       clear hL
       go_enter Tryz.func10, Tryz.ntmps10
       go_wp2_with fail
       go_ret
       exact ⟨by first | rfl | (exact congrArg (fun b => Ending.returned (.bool b)) (by simp [*])), H.out.right⟩
     ·have a3' : wide < 1 := by omega
      have hL : legal24 per wide 2 predict two every how = false := by first | (simp [legal24, schemeS, faxS, flateS]; done) | (simp [legal24, schemeS, faxS, flateS]; omega) | (simp [legal24, schemeS, faxS, flateS, *]; done) | (simp [legal24, schemeS, faxS, flateS, *]; omega)
      rw [hL]
      clear hL
      go_enter Tryz.func10, Tryz.ntmps10
      go_wp2_with fail
      go_ret
      exact ⟨by first | rfl | (exact congrArg (fun b => Ending.returned (.bool b)) (by simp [*])), H.out.right⟩
    ·have a2' : 8 < per := by omega
     have a1'' : ¬ per < 1 := by omega
     have hL : legal24 per wide 2 predict two every how = false := by first | (simp [legal24, schemeS, faxS, flateS]; done) | (simp [legal24, schemeS, faxS, flateS]; omega) | (simp [legal24, schemeS, faxS, flateS, *]; done) | (simp [legal24, schemeS, faxS, flateS, *]; omega)
     rw [hL]
     clear hL
     go_enter Tryz.func10, Tryz.ntmps10
     go_wp2_with fail
     go_ret
     exact ⟨by first | rfl | (exact congrArg (fun b => Ending.returned (.bool b)) (by simp [*])), H.out.right⟩
   ·have a1' : per < 1 := by omega
    have hL : legal24 per wide 2 predict two every how = false := by first | (simp [legal24, schemeS, faxS, flateS]; done) | (simp [legal24, schemeS, faxS, flateS]; omega) | (simp [legal24, schemeS, faxS, flateS, *]; done) | (simp [legal24, schemeS, faxS, flateS, *]; omega)
    rw [hL]
    clear hL
    go_enter Tryz.func10, Tryz.ntmps10
    go_wp2_with fail
    go_ret
    exact ⟨by first | rfl | (exact congrArg (fun b => Ending.returned (.bool b)) (by simp [*])), H.out.right⟩
  ·by_cases a1 : 1 ≤ per
   ·have a1' : ¬ per < 1 := by omega
    by_cases a2 : per ≤ 8
    ·have a2' : ¬ 8 < per := by omega
     by_cases a3 : 1 ≤ wide
     ·have a3' : ¬ wide < 1 := by omega
      by_cases a4 : wide ≤ 32
      ·have a4' : ¬ 32 < wide := by omega
       by_cases f1 : per = 1
       ·subst f1
        by_cases f2 : wide = 1
        ·subst f2
         cases two with
         | true =>
          by_cases q1 : every < 1
          ·have hL : legal24 1 1 3 predict true every how = false := by first | (simp [legal24, schemeS, faxS, flateS]; done) | (simp [legal24, schemeS, faxS, flateS]; omega) | (simp [legal24, schemeS, faxS, flateS, *]; done) | (simp [legal24, schemeS, faxS, flateS, *]; omega)
           rw [hL]
           clear hL
           go_enter Tryz.func10, Tryz.ntmps10
           go_wp2_with fail
           go_ret
           exact ⟨by first | rfl | (exact congrArg (fun b => Ending.returned (.bool b)) (by simp [*])), H.out.right⟩
          ·have q2 : 1 ≤ every := by omega
           cases predict with
           | true =>
            have hL : legal24 1 1 3 true true every how = false := by first | (simp [legal24, schemeS, faxS, flateS]; done) | (simp [legal24, schemeS, faxS, flateS]; omega) | (simp [legal24, schemeS, faxS, flateS, *]; done) | (simp [legal24, schemeS, faxS, flateS, *]; omega)
            rw [hL]
            clear hL
            go_enter Tryz.func10, Tryz.ntmps10
            go_wp2_with fail
            go_ret
            exact ⟨by first | rfl | (exact congrArg (fun b => Ending.returned (.bool b)) (by simp [*])), H.out.right⟩
           | false =>
            have hL : legal24 1 1 3 false true every how = true := by first | (simp [legal24, schemeS, faxS, flateS]; done) | (simp [legal24, schemeS, faxS, flateS]; omega) | (simp [legal24, schemeS, faxS, flateS, *]; done) | (simp [legal24, schemeS, faxS, flateS, *]; omega)
            rw [hL]
            clear hL
            go_enter Tryz.func10, Tryz.ntmps10
            go_wp2_with fail
            go_ret
            exact ⟨by first | rfl | (exact congrArg (fun b => Ending.returned (.bool b)) (by simp [*])), H.out.right⟩
         | false =>
          cases predict with
          | true =>
           have hL : legal24 1 1 3 true false every how = false := by first | (simp [legal24, schemeS, faxS, flateS]; done) | (simp [legal24, schemeS, faxS, flateS]; omega) | (simp [legal24, schemeS, faxS, flateS, *]; done) | (simp [legal24, schemeS, faxS, flateS, *]; omega)
           rw [hL]
           clear hL
           go_enter Tryz.func10, Tryz.ntmps10
           go_wp2_with fail
           go_ret
           exact ⟨by first | rfl | (exact congrArg (fun b => Ending.returned (.bool b)) (by simp [*])), H.out.right⟩
          | false =>
           have hL : legal24 1 1 3 false false every how = true := by first | (simp [legal24, schemeS, faxS, flateS]; done) | (simp [legal24, schemeS, faxS, flateS]; omega) | (simp [legal24, schemeS, faxS, flateS, *]; done) | (simp [legal24, schemeS, faxS, flateS, *]; omega)
           rw [hL]
           clear hL
           go_enter Tryz.func10, Tryz.ntmps10
           go_wp2_with fail
           go_ret
           exact ⟨by first | rfl | (exact congrArg (fun b => Ending.returned (.bool b)) (by simp [*])), H.out.right⟩
        ·have hL : legal24 1 wide 3 predict two every how = false := by first | (simp [legal24, schemeS, faxS, flateS]; done) | (simp [legal24, schemeS, faxS, flateS]; omega) | (simp [legal24, schemeS, faxS, flateS, *]; done) | (simp [legal24, schemeS, faxS, flateS, *]; omega)
         rw [hL]
         clear hL
         go_enter Tryz.func10, Tryz.ntmps10
         go_wp2_with fail
         go_ret
         exact ⟨by first | rfl | (exact congrArg (fun b => Ending.returned (.bool b)) (by simp [*])), H.out.right⟩
       ·have hL : legal24 per wide 3 predict two every how = false := by first | (simp [legal24, schemeS, faxS, flateS]; done) | (simp [legal24, schemeS, faxS, flateS]; omega) | (simp [legal24, schemeS, faxS, flateS, *]; done) | (simp [legal24, schemeS, faxS, flateS, *]; omega)
        rw [hL]
        clear hL
        go_enter Tryz.func10, Tryz.ntmps10
        go_wp2_with fail
        go_ret
        exact ⟨by first | rfl | (exact congrArg (fun b => Ending.returned (.bool b)) (by simp [*])), H.out.right⟩
      ·have a4' : 32 < wide := by omega
       have a3'' : ¬ wide < 1 := by omega
       have hL : legal24 per wide 3 predict two every how = false := by first | (simp [legal24, schemeS, faxS, flateS]; done) | (simp [legal24, schemeS, faxS, flateS]; omega) | (simp [legal24, schemeS, faxS, flateS, *]; done) | (simp [legal24, schemeS, faxS, flateS, *]; omega)
       rw [hL]
       clear hL
       go_enter Tryz.func10, Tryz.ntmps10
       go_wp2_with fail
       go_ret
       exact ⟨by first | rfl | (exact congrArg (fun b => Ending.returned (.bool b)) (by simp [*])), H.out.right⟩
     ·have a3' : wide < 1 := by omega
      have hL : legal24 per wide 3 predict two every how = false := by first | (simp [legal24, schemeS, faxS, flateS]; done) | (simp [legal24, schemeS, faxS, flateS]; omega) | (simp [legal24, schemeS, faxS, flateS, *]; done) | (simp [legal24, schemeS, faxS, flateS, *]; omega)
      rw [hL]
      clear hL
      go_enter Tryz.func10, Tryz.ntmps10
      go_wp2_with fail
      go_ret
      exact ⟨by first | rfl | (exact congrArg (fun b => Ending.returned (.bool b)) (by simp [*])), H.out.right⟩
    ·have a2' : 8 < per := by omega
     have a1'' : ¬ per < 1 := by omega
     have hL : legal24 per wide 3 predict two every how = false := by first | (simp [legal24, schemeS, faxS, flateS]; done) | (simp [legal24, schemeS, faxS, flateS]; omega) | (simp [legal24, schemeS, faxS, flateS, *]; done) | (simp [legal24, schemeS, faxS, flateS, *]; omega)
     rw [hL]
     clear hL
     go_enter Tryz.func10, Tryz.ntmps10
     go_wp2_with fail
     go_ret
     exact ⟨by first | rfl | (exact congrArg (fun b => Ending.returned (.bool b)) (by simp [*])), H.out.right⟩
   ·have a1' : per < 1 := by omega
    have hL : legal24 per wide 3 predict two every how = false := by first | (simp [legal24, schemeS, faxS, flateS]; done) | (simp [legal24, schemeS, faxS, flateS]; omega) | (simp [legal24, schemeS, faxS, flateS, *]; done) | (simp [legal24, schemeS, faxS, flateS, *]; omega)
    rw [hL]
    clear hL
    go_enter Tryz.func10, Tryz.ntmps10
    go_wp2_with fail
    go_ret
    exact ⟨by first | rfl | (exact congrArg (fun b => Ending.returned (.bool b)) (by simp [*])), H.out.right⟩
  ·by_cases a1 : 1 ≤ per
   ·have a1' : ¬ per < 1 := by omega
    by_cases a2 : per ≤ 8
    ·have a2' : ¬ 8 < per := by omega
     by_cases a3 : 1 ≤ wide
     ·have a3' : ¬ wide < 1 := by omega
      by_cases a4 : wide ≤ 32
      ·have a4' : ¬ 32 < wide := by omega
       by_cases f1 : per = 1
       ·subst f1
        by_cases f2 : wide = 1
        ·subst f2
         cases predict with
         | true =>
          have hL : legal24 1 1 4 true two every how = false := by first | (simp [legal24, schemeS, faxS, flateS]; done) | (simp [legal24, schemeS, faxS, flateS]; omega) | (simp [legal24, schemeS, faxS, flateS, *]; done) | (simp [legal24, schemeS, faxS, flateS, *]; omega)
          rw [hL]
          clear hL
          go_enter Tryz.func10, Tryz.ntmps10
          go_wp2_with fail
          go_ret
          exact ⟨by first | rfl | (exact congrArg (fun b => Ending.returned (.bool b)) (by simp [*])), H.out.right⟩
         | false =>
          have hL : legal24 1 1 4 false two every how = true := by first | (simp [legal24, schemeS, faxS, flateS]; done) | (simp [legal24, schemeS, faxS, flateS]; omega) | (simp [legal24, schemeS, faxS, flateS, *]; done) | (simp [legal24, schemeS, faxS, flateS, *]; omega)
          rw [hL]
          clear hL
          go_enter Tryz.func10, Tryz.ntmps10
          go_wp2_with fail
          go_ret
          exact ⟨by first | rfl | (exact congrArg (fun b => Ending.returned (.bool b)) (by simp [*])), H.out.right⟩
        ·have hL : legal24 1 wide 4 predict two every how = false := by first | (simp [legal24, schemeS, faxS, flateS]; done) | (simp [legal24, schemeS, faxS, flateS]; omega) | (simp [legal24, schemeS, faxS, flateS, *]; done) | (simp [legal24, schemeS, faxS, flateS, *]; omega)
         rw [hL]
         clear hL
         go_enter Tryz.func10, Tryz.ntmps10
         go_wp2_with fail
         go_ret
         exact ⟨by first | rfl | (exact congrArg (fun b => Ending.returned (.bool b)) (by simp [*])), H.out.right⟩
       ·have hL : legal24 per wide 4 predict two every how = false := by first | (simp [legal24, schemeS, faxS, flateS]; done) | (simp [legal24, schemeS, faxS, flateS]; omega) | (simp [legal24, schemeS, faxS, flateS, *]; done) | (simp [legal24, schemeS, faxS, flateS, *]; omega)
        rw [hL]
        clear hL
        go_enter Tryz.func10, Tryz.ntmps10
        go_wp2_with fail
        go_ret
        exact ⟨by first | rfl | (exact congrArg (fun b => Ending.returned (.bool b)) (by simp [*])), H.out.right⟩
      ·have a4' : 32 < wide := by omega
       have a3'' : ¬ wide < 1 := by omega
       have hL : legal24 per wide 4 predict two every how = false := by first | (simp [legal24, schemeS, faxS, flateS]; done) | (simp [legal24, schemeS, faxS, flateS]; omega) | (simp [legal24, schemeS, faxS, flateS, *]; done) | (simp [legal24, schemeS, faxS, flateS, *]; omega)
       rw [hL]
       clear hL
       go_enter Tryz.func10, Tryz.ntmps10
       go_wp2_with fail
       go_ret
       exact ⟨by first | rfl | (exact congrArg (fun b => Ending.returned (.bool b)) (by simp [*])), H.out.right⟩
     ·have a3' : wide < 1 := by omega
      have hL : legal24 per wide 4 predict two every how = false := by first | (simp [legal24, schemeS, faxS, flateS]; done) | (simp [legal24, schemeS, faxS, flateS]; omega) | (simp [legal24, schemeS, faxS, flateS, *]; done) | (simp [legal24, schemeS, faxS, flateS, *]; omega)
      rw [hL]
      clear hL
      go_enter Tryz.func10, Tryz.ntmps10
      go_wp2_with fail
      go_ret
      exact ⟨by first | rfl | (exact congrArg (fun b => Ending.returned (.bool b)) (by simp [*])), H.out.right⟩
    ·have a2' : 8 < per := by omega
     have a1'' : ¬ per < 1 := by omega
     have hL : legal24 per wide 4 predict two every how = false := by first | (simp [legal24, schemeS, faxS, flateS]; done) | (simp [legal24, schemeS, faxS, flateS]; omega) | (simp [legal24, schemeS, faxS, flateS, *]; done) | (simp [legal24, schemeS, faxS, flateS, *]; omega)
     rw [hL]
     clear hL
     go_enter Tryz.func10, Tryz.ntmps10
     go_wp2_with fail
     go_ret
     exact ⟨by first | rfl | (exact congrArg (fun b => Ending.returned (.bool b)) (by simp [*])), H.out.right⟩
   ·have a1' : per < 1 := by omega
    have hL : legal24 per wide 4 predict two every how = false := by first | (simp [legal24, schemeS, faxS, flateS]; done) | (simp [legal24, schemeS, faxS, flateS]; omega) | (simp [legal24, schemeS, faxS, flateS, *]; done) | (simp [legal24, schemeS, faxS, flateS, *]; omega)
    rw [hL]
    clear hL
    go_enter Tryz.func10, Tryz.ntmps10
    go_wp2_with fail
    go_ret
    exact ⟨by first | rfl | (exact congrArg (fun b => Ending.returned (.bool b)) (by simp [*])), H.out.right⟩
  ·by_cases a1 : 1 ≤ per
   ·have a1' : ¬ per < 1 := by omega
    by_cases a2 : per ≤ 8
    ·have a2' : ¬ 8 < per := by omega
     by_cases a3 : 1 ≤ wide
     ·have a3' : ¬ wide < 1 := by omega
      by_cases a4 : wide ≤ 32
      ·have a4' : ¬ 32 < wide := by omega
       cases predict with
       | true =>
        by_cases p8 : wide = 8
        ·subst p8
         have hL : legal24 per 8 5 true two every how = true := by first | (simp [legal24, schemeS, faxS, flateS]; done) | (simp [legal24, schemeS, faxS, flateS]; omega) | (simp [legal24, schemeS, faxS, flateS, *]; done) | (simp [legal24, schemeS, faxS, flateS, *]; omega)
         rw [hL]
         clear hL
         go_enter Tryz.func10, Tryz.ntmps10
         go_wp2_with fail
         go_ret
         exact ⟨by first | rfl | (exact congrArg (fun b => Ending.returned (.bool b)) (by simp [*])), H.out.right⟩
        ·have p8b : (wide != 8) = true := by simpa using p8
         by_cases p16 : wide = 16
         ·subst p16
          have hL : legal24 per 16 5 true two every how = true := by first | (simp [legal24, schemeS, faxS, flateS]; done) | (simp [legal24, schemeS, faxS, flateS]; omega) | (simp [legal24, schemeS, faxS, flateS, *]; done) | (simp [legal24, schemeS, faxS, flateS, *]; omega)
          rw [hL]
          clear hL
          go_enter Tryz.func10, Tryz.ntmps10
          go_wp2_with fail
          go_ret
          exact ⟨by first | rfl | (exact congrArg (fun b => Ending.returned (.bool b)) (by simp [*])), H.out.right⟩
         ·have p16b : (wide != 16) = true := by simpa using p16
          by_cases p32 : wide = 32
          ·subst p32
           have hL : legal24 per 32 5 true two every how = true := by first | (simp [legal24, schemeS, faxS, flateS]; done) | (simp [legal24, schemeS, faxS, flateS]; omega) | (simp [legal24, schemeS, faxS, flateS, *]; done) | (simp [legal24, schemeS, faxS, flateS, *]; omega)
           rw [hL]
           clear hL
           go_enter Tryz.func10, Tryz.ntmps10
           go_wp2_with fail
           go_ret
           exact ⟨by first | rfl | (exact congrArg (fun b => Ending.returned (.bool b)) (by simp [*])), H.out.right⟩
          ·have p32b : (wide != 32) = true := by simpa using p32
           have hL : legal24 per wide 5 true two every how = false := by first | (simp [legal24, schemeS, faxS, flateS]; done) | (simp [legal24, schemeS, faxS, flateS]; omega) | (simp [legal24, schemeS, faxS, flateS, *]; done) | (simp [legal24, schemeS, faxS, flateS, *]; omega)
           rw [hL]
           clear hL
           go_enter Tryz.func10, Tryz.ntmps10
           go_wp2_with fail
           go_ret
           exact ⟨by first | rfl | (exact congrArg (fun b => Ending.returned (.bool b)) (by simp [*])), H.out.right⟩
       | false =>
        have hL : legal24 per wide 5 false two every how = true := by first | (simp [legal24, schemeS, faxS, flateS]; done) | (simp [legal24, schemeS, faxS, flateS]; omega) | (simp [legal24, schemeS, faxS, flateS, *]; done) | (simp [legal24, schemeS, faxS, flateS, *]; omega)
        rw [hL]
        clear hL
        go_enter Tryz.func10, Tryz.ntmps10
        go_wp2_with fail
        go_ret
        exact ⟨by first | rfl | (exact congrArg (fun b => Ending.returned (.bool b)) (by simp [*])), H.out.right⟩
      ·have a4' : 32 < wide := by omega
       have a3'' : ¬ wide < 1 := by omega
       have hL : legal24 per wide 5 predict two every how = false := by first | (simp [legal24, schemeS, faxS, flateS]; done) | (simp [legal24, schemeS, faxS, flateS]; omega) | (simp [legal24, schemeS, faxS, flateS, *]; done) | (simp [legal24, schemeS, faxS, flateS, *]; omega)
       rw [hL]
       clear hL
       go_enter Tryz.func10, Tryz.ntmps10
       go_wp2_with fail
       go_ret
       exact ⟨by first | rfl | (exact congrArg (fun b => Ending.returned (.bool b)) (by simp [*])), H.out.right⟩
     ·have a3' : wide < 1 := by omega
      have hL : legal24 per wide 5 predict two every how = false := by first | (simp [legal24, schemeS, faxS, flateS]; done) | (simp [legal24, schemeS, faxS, flateS]; omega) | (simp [legal24, schemeS, faxS, flateS, *]; done) | (simp [legal24, schemeS, faxS, flateS, *]; omega)
      rw [hL]
      clear hL
      go_enter Tryz.func10, Tryz.ntmps10
      go_wp2_with fail
      go_ret
      exact ⟨by first | rfl | (exact congrArg (fun b => Ending.returned (.bool b)) (by simp [*])), H.out.right⟩
    ·have a2' : 8 < per := by omega
     have a1'' : ¬ per < 1 := by omega
     have hL : legal24 per wide 5 predict two every how = false := by first | (simp [legal24, schemeS, faxS, flateS]; done) | (simp [legal24, schemeS, faxS, flateS]; omega) | (simp [legal24, schemeS, faxS, flateS, *]; done) | (simp [legal24, schemeS, faxS, flateS, *]; omega)
     rw [hL]
     clear hL
     go_enter Tryz.func10, Tryz.ntmps10
     go_wp2_with fail
     go_ret
     exact ⟨by first | rfl | (exact congrArg (fun b => Ending.returned (.bool b)) (by simp [*])), H.out.right⟩
   ·have a1' : per < 1 := by omega
    have hL : legal24 per wide 5 predict two every how = false := by first | (simp [legal24, schemeS, faxS, flateS]; done) | (simp [legal24, schemeS, faxS, flateS]; omega) | (simp [legal24, schemeS, faxS, flateS, *]; done) | (simp [legal24, schemeS, faxS, flateS, *]; omega)
    rw [hL]
    clear hL
    go_enter Tryz.func10, Tryz.ntmps10
    go_wp2_with fail
    go_ret
    exact ⟨by first | rfl | (exact congrArg (fun b => Ending.returned (.bool b)) (by simp [*])), H.out.right⟩
  ·by_cases a1 : 1 ≤ per
   ·have a1' : ¬ per < 1 := by omega
    by_cases a2 : per ≤ 8
    ·have a2' : ¬ 8 < per := by omega
     by_cases a3 : 1 ≤ wide
     ·have a3' : ¬ wide < 1 := by omega
      by_cases a4 : wide ≤ 32
      ·have a4' : ¬ 32 < wide := by omega
       cases predict with
       | true =>
        by_cases p8 : wide = 8
        ·subst p8
         by_cases g1 : 0 ≤ how
         ·have g1b : decide (0 ≤ how) = true := decide_eq_true g1
          by_cases g2 : how ≤ 2
          ·have g2b : decide (how ≤ 2) = true := decide_eq_true g2
           have hL : legal24 per 8 8 true two every how = true := by first | (simp [legal24, schemeS, faxS, flateS]; done) | (simp [legal24, schemeS, faxS, flateS]; omega) | (simp [legal24, schemeS, faxS, flateS, *]; done) | (simp [legal24, schemeS, faxS, flateS, *]; omega)
           rw [hL]
           clear hL
           go_enter Tryz.func10, Tryz.ntmps10
           go_wp2_with fail
           go_ret
           exact ⟨by first | rfl | (exact congrArg (fun b => Ending.returned (.bool b)) (by simp [*])), H.out.right⟩
          ·have g2b : decide (how ≤ 2) = false := decide_eq_false g2
           have hL : legal24 per 8 8 true two every how = false := by first | (simp [legal24, schemeS, faxS, flateS]; done) | (simp [legal24, schemeS, faxS, flateS]; omega) | (simp [legal24, schemeS, faxS, flateS, *]; done) | (simp [legal24, schemeS, faxS, flateS, *]; omega)
           rw [hL]
           clear hL
           go_enter Tryz.func10, Tryz.ntmps10
           go_wp2_with fail
           go_ret
           exact ⟨by first | rfl | (exact congrArg (fun b => Ending.returned (.bool b)) (by simp [*])), H.out.right⟩
         ·have g1b : decide (0 ≤ how) = false := decide_eq_false g1
          have hL : legal24 per 8 8 true two every how = false := by first | (simp [legal24, schemeS, faxS, flateS]; done) | (simp [legal24, schemeS, faxS, flateS]; omega) | (simp [legal24, schemeS, faxS, flateS, *]; done) | (simp [legal24, schemeS, faxS, flateS, *]; omega)
          rw [hL]
          clear hL
          go_enter Tryz.func10, Tryz.ntmps10
          go_wp2_with fail
          go_ret
          exact ⟨by first | rfl | (exact congrArg (fun b => Ending.returned (.bool b)) (by simp [*])), H.out.right⟩
        ·have p8b : (wide != 8) = true := by simpa using p8
         by_cases p16 : wide = 16
         ·subst p16
          by_cases g1 : 0 ≤ how
          ·have g1b : decide (0 ≤ how) = true := decide_eq_true g1
           by_cases g2 : how ≤ 2
           ·have g2b : decide (how ≤ 2) = true := decide_eq_true g2
            have hL : legal24 per 16 8 true two every how = true := by first | (simp [legal24, schemeS, faxS, flateS]; done) | (simp [legal24, schemeS, faxS, flateS]; omega) | (simp [legal24, schemeS, faxS, flateS, *]; done) | (simp [legal24, schemeS, faxS, flateS, *]; omega)
            rw [hL]
            clear hL
            go_enter Tryz.func10, Tryz.ntmps10
            go_wp2_with fail
            go_ret
            exact ⟨by first | rfl | (exact congrArg (fun b => Ending.returned (.bool b)) (by simp [*])), H.out.right⟩
           ·have g2b : decide (how ≤ 2) = false := decide_eq_false g2
            have hL : legal24 per 16 8 true two every how = false := by first | (simp [legal24, schemeS, faxS, flateS]; done) | (simp [legal24, schemeS, faxS, flateS]; omega) | (simp [legal24, schemeS, faxS, flateS, *]; done) | (simp [legal24, schemeS, faxS, flateS, *]; omega)
            rw [hL]
            clear hL
            go_enter Tryz.func10, Tryz.ntmps10
            go_wp2_with fail
            go_ret
            exact ⟨by first | rfl | (exact congrArg (fun b => Ending.returned (.bool b)) (by simp [*])), H.out.right⟩
          ·have g1b : decide (0 ≤ how) = false := decide_eq_false g1
           have hL : legal24 per 16 8 true two every how = false := by first | (simp [legal24, schemeS, faxS, flateS]; done) | (simp [legal24, schemeS, faxS, flateS]; omega) | (simp [legal24, schemeS, faxS, flateS, *]; done) | (simp [legal24, schemeS, faxS, flateS, *]; omega)
           rw [hL]
           clear hL
           go_enter Tryz.func10, Tryz.ntmps10
           go_wp2_with fail
           go_ret
           exact ⟨by first | rfl | (exact congrArg (fun b => Ending.returned (.bool b)) (by simp [*])), H.out.right⟩
         ·have p16b : (wide != 16) = true := by simpa using p16
          by_cases p32 : wide = 32
          ·subst p32
           by_cases g1 : 0 ≤ how
           ·have g1b : decide (0 ≤ how) = true := decide_eq_true g1
            by_cases g2 : how ≤ 2
            ·have g2b : decide (how ≤ 2) = true := decide_eq_true g2
             have hL : legal24 per 32 8 true two every how = true := by first | (simp [legal24, schemeS, faxS, flateS]; done) | (simp [legal24, schemeS, faxS, flateS]; omega) | (simp [legal24, schemeS, faxS, flateS, *]; done) | (simp [legal24, schemeS, faxS, flateS, *]; omega)
             rw [hL]
             clear hL
             go_enter Tryz.func10, Tryz.ntmps10
             go_wp2_with fail
             go_ret
             exact ⟨by first | rfl | (exact congrArg (fun b => Ending.returned (.bool b)) (by simp [*])), H.out.right⟩
            ·have g2b : decide (how ≤ 2) = false := decide_eq_false g2
             have hL : legal24 per 32 8 true two every how = false := by first | (simp [legal24, schemeS, faxS, flateS]; done) | (simp [legal24, schemeS, faxS, flateS]; omega) | (simp [legal24, schemeS, faxS, flateS, *]; done) | (simp [legal24, schemeS, faxS, flateS, *]; omega)
             rw [hL]
             clear hL
             go_enter Tryz.func10, Tryz.ntmps10
             go_wp2_with fail
             go_ret
             exact ⟨by first | rfl | (exact congrArg (fun b => Ending.returned (.bool b)) (by simp [*])), H.out.right⟩
           ·have g1b : decide (0 ≤ how) = false := decide_eq_false g1
            have hL : legal24 per 32 8 true two every how = false := by first | (simp [legal24, schemeS, faxS, flateS]; done) | (simp [legal24, schemeS, faxS, flateS]; omega) | (simp [legal24, schemeS, faxS, flateS, *]; done) | (simp [legal24, schemeS, faxS, flateS, *]; omega)
            rw [hL]
            clear hL
            go_enter Tryz.func10, Tryz.ntmps10
            go_wp2_with fail
            go_ret
            exact ⟨by first | rfl | (exact congrArg (fun b => Ending.returned (.bool b)) (by simp [*])), H.out.right⟩
          ·have p32b : (wide != 32) = true := by simpa using p32
           have hL : legal24 per wide 8 true two every how = false := by first | (simp [legal24, schemeS, faxS, flateS]; done) | (simp [legal24, schemeS, faxS, flateS]; omega) | (simp [legal24, schemeS, faxS, flateS, *]; done) | (simp [legal24, schemeS, faxS, flateS, *]; omega)
           rw [hL]
           clear hL
           go_enter Tryz.func10, Tryz.ntmps10
           go_wp2_with fail
           go_ret
           exact ⟨by first | rfl | (exact congrArg (fun b => Ending.returned (.bool b)) (by simp [*])), H.out.right⟩
       | false =>
        by_cases g1 : 0 ≤ how
        ·have g1b : decide (0 ≤ how) = true := decide_eq_true g1
         by_cases g2 : how ≤ 2
         ·have g2b : decide (how ≤ 2) = true := decide_eq_true g2
          have hL : legal24 per wide 8 false two every how = true := by first | (simp [legal24, schemeS, faxS, flateS]; done) | (simp [legal24, schemeS, faxS, flateS]; omega) | (simp [legal24, schemeS, faxS, flateS, *]; done) | (simp [legal24, schemeS, faxS, flateS, *]; omega)
          rw [hL]
          clear hL
          go_enter Tryz.func10, Tryz.ntmps10
          go_wp2_with fail
          go_ret
          exact ⟨by first | rfl | (exact congrArg (fun b => Ending.returned (.bool b)) (by simp [*])), H.out.right⟩
         ·have g2b : decide (how ≤ 2) = false := decide_eq_false g2
          have hL : legal24 per wide 8 false two every how = false := by first | (simp [legal24, schemeS, faxS, flateS]; done) | (simp [legal24, schemeS, faxS, flateS]; omega) | (simp [legal24, schemeS, faxS, flateS, *]; done) | (simp [legal24, schemeS, faxS, flateS, *]; omega)
          rw [hL]
          clear hL
          go_enter Tryz.func10, Tryz.ntmps10
          go_wp2_with fail
          go_ret
          exact ⟨by first | rfl | (exact congrArg (fun b => Ending.returned (.bool b)) (by simp [*])), H.out.right⟩
        ·have g1b : decide (0 ≤ how) = false := decide_eq_false g1
         have hL : legal24 per wide 8 false two every how = false := by first | (simp [legal24, schemeS, faxS, flateS]; done) | (simp [legal24, schemeS, faxS, flateS]; omega) | (simp [legal24, schemeS, faxS, flateS, *]; done) | (simp [legal24, schemeS, faxS, flateS, *]; omega)
         rw [hL]
         clear hL
         go_enter Tryz.func10, Tryz.ntmps10
         go_wp2_with fail
         go_ret
         exact ⟨by first | rfl | (exact congrArg (fun b => Ending.returned (.bool b)) (by simp [*])), H.out.right⟩
      ·have a4' : 32 < wide := by omega
       have a3'' : ¬ wide < 1 := by omega
       have hL : legal24 per wide 8 predict two every how = false := by first | (simp [legal24, schemeS, faxS, flateS]; done) | (simp [legal24, schemeS, faxS, flateS]; omega) | (simp [legal24, schemeS, faxS, flateS, *]; done) | (simp [legal24, schemeS, faxS, flateS, *]; omega)
       rw [hL]
       clear hL
       go_enter Tryz.func10, Tryz.ntmps10
       go_wp2_with fail
       go_ret
       exact ⟨by first | rfl | (exact congrArg (fun b => Ending.returned (.bool b)) (by simp [*])), H.out.right⟩
     ·have a3' : wide < 1 := by omega
      have hL : legal24 per wide 8 predict two every how = false := by first | (simp [legal24, schemeS, faxS, flateS]; done) | (simp [legal24, schemeS, faxS, flateS]; omega) | (simp [legal24, schemeS, faxS, flateS, *]; done) | (simp [legal24, schemeS, faxS, flateS, *]; omega)
      rw [hL]
      clear hL
      go_enter Tryz.func10, Tryz.ntmps10
      go_wp2_with fail
      go_ret
      exact ⟨by first | rfl | (exact congrArg (fun b => Ending.returned (.bool b)) (by simp [*])), H.out.right⟩
    ·have a2' : 8 < per := by omega
     have a1'' : ¬ per < 1 := by omega
     have hL : legal24 per wide 8 predict two every how = false := by first | (simp [legal24, schemeS, faxS, flateS]; done) | (simp [legal24, schemeS, faxS, flateS]; omega) | (simp [legal24, schemeS, faxS, flateS, *]; done) | (simp [legal24, schemeS, faxS, flateS, *]; omega)
     rw [hL]
     clear hL
     go_enter Tryz.func10, Tryz.ntmps10
     go_wp2_with fail
     go_ret
     exact ⟨by first | rfl | (exact congrArg (fun b => Ending.returned (.bool b)) (by simp [*])), H.out.right⟩
   ·have a1' : per < 1 := by omega
    have hL : legal24 per wide 8 predict two every how = false := by first | (simp [legal24, schemeS, faxS, flateS]; done) | (simp [legal24, schemeS, faxS, flateS]; omega) | (simp [legal24, schemeS, faxS, flateS, *]; done) | (simp [legal24, schemeS, faxS, flateS, *]; omega)
    rw [hL]
    clear hL
    go_enter Tryz.func10, Tryz.ntmps10
    go_wp2_with fail
    go_ret
    exact ⟨by first | rfl | (exact congrArg (fun b => Ending.returned (.bool b)) (by simp [*])), H.out.right⟩
  ·by_cases a1 : 1 ≤ per
   ·have a1' : ¬ per < 1 := by omega
    by_cases a2 : per ≤ 8
    ·have a2' : ¬ 8 < per := by omega
     by_cases a3 : 1 ≤ wide
     ·have a3' : ¬ wide < 1 := by omega
      by_cases a4 : wide ≤ 32
      ·have a4' : ¬ 32 < wide := by omega
       cases predict with
       | true =>
        have hL : legal24 per wide 32773 true two every how = false := by first | (simp [legal24, schemeS, faxS, flateS]; done) | (simp [legal24, schemeS, faxS, flateS]; omega) | (simp [legal24, schemeS, faxS, flateS, *]; done) | (simp [legal24, schemeS, faxS, flateS, *]; omega)
        rw [hL]
        clear hL
        go_enter Tryz.func10, Tryz.ntmps10
        go_wp2_with fail
        go_ret
        exact ⟨by first | rfl | (exact congrArg (fun b => Ending.returned (.bool b)) (by simp [*])), H.out.right⟩
       | false =>
        have hL : legal24 per wide 32773 false two every how = true := by first | (simp [legal24, schemeS, faxS, flateS]; done) | (simp [legal24, schemeS, faxS, flateS]; omega) | (simp [legal24, schemeS, faxS, flateS, *]; done) | (simp [legal24, schemeS, faxS, flateS, *]; omega)
        rw [hL]
        clear hL
        go_enter Tryz.func10, Tryz.ntmps10
        go_wp2_with fail
        go_ret
        exact ⟨by first | rfl | (exact congrArg (fun b => Ending.returned (.bool b)) (by simp [*])), H.out.right⟩
      ·have a4' : 32 < wide := by omega
       have a3'' : ¬ wide < 1 := by omega
       have hL : legal24 per wide 32773 predict two every how = false := by first | (simp [legal24, schemeS, faxS, flateS]; done) | (simp [legal24, schemeS, faxS, flateS]; omega) | (simp [legal24, schemeS, faxS, flateS, *]; done) | (simp [legal24, schemeS, faxS, flateS, *]; omega)
       rw [hL]
       clear hL
       go_enter Tryz.func10, Tryz.ntmps10
       go_wp2_with fail
       go_ret
       exact ⟨by first | rfl | (exact congrArg (fun b => Ending.returned (.bool b)) (by simp [*])), H.out.right⟩
     ·have a3' : wide < 1 := by omega
      have hL : legal24 per wide 32773 predict two every how = false := by first | (simp [legal24, schemeS, faxS, flateS]; done) | (simp [legal24, schemeS, faxS, flateS]; omega) | (simp [legal24, schemeS, faxS, flateS, *]; done) | (simp [legal24, schemeS, faxS, flateS, *]; omega)
      rw [hL]
      clear hL
      go_enter Tryz.func10, Tryz.ntmps10
      go_wp2_with fail
      go_ret
      exact ⟨by first | rfl | (exact congrArg (fun b => Ending.returned (.bool b)) (by simp [*])), H.out.right⟩
    ·have a2' : 8 < per := by omega
     have a1'' : ¬ per < 1 := by omega
     have hL : legal24 per wide 32773 predict two every how = false := by first | (simp [legal24, schemeS, faxS, flateS]; done) | (simp [legal24, schemeS, faxS, flateS]; omega) | (simp [legal24, schemeS, faxS, flateS, *]; done) | (simp [legal24, schemeS, faxS, flateS, *]; omega)
     rw [hL]
     clear hL
     go_enter Tryz.func10, Tryz.ntmps10
     go_wp2_with fail
     go_ret
     exact ⟨by first | rfl | (exact congrArg (fun b => Ending.returned (.bool b)) (by simp [*])), H.out.right⟩
   ·have a1' : per < 1 := by omega
    have hL : legal24 per wide 32773 predict two every how = false := by first | (simp [legal24, schemeS, faxS, flateS]; done) | (simp [legal24, schemeS, faxS, flateS]; omega) | (simp [legal24, schemeS, faxS, flateS, *]; done) | (simp [legal24, schemeS, faxS, flateS, *]; omega)
    rw [hL]
    clear hL
    go_enter Tryz.func10, Tryz.ntmps10
    go_wp2_with fail
    go_ret
    exact ⟨by first | rfl | (exact congrArg (fun b => Ending.returned (.bool b)) (by simp [*])), H.out.right⟩
  ·by_cases a1 : 1 ≤ per
   ·have a1' : ¬ per < 1 := by omega
    by_cases a2 : per ≤ 8
    ·have a2' : ¬ 8 < per := by omega
     by_cases a3 : 1 ≤ wide
     ·have a3' : ¬ wide < 1 := by omega
      by_cases a4 : wide ≤ 32
      ·have a4' : ¬ 32 < wide := by omega
       cases predict with
       | true =>
        by_cases p8 : wide = 8
        ·subst p8
         by_cases g1 : 0 ≤ how
         ·have g1b : decide (0 ≤ how) = true := decide_eq_true g1
          by_cases g2 : how ≤ 2
          ·have g2b : decide (how ≤ 2) = true := decide_eq_true g2
           have hL : legal24 per 8 32946 true two every how = true := by first | (simp [legal24, schemeS, faxS, flateS]; done) | (simp [legal24, schemeS, faxS, flateS]; omega) | (simp [legal24, schemeS, faxS, flateS, *]; done) | (simp [legal24, schemeS, faxS, flateS, *]; omega)
           rw [hL]
           clear hL
           go_enter Tryz.func10, Tryz.ntmps10
           go_wp2_with fail
           go_ret
           exact ⟨by first | rfl | (exact congrArg (fun b => Ending.returned (.bool b)) (by simp [*])), H.out.right⟩
          ·have g2b : decide (how ≤ 2) = false := decide_eq_false g2
           have hL : legal24 per 8 32946 true two every how = false := by first | (simp [legal24, schemeS, faxS, flateS]; done) | (simp [legal24, schemeS, faxS, flateS]; omega) | (simp [legal24, schemeS, faxS, flateS, *]; done) | (simp [legal24, schemeS, faxS, flateS, *]; omega)
           rw [hL]
           clear hL
           go_enter Tryz.func10, Tryz.ntmps10
           go_wp2_with fail
           go_ret
           exact ⟨by first | rfl | (exact congrArg (fun b => Ending.returned (.bool b)) (by simp [*])), H.out.right⟩
         ·have g1b : decide (0 ≤ how) = false := decide_eq_false g1
          have hL : legal24 per 8 32946 true two every how = false := by first | (simp [legal24, schemeS, faxS, flateS]; done) | (simp [legal24, schemeS, faxS, flateS]; omega) | (simp [legal24, schemeS, faxS, flateS, *]; done) | (simp [legal24, schemeS, faxS, flateS, *]; omega)
          rw [hL]
          clear hL
          go_enter Tryz.func10, Tryz.ntmps10
          go_wp2_with fail
          go_ret
          exact ⟨by first | rfl | (exact congrArg (fun b => Ending.returned (.bool b)) (by simp [*])), H.out.right⟩
        ·have p8b : (wide != 8) = true := by simpa using p8
         by_cases p16 : wide = 16
         ·subst p16
          by_cases g1 : 0 ≤ how
          ·have g1b : decide (0 ≤ how) = true := decide_eq_true g1
           by_cases g2 : how ≤ 2
           ·have g2b : decide (how ≤ 2) = true := decide_eq_true g2
            have hL : legal24 per 16 32946 true two every how = true := by first | (simp [legal24, schemeS, faxS, flateS]; done) | (simp [legal24, schemeS, faxS, flateS]; omega) | (simp [legal24, schemeS, faxS, flateS, *]; done) | (simp [legal24, schemeS, faxS, flateS, *]; omega)
            rw [hL]
            clear hL
            go_enter Tryz.func10, Tryz.ntmps10
            go_wp2_with fail
            go_ret
            exact ⟨by first | rfl | (exact congrArg (fun b => Ending.returned (.bool b)) (by simp [*])), H.out.right⟩
           ·have g2b : decide (how ≤ 2) = false := decide_eq_false g2
            have hL : legal24 per 16 32946 true two every how = false := by first | (simp [legal24, schemeS, faxS, flateS]; done) | (simp [legal24, schemeS, faxS, flateS]; omega) | (simp [legal24, schemeS, faxS, flateS, *]; done) | (simp [legal24, schemeS, faxS, flateS, *]; omega)
            rw [hL]
            clear hL
            go_enter Tryz.func10, Tryz.ntmps10
            go_wp2_with fail
            go_ret
            exact ⟨by first | rfl | (exact congrArg (fun b => Ending.returned (.bool b)) (by simp [*])), H.out.right⟩
          ·have g1b : decide (0 ≤ how) = false := decide_eq_false g1
           have hL : legal24 per 16 32946 true two every how = false := by first | (simp [legal24, schemeS, faxS, flateS]; done) | (simp [legal24, schemeS, faxS, flateS]; omega) | (simp [legal24, schemeS, faxS, flateS, *]; done) | (simp [legal24, schemeS, faxS, flateS, *]; omega)
           rw [hL]
           clear hL
           go_enter Tryz.func10, Tryz.ntmps10
           go_wp2_with fail
           go_ret
           exact ⟨by first | rfl | (exact congrArg (fun b => Ending.returned (.bool b)) (by simp [*])), H.out.right⟩
         ·have p16b : (wide != 16) = true := by simpa using p16
          by_cases p32 : wide = 32
          ·subst p32
           by_cases g1 : 0 ≤ how
           ·have g1b : decide (0 ≤ how) = true := decide_eq_true g1
            by_cases g2 : how ≤ 2
            ·have g2b : decide (how ≤ 2) = true := decide_eq_true g2
             have hL : legal24 per 32 32946 true two every how = true := by first | (simp [legal24, schemeS, faxS, flateS]; done) | (simp [legal24, schemeS, faxS, flateS]; omega) | (simp [legal24, schemeS, faxS, flateS, *]; done) | (simp [legal24, schemeS, faxS, flateS, *]; omega)
             rw [hL]
             clear hL
             go_enter Tryz.func10, Tryz.ntmps10
             go_wp2_with fail
             go_ret
             exact ⟨by first | rfl | (exact congrArg (fun b => Ending.returned (.bool b)) (by simp [*])), H.out.right⟩
            ·have g2b : decide (how ≤ 2) = false := decide_eq_false g2
             have hL : legal24 per 32 32946 true two every how = false := by first | (simp [legal24, schemeS, faxS, flateS]; done) | (simp [legal24, schemeS, faxS, flateS]; omega) | (simp [legal24, schemeS, faxS, flateS, *]; done) | (simp [legal24, schemeS, faxS, flateS, *]; omega)
             rw [hL]
             clear hL
             go_enter Tryz.func10, Tryz.ntmps10
             go_wp2_with fail
             go_ret
             exact ⟨by first | rfl | (exact congrArg (fun b => Ending.returned (.bool b)) (by simp [*])), H.out.right⟩
           ·have g1b : decide (0 ≤ how) = false := decide_eq_false g1
            have hL : legal24 per 32 32946 true two every how = false := by first | (simp [legal24, schemeS, faxS, flateS]; done) | (simp [legal24, schemeS, faxS, flateS]; omega) | (simp [legal24, schemeS, faxS, flateS, *]; done) | (simp [legal24, schemeS, faxS, flateS, *]; omega)
            rw [hL]
            clear hL
            go_enter Tryz.func10, Tryz.ntmps10
            go_wp2_with fail
            go_ret
            exact ⟨by first | rfl | (exact congrArg (fun b => Ending.returned (.bool b)) (by simp [*])), H.out.right⟩
          ·have p32b : (wide != 32) = true := by simpa using p32
           have hL : legal24 per wide 32946 true two every how = false := by first | (simp [legal24, schemeS, faxS, flateS]; done) | (simp [legal24, schemeS, faxS, flateS]; omega) | (simp [legal24, schemeS, faxS, flateS, *]; done) | (simp [legal24, schemeS, faxS, flateS, *]; omega)
           rw [hL]
           clear hL
           go_enter Tryz.func10, Tryz.ntmps10
           go_wp2_with fail
           go_ret
           exact ⟨by first | rfl | (exact congrArg (fun b => Ending.returned (.bool b)) (by simp [*])), H.out.right⟩
       | false =>
        by_cases g1 : 0 ≤ how
        ·have g1b : decide (0 ≤ how) = true := decide_eq_true g1
         by_cases g2 : how ≤ 2
         ·have g2b : decide (how ≤ 2) = true := decide_eq_true g2
          have hL : legal24 per wide 32946 false two every how = true := by first | (simp [legal24, schemeS, faxS, flateS]; done) | (simp [legal24, schemeS, faxS, flateS]; omega) | (simp [legal24, schemeS, faxS, flateS, *]; done) | (simp [legal24, schemeS, faxS, flateS, *]; omega)
          rw [hL]
          clear hL
          go_enter Tryz.func10, Tryz.ntmps10
          go_wp2_with fail
          go_ret
          exact ⟨by first | rfl | (exact congrArg (fun b => Ending.returned (.bool b)) (by simp [*])), H.out.right⟩
         ·have g2b : decide (how ≤ 2) = false := decide_eq_false g2
          have hL : legal24 per wide 32946 false two every how = false := by first | (simp [legal24, schemeS, faxS, flateS]; done) | (simp [legal24, schemeS, faxS, flateS]; omega) | (simp [legal24, schemeS, faxS, flateS, *]; done) | (simp [legal24, schemeS, faxS, flateS, *]; omega)
          rw [hL]
          clear hL
          go_enter Tryz.func10, Tryz.ntmps10
          go_wp2_with fail
          go_ret
          exact ⟨by first | rfl | (exact congrArg (fun b => Ending.returned (.bool b)) (by simp [*])), H.out.right⟩
        ·have g1b : decide (0 ≤ how) = false := decide_eq_false g1
         have hL : legal24 per wide 32946 false two every how = false := by first | (simp [legal24, schemeS, faxS, flateS]; done) | (simp [legal24, schemeS, faxS, flateS]; omega) | (simp [legal24, schemeS, faxS, flateS, *]; done) | (simp [legal24, schemeS, faxS, flateS, *]; omega)
         rw [hL]
         clear hL
         go_enter Tryz.func10, Tryz.ntmps10
         go_wp2_with fail
         go_ret
         exact ⟨by first | rfl | (exact congrArg (fun b => Ending.returned (.bool b)) (by simp [*])), H.out.right⟩
      ·have a4' : 32 < wide := by omega
       have a3'' : ¬ wide < 1 := by omega
       have hL : legal24 per wide 32946 predict two every how = false := by first | (simp [legal24, schemeS, faxS, flateS]; done) | (simp [legal24, schemeS, faxS, flateS]; omega) | (simp [legal24, schemeS, faxS, flateS, *]; done) | (simp [legal24, schemeS, faxS, flateS, *]; omega)
       rw [hL]
       clear hL
       go_enter Tryz.func10, Tryz.ntmps10
       go_wp2_with fail
       go_ret
       exact ⟨by first | rfl | (exact congrArg (fun b => Ending.returned (.bool b)) (by simp [*])), H.out.right⟩
     ·have a3' : wide < 1 := by omega
      have hL : legal24 per wide 32946 predict two every how = false := by first | (simp [legal24, schemeS, faxS, flateS]; done) | (simp [legal24, schemeS, faxS, flateS]; omega) | (simp [legal24, schemeS, faxS, flateS, *]; done) | (simp [legal24, schemeS, faxS, flateS, *]; omega)
      rw [hL]
      clear hL
      go_enter Tryz.func10, Tryz.ntmps10
      go_wp2_with fail
      go_ret
      exact ⟨by first | rfl | (exact congrArg (fun b => Ending.returned (.bool b)) (by simp [*])), H.out.right⟩
    ·have a2' : 8 < per := by omega
     have a1'' : ¬ per < 1 := by omega
     have hL : legal24 per wide 32946 predict two every how = false := by first | (simp [legal24, schemeS, faxS, flateS]; done) | (simp [legal24, schemeS, faxS, flateS]; omega) | (simp [legal24, schemeS, faxS, flateS, *]; done) | (simp [legal24, schemeS, faxS, flateS, *]; omega)
     rw [hL]
     clear hL
     go_enter Tryz.func10, Tryz.ntmps10
     go_wp2_with fail
     go_ret
     exact ⟨by first | rfl | (exact congrArg (fun b => Ending.returned (.bool b)) (by simp [*])), H.out.right⟩
   ·have a1' : per < 1 := by omega
    have hL : legal24 per wide 32946 predict two every how = false := by first | (simp [legal24, schemeS, faxS, flateS]; done) | (simp [legal24, schemeS, faxS, flateS]; omega) | (simp [legal24, schemeS, faxS, flateS, *]; done) | (simp [legal24, schemeS, faxS, flateS, *]; omega)
    rw [hL]
    clear hL
    go_enter Tryz.func10, Tryz.ntmps10
    go_wp2_with fail
    go_ret
    exact ⟨by first | rfl | (exact congrArg (fun b => Ending.returned (.bool b)) (by simp [*])), H.out.right⟩
 ·have hS0 : schemeS n = false := by simpa using hS
  have hne : n ≠ 1 ∧ n ≠ 2 ∧ n ≠ 3 ∧ n ≠ 4 ∧ n ≠ 5 ∧ n ≠ 8 ∧ n ≠ 32773 ∧ n ≠ 32946 := by simp [schemeS] at hS; omega
  obtain ⟨_, _, _, _, _, n8, n773, n946⟩ := hne
  have hL : legal24 per wide n predict two every how = false := by simp [legal24, hS0]
  rw [hL]
  clear hL hS hS0
  have n8b : (n == 8) = false := by simpa using n8
  have n946b : (n == 32946) = false := by simpa using n946
  have n773b : (n == 32773) = false := by simpa using n773
  by_cases b1 : n < 1
  ·go_enter Tryz.func10, Tryz.ntmps10
   go_wp2_with fail
   go_ret
   exact ⟨by first | rfl | (exact congrArg (fun b => Ending.returned (.bool b)) (by simp [*])), H.out.right⟩
  ·have b2 : 5 < n := by omega
   go_enter Tryz.func10, Tryz.ntmps10
   go_wp2_with fail
   go_ret
   exact ⟨by first | rfl | (exact congrArg (fun b => Ending.returned (.bool b)) (by simp [*])), H.out.right⟩
end Go.Proofs.YtboflbdniogcdaaGreatDoor
namespace Go.Proofs.YtboflbdniogcdaaGreatDoor
open Go.RowKit Go.Mz
set_option linter.unusedVariables false
set_option linter.unusedSimpArgs false
set_option maxRecDepth 100000
def UntOut (w0 : World) (E F : SProp) (J : List UInt8) (e : Ending) (w' : World) : Prop :=
 ∃ v' G, e = .returned (.tuple #[v', .int .i64 0]) ∧ St w0 w' (G * (E * F)) ∧ Stb w0 (G * F) (fun w => Reads w 1 v' J.length (J.map bv))
theorem UntOut.of_own {w0 : World} {E F G : SProp} {J : List UInt8} {v' : Value} {w' : World} (h : St w0 w' (own 5 1 v' J.length (J.map bv) * (G * (E * F)))) : UntOut w0 E F J (.returned (.tuple #[v', .int .i64 0])) w' :=
 ⟨v', own 5 1 v' J.length (J.map bv) * G, rfl, h.perm (star_assoc _ _ _).symm, fun w h => (h.perm (star_assoc _ _ _)).reads⟩
theorem rd_takeO {w : World} {a : Option Addr} {n c k : Nat} {bs : List UInt8} (h : Reads w 1 (.slice a n c) n (bs.map bv)) (hk : k ≤ n) : Reads w 1 (.slice a k c) k ((bs.take k).map bv) := by
 cases a with
 | some x =>
  have := rd_sub h (Nat.zero_le k) hk
  rw [List.drop_zero, ← List.map_take] at this
  have e2 : x.add 0 = x := by simp [Addr.add]
  rw [e2] at this
  simpa only [Nat.sub_zero] using this
 | none =>
  obtain ⟨hl, ⟨e1, e2⟩ | ⟨x, cap, e1, _⟩⟩ := h
  ·cases e1
   obtain rfl : k = 0 := by omega
   exact rd_nil _ _
  ·cases e1
set_option maxHeartbeats 40000000 in
theorem untell_none {w0 w : World} {E F : SProp} (h : St w0 w (E * F)) {J t : List UInt8} {W H size : Nat} (hH : H ≤ 1000) (hS : size ≤ 1000000) {big large tiled planar predict low two al fin : Bool} {ow oh every how pper pwide : Int} {pv : Value} (hJ : size * H = J.length) (hJ1 : 1 ≤ J.length) (hJ2 : J.length ≤ 1000000) {vb : Value} (hb : Stb w0 F (fun w => Reads w 1 vb (J ++ t).length ((J ++ t).map bv))) (hl : (J ++ t).length ≤ 100000000) :
  Calls Tryz.prog 34 #[vb, .agg #[.int .i64 (W : Int), .int .i64 (H : Int), .int .i64 pper, .int .i64 pwide, pv], .agg #[.bool big, .bool large, .bool tiled, .int .i64 ow, .int .i64 oh, .bool planar, .int .i64 1, .bool predict, .bool low, .bool two, .int .i64 every, .bool al, .bool fin, .int .i64 how], .int .i64 (size : Int)] w fun e w' => UntOut w0 E F J e w' := by
 have h3 := two_alloc h (.cells #[.int .i64 (W : Int), .int .i64 (H : Int), .int .i64 pper, .int .i64 pwide, pv] 24) (.cells #[.bool big, .bool large, .bool tiled, .int .i64 ow, .int .i64 oh, .bool planar, .int .i64 1, .bool predict, .bool low, .bool two, .int .i64 every, .bool al, .bool fin, .int .i64 how] 28)
 have f6 := h3.cell 6 rfl
 have k0 := h3.right.cell 0 rfl
 have k1 := h3.right.cell 1 rfl
 have hnI : (size : Int) * (H : Int) = (J.length : Int) := by rw [← hJ]; simp
 have HB := Lib.hid hb
 obtain ⟨a0, c0, rfl⟩ := (hb w h.right).sub
 have H3 := Lib.hid h3
 clear h3
 have hle : J.length ≤ (J ++ t).length := by rw [List.length_append]; omega
 obtain ⟨b, off, e, _⟩ := (hb w h.right).at_ (show 0 < (J ++ t).length by omega)
 cases e
 have hcap := (rd_cap (hb w h.right)).1
 have HR := Lib.hid (fun w h => show Reads w 1 (.slice (some ⟨b, off, none⟩) J.length c0) J.length (J.map bv) by
  have := rd_takeO (HB.out w h) hle
  rwa [List.take_left] at this)
 obtain ⟨tl, htl⟩ : ∃ tl, (J ++ t).length = tl := ⟨_, rfl⟩
 rw [htl] at hle hl hcap HB ⊢
 have hltI : ¬ (tl : Int) < J.length := by omega
 have hcI : (J.length : Int) ≤ c0 := by omega
 obtain ⟨jl, hjl⟩ : ∃ jl, J.length = jl := ⟨_, rfl⟩
 have HJL := Lib.hid hjl
 rw [hjl] at hnI hltI hcI HR
 clear h hb htl hJ hjl hJ1 hJ2 hle
 go_enter Tryz.func34, Tryz.ntmps34
 go_wp2_with fail
 go_ret2
 exact ⟨_, _, rfl, H3.out.perm (star_assoc _ _ _).symm, fun w h => by rw [HJL.out]; exact HR.out _ h.right⟩
end Go.Proofs.YtboflbdniogcdaaGreatDoor
namespace Go.Proofs.YtboflbdniogcdaaGreatDoor
open Go.RowKit Go.Mz
set_option linter.unusedVariables false
set_option linter.unusedSimpArgs false
set_option maxRecDepth 100000
def PackOut (w0 : World) (F : SProp) (o : Opt) (W H per wide : Nat) (l : List Nat) (e : Ending) (w' : World) : Prop :=
 ((∀ x ∈ l, x < 2 ^ wide) → ∃ v' z, e = .returned (.tuple #[v', .int .i64 0]) ∧ TellS o W (rowsF o.predict o.big wide per (W * per) l H) z ∧ St w0 w' (own 5 1 v' z.length ((if o.low = true then z.map revB else z).map bv) * F)) ∧
 ((¬ ∀ x ∈ l, x < 2 ^ wide) → e = .returned (.tuple #[.slice none 0 0, .int .i64 7]) ∧ St w0 w' F)
theorem rowF_len (predict big : Bool) {wide : Nat} (per : Nat) (row : List Nat) : (rowF predict big wide per row).length = (row.length * wide + 7) / 8 := by
 rw [rowF, packL_len]; cases predict <;> simp [diffL_len]
theorem joinL_const {L : List (List UInt8)} {c : Nat} (h : ∀ X ∈ L, X.length = c) : (joinL L).length = L.length * c := by
 induction L with
 | nil => simp [joinL]
 | cons X r ih =>
  have := ih (fun Y hY => h Y (by simp [hY]))
  have e := h X (by simp)
  simp only [joinL, List.flatten_cons, List.length_append, List.length_cons] at *
  rw [this, e, Nat.succ_mul]; omega
theorem rowsF_mem_len {predict big : Bool} {wide per n H : Nat} {l : List Nat} (hl : H * n = l.length) : ∀ X ∈ rowsF predict big wide per n l H, X.length = (n * wide + 7) / 8 := by
 intro X hX
 obtain ⟨y, hy, rfl⟩ := List.mem_map.1 hX
 rw [List.mem_range] at hy
 rw [rowF_len, rowAt_len]
 rw [← hl, ← Nat.succ_mul]; exact Nat.mul_le_mul_right _ hy
theorem rowsF_len (predict big : Bool) (wide per n H : Nat) (l : List Nat) : (rowsF predict big wide per n l H).length = H := by rw [rowsF, List.length_map, List.length_range]
set_option maxHeartbeats 40000000 in
theorem pack_ok {w0 w : World} {F : SProp} (h : St w0 w F) (htab : Tab w0 F) {l : List Nat} {v : Value} (hv : Stb w0 F (fun w => Reads w 1 v l.length (l.map uv))) (hb : ∀ x ∈ l, x < 4294967296) {W H per wide : Nat} (hl : H * (W * per) = l.length) (hl2 : l.length ≤ 2000) (hW : W ≤ 400) (hH : H ≤ 300) (o : Opt)
  (hcan : can24 W H per = true) (hleg : o.legal per wide = true) :
  Calls Tryz.prog 8 #[partV W H per wide v, o.v] w fun e w' => PackOut w0 F o W H per wide l e w' := by
 obtain ⟨g1, g2, g3, g4, g5, g6, g7, g8, g9⟩ := legal24_facts hleg
 have hW1 : 1 ≤ W := by simp [can24] at hcan; omega
 have hH1 : 1 ≤ H := by simp [can24] at hcan; omega
 have HC := Lib.hid (fun w => can_any (W : Int) (H : Int) (per : Int) w)
 rw [hcan] at HC
 have HRW := Lib.hid (fun (G : SProp) (w : World) (h : St w0 w G) (hv : Stb w0 G (fun w => Reads w 1 v l.length (l.map uv))) => rows_any h hv hb (W := W) (H := H) (per := per) (wide := wide) (n := W * per) hW1 (by omega) (by omega) (by omega) (by omega) (by omega) (by omega) rfl hl (by omega) o (fun hp => by have := g8 hp; omega))
 have HTL := Lib.hid (fun (G : SProp) (w : World) (h : St w0 w G) (ht : Tab w0 G) (R : List (Value × List UInt8)) (v' : Value) (hv : Stb w0 G (fun w => Reads w 1 v' R.length (R.map Prod.fst))) (hr : Stb w0 G (fun w => ∀ x ∈ R, Reads w 1 x.1 x.2.length (x.2.map bv))) (hR : R.map Prod.snd = rowsF o.predict o.big wide per (W * per) l H) => by
  have hRl : R.length = H := by rw [← rowsF_len o.predict o.big wide per (W * per) H l, ← hR, List.length_map]
  have hX : ∀ x ∈ R, x.2.length = (W * per * wide + 7) / 8 := fun x hx => rowsF_mem_len hl _ (by rw [← hR]; exact List.mem_map_of_mem hx)
  have hb1 : W * per * wide ≤ 102400 := Nat.le_trans (Nat.mul_le_mul (Nat.mul_le_mul hW (by omega : per ≤ 8)) (by omega : wide ≤ 32)) (by decide)
  have hJ : (joinL (R.map Prod.snd)).length ≤ 1000000 := by
   rw [hR, joinL_const (rowsF_mem_len hl), rowsF_len]
   have e1 : H * ((W * per * wide + 7) / 8) ≤ H * (4 * (W * per) + 1) := Nat.mul_le_mul_left _ (by have : W * per * wide ≤ W * per * 32 := Nat.mul_le_mul_left _ (by omega); omega)
   have e2 : H * (4 * (W * per) + 1) = 4 * (H * (W * per)) + H := by rw [Nat.mul_add, Nat.mul_left_comm]; omega
   omega
  exact tell_any h ht (R := R) (v := v') hv hr (by omega) hW1 hW (fun x hx => by rw [hX x hx]; omega) hJ o hleg (fun hp hwd x hx => by
   have hp' : per = 1 := by omega
   have hwd' : wide = 1 := by omega
   rw [hX x hx, hp', hwd']; omega) (ph := (H : Int)) (pper := (per : Int)) (pwide := (wide : Int)) (pv := v))
 have HLN := Lib.hid (fun z (hz : TellS o W (rowsF o.predict o.big wide per (W * per) l H) z) => hz.len (by rw [rowsF_len]; exact hH)
  (by
   rw [joinL_const (rowsF_mem_len hl), rowsF_len]
   have e1 : H * ((W * per * wide + 7) / 8) ≤ H * (4 * (W * per) + 1) := Nat.mul_le_mul_left _ (by have : W * per * wide ≤ W * per * 32 := Nat.mul_le_mul_left _ (by omega); omega)
   have e2 : H * (4 * (W * per) + 1) = 4 * (H * (W * per)) + H := by rw [Nat.mul_add, Nat.mul_left_comm]; omega
   omega) hW (fun hs X hX => by
   have hf := g6 hs
   have hp' : per = 1 := by omega
   have hwd' : wide = 1 := by omega
   rw [rowsF_mem_len hl X hX, hp', hwd']; omega))
 have HLG := Lib.hid (fun (G : SProp) (w : World) (h : St w0 w G) => legal_any h o (per : Int) (wide : Int))
 rw [hleg] at HLG
 obtain ⟨m, hm⟩ : ∃ m, W * H = m := ⟨_, rfl⟩
 have hmI : (W : Int) * (H : Int) = (m : Int) := by rw [← hm]; simp
 have hkI : (m : Int) * (per : Int) = (l.length : Int) := by rw [← hl, ← hm]; simp [Int.mul_comm, Int.mul_left_comm, Int.mul_assoc]
 have hm2 : m ≤ 120000 := by rw [← hm]; exact Nat.le_trans (Nat.mul_le_mul hW hH) (by decide)
 obtain ⟨rr, hrr⟩ : ∃ rr, rowsF o.predict o.big wide per (W * per) l H = rr := ⟨_, rfl⟩
 rw [hrr] at HLN HTL
 obtain ⟨a0, c0, rfl⟩ := (hv w h).sub
 have HV := Lib.hid hv; have HT := Lib.hid htab; have HRR := Lib.hid hrr
 obtain ⟨L, hL⟩ : ∃ L, l.length = L := ⟨_, rfl⟩
 rw [hL] at hkI hl2 HV HRW HTL ⊢
 have HLL := Lib.hid hL
 clear hL hv htab hcan hleg g1 g2 g3 g4 g5 g6 g7 g8 g9 hm hl hrr hb
 have h3 := two_alloc h (.cells #[.int .i64 (W : Int), .int .i64 (H : Int), .int .i64 (per : Int), .int .i64 (wide : Int), .slice a0 L c0] 24) (.cells (optBox o) 28)
 have f0 := h3.right.cell 0 rfl
 have f1 := h3.right.cell 1 rfl
 have f2 := h3.right.cell 2 rfl
 have f3 := h3.right.cell 3 rfl
 have f4 := h3.right.cell 4 rfl
 have H3 := Lib.hid h3
 clear h3 h
 have hov : o.v = .agg (optBox o) := rfl
 simp only [partV, hov] at HRW HTL HLG ⊢
 obtain ⟨ob, hob⟩ : ∃ ob, optBox o = ob := ⟨_, rfl⟩
 have hobs : ob.size = 14 := by rw [← hob]; rfl
 have hob8 : ob[8]? = some (.bool o.low) := by rw [← hob]; rfl
 have HO8 := Lib.hid hob8
 have HOS := Lib.hid hobs
 rw [hob] at HRW HTL HLG H3 f0 f1 f2 f3 f4 ⊢
 clear hob hov hobs hob8
 go_enter Tryz.func8, Tryz.ntmps8
 go_wp2_with (first
  | (go_at_call 17; apply stop)
  | (refine wpList_load_blk rfl 24 _ rfl (H4.out.perm (star_left_comm _ _ _)) rfl Tryz.underlying24 rfl (by show _ = some 5; kernel_rfl) ?_)
  | (refine wpList_load_blk rfl 28 _ rfl H4.out rfl Tryz.underlying28 rfl (by rw [HOS.out]; kernel_rfl) ?_)
  | (go_at_call 9; refine (HLG.out _ _ H3.out).mono ?_; rintro e w4 ⟨rfl, h4⟩; have H4 := Lib.hid h4; clear h4 f0 f1 f2 f3 f4 H3)
  | (refine wpList_load_blk rfl 28 _ rfl H3.out rfl Tryz.underlying28 rfl (by rw [HOS.out]; kernel_rfl) ?_)
  | (go_at_call 16; refine (HC.out _).mono ?_; rintro e w1 ⟨rfl, rfl⟩))
 refine on ((HRW.out _ _ H4.out (fun w h => HV.out w h.right.right)).mono ?_)
 rintro e w5 hd
 by_cases hall : ∀ x ∈ l, x < 2 ^ wide
 ·obtain ⟨v5, R, rfl, hR, h5⟩ := hd.1 hall
  have HALL := Lib.hid hall
  have HTR := Lib.hid (HTL.out _ _ h5 (fun w h => HT.out w h.right.right.right.right) R v5 Stb.of_own (fun w h x hx => rowsBP_reads R _ h.right x hx) (hR.trans HRR.out))
  have hrr2 := hR.trans HRR.out
  rw [hrr2] at HTR
  have H5 := Lib.hid (h5.perm (show _ = blk (w.heap.size + 1) (.cells ob 28) * (blk w.heap.size (.cells #[.int .i64 (W : Int), .int .i64 (H : Int), .int .i64 (per : Int), .int .i64 (wide : Int), .slice a0 L c0] 24) * (own 32 1 v5 R.length (R.map Prod.fst) * (rowsBP R * F))) by ac_rfl))
  clear hd hall hR hrr2 h5 H4 HRW HC HLG
  go_wp2_with (first
   | (go_at_call 18; apply stop)
   | (refine wpList_load_blk rfl 24 _ rfl (H5.out.perm (star_left_comm _ _ _)) rfl Tryz.underlying24 rfl (by show _ = some 5; kernel_rfl) ?_)
   | (refine wpList_load_blk rfl 28 _ rfl H5.out rfl Tryz.underlying28 rfl (by rw [HOS.out]; kernel_rfl) ?_))
  refine on (HTR.out.mono ?_)
  rintro e w6 ⟨v6, z, rfl, hz, h6⟩
  have hzl := HLN.out z hz
  have HZ := Lib.hid hz
  have h6' := h6.perm (show _ = blk (w.heap.size + 1) (.cells ob 28) * (blk w.heap.size (.cells #[.int .i64 (W : Int), .int .i64 (H : Int), .int .i64 (per : Int), .int .i64 (wide : Int), .slice a0 L c0] 24) * (own 32 1 v5 R.length (R.map Prod.fst) * (rowsBP R * (own 5 1 v6 z.length (z.map bv) * F)))) by ac_rfl)
  have k8 := h6'.cell 8 HO8.out
  have HRV := Lib.hid (reverseAll_any h6' z (v := v6) (fun w h => h.right.right.right.right.reads) (by omega))
  have H6 := Lib.hid h6'
  clear h6 h6' hz HTR H5
  cases hlow : o.low
  ·rw [hlow] at k8
   go_wp2_with fail
   go_ret2
   refine ⟨fun _ => ⟨v6, z, rfl, by rw [HRR.out]; exact HZ.out, ?_⟩, fun hn => absurd HALL.out hn⟩
   rw [hlow]
   exact H6.out.right.right.right.right
  ·rw [hlow] at k8
   go_wp2_with (go_at_call 19; refine HRV.out.mono ?_; rintro e w7 ⟨v7, rfl, h7⟩; have H7 := Lib.hid h7; clear h7)
   go_ret2
   refine ⟨fun _ => ⟨v7, z, rfl, by rw [HRR.out]; exact HZ.out, ?_⟩, fun hn => absurd HALL.out hn⟩
   rw [hlow, if_pos rfl]
   have h8 := H7.out.perm (show _ = blk (w.heap.size + 1) (.cells ob 28) * (blk w.heap.size (.cells #[.int .i64 (W : Int), .int .i64 (H : Int), .int .i64 (per : Int), .int .i64 (wide : Int), .slice a0 L c0] 24) * (own 32 1 v5 R.length (R.map Prod.fst) * (rowsBP R * (own 5 1 v6 z.length (z.map bv) * (own 5 1 v7 (z.map revB).length ((z.map revB).map bv) * F))))) by ac_rfl)
   rw [List.length_map] at h8
   exact h8.right.right.right.right.right
 ·obtain ⟨rfl, h5⟩ := hd.2 hall
  have HALL := Lib.hid hall
  have H5 := Lib.hid h5.right.right
  clear hd hall h5 H4 HRW HC HLG
  go_wp2_with fail
  go_ret2
  exact ⟨fun ha => absurd ha HALL.out, fun _ => ⟨rfl, H5.out⟩⟩
set_option maxHeartbeats 40000000 in
theorem pack_arg {w0 w : World} {F : SProp} (h : St w0 w F) {a0 : Option Addr} {L c0 : Nat} {W H per wide : Int} (o : Opt) (hbad : ¬ (can24 W H per = true ∧ (L : Int) = W * H * per)) :
  Calls Tryz.prog 8 #[.agg #[.int .i64 W, .int .i64 H, .int .i64 per, .int .i64 wide, .slice a0 L c0], o.v] w fun e w' => e = .returned (.tuple #[.slice none 0 0, .int .i64 1]) ∧ St w0 w' F := by
 have h3 := two_alloc h (.cells #[.int .i64 W, .int .i64 H, .int .i64 per, .int .i64 wide, .slice a0 L c0] 24) (.cells (optBox o) 28)
 have f0 := h3.right.cell 0 rfl
 have f1 := h3.right.cell 1 rfl
 have f2 := h3.right.cell 2 rfl
 have f4 := h3.right.cell 4 rfl
 have HC := Lib.hid (fun w => can_any W H per w)
 have H3 := Lib.hid h3
 clear h3 h
 have hov : o.v = .agg (optBox o) := rfl
 rw [hov]
 generalize optBox o = ob at *
 clear hov
 by_cases hcan : can24 W H per = true
 ·rw [hcan] at HC
  have hne : ¬ (L : Int) = W * H * per := fun e => hbad ⟨hcan, e⟩
  obtain ⟨m, hm⟩ : ∃ m, W * H = m := ⟨_, rfl⟩
  obtain ⟨k, hk⟩ : ∃ k, m * per = k := ⟨_, rfl⟩
  simp only [can24, Bool.and_eq_true, decide_eq_true_eq] at hcan
  have m1 : 0 ≤ m := by rw [← hm]; exact Int.mul_nonneg (by omega) (by omega)
  have m2 : m ≤ 1073741824 := by rw [← hm]; exact Int.le_trans (Int.mul_le_mul hcan.2.2.1 hcan.2.2.2.1 (by omega) (by omega)) (by decide)
  have k1 : 0 ≤ k := by rw [← hk]; exact Int.mul_nonneg m1 (by omega)
  have k2 : k ≤ 8589934592 := by rw [← hk]; exact Int.le_trans (Int.mul_le_mul m2 hcan.2.2.2.2.2.1 (by omega) (by omega)) (by decide)
  rw [hm, hk] at hne
  clear hbad hcan
  go_enter Tryz.func8, Tryz.ntmps8
  go_wp2_with (go_at_call 16; refine (HC.out _).mono ?_; rintro e w1 ⟨rfl, rfl⟩)
  go_ret2
  exact ⟨rfl, H3.out.right.right⟩
 ·have hcan : can24 W H per = false := by simpa using hcan
  rw [hcan] at HC
  clear hbad hcan
  go_enter Tryz.func8, Tryz.ntmps8
  go_wp2_with (go_at_call 16; refine (HC.out _).mono ?_; rintro e w1 ⟨rfl, rfl⟩)
  go_ret2
  exact ⟨rfl, H3.out.right.right⟩
set_option maxHeartbeats 40000000 in
theorem pack_illegal {w0 w : World} {F : SProp} (h : St w0 w F) {a0 : Option Addr} {L c0 : Nat} {W H per wide : Int} (o : Opt) (hcan : can24 W H per = true) (hLk : (L : Int) = W * H * per) (hleg : o.legal per wide = false) :
  Calls Tryz.prog 8 #[.agg #[.int .i64 W, .int .i64 H, .int .i64 per, .int .i64 wide, .slice a0 L c0], o.v] w fun e w' => e = .returned (.tuple #[.slice none 0 0, .int .i64 10]) ∧ St w0 w' F := by
 have h3 := two_alloc h (.cells #[.int .i64 W, .int .i64 H, .int .i64 per, .int .i64 wide, .slice a0 L c0] 24) (.cells (optBox o) 28)
 have f0 := h3.right.cell 0 rfl
 have f1 := h3.right.cell 1 rfl
 have f2 := h3.right.cell 2 rfl
 have f3 := h3.right.cell 3 rfl
 have f4 := h3.right.cell 4 rfl
 have HC := Lib.hid (fun w => can_any W H per w)
 have HLG := Lib.hid (fun (G : SProp) (w : World) (h : St w0 w G) => legal_any h o per wide)
 rw [hleg] at HLG
 rw [hcan] at HC
 have H3 := Lib.hid h3
 clear h3 h hleg
 have hov : o.v = .agg (optBox o) := rfl
 have HOS := Lib.hid (show (optBox o).size = 14 from rfl)
 rw [hov] at HLG ⊢
 generalize optBox o = ob at *
 clear hov
 obtain ⟨m, hm⟩ : ∃ m, W * H = m := ⟨_, rfl⟩
 rw [hm] at hLk
 simp only [can24, Bool.and_eq_true, decide_eq_true_eq] at hcan
 have m1 : 0 ≤ m := by rw [← hm]; exact Int.mul_nonneg (by omega) (by omega)
 have m2 : m ≤ 1073741824 := by rw [← hm]; exact Int.le_trans (Int.mul_le_mul hcan.2.2.1 hcan.2.2.2.1 (by omega) (by omega)) (by decide)
 have k2 : (L : Int) ≤ 8589934592 := by rw [hLk]; exact Int.le_trans (Int.mul_le_mul m2 hcan.2.2.2.2.2.1 (by omega) (by omega)) (by decide)
 have hLk2 := hLk.symm
 clear hcan hLk
 go_enter Tryz.func8, Tryz.ntmps8
 go_wp2_with (first
  | (go_at_call 9; refine (HLG.out _ _ H3.out).mono ?_; rintro e w4 ⟨rfl, h4⟩; have H4 := Lib.hid h4; clear h4 f0 f1 f2 f3 f4 H3)
  | (refine wpList_load_blk rfl 28 _ rfl H3.out rfl Tryz.underlying28 rfl (by rw [HOS.out]; kernel_rfl) ?_)
  | (go_at_call 16; refine (HC.out _).mono ?_; rintro e w1 ⟨rfl, rfl⟩))
 go_ret2
 exact ⟨rfl, H4.out.right.right⟩
end Go.Proofs.YtboflbdniogcdaaGreatDoor
namespace Go.Proofs.YtboflbdniogcdaaGreatDoor
open Go.RowKit Go.Mz
set_option linter.unusedVariables false
set_option linter.unusedSimpArgs false
set_option maxRecDepth 100000
theorem legal_again {o : Opt} {per wide : Int} (h : o.legal per wide = true) : ({ o with how := 0, every := 1 } : Opt).legal per wide = true := by
 simp only [Opt.legal, legal24, Bool.and_eq_true] at h ⊢
 obtain ⟨⟨⟨⟨⟨⟨⟨⟨⟨h1, h2⟩, h3⟩, h4⟩, h5⟩, h6⟩, h7⟩, h8⟩, h9⟩, h10⟩ := h
 exact ⟨⟨⟨⟨⟨⟨⟨⟨⟨h1, h2⟩, h3⟩, h4⟩, h5⟩, h6⟩, by simp⟩, h8⟩, h9⟩, by simp⟩
theorem joinL_at {L : List (List UInt8)} {c : Nat} (h : ∀ X ∈ L, X.length = c) {y : Nat} {X : List UInt8} (hX : L[y]? = some X) : ((joinL L).drop (y * c)).take c = X := by
 have hy : y < L.length := by
  rcases Nat.lt_or_ge y L.length with h | h
  ·exact h
  ·rw [List.getElem?_eq_none h] at hX; cases hX
 have e : L = L.take y ++ (X :: L.drop (y + 1)) := by
  have h2 := (List.take_append_drop y L).symm
  rw [List.drop_eq_getElem_cons hy] at h2
  rw [List.getElem?_eq_getElem hy] at hX
  cases hX
  exact h2
 have hl : (joinL (L.take y)).length = y * c := by
  rw [joinL_const (fun Z hZ => h Z (List.mem_of_mem_take hZ)), List.length_take]; congr 1; omega
 conv => lhs; rw [e]
 rw [joinL] at hl ⊢
 rw [List.flatten_append, List.flatten_cons, List.drop_left' hl, List.take_left' (h X (List.mem_of_getElem? hX))]
theorem rowsF_at {predict big : Bool} {wide per n H : Nat} {l : List Nat} {y : Nat} (hy : y < H) : (rowsF predict big wide per n l H)[y]? = some (rowF predict big wide per (rowAt l n y)) := by
 rw [rowsF, List.getElem?_map, List.getElem?_range hy]; rfl
def OpenOut (w0 : World) (F : SProp) (W H per wide : Nat) (l : List Nat) (e : Ending) (w' : World) : Prop :=
 ∃ v', e = .returned (.tuple #[partV W H per wide v', .int .i64 0]) ∧ St w0 w' (own 48 1 v' l.length (l.map uv) * F)
set_option maxHeartbeats 40000000 in
theorem open_ff {w0 w : World} {F : SProp} (h : St w0 w F) (htab : Tab w0 F) {l : List Nat} {W H per wide : Nat} (hl : H * (W * per) = l.length) (hl2 : l.length ≤ 2000) (hW : W ≤ 400) (hH : H ≤ 300) (hall : ∀ x ∈ l, x < 2 ^ wide) (o : Opt)
  (hcan : can24 W H per = true) (hleg : o.legal per wide = true) {z t : List UInt8} (hl9 : (z ++ t).length ≤ 100000000) {vb vp : Value}
  (hun : ∀ (E F0 : SProp) (t' : List UInt8) (w : World), St w0 w (E * F0) → Tab w0 F0 → ∀ (vb' : Value), Stb w0 F0 (fun w => Reads w 1 vb' (z ++ t').length ((z ++ t').map bv)) → t'.length = t.length → Calls Tryz.prog 34 #[vb', .agg #[.int .i64 (W : Int), .int .i64 (H : Int), .int .i64 (per : Int), .int .i64 (wide : Int), vp], ({ o with how := 0, every := 1 } : Opt).v, .int .i64 (((W * per * wide + 7) / 8 : Nat) : Int)] w fun e w' => UntOut w0 E F0 (joinL (rowsF o.predict o.big wide per (W * per) l H)) e w') (hlow : o.low = false) (hpred : o.predict = false)
  (hb : Stb w0 F (fun w => Reads w 1 vb (z ++ t).length ((z ++ t).map bv))) :
  Calls Tryz.prog 14 #[vb, partV W H per wide vp, o.v] w fun e w' => OpenOut w0 F W H per wide l e w' := by
 obtain ⟨g1, g2, g3, g4, g5, g6, g7, g8, g9⟩ := legal24_facts hleg
 have hW1 : 1 ≤ W := by simp [can24] at hcan; omega
 have hH1 : 1 ≤ H := by simp [can24] at hcan; omega
 have hper : 1 ≤ per ∧ per ≤ 8 := by omega
 have hwd : 1 ≤ wide ∧ wide ≤ 32 := by omega
 have HC := Lib.hid (fun w => can_any (W : Int) (H : Int) (per : Int) w)
 rw [hcan] at HC
 have HLG := Lib.hid (fun (G : SProp) (w : World) (h : St w0 w G) => legal_any h { o with how := 0, every := 1 } (per : Int) (wide : Int))
 rw [legal_again hleg] at HLG
 have hn1 : 1 ≤ W * per := Nat.mul_le_mul hW1 hper.1
 have hnb : W * per ≤ 3200 := Nat.mul_le_mul hW hper.2
 have hb1 : W * per * wide ≤ 102400 := Nat.mul_le_mul hnb hwd.2
 have hmem := rowsF_mem_len (predict := o.predict) (big := o.big) (wide := wide) (per := per) hl
 have hLH := rowsF_len o.predict o.big wide per (W * per) H l
 have hJl : (joinL (rowsF o.predict o.big wide per (W * per) l H)).length = H * ((W * per * wide + 7) / 8) := by rw [joinL_const hmem, hLH]
 have hJ2 : (joinL (rowsF o.predict o.big wide per (W * per) l H)).length ≤ 1000000 := by
  rw [hJl]
  have e1 : H * ((W * per * wide + 7) / 8) ≤ H * (4 * (W * per) + 1) := Nat.mul_le_mul_left _ (by have : W * per * wide ≤ W * per * 32 := Nat.mul_le_mul_left _ (by omega); omega)
  have e2 : H * (4 * (W * per) + 1) = 4 * (H * (W * per)) + H := by rw [Nat.mul_add, Nat.mul_left_comm]; omega
  omega
 have hs1 : 1 ≤ (W * per * wide + 7) / 8 := by have : 1 ≤ W * per * wide := Nat.mul_le_mul hn1 hwd.1; omega
 have hsb : (W * per * wide + 7) / 8 ≤ 1000000 := by omega
 have HUN := Lib.hid hun
 have HSZ := Lib.hid (fun w => ssize_any (w := w) (n := W * per) (by omega) hwd.1 hwd.2)
 have HROW := Lib.hid (fun y (hy : y < H) => joinL_at hmem (rowsF_at (predict := o.predict) (big := o.big) (wide := wide) (per := per) (n := W * per) (l := l) hy))
 have HRL := Lib.hid (fun y (hy : y < H) => rowAt_len (l := l) (n := W * per) (y := y) (by rw [← hl, ← Nat.succ_mul]; exact Nat.mul_le_mul_right _ hy))
 have HRM := Lib.hid (fun y x (hx : x ∈ rowAt l (W * per) y) => hall x (rowAt_mem hx))
 have hpr := g8
 have hwI : (W : Int) * (per : Int) = ((W * per : Nat) : Int) := by simp
 have hmod : (W * per) % per = 0 := Nat.mul_mod_left W per
 obtain ⟨n, hn⟩ : ∃ n, W * per = n := ⟨_, rfl⟩
 rw [hn] at hl hn1 hnb hb1 hJl hJ2 hs1 hsb HUN HSZ HROW HRL HRM hwI hmod
 obtain ⟨sz, hsz⟩ : ∃ sz, (n * wide + 7) / 8 = sz := ⟨_, rfl⟩
 rw [hsz] at hJl hs1 hsb HUN HSZ HROW
 clear g1 g2 g3 g4 g5 g6 g7 g8 g9 hmem hLH hleg hcan hun hn
 have HLL := Lib.hid hl
 obtain ⟨big, large, tiled, ow, oh, planar, scheme, predict, low, two, every, al, fin, how⟩ := o
 simp only at hlow hpred
 subst hlow hpred
 simp only at HUN HLG HROW hJl hpr hJ2
 simp only [Opt.v, partV] at HUN HLG ⊢
 obtain ⟨J, hJ⟩ : ∃ J, joinL (rowsF false big wide per n l H) = J := ⟨_, rfl⟩
 rw [hJ] at hJl HUN HROW hJ2
 obtain ⟨jl, hjl⟩ : ∃ jl, J.length = jl := ⟨_, rfl⟩
 rw [hjl] at hJl hJ2
 have HJL := Lib.hid hJl
 have HJE := Lib.hid hjl
 clear hJ hJl hjl
 have T := elemU32
 have h3 := (two_alloc h (.cells #[.int .i64 (W : Int), .int .i64 (H : Int), .int .i64 (per : Int), .int .i64 (wide : Int), vp] 24) (.cells #[.bool big, .bool large, .bool tiled, .int .i64 ow, .int .i64 oh, .bool planar, .int .i64 scheme, .bool false, .bool false, .bool two, .int .i64 every, .bool al, .bool fin, .int .i64 how] 28)).alloc (.cells #[.int .i64 0, .int .i64 0, .int .i64 0, .int .i64 0, .slice none 0 0] 24)
 have hz3 : ∀ o0 o1 : Obj, ((w.alloc o0).alloc o1).heap.size = w.heap.size + 1 + 1 := fun o0 o1 => (Array.size_push _).trans (congrArg (· + 1) (Array.size_push _))
 rw [hz3] at h3
 have f0 := h3.right.right.cell 0 rfl
 have f1 := h3.right.right.cell 1 rfl
 have f2 := h3.right.right.cell 2 rfl
 have h6 := (two_alloc h (.cells #[.int .i64 (W : Int), .int .i64 (H : Int), .int .i64 (per : Int), .int .i64 (wide : Int), vp] 24) (.cells #[.bool big, .bool large, .bool tiled, .int .i64 ow, .int .i64 oh, .bool planar, .int .i64 scheme, .bool false, .bool false, .bool two, .int .i64 1, .bool al, .bool fin, .int .i64 0] 28)).alloc (.cells #[.int .i64 0, .int .i64 0, .int .i64 0, .int .i64 0, .slice none 0 0] 24)
 rw [hz3] at h6
 have h6 := h6.perm (show _ = blk (w.heap.size + 1) (.cells #[.bool big, .bool large, .bool tiled, .int .i64 ow, .int .i64 oh, .bool planar, .int .i64 scheme, .bool false, .bool false, .bool two, .int .i64 1, .bool al, .bool fin, .int .i64 0] 28) * (blk (w.heap.size + 1 + 1) (.cells #[.int .i64 0, .int .i64 0, .int .i64 0, .int .i64 0, .slice none 0 0] 24) * (blk w.heap.size (.cells #[.int .i64 (W : Int), .int .i64 (H : Int), .int .i64 (per : Int), .int .i64 (wide : Int), vp] 24) * F)) by ac_rfl)
 have f2' := h6.right.right.cell 2 rfl
 have f3' := h6.right.right.cell 3 rfl
 have H6 := Lib.hid h6
 clear h3 h6 hz3 h
 go_enter Tryz.func14, Tryz.ntmps14
 go_wp2_with (first
  | (go_at_call 9; apply stop)
  | (refine wpList_load_blk rfl 28 _ rfl H6.out rfl Tryz.underlying28 rfl (by show _ = some 14; kernel_rfl) ?_)
  | (go_at_call 16; refine (HC.out _).mono ?_; rintro e w1 ⟨rfl, rfl⟩))
 refine on ((HLG.out _ _ H6.out).mono ?_)
 rintro e w4 ⟨rfl, h7⟩
 generalize w.heap.size = gp at *
 have k8 := h7.cell 8 rfl
 have e0 := h7.right.right.cell 0 rfl
 have e2 := h7.right.right.cell 2 rfl
 have e3 := h7.right.right.cell 3 rfl
 have H7 := Lib.hid h7
 clear h7 f0 f1 f2 f2' f3' H6 HLG
 go_wp2_with (first
  | (go_at_call 34; apply stop)
  | (go_at_call 33; refine (HSZ.out _).mono ?_; rintro e w5 ⟨rfl, rfl⟩)
  | (refine wpList_load_blk rfl 24 _ rfl (H7.out.perm (show _ = blk gp (.cells #[.int .i64 (W : Int), .int .i64 (H : Int), .int .i64 (per : Int), .int .i64 (wide : Int), vp] 24) * (blk (gp + 1) (.cells #[.bool big, .bool large, .bool tiled, .int .i64 ow, .int .i64 oh, .bool planar, .int .i64 scheme, .bool false, .bool false, .bool two, .int .i64 1, .bool al, .bool fin, .int .i64 0] 28) * (blk (gp + 1 + 1) (.cells #[.int .i64 0, .int .i64 0, .int .i64 0, .int .i64 0, .slice none 0 0] 24) * F)) by ac_rfl)) rfl Tryz.underlying24 rfl (by show _ = some 5; kernel_rfl) ?_)
  | (refine wpList_load_blk rfl 28 _ rfl (H7.out.perm rfl) rfl Tryz.underlying28 rfl (by show _ = some 14; kernel_rfl) ?_))
 refine on ((HUN.out (blk (gp + 1) (.cells #[.bool big, .bool large, .bool tiled, .int .i64 ow, .int .i64 oh, .bool planar, .int .i64 scheme, .bool false, .bool false, .bool two, .int .i64 1, .bool al, .bool fin, .int .i64 0] 28) * (blk (gp + 1 + 1) (.cells #[.int .i64 0, .int .i64 0, .int .i64 0, .int .i64 0, .slice none 0 0] 24) * blk gp (.cells #[.int .i64 (W : Int), .int .i64 (H : Int), .int .i64 (per : Int), .int .i64 (wide : Int), vp] 24))) (F) t _ (H7.out.perm (by simp only [star_assoc])) htab _ hb rfl).mono ?_)
 rintro e w10 ⟨v10, G, rfl, h10, hrd⟩
 rw [HJE.out] at hrd
 obtain ⟨a10, c10, rfl⟩ := (hrd _ (h10.perm (show _ = (blk (gp + 1) (.cells #[.bool big, .bool large, .bool tiled, .int .i64 ow, .int .i64 oh, .bool planar, .int .i64 scheme, .bool false, .bool false, .bool two, .int .i64 1, .bool al, .bool fin, .int .i64 0] 28) * (blk (gp + 1 + 1) (.cells #[.int .i64 0, .int .i64 0, .int .i64 0, .int .i64 0, .slice none 0 0] 24) * blk gp (.cells #[.int .i64 (W : Int), .int .i64 (H : Int), .int .i64 (per : Int), .int .i64 (wide : Int), vp] 24))) * (G * (F)) by ac_rfl)).right).sub
 have h11 := h10.perm (show _ = blk gp (.cells #[.int .i64 (W : Int), .int .i64 (H : Int), .int .i64 (per : Int), .int .i64 (wide : Int), vp] 24) * (blk (gp + 1) (.cells #[.bool big, .bool large, .bool tiled, .int .i64 ow, .int .i64 oh, .bool planar, .int .i64 scheme, .bool false, .bool false, .bool two, .int .i64 1, .bool al, .bool fin, .int .i64 0] 28) * (blk (gp + 1 + 1) (.cells #[.int .i64 0, .int .i64 0, .int .i64 0, .int .i64 0, .slice none 0 0] 24) * (G * (F)))) by ac_rfl)
 have c4 := h11.cell 4 rfl
 have r4 := h11.free 4
 have h12 : St w0 _ (blk gp (.cells #[.int .i64 (W : Int), .int .i64 (H : Int), .int .i64 (per : Int), .int .i64 (wide : Int), .slice none 0 0] 24) * (blk (gp + 1) (.cells #[.bool big, .bool large, .bool tiled, .int .i64 ow, .int .i64 oh, .bool planar, .int .i64 scheme, .bool false, .bool false, .bool two, .int .i64 1, .bool al, .bool fin, .int .i64 0] 28) * (blk (gp + 1 + 1) (.cells #[.int .i64 0, .int .i64 0, .int .i64 0, .int .i64 0, .slice none 0 0] 24) * (G * (F))))) := h11.set 4 (.slice none 0 0)
 have d1 := h12.cell 1 rfl
 have H12 := Lib.hid (St.own_nil 48 1 h12)
 have HRD := Lib.hid hrd
 clear h10 h11 h12 hrd k8 e0 e2 e3 H7 HSZ HUN
 go_wp2_with fail
 go_loopw [65] (fun vi wr => ∃ (y m : Nat) (ao : Option Addr) (co : Nat), y ≤ H ∧ vi = .int .i64 y ∧ RowKit.Hid (y * n = m) ∧ m ≤ l.length ∧ St w0 wr (own 48 1 (.slice ao m co) m ((l.take m).map uv) * (blk gp (.cells #[.int .i64 (W : Int), .int .i64 (H : Int), .int .i64 (per : Int), .int .i64 (wide : Int), .slice ao m co] 24) * (blk (gp + 1) (.cells #[.bool big, .bool large, .bool tiled, .int .i64 ow, .int .i64 oh, .bool planar, .int .i64 scheme, .bool false, .bool false, .bool two, .int .i64 1, .bool al, .bool fin, .int .i64 0] 28) * (blk (gp + 1 + 1) (.cells #[.int .i64 0, .int .i64 0, .int .i64 0, .int .i64 0, .slice none 0 0] 24) * (G * (F))))))) (fun vi _ => H - (intOf vi).toNat)
 case atStart => exact ⟨0, 0, none, 0, Nat.zero_le _, rfl, Lib.hid (Nat.zero_mul n), Nat.zero_le _, H12.out⟩
 case round =>
  clear H12 d1
  obtain ⟨y, m, ao, co, hy, rfl, hQ, hm, hst⟩ := hrel
  by_cases hyn : y < H
  ·have hyI : (y : Int) < H := by omega
   obtain ⟨ys, hys⟩ : ∃ ys, y * sz = ys := ⟨_, rfl⟩
   have hJl' : ys + sz ≤ jl := by rw [HJL.out, ← hys, ← Nat.succ_mul]; exact Nat.mul_le_mul_right _ hyn
   have hsI : (y : Int) * (sz : Int) = (ys : Int) := by rw [← hys]; simp
   obtain ⟨ys1, hys1⟩ : ∃ ys1, ys + sz = ys1 := ⟨_, rfl⟩
   have hsI1 : ((y : Int) + 1) * (sz : Int) = (ys1 : Int) := by rw [Int.add_mul, hsI, ← hys1]; simp
   have hys1b : ys1 ≤ 1000000 := by omega
   have hrd := HRD.out _ (hst.perm (show _ = (own 48 1 (.slice ao m co) m ((l.take m).map uv) * (blk gp (.cells #[.int .i64 (W : Int), .int .i64 (H : Int), .int .i64 (per : Int), .int .i64 (wide : Int), .slice ao m co] 24) * (blk (gp + 1) (.cells #[.bool big, .bool large, .bool tiled, .int .i64 ow, .int .i64 oh, .bool planar, .int .i64 scheme, .bool false, .bool false, .bool two, .int .i64 1, .bool al, .bool fin, .int .i64 0] 28) * blk (gp + 1 + 1) (.cells #[.int .i64 0, .int .i64 0, .int .i64 0, .int .i64 0, .slice none 0 0] 24)))) * (G * (F)) by ac_rfl)).right
   obtain ⟨b, off, ee, _⟩ := hrd.at_ (show 0 < jl by omega)
   cases ee
   have hcap := (rd_cap hrd).1
   have hlo : (ys : Int) ≤ (ys1 : Nat) := by omega
   have hhi : (ys1 : Int) ≤ c10 := by omega
   have hcy : ¬ c10 = ys := by omega
   have hsub : ys1 - ys = sz := by omega
   have hwn : IntKind.i64.wrap (n : Int) = n := IntWalk.i64_in _ (by omega)
   have hwy : IntKind.i64.wrap ((y : Int) + 1) = (y : Int) + 1 := IntWalk.i64_in _ (by omega)
   have hwys : IntKind.i64.wrap (ys : Int) = ys := IntWalk.i64_in _ (by omega)
   have hwys1 : IntKind.i64.wrap (ys1 : Int) = ys1 := IntWalk.i64_in _ (by omega)
   have hmn : m + n ≤ l.length := by rw [← hl, ← hQ.out, ← Nat.succ_mul]; exact Nat.mul_le_mul_right _ hyn
   have HTK := Lib.hid (show l.take (m + n) = l.take m ++ rowAt l n y by rw [← hQ.out]; exact take_row l n y)
   have HMN := Lib.hid (show (y + 1) * n = m + n by rw [Nat.succ_mul, hQ.out])
   have hrow := HROW.out y hyn
   have HRLY := Lib.hid (HRL.out y hyn)
   have HRMY := Lib.hid (HRM.out y)
   have HRB := Lib.hid (fun (w : World) (h : St w0 w (G * (F))) => show Reads w 1 (.slice (some ⟨b, off + ys, none⟩) sz (c10 - ys)) sz ((rowF false big wide per (rowAt l n y)).map bv) by
    have := rd_rowB (HRD.out w h) (i := ys) (k := sz) (by omega)
    rwa [← hys, hrow, hys] at this)
   have HUP := Lib.hid (fun (w : World) (h : St w0 w (own 48 1 (.slice ao m co) m ((l.take m).map uv) * (blk gp (.cells #[.int .i64 (W : Int), .int .i64 (H : Int), .int .i64 (per : Int), .int .i64 (wide : Int), .slice ao m co] 24) * (blk (gp + 1) (.cells #[.bool big, .bool large, .bool tiled, .int .i64 ow, .int .i64 oh, .bool planar, .int .i64 scheme, .bool false, .bool false, .bool two, .int .i64 1, .bool al, .bool fin, .int .i64 0] 28) * (blk (gp + 1 + 1) (.cells #[.int .i64 0, .int .i64 0, .int .i64 0, .int .i64 0, .slice none 0 0] 24) * (G * (F))))))) => by
    have hpl : (rowF false big wide per (rowAt l n y)).length = sz := by rw [rowF_len, HRLY.out, hsz]
    have C := sunpack_any h (row := rowAt l n y) (t := []) (v := .slice (some ⟨b, off + ys, none⟩) sz (c10 - ys)) (wide := wide) (big := big) (fun w h => by
     have h2 := HRB.out w (h.perm (show _ = (own 48 1 (.slice ao m co) m ((l.take m).map uv) * (blk gp (.cells #[.int .i64 (W : Int), .int .i64 (H : Int), .int .i64 (per : Int), .int .i64 (wide : Int), .slice ao m co] 24) * (blk (gp + 1) (.cells #[.bool big, .bool large, .bool tiled, .int .i64 ow, .int .i64 oh, .bool planar, .int .i64 scheme, .bool false, .bool false, .bool two, .int .i64 1, .bool al, .bool fin, .int .i64 0] 28) * blk (gp + 1 + 1) (.cells #[.int .i64 0, .int .i64 0, .int .i64 0, .int .i64 0, .slice none 0 0] 24)))) * (G * (F)) by ac_rfl)).right
     rw [List.append_nil]
     show Reads w 1 _ (rowF false big wide per (rowAt l n y)).length _
     rw [hpl]; exact h2) (by rw [HRLY.out]; omega) (by
      rw [List.append_nil]
      show (rowF false big wide per (rowAt l n y)).length ≤ _
      rw [hpl]; omega) (HRMY.out) hwd.1 hwd.2
    rw [HRLY.out] at C
    exact C)
   have q0 := hst.right.cell 0 rfl
   have q2 := hst.right.cell 2 rfl
   have q3 := hst.right.cell 3 rfl
   have p0 := hst.right.right.cell 0 rfl
   have HST := Lib.hid hst
   clear hst hrd hrow hys
   go_upto_region 16 with (fail)
   refine wp_region_noPanic ?_
   refine region_till (S := fun w' : World => w'.cell? ⟨gp, 0, none⟩ = some (.int .i64 (W : Int)) ∧ w'.cell? ⟨gp, 2, none⟩ = some (.int .i64 (per : Int)) ∧ w'.cell? ⟨gp, 3, none⟩ = some (.int .i64 (wide : Int)) ∧ w'.cell? ⟨gp + 1, 0, none⟩ = some (.bool big)) (k := 18) (by kernel_rfl) ?_
   have hS : (fun w' : World => w'.cell? ⟨gp, 0, none⟩ = some (.int .i64 (W : Int)) ∧ w'.cell? ⟨gp, 2, none⟩ = some (.int .i64 (per : Int)) ∧ w'.cell? ⟨gp, 3, none⟩ = some (.int .i64 (wide : Int)) ∧ w'.cell? ⟨gp + 1, 0, none⟩ = some (.bool big)) wr := ⟨q0, q2, q3, p0⟩
   clear q0 q2 q3 p0
   refine till_take0 (i := 0) (oi := ?_) (v := ?_) ?_ (by kernel_rfl) (by kernel_rfl) (by kernel_rfl) (by decide) (fun _ _ _ h => h.elim) (by assumption) (.inl ⟨?_, fun w => ?_⟩) ?_
   rotate_left 2
   ·(simp only [List.getElem?_toArray, List.getElem?_cons_succ, List.getElem?_cons_zero]; rfl)
   ·rfl
   ·(go_simp; try with_reducible rfl)
   simp only [Act.put, List.setIfInBounds_toArray, List.set_cons_zero, List.set_cons_succ]
   refine till_take0 (i := 1) (oi := ?_) (v := ?_) ?_ (by kernel_rfl) (by kernel_rfl) (by kernel_rfl) (by decide) (fun _ _ _ h => h.elim) (by assumption) (.inl ⟨?_, fun w => ?_⟩) ?_
   rotate_left 2
   ·(simp only [List.getElem?_toArray, List.getElem?_cons_succ, List.getElem?_cons_zero]; rfl)
   ·rfl
   ·(go_simp; try with_reducible rfl)
   simp only [Act.put, List.setIfInBounds_toArray, List.set_cons_zero, List.set_cons_succ]
   refine till_take0 (i := 2) (oi := ?_) (v := ?_) ?_ (by kernel_rfl) (by kernel_rfl) (by kernel_rfl) (by decide) (fun _ _ _ h => h.elim) (by assumption) (.inl ⟨?_, fun w => ?_⟩) ?_
   rotate_left 2
   ·(simp only [List.getElem?_toArray, List.getElem?_cons_succ, List.getElem?_cons_zero]; rfl)
   ·rfl
   ·(go_simp; try with_reducible rfl)
   simp only [Act.put, List.setIfInBounds_toArray, List.set_cons_zero, List.set_cons_succ]
   refine till_take0 (i := 3) (oi := ?_) (v := ?_) ?_ (by kernel_rfl) (by kernel_rfl) (by kernel_rfl) (by decide) (fun _ _ _ h => h.elim) (by assumption) (.inl ⟨?_, fun w => ?_⟩) ?_
   rotate_left 2
   ·(simp only [List.getElem?_toArray, List.getElem?_cons_succ, List.getElem?_cons_zero]; rfl)
   ·rfl
   ·(go_simp; try with_reducible rfl)
   simp only [Act.put, List.setIfInBounds_toArray, List.set_cons_zero, List.set_cons_succ]
   refine till_take0 (i := 4) (oi := ?_) (v := ?_) ?_ (by kernel_rfl) (by kernel_rfl) (by kernel_rfl) (by decide) (fun _ _ _ h => h.elim) (by assumption) (.inl ⟨?_, fun w => ?_⟩) ?_
   rotate_left 2
   ·(simp only [List.getElem?_toArray, List.getElem?_cons_succ, List.getElem?_cons_zero]; rfl)
   ·rfl
   ·(go_simp; try with_reducible rfl)
   simp only [Act.put, List.setIfInBounds_toArray, List.set_cons_zero, List.set_cons_succ]
   refine till_take0 (i := 5) (oi := ?_) (v := ?_) ?_ (by kernel_rfl) (by kernel_rfl) (by kernel_rfl) (by decide) (fun _ _ _ h => h.elim) (by assumption) (.inl ⟨?_, fun w => ?_⟩) ?_
   rotate_left 2
   ·(simp only [List.getElem?_toArray, List.getElem?_cons_succ, List.getElem?_cons_zero]; rfl)
   ·rfl
   ·(go_simp; try with_reducible rfl)
   simp only [Act.put, List.setIfInBounds_toArray, List.set_cons_zero, List.set_cons_succ]
   refine till_take0 (i := 6) (oi := ?_) (v := ?_) ?_ (by kernel_rfl) (by kernel_rfl) (by kernel_rfl) (by decide) (fun _ _ _ h => h.elim) (by assumption) (.inl ⟨?_, fun w => ?_⟩) ?_
   rotate_left 2
   ·(simp only [List.getElem?_toArray, List.getElem?_cons_succ, List.getElem?_cons_zero]; rfl)
   ·rfl
   ·(go_simp; try with_reducible rfl)
   simp only [Act.put, List.setIfInBounds_toArray, List.set_cons_zero, List.set_cons_succ]
   refine till_take0 (i := 7) (oi := ?_) (v := ?_) ?_ (by kernel_rfl) (by kernel_rfl) (by kernel_rfl) (by decide) (fun _ _ _ h => h.elim) (by assumption) (.inl ⟨?_, fun w => ?_⟩) ?_
   rotate_left 2
   ·(simp only [List.getElem?_toArray, List.getElem?_cons_succ, List.getElem?_cons_zero]; rfl)
   ·rfl
   ·(go_simp; try with_reducible rfl)
   simp only [Act.put, List.setIfInBounds_toArray, List.set_cons_zero, List.set_cons_succ]
   refine till_take0 (i := 8) (oi := ?_) (v := ?_) ?_ (by kernel_rfl) (by kernel_rfl) (by kernel_rfl) (by decide) (fun _ _ _ h => h.elim) (by assumption) (.inl ⟨?_, fun w => ?_⟩) ?_
   rotate_left 2
   ·(simp only [List.getElem?_toArray, List.getElem?_cons_succ, List.getElem?_cons_zero]; rfl)
   ·rfl
   ·(go_simp; try with_reducible rfl)
   simp only [Act.put, List.setIfInBounds_toArray, List.set_cons_zero, List.set_cons_succ]
   refine till_take0 (i := 9) (oi := ?_) (v := ?_) ?_ (by kernel_rfl) (by kernel_rfl) (by kernel_rfl) (by decide) (fun _ _ _ h => h.elim) (by assumption) (.inl ⟨?_, fun w => ?_⟩) ?_
   rotate_left 2
   ·(simp only [List.getElem?_toArray, List.getElem?_cons_succ, List.getElem?_cons_zero]; rfl)
   ·rfl
   ·(go_simp; try with_reducible rfl)
   simp only [Act.put, List.setIfInBounds_toArray, List.set_cons_zero, List.set_cons_succ]
   refine till_takeW 13 (i := 10) (oi := ?_) (v := ?_) ?_ (by kernel_rfl) (by kernel_rfl) (by kernel_rfl) (by kernel_rfl) (by kernel_rfl) (by kernel_rfl) (by kernel_rfl) (by decide) (by decide) (by decide) (fun _ _ _ h => h.elim) (by assumption) (.inl ⟨?_, fun w hSw => ?_⟩) ?_
   rotate_left 2
   ·(simp only [List.getElem?_toArray, List.getElem?_cons_succ, List.getElem?_cons_zero]; rfl)
   ·rfl
   ·((try dsimp only at hSw); obtain ⟨hs0, hs1, hs2, hs3⟩ := hSw; go_simp; try with_reducible rfl)
   simp only [Act.put, List.setIfInBounds_toArray, List.set_cons_zero, List.set_cons_succ]
   refine till_take0 (i := 11) (oi := ?_) (v := ?_) ?_ (by kernel_rfl) (by kernel_rfl) (by kernel_rfl) (by decide) (fun _ _ _ h => h.elim) (by assumption) (.inl ⟨?_, fun w => ?_⟩) ?_
   rotate_left 2
   ·(simp only [List.getElem?_toArray, List.getElem?_cons_succ, List.getElem?_cons_zero]; rfl)
   ·rfl
   ·(go_simp; try with_reducible rfl)
   simp only [Act.put, List.setIfInBounds_toArray, List.set_cons_zero, List.set_cons_succ]
   refine till_takeW 13 (i := 12) (oi := ?_) (v := ?_) ?_ (by kernel_rfl) (by kernel_rfl) (by kernel_rfl) (by kernel_rfl) (by kernel_rfl) (by kernel_rfl) (by kernel_rfl) (by decide) (by decide) (by decide) (fun _ _ _ h => h.elim) (by assumption) (.inl ⟨?_, fun w hSw => ?_⟩) ?_
   rotate_left 2
   ·(simp only [List.getElem?_toArray, List.getElem?_cons_succ, List.getElem?_cons_zero]; rfl)
   ·rfl
   ·((try dsimp only at hSw); obtain ⟨hs0, hs1, hs2, hs3⟩ := hSw; go_simp; try with_reducible rfl)
   simp only [Act.put, List.setIfInBounds_toArray, List.set_cons_zero, List.set_cons_succ]
   refine till_take0 (i := 13) (oi := ?_) (v := ?_) ?_ (by kernel_rfl) (by kernel_rfl) (by kernel_rfl) (by decide) (fun _ _ _ h => h.elim) (by assumption) (.inl ⟨?_, fun w => ?_⟩) ?_
   rotate_left 2
   ·(simp only [List.getElem?_toArray, List.getElem?_cons_succ, List.getElem?_cons_zero]; rfl)
   ·rfl
   ·(go_simp; try with_reducible rfl)
   simp only [Act.put, List.setIfInBounds_toArray, List.set_cons_zero, List.set_cons_succ]
   refine till_take0 (i := 14) (oi := ?_) (v := ?_) ?_ (by kernel_rfl) (by kernel_rfl) (by kernel_rfl) (by decide) (fun _ _ _ h => h.elim) (by assumption) (.inl ⟨?_, fun w => ?_⟩) ?_
   rotate_left 2
   ·(simp only [List.getElem?_toArray, List.getElem?_cons_succ, List.getElem?_cons_zero]; rfl)
   ·rfl
   ·(go_simp; try with_reducible rfl)
   simp only [Act.put, List.setIfInBounds_toArray, List.set_cons_zero, List.set_cons_succ]
   refine till_take (i := 15) (oi := ?_) (v := ?_) ?_ (by kernel_rfl) (by kernel_rfl) (by kernel_rfl) (by kernel_rfl) (by kernel_rfl) (fun _ _ _ h => h.elim) (by assumption) (.inl ⟨?_, fun w hSw => ?_⟩) ?_
   rotate_left 2
   ·(simp only [List.getElem?_toArray, List.getElem?_cons_succ, List.getElem?_cons_zero]; rfl)
   ·rfl
   ·((try dsimp only at hSw); obtain ⟨hs0, hs1, hs2, hs3⟩ := hSw; go_simp; try with_reducible rfl)
   simp only [Act.put, List.setIfInBounds_toArray, List.set_cons_zero, List.set_cons_succ]
   refine till_take0 (i := 16) (oi := ?_) (v := ?_) ?_ (by kernel_rfl) (by kernel_rfl) (by kernel_rfl) (by decide) (fun _ _ _ h => h.elim) (by assumption) (.inl ⟨?_, fun w => ?_⟩) ?_
   rotate_left 2
   ·(simp only [List.getElem?_toArray, List.getElem?_cons_succ, List.getElem?_cons_zero]; rfl)
   ·rfl
   ·(go_simp; try with_reducible rfl)
   simp only [Act.put, List.setIfInBounds_toArray, List.set_cons_zero, List.set_cons_succ]
   refine till_take (i := 17) (oi := ?_) (v := ?_) ?_ (by kernel_rfl) (by kernel_rfl) (by kernel_rfl) (by kernel_rfl) (by kernel_rfl) (fun _ _ _ h => h.elim) (by assumption) (.inl ⟨?_, fun w hSw => ?_⟩) ?_
   rotate_left 2
   ·(simp only [List.getElem?_toArray, List.getElem?_cons_succ, List.getElem?_cons_zero]; rfl)
   ·rfl
   ·((try dsimp only at hSw); obtain ⟨hs0, hs1, hs2, hs3⟩ := hSw; go_simp; try with_reducible rfl)
   simp only [Act.put, List.setIfInBounds_toArray, List.set_cons_zero, List.set_cons_succ]
   refine till_one (i := 18) (by kernel_rfl) ?_
   refine wpOp_step (by rfl) fun K hK => ?_
   go_simp
   refine (HUP.out _ HST.out.drew).mono ?_
   rintro e w2 ⟨v2, rfl, h2⟩
   have hS2 : (fun w' : World => w'.cell? ⟨gp, 0, none⟩ = some (.int .i64 (W : Int)) ∧ w'.cell? ⟨gp, 2, none⟩ = some (.int .i64 (per : Int)) ∧ w'.cell? ⟨gp, 3, none⟩ = some (.int .i64 (wide : Int)) ∧ w'.cell? ⟨gp + 1, 0, none⟩ = some (.bool big)) w2 := ⟨h2.right.right.cell 0 rfl, h2.right.right.cell 2 rfl, h2.right.right.cell 3 rfl, h2.right.right.right.cell 0 rfl⟩
   refine hK _ _ ⟨fun e => hS2, ?_⟩
   clear hK K hS
   have hS := hS2
   refine till_take0 (i := 19) (oi := ?_) (v := ?_) ?_ (by kernel_rfl) (by kernel_rfl) (by kernel_rfl) (by decide) (fun _ _ _ h => h.elim) (by assumption) (.inl ⟨?_, fun w => ?_⟩) ?_
   rotate_left 2
   ·(simp only [List.getElem?_toArray, List.getElem?_cons_succ, List.getElem?_cons_zero]; rfl)
   ·rfl
   ·(go_simp; try with_reducible rfl)
   simp only [Act.put, List.setIfInBounds_toArray, List.set_cons_zero, List.set_cons_succ]
   refine till_take0 (i := 20) (oi := ?_) (v := ?_) ?_ (by kernel_rfl) (by kernel_rfl) (by kernel_rfl) (by decide) (fun _ _ _ h => h.elim) (by assumption) (.inl ⟨?_, fun w => ?_⟩) ?_
   rotate_left 2
   ·(simp only [List.getElem?_toArray, List.getElem?_cons_succ, List.getElem?_cons_zero]; rfl)
   ·rfl
   ·(go_simp; try with_reducible rfl)
   simp only [Act.put, List.setIfInBounds_toArray, List.set_cons_zero, List.set_cons_succ]
   refine till_take0 (i := 21) (oi := ?_) (v := ?_) ?_ (by kernel_rfl) (by kernel_rfl) (by kernel_rfl) (by decide) (fun _ _ _ h => h.elim) (by assumption) (.inl ⟨?_, fun w => ?_⟩) ?_
   rotate_left 2
   ·(simp only [List.getElem?_toArray, List.getElem?_cons_succ, List.getElem?_cons_zero]; rfl)
   ·rfl
   ·(go_simp; try with_reducible rfl)
   simp only [Act.put, List.setIfInBounds_toArray, List.set_cons_zero, List.set_cons_succ]
   refine till_take0 (i := 22) (oi := ?_) (v := ?_) ?_ (by kernel_rfl) (by kernel_rfl) (by kernel_rfl) (by decide) (fun _ _ _ h => h.elim) (by assumption) (.inl ⟨?_, fun w => ?_⟩) ?_
   rotate_left 2
   ·(simp only [List.getElem?_toArray, List.getElem?_cons_succ, List.getElem?_cons_zero]; rfl)
   ·rfl
   ·(go_simp; try with_reducible rfl)
   simp only [Act.put, List.setIfInBounds_toArray, List.set_cons_zero, List.set_cons_succ]
   refine till_take0 (i := 23) (oi := ?_) (v := ?_) ?_ (by kernel_rfl) (by kernel_rfl) (by kernel_rfl) (by decide) (fun _ _ _ h => h.elim) (by assumption) (.inl ⟨?_, fun w => ?_⟩) ?_
   rotate_left 2
   ·(simp only [List.getElem?_toArray, List.getElem?_cons_succ, List.getElem?_cons_zero]; rfl)
   ·rfl
   ·(go_simp; try with_reducible rfl)
   simp only [Act.put, List.setIfInBounds_toArray, List.set_cons_zero, List.set_cons_succ]
   refine ⟨by kernel_rfl, NoPanic.normal ?_⟩
   clear hS hS2 HST
   obtain ⟨a2, c2, rfl⟩ := h2.reads.sub
   have q7 := h2.right.right.right.cell 7 rfl
   have q4 := h2.right.right.cell 4 rfl
   have HX := Lib.hid h2
   clear h2
   go_wp2_with (at_builtin; apply stop)
   refine on (wpList_append_sep T rfl _ _ rfl rfl (HX.out.perm (show _ = own 48 1 (.slice ao m co) m ((l.take m).map uv) * (own 48 1 (.slice a2 n c2) n ((rowAt l n y).map uv) * (blk gp (.cells #[.int .i64 (W : Int), .int .i64 (H : Int), .int .i64 (per : Int), .int .i64 (wide : Int), .slice ao m co] 24) * (blk (gp + 1) (.cells #[.bool big, .bool large, .bool tiled, .int .i64 ow, .int .i64 oh, .bool planar, .int .i64 scheme, .bool false, .bool false, .bool two, .int .i64 1, .bool al, .bool fin, .int .i64 0] 28) * (blk (gp + 1 + 1) (.cells #[.int .i64 0, .int .i64 0, .int .i64 0, .int .i64 0, .slice none 0 0] 24) * (G * (F)))))) by ac_rfl)) rfl HX.out.reads (uv_oneCell _) (by unfold maxLen; omega) (by omega) ?_)
   intro v4 w4 h4 _
   rw [← List.map_append, ← HTK.out] at h4
   obtain ⟨a4, c4, rfl⟩ := h4.reads.sub
   have h5 := h4.perm (show _ = blk gp (.cells #[.int .i64 (W : Int), .int .i64 (H : Int), .int .i64 (per : Int), .int .i64 (wide : Int), .slice ao m co] 24) * (own 48 1 (.slice a4 (m + n) c4) (m + n) ((l.take (m + n)).map uv) * (own 48 1 (.slice a2 n c2) n ((rowAt l n y).map uv) * (blk (gp + 1) (.cells #[.bool big, .bool large, .bool tiled, .int .i64 ow, .int .i64 oh, .bool planar, .int .i64 scheme, .bool false, .bool false, .bool two, .int .i64 1, .bool al, .bool fin, .int .i64 0] 28) * (blk (gp + 1 + 1) (.cells #[.int .i64 0, .int .i64 0, .int .i64 0, .int .i64 0, .slice none 0 0] 24) * (G * (F)))))) by ac_rfl)
   have s4 := h5.cell 4 rfl
   have r4 := h5.free 4
   have h6 : St w0 _ (blk gp (.cells #[.int .i64 (W : Int), .int .i64 (H : Int), .int .i64 (per : Int), .int .i64 (wide : Int), .slice a4 (m + n) c4] 24) * (own 48 1 (.slice a4 (m + n) c4) (m + n) ((l.take (m + n)).map uv) * (own 48 1 (.slice a2 n c2) n ((rowAt l n y).map uv) * (blk (gp + 1) (.cells #[.bool big, .bool large, .bool tiled, .int .i64 ow, .int .i64 oh, .bool planar, .int .i64 scheme, .bool false, .bool false, .bool two, .int .i64 1, .bool al, .bool fin, .int .i64 0] 28) * (blk (gp + 1 + 1) (.cells #[.int .i64 0, .int .i64 0, .int .i64 0, .int .i64 0, .slice none 0 0] 24) * (G * (F))))))) := h5.set 4 (.slice a4 (m + n) c4)
   have h7 := h6.perm (show _ = own 48 1 (.slice a2 n c2) n ((rowAt l n y).map uv) * (own 48 1 (.slice a4 (m + n) c4) (m + n) ((l.take (m + n)).map uv) * (blk gp (.cells #[.int .i64 (W : Int), .int .i64 (H : Int), .int .i64 (per : Int), .int .i64 (wide : Int), .slice a4 (m + n) c4] 24) * (blk (gp + 1) (.cells #[.bool big, .bool large, .bool tiled, .int .i64 ow, .int .i64 oh, .bool planar, .int .i64 scheme, .bool false, .bool false, .bool two, .int .i64 1, .bool al, .bool fin, .int .i64 0] 28) * (blk (gp + 1 + 1) (.cells #[.int .i64 0, .int .i64 0, .int .i64 0, .int .i64 0, .slice none 0 0] 24) * (G * (F)))))) by ac_rfl)
   have H7 := Lib.hid h7.right
   clear h4 h5 h6 h7 HX
   go_wp2_with fail
   exact ⟨⟨y + 1, m + n, a4, c4, by omega, by go_num, HMN, hmn, H7.out⟩, by simp [intOf]; omega⟩
  ·obtain rfl : y = H := by omega
   have hml : m = l.length := by rw [← hQ.out, HLL.out]
   rw [hml, List.take_length] at hst
   have h8 := hst.perm (show _ = blk (gp + 1 + 1) (.cells #[.int .i64 0, .int .i64 0, .int .i64 0, .int .i64 0, .slice none 0 0] 24) * (blk gp (.cells #[.int .i64 (W : Int), .int .i64 (y : Int), .int .i64 (per : Int), .int .i64 (wide : Int), .slice ao l.length co] 24) * (blk (gp + 1) (.cells #[.bool big, .bool large, .bool tiled, .int .i64 ow, .int .i64 oh, .bool planar, .int .i64 scheme, .bool false, .bool false, .bool two, .int .i64 1, .bool al, .bool fin, .int .i64 0] 28) * (own 48 1 (.slice ao l.length co) l.length (l.map uv) * (G * (F))))) by ac_rfl)
   have HP8 := Lib.hid (h8.perm (star_left_comm _ _ _))
   have HB8 := Lib.hid h8
   have HR8 := Lib.hid (h8.setRow #[.int .i64 (W : Int), .int .i64 (y : Int), .int .i64 (per : Int), .int .i64 (wide : Int), .slice ao l.length co])
   clear hst h8
   go_wp2_with (first | (refine wpList_load_blk rfl 24 _ rfl HP8.out rfl Tryz.underlying24 rfl (by show _ = some 5; kernel_rfl) ?_) | (refine wpList_store_blk rfl 24 _ _ rfl HB8.out rfl rfl (by show _ = some 5; kernel_rfl) rfl rfl ?_))
   refine bodyPost_ret2c rfl rfl HR8.out.at_ Tryz.underlying24 rfl (by show _ = some 5; kernel_rfl) rfl ?_
   have h9 := HR8.out.right.right.right
   exact ⟨_, rfl, (h9.perm (by ac_rfl : _ = G * (own 48 1 (.slice ao l.length co) l.length (l.map uv) * F))).right⟩
end Go.Proofs.YtboflbdniogcdaaGreatDoor
namespace Go.Proofs.YtboflbdniogcdaaGreatDoor
open Go.RowKit Go.Mz
set_option linter.unusedVariables false
set_option linter.unusedSimpArgs false
set_option maxRecDepth 100000
theorem wpList_load_blkC {P : Program} {w0 w : World} {F : SProp} {ops : Array Oper} {rest : List Oper} {o : Oper} {a : Act} {Q : Exit → Act → World → Prop} (hw : Region.wanted o (yielded ops a.tmps) = true) (ty : TypeId) (x : Operand) (ho : o.op = .load ty x)
  {g : Nat} {cs : Array Value} {e : TypeId} {fr : Nat × Nat} (h : St w0 w (blk g (.cells cs e fr) * F)) (hx : a.eval x = .pointer (some ⟨g, 0, none⟩)) {d : TypeDesc}
  (hu : P.underlying ty = some d) (hd : (match d with | .struct _ | .array _ _ => true | _ => false) = true) (hi : (P.info? ty).map (·.size) = some cs.size)
  (hK : wpList P ops Q rest (a.put o.dst (.agg cs)) w) : wpList P ops Q (o :: rest) a w := by
 unfold wpList
 rw [if_pos hw]
 exact .inl (wp_load_row ty x ho g hx e cs fr d h.at_ hu hd hi hK)
theorem St.setRow_size (w : World) (b : Nat) (c : Array Value) : (w.setRow b c).heap.size = w.heap.size := by simp
def optL : Opt := ⟨false, false, false, 0, 0, false, 1, false, false, false, 0, false, false, 0⟩
theorem lives_told {z : List UInt8} (h : TellS optL 2 (rowsF false false 8 1 (2 * 1) [7, 9] 1) z) : z = [7, 9] := by
 rcases h with ⟨_, rfl⟩ | ⟨e, _⟩ | ⟨e, _⟩ | ⟨e, _⟩ | ⟨e, _⟩ | ⟨e, _⟩ | ⟨e, _⟩
 ·decide
 all_goals first | (exact absurd e (by decide)) | (rcases e with e | e <;> exact absurd e (by decide))
set_option maxHeartbeats 40000000 in
theorem lives24 {w0 w : World} {F : SProp} (h : St w0 w F) (htab : Tab w0 F) :
  Calls Tryz.prog 7 #[] w fun e w' => e = .returned (.bool true) ∧ St w0 w' F := by
 have H := Lib.hid h
 have HT := Lib.hid htab
 clear h htab
 go_enter Tryz.func7, Tryz.ntmps7
 go_wp2_with (go_at_call 8; apply stop)
 have h1 := (H.out.alloc (.cells (optBox optL) 28)).lit #[.int .u32 7, .int .u32 9] 48 2 rfl (by decide)
 rw [show (w.alloc (.cells (optBox optL) 28)).heap.size = w.heap.size + 1 from Array.size_push _] at h1
 refine on ((pack_ok h1 (fun w h => HT.out w h.right.right) (l := [7, 9]) (v := .slice (some ⟨w.heap.size + 1, 0, none⟩) 2 2) (W := 2) (H := 1) (per := 1) (wide := 8) Stb.of_own (by decide) rfl (by decide) (by decide) (by decide) optL rfl rfl).mono ?_)
 rintro e w2 hd
 obtain ⟨v2, z, rfl, hz, h2⟩ := hd.1 (by decide)
 obtain rfl := lives_told hz
 have h2 : St w0 w2 (own 5 1 v2 2 (([7, 9] : List UInt8).map bv) * (own 48 1 (.slice (some ⟨w.heap.size + 1, 0, none⟩) 2 2) 2 (([7, 9] : List Nat).map uv) * (blk w.heap.size (.cells (optBox optL) 28) * F))) := h2
 have H2 := Lib.hid h2
 have HB2 := Lib.hid (h2.perm (show _ = blk w.heap.size (.cells (optBox optL) 28) * (own 5 1 v2 2 (([7, 9] : List UInt8).map bv) * (own 48 1 (.slice (some ⟨w.heap.size + 1, 0, none⟩) 2 2) 2 (([7, 9] : List Nat).map uv) * F)) by ac_rfl))
 have hJJ : joinL (rowsF false false 8 1 (2 * 1) [7, 9] 1) = [7, 9] := by decide
 have HO := Lib.hid (open_ff (l := [7, 9]) (W := 2) (H := 1) (per := 1) (wide := 8) h2 (fun w h => HT.out w h.right.right.right) (by decide) (by decide) (by decide) (by decide) (by decide) optL rfl rfl (z := [7, 9]) (t := []) (by decide) (vb := v2) (vp := .slice none 0 0)
  (fun E F0 t' w h ht vb' hb hlen => by
   obtain rfl : t' = [] := List.eq_nil_of_length_eq_zero hlen
   show Calls Tryz.prog _ _ _ fun e w' => UntOut w0 E F0 (joinL (rowsF false false 8 1 (2 * 1) [7, 9] 1)) e w'
   rw [hJJ]
   exact untell_none h (by decide) (by decide) (by decide) (by decide) (by decide) hb (by decide)) rfl rfl Stb.of_own)
 clear hd h2 hz h1 H
 generalize w.heap.size = gp at *
 go_wp2_with (first | (go_at_call 14; apply stop) | (refine wpList_load_blk rfl 28 _ rfl HB2.out rfl Tryz.underlying28 rfl (by show _ = some 14; kernel_rfl) ?_))
 refine on (HO.out.mono ?_)
 rintro e w3 ⟨v3, rfl, h3⟩
 obtain ⟨a3, c3, rfl⟩ := h3.reads.sub
 obtain ⟨a2, c2, rfl⟩ := h3.right.reads.sub
 have hz4 := h3.alloc (.cells #[.int .i64 0, .int .i64 0, .int .i64 0, .int .i64 0, .slice none 0 0] 24)
 have h4 : St w0 _ (blk w3.heap.size (.cells #[.int .i64 2, .int .i64 1, .int .i64 1, .int .i64 8, .slice a3 2 c3] 24) * _) := hz4.setRow #[.int .i64 2, .int .i64 1, .int .i64 1, .int .i64 8, .slice a3 2 c3]
 have HZ4 := Lib.hid hz4
 have q1 := run_b2s (P := Tryz.prog) (bs := [7, 9]) Tryz.underlying32 Tryz.underlying5 Tryz.underlying9 h4.right.right.reads
 have k4 := h4.cell 4 rfl
 have h5 := h4.lit #[.int .u32 7, .int .u32 9] 48 2 rfl (by decide)
 have e5 : ∀ (o : Obj) (c : Array Value), ((w3.alloc o).setRow w3.heap.size c).heap.size = w3.heap.size + 1 := fun o c => (St.setRow_size (w3.alloc o) w3.heap.size c).trans (Array.size_push _)
 rw [e5] at h5
 have HS := Lib.hid (rsame17_any (a := [7, 9]) (b := [7, 9]) (va := .slice a3 2 c3) h5.right.right.reads h5.reads (by decide) (by decide) (by decide))
 have H5 := Lib.hid h5
 clear h3 h4 h5 HO H2 HB2 hz4 e5
 have HLG := Lib.hid (fun (G : SProp) (w : World) (h : St w0 w G) => legal_any h optL 1 8)
 rw [show optL.legal 1 8 = true from rfl] at HLG
 go_wp2_with (first
  | (go_at_call 11; apply stop)
  | (refine wpList_store_blk rfl 24 _ _ rfl HZ4.out rfl rfl (by show _ = some 5; kernel_rfl) rfl rfl ?_))
 refine on (HS.out.mono ?_)
 rintro e w6 ⟨rfl, q, rfl⟩
 have H6 := Lib.hid (H5.out.drewN q).right.right.right.right.right
 clear HS
 go_wp2_with (first
  | (go_at_call 9; refine (HLG.out _ _ H6.out).mono ?_; rintro e w7 ⟨rfl, h7⟩; have H7 := Lib.hid h7; clear h7 H6)
  | (refine wpList_load_blkC rfl 28 _ rfl H6.out rfl Tryz.underlying28 rfl (by show _ = some 14; kernel_rfl) ?_))
 go_ret
 exact ⟨rfl, H7.out.right⟩
end Go.Proofs.YtboflbdniogcdaaGreatDoor
