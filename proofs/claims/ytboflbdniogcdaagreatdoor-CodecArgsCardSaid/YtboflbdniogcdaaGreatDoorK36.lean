/-
  Parts of a proof.
-/
import Derived.Test.YtboflbdniogcdaaGreatDoorK03
import Derived.Test.YtboflbdniogcdaaGreatDoorK27
import Derived.Test.YtboflbdniogcdaaGreatDoorK35
import Derived.Lib.SlBytesConst
import Derived.RegionTactic
import Derived.BigRegion
import Derived.BigQuiet
import Derived.Test.YtboflbdniogcdaaGreatDoorK11
import Derived.Test.YtboflbdniogcdaaGreatDoorK12
import Derived.Test.YtboflbdniogcdaaGreatDoorK06
namespace Go.Proofs.YtboflbdniogcdaaGreatDoor
open Go.RowKit Go.Mz
set_option linter.unusedVariables false
set_option linter.unusedSimpArgs false
set_option maxRecDepth 100000
theorem star_z1 (A B C D : SProp) : A * (B * (C * D)) = B * (A * (C * D)) := by ac_rfl
set_option maxHeartbeats 40000000 in
theorem pack_any {w0 w : World} {F : SProp} (h : St w0 w F) {b : List UInt8} (hb : b.length ≤ 1000000) {v : Value} (hv : Stb w0 F (fun w => Reads w 1 v b.length (b.map bv))) {how : Nat} (hh : how ≤ 2) :
  Calls Tryz.prog 42 #[v, .int .i64 (how : Int)] w fun e w' => ∃ v' x z, e = .returned (.tuple #[v', .int .i64 0]) ∧ DefS b how x ∧ x.length ≤ 100000000 ∧ z = (120 : UInt8) :: 1 :: (bytesB true x ++ bytesO true (adlerN b) 4) ∧ St w0 w' (own 5 1 v' z.length (z.map bv) * F) := by
 have HD := Lib.hid (deflate_any h hb hv hh)
 have HV := Lib.hid hv
 clear h hv hh
 have T := elemBytes
 go_enter Tryz.func42, Tryz.ntmps42
 go_wp2_with (go_at_call 89; apply stop)
 refine on ?_
 refine HD.out.mono ?_
 rintro e w2 ⟨v2, x, rfl, hx, hxl, h2⟩
 have hXl := length_bytesB true x
 obtain ⟨X, hX⟩ : ∃ X, bytesB true x = X := ⟨_, rfl⟩
 rw [hX] at h2 hXl
 rw [← hXl] at h2
 have hXm : X.length ≤ 20000000 := by rw [hXl]; omega
 obtain ⟨nX, hnX⟩ : ∃ nX, X.length = nX := ⟨_, rfl⟩
 rw [hnX] at h2 hXm
 obtain ⟨a2, c2, rfl⟩ := h2.reads.sub
 have H2 := Lib.hid h2
 have HX := Lib.hid hx; have HNX := Lib.hid hnX; have HXX := Lib.hid hX
 clear h2 hx hnX hX hXl HD
 go_wp2_with (go_at_call 90; apply stop)
 refine on ?_
 refine (sum_any H2.out (HV.out.more _)).mono ?_
 rintro e w3 ⟨rfl, h3⟩
 have H3 := Lib.hid h3
 have HP := Lib.hid (put_ok h3 (v := adlerN b) (n := 4) (.inr (.inr (.inl rfl))) (adlerN_lt b) true)
 clear h3 H2
 have hlt := adlerN_lt b
 obtain ⟨ad, had⟩ : ∃ ad, adlerN b = ad := ⟨_, rfl⟩
 rw [had] at HP hlt ⊢
 have HAD := Lib.hid had
 clear had
 go_wp2_with (go_at_call 83; apply stop)
 refine on ?_
 refine HP.out.mono ?_
 rintro e w4 ⟨v4, rfl, h4⟩
 have hSl := length_bytesO true ad 4
 obtain ⟨S, hS⟩ : ∃ S, bytesO true ad 4 = S := ⟨_, rfl⟩
 rw [hS] at h4 hSl
 have HSS := Lib.hid hS
 clear hS
 obtain ⟨a4, c4, rfl⟩ := h4.reads.sub
 have H4 := Lib.hid h4; have HSL := Lib.hid hSl
 clear h4 H3 HP hSl
 go_wp2_with (at_builtin; apply stop)
 have h5 := H4.out.lit (([120, 1] : List UInt8).map bv).toArray 5 2 rfl (by decide)
 refine on (wpList_append_sep T rfl _ _ rfl rfl h5 rfl h5.right.right.reads (bv_oneCell X) (by unfold maxLen; omega) (by omega) ?_)
 intro v5 w5 h6 _
 obtain ⟨a5, c5, rfl⟩ := h6.reads.sub
 have H6 := Lib.hid h6
 clear h5 h6 H4
 go_wp2_with (at_builtin; apply stop)
 refine on (wpList_append_sep T rfl _ _ rfl rfl H6.out rfl H6.out.right.reads (bv_oneCell S) (by unfold maxLen; omega) (by omega) ?_)
 intro v7 w7 h7 _
 have H7 := Lib.hid h7
 clear h7 H6
 go_wp2_with fail
 go_ret2
 refine ⟨v7, x, 120 :: 1 :: (X ++ S), rfl, HX.out, hxl, by rw [HXX.out, HAD.out, HSS.out], ?_⟩
 have h8 := H7.out.perm (star_z1 _ _ _ _)
 have h9 := (H7.out.perm (star_left_comm _ _ _)).right
 have e1 : ([120, 1] : List UInt8).map bv ++ X.map bv ++ S.map bv = ((120 : UInt8) :: 1 :: (X ++ S)).map bv := by simp
 have e2 : 2 + nX + 4 = ((120 : UInt8) :: 1 :: (X ++ S)).length := by simp [HNX.out, HSL.out]; omega
 have h10 := h9.perm (star_left_comm _ _ _)
 rw [← e2, ← e1]
 exact h10.right
end Go.Proofs.YtboflbdniogcdaaGreatDoor
namespace Go.Proofs.YtboflbdniogcdaaGreatDoor
open Go.RowKit Go.Mz
set_option linter.unusedVariables false
set_option linter.unusedSimpArgs false
set_option maxRecDepth 100000
set_option maxHeartbeats 40000000 in
theorem tell_flate {w0 w : World} {F : SProp} (h : St w0 w F) {R : List (Value × List UInt8)} {v : Value} (hv : Stb w0 F (fun w => Reads w 1 v R.length (R.map Prod.fst))) (hr : Stb w0 F (fun w => ∀ x ∈ R, Reads w 1 x.1 x.2.length (x.2.map bv))) (hN : R.length ≤ 1000000) (hL : (joinL (R.map Prod.snd)).length ≤ 1000000) (o : Opt) (hs : o.scheme = 8 ∨ o.scheme = 32946) {hw : Nat} (hh : o.how = hw) (hh2 : hw ≤ 2) (p : Array Value) :
  Calls Tryz.prog 18 #[v, .agg p, o.v] w fun e w' => ∃ v' x z, e = .returned (.tuple #[v', .int .i64 0]) ∧ DefS (joinL (R.map Prod.snd)) hw x ∧ x.length ≤ 100000000 ∧ z = (120 : UInt8) :: 1 :: (bytesB true x ++ bytesO true (adlerN (joinL (R.map Prod.snd))) 4) ∧ St w0 w' (own 5 1 v' z.length (z.map bv) * F) := by
 obtain ⟨big, large, tiled, ow, oh, planar, scheme, predict, low, two, every, al, fin, how⟩ := o
 simp only [Opt.v]
 simp only at hs hh
 subst hh
 rcases hs with rfl | rfl
 ·have h3 := two_alloc h (.cells p 24) (.cells #[.bool big, .bool large, .bool tiled, .int .i64 ow, .int .i64 oh, .bool planar, .int .i64 8, .bool predict, .bool low, .bool two, .int .i64 every, .bool al, .bool fin, .int .i64 (hw : Int)] 28)
  have f6 := h3.cell 6 rfl
  have f13 := h3.cell 13 rfl
  obtain ⟨J, hJ⟩ : ∃ J, joinL (R.map Prod.snd) = J := ⟨_, rfl⟩
  have HJ := Lib.hid (fun (A B : SProp) w (h : St w0 w (A * (B * F))) => join_any (w := w) h ((hv.more _).more _) ((hr.more _).more _) hN (by omega))
  rw [hJ] at HJ hL ⊢
  have H3 := Lib.hid h3
  clear hJ h hv hr h3
  go_enter Tryz.func18, Tryz.ntmps18
  go_upto_region 14 with (fail)
  clear f6
  have f13 : World.cell? _ ⟨w.heap.size + 1, 13, none⟩ = some (.int .i64 (hw : Int)) := f13
  generalize (w.alloc _).alloc _ = wz at *
  generalize w.heap.size = gp at *
  refine wp_region_noPanic ?_
  refine region_till (S := fun w' : World => w'.cell? ⟨gp + 1, 13, none⟩ = some (.int .i64 (hw : Int))) (k := 4) (by kernel_rfl) ?_
  have hS : (fun w' : World => w'.cell? ⟨gp + 1, 13, none⟩ = some (.int .i64 (hw : Int))) wz := f13
  refine till_take0 (i := 0) (oi := ?_) (v := ?_) ?_ (by kernel_rfl) (by kernel_rfl) (by kernel_rfl) (by decide) (fun _ _ _ h => h.elim) (by assumption) (.inl ⟨?_, fun w => ?_⟩) ?_
  rotate_left 2
  ·(simp only [List.getElem?_toArray, List.getElem?_cons_succ, List.getElem?_cons_zero]; rfl)
  ·rfl
  ·(go_simp; try with_reducible rfl)
  simp only [Act.put, List.setIfInBounds_toArray, List.set_cons_zero, List.set_cons_succ]
  refine till_take0 (i := 2) (oi := ?_) (v := ?_) ?_ (by kernel_rfl) (by kernel_rfl) (by kernel_rfl) (by decide) (fun _ _ _ h => h.elim) (by assumption) (.inl ⟨?_, fun w => ?_⟩) ?_
  rotate_left 2
  ·(simp only [List.getElem?_toArray, List.getElem?_cons_succ, List.getElem?_cons_zero]; rfl)
  ·rfl
  ·(go_simp; try with_reducible rfl)
  simp only [Act.put, List.setIfInBounds_toArray, List.set_cons_zero, List.set_cons_succ]
  refine till_take (i := 3) (oi := ?_) (v := ?_) ?_ (by kernel_rfl) (by kernel_rfl) (by kernel_rfl) (by kernel_rfl) (by kernel_rfl) (fun _ _ _ h => h.elim) (by assumption) (.inl ⟨?_, fun w hSw => ?_⟩) ?_
  rotate_left 2
  ·(simp only [List.getElem?_toArray, List.getElem?_cons_succ, List.getElem?_cons_zero]; rfl)
  ·rfl
  ·((try dsimp only at hSw); go_simp; try with_reducible rfl)
  simp only [Act.put, List.setIfInBounds_toArray, List.set_cons_zero, List.set_cons_succ]
  refine till_one (i := 1) (by kernel_rfl) ?_
  refine wpOp_step (by rfl) fun K hK => ?_
  go_simp
  refine (HJ.out _ _ _ H3.out.drew).mono ?_
  rintro e w2 ⟨v2, rfl, h2⟩
  have hS2 : (fun w' : World => w'.cell? ⟨gp + 1, 13, none⟩ = some (.int .i64 (hw : Int))) w2 := h2.right.cell 13 rfl
  refine hK _ _ ⟨fun e => hS2, ?_⟩
  clear hK K hS
  have hS := hS2
  have HP := Lib.hid (pack_any h2 hL (v := v2) Stb.of_own hh2)
  refine till_one (i := 4) (by kernel_rfl) ?_
  refine wpOp_step (by rfl) fun K hK => ?_
  go_simp
  refine HP.out.mono ?_
  rintro e w3 ⟨v3, x, z, rfl, hx, hxl, hz, h4⟩
  have hS3 : (fun w' : World => w'.cell? ⟨gp + 1, 13, none⟩ = some (.int .i64 (hw : Int))) w3 := h4.right.right.cell 13 rfl
  refine hK _ _ ⟨fun e => hS3, ?_⟩
  clear hK K hS hS2
  have hS := hS3
  refine till_take0 (i := 5) (oi := ?_) (v := ?_) ?_ (by kernel_rfl) (by kernel_rfl) (by kernel_rfl) (by decide) (fun _ _ _ h => h.elim) (by assumption) (.inl ⟨?_, fun w => ?_⟩) ?_
  rotate_left 2
  ·(simp only [List.getElem?_toArray, List.getElem?_cons_succ, List.getElem?_cons_zero]; rfl)
  ·rfl
  ·(go_simp; try with_reducible rfl)
  simp only [Act.put, List.setIfInBounds_toArray, List.set_cons_zero, List.set_cons_succ]
  refine till_take0 (i := 6) (oi := ?_) (v := ?_) ?_ (by kernel_rfl) (by kernel_rfl) (by kernel_rfl) (by decide) (fun _ _ _ h => h.elim) (by assumption) (.inl ⟨?_, fun w => ?_⟩) ?_
  rotate_left 2
  ·(simp only [List.getElem?_toArray, List.getElem?_cons_succ, List.getElem?_cons_zero]; rfl)
  ·rfl
  ·(go_simp; try with_reducible rfl)
  simp only [Act.put, List.setIfInBounds_toArray, List.set_cons_zero, List.set_cons_succ]
  refine till_take0 (i := 7) (oi := ?_) (v := ?_) ?_ (by kernel_rfl) (by kernel_rfl) (by kernel_rfl) (by decide) (fun _ _ _ h => h.elim) (by assumption) (.inl ⟨?_, fun w => ?_⟩) ?_
  rotate_left 2
  ·(simp only [List.getElem?_toArray, List.getElem?_cons_succ, List.getElem?_cons_zero]; rfl)
  ·rfl
  ·(go_simp; try with_reducible rfl)
  simp only [Act.put, List.setIfInBounds_toArray, List.set_cons_zero, List.set_cons_succ]
  refine till_take0 (i := 8) (oi := ?_) (v := ?_) ?_ (by kernel_rfl) (by kernel_rfl) (by kernel_rfl) (by decide) (fun _ _ _ h => h.elim) (by assumption) (.inl ⟨?_, fun w => ?_⟩) ?_
  rotate_left 2
  ·(simp only [List.getElem?_toArray, List.getElem?_cons_succ, List.getElem?_cons_zero]; rfl)
  ·rfl
  ·(go_simp; try with_reducible rfl)
  simp only [Act.put, List.setIfInBounds_toArray, List.set_cons_zero, List.set_cons_succ]
  refine ⟨by kernel_rfl, NoPanic.normal ?_⟩
  have H4 := Lib.hid (((h4.perm (star_left_comm _ _ _)).right.perm (star_left_comm _ _ _)).right.perm (star_left_comm _ _ _)).right
  clear h4 hS hS3
  go_wp2_with fail
  go_ret2
  exact ⟨_, x, z, rfl, hx, hxl, hz, H4.out⟩
 ·have h3 := two_alloc h (.cells p 24) (.cells #[.bool big, .bool large, .bool tiled, .int .i64 ow, .int .i64 oh, .bool planar, .int .i64 32946, .bool predict, .bool low, .bool two, .int .i64 every, .bool al, .bool fin, .int .i64 (hw : Int)] 28)
  have f6 := h3.cell 6 rfl
  have f13 := h3.cell 13 rfl
  obtain ⟨J, hJ⟩ : ∃ J, joinL (R.map Prod.snd) = J := ⟨_, rfl⟩
  have HJ := Lib.hid (fun (A B : SProp) w (h : St w0 w (A * (B * F))) => join_any (w := w) h ((hv.more _).more _) ((hr.more _).more _) hN (by omega))
  rw [hJ] at HJ hL ⊢
  have H3 := Lib.hid h3
  clear hJ h hv hr h3
  go_enter Tryz.func18, Tryz.ntmps18
  go_upto_region 14 with (fail)
  clear f6
  have f13 : World.cell? _ ⟨w.heap.size + 1, 13, none⟩ = some (.int .i64 (hw : Int)) := f13
  generalize (w.alloc _).alloc _ = wz at *
  generalize w.heap.size = gp at *
  refine wp_region_noPanic ?_
  refine region_till (S := fun w' : World => w'.cell? ⟨gp + 1, 13, none⟩ = some (.int .i64 (hw : Int))) (k := 4) (by kernel_rfl) ?_
  have hS : (fun w' : World => w'.cell? ⟨gp + 1, 13, none⟩ = some (.int .i64 (hw : Int))) wz := f13
  refine till_take0 (i := 0) (oi := ?_) (v := ?_) ?_ (by kernel_rfl) (by kernel_rfl) (by kernel_rfl) (by decide) (fun _ _ _ h => h.elim) (by assumption) (.inl ⟨?_, fun w => ?_⟩) ?_
  rotate_left 2
  ·(simp only [List.getElem?_toArray, List.getElem?_cons_succ, List.getElem?_cons_zero]; rfl)
  ·rfl
  ·(go_simp; try with_reducible rfl)
  simp only [Act.put, List.setIfInBounds_toArray, List.set_cons_zero, List.set_cons_succ]
  refine till_take0 (i := 2) (oi := ?_) (v := ?_) ?_ (by kernel_rfl) (by kernel_rfl) (by kernel_rfl) (by decide) (fun _ _ _ h => h.elim) (by assumption) (.inl ⟨?_, fun w => ?_⟩) ?_
  rotate_left 2
  ·(simp only [List.getElem?_toArray, List.getElem?_cons_succ, List.getElem?_cons_zero]; rfl)
  ·rfl
  ·(go_simp; try with_reducible rfl)
  simp only [Act.put, List.setIfInBounds_toArray, List.set_cons_zero, List.set_cons_succ]
  refine till_take (i := 3) (oi := ?_) (v := ?_) ?_ (by kernel_rfl) (by kernel_rfl) (by kernel_rfl) (by kernel_rfl) (by kernel_rfl) (fun _ _ _ h => h.elim) (by assumption) (.inl ⟨?_, fun w hSw => ?_⟩) ?_
  rotate_left 2
  ·(simp only [List.getElem?_toArray, List.getElem?_cons_succ, List.getElem?_cons_zero]; rfl)
  ·rfl
  ·((try dsimp only at hSw); go_simp; try with_reducible rfl)
  simp only [Act.put, List.setIfInBounds_toArray, List.set_cons_zero, List.set_cons_succ]
  refine till_one (i := 1) (by kernel_rfl) ?_
  refine wpOp_step (by rfl) fun K hK => ?_
  go_simp
  refine (HJ.out _ _ _ H3.out.drew).mono ?_
  rintro e w2 ⟨v2, rfl, h2⟩
  have hS2 : (fun w' : World => w'.cell? ⟨gp + 1, 13, none⟩ = some (.int .i64 (hw : Int))) w2 := h2.right.cell 13 rfl
  refine hK _ _ ⟨fun e => hS2, ?_⟩
  clear hK K hS
  have hS := hS2
  have HP := Lib.hid (pack_any h2 hL (v := v2) Stb.of_own hh2)
  refine till_one (i := 4) (by kernel_rfl) ?_
  refine wpOp_step (by rfl) fun K hK => ?_
  go_simp
  refine HP.out.mono ?_
  rintro e w3 ⟨v3, x, z, rfl, hx, hxl, hz, h4⟩
  have hS3 : (fun w' : World => w'.cell? ⟨gp + 1, 13, none⟩ = some (.int .i64 (hw : Int))) w3 := h4.right.right.cell 13 rfl
  refine hK _ _ ⟨fun e => hS3, ?_⟩
  clear hK K hS hS2
  have hS := hS3
  refine till_take0 (i := 5) (oi := ?_) (v := ?_) ?_ (by kernel_rfl) (by kernel_rfl) (by kernel_rfl) (by decide) (fun _ _ _ h => h.elim) (by assumption) (.inl ⟨?_, fun w => ?_⟩) ?_
  rotate_left 2
  ·(simp only [List.getElem?_toArray, List.getElem?_cons_succ, List.getElem?_cons_zero]; rfl)
  ·rfl
  ·(go_simp; try with_reducible rfl)
  simp only [Act.put, List.setIfInBounds_toArray, List.set_cons_zero, List.set_cons_succ]
  refine till_take0 (i := 6) (oi := ?_) (v := ?_) ?_ (by kernel_rfl) (by kernel_rfl) (by kernel_rfl) (by decide) (fun _ _ _ h => h.elim) (by assumption) (.inl ⟨?_, fun w => ?_⟩) ?_
  rotate_left 2
  ·(simp only [List.getElem?_toArray, List.getElem?_cons_succ, List.getElem?_cons_zero]; rfl)
  ·rfl
  ·(go_simp; try with_reducible rfl)
  simp only [Act.put, List.setIfInBounds_toArray, List.set_cons_zero, List.set_cons_succ]
  refine till_take0 (i := 7) (oi := ?_) (v := ?_) ?_ (by kernel_rfl) (by kernel_rfl) (by kernel_rfl) (by decide) (fun _ _ _ h => h.elim) (by assumption) (.inl ⟨?_, fun w => ?_⟩) ?_
  rotate_left 2
  ·(simp only [List.getElem?_toArray, List.getElem?_cons_succ, List.getElem?_cons_zero]; rfl)
  ·rfl
  ·(go_simp; try with_reducible rfl)
  simp only [Act.put, List.setIfInBounds_toArray, List.set_cons_zero, List.set_cons_succ]
  refine till_take0 (i := 8) (oi := ?_) (v := ?_) ?_ (by kernel_rfl) (by kernel_rfl) (by kernel_rfl) (by decide) (fun _ _ _ h => h.elim) (by assumption) (.inl ⟨?_, fun w => ?_⟩) ?_
  rotate_left 2
  ·(simp only [List.getElem?_toArray, List.getElem?_cons_succ, List.getElem?_cons_zero]; rfl)
  ·rfl
  ·(go_simp; try with_reducible rfl)
  simp only [Act.put, List.setIfInBounds_toArray, List.set_cons_zero, List.set_cons_succ]
  refine ⟨by kernel_rfl, NoPanic.normal ?_⟩
  have H4 := Lib.hid (((h4.perm (star_left_comm _ _ _)).right.perm (star_left_comm _ _ _)).right.perm (star_left_comm _ _ _)).right
  clear h4 hS hS3
  go_wp2_with fail
  go_ret2
  exact ⟨_, x, z, rfl, hx, hxl, hz, H4.out⟩
end Go.Proofs.YtboflbdniogcdaaGreatDoor
namespace Go.Proofs.YtboflbdniogcdaaGreatDoor
open Go.RowKit Go.Mz
set_option linter.unusedVariables false
set_option linter.unusedSimpArgs false
set_option maxRecDepth 10000
theorem numH_cons (c : UInt8) (l : List UInt8) : numH (c :: l) = c.toNat * 256 ^ l.length + numH l := by
 have key : ∀ r : List UInt8, numH (c :: r.reverse) = c.toNat * 256 ^ r.length + numH r.reverse := by
  intro r
  induction r with
  | nil => simp [numH]
  | cons d r ih =>
   rw [List.reverse_cons, ← List.cons_append, numH_snoc, ih, numH_snoc, List.length_cons, Nat.pow_succ, Nat.add_mul, Nat.mul_assoc, Nat.add_assoc]
 have := key l.reverse
 rwa [List.reverse_reverse, List.length_reverse] at this
theorem numH_bytes (v : Nat) : ∀ n, numH (bytesL v n).reverse = v % 256 ^ n := by
 intro n
 induction n with
 | zero => simp [bytesL, numH, Nat.mod_one]
 | succ n ih =>
  rw [bytesL, List.reverse_append]
  show numH (UInt8.ofNat (v / 256 ^ n % 256) :: (bytesL v n).reverse) = _
  rw [numH_cons, ih, List.length_reverse, length_bytesL, UInt8.toNat_ofNat', show v / 256 ^ n % 256 % 2 ^ 8 = v / 256 ^ n % 256 by omega, Nat.pow_succ, Nat.mod_mul, Nat.mul_comm, Nat.add_comm]
theorem numH_put {v n : Nat} (h : v < 256 ^ n) : numH (bytesO true v n) = v := by
 rw [bytesO, cond, numH_bytes, Nat.mod_eq_of_lt h]
end Go.Proofs.YtboflbdniogcdaaGreatDoor
namespace Go.Proofs.YtboflbdniogcdaaGreatDoor
open Go.RowKit Go.Mz
set_option linter.unusedVariables false
set_option linter.unusedSimpArgs false
set_option maxRecDepth 100000
theorem numO_put {v n : Nat} (big : Bool) (h : v < 256 ^ n) : numO big (bytesO big v n) = v := by
 cases big
 ·have := numH_bytes v n
  rw [Nat.mod_eq_of_lt h] at this
  exact this
 ·exact numH_put h
theorem packO_at {wide : Nat} {big : Bool} {row : List Nat} {t : List UInt8} {i x : Nat} (hx : row[i]? = some x) : ((packO wide big row ++ t).drop (i * (wide / 8))).take (wide / 8) = bytesO big x (wide / 8) := by
 have hi : i < row.length := by
  rcases Nat.lt_or_ge i row.length with h | h
  ·exact h
  ·rw [List.getElem?_eq_none h] at hx; cases hx
 have e1 : packO wide big row = packO wide big (row.take i) ++ (bytesO big x (wide / 8) ++ packO wide big (row.drop (i + 1))) := by
  have e : row = row.take i ++ (x :: row.drop (i + 1)) := by
   have h2 := (List.take_append_drop i row).symm
   rw [List.drop_eq_getElem_cons hi] at h2
   rw [List.getElem?_eq_getElem hi] at hx
   cases hx
   exact h2
  conv => lhs; rw [e]
  simp [packO, List.flatMap_append]
 have hl : (packO wide big (row.take i)).length = i * (wide / 8) := by rw [packO_len, List.length_take]; congr 1; omega
 rw [e1, List.append_assoc, List.drop_left' hl, List.append_assoc, List.take_left' (length_bytesO big x (wide / 8))]
theorem packB_split {wide : Nat} {row : List Nat} {i x : Nat} (hx : row[i]? = some x) : packB wide row = packB wide (row.take i) ++ (wrN false x wide ++ packB wide (row.drop (i + 1))) := by
 have hi : i < row.length := by
  rcases Nat.lt_or_ge i row.length with h | h
  ·exact h
  ·rw [List.getElem?_eq_none h] at hx; cases hx
 have e : row = row.take i ++ (x :: row.drop (i + 1)) := by
  have h2 := (List.take_append_drop i row).symm
  rw [List.drop_eq_getElem_cons hi] at h2
  rw [List.getElem?_eq_getElem hi] at hx
  cases hx
  exact h2
 conv => lhs; rw [e]
 simp [packB, List.flatMap_append]
theorem bit_packB (wide : Nat) (row : List Nat) : Bit (packB wide row) := by
 intro b hb
 obtain ⟨x, _, h⟩ := List.mem_flatMap.1 hb
 exact bit_wrN _ _ _ b h
theorem peek_packB {wide : Nat} {row : List Nat} {i x : Nat} (hx : row[i]? = some x) (hw : x < 2 ^ wide) : peekV (bytesB false (packB wide row)) false (i * wide) wide = x := by
 have hi : i < row.length := by
  rcases Nat.lt_or_ge i row.length with h | h
  ·exact h
  ·rw [List.getElem?_eq_none h] at hx; cases hx
 have hl : (packB wide (row.take i)).length = i * wide := by rw [packB_len, List.length_take]; congr 1; omega
 have hlw : (wrN false x wide).length = wide := length_wrN _ _ _
 refine numV_wrN false x wide hw _ fun j hj => ?_
 have hs := packB_split (wide := wide) hx
 have hb := bit_packB wide row
 rw [bitV_bytesB false hb _ (by
  have : (packB wide row).length = row.length * wide := packB_len _ _
  have h2 : i * wide + wide ≤ row.length * wide := by rw [← Nat.succ_mul]; exact Nat.mul_le_mul_right _ hi
  omega), hs]
 simp only [List.getD_eq_getElem?_getD]
 rw [List.getElem?_append_right (by omega), List.getElem?_append_left (by omega)]
 congr 2; omega
theorem uv_set {row : List Nat} {n k x : Nat} (hx : row[k]? = some x) (hn : row.length = n) : ((row.take k ++ List.replicate (n - k) 0).map uv).set k (uv x) = (row.take (k + 1) ++ List.replicate (n - (k + 1)) 0).map uv := by
 have hk : k < row.length := by
  rcases Nat.lt_or_ge k row.length with h | h
  ·exact h
  ·rw [List.getElem?_eq_none h] at hx; cases hx
 have hl : (row.take k).length = k := by rw [List.length_take]; omega
 rw [← List.map_set]
 congr 1
 rw [List.set_append_right _ _ (by omega), hl, Nat.sub_self, show n - k = (n - (k + 1)) + 1 by omega, List.replicate_succ, List.set_cons_zero, take_snoc hx, List.append_assoc]; rfl
theorem rd_take24 {w : World} {b off n c : Nat} {bs : List UInt8} (h : Reads w 1 (.slice (some ⟨b, off, none⟩) n c) n (bs.map bv)) {k : Nat} (hk : k ≤ n) : Reads w 1 (.slice (some ⟨b, off, none⟩) k c) k ((bs.take k).map bv) := by
 have := rd_sub h (Nat.zero_le k) hk
 rw [List.drop_zero, ← List.map_take] at this
 have e2 : (⟨b, off, none⟩ : Addr).add 0 = ⟨b, off, none⟩ := by simp [Addr.add]
 rw [e2] at this
 simpa only [Nat.sub_zero] using this
theorem rd_zero24 {w : World} {a : Option Addr} {n c : Nat} {xs : List Value} (h : Reads w 1 (.slice a n c) n xs) : Reads w 1 (.slice a 0 c) 0 [] := by
 obtain ⟨hl, ⟨e1, e2⟩ | ⟨x, cap, e1, h1, h2, h3⟩⟩ := h
 ·cases e1; exact rd_nil _ _
 ·cases e1; exact ⟨rfl, .inr ⟨x, c, rfl, Nat.zero_le _, h2, fun j u hu => by simp at hu⟩⟩
set_option maxHeartbeats 40000000 in
theorem sunpack_whole {w0 w : World} {F : SProp} (h : St w0 w F) {row : List Nat} {t : List UInt8} {v : Value} {wide nb : Nat} {big : Bool} (hv : Stb w0 F (fun w => Reads w 1 v (packL wide big row ++ t).length ((packL wide big row ++ t).map bv))) (hl : row.length ≤ 4194304) (hl2 : (packL wide big row ++ t).length ≤ 1000000000) (hall : ∀ x ∈ row, x < 2 ^ wide) (hw : wide = 16 ∨ wide = 32) (hnb : (wide : Int) / 8 = nb) :
  Calls Tryz.prog 35 #[v, .int .i64 (row.length : Int), .int .i64 (wide : Int), .bool big] w fun e w' => ∃ v', e = .returned (.tuple #[v', .int .i64 0]) ∧ St w0 w' (own 48 1 v' row.length (row.map uv) * F) := by
 have hW : wholeS wide = true := by simpa [wholeS] using hw
 have hnb2 : wide / 8 = nb := by omega
 have hok : okW nb := by rcases hw with rfl | rfl; exact .inr (.inl (by omega)); exact .inr (.inr (.inl (by omega)))
 have hnb4 : nb ≤ 4 := by omega
 have hnb1 : 1 ≤ nb := by omega
 have hpow : 256 ^ nb = 2 ^ wide := by rcases hw with rfl | rfl <;> (have : nb = 2 ∨ nb = 4 := by omega) <;> rcases this with rfl | rfl <;> first | rfl | omega
 have hPL : packL wide big row = packO wide big row := by rw [packL, if_pos hW]
 have hp32 : 2 ^ wide ≤ 4294967296 := by rcases hw with rfl | rfl <;> decide
 have hcut : (packL wide big row).length = row.length * nb := by rw [hPL, packO_len, hnb2]
 have hszl : (row.length * wide + 7) / 8 = row.length * nb := by
  rcases hw with rfl | rfl
  ·obtain rfl : nb = 2 := by omega
   omega
  ·obtain rfl : nb = 4 := by omega
   omega
 have HSZ := Lib.hid (fun w => ssize_any (w := w) hl (wide := wide) (by omega) (by omega))
 rw [hszl] at HSZ
 have HWH := Lib.hid (fun w => whole_any (w := w) (wide := wide))
 rw [hW] at HWH
 have HGET := Lib.hid (fun (G : SProp) (w : World) (h : St w0 w G) (hv : Stb w0 G (fun w => Reads w 1 v (packL wide big row ++ t).length ((packL wide big row ++ t).map bv))) (k x : Nat) (hx : row[k]? = some x) => by
  have hk : k < row.length := by
   rcases Nat.lt_or_ge k row.length with h | h
   ·exact h
   ·rw [List.getElem?_eq_none h] at hx; cases hx
  have hle : k * nb + nb ≤ row.length * nb := by rw [← Nat.succ_mul]; exact Nat.mul_le_mul_right _ hk
  have C := get_ok h hv (p := k * nb) (n := nb) (by rw [List.length_append, hcut]; omega) hl2 hok big
  have e : numO big (((packL wide big row ++ t).drop (k * nb)).take nb) = x := by
   rw [hPL, ← hnb2, packO_at hx, numO_put big (by rw [hnb2, hpow]; exact hall x (List.mem_of_getElem? hx))]
  rw [e] at C
  exact C)
 have HLT := Lib.hid (fun k x (hx : row[k]? = some x) => Nat.lt_of_lt_of_le (hall x (List.mem_of_getElem? hx)) hp32)
 obtain ⟨T0, hT0⟩ : ∃ T0, packL wide big row ++ t = T0 := ⟨_, rfl⟩
 have hT0l : row.length * nb ≤ T0.length := by rw [← hT0, List.length_append, hcut]; omega
 rw [hT0] at hv hl2 HGET
 obtain ⟨nl, hnl⟩ : ∃ nl, row.length = nl := ⟨_, rfl⟩
 have HNL := Lib.hid hnl
 have HSET := Lib.hid (fun k x (hx : row[k]? = some x) => uv_set hx hnl)
 rw [hnl] at hl HSZ hT0l ⊢
 obtain ⟨tl, htl⟩ : ∃ tl, T0.length = tl := ⟨_, rfl⟩
 rw [htl] at hv hl2 HGET hT0l
 obtain ⟨sz, hsz⟩ : ∃ sz, nl * nb = sz := ⟨_, rfl⟩
 rw [hsz] at HSZ hT0l
 obtain ⟨a0, c0, rfl⟩ := (hv w h).sub
 have HV := Lib.hid hv
 have H := Lib.hid h
 have hszt : ¬ (tl : Int) < sz := by omega
 have HW := Lib.hid hnb2
 have HW2 := Lib.hid hw
 clear hv h hpow hPL hok hW hw hall hcut hszl hT0 hnl htl hsz
 have T := elemU32
 go_enter Tryz.func35, Tryz.ntmps35
 go_wp2_with (first | (go_at_call 33; refine (HSZ.out _).mono ?_; rintro e w1 ⟨rfl, rfl⟩) | (go_at_call 78; refine (HWH.out _).mono ?_; rintro e w1 ⟨rfl, rfl⟩) | (at_make; apply stop))
 refine on (wpList_make_sep T rfl _ _ rfl nl rfl rfl rfl rfl H.out (by unfold maxLen; omega) (by omega) ?_)
 intro v' w1 h1
 obtain ⟨a', cap', rfl⟩ := h1.reads.sub
 have H1 := Lib.hid h1; clear h1
 go_wp2_with (first | (go_at_call 78; refine (HWH.out _).mono ?_; rintro e w1 ⟨rfl, rfl⟩))
 go_loopw [41] (fun vi wr => ∃ k : Nat, k ≤ nl ∧ vi = .int .i64 k ∧ St w0 wr (own 48 1 (.slice a' nl cap') nl ((row.take k ++ List.replicate (nl - k) 0).map uv) * F)) (fun vi _ => nl - (intOf vi).toNat)
 case atStart => exact ⟨0, Nat.zero_le _, rfl, by
  have e : (madeCells (Value.int .u32 0).cells (nl * 1)).toList = ((row.take 0) ++ List.replicate (nl - 0) 0).map uv := by
   rw [Nat.mul_one]
   simp [Value.cells, toList_madeCells_one, uv]
  rw [← e]; exact H1.out⟩
 case round =>
  clear H1 H HSZ HWH
  obtain ⟨k, hk, rfl, hst⟩ := hrel
  by_cases hkn : k < nl
  ·have hkI : (k : Int) < nl := by omega
   obtain ⟨x, hx⟩ : ∃ x, row[k]? = some x := ⟨row[k]'(by rw [HNL.out]; exact hkn), List.getElem?_eq_getElem _⟩
   have hx32 := HLT.out k x hx
   obtain ⟨g, rfl⟩ := own_at hst (by omega)
   have hfz := hst.own_free k
   have hcc := hst.own_cell (i := k) (u := .int .u32 0) (by
    have hl3 : (row.take k).length = k := by rw [List.length_take, HNL.out]; omega
    rw [List.getElem?_map, List.getElem?_append_right (by omega), List.getElem?_replicate, if_pos (by omega)]; rfl)
   have HG := Lib.hid (HGET.out _ _ hst (HV.out.more _) k x hx)
   obtain ⟨p, hp⟩ : ∃ p, k * nb = p := ⟨_, rfl⟩
   obtain ⟨kw, hkw⟩ : ∃ kw, k * wide = kw := ⟨_, rfl⟩
   have hpb : p ≤ 16777216 := by rw [← hp]; exact Nat.le_trans (Nat.mul_le_mul (by omega : k ≤ 4194304) hnb4) (by decide)
   have hkwb : kw ≤ 134217728 := by rw [← hkw]; exact Nat.le_trans (Nat.mul_le_mul (by omega : k ≤ 4194304) (by rcases HW2.out with h | h <;> omega : wide ≤ 32)) (by decide)
   have hkwI : (k : Int) * (wide : Int) = (kw : Int) := by rw [← hkw]; simp
   have hkp : (kw : Int) / 8 = (p : Int) := by
    have : kw = 8 * p := by rw [← hp, ← hkw, ← HW.out]; rcases HW2.out with h | h <;> subst h <;> omega
    omega
   rw [hp] at HG
   have HX := Lib.hid hx
   have HST := Lib.hid hst
   clear hst hx hp hkw
   go_wp2_with (go_at_call 79; apply stop)
   refine on (HG.out.mono ?_)
   rintro e w2 ⟨rfl, h2⟩
   have hfz := h2.own_free k
   have hcc := h2.own_cell (i := k) (u := .int .u32 0) (by
    have hl3 : (row.take k).length = k := by rw [List.length_take, HNL.out]; omega
    rw [List.getElem?_map, List.getElem?_append_right (by omega), List.getElem?_replicate, if_pos (by omega)]; rfl)
   have h3 := h2.own_set k (uv x)
   rw [HSET.out k x HX.out] at h3
   have H3 := Lib.hid h3
   clear h2 h3 HG HST
   go_wp2_with fail
   exact ⟨⟨k + 1, by omega, by go_num, H3.out⟩, by simp [intOf]; omega⟩
  ·obtain rfl : k = nl := by omega
   have hst' := hst
   rw [Nat.sub_self, List.replicate_zero, List.append_nil, ← HNL.out, List.take_length, HNL.out] at hst'
   have HST := Lib.hid hst'
   clear hst hst'
   go_wp2_with fail
   go_ret2
   exact ⟨_, rfl, HST.out⟩
set_option maxHeartbeats 40000000 in
theorem sunpack_bits {w0 w : World} {F : SProp} (h : St w0 w F) {row : List Nat} {t : List UInt8} {v : Value} {wide : Nat} {big : Bool} (hv : Stb w0 F (fun w => Reads w 1 v (packL wide big row ++ t).length ((packL wide big row ++ t).map bv))) (hl : row.length ≤ 4194304) (hl2 : (packL wide big row ++ t).length ≤ 1000000000) (hall : ∀ x ∈ row, x < 2 ^ wide) (h1 : 1 ≤ wide) (h2 : wide ≤ 32) (hW : wholeS wide = false) :
  Calls Tryz.prog 35 #[v, .int .i64 (row.length : Int), .int .i64 (wide : Int), .bool big] w fun e w' => ∃ v', e = .returned (.tuple #[v', .int .i64 0]) ∧ St w0 w' (own 48 1 v' row.length (row.map uv) * F) := by
 have hPL : packL wide big row = bytesB false (packB wide row) := by rw [packL, if_neg (by simp [hW])]
 have hcut : (packL wide big row).length = (row.length * wide + 7) / 8 := packL_len _ _
 have HSZ := Lib.hid (fun w => ssize_any (w := w) hl (wide := wide) h1 h2)
 have HWH := Lib.hid (fun w => whole_any (w := w) (wide := wide))
 rw [hW] at HWH
 have hPK : ∀ k x, row[k]? = some x → peekV (packL wide big row) false (k * wide) wide = x := fun k x hx => by
  rw [hPL]; exact peek_packB hx (hall x (List.mem_of_getElem? hx))
 have HPK := Lib.hid hPK
 obtain ⟨P, hP⟩ : ∃ P, packL wide big row = P := ⟨_, rfl⟩
 rw [hP] at hcut hv hl2 HPK
 obtain ⟨sz, hsz⟩ : ∃ sz, P.length = sz := ⟨_, rfl⟩
 have HRD := Lib.hid (fun (w : World) (h : St w0 w F) => show ∃ a c, v = .slice a (P ++ t).length c ∧ Reads w 1 (.slice a sz c) sz (P.map bv) by
  have h1 := hv w h
  obtain ⟨a, c, rfl⟩ := h1.sub
  refine ⟨a, c, rfl, ?_⟩
  by_cases hp0 : 0 < (P ++ t).length
  ·obtain ⟨b, off, e, _⟩ := h1.at_ hp0
   cases e
   have := rd_take24 h1 (k := sz) (by rw [List.length_append]; omega)
   rwa [List.take_left' hsz] at this
  ·have e1 : P = [] := List.eq_nil_of_length_eq_zero (by rw [List.length_append] at hp0; omega)
   subst e1
   obtain rfl : sz = 0 := by rw [← hsz]; rfl
   exact rd_zero24 h1)
 obtain ⟨nl, hnl⟩ : ∃ nl, row.length = nl := ⟨_, rfl⟩
 have HNL := Lib.hid hnl
 have HSET := Lib.hid (fun k x (hx : row[k]? = some x) => uv_set hx hnl)
 have HCUT := Lib.hid hcut
 rw [hnl] at hl HSZ hcut ⊢
 obtain ⟨tl, htl⟩ : ∃ tl, (P ++ t).length = tl := ⟨_, rfl⟩
 have hT0l : sz ≤ tl := by rw [← htl, List.length_append]; omega
 rw [htl] at hv hl2 HRD
 rw [← hcut, hsz] at HSZ
 obtain ⟨a0, c0, rfl⟩ := (hv w h).sub
 have HRD := Lib.hid (fun (w : World) (h : St w0 w F) => show Reads w 1 (.slice a0 sz c0) sz (P.map bv) by
  obtain ⟨a, c, e, hr⟩ := HRD.out w h
  cases e
  exact hr)
 have hcap := (rd_cap (hv w h)).1
 have hszc : (sz : Int) ≤ c0 := by omega
 have H := Lib.hid h
 have HSZL := Lib.hid hsz
 have hszt : ¬ (tl : Int) < sz := by omega
 clear hv h hPL hW hall hPK hP hnl htl hsz hcut
 have T := elemU32
 go_enter Tryz.func35, Tryz.ntmps35
 go_wp2_with (first | (go_at_call 33; refine (HSZ.out _).mono ?_; rintro e w1 ⟨rfl, rfl⟩) | (go_at_call 78; refine (HWH.out _).mono ?_; rintro e w1 ⟨rfl, rfl⟩) | (at_make; apply stop))
 refine on (wpList_make_sep T rfl _ _ rfl nl rfl rfl rfl rfl H.out (by unfold maxLen; omega) (by omega) ?_)
 intro v' w1 h1
 obtain ⟨a', cap', rfl⟩ := h1.reads.sub
 have HNR := Lib.hid (newReader_any (bs := P) (v := .slice a0 sz c0) (low := false) h1 (fun w h => by rw [HSZL.out]; exact HRD.out w h.right) (by rw [HSZL.out]; omega))
 have H1 := Lib.hid h1; clear h1
 go_wp2_with (first | (go_at_call 78; refine (HWH.out _).mono ?_; rintro e w1 ⟨rfl, rfl⟩) | (go_at_call 80; apply stop))
 refine on (HNR.out.mono ?_)
 rintro e w2 ⟨B, rfl, h2⟩
 have H2 := Lib.hid (h2.perm (star_left_comm _ _ _))
 clear h2 HNR H1
 go_wp2_with fail
 go_loopw [73] (fun vi wr => ∃ k : Nat, k ≤ nl ∧ vi = .int .i64 k ∧ St w0 wr (own 48 1 (.slice a' nl cap') nl ((row.take k ++ List.replicate (nl - k) 0).map uv) * (rdr B P (k * wide) false * F))) (fun vi _ => nl - (intOf vi).toNat)
 case atStart => exact ⟨0, Nat.zero_le _, rfl, by
  have e : (madeCells (Value.int .u32 0).cells (nl * 1)).toList = ((row.take 0) ++ List.replicate (nl - 0) 0).map uv := by
   rw [Nat.mul_one]
   simp [Value.cells, toList_madeCells_one, uv]
  rw [← e, Nat.zero_mul]; exact H2.out⟩
 case round =>
  clear H2 H HSZ HWH
  obtain ⟨k, hk, rfl, hst⟩ := hrel
  by_cases hkn : k < nl
  ·have hkI : (k : Int) < nl := by omega
   obtain ⟨x, hx⟩ : ∃ x, row[k]? = some x := ⟨row[k]'(by rw [HNL.out]; exact hkn), List.getElem?_eq_getElem _⟩
   obtain ⟨g, rfl⟩ := own_at hst (by omega)
   have hle : k * wide + wide ≤ 8 * P.length := by
    have e1 := HCUT.out
    rw [HNL.out] at e1
    have e2 : k * wide + wide ≤ nl * wide := by rw [← Nat.succ_mul]; exact Nat.mul_le_mul_right _ hkn
    omega
   have C := read_ok (hst.perm (star_left_comm _ _ _)) wide rfl h2 hle
   rw [HPK.out k x hx, ← Nat.succ_mul] at C
   have HG := Lib.hid C
   have HX := Lib.hid hx
   clear hst hx C hle
   go_wp2_with (go_at_call 81; apply stop)
   refine on (HG.out.mono ?_)
   rintro e w2 ⟨rfl, h2'⟩
   have h2 := h2'.perm (star_left_comm _ _ _)
   have hfz := h2.own_free k
   have hcc := h2.own_cell (i := k) (u := .int .u32 0) (by
    have hl3 : (row.take k).length = k := by rw [List.length_take, HNL.out]; omega
    rw [List.getElem?_map, List.getElem?_append_right (by omega), List.getElem?_replicate, if_pos (by omega)]; rfl)
   have h3 := h2.own_set k (uv x)
   rw [HSET.out k x HX.out] at h3
   have H3 := Lib.hid h3
   clear h2 h3 HG h2'
   go_wp2_with fail
   exact ⟨⟨k + 1, by omega, by go_num, H3.out⟩, by simp [intOf]; omega⟩
  ·obtain rfl : k = nl := by omega
   have hst' := hst
   rw [Nat.sub_self, List.replicate_zero, List.append_nil, ← HNL.out, List.take_length, HNL.out] at hst'
   have hst' := (hst'.perm (star_left_comm _ _ _)).right
   have HST := Lib.hid hst'
   clear hst hst'
   go_wp2_with fail
   go_ret2
   exact ⟨_, rfl, HST.out⟩
theorem sunpack_any {w0 w : World} {F : SProp} (h : St w0 w F) {row : List Nat} {t : List UInt8} {v : Value} {wide : Nat} {big : Bool} (hv : Stb w0 F (fun w => Reads w 1 v (packL wide big row ++ t).length ((packL wide big row ++ t).map bv))) (hl : row.length ≤ 4194304) (hl2 : (packL wide big row ++ t).length ≤ 1000000000) (hall : ∀ x ∈ row, x < 2 ^ wide) (h1 : 1 ≤ wide) (h2 : wide ≤ 32) :
  Calls Tryz.prog 35 #[v, .int .i64 (row.length : Int), .int .i64 (wide : Int), .bool big] w fun e w' => ∃ v', e = .returned (.tuple #[v', .int .i64 0]) ∧ St w0 w' (own 48 1 v' row.length (row.map uv) * F) := by
 cases hW : wholeS wide with
 | true => exact sunpack_whole h hv hl hl2 hall (by simpa [wholeS] using hW) (nb := wide / 8) (by omega)
 | false => exact sunpack_bits h hv hl hl2 hall h1 h2 hW
end Go.Proofs.YtboflbdniogcdaaGreatDoor
