/-
  Layer 8: what words mean, in which order lengths stand, and the given ones.
-/
import Derived.Test.YtciplcmjoljofaaInfV
import Derived.Test.YtciplcmjoljofaaInfR
import Derived.Deep.LoopGhost
namespace Go.Proofs.Ytciplcmjoljofaa.tables
open Go.RowKit Go.Mz
set_option linter.unusedVariables false
set_option linter.unusedSimpArgs false
set_option maxRecDepth 100000

theorem lens_step : ∀ i, i < 29 → 0 < i → i ≠ 28 → (lensB.getD i (0, 0)).1 = (lensB.getD (i - 1) (0, 0)).1 + 2 ^ (lensB.getD (i - 1) (0, 0)).2 := by decide
theorem dists_step : ∀ i, i < 30 → 0 < i → i ≠ 28 → (distsB.getD i (0, 0)).1 = (distsB.getD (i - 1) (0, 0)).1 + 2 ^ (distsB.getD (i - 1) (0, 0)).2 := by decide
theorem tab_step (far : Bool) (i : Nat) (hi : i < (fromsL far).length) (h0 : 0 < i) (h28 : i ≠ 28) : ((fromsL far).getD i (0, 0)).1 = ((fromsL far).getD (i - 1) (0, 0)).1 + 2 ^ ((fromsL far).getD (i - 1) (0, 0)).2 := by
  cases far
  · exact lens_step i hi h0 h28
  · exact dists_step i hi h0 h28
theorem tab_ok (far : Bool) : ∀ b ∈ fromsL far, b.1 ≤ 30000 ∧ b.2 ≤ 13 := by cases far <;> decide
theorem lens_rise : ∀ i, i < 28 → (lensB.getD i (0, 0)).1 < (lensB.getD (i + 1) (0, 0)).1 := by decide
def tabS (far : Bool) (v : Value) : SProp := own 40 2 v (fromsL far).length (bas (fromsL far))

set_option maxHeartbeats 40000000 in
theorem walk (at_ : Int) (w : World) :
    Calls Try.prog 4 #[.int .i64 at_] w fun e w' => e = .returned (.bool true) ∧ Below w.heap.size w w' := by
  have H := Lib.hid (St.init w)
  have fin : ∀ w', St w w' (Mz.old w) → Below w.heap.size w w' := fun w' h => (h.perm ((emp_star _).symm.trans (star_comm _ _))).below
  have FIN := Lib.hid fin; clear fin
  go_enter Try.func4, Try.ntmps4
  go_wp2_with fail
  refine (fixed_any H.out).mono ?_
  rintro e w1 ⟨va, vb, rfl, h1⟩
  have H1 := Lib.hid h1; clear h1 H
  go_wp2_with fail
  refine (rfixed_any H1.out).mono ?_
  rintro e w2 ⟨vc, vd, rfl, h2⟩
  have H2 := Lib.hid h2; clear h2 H1
  go_wp2_with fail
  refine (lives08 H2.out).mono ?_
  rintro e w3 ⟨rfl, h3⟩
  have H3 := Lib.hid h3; clear h3 H2
  go_wp2_with fail
  refine (same_any H3.out (l := fixA) (n := 288) (by rw [fixA_len]) (fun w h => h.right.right.reads) (fun w h => h.reads)).mono ?_
  rintro e w4 ⟨rfl, h4⟩
  have H4 := Lib.hid h4; clear h4 H3
  go_wp2_with fail
  refine (same_any H4.out (l := fixB) (n := 30) (by rw [fixB_len]) (fun w h => h.right.right.right.reads) (fun w h => h.right.reads)).mono ?_
  rintro e w5 ⟨rfl, h5⟩
  have H5 := Lib.hid h5.right.right.right.right; clear h5 H4
  go_wp2_with fail
  refine (order_any H5.out).mono ?_
  rintro e w6 ⟨ve, rfl, h6⟩
  have H6 := Lib.hid h6; clear h6 H5
  go_wp2_with fail
  refine (rorder_any H6.out).mono ?_
  rintro e w7 ⟨vf, rfl, h7⟩
  have H7 := Lib.hid h7; clear h7 H6
  go_wp2_with fail
  refine (same_any H7.out (l := orderL) (n := 19) rfl (fun w h => h.right.reads) (fun w h => h.reads)).mono ?_
  rintro e w8 ⟨rfl, h8⟩
  have h9 := h8.right.right.lit #[.bool false, .bool true] 4 2 rfl (by decide)
  have H9 := Lib.hid h9; clear h8 h9 H7
  go_wp2_with fail
  go_loopw [45] (fun vi wr => ∃ k : Nat, k ≤ 2 ∧ vi = .int .i64 k ∧ St w wr (own 4 1 (.slice (some ⟨w8.heap.size, 0, none⟩) 2 2) 2 [.bool false, .bool true] * Mz.old w)) (fun vi _ => 2 - (intOf vi).toNat)
  case atStart => exact ⟨0, by omega, rfl, H9.out⟩
  case round =>
    clear H9
    generalize w8.heap.size = gb at *
    obtain ⟨k, hk, rfl, hst⟩ := hrel
    by_cases hkn : k < 2
    · obtain ⟨far, hfar, hbc⟩ : ∃ far : Bool, k = (if far then 1 else 0) ∧ wr.cell? ⟨gb, k, none⟩ = some (.bool far) := by
        rcases (show k = 0 ∨ k = 1 by omega) with rfl | rfl
        · exact ⟨false, rfl, hst.own_cell rfl⟩
        · exact ⟨true, rfl, hst.own_cell rfl⟩
      have hk2 : (k : Int) < 2 := by omega
      have HST := Lib.hid hst; clear hst
      have HFAR := Lib.hid hfar; clear hfar
      go_wp2_with fail
      refine (lens_any HST.out).mono ?_
      rintro e w9 ⟨v9, rfl, h9⟩
      cases far
      · have H10 := Lib.hid h9; clear h9 HST
        go_wp2_with fail
        refine (rfroms_any H10.out false).mono ?_
        rintro e w11 ⟨vx, vy, rfl, h11⟩
        have h11 : St w w11 (own 3 1 vx 29 (nvs (lensB.map Prod.fst)) * (own 3 1 vy 29 (nvs (lensB.map Prod.snd)) * (own 40 2 v9 29 (bas lensB) * (own 4 1 (.slice (some ⟨gb, 0, none⟩) 2 2) 2 [.bool false, .bool true] * Mz.old w)))) := h11
        obtain ⟨ax, cx, rfl⟩ := h11.reads.sub
        obtain ⟨ay, cy, rfl⟩ := h11.right.reads.sub
        obtain ⟨al, cl, rfl⟩ := h11.right.right.reads.sub
        obtain ⟨gx, rfl⟩ := own_at h11 (by omega)
        obtain ⟨gy, rfl⟩ := own_at h11.right (by omega)
        obtain ⟨gl, rfl⟩ := own_at h11.right.right (by omega)
        have H11 := Lib.hid h11; clear h11 H10
        go_wp2_with fail
        go_loopw [64] (fun vi wr => ∃ i : Nat, i ≤ 29 ∧ vi = .int .i64 i ∧ St w wr (own 3 1 (.slice (some ⟨gx, 0, none⟩) 29 cx) 29 (nvs (lensB.map Prod.fst)) * (own 3 1 (.slice (some ⟨gy, 0, none⟩) 29 cy) 29 (nvs (lensB.map Prod.snd)) * (own 40 2 (.slice (some ⟨gl, 0, none⟩) 29 cl) 29 (bas lensB) * (own 4 1 (.slice (some ⟨gb, 0, none⟩) 2 2) 2 [.bool false, .bool true] * Mz.old w))))) (fun vi _ => 29 - (intOf vi).toNat)
        case atStart => exact ⟨0, by omega, rfl, H11.out⟩
        case round =>
          clear H11
          obtain ⟨i, hi, rfl, hst⟩ := hrel
          by_cases hin : i < 29
          · have hin2 : (i : Int) < 29 := by omega
            have hiT : i < lensB.length := hin
            have hx := List.getElem?_eq_getElem hiT
            have hgd : lensB.getD i (0, 0) = lensB[i] := by rw [List.getD_eq_getElem?_getD, hx]; rfl
            have hok := tab_ok false lensB[i] (List.getElem_mem (l := lensB) hiT)
            have hstep := lens_step i hin
            rw [hgd] at hstep
            obtain ⟨hb0, hb1⟩ := bas_at hx
            have hy : (nvs (lensB.map Prod.fst))[i]? = some (nv lensB[i].1) := by rw [nvs, List.getElem?_map, List.getElem?_map, hx]; rfl
            have hz : (nvs (lensB.map Prod.snd))[i]? = some (nv lensB[i].2) := by rw [nvs, List.getElem?_map, List.getElem?_map, hx]; rfl
            generalize lensB[i] = b at *
            obtain ⟨f, e0⟩ := b
            simp only [nv] at hb0 hb1 hy hz hstep hok
            clear hx hgd
            have x0 := hst.right.right.own_cellS hb0
            have x1 := hst.right.right.own_cellS hb1
            have hA := hst.alloc (.cells #[.int .i64 (f : Int), .int .i64 (e0 : Int)] 40)
            have HA := Lib.hid hA; clear hA hst
            have HB0 := Lib.hid hb0; have HB1 := Lib.hid hb1; have HY := Lib.hid hy; have HZ := Lib.hid hz; clear hb0 hb1 hy hz
            have HSTEP := Lib.hid hstep; clear hstep
            obtain ⟨hok1, hok2⟩ := hok
            go_upto_region 17 with (fail)
            generalize hgn : wr.heap.size = gn at *
            generalize hWn : wr.alloc (.cells #[.int .i64 (f : Int), .int .i64 (e0 : Int)] 40) = Wn at *
            clear hgn hWn x0 x1
            have n0 := HA.out.cell 0 rfl
            have n1 := HA.out.cell 1 rfl
            have y0 := HA.out.right.own_cell HY.out
            have z0 := HA.out.right.right.own_cell HZ.out
            have hi0 : 0 ≤ (i : Int) := by omega
            by_cases hi1 : i = 0
            · subst hi1
              go_quiet (fail)
              have h9 := HA.out.drewN nq
              clear n0 n1 y0 z0
              generalize Wn.drewN nq = w12 at *
              have H12 := Lib.hid h9.right; clear h9 HA
              go_wp2_with fail
              exact ⟨⟨1, by omega, by go_num, H12.out⟩, by simp [intOf]⟩
            have hpos : 0 < (i : Int) := by omega
            by_cases hi28 : i = 28
            · subst hi28
              go_quiet (fail)
              have h9 := HA.out.drewN nq
              clear n0 n1 y0 z0
              generalize Wn.drewN nq = w12 at *
              have H12 := Lib.hid h9.right; clear h9 HA
              go_wp2_with fail
              exact ⟨⟨29, by omega, by go_num, H12.out⟩, by simp [intOf]⟩
            have hi28' : ¬ (i : Int) = 28 := by omega
            have hd1 : decide ((0 : Int) < (i : Int)) = true := by simpa using hpos
            have hd2 : decide (0 < i) = true := by simp; omega
            have hd3 : ((i : Int) != 28) = true := by rw [bne_iff_ne]; exact hi28'
            have hjT : i - 1 < lensB.length := by show i - 1 < 29; omega
            have hx := List.getElem?_eq_getElem hjT
            have hgd : lensB.getD (i - 1) (0, 0) = lensB[i - 1] := by rw [List.getD_eq_getElem?_getD, hx]; rfl
            have hstep := HSTEP.out (by omega) hi28
            rw [hgd] at hstep
            have hok := tab_ok false lensB[i - 1] (List.getElem_mem (l := lensB) hjT)
            obtain ⟨hp0, hp1⟩ := bas_at hx
            generalize lensB[i - 1] = b at *
            obtain ⟨f', e'⟩ := b
            simp only [nv] at hp0 hp1 hstep hok
            have p0 := HA.out.right.right.right.own_cellS hp0
            have p1 := HA.out.right.right.right.own_cellS hp1
            have hw := shl_eq (f := f') (x := e') (by omega) (by omega)
            rw [← hstep] at hw
            have hw2 : ((f : Int) != wrap64 ((f' : Int) + wrap64 (2 ^ min e' 64))) = false := by rw [Nat.min_eq_left (by omega), hw]; simp
            clear hw
            have hsub : (i : Int) - 1 = ((i - 1 : Nat) : Int) := by omega
            have hj1 : ((i - 1 : Nat) : Int) < 29 := by omega
            have hj0 : ¬ (e' : Int) < 0 := by omega
            clear hx hgd hp0 hp1 hstep hok
            generalize i - 1 = im at *
            go_quiet (fail)
            have h9 := HA.out.drewN nq
            clear n0 n1 y0 z0 p0 p1
            generalize Wn.drewN nq = w12 at *
            have H12 := Lib.hid h9.right; clear h9 HA hsub
            go_wp2_with fail
            exact ⟨⟨i + 1, by omega, by go_num, H12.out⟩, by simp [intOf]; omega⟩
          · obtain rfl : i = 29 := by omega
            have H12 := Lib.hid hst.right.right.right; clear hst
            go_wp2_with fail
            exact ⟨⟨k + 1, by omega, by go_num, H12.out⟩, by simp [intOf]; omega⟩
      · have H9 := Lib.hid h9.right; clear h9 HST
        go_wp2_with fail
        refine (dists_any H9.out).mono ?_
        rintro e w10 ⟨v10, rfl, h10⟩
        have H10 := Lib.hid h10; clear h10 H9
        go_wp2_with fail
        refine (rfroms_any H10.out true).mono ?_
        rintro e w11 ⟨vx, vy, rfl, h11⟩
        have h11 : St w w11 (own 3 1 vx 30 (nvs (distsB.map Prod.fst)) * (own 3 1 vy 30 (nvs (distsB.map Prod.snd)) * (own 40 2 v10 30 (bas distsB) * (own 4 1 (.slice (some ⟨gb, 0, none⟩) 2 2) 2 [.bool false, .bool true] * Mz.old w)))) := h11
        obtain ⟨ax, cx, rfl⟩ := h11.reads.sub
        obtain ⟨ay, cy, rfl⟩ := h11.right.reads.sub
        obtain ⟨al, cl, rfl⟩ := h11.right.right.reads.sub
        obtain ⟨gx, rfl⟩ := own_at h11 (by omega)
        obtain ⟨gy, rfl⟩ := own_at h11.right (by omega)
        obtain ⟨gl, rfl⟩ := own_at h11.right.right (by omega)
        have H11 := Lib.hid h11; clear h11 H10
        go_wp2_with fail
        go_loopw [64] (fun vi wr => ∃ i : Nat, i ≤ 30 ∧ vi = .int .i64 i ∧ St w wr (own 3 1 (.slice (some ⟨gx, 0, none⟩) 30 cx) 30 (nvs (distsB.map Prod.fst)) * (own 3 1 (.slice (some ⟨gy, 0, none⟩) 30 cy) 30 (nvs (distsB.map Prod.snd)) * (own 40 2 (.slice (some ⟨gl, 0, none⟩) 30 cl) 30 (bas distsB) * (own 4 1 (.slice (some ⟨gb, 0, none⟩) 2 2) 2 [.bool false, .bool true] * Mz.old w))))) (fun vi _ => 30 - (intOf vi).toNat)
        case atStart => exact ⟨0, by omega, rfl, H11.out⟩
        case round =>
          clear H11
          obtain ⟨i, hi, rfl, hst⟩ := hrel
          by_cases hin : i < 30
          · have hin2 : (i : Int) < 30 := by omega
            have hiT : i < distsB.length := hin
            have hx := List.getElem?_eq_getElem hiT
            have hgd : distsB.getD i (0, 0) = distsB[i] := by rw [List.getD_eq_getElem?_getD, hx]; rfl
            have hok := tab_ok true distsB[i] (List.getElem_mem (l := distsB) hiT)
            have hstep := dists_step i hin
            rw [hgd] at hstep
            obtain ⟨hb0, hb1⟩ := bas_at hx
            have hy : (nvs (distsB.map Prod.fst))[i]? = some (nv distsB[i].1) := by rw [nvs, List.getElem?_map, List.getElem?_map, hx]; rfl
            have hz : (nvs (distsB.map Prod.snd))[i]? = some (nv distsB[i].2) := by rw [nvs, List.getElem?_map, List.getElem?_map, hx]; rfl
            generalize distsB[i] = b at *
            obtain ⟨f, e0⟩ := b
            simp only [nv] at hb0 hb1 hy hz hstep hok
            clear hx hgd
            have x0 := hst.right.right.own_cellS hb0
            have x1 := hst.right.right.own_cellS hb1
            have hA := hst.alloc (.cells #[.int .i64 (f : Int), .int .i64 (e0 : Int)] 40)
            have HA := Lib.hid hA; clear hA hst
            have HB0 := Lib.hid hb0; have HB1 := Lib.hid hb1; have HY := Lib.hid hy; have HZ := Lib.hid hz; clear hb0 hb1 hy hz
            have HSTEP := Lib.hid hstep; clear hstep
            obtain ⟨hok1, hok2⟩ := hok
            go_upto_region 17 with (fail)
            generalize hgn : wr.heap.size = gn at *
            generalize hWn : wr.alloc (.cells #[.int .i64 (f : Int), .int .i64 (e0 : Int)] 40) = Wn at *
            clear hgn hWn x0 x1
            have n0 := HA.out.cell 0 rfl
            have n1 := HA.out.cell 1 rfl
            have y0 := HA.out.right.own_cell HY.out
            have z0 := HA.out.right.right.own_cell HZ.out
            have hi0 : 0 ≤ (i : Int) := by omega
            by_cases hi1 : i = 0
            · subst hi1
              go_quiet (fail)
              have h9 := HA.out.drewN nq
              clear n0 n1 y0 z0
              generalize Wn.drewN nq = w12 at *
              have H12 := Lib.hid h9.right; clear h9 HA
              go_wp2_with fail
              exact ⟨⟨1, by omega, by go_num, H12.out⟩, by simp [intOf]⟩
            have hpos : 0 < (i : Int) := by omega
            by_cases hi28 : i = 28
            · subst hi28
              go_quiet (fail)
              have h9 := HA.out.drewN nq
              clear n0 n1 y0 z0
              generalize Wn.drewN nq = w12 at *
              have H12 := Lib.hid h9.right; clear h9 HA
              go_wp2_with fail
              exact ⟨⟨29, by omega, by go_num, H12.out⟩, by simp [intOf]⟩
            have hi28' : ¬ (i : Int) = 28 := by omega
            have hd1 : decide ((0 : Int) < (i : Int)) = true := by simpa using hpos
            have hd2 : decide (0 < i) = true := by simp; omega
            have hd3 : ((i : Int) != 28) = true := by rw [bne_iff_ne]; exact hi28'
            have hjT : i - 1 < distsB.length := by show i - 1 < 30; omega
            have hx := List.getElem?_eq_getElem hjT
            have hgd : distsB.getD (i - 1) (0, 0) = distsB[i - 1] := by rw [List.getD_eq_getElem?_getD, hx]; rfl
            have hstep := HSTEP.out (by omega) hi28
            rw [hgd] at hstep
            have hok := tab_ok true distsB[i - 1] (List.getElem_mem (l := distsB) hjT)
            obtain ⟨hp0, hp1⟩ := bas_at hx
            generalize distsB[i - 1] = b at *
            obtain ⟨f', e'⟩ := b
            simp only [nv] at hp0 hp1 hstep hok
            have p0 := HA.out.right.right.right.own_cellS hp0
            have p1 := HA.out.right.right.right.own_cellS hp1
            have hw := shl_eq (f := f') (x := e') (by omega) (by omega)
            rw [← hstep] at hw
            have hw2 : ((f : Int) != wrap64 ((f' : Int) + wrap64 (2 ^ min e' 64))) = false := by rw [Nat.min_eq_left (by omega), hw]; simp
            clear hw
            have hsub : (i : Int) - 1 = ((i - 1 : Nat) : Int) := by omega
            have hj1 : ((i - 1 : Nat) : Int) < 30 := by omega
            have hj0 : ¬ (e' : Int) < 0 := by omega
            clear hx hgd hp0 hp1 hstep hok
            generalize i - 1 = im at *
            go_quiet (fail)
            have h9 := HA.out.drewN nq
            clear n0 n1 y0 z0 p0 p1
            generalize Wn.drewN nq = w12 at *
            have H12 := Lib.hid h9.right; clear h9 HA hsub
            go_wp2_with fail
            exact ⟨⟨i + 1, by omega, by go_num, H12.out⟩, by simp [intOf]; omega⟩
          · obtain rfl : i = 30 := by omega
            have H12 := Lib.hid hst.right.right.right; clear hst
            go_wp2_with fail
            exact ⟨⟨k + 1, by omega, by go_num, H12.out⟩, by simp [intOf]; omega⟩
    · obtain rfl : k = 2 := by omega
      have H8 := Lib.hid hst.right; clear hst
      obtain ⟨i, hi, e28⟩ : ∃ i : Nat, i < 28 ∧ wrap64 ((IntKind.u64.wrap at_).tmod 28) = (i : Int) := by
        have h0 : 0 ≤ IntKind.u64.wrap at_ := by simp [IntKind.wrap, IntKind.bits, IntKind.signed]; omega
        have h1 : (IntKind.u64.wrap at_).tmod 28 = (IntKind.u64.wrap at_) % 28 := Int.tmod_eq_emod_of_nonneg h0
        generalize IntKind.u64.wrap at_ = z at *
        refine ⟨(z % 28).toNat, by omega, ?_⟩
        rw [h1]; unfold wrap64; omega
      go_upto_region 22 with (fail)
      simp only [e28]
      clear e28
      have hiT : i < lensB.length := by show i < 29; omega
      have hjT : i + 1 < lensB.length := by show i + 1 < 29; omega
      have hx := List.getElem?_eq_getElem hiT
      have hy := List.getElem?_eq_getElem hjT
      have hrise := lens_rise i hi
      rw [show lensB.getD i (0, 0) = lensB[i] by rw [List.getD_eq_getElem?_getD, hx]; rfl, show lensB.getD (i + 1) (0, 0) = lensB[i + 1] by rw [List.getD_eq_getElem?_getD, hy]; rfl] at hrise
      have hb0 := (bas_at hx).1
      have hb1 := (bas_at hy).1
      generalize lensB[i].1 = fi at *
      generalize lensB[i + 1].1 = fj at *
      simp only [nv] at hb0 hb1
      have HB0 := Lib.hid hb0; have HB1 := Lib.hid hb1; clear hb0 hb1 hx hy hiT hjT
      have hd1 : decide ((fi : Int) < (fj : Int)) = true := by simp; omega
      have hd2 : decide (fi < fj) = true := by simp; omega
      have hi2 : (i : Int) < 29 := by omega
      obtain ⟨j, hj⟩ : ∃ j, j = i + 1 := ⟨_, rfl⟩
      rw [← hj] at HB1
      have hij : (i : Int) + 1 = (j : Int) := by omega
      have hj1 : (j : Int) < 29 := by omega
      have hj0 : 0 ≤ (j : Int) := by omega
      have hj2 : j < 29 := by omega
      have hwj : IntKind.i64.wrap (j : Int) = (j : Int) := IntWalk.i64_in _ (by omega)
      have hwj2 : wrap64 (j : Int) = (j : Int) := by unfold wrap64; omega
      clear hj
      have hi0 : 0 ≤ (i : Int) := by omega
      clear hrise
      have HL0 := Lib.hid (show (bas lensB)[0]? = some (.int .i64 3) by kernel_rfl)
      have HL28 := Lib.hid (show (bas lensB)[56]? = some (.int .i64 258) by kernel_rfl)
      have HD29 := Lib.hid (show (bas distsB)[58]? = some (.int .i64 24577) by kernel_rfl)
      go_region_with (first
        | (go_at_call 15; refine (dists_any HD1.out).mono ?_; rintro e we ⟨ve5, rfl, he⟩; obtain ⟨ae5, ce5, rfl⟩ := he.reads.sub; obtain ⟨ge5, rfl⟩ := own_at he (by omega); have t0 := he.own_cellS HD29.out; have HE1 := Lib.hid he; clear he)
        | (go_at_call 14; refine (lens_any HC1.out).mono ?_; rintro e wd ⟨ve4, rfl, hd⟩; obtain ⟨ad4, cd4, rfl⟩ := hd.reads.sub; obtain ⟨gd4, rfl⟩ := own_at hd (by omega); have s1 := hd.own_cellS HL28.out; have HD1 := Lib.hid hd; clear hd)
        | (go_at_call 14; refine (lens_any HBB.out).mono ?_; rintro e wc ⟨ve3, rfl, hc⟩; obtain ⟨ac3, cc3, rfl⟩ := hc.reads.sub; obtain ⟨gc3, rfl⟩ := own_at hc (by omega); have s0 := hc.own_cellS HL0.out; have HC1 := Lib.hid hc; clear hc)
        | (go_at_call 14; refine (lens_any HA1.out).mono ?_; rintro e wb ⟨ve2, rfl, hb⟩; obtain ⟨ab2, cb2, rfl⟩ := hb.reads.sub; obtain ⟨gb2, rfl⟩ := own_at hb (by omega); have r0 := hb.own_cellS HB0.out; have r1 := hb.own_cellS HB1.out; have r2 := hb.right.own_cellS HB0.out; have r3 := hb.right.own_cellS HB1.out; have HBB := Lib.hid hb; clear hb)
        | (go_at_call 14; refine (lens_any H8.out.drew).mono ?_; rintro e wa ⟨ve1, rfl, ha⟩; obtain ⟨aa1, ca1, rfl⟩ := ha.reads.sub; obtain ⟨ga1, rfl⟩ := own_at ha (by omega); have p0 := ha.own_cellS HB0.out; have p1 := ha.own_cellS HB1.out; have HA1 := Lib.hid ha; clear ha))
      all_goals
        go_wp2_with fail
        all_goals
          go_ret
          exact ⟨rfl, FIN.out _ HE1.out.right.right.right.right.right⟩
#print axioms walk
end Go.Proofs.Ytciplcmjoljofaa.tables
