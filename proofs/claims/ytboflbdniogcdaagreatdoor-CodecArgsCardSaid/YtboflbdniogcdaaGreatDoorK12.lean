/-
  Parts of a proof.
-/
import Derived.Test.YtboflbdniogcdaaGreatDoorK06
import Derived.Test.YtboflbdniogcdaaGreatDoorK08
import Derived.Deep.RegionHeld3
import Derived.Deep.QuietTactic
import Derived.BigQuiet
namespace Go.Proofs.YtboflbdniogcdaaGreatDoor
open Go.RowKit Go.Mz
set_option linter.unusedVariables false
set_option linter.unusedSimpArgs false
set_option maxRecDepth 100000
def RunK (b : List UInt8) (n : Nat) : Prop := n ≤ b.length ∧ n ≤ 128 ∧ (∀ t, t < n → b.getD t 0 = b.getD 0 0) ∧ (0 < b.length → 1 ≤ n)
set_option maxHeartbeats 40000000 in
theorem run_any {w : World} {v : Value} {b : List UInt8} (h : Reads w 1 v b.length (b.map bv)) (hl : b.length ≤ 1000000000) :
  Calls Tryz.prog 87 #[v] w fun e w' => ∃ n, e = .returned (.int .i64 (n : Nat)) ∧ RunK b n ∧ ∃ m, w' = w.drewN m := by
 obtain ⟨a, cap, rfl⟩ := h.sub
 have HR := Lib.hid h
 clear h
 obtain ⟨L, hL⟩ : ∃ L, b.length = L := ⟨_, rfl⟩
 rw [hL] at HR hl ⊢
 have HL := Lib.hid hL
 clear hL
 go_enter Tryz.func87, Tryz.ntmps87
 go_wp2_with fail
 go_loopw [3] (fun vn wr => ∃ n : Nat, vn = .int .i64 n ∧ n ≤ 128 ∧ n ≤ L ∧ (∀ t, t < n → b.getD t 0 = b.getD 0 0) ∧ ∃ m, wr = w.drewN m) (fun vn _ => 128 - (intOf vn).toNat)
 case atStart => exact ⟨0, rfl, by omega, by omega, (fun t ht => by omega), 0, rfl⟩
 case round =>
  obtain ⟨n, rfl, hn, hin, heq, m, rfl⟩ := hrel
  have HEQ := Lib.hid heq
  clear heq
  by_cases h2 : n < L
  ·have h2i : (n : Int) < L := by omega
   have h2d : decide ((n : Int) < L) = true := decide_eq_true h2i
   by_cases h1 : n < 128
   ·have h1i : (n : Int) < 128 := by omega
    have h1d : decide ((n : Int) < 128) = true := decide_eq_true h1i
    obtain ⟨x, y, rfl, hc⟩ := (show Reads (w.drewN m) 1 (.slice a L cap) L (b.map bv) from HR.out).at_ h2
    obtain ⟨x', y', e, hc'⟩ := (show Reads (w.drewN m) 1 (.slice (some ⟨x, y, none⟩) L cap) L (b.map bv) from HR.out).at_ (show 0 < L by omega)
    cases e
    have g1 : (b.map bv)[n]? = some (bv (b.getD n 0)) := by rw [List.getElem?_map, List.getD_eq_getElem?_getD, List.getElem?_eq_getElem (by rw [HL.out]; exact h2)]; rfl
    have g2 : (b.map bv)[0]? = some (bv (b.getD 0 0)) := by rw [List.getElem?_map, List.getD_eq_getElem?_getD, List.getElem?_eq_getElem (by rw [HL.out]; omega)]; rfl
    rw [g1] at hc; rw [g2] at hc'
    clear g1 g2
    simp only [bv] at hc hc'
    have HCC := Lib.hid (show b.getD n 0 = b.getD 0 0 ↔ (b.getD n 0).toNat = (b.getD 0 0).toNat from ⟨fun h => by rw [h], fun h => UInt8.toNat_inj.1 h⟩)
    generalize hx1 : (b.getD n 0).toNat = x1 at *
    generalize hx2 : (b.getD 0 0).toNat = x2 at *
    have hL0 : (0 : Int) < L := by omega
    have hL0' : 0 < L := by omega
    clear hx1 hx2
    have hc : w.cell? ⟨x, y + n, none⟩ = some (.int .u8 (x1 : Int)) := hc
    have hc' : w.cell? ⟨x, y, none⟩ = some (.int .u8 (x2 : Int)) := hc'
    by_cases h3 : x1 = x2
    ·have h3b : ((x1 : Int) == x2) = true := by simp [h3]
     have h3d : decide ((x1 : Int) = x2) = true := by simp [h3]
     have h3i : (x1 : Int) = x2 := by omega
     go_wp2_with fail
     go_quiet (fail)
     go_wp2_with fail
     refine ⟨⟨n + 1, by go_num, by omega, by omega, ?_, _, rfl⟩, by simp [intOf]; omega⟩
     intro t ht
     rcases Nat.lt_or_ge t n with h | h
     ·exact HEQ.out t h
     ·obtain rfl : t = n := by omega
      exact HCC.out.2 h3
    ·have h3b : ((x1 : Int) == x2) = false := by simp; omega
     have h3d : decide ((x1 : Int) = x2) = false := by simp; omega
     have h3i : ¬ (x1 : Int) = x2 := by omega
     go_wp2_with fail
     go_quiet (fail)
     go_wp2_with fail
     go_ret
     exact ⟨n, rfl, ⟨by rw [HL.out]; omega, by omega, HEQ.out, fun _ => by
      rcases Nat.eq_zero_or_pos n with h | h
      ·subst h; exact absurd (HCC.out.1 rfl) h3
      ·exact h⟩, _, by rw [World.drewN_drewN]⟩
   ·have h1i : ¬ (n : Int) < 128 := by omega
    have h1d : decide ((n : Int) < 128) = false := decide_eq_false h1i
    go_wp2_with fail
    go_quiet (fail)
    go_wp2_with fail
    go_ret
    exact ⟨n, rfl, ⟨by rw [HL.out]; omega, by omega, HEQ.out, fun _ => by omega⟩, _, by rw [World.drewN_drewN]⟩
  ·have h2i : ¬ (n : Int) < L := by omega
   have h2d : decide ((n : Int) < L) = false := decide_eq_false h2i
   go_wp2_with fail
   go_quiet (fail)
   go_wp2_with fail
   go_ret
   exact ⟨n, rfl, ⟨by rw [HL.out]; omega, by omega, HEQ.out, fun h => by rw [HL.out] at h; omega⟩, _, by rw [World.drewN_drewN]⟩
def lenV : Value → Nat
 | .slice _ n _ => n
 | _ => 0
theorem stL2 {w0 w : World} {A B : SProp} (h : StL w0 w [A, B]) : St w0 w (A * B) := St.perm h (by simp only [prodL]; rw [star_comm B emp, emp_star])
theorem stL2' {w0 w : World} {A B : SProp} (h : St w0 w (A * B)) : StL w0 w [A, B] := St.perm h (by simp only [prodL]; rw [star_comm B emp, emp_star])
theorem rd_drop {w : World} {b off n c : Nat} {bs : List UInt8} (h : Reads w 1 (.slice (some ⟨b, off, none⟩) n c) n (bs.map bv)) (hn : bs.length = n) {k : Nat} (hk : k ≤ n) : Reads w 1 (.slice (if c = k then some ⟨b, off, none⟩ else some ⟨b, off + k, none⟩) (n - k) (c - k)) (n - k) ((bs.drop k).map bv) := by
 have hc := (rd_cap h).1
 by_cases e : c = k
 ·rw [if_pos e]
  obtain rfl : k = n := by omega
  subst e
  rw [Nat.sub_self, List.drop_of_length_le (by omega)]
  exact rd_nil _ _
 ·rw [if_neg e]
  have := rd_sub h hk (Nat.le_refl n)
  rw [List.take_of_length_le (by rw [List.length_drop, List.length_map]; omega), ← List.map_drop] at this
  have e2 : (⟨b, off, none⟩ : Addr).add k = ⟨b, off + k, none⟩ := by
   cases k <;> simp [Addr.add]
  rwa [e2] at this
theorem rd_take {w : World} {b off n c : Nat} {bs : List UInt8} (h : Reads w 1 (.slice (some ⟨b, off, none⟩) n c) n (bs.map bv)) {k : Nat} (hk : k ≤ n) : Reads w 1 (.slice (some ⟨b, off, none⟩) k c) k ((bs.take k).map bv) := by
 have := rd_sub h (Nat.zero_le k) hk
 rw [List.drop_zero, ← List.map_take] at this
 have e2 : (⟨b, off, none⟩ : Addr).add 0 = ⟨b, off, none⟩ := by simp [Addr.add]
 rw [e2] at this
 simpa only [Nat.sub_zero] using this
theorem RunK.take {b : List UInt8} {n : Nat} (h : RunK b n) : b.take n = List.replicate n (b.getD 0 0) := by
 apply List.ext_getElem?
 intro t
 by_cases ht : t < n
 ·rw [List.getElem?_take, if_pos ht, List.getElem?_replicate, if_pos ht]
  have hb : t < b.length := by have := h.1; omega
  have e : b.getD t 0 = b[t] := by rw [List.getD_eq_getElem?_getD, List.getElem?_eq_getElem hb]; rfl
  rw [List.getElem?_eq_getElem hb]
  exact congrArg some (e.symm.trans (h.2.2.1 t ht))
 ·rw [List.getElem?_eq_none (by rw [List.length_take]; omega), List.getElem?_eq_none (by simp; omega)]
def PbTo (pre Z : List UInt8) : Prop := ∀ r z, PbS r z → PbS (pre ++ r) (Z ++ z)
theorem PbTo.nil : PbTo [] [] := fun r z h => h
theorem PbTo.run {pre Z b : List UInt8} {n : Nat} (h : PbTo pre Z) (hr : RunK b n) (h2 : 2 ≤ n) : PbTo (pre ++ b.take n) (Z ++ [UInt8.ofNat (257 - n), b.getD 0 0]) := fun r z hz => by
 rw [List.append_assoc, List.append_assoc, hr.take]
 exact h _ _ (PbS.run n _ r z h2 hr.2.1 hz)
theorem PbTo.lit {pre Z b : List UInt8} {n : Nat} (h : PbTo pre Z) (h1 : 1 ≤ n) (h2 : n ≤ 128) (hn : n ≤ b.length) : PbTo (pre ++ b.take n) (Z ++ [UInt8.ofNat (n - 1)] ++ b.take n) := fun r z hz => by
 have e : (b.take n).length = n := by rw [List.length_take]; omega
 have := h _ _ (PbS.lit (b.take n) r z (by omega) (by omega) hz)
 rw [e] at this
 simpa [List.append_assoc] using this
set_option maxHeartbeats 40000000 in
theorem pencode_any {w0 w : World} {F : SProp} (h : St w0 w F) {bs : List UInt8} {v : Value} (hv : Stb w0 F (fun w => Reads w 1 v bs.length (bs.map bv))) (hl : bs.length ≤ 1000000) :
  Calls Tryz.prog 39 #[v] w fun e w' => ∃ v' z, e = .returned v' ∧ PbS bs z ∧ St w0 w' (own 5 1 v' z.length (z.map bv) * F) := by
 obtain ⟨a0, c0, rfl⟩ := (hv w h).sub
 have HV := Lib.hid hv
 have H := Lib.hid h
 obtain ⟨nl, hnl⟩ : ∃ nl, bs.length = nl := ⟨_, rfl⟩
 rw [hnl] at hl HV ⊢
 have HNL := Lib.hid hnl
 clear hv h hnl
 have T := elemBytes
 go_enter Tryz.func39, Tryz.ntmps39
 go_wp2_with fail
 have h1 := H.out.lit #[] 5 0 rfl (by decide)
 have H1 := Lib.hid (show St w0 _ (own 5 1 (.slice (some ⟨w.heap.size, 0, none⟩) 0 0) 0 [] * F) from h1)
 clear h1
 generalize w.heap.size = g0 at *
 go_loopw [0, 3] (fun v0 vo wr => ∃ (m zl : Nat) (rest pre Z : List UInt8) (a ao : Option Addr) (c co : Nat), v0 = .slice a m c ∧ vo = .slice ao zl co ∧ RowKit.Hid (bs = pre ++ rest ∧ rest.length = m ∧ Z.length = zl ∧ PbTo pre Z) ∧ m ≤ nl ∧ zl ≤ 2 * (nl - m) ∧ RowKit.Hid (Stb w0 F (fun w => Reads w 1 (.slice a m c) m (rest.map bv))) ∧ St w0 wr (own 5 1 (.slice ao zl co) zl (Z.map bv) * F)) (fun v0 _ _ => lenV v0)
 case atStart => exact ⟨nl, 0, bs, [], [], a0, _, c0, 0, rfl, rfl, Lib.hid ⟨rfl, HNL.out, rfl, PbTo.nil⟩, Nat.le_refl _, by omega, HV, H1.out⟩
 case round =>
  clear H1 H HV
  obtain ⟨m, zl, rest, pre, Z, a, ao, c, co, rfl, rfl, hQ, hm, hz, HR, hst⟩ := hrel
  by_cases hm0 : 0 < m
  ·have hmI : (0 : Int) < m := by omega
   obtain ⟨b, off, rfl, _⟩ := (HR.out _ hst.right).at_ hm0
   have HRUN := Lib.hid (fun w h => run_any (by have := HR.out w h; rw [hQ.out.2.1]; exact this) (by rw [hQ.out.2.1]; omega))
   have HST := Lib.hid hst
   clear hst
   go_wp2_with (go_at_call 87; apply stop)
   refine on ((HRUN.out _ HST.out.right).mono ?_)
   rintro e w2 ⟨n, rfl, hrk, q, rfl⟩
   have hn1 : 1 ≤ n := hrk.2.2.2 (by rw [hQ.out.2.1]; exact hm0)
   have hn2 : n ≤ 128 := hrk.2.1
   have hn3 : n ≤ m := by have := hrk.1; rw [hQ.out.2.1] at this; exact this
   have HK := Lib.hid hrk
   have HW := Lib.hid (HST.out.drewN q)
   clear hrk HST
   generalize wr.drewN q = WW at *
   have hcap := (rd_cap (HR.out _ HW.out.right)).1
   by_cases h2 : 2 ≤ n
   ·have h2I : (2 : Int) ≤ n := by omega
    obtain ⟨b', off', e, hc⟩ := (HR.out _ HW.out.right).at_ (show 0 < m from hm0)
    cases e
    have g1 : (rest.map bv)[0]? = some (bv (rest.getD 0 0)) := by rw [List.getElem?_map, List.getD_eq_getElem?_getD, List.getElem?_eq_getElem (by rw [hQ.out.2.1]; exact hm0)]; rfl
    rw [g1] at hc
    have hc : WW.cell? ⟨b, off, none⟩ = some (bv (rest.getD 0 0)) := hc
    have HP := Lib.hid (hQ.out.2.2.2.run HK.out h2)
    generalize rest.getD 0 0 = c8 at *
    simp only [bv] at hc
    obtain ⟨k8, hk8⟩ : ∃ k8, k8 = 257 - n := ⟨_, rfl⟩
    have hs8 : (257 : Int) - n = (k8 : Int) := by omega
    have hk256 : k8 < 256 := by omega
    have hw8 : (k8 : Int) % 256 = k8 := by omega
    have hwi : IntKind.i64.wrap (k8 : Int) = k8 := IntWalk.i64_in _ (by omega)
    have hwu : IntKind.u8.wrap (k8 : Int) = k8 := IntWalk.u8_in _ (by omega)
    have E8 := Lib.hid (show (.int .u8 (k8 : Int) : Value) = bv (UInt8.ofNat (257 - n)) by rw [bv, ← hk8]; congr 1; simp; omega)
    have h5 := HW.out.lit #[.int .u8 (k8 : Int), .int .u8 (c8.toNat : Int)] 5 2 rfl (by decide)
    have H5 := Lib.hid h5
    clear hk8
    clear g1 h5
    go_wp2_with (at_builtin; apply stop)
    refine on (wpList_append_sep T rfl _ _ rfl rfl (H5.out.perm (star_left_comm _ _ _)) rfl H5.out.reads (by intro u hu; rcases List.mem_cons.1 hu with rfl | hu; rfl; rw [List.mem_singleton.1 hu]; rfl) (by unfold maxLen; omega) (by omega) ?_)
    intro v3 w3 h3 _
    have h4 : St w0 w3 (own 5 1 v3 (zl + 2) ((Z ++ [UInt8.ofNat (257 - n), c8]).map bv) * F) := by
     have h6 := (h3.perm (star_left_comm _ _ _)).right
     rw [List.map_append]
     rw [show ([UInt8.ofNat (257 - n), c8]).map bv = [.int .u8 (k8 : Int), .int .u8 (c8.toNat : Int)] by rw [E8.out]; rfl]
     exact h6
    obtain ⟨a3, c3, rfl⟩ := h4.reads.sub
    have HZL := Lib.hid (show (Z ++ [UInt8.ofNat (257 - n), c8]).length = zl + 2 by rw [List.length_append, hQ.out.2.2.1]; rfl)
    generalize Z ++ [UInt8.ofNat (257 - n), c8] = Z2 at *
    have H4 := Lib.hid h4
    clear h3 h4 H5 hs8 hw8 HW
    have hnc : (n : Int) ≤ c := by omega
    have hnm : (n : Int) ≤ m := by omega
    go_wp2_with fail
    exact ⟨⟨m - n, zl + 2, rest.drop n, pre ++ rest.take n, Z2, _, _, c - n, c3, rfl, rfl, Lib.hid ⟨by rw [List.append_assoc, List.take_append_drop]; exact hQ.out.1, by rw [List.length_drop, hQ.out.2.1], HZL.out, HP.out⟩, by omega, by omega, Lib.hid fun w h => rd_drop (HR.out w h) hQ.out.2.1 hn3, H4.out⟩, by show m - n < m; omega⟩
   ·have h2I : ¬ (2 : Int) ≤ n := by omega
    have hn1' : n = 1 := by omega
    subst hn1'
    clear HK
    go_wp2_with fail
    go_loopw [5] (fun vj wj => ∃ (j q : Nat), 1 ≤ j ∧ j ≤ m ∧ j ≤ 128 ∧ vj = .int .i64 j ∧ wj = WW.drewN q) (fun vj _ => m - (intOf vj).toNat)
    case atStart => exact ⟨1, 0, by omega, by omega, by omega, rfl, rfl⟩
    case round =>
     obtain ⟨j, q, hj1, hjm', hj128, rfl, rfl⟩ := hrel
     have HJ := Lib.hid (HW.out.drewN q)
     generalize hWJ : WW.drewN q = WJ at *
     have HWJ := Lib.hid hWJ
     clear hWJ HW
     by_cases hjm2 : j < m
     ·have hjI : (j : Int) < m := by omega
      by_cases hj2 : j < 128
      ·have hj2I : (j : Int) < 128 := by omega
       have hcj : ¬ c = j := by omega
       have hjc0 : (j : Int) ≤ c := by omega
       have hjm0 : (j : Int) ≤ m := by omega
       have HRUN2 := Lib.hid (fun w h => run_any (v := .slice (some ⟨b, off + j, none⟩) (m - j) (c - j)) (b := rest.drop j) (by
        have h1 := rd_drop (HR.out w h) hQ.out.2.1 hjm'
        rw [if_neg hcj] at h1
        rw [List.length_drop, hQ.out.2.1]; exact h1) (by rw [List.length_drop, hQ.out.2.1]; omega))
       go_wp2_with (go_at_call 87; apply stop)
       refine on ((HRUN2.out _ HJ.out.right).mono ?_)
       rintro e w3 ⟨n2, rfl, hrk2, q2, rfl⟩
       clear hrk2 HRUN2
       by_cases h3 : n2 < 3
       ·have h3I : (n2 : Int) < 3 := by omega
        go_wp2_with fail
        exact ⟨⟨j + 1, q + q2, by omega, by omega, by omega, by go_num, by rw [← HWJ.out, World.drewN_drewN]⟩, by simp [intOf]; omega⟩
       ·have h3I : ¬ (n2 : Int) < 3 := by omega
        have HJ := Lib.hid (HJ.out.drewN q2)
        generalize WJ.drewN q2 = WJ at *
        clear hcj hjc0 hjm0 hjI hj2I
        obtain ⟨k8, hk8⟩ : ∃ k8, k8 = j - 1 := ⟨_, rfl⟩
        have hs8 : (j : Int) - 1 = (k8 : Int) := by omega
        have hw8 : (k8 : Int) % 256 = k8 := by omega
        have hwi : IntKind.i64.wrap (k8 : Int) = k8 := IntWalk.i64_in _ (by omega)
        have hwu : IntKind.u8.wrap (k8 : Int) = k8 := IntWalk.u8_in _ (by omega)
        have E8 := Lib.hid (show (.int .u8 (k8 : Int) : Value) = bv (UInt8.ofNat (j - 1)) by rw [bv, ← hk8]; congr 1; simp; omega)
        have HP := Lib.hid (hQ.out.2.2.2.lit (b := rest) (n := j) (by omega) (by omega) (by rw [hQ.out.2.1]; omega))
        have HT := Lib.hid (fun w h => rd_take (HR.out w h) (k := j) (by omega))
        have hjc : (j : Int) ≤ c := by omega
        have hjm : (j : Int) ≤ m := by omega
        clear hk8
        go_upto_region 10 with (fail)
        refine wp_region_noPanic ?_
        refine region_till (S := fun _ => True) (k := 9) (by kernel_rfl) ?_
        have hS : (fun _ : World => True) WJ := trivial
        refine till_take0 (i := 0) (oi := ?_) (v := ?_) ?_ (by kernel_rfl) (by kernel_rfl) (by kernel_rfl) (by decide) (fun _ _ _ h => h.elim) (by assumption) (.inl ⟨?_, fun w => ?_⟩) ?_
        rotate_left 2
        ·(simp only [List.getElem?_toArray, List.getElem?_cons_succ, List.getElem?_cons_zero]; rfl)
        ·rfl
        ·(go_simp; try with_reducible rfl)
        simp only [Act.put, List.setIfInBounds_toArray, List.set_cons_zero, List.set_cons_succ]
        refine till_take0 (i := 1) (oi := ?_) (v := ?_) ?_ (by kernel_rfl) (by kernel_rfl) (by kernel_rfl) (by decide) (fun _ _ _ h => h.elim) (by assumption) (.inl ⟨?_, fun w => ?_⟩) ?_
        rotate_left 2
        ·(simp only [List.getElem?_toArray, List.getElem?_cons_succ, List.getElem?_cons_zero]; rfl)
        ·rfl
        ·(go_simp; try with_reducible rfl)
        simp only [Act.put, List.setIfInBounds_toArray, List.set_cons_zero, List.set_cons_succ]
        refine till_take0 (i := 2) (oi := ?_) (v := ?_) ?_ (by kernel_rfl) (by kernel_rfl) (by kernel_rfl) (by decide) (fun _ _ _ h => h.elim) (by assumption) (.inl ⟨?_, fun w => ?_⟩) ?_
        rotate_left 2
        ·(simp only [List.getElem?_toArray, List.getElem?_cons_succ, List.getElem?_cons_zero]; rfl)
        ·rfl
        ·(go_simp; try with_reducible rfl)
        simp only [Act.put, List.setIfInBounds_toArray, List.set_cons_zero, List.set_cons_succ]
        refine till_take0 (i := 3) (oi := ?_) (v := ?_) ?_ (by kernel_rfl) (by kernel_rfl) (by kernel_rfl) (by decide) (fun _ _ _ h => h.elim) (by assumption) (.inl ⟨?_, fun w => ?_⟩) ?_
        rotate_left 2
        ·(simp only [List.getElem?_toArray, List.getElem?_cons_succ, List.getElem?_cons_zero]; rfl)
        ·rfl
        ·(go_simp; try with_reducible rfl)
        simp only [Act.put, List.setIfInBounds_toArray, List.set_cons_zero, List.set_cons_succ]
        refine till_take0 (i := 6) (oi := ?_) (v := ?_) ?_ (by kernel_rfl) (by kernel_rfl) (by kernel_rfl) (by decide) (fun _ _ _ h => h.elim) (by assumption) (.inl ⟨?_, fun w => ?_⟩) ?_
        rotate_left 2
        ·(simp only [List.getElem?_toArray, List.getElem?_cons_succ, List.getElem?_cons_zero]; rfl)
        ·rfl
        ·(go_simp; try with_reducible rfl)
        simp only [Act.put, List.setIfInBounds_toArray, List.set_cons_zero, List.set_cons_succ]
        refine till_take0 (i := 7) (oi := ?_) (v := ?_) ?_ (by kernel_rfl) (by kernel_rfl) (by kernel_rfl) (by decide) (fun _ _ _ h => h.elim) (by assumption) (.inl ⟨?_, fun w => ?_⟩) ?_
        rotate_left 2
        ·(simp only [List.getElem?_toArray, List.getElem?_cons_succ, List.getElem?_cons_zero]; rfl)
        ·rfl
        ·(go_simp; try with_reducible rfl)
        simp only [Act.put, List.setIfInBounds_toArray, List.set_cons_zero, List.set_cons_succ]
        refine till_take0 (i := 8) (oi := ?_) (v := ?_) ?_ (by kernel_rfl) (by kernel_rfl) (by kernel_rfl) (by decide) (fun _ _ _ h => h.elim) (by assumption) (.inl ⟨?_, fun w => ?_⟩) ?_
        rotate_left 2
        ·(simp only [List.getElem?_toArray, List.getElem?_cons_succ, List.getElem?_cons_zero]; rfl)
        ·rfl
        ·(go_simp; try with_reducible rfl)
        simp only [Act.put, List.setIfInBounds_toArray, List.set_cons_zero, List.set_cons_succ]
        refine till_one (i := 4) (by kernel_rfl) ?_
        refine wpOp_step (by rfl) fun K hK => ?_
        have h4 := (HJ.out.lit #[.int .u8 (k8 : Int)] 5 1 rfl (by decide)).drew
        go_simp
        refine hK _ _ ⟨fun e => trivial, ?_⟩
        clear hK K
        have h5 := h4.perm (star_left_comm _ _ _)
        refine till_one (i := 5) (by kernel_rfl) ?_
        refine wpOp_step (by rfl) fun K hK => ?_
        refine step_append_L elemBytes rfl _ _ rfl rfl (stL2' h5) 0 rfl (x := .slice (some ⟨WJ.heap.size, 0, none⟩) 1 1) rfl (m := 1) (news := [.int .u8 (k8 : Int)]) h4.reads (by intro u hu; rw [List.mem_singleton.1 hu]; rfl) (by unfold maxLen; omega) (by omega) fun v7 W7 h70 _ => ?_
        have h7 := stL2 h70
        refine hK _ _ ⟨fun e => trivial, ?_⟩
        clear hK K h70 h5 h4
        refine till_one (i := 9) (by kernel_rfl) ?_
        refine wpOp_step (by rfl) fun K hK => ?_
        refine step_append_L elemBytes rfl _ _ rfl rfl (stL2' h7) 0 rfl (x := .slice (some ⟨b, off, none⟩) j c) rfl (m := j) (news := (rest.take j).map bv) (HT.out _ h7.right.right) (bv_oneCell _) (by unfold maxLen; omega) (by omega) fun v8 W8 h80 _ => ?_
        have h8 := stL2 h80
        refine hK _ _ ⟨fun e => trivial, ?_⟩
        clear hK K h80 h7 hS
        have hS : (fun _ : World => True) W8 := trivial
        refine till_take0 (i := 10) (oi := ?_) (v := ?_) ?_ (by kernel_rfl) (by kernel_rfl) (by kernel_rfl) (by decide) (fun _ _ _ h => h.elim) (by assumption) (.inl ⟨?_, fun w => ?_⟩) ?_
        rotate_left 2
        ·(simp only [List.getElem?_toArray, List.getElem?_cons_succ, List.getElem?_cons_zero]; rfl)
        ·rfl
        ·(go_simp; try with_reducible rfl)
        simp only [Act.put, List.setIfInBounds_toArray, List.set_cons_zero, List.set_cons_succ]
        refine ⟨by kernel_rfl, NoPanic.normal ?_⟩
        have h9 : St w0 W8 (own 5 1 v8 (zl + 1 + j) ((Z ++ [UInt8.ofNat (j - 1)] ++ rest.take j).map bv) * F) := by
         have h6 := (h8.perm (star_left_comm _ _ _)).right
         rw [List.map_append, List.map_append]
         rw [show ([UInt8.ofNat (j - 1)]).map bv = [.int .u8 (k8 : Int)] by rw [E8.out]; rfl]
         exact h6
        obtain ⟨a3, c3, rfl⟩ := h9.reads.sub
        have HZL := Lib.hid (show (Z ++ [UInt8.ofNat (j - 1)] ++ rest.take j).length = zl + 1 + j by rw [List.length_append, List.length_append, hQ.out.2.2.1, List.length_take, hQ.out.2.1, Nat.min_eq_left (by omega)]; rfl)
        generalize Z ++ [UInt8.ofNat (j - 1)] ++ rest.take j = Z2 at *
        have H9 := Lib.hid h9
        clear h8 h9 HJ hs8 hw8 hS
        go_wp2_with fail
        exact ⟨⟨m - j, zl + 1 + j, rest.drop j, pre ++ rest.take j, Z2, _, _, c - j, c3, rfl, rfl, Lib.hid ⟨by rw [List.append_assoc, List.take_append_drop]; exact hQ.out.1, by rw [List.length_drop, hQ.out.2.1], HZL.out, HP.out⟩, by omega, by omega, Lib.hid fun w h => (by have h1 := rd_drop (HR.out w h) hQ.out.2.1 (k := j) (by omega); first | exact h1 | (rw [if_neg (by omega)] at h1; exact h1)), H9.out⟩, by show m - j < m; omega⟩
      ·have hj2I : ¬ (j : Int) < 128 := by omega
       obtain ⟨k8, hk8⟩ : ∃ k8, k8 = j - 1 := ⟨_, rfl⟩
       have hs8 : (j : Int) - 1 = (k8 : Int) := by omega
       have hw8 : (k8 : Int) % 256 = k8 := by omega
       have hwi : IntKind.i64.wrap (k8 : Int) = k8 := IntWalk.i64_in _ (by omega)
       have hwu : IntKind.u8.wrap (k8 : Int) = k8 := IntWalk.u8_in _ (by omega)
       have E8 := Lib.hid (show (.int .u8 (k8 : Int) : Value) = bv (UInt8.ofNat (j - 1)) by rw [bv, ← hk8]; congr 1; simp; omega)
       have HP := Lib.hid (hQ.out.2.2.2.lit (b := rest) (n := j) (by omega) (by omega) (by rw [hQ.out.2.1]; omega))
       have HT := Lib.hid (fun w h => rd_take (HR.out w h) (k := j) (by omega))
       have hjc : (j : Int) ≤ c := by omega
       have hjm : (j : Int) ≤ m := by omega
       clear hk8
       go_upto_region 10 with (fail)
       refine wp_region_noPanic ?_
       refine region_till (S := fun _ => True) (k := 9) (by kernel_rfl) ?_
       have hS : (fun _ : World => True) WJ := trivial
       refine till_take0 (i := 0) (oi := ?_) (v := ?_) ?_ (by kernel_rfl) (by kernel_rfl) (by kernel_rfl) (by decide) (fun _ _ _ h => h.elim) (by assumption) (.inl ⟨?_, fun w => ?_⟩) ?_
       rotate_left 2
       ·(simp only [List.getElem?_toArray, List.getElem?_cons_succ, List.getElem?_cons_zero]; rfl)
       ·rfl
       ·(go_simp; try with_reducible rfl)
       simp only [Act.put, List.setIfInBounds_toArray, List.set_cons_zero, List.set_cons_succ]
       refine till_take0 (i := 1) (oi := ?_) (v := ?_) ?_ (by kernel_rfl) (by kernel_rfl) (by kernel_rfl) (by decide) (fun _ _ _ h => h.elim) (by assumption) (.inl ⟨?_, fun w => ?_⟩) ?_
       rotate_left 2
       ·(simp only [List.getElem?_toArray, List.getElem?_cons_succ, List.getElem?_cons_zero]; rfl)
       ·rfl
       ·(go_simp; try with_reducible rfl)
       simp only [Act.put, List.setIfInBounds_toArray, List.set_cons_zero, List.set_cons_succ]
       refine till_take0 (i := 2) (oi := ?_) (v := ?_) ?_ (by kernel_rfl) (by kernel_rfl) (by kernel_rfl) (by decide) (fun _ _ _ h => h.elim) (by assumption) (.inl ⟨?_, fun w => ?_⟩) ?_
       rotate_left 2
       ·(simp only [List.getElem?_toArray, List.getElem?_cons_succ, List.getElem?_cons_zero]; rfl)
       ·rfl
       ·(go_simp; try with_reducible rfl)
       simp only [Act.put, List.setIfInBounds_toArray, List.set_cons_zero, List.set_cons_succ]
       refine till_take0 (i := 3) (oi := ?_) (v := ?_) ?_ (by kernel_rfl) (by kernel_rfl) (by kernel_rfl) (by decide) (fun _ _ _ h => h.elim) (by assumption) (.inl ⟨?_, fun w => ?_⟩) ?_
       rotate_left 2
       ·(simp only [List.getElem?_toArray, List.getElem?_cons_succ, List.getElem?_cons_zero]; rfl)
       ·rfl
       ·(go_simp; try with_reducible rfl)
       simp only [Act.put, List.setIfInBounds_toArray, List.set_cons_zero, List.set_cons_succ]
       refine till_take0 (i := 6) (oi := ?_) (v := ?_) ?_ (by kernel_rfl) (by kernel_rfl) (by kernel_rfl) (by decide) (fun _ _ _ h => h.elim) (by assumption) (.inl ⟨?_, fun w => ?_⟩) ?_
       rotate_left 2
       ·(simp only [List.getElem?_toArray, List.getElem?_cons_succ, List.getElem?_cons_zero]; rfl)
       ·rfl
       ·(go_simp; try with_reducible rfl)
       simp only [Act.put, List.setIfInBounds_toArray, List.set_cons_zero, List.set_cons_succ]
       refine till_take0 (i := 7) (oi := ?_) (v := ?_) ?_ (by kernel_rfl) (by kernel_rfl) (by kernel_rfl) (by decide) (fun _ _ _ h => h.elim) (by assumption) (.inl ⟨?_, fun w => ?_⟩) ?_
       rotate_left 2
       ·(simp only [List.getElem?_toArray, List.getElem?_cons_succ, List.getElem?_cons_zero]; rfl)
       ·rfl
       ·(go_simp; try with_reducible rfl)
       simp only [Act.put, List.setIfInBounds_toArray, List.set_cons_zero, List.set_cons_succ]
       refine till_take0 (i := 8) (oi := ?_) (v := ?_) ?_ (by kernel_rfl) (by kernel_rfl) (by kernel_rfl) (by decide) (fun _ _ _ h => h.elim) (by assumption) (.inl ⟨?_, fun w => ?_⟩) ?_
       rotate_left 2
       ·(simp only [List.getElem?_toArray, List.getElem?_cons_succ, List.getElem?_cons_zero]; rfl)
       ·rfl
       ·(go_simp; try with_reducible rfl)
       simp only [Act.put, List.setIfInBounds_toArray, List.set_cons_zero, List.set_cons_succ]
       refine till_one (i := 4) (by kernel_rfl) ?_
       refine wpOp_step (by rfl) fun K hK => ?_
       have h4 := (HJ.out.lit #[.int .u8 (k8 : Int)] 5 1 rfl (by decide)).drew
       go_simp
       refine hK _ _ ⟨fun e => trivial, ?_⟩
       clear hK K
       have h5 := h4.perm (star_left_comm _ _ _)
       refine till_one (i := 5) (by kernel_rfl) ?_
       refine wpOp_step (by rfl) fun K hK => ?_
       refine step_append_L elemBytes rfl _ _ rfl rfl (stL2' h5) 0 rfl (x := .slice (some ⟨WJ.heap.size, 0, none⟩) 1 1) rfl (m := 1) (news := [.int .u8 (k8 : Int)]) h4.reads (by intro u hu; rw [List.mem_singleton.1 hu]; rfl) (by unfold maxLen; omega) (by omega) fun v7 W7 h70 _ => ?_
       have h7 := stL2 h70
       refine hK _ _ ⟨fun e => trivial, ?_⟩
       clear hK K h70 h5 h4
       refine till_one (i := 9) (by kernel_rfl) ?_
       refine wpOp_step (by rfl) fun K hK => ?_
       refine step_append_L elemBytes rfl _ _ rfl rfl (stL2' h7) 0 rfl (x := .slice (some ⟨b, off, none⟩) j c) rfl (m := j) (news := (rest.take j).map bv) (HT.out _ h7.right.right) (bv_oneCell _) (by unfold maxLen; omega) (by omega) fun v8 W8 h80 _ => ?_
       have h8 := stL2 h80
       refine hK _ _ ⟨fun e => trivial, ?_⟩
       clear hK K h80 h7 hS
       have hS : (fun _ : World => True) W8 := trivial
       refine till_take0 (i := 10) (oi := ?_) (v := ?_) ?_ (by kernel_rfl) (by kernel_rfl) (by kernel_rfl) (by decide) (fun _ _ _ h => h.elim) (by assumption) (.inl ⟨?_, fun w => ?_⟩) ?_
       rotate_left 2
       ·(simp only [List.getElem?_toArray, List.getElem?_cons_succ, List.getElem?_cons_zero]; rfl)
       ·rfl
       ·(go_simp; try with_reducible rfl)
       simp only [Act.put, List.setIfInBounds_toArray, List.set_cons_zero, List.set_cons_succ]
       refine ⟨by kernel_rfl, NoPanic.normal ?_⟩
       have h9 : St w0 W8 (own 5 1 v8 (zl + 1 + j) ((Z ++ [UInt8.ofNat (j - 1)] ++ rest.take j).map bv) * F) := by
        have h6 := (h8.perm (star_left_comm _ _ _)).right
        rw [List.map_append, List.map_append]
        rw [show ([UInt8.ofNat (j - 1)]).map bv = [.int .u8 (k8 : Int)] by rw [E8.out]; rfl]
        exact h6
       obtain ⟨a3, c3, rfl⟩ := h9.reads.sub
       have HZL := Lib.hid (show (Z ++ [UInt8.ofNat (j - 1)] ++ rest.take j).length = zl + 1 + j by rw [List.length_append, List.length_append, hQ.out.2.2.1, List.length_take, hQ.out.2.1, Nat.min_eq_left (by omega)]; rfl)
       generalize Z ++ [UInt8.ofNat (j - 1)] ++ rest.take j = Z2 at *
       have H9 := Lib.hid h9
       clear h8 h9 HJ hs8 hw8 hS
       go_wp2_with fail
       exact ⟨⟨m - j, zl + 1 + j, rest.drop j, pre ++ rest.take j, Z2, _, _, c - j, c3, rfl, rfl, Lib.hid ⟨by rw [List.append_assoc, List.take_append_drop]; exact hQ.out.1, by rw [List.length_drop, hQ.out.2.1], HZL.out, HP.out⟩, by omega, by omega, Lib.hid fun w h => (by have h1 := rd_drop (HR.out w h) hQ.out.2.1 (k := j) (by omega); first | exact h1 | (rw [if_neg (by omega)] at h1; exact h1)), H9.out⟩, by show m - j < m; omega⟩
     ·have hjI : ¬ (j : Int) < m := by omega
      obtain ⟨k8, hk8⟩ : ∃ k8, k8 = j - 1 := ⟨_, rfl⟩
      have hs8 : (j : Int) - 1 = (k8 : Int) := by omega
      have hw8 : (k8 : Int) % 256 = k8 := by omega
      have hwi : IntKind.i64.wrap (k8 : Int) = k8 := IntWalk.i64_in _ (by omega)
      have hwu : IntKind.u8.wrap (k8 : Int) = k8 := IntWalk.u8_in _ (by omega)
      have E8 := Lib.hid (show (.int .u8 (k8 : Int) : Value) = bv (UInt8.ofNat (j - 1)) by rw [bv, ← hk8]; congr 1; simp; omega)
      have HP := Lib.hid (hQ.out.2.2.2.lit (b := rest) (n := j) (by omega) (by omega) (by rw [hQ.out.2.1]; omega))
      have HT := Lib.hid (fun w h => rd_take (HR.out w h) (k := j) (by omega))
      have hjc : (j : Int) ≤ c := by omega
      have hjm : (j : Int) ≤ m := by omega
      clear hk8
      go_upto_region 10 with (fail)
      refine wp_region_noPanic ?_
      refine region_till (S := fun _ => True) (k := 9) (by kernel_rfl) ?_
      have hS : (fun _ : World => True) WJ := trivial
      refine till_take0 (i := 0) (oi := ?_) (v := ?_) ?_ (by kernel_rfl) (by kernel_rfl) (by kernel_rfl) (by decide) (fun _ _ _ h => h.elim) (by assumption) (.inl ⟨?_, fun w => ?_⟩) ?_
      rotate_left 2
      ·(simp only [List.getElem?_toArray, List.getElem?_cons_succ, List.getElem?_cons_zero]; rfl)
      ·rfl
      ·(go_simp; try with_reducible rfl)
      simp only [Act.put, List.setIfInBounds_toArray, List.set_cons_zero, List.set_cons_succ]
      refine till_take0 (i := 1) (oi := ?_) (v := ?_) ?_ (by kernel_rfl) (by kernel_rfl) (by kernel_rfl) (by decide) (fun _ _ _ h => h.elim) (by assumption) (.inl ⟨?_, fun w => ?_⟩) ?_
      rotate_left 2
      ·(simp only [List.getElem?_toArray, List.getElem?_cons_succ, List.getElem?_cons_zero]; rfl)
      ·rfl
      ·(go_simp; try with_reducible rfl)
      simp only [Act.put, List.setIfInBounds_toArray, List.set_cons_zero, List.set_cons_succ]
      refine till_take0 (i := 2) (oi := ?_) (v := ?_) ?_ (by kernel_rfl) (by kernel_rfl) (by kernel_rfl) (by decide) (fun _ _ _ h => h.elim) (by assumption) (.inl ⟨?_, fun w => ?_⟩) ?_
      rotate_left 2
      ·(simp only [List.getElem?_toArray, List.getElem?_cons_succ, List.getElem?_cons_zero]; rfl)
      ·rfl
      ·(go_simp; try with_reducible rfl)
      simp only [Act.put, List.setIfInBounds_toArray, List.set_cons_zero, List.set_cons_succ]
      refine till_take0 (i := 3) (oi := ?_) (v := ?_) ?_ (by kernel_rfl) (by kernel_rfl) (by kernel_rfl) (by decide) (fun _ _ _ h => h.elim) (by assumption) (.inl ⟨?_, fun w => ?_⟩) ?_
      rotate_left 2
      ·(simp only [List.getElem?_toArray, List.getElem?_cons_succ, List.getElem?_cons_zero]; rfl)
      ·rfl
      ·(go_simp; try with_reducible rfl)
      simp only [Act.put, List.setIfInBounds_toArray, List.set_cons_zero, List.set_cons_succ]
      refine till_take0 (i := 6) (oi := ?_) (v := ?_) ?_ (by kernel_rfl) (by kernel_rfl) (by kernel_rfl) (by decide) (fun _ _ _ h => h.elim) (by assumption) (.inl ⟨?_, fun w => ?_⟩) ?_
      rotate_left 2
      ·(simp only [List.getElem?_toArray, List.getElem?_cons_succ, List.getElem?_cons_zero]; rfl)
      ·rfl
      ·(go_simp; try with_reducible rfl)
      simp only [Act.put, List.setIfInBounds_toArray, List.set_cons_zero, List.set_cons_succ]
      refine till_take0 (i := 7) (oi := ?_) (v := ?_) ?_ (by kernel_rfl) (by kernel_rfl) (by kernel_rfl) (by decide) (fun _ _ _ h => h.elim) (by assumption) (.inl ⟨?_, fun w => ?_⟩) ?_
      rotate_left 2
      ·(simp only [List.getElem?_toArray, List.getElem?_cons_succ, List.getElem?_cons_zero]; rfl)
      ·rfl
      ·(go_simp; try with_reducible rfl)
      simp only [Act.put, List.setIfInBounds_toArray, List.set_cons_zero, List.set_cons_succ]
      refine till_take0 (i := 8) (oi := ?_) (v := ?_) ?_ (by kernel_rfl) (by kernel_rfl) (by kernel_rfl) (by decide) (fun _ _ _ h => h.elim) (by assumption) (.inl ⟨?_, fun w => ?_⟩) ?_
      rotate_left 2
      ·(simp only [List.getElem?_toArray, List.getElem?_cons_succ, List.getElem?_cons_zero]; rfl)
      ·rfl
      ·(go_simp; try with_reducible rfl)
      simp only [Act.put, List.setIfInBounds_toArray, List.set_cons_zero, List.set_cons_succ]
      refine till_one (i := 4) (by kernel_rfl) ?_
      refine wpOp_step (by rfl) fun K hK => ?_
      have h4 := (HJ.out.lit #[.int .u8 (k8 : Int)] 5 1 rfl (by decide)).drew
      go_simp
      refine hK _ _ ⟨fun e => trivial, ?_⟩
      clear hK K
      have h5 := h4.perm (star_left_comm _ _ _)
      refine till_one (i := 5) (by kernel_rfl) ?_
      refine wpOp_step (by rfl) fun K hK => ?_
      refine step_append_L elemBytes rfl _ _ rfl rfl (stL2' h5) 0 rfl (x := .slice (some ⟨WJ.heap.size, 0, none⟩) 1 1) rfl (m := 1) (news := [.int .u8 (k8 : Int)]) h4.reads (by intro u hu; rw [List.mem_singleton.1 hu]; rfl) (by unfold maxLen; omega) (by omega) fun v7 W7 h70 _ => ?_
      have h7 := stL2 h70
      refine hK _ _ ⟨fun e => trivial, ?_⟩
      clear hK K h70 h5 h4
      refine till_one (i := 9) (by kernel_rfl) ?_
      refine wpOp_step (by rfl) fun K hK => ?_
      refine step_append_L elemBytes rfl _ _ rfl rfl (stL2' h7) 0 rfl (x := .slice (some ⟨b, off, none⟩) j c) rfl (m := j) (news := (rest.take j).map bv) (HT.out _ h7.right.right) (bv_oneCell _) (by unfold maxLen; omega) (by omega) fun v8 W8 h80 _ => ?_
      have h8 := stL2 h80
      refine hK _ _ ⟨fun e => trivial, ?_⟩
      clear hK K h80 h7 hS
      have hS : (fun _ : World => True) W8 := trivial
      refine till_take0 (i := 10) (oi := ?_) (v := ?_) ?_ (by kernel_rfl) (by kernel_rfl) (by kernel_rfl) (by decide) (fun _ _ _ h => h.elim) (by assumption) (.inl ⟨?_, fun w => ?_⟩) ?_
      rotate_left 2
      ·(simp only [List.getElem?_toArray, List.getElem?_cons_succ, List.getElem?_cons_zero]; rfl)
      ·rfl
      ·(go_simp; try with_reducible rfl)
      simp only [Act.put, List.setIfInBounds_toArray, List.set_cons_zero, List.set_cons_succ]
      refine ⟨by kernel_rfl, NoPanic.normal ?_⟩
      have h9 : St w0 W8 (own 5 1 v8 (zl + 1 + j) ((Z ++ [UInt8.ofNat (j - 1)] ++ rest.take j).map bv) * F) := by
       have h6 := (h8.perm (star_left_comm _ _ _)).right
       rw [List.map_append, List.map_append]
       rw [show ([UInt8.ofNat (j - 1)]).map bv = [.int .u8 (k8 : Int)] by rw [E8.out]; rfl]
       exact h6
      obtain ⟨a3, c3, rfl⟩ := h9.reads.sub
      have HZL := Lib.hid (show (Z ++ [UInt8.ofNat (j - 1)] ++ rest.take j).length = zl + 1 + j by rw [List.length_append, List.length_append, hQ.out.2.2.1, List.length_take, hQ.out.2.1, Nat.min_eq_left (by omega)]; rfl)
      generalize Z ++ [UInt8.ofNat (j - 1)] ++ rest.take j = Z2 at *
      have H9 := Lib.hid h9
      clear h8 h9 HJ hs8 hw8 hS
      go_wp2_with fail
      exact ⟨⟨m - j, zl + 1 + j, rest.drop j, pre ++ rest.take j, Z2, _, _, c - j, c3, rfl, rfl, Lib.hid ⟨by rw [List.append_assoc, List.take_append_drop]; exact hQ.out.1, by rw [List.length_drop, hQ.out.2.1], HZL.out, HP.out⟩, by omega, by omega, Lib.hid fun w h => (by have h1 := rd_drop (HR.out w h) hQ.out.2.1 (k := j) (by omega); first | exact h1 | (rw [if_neg (by omega)] at h1; exact h1)), H9.out⟩, by show m - j < m; omega⟩
  ·obtain rfl : m = 0 := by omega
   have HST := Lib.hid hst
   clear hst
   go_wp2_with fail
   go_ret
   have hr : rest = [] := List.length_eq_zero_iff.1 hQ.out.2.1
   have hp := hQ.out.2.2.2 [] [] PbS.nil
   rw [List.append_nil, List.append_nil] at hp
   have hb := hQ.out.1
   rw [hr, List.append_nil] at hb
   refine ⟨_, Z, rfl, by rw [hb]; exact hp, ?_⟩
   rw [hQ.out.2.2.1]
   exact HST.out
end Go.Proofs.YtboflbdniogcdaaGreatDoor
namespace Go.Proofs.YtboflbdniogcdaaGreatDoor
open Go.RowKit Go.Mz
set_option linter.unusedVariables false
set_option linter.unusedSimpArgs false
set_option maxRecDepth 100000
theorem rd_rowB {w : World} {b off n c : Nat} {l : List UInt8} (h : Reads w 1 (.slice (some ⟨b, off, none⟩) n c) n (l.map bv)) {i k : Nat} (hk : i + k ≤ n) : Reads w 1 (.slice (some ⟨b, off + i, none⟩) k (c - i)) k (((l.drop i).take k).map bv) := by
 have := rd_sub h (i := i) (j := i + k) (Nat.le_add_right _ _) hk
 rw [Nat.add_sub_cancel_left, ← List.map_drop, ← List.map_take] at this
 have e2 : (⟨b, off, none⟩ : Addr).add i = ⟨b, off + i, none⟩ := by cases i <;> simp [Addr.add]
 rwa [e2] at this
end Go.Proofs.YtboflbdniogcdaaGreatDoor
