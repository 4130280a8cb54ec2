/-
  Parts of a proof.
-/
import Derived.Test.YtboflbdniogcdaaGreatDoorK21
import Derived.Test.YtboflbdniogcdaaGreatDoorK01
import Derived.Laws.BitsAllLaws
import Derived.Test.YtboflbdniogcdaaGreatDoorK05
namespace Go.Proofs.YtboflbdniogcdaaGreatDoor
open Go.RowKit Go.Mz
set_option linter.unusedVariables false
set_option linter.unusedSimpArgs false
set_option maxRecDepth 100000
theorem bit_form8 (c k : Nat) (hc : c < 256) : bits BinOp.and .u8 ((c : Int) / 2 ^ k) 1 = ((c / 2 ^ k % 2 : Nat) : Int) := by
 have h : c / 2 ^ k < 256 := Nat.lt_of_le_of_lt (Nat.div_le_self _ _) hc
 have e1 : ((c / 2 ^ k : Nat) : Int) = (c : Int) / 2 ^ k := by simp
 rw [← e1, show (1 : Int) = ((1 : Nat) : Int) from rfl, u8_and_nat _ _ h (by decide), Nat.and_one_is_mod]
theorem black_any {w : World} {v : Value} {bs : List UInt8} (hr : Reads w 1 v bs.length (bs.map bv)) (hl : bs.length ≤ 1000000000) {x : Nat} (hx : x < 8 * bs.length) :
  Calls Tryz.prog 91 #[v, .int .i64 (x : Int)] w fun e w' => e = .returned (.bool ((bitV bs false x : Nat) == 1)) ∧ w = w' := by
 obtain ⟨a, cap, rfl⟩ := hr.sub
 have hi : x / 8 < bs.length := by omega
 obtain ⟨b, off, rfl, hc⟩ := hr.at_ hi
 have g1 : (bs.map bv)[x / 8]? = some (bv (bs.getD (x / 8) 0)) := by rw [List.getElem?_map, List.getD_eq_getElem?_getD, List.getElem?_eq_getElem hi]; rfl
 rw [g1] at hc
 simp only [bv] at hc
 have hb : (x : Int) / 8 < bs.length := by omega
 have hc8 : (bs.getD (x / 8) 0).toNat < 256 := UInt8.toNat_lt _
 have E := Lib.hid (show bitV bs false x = (bs.getD (x / 8) 0).toNat / 2 ^ (cond false (x % 8) (7 - x % 8)) % 2 from rfl)
 generalize (bs.getD (x / 8) 0).toNat = c at *
 generalize bitV bs false x = r at *
 generalize bs.length = nl at *
 clear g1 hr
 go_enter Tryz.func91, Tryz.ntmps91
 go_wp2_with fail
 go_ret
 refine ⟨?_, rfl⟩
 have h := bit_form8 c (7 - x % 8) hc8
 have e := E.out
 simp only [cond] at e
 rw [← e] at h
 rw [h]
 have : ((r : Int) == 1) = (r == 1) := by rw [Bool.eq_iff_iff]; simp; omega
 rw [← this]
 rfl
theorem chF_par : ∀ (q : List Nat) (c i : Nat), Bit q → c ≤ 1 → (chF c i q).length % 2 = (c + lastC c q) % 2 := by
 intro q
 induction q with
 | nil => intro c i _ _; simp [chF, lastC]; omega
 | cons x r ih =>
  intro c i hb hc
  have hx : x ≤ 1 := hb x (by simp)
  have hr : Bit r := fun y hy => hb y (by simp [hy])
  have e : lastC c (x :: r) = lastC x r := by unfold lastC; exact List.getLastD_cons ..
  rw [e, chF]
  by_cases h : x = c
  ·subst h; rw [if_pos rfl]; exact ih _ _ hr hx
  ·rw [if_neg h, List.length_cons]
   have := ih x (i + 1) hr hx
   omega
theorem chg_par {q : List Nat} (hb : Bit q) : (chg q).length % 2 = lastC 0 q % 2 := by
 have := chF_par q 0 0 hb (by omega)
 rw [chg]; omega
theorem chg_snoc {q : List Nat} (hb : Bit q) {b : Nat} (hb1 : b ≤ 1) : chg (q ++ [b]) = if (chg q).length % 2 = b then chg q else chg q ++ [q.length] := by
 have hl := lastC_bit hb
 rw [chg_par hb, chg, chF_append, ← chg, Nat.zero_add]
 by_cases h : b = lastC 0 q
 ·rw [if_pos (by omega)]; simp [chF, h]
 ·rw [if_neg (by omega)]; simp [chF, h]
set_option maxHeartbeats 40000000 in
theorem runsOf_any {w0 w : World} {F : SProp} (h : St w0 w F) {bs : List UInt8} {v : Value} (hv : Stb w0 F (fun w => Reads w 1 v bs.length (bs.map bv))) (hl : bs.length ≤ 1000000000) {width : Nat} (hw : width ≤ 32768) (hb : (width + 7) / 8 ≤ bs.length) :
  Calls Tryz.prog 43 #[v, .int .i64 (width : Int)] w fun e w' => ∃ v', e = .returned (.tuple #[v', .int .i64 0]) ∧ St w0 w' (own 3 1 v' (chg ((bitsL false bs).take width)).length ((chg ((bitsL false bs).take width)).map nv) * F) := by
 obtain ⟨a0, c0, rfl⟩ := (hv w h).sub
 have HBL := Lib.hid (fun w (h : St w0 w F) (x : Nat) (hx : x < width) => black_any (hv w h) hl (x := x) (by omega))
 have HG := Lib.hid (fun x (hx : x < width) => (bitsL_get false bs x (by omega)))
 have HBB := Lib.hid (fun k => (fun y hy => bit_bitsL false bs y (List.mem_of_mem_take hy) : Bit ((bitsL false bs).take k)))
 have HBV := Lib.hid (fun x (hx : x < width) => show bitV bs false x ≤ 1 from bit_bitsL false bs _ (List.mem_of_getElem? (bitsL_get false bs x (by omega))))
 have HLN := Lib.hid (fun x (hx : x ≤ width) => show ((bitsL false bs).take x).length = x by rw [List.length_take, length_bitsL]; omega)
 have hbI : ¬ (bs.length : Int) < ((width : Int) + 7) / 8 := by omega
 generalize bitsL false bs = p at *
 obtain ⟨nl, hnl⟩ : ∃ nl, bs.length = nl := ⟨_, rfl⟩
 rw [hnl] at hl hbI HBL ⊢
 have H := Lib.hid h
 have HV := Lib.hid hv
 clear hv h hb hnl
 have T := elemI
 go_enter Tryz.func43, Tryz.ntmps43
 go_wp2_with fail
 have h1 := H.out.lit #[] 3 0 rfl (by decide)
 have H1 := Lib.hid (show St w0 _ (own 3 1 (.slice (some ⟨w.heap.size, 0, none⟩) 0 0) 0 [] * F) from h1)
 clear h1
 generalize w.heap.size = g0 at *
 go_loopw [6, 24] (fun vo vi wr => ∃ (k : Nat) (ao : Option Addr) (co : Nat) (Z : List Nat), k ≤ width ∧ vi = .int .i64 k ∧ vo = .slice ao Z.length co ∧ RowKit.Hid (Z = chg (p.take k)) ∧ Z.length ≤ k ∧ St w0 wr (own 3 1 (.slice ao Z.length co) Z.length (Z.map nv) * F)) (fun _ vi _ => width - (intOf vi).toNat)
 case atStart => exact ⟨0, _, 0, [], Nat.zero_le _, rfl, rfl, Lib.hid rfl, Nat.zero_le _, H1.out⟩
 case round =>
  clear H1 H
  obtain ⟨k, ao, co, Z, hk, rfl, rfl, hZ, hZl, hst⟩ := hrel
  by_cases hkn : k < width
  ·have hkI : (k : Int) < width := by omega
   have HC := Lib.hid (HBL.out _ hst.right k hkn)
   have hx := HG.out k hkn
   have hx1 := HBV.out k hkn
   have hsn := chg_snoc (HBB.out k) hx1
   rw [← (show p.take (k + 1) = p.take k ++ [_] by rw [List.take_add_one, hx]; rfl), ← hZ.out, HLN.out k hk] at hsn
   have HSN := Lib.hid hsn
   have HST := Lib.hid hst
   clear hx hsn hst
   generalize bitV bs false k = d at *
   obtain ⟨zl, hzl⟩ : ∃ zl, Z.length = zl := ⟨_, rfl⟩
   rw [hzl] at HSN HST hZl ⊢
   have HZL := Lib.hid hzl
   clear hzl
   by_cases hd : zl % 2 = d
   ·rcases (show d = 0 ∨ d = 1 by omega) with rfl | rfl
    ·have HS2 := Lib.hid (show chg (p.take (k + 1)) = Z by have := HSN.out; rwa [if_pos hd] at this)
     have hz : (zl : Int) % 2 = 0 := by omega
     clear hd
     go_wp2_with (go_at_call 91; refine HC.out.mono ?_; rintro e w2 ⟨rfl, rfl⟩)
     exact ⟨⟨k + 1, ao, co, Z, by omega, by go_num, by rw [HZL.out], Lib.hid HS2.out.symm, by rw [HZL.out]; omega, by rw [HZL.out]; exact HST.out⟩, by simp [intOf]; omega⟩
    ·have HS2 := Lib.hid (show chg (p.take (k + 1)) = Z by have := HSN.out; rwa [if_pos hd] at this)
     have hz : (zl : Int) % 2 = 1 := by omega
     clear hd
     go_wp2_with (go_at_call 91; refine HC.out.mono ?_; rintro e w2 ⟨rfl, rfl⟩)
     exact ⟨⟨k + 1, ao, co, Z, by omega, by go_num, by rw [HZL.out], Lib.hid HS2.out.symm, by rw [HZL.out]; omega, by rw [HZL.out]; exact HST.out⟩, by simp [intOf]; omega⟩
   ·rcases (show d = 0 ∨ d = 1 by omega) with rfl | rfl
    ·have HS2 := Lib.hid (show chg (p.take (k + 1)) = Z ++ [k] by have := HSN.out; rwa [if_neg hd] at this)
     have hz : (zl : Int) % 2 = 1 := by omega
     clear hd
     go_upto_region 10 with (go_at_call 91; refine HC.out.mono ?_; rintro e w2 ⟨rfl, rfl⟩)
     go_wp2_with (at_builtin; apply stop)
     refine on (wpList_append_sep T rfl _ _ rfl rfl (HST.out.drop_alloc (.cells #[.int .i64 (k : Int)] 3)) rfl (reads_nat1 wr k) (nv_oneCell [k]) (by unfold maxLen; omega) (by omega) ?_)
     intro v3 w3 h3 _
     have h4 : St w0 w3 (own 3 1 v3 (Z ++ [k]).length ((Z ++ [k]).map nv) * F) := by
      rw [List.length_append, List.map_append, HZL.out]
      exact h3
     have hl2 : (Z ++ [k]).length = zl + 1 := by rw [List.length_append, HZL.out]; rfl
     generalize Z ++ [k] = Z2 at *
     obtain ⟨a3, c3, rfl⟩ := h4.reads.sub
     rw [hl2] at h4
     have H4 := Lib.hid h4
     have HL2 := Lib.hid hl2
     clear h3 h4 hl2
     go_wp2_with fail
     exact ⟨⟨k + 1, a3, c3, Z2, by omega, by go_num, by rw [HL2.out], Lib.hid HS2.out.symm, by rw [HL2.out]; omega, by rw [HL2.out]; exact H4.out⟩, by simp [intOf]; omega⟩
    ·have HS2 := Lib.hid (show chg (p.take (k + 1)) = Z ++ [k] by have := HSN.out; rwa [if_neg hd] at this)
     have hz : (zl : Int) % 2 = 0 := by omega
     clear hd
     go_upto_region 10 with (go_at_call 91; refine HC.out.mono ?_; rintro e w2 ⟨rfl, rfl⟩)
     go_wp2_with (at_builtin; apply stop)
     refine on (wpList_append_sep T rfl _ _ rfl rfl (HST.out.drop_alloc (.cells #[.int .i64 (k : Int)] 3)) rfl (reads_nat1 wr k) (nv_oneCell [k]) (by unfold maxLen; omega) (by omega) ?_)
     intro v3 w3 h3 _
     have h4 : St w0 w3 (own 3 1 v3 (Z ++ [k]).length ((Z ++ [k]).map nv) * F) := by
      rw [List.length_append, List.map_append, HZL.out]
      exact h3
     have hl2 : (Z ++ [k]).length = zl + 1 := by rw [List.length_append, HZL.out]; rfl
     generalize Z ++ [k] = Z2 at *
     obtain ⟨a3, c3, rfl⟩ := h4.reads.sub
     rw [hl2] at h4
     have H4 := Lib.hid h4
     have HL2 := Lib.hid hl2
     clear h3 h4 hl2
     go_wp2_with fail
     exact ⟨⟨k + 1, a3, c3, Z2, by omega, by go_num, by rw [HL2.out], Lib.hid HS2.out.symm, by rw [HL2.out]; omega, by rw [HL2.out]; exact H4.out⟩, by simp [intOf]; omega⟩
  ·obtain rfl : k = width := by omega
   have HST := Lib.hid hst
   clear hst
   go_wp2_with fail
   go_ret2
   refine ⟨_, rfl, ?_⟩
   rw [← hZ.out]
   exact HST.out
end Go.Proofs.YtboflbdniogcdaaGreatDoor
namespace Go.Proofs.YtboflbdniogcdaaGreatDoor
open Go.RowKit Go.Mz
set_option linter.unusedVariables false
set_option linter.unusedSimpArgs false
set_option maxRecDepth 100000
def cnt (l : List Nat) (x : Nat) : Nat := (l.filter fun y => decide (y ≤ x)).length
end Go.Proofs.YtboflbdniogcdaaGreatDoor
