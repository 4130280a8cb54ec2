/-
  Parts of a proof.
-/
import Derived.Test.YtboflbdniogcdaaGreatDoorK14
import Derived.Laws.Cover3
import Derived.Test.YtboflbdniogcdaaGreatDoorK05
namespace Go.Proofs.YtboflbdniogcdaaGreatDoor
open Go.RowKit Go.Mz
set_option linter.unusedVariables false
set_option linter.unusedSimpArgs false
set_option maxRecDepth 100000
theorem svB_oneCell (l : List (List UInt8)) : ∀ u ∈ l.map svB, u.oneCell' = true := by
 intro u hu
 obtain ⟨c, _, rfl⟩ := List.mem_map.1 hu
 rfl
set_option maxHeartbeats 4000000 in
theorem clone_anyS {w0 w : World} {F : SProp} (h : St w0 w F) (xs : List (List UInt8)) (hl : xs.length ≤ 1000000) {v : Value} (hv : Stb w0 F (fun w => Reads w 1 v xs.length (xs.map svB))) :
  Calls Tryz.prog 176 #[v] w fun e w' => ∃ v', e = .returned v' ∧ St w0 w' (own 9 1 v' xs.length (xs.map svB) * F) := by
 have T := elemStrs
 have H := Lib.hid h
 have hr := hv w h
 clear h
 obtain ⟨hxl, ⟨rfl, hn⟩ | ⟨x, cap, rfl, h1, h2, h3⟩⟩ := hr
 ·have hx0 : xs = [] := List.eq_nil_of_length_eq_zero hn
  subst hx0
  have hq : (binOp .eql 38 (.slice none 0 0) (.slice none 0 0)).run Tryz.prog w = .ok (.bool true) w := by kernel_rfl
  go_enter Tryz.func176, Tryz.ntmps176
  go_wp2_with fail
  go_ret
  exact ⟨_, rfl, St.own_nil _ _ H.out⟩
 ·have HV := Lib.hid hv; clear hv hxl h1 h2 h3
  have hq : (binOp .eql 38 (.slice (some x) xs.length cap) (.slice none 0 0)).run Tryz.prog w = .ok (.bool false) w := by
   have := run_equal_slice_nil (P := Tryz.prog) w 38 9 (some x) xs.length cap Tryz.underlying38
   simp [binOp, this]
  go_enter Tryz.func176, Tryz.ntmps176
  go_wp2_with (at_builtin; apply stop)
  refine on (wpList_append_sep T rfl _ _ rfl rfl (St.own_blk (e := 9) (size := 1) (n := 0) (cap := 0) (xs := []) (H.out.alloc (.cells #[] 9)) (Nat.le_refl _) (Nat.zero_le _) rfl rfl) rfl (HV.out _ (H.out.drop_alloc _)) (svB_oneCell xs) ?_ ?_ ?_)
  ·unfold maxLen; omega
  ·omega
  intro v' w3 h4 _
  simp only [Nat.zero_add, List.nil_append] at h4
  obtain ⟨a', cap', rfl⟩ := h4.reads.sub
  have H4 := Lib.hid h4; clear h4
  go_wp2_with fail
  go_ret
  exact ⟨_, rfl, H4.out⟩
end Go.Proofs.YtboflbdniogcdaaGreatDoor
namespace Go.Proofs.YtboflbdniogcdaaGreatDoor
open Go.RowKit Go.Mz
set_option linter.unusedVariables false
set_option linter.unusedSimpArgs false
set_option maxRecDepth 100000
theorem elemI : ElemT Tryz.prog 79 3 1 8 (iv 0) :=
 ⟨Tryz.underlying79, info_parts (by kernel_rfl), rfl, by decide⟩
theorem iv_oneCell (l : List Int) : ∀ u ∈ l.map iv, u.oneCell' = true := by
 intro u hu
 obtain ⟨c, _, rfl⟩ := List.mem_map.1 hu
 rfl
set_option maxHeartbeats 4000000 in
theorem clone_anyI {w0 w : World} {F : SProp} (h : St w0 w F) (xs : List Int) (hl : xs.length ≤ 1000000) {v : Value} (hv : Stb w0 F (fun w => Reads w 1 v xs.length (xs.map iv))) :
  Calls Tryz.prog 175 #[v] w fun e w' => ∃ v', e = .returned v' ∧ St w0 w' (own 3 1 v' xs.length (xs.map iv) * F) := by
 have T := elemI
 have H := Lib.hid h
 have hr := hv w h
 clear h
 obtain ⟨hxl, ⟨rfl, hn⟩ | ⟨x, cap, rfl, h1, h2, h3⟩⟩ := hr
 ·have hx0 : xs = [] := List.eq_nil_of_length_eq_zero hn
  subst hx0
  have hq : (binOp .eql 79 (.slice none 0 0) (.slice none 0 0)).run Tryz.prog w = .ok (.bool true) w := by kernel_rfl
  go_enter Tryz.func175, Tryz.ntmps175
  go_wp2_with fail
  go_ret
  exact ⟨_, rfl, St.own_nil _ _ H.out⟩
 ·have HV := Lib.hid hv; clear hv hxl h1 h2 h3
  have hq : (binOp .eql 79 (.slice (some x) xs.length cap) (.slice none 0 0)).run Tryz.prog w = .ok (.bool false) w := by
   have := run_equal_slice_nil (P := Tryz.prog) w 79 3 (some x) xs.length cap Tryz.underlying79
   simp [binOp, this]
  go_enter Tryz.func175, Tryz.ntmps175
  go_wp2_with (at_builtin; apply stop)
  refine on (wpList_append_sep T rfl _ _ rfl rfl (St.own_blk (e := 3) (size := 1) (n := 0) (cap := 0) (xs := []) (H.out.alloc (.cells #[] 3)) (Nat.le_refl _) (Nat.zero_le _) rfl rfl) rfl (HV.out _ (H.out.drop_alloc _)) (iv_oneCell xs) ?_ ?_ ?_)
  ·unfold maxLen; omega
  ·omega
  intro v' w3 h4 _
  simp only [Nat.zero_add, List.nil_append] at h4
  obtain ⟨a', cap', rfl⟩ := h4.reads.sub
  have H4 := Lib.hid h4; clear h4
  go_wp2_with fail
  go_ret
  exact ⟨_, rfl, H4.out⟩
end Go.Proofs.YtboflbdniogcdaaGreatDoor
namespace Go.Proofs.YtboflbdniogcdaaGreatDoor
open Go.RowKit Go.Mz
set_option linter.unusedVariables false
set_option linter.unusedSimpArgs false
set_option maxRecDepth 100000
set_option maxHeartbeats 40000000 in
theorem lay_anyI {w0 w : World} {F : SProp} {B : Nat} {vn vm vw : Value} {N : List Nd} (h : St w0 w (blk B (.cells #[vn, vm, vw] 250) * (own 245 3 vn N.length (flatN N) * F))) (hN : NOk N) (hl : N.length ≤ 1000000)
  (s : List UInt8) (hs : s.length ≤ 1000000) (mean : Nat) (hm : mean ≤ 1000000) :
  Calls Tryz.prog 177 #[.pointer (some ⟨B, 0, none⟩), .string ⟨s.toArray⟩, .int .i64 mean] w fun e w' => ∃ vn', e = .returned (.int .i64 (lay N s mean).2) ∧
   St w0 w' (blk B (.cells #[vn', vm, vw] 250) * (own 245 3 vn' (lay N s mean).1.length (flatN (lay N s mean).1) * F)) ∧ NOk (lay N s mean).1 ∧ (lay N s mean).1.length ≤ N.length + s.length := by
 have H := Lib.hid h; clear h
 have T := elemNodes
 by_cases hs0 : s = []
 ·subst hs0
  have HR := Lib.hid (show lay N [] mean = (N, 0) by rw [lay, if_pos rfl])
  go_enter Tryz.func177, Tryz.ntmps177
  go_wp2_with fail
  go_ret
  rw [HR.out]
  exact ⟨vn, rfl, H.out, hN, by simp⟩
 have HR := Lib.hid (show lay N s mean = layS mean N 0 s by rw [lay, if_neg hs0])
 have hne : ¬ (ByteArray.mk s.toArray).toList = [] := by rw [ByteArray.toList_eq]; exact hs0
 have hne2 : (ByteArray.mk s.toArray).toList.isEmpty = false := by
  cases hq : (ByteArray.mk s.toArray).toList with
  | nil => exact absurd hq hne
  | cons _ _ => rfl
 have hsz : (ByteArray.mk s.toArray).size = s.length := rfl
 have hat : ∀ (k : Nat) (c : UInt8), s[k]? = some c → ∀ hm, (ByteArray.mk s.toArray)[k]'hm = c := fun k c h hm => ba_get h hm
 have HAT := Lib.hid hat; clear hat
 generalize hsb : ByteArray.mk s.toArray = sb at *
 have HSB := Lib.hid hsb; clear hsb
 generalize hRR : layS mean N 0 s = RR at *
 have HRR := Lib.hid hRR; clear hRR
 go_enter Tryz.func177, Tryz.ntmps177
 go_wp2_with fail
 go_loopw [14, 7] (fun vi va wr => ∃ (k : Nat) (N1 : List Nd) (a : Nat) (vn1 : Value), k ≤ s.length ∧ vi = .int .i64 k ∧ va = .int .i64 a ∧ NOk N1 ∧ a < N1.length ∧ N1.length ≤ N.length + k ∧ layS mean N1 a (s.drop k) = RR ∧
  St w0 wr (blk B (.cells #[vn1, vm, vw] 250) * (own 245 3 vn1 N1.length (flatN N1) * F))) (fun vi _ _ => s.length - (intOf vi).toNat)
 case atStart => exact ⟨0, N, 0, vn, by omega, rfl, rfl, hN, hN.1, by omega, HRR.out, H.out⟩
 case round =>
  clear H HRR
  obtain ⟨k, N1, a, vn1, hk, rfl, rfl, hN1, ha, hlen, hlay, hst⟩ := hrel
  obtain ⟨an, cn, rfl⟩ := hst.right.reads.sub
  obtain ⟨gn, rfl⟩ := own_at hst.right (by omega)
  obtain ⟨d, hd⟩ : ∃ d, N1[a]? = some d := ⟨N1[a], List.getElem?_eq_getElem ha⟩
  have c0 := hst.cell 0 rfl
  have m0 := hst.right.own_cellS (flatN_mean hd)
  have x0 := hst.right.own_cellS (flatN_next hd (c := 0) (by omega))
  rw [Nat.add_zero] at x0
  have x1 := hst.right.own_cellS (flatN_next hd (c := 1) (by omega))
  have HST := Lib.hid hst; clear hst
  have HN1 := Lib.hid hN1; clear hN1
  have HD := Lib.hid hd; clear hd
  have ha1 : (a : Int) < N1.length := by omega
  by_cases hkn : k < s.length
  ·have hx := List.getElem?_eq_getElem hkn
   have hdrop : s.drop k = s[k] :: s.drop (k + 1) := List.drop_eq_getElem_cons hkn
   generalize s[k] = ch at *
   rw [hdrop] at hlay
   clear hdrop
   have hgx := HAT.out k ch hx
   clear hx
   have hk1 : (k : Int) < s.length := by omega
   by_cases hbad : ch ≠ 48 ∧ ch ≠ 49
   ·have HR2 := Lib.hid (show RR = (N1, 3) by rw [← hlay, layS_cons_bad hbad])
    clear hlay
    have hn48 : ch.toNat ≠ 48 := fun e => hbad.1 (UInt8.toNat_inj.1 e)
    have hn49 : ch.toNat ≠ 49 := fun e => hbad.2 (UInt8.toNat_inj.1 e)
    obtain ⟨z, hz, hz0, hz1⟩ : ∃ z : Int, wrap64 (wrap64 (ch.toNat : Int) - 48) = z ∧ ¬ z = 0 ∧ ¬ z = 1 := by
     have := UInt8.toNat_lt ch
     have e : wrap64 (ch.toNat : Int) = ch.toNat := by rw [wrap64]; omega
     refine ⟨(ch.toNat : Int) - 48, by rw [e, wrap64]; omega, by omega, by omega⟩
    have hz2 : (z != 0) = true := by rw [bne_iff_ne]; exact hz0
    have hz3 : (z != 1) = true := by rw [bne_iff_ne]; exact hz1
    clear hbad hn48 hn49 hz0 hz1
    clear m0 x0 x1
    go_wp2_with fail
    go_ret
    rw [HR.out, HR2.out]
    first | exact ⟨rfl, ⟨_, HST.out⟩, HN1.out, by simp only; omega⟩ | exact ⟨_, rfl, HST.out, HN1.out, by simp only; omega⟩
   ·have hch : ch = 48 ∧ (0 : Nat) = 0 ∨ ch = 49 ∧ (1 : Nat) = 1 := by
     by_cases e : ch = 48
     ·exact .inl ⟨e, rfl⟩
     ·by_cases e' : ch = 49
      ·exact .inr ⟨e', rfl⟩
      ·exact absurd ⟨e, e'⟩ hbad
    have w1 : wrap64 48 = 48 := by unfold wrap64; omega
    have w2 : wrap64 49 = 49 := by unfold wrap64; omega
    have w3 : wrap64 0 = 0 := by unfold wrap64; omega
    have w4 : wrap64 1 = 1 := by unfold wrap64; omega
    by_cases hmean : 0 ≤ d.mean
    ·have HR2 := Lib.hid (show RR = (N1, 14) by rw [← hlay, layS_cons_twice HD.out (by rcases hch with h | h; exact .inl h.1; exact .inr h.1) hmean])
     clear hlay
     rcases hch with ⟨hc, _⟩ | ⟨hc, _⟩
     ·have hcn : ch.toNat = 48 := by rw [hc]; rfl
      clear hc hbad x0 x1
      go_wp2_with fail
      go_ret
      rw [HR.out, HR2.out]
      first | exact ⟨rfl, ⟨_, HST.out⟩, HN1.out, by simp only; omega⟩ | exact ⟨_, rfl, HST.out, HN1.out, by simp only; omega⟩
     ·have hcn : ch.toNat = 49 := by rw [hc]; rfl
      clear hc hbad x0 x1
      go_wp2_with fail
      go_ret
      rw [HR.out, HR2.out]
      first | exact ⟨rfl, ⟨_, HST.out⟩, HN1.out, by simp only; omega⟩ | exact ⟨_, rfl, HST.out, HN1.out, by simp only; omega⟩
    ·have hmean' : d.mean < 0 := by omega
     rcases hch with ⟨hc, _⟩ | ⟨hc, _⟩
     ·have hcn : ch.toNat = 48 := by rw [hc]; rfl
      by_cases hnx : d.nx 0 = 0
      ·have hlay2 := hlay
       rw [layS_cons_new HD.out (.inl ⟨hc, rfl⟩) hmean hnx] at hlay2
       have HL2 := Lib.hid hlay2; clear hlay hlay2
       have hnk := HN1.out.more HD.out 0
       have hx00 : (d.nx 0 : Int) = 0 := by omega
       clear hc hbad x1
       rw [hx00] at x0
       go_wp2_with (at_builtin; apply stop)
       have hA := HST.out.alloc (.cells #[.int .i64 0, .int .i64 0, .int .i64 (-1)] 245)
       have hA1 : St w0 _ (own 245 3 (.slice (some ⟨wr.heap.size, 0, none⟩) 1 1) 1 (ndV nd0) * _) := hA.own_blk (Nat.le_refl _) (by unfold maxLen; omega) rfl rfl
       refine on (wpList_append_sep T rfl _ _ rfl rfl (hA1.right.perm (star_left_comm _ _ _)) rfl hA1.reads (by intro u hu; simp [ndV, nd0] at hu; rcases hu with rfl | rfl | rfl <;> rfl) ?_ ?_ ?_)
       ·unfold maxLen; omega
       ·omega
       intro v5 w5 h5 _
       rw [← flatN_snoc] at h5
       obtain ⟨a5, c5, rfl⟩ := h5.reads.sub
       have h5 := h5.perm (star_left_comm _ _ _)
       have f5 := h5.free 0
       have e5 := h5.cell 0 rfl
       have h6 := h5.set 0 (.slice a5 (N1.length + 1 : Nat) c5)
       have H6 := Lib.hid h6; clear h6 h5 hA hA1 c0 m0 x0
       go_upto_region 14 with (fail)
       generalize w5.setCell ⟨B, 0, none⟩ (.slice a5 (N1.length + 1 : Nat) c5) = W6 at *
       have h7 : St w0 W6 (blk B (.cells #[.slice a5 (N1.length + 1 : Nat) c5, vm, vw] 250) * (own 245 3 (.slice a5 (N1.length + 1 : Nat) c5) (N1.length + 1) (flatN (N1 ++ [nd0])) * _)) := H6.out
       clear H6
       obtain ⟨g5, rfl⟩ := own_at h7.right (by omega)
       have hd2 : (N1 ++ [nd0])[a]? = some d := by rw [List.getElem?_append_left (by omega)]; exact HD.out
       have c0 := h7.cell 0 rfl
       have hneg : ¬ g5 = B := h7.own_ne
       have hneg' : ¬ B = g5 := fun e => hneg e.symm
       have x0 := h7.right.own_cellS (flatN_next hd2 (c := 0) (by omega))
       have y0 := h7.right.own_free (a * 3 + 0)
       rw [hx00] at x0
       have h8 := (h7.perm (star_left_comm _ _ _)).own_setS (a * 3 + 0) (.int .i64 (N1.length : Int))
       rw [flatN_setNext hd2 (by omega)] at h8
       have h8 := h8.perm (star_left_comm _ _ _)
       have HST8 := Lib.hid h8; clear h8 h7
       have HNK := Lib.hid hnk; clear hnk
       have HD2 := Lib.hid hd2; clear hd2
       have hs2 : IntKind.i64.wrap ((N1.length : Int) + 1 - 1) = N1.length := by rw [IntWalk.i64_in _ (by omega)]; omega
       have hpos : (0 : Int) ≤ a := by omega
       have ha2 : (a : Int) < (N1.length : Int) + 1 := by omega
       try rw [Nat.add_zero] at x0
       try rw [Nat.add_zero] at y0
       go_region
       go_wp2_with fail
       refine ⟨⟨k + 1, (N1 ++ [nd0]).set a (d.put 0 N1.length), N1.length, .slice (some ⟨g5, 0, none⟩) (N1.length + 1 : Nat) c5, by omega, by go_num, rfl, HNK.out, by rw [List.length_set, List.length_append, List.length_singleton]; omega, by rw [List.length_set, List.length_append, List.length_singleton]; omega, HL2.out, ?_⟩, by simp [intOf]; omega⟩
       rw [List.length_set, List.length_append, List.length_singleton]
       exact HST8.out.drew
      ·have hlay2 := hlay
       rw [layS_cons_old HD.out (.inl ⟨hc, rfl⟩) hmean hnx] at hlay2
       have HL2 := Lib.hid hlay2; clear hlay hlay2
       have hlt := HN1.out.nx HD.out 0
       generalize d.nx 0 = nx at *
       have hnx1 : ¬ (nx : Int) = 0 := by omega
       clear hc hbad x1
       go_wp2_with fail
       exact ⟨⟨k + 1, N1, nx, _, by omega, by go_num, rfl, HN1.out, hlt, by omega, HL2.out, HST.out⟩, by simp [intOf]; omega⟩
     ·have hcn : ch.toNat = 49 := by rw [hc]; rfl
      by_cases hnx : d.nx 1 = 0
      ·have hlay2 := hlay
       rw [layS_cons_new HD.out (.inr ⟨hc, rfl⟩) hmean hnx] at hlay2
       have HL2 := Lib.hid hlay2; clear hlay hlay2
       have hnk := HN1.out.more HD.out 1
       have hx10 : (d.nx 1 : Int) = 0 := by omega
       clear hc hbad x0
       rw [hx10] at x1
       go_wp2_with (at_builtin; apply stop)
       have hA := HST.out.alloc (.cells #[.int .i64 0, .int .i64 0, .int .i64 (-1)] 245)
       have hA1 : St w0 _ (own 245 3 (.slice (some ⟨wr.heap.size, 0, none⟩) 1 1) 1 (ndV nd0) * _) := hA.own_blk (Nat.le_refl _) (by unfold maxLen; omega) rfl rfl
       refine on (wpList_append_sep T rfl _ _ rfl rfl (hA1.right.perm (star_left_comm _ _ _)) rfl hA1.reads (by intro u hu; simp [ndV, nd0] at hu; rcases hu with rfl | rfl | rfl <;> rfl) ?_ ?_ ?_)
       ·unfold maxLen; omega
       ·omega
       intro v5 w5 h5 _
       rw [← flatN_snoc] at h5
       obtain ⟨a5, c5, rfl⟩ := h5.reads.sub
       have h5 := h5.perm (star_left_comm _ _ _)
       have f5 := h5.free 0
       have e5 := h5.cell 0 rfl
       have h6 := h5.set 0 (.slice a5 (N1.length + 1 : Nat) c5)
       have H6 := Lib.hid h6; clear h6 h5 hA hA1 c0 m0 x1
       go_upto_region 14 with (fail)
       generalize w5.setCell ⟨B, 0, none⟩ (.slice a5 (N1.length + 1 : Nat) c5) = W6 at *
       have h7 : St w0 W6 (blk B (.cells #[.slice a5 (N1.length + 1 : Nat) c5, vm, vw] 250) * (own 245 3 (.slice a5 (N1.length + 1 : Nat) c5) (N1.length + 1) (flatN (N1 ++ [nd0])) * _)) := H6.out
       clear H6
       obtain ⟨g5, rfl⟩ := own_at h7.right (by omega)
       have hd2 : (N1 ++ [nd0])[a]? = some d := by rw [List.getElem?_append_left (by omega)]; exact HD.out
       have c0 := h7.cell 0 rfl
       have hneg : ¬ g5 = B := h7.own_ne
       have hneg' : ¬ B = g5 := fun e => hneg e.symm
       have x1 := h7.right.own_cellS (flatN_next hd2 (c := 1) (by omega))
       have y1 := h7.right.own_free (a * 3 + 1)
       rw [hx10] at x1
       have h8 := (h7.perm (star_left_comm _ _ _)).own_setS (a * 3 + 1) (.int .i64 (N1.length : Int))
       rw [flatN_setNext hd2 (by omega)] at h8
       have h8 := h8.perm (star_left_comm _ _ _)
       have HST8 := Lib.hid h8; clear h8 h7
       have HNK := Lib.hid hnk; clear hnk
       have HD2 := Lib.hid hd2; clear hd2
       have hs2 : IntKind.i64.wrap ((N1.length : Int) + 1 - 1) = N1.length := by rw [IntWalk.i64_in _ (by omega)]; omega
       have hpos : (0 : Int) ≤ a := by omega
       have ha2 : (a : Int) < (N1.length : Int) + 1 := by omega
       try rw [Nat.add_zero] at x1
       try rw [Nat.add_zero] at y1
       go_region
       go_wp2_with fail
       refine ⟨⟨k + 1, (N1 ++ [nd0]).set a (d.put 1 N1.length), N1.length, .slice (some ⟨g5, 0, none⟩) (N1.length + 1 : Nat) c5, by omega, by go_num, rfl, HNK.out, by rw [List.length_set, List.length_append, List.length_singleton]; omega, by rw [List.length_set, List.length_append, List.length_singleton]; omega, HL2.out, ?_⟩, by simp [intOf]; omega⟩
       rw [List.length_set, List.length_append, List.length_singleton]
       exact HST8.out.drew
      ·have hlay2 := hlay
       rw [layS_cons_old HD.out (.inr ⟨hc, rfl⟩) hmean hnx] at hlay2
       have HL2 := Lib.hid hlay2; clear hlay hlay2
       have hlt := HN1.out.nx HD.out 1
       generalize d.nx 1 = nx at *
       have hnx1 : ¬ (nx : Int) = 0 := by omega
       clear hc hbad x0
       go_wp2_with fail
       exact ⟨⟨k + 1, N1, nx, _, by omega, by go_num, rfl, HN1.out, hlt, by omega, HL2.out, HST.out⟩, by simp [intOf]; omega⟩
  ·obtain rfl : k = s.length := by omega
   rw [List.drop_length] at hlay
   have hk1 : ¬ (s.length : Int) < s.length := by omega
   by_cases hmean : 0 ≤ d.mean
   ·have HR2 := Lib.hid (show RR = (N1, 14) by rw [← hlay, layS_nil_bad HD.out (.inl hmean)])
    clear hlay x0 x1
    go_wp2_with fail
    go_ret
    rw [HR.out, HR2.out]
    first | exact ⟨rfl, ⟨_, HST.out⟩, HN1.out, by simp only; omega⟩ | exact ⟨_, rfl, HST.out, HN1.out, by simp only; omega⟩
   ·have hmean' : d.mean < 0 := by omega
    have hx0 : d.nx 0 = d.n0 := rfl
    have hx1 : d.nx 1 = d.n1 := rfl
    rw [hx0] at x0
    rw [hx1] at x1
    clear hx0 hx1
    by_cases hz : d.n0 = 0 ∧ d.n1 = 0
    ·have HR2 := Lib.hid (show RR = (N1.set a { d with mean := mean }, 0) by rw [← hlay, layS_nil_ok HD.out hmean hz.1 hz.2])
     have hnm := HN1.out.mean HD.out mean
     have f0 := HST.out.right.own_free (a * 3 + 2)
     have h6 := (HST.out.perm (star_left_comm _ _ _)).own_setS (a * 3 + 2) (.int .i64 mean)
     rw [flatN_setMean HD.out] at h6
     have h6 := h6.perm (star_left_comm _ _ _)
     have H6 := Lib.hid h6; clear h6 hlay
     rw [hz.1] at x0
     rw [hz.2] at x1
     have heq : (Op.equalIn 10000 131 (.agg #[.int .i64 0, .int .i64 0]) (.agg #[.int .i64 0, .int .i64 0])).run Tryz.prog wr = .ok true wr := eq_two (p := 0) (q := 0) (by omega) (by omega) wr
     go_wp2_with fail
     go_ret
     rw [HR.out, HR2.out]
     rw [List.length_set] at *
     refine ⟨rfl, ⟨_, H6.out⟩, hnm, ?_⟩
     omega
    ·have HR2 := Lib.hid (show RR = (N1, 14) by rw [← hlay, layS_nil_bad HD.out (.inr (by omega))])
     clear hlay
     have hb0 := HN1.out.nx HD.out 0
     have hb1 := HN1.out.nx HD.out 1
     rw [show d.nx 0 = d.n0 from rfl] at hb0
     rw [show d.nx 1 = d.n1 from rfl] at hb1
     have heq : (Op.equalIn 10000 131 (.agg #[.int .i64 d.n0, .int .i64 d.n1]) (.agg #[.int .i64 0, .int .i64 0])).run Tryz.prog wr = .ok false wr := by
      rw [eq_two (by omega) (by omega), decide_eq_false hz]
     generalize d.n0 = p0 at *
     generalize d.n1 = p1 at *
     clear hz
     go_wp2_with fail
     go_ret
     rw [HR.out, HR2.out]
     first | exact ⟨rfl, ⟨_, HST.out⟩, HN1.out, by simp only; omega⟩ | exact ⟨_, rfl, HST.out, HN1.out, by simp only; omega⟩
end Go.Proofs.YtboflbdniogcdaaGreatDoor
namespace Go.Proofs.YtboflbdniogcdaaGreatDoor
open Go.RowKit Go.Mz
set_option linter.unusedVariables false
set_option linter.unusedSimpArgs false
set_option maxRecDepth 100000
def bookI (B : Nat) (N : List Nd) (ms : List Int) (ws : List (List UInt8)) : SProp := sEx fun x : Value × Value × Value =>
 blk B (.cells #[x.1, x.2.1, x.2.2] 250) * (own 245 3 x.1 N.length (flatN N) * (own 3 1 x.2.1 ms.length (ms.map iv) * own 9 1 x.2.2 ws.length (ws.map svB)))
set_option maxHeartbeats 40000000 in
theorem new_anyI {w0 w : World} {F : SProp} (h : St w0 w F) (ws : List (List UInt8)) (ms : List Int) (hlen : ms.length = ws.length) (hl : ws.length ≤ 900) (hsz : ∀ (i : Nat) (t : List UInt8), ws[i]? = some t → t.length ≤ 1000) {vw vm : Value}
  (hvw : Stb w0 F (fun w => Reads w 1 vw ws.length (ws.map svB))) (hvm : Stb w0 F (fun w => Reads w 1 vm ms.length (ms.map iv))) {N : List Nd} {er : Nat} (hR : layAll [nd0] 0 ws = (N, er)) :
  Calls Tryz.prog 138 #[vw, vm] w fun e w' => (er = 0 → ∃ B, e = .returned (.tuple #[.pointer (some ⟨B, 0, none⟩), .int .i64 0]) ∧ St w0 w' (bookI B N ms ws * F) ∧ NOk N) ∧
   (er ≠ 0 → e = .returned (.tuple #[.pointer none, .int .i64 er]) ∧ St w0 w' F) := by
 obtain ⟨aw, cw, rfl⟩ := (hvw w h).sub
 obtain ⟨am, cm, rfl⟩ := (hvm w h).sub
 have HVW := Lib.hid hvw; clear hvw
 have HVM := Lib.hid hvm; clear hvm
 have HSZ := Lib.hid hsz; clear hsz
 have HR := Lib.hid hR; clear hR
 have hA := h.alloc (.cells #[.int .i64 0, .int .i64 0, .int .i64 (-1)] 245)
 have hA1 : St w0 _ (own 245 3 (.slice (some ⟨w.heap.size, 0, none⟩) 1 1) 1 (flatN [nd0]) * _) := hA.own_blk (Nat.le_refl _) (by unfold maxLen; omega) rfl rfl
 have H1 := Lib.hid hA1; clear hA hA1 h
 have hln : ((ws.length : Int) != ms.length) = false := by rw [hlen]; simp
 have hml : ms.length ≤ 900 := by omega
 have HLEN := Lib.hid hlen; clear hlen
 go_enter Tryz.func138, Tryz.ntmps138
 go_wp2_with fail
 generalize hbn : w.heap.size = bn at *
 have C1 := clone_anyI H1.out ms (by omega) (v := .slice am ms.length cm) (fun w h => HVM.out w h.right)
 have HC1 := Lib.hid C1; clear C1
 refine HC1.out.mono ?_
 rintro e w2 ⟨v2, rfl, h2⟩
 obtain ⟨a2, c2, rfl⟩ := h2.reads.sub
 have H2 := Lib.hid h2; clear h2 HC1
 go_wp2_with fail
 refine (clone_anyS H2.out ws (by omega) (fun w h => HVW.out w h.right.right)).mono ?_
 rintro e w3 ⟨v3, rfl, h3⟩
 obtain ⟨a3, c3, rfl⟩ := h3.reads.sub
 have h4 := h3.alloc (.cells #[.slice (some ⟨bn, 0, none⟩) 1 1, .slice a2 ms.length c2, .slice a3 ws.length c3] 250)
 have H4 := Lib.hid h4; clear h4 h3
 go_wp2_with fail
 generalize hB : w3.heap.size = B at *
 have h5 := H4.out.perm (show _ = blk B (.cells #[.slice (some ⟨bn, 0, none⟩) 1 1, .slice a2 ms.length c2, .slice a3 ws.length c3] 250) * (own 245 3 (.slice (some ⟨bn, 0, none⟩) 1 1) 1 (flatN [nd0]) * (own 3 1 (.slice a2 ms.length c2) ms.length (ms.map iv) * (own 9 1 (.slice a3 ws.length c3) ws.length (ws.map svB) * F))) by ac_rfl)
 have H5 := Lib.hid h5; clear h5
 clear H4 H2 H1 hbn hB
 go_loopw [25] (fun vi wr => ∃ (k : Nat) (N1 : List Nd) (vn1 : Value), k ≤ ws.length ∧ vi = .int .i64 k ∧ NOk N1 ∧ N1.length ≤ 1 + 1000 * k ∧ layAll N1 k (ws.drop k) = (N, er) ∧
  St w0 wr (blk B (.cells #[vn1, .slice a2 ms.length c2, .slice a3 ws.length c3] 250) * (own 245 3 vn1 N1.length (flatN N1) * (own 3 1 (.slice a2 ms.length c2) ms.length (ms.map iv) * (own 9 1 (.slice a3 ws.length c3) ws.length (ws.map svB) * F))))) (fun vi _ => ws.length - (intOf vi).toNat)
 case atStart => exact ⟨0, [nd0], _, by omega, rfl, NOk.one, by simp, HR.out, H5.out⟩
 case round =>
  clear H5 HR
  obtain ⟨k, N1, vn1, hk, rfl, hN1, hlN, hlay, hst⟩ := hrel
  by_cases hkn : k < ws.length
  ·obtain ⟨g, off, rfl, hc⟩ := (HVW.out wr hst.right.right.right.right).at_ hkn
   have hx := List.getElem?_eq_getElem hkn
   have hdrop : ws.drop k = ws[k] :: ws.drop (k + 1) := List.drop_eq_getElem_cons hkn
   have hs1 := HSZ.out k _ hx
   generalize ws[k] = t at *
   have hc' : (ws.map svB)[k]? = some (.string ⟨t.toArray⟩) := by simp [hx, svB]
   rw [hc'] at hc
   rw [hdrop, layAll] at hlay
   clear hc' hx hdrop
   have HLAY := Lib.hid hlay; clear hlay
   have C := Lib.hid (lay_anyI hst hN1 (by omega) t (by omega) k (by omega))
   have HST := Lib.hid hst; clear hst
   generalize ByteArray.mk t.toArray = tb at *
   have hk1 : (k : Int) < ws.length := by omega
   go_wp2_with fail
   refine C.out.mono ?_
   rintro e w5 ⟨vn', rfl, h5, hN', hl'⟩
   generalize lay N1 t k = LL at *
   obtain ⟨N', er'⟩ := LL
   simp only at h5 hN' hl' HLAY
   by_cases her : er' = 0
   ·subst her
    have hlay := HLAY.out
    rw [if_pos rfl] at hlay
    have H5 := Lib.hid h5; clear h5
    have HL := Lib.hid hlay; clear hlay
    go_wp2_with fail
    exact ⟨⟨k + 1, N', vn', by omega, by go_num, hN', by omega, HL.out, H5.out⟩, by simp [intOf]; omega⟩
   ·have hlay := HLAY.out
    rw [if_neg her] at hlay
    have hlay2 : N = N' ∧ er = er' := by
     cases hlay; exact ⟨rfl, rfl⟩
    have HLL := Lib.hid hlay2; clear hlay hlay2 HLAY
    have H5 := Lib.hid h5; clear h5
    have he1 : ¬ (er' : Int) = 0 := by omega
    go_wp2_with fail
    go_ret2
    refine ⟨fun e0 => absurd (HLL.out.2 ▸ e0) her, fun _ => ⟨by rw [HLL.out.2]; rfl, H5.out.right.right.right.right⟩⟩
  ·obtain rfl : k = ws.length := by omega
   rw [List.drop_length, layAll] at hlay
   have hlay2 : N = N1 ∧ er = 0 := by
    cases hlay; exact ⟨rfl, rfl⟩
   obtain ⟨rfl, rfl⟩ := hlay2
   have HST := Lib.hid hst; clear hst hlay
   go_wp2_with fail
   go_ret2
   have hfin : St w0 wr (bookI B N ms ws * F) := St.mk_ex_l (vn1, .slice a2 ms.length c2, .slice a3 ws.length c3) (HST.out.perm (by ac_rfl))
   refine ⟨B, ?_, hfin⟩
   rfl
end Go.Proofs.YtboflbdniogcdaaGreatDoor
namespace Go.Proofs.YtboflbdniogcdaaGreatDoor
open Go.RowKit Go.Mz
set_option linter.unusedVariables false
set_option linter.unusedSimpArgs false
set_option maxRecDepth 100000
theorem elemM : ElemT Tryz.prog 191 196 1 8 (iv 0) :=
 ⟨Tryz.underlying191, info_parts (by kernel_rfl), rfl, by decide⟩
set_option maxHeartbeats 4000000 in
theorem clone_anyM {w0 w : World} {F : SProp} (h : St w0 w F) (xs : List Int) (hl : xs.length ≤ 1000000) {v : Value} (hv : Stb w0 F (fun w => Reads w 1 v xs.length (xs.map iv))) :
  Calls Tryz.prog 178 #[v] w fun e w' => ∃ v', e = .returned v' ∧ St w0 w' (own 196 1 v' xs.length (xs.map iv) * F) := by
 have T := elemM
 have H := Lib.hid h
 have hr := hv w h
 clear h
 obtain ⟨hxl, ⟨rfl, hn⟩ | ⟨x, cap, rfl, h1, h2, h3⟩⟩ := hr
 ·have hx0 : xs = [] := List.eq_nil_of_length_eq_zero hn
  subst hx0
  have hq : (binOp .eql 191 (.slice none 0 0) (.slice none 0 0)).run Tryz.prog w = .ok (.bool true) w := by kernel_rfl
  go_enter Tryz.func178, Tryz.ntmps178
  go_wp2_with fail
  go_ret
  exact ⟨_, rfl, St.own_nil _ _ H.out⟩
 ·have HV := Lib.hid hv; clear hv hxl h1 h2 h3
  have hq : (binOp .eql 191 (.slice (some x) xs.length cap) (.slice none 0 0)).run Tryz.prog w = .ok (.bool false) w := by
   have := run_equal_slice_nil (P := Tryz.prog) w 191 196 (some x) xs.length cap Tryz.underlying191
   simp [binOp, this]
  go_enter Tryz.func178, Tryz.ntmps178
  go_wp2_with (at_builtin; apply stop)
  refine on (wpList_append_sep T rfl _ _ rfl rfl (St.own_blk (e := 196) (size := 1) (n := 0) (cap := 0) (xs := []) (H.out.alloc (.cells #[] 196)) (Nat.le_refl _) (Nat.zero_le _) rfl rfl) rfl (HV.out _ (H.out.drop_alloc _)) (iv_oneCell xs) ?_ ?_ ?_)
  ·unfold maxLen; omega
  ·omega
  intro v' w3 h4 _
  simp only [Nat.zero_add, List.nil_append] at h4
  obtain ⟨a', cap', rfl⟩ := h4.reads.sub
  have H4 := Lib.hid h4; clear h4
  go_wp2_with fail
  go_ret
  exact ⟨_, rfl, H4.out⟩
end Go.Proofs.YtboflbdniogcdaaGreatDoor
namespace Go.Proofs.YtboflbdniogcdaaGreatDoor
open Go.RowKit Go.Mz
set_option linter.unusedVariables false
set_option linter.unusedSimpArgs false
set_option maxRecDepth 100000
set_option maxHeartbeats 40000000 in
theorem lay_anyM {w0 w : World} {F : SProp} {B : Nat} {vn vm vw : Value} {N : List Nd} (h : St w0 w (blk B (.cells #[vn, vm, vw] 254) * (own 245 3 vn N.length (flatN N) * F))) (hN : NOk N) (hl : N.length ≤ 1000000)
  (s : List UInt8) (hs : s.length ≤ 1000000) (mean : Nat) (hm : mean ≤ 1000000) :
  Calls Tryz.prog 179 #[.pointer (some ⟨B, 0, none⟩), .string ⟨s.toArray⟩, .int .i64 mean] w fun e w' => ∃ vn', e = .returned (.int .i64 (lay N s mean).2) ∧
   St w0 w' (blk B (.cells #[vn', vm, vw] 254) * (own 245 3 vn' (lay N s mean).1.length (flatN (lay N s mean).1) * F)) ∧ NOk (lay N s mean).1 ∧ (lay N s mean).1.length ≤ N.length + s.length := by
 have H := Lib.hid h; clear h
 have T := elemNodes
 by_cases hs0 : s = []
 ·subst hs0
  have HR := Lib.hid (show lay N [] mean = (N, 0) by rw [lay, if_pos rfl])
  go_enter Tryz.func179, Tryz.ntmps179
  go_wp2_with fail
  go_ret
  rw [HR.out]
  exact ⟨vn, rfl, H.out, hN, by simp⟩
 have HR := Lib.hid (show lay N s mean = layS mean N 0 s by rw [lay, if_neg hs0])
 have hne : ¬ (ByteArray.mk s.toArray).toList = [] := by rw [ByteArray.toList_eq]; exact hs0
 have hne2 : (ByteArray.mk s.toArray).toList.isEmpty = false := by
  cases hq : (ByteArray.mk s.toArray).toList with
  | nil => exact absurd hq hne
  | cons _ _ => rfl
 have hsz : (ByteArray.mk s.toArray).size = s.length := rfl
 have hat : ∀ (k : Nat) (c : UInt8), s[k]? = some c → ∀ hm, (ByteArray.mk s.toArray)[k]'hm = c := fun k c h hm => ba_get h hm
 have HAT := Lib.hid hat; clear hat
 generalize hsb : ByteArray.mk s.toArray = sb at *
 have HSB := Lib.hid hsb; clear hsb
 generalize hRR : layS mean N 0 s = RR at *
 have HRR := Lib.hid hRR; clear hRR
 go_enter Tryz.func179, Tryz.ntmps179
 go_wp2_with fail
 go_loopw [14, 7] (fun vi va wr => ∃ (k : Nat) (N1 : List Nd) (a : Nat) (vn1 : Value), k ≤ s.length ∧ vi = .int .i64 k ∧ va = .int .i64 a ∧ NOk N1 ∧ a < N1.length ∧ N1.length ≤ N.length + k ∧ layS mean N1 a (s.drop k) = RR ∧
  St w0 wr (blk B (.cells #[vn1, vm, vw] 254) * (own 245 3 vn1 N1.length (flatN N1) * F))) (fun vi _ _ => s.length - (intOf vi).toNat)
 case atStart => exact ⟨0, N, 0, vn, by omega, rfl, rfl, hN, hN.1, by omega, HRR.out, H.out⟩
 case round =>
  clear H HRR
  obtain ⟨k, N1, a, vn1, hk, rfl, rfl, hN1, ha, hlen, hlay, hst⟩ := hrel
  obtain ⟨an, cn, rfl⟩ := hst.right.reads.sub
  obtain ⟨gn, rfl⟩ := own_at hst.right (by omega)
  obtain ⟨d, hd⟩ : ∃ d, N1[a]? = some d := ⟨N1[a], List.getElem?_eq_getElem ha⟩
  have c0 := hst.cell 0 rfl
  have m0 := hst.right.own_cellS (flatN_mean hd)
  have x0 := hst.right.own_cellS (flatN_next hd (c := 0) (by omega))
  rw [Nat.add_zero] at x0
  have x1 := hst.right.own_cellS (flatN_next hd (c := 1) (by omega))
  have HST := Lib.hid hst; clear hst
  have HN1 := Lib.hid hN1; clear hN1
  have HD := Lib.hid hd; clear hd
  have ha1 : (a : Int) < N1.length := by omega
  by_cases hkn : k < s.length
  ·have hx := List.getElem?_eq_getElem hkn
   have hdrop : s.drop k = s[k] :: s.drop (k + 1) := List.drop_eq_getElem_cons hkn
   generalize s[k] = ch at *
   rw [hdrop] at hlay
   clear hdrop
   have hgx := HAT.out k ch hx
   clear hx
   have hk1 : (k : Int) < s.length := by omega
   by_cases hbad : ch ≠ 48 ∧ ch ≠ 49
   ·have HR2 := Lib.hid (show RR = (N1, 3) by rw [← hlay, layS_cons_bad hbad])
    clear hlay
    have hn48 : ch.toNat ≠ 48 := fun e => hbad.1 (UInt8.toNat_inj.1 e)
    have hn49 : ch.toNat ≠ 49 := fun e => hbad.2 (UInt8.toNat_inj.1 e)
    obtain ⟨z, hz, hz0, hz1⟩ : ∃ z : Int, wrap64 (wrap64 (ch.toNat : Int) - 48) = z ∧ ¬ z = 0 ∧ ¬ z = 1 := by
     have := UInt8.toNat_lt ch
     have e : wrap64 (ch.toNat : Int) = ch.toNat := by rw [wrap64]; omega
     refine ⟨(ch.toNat : Int) - 48, by rw [e, wrap64]; omega, by omega, by omega⟩
    have hz2 : (z != 0) = true := by rw [bne_iff_ne]; exact hz0
    have hz3 : (z != 1) = true := by rw [bne_iff_ne]; exact hz1
    clear hbad hn48 hn49 hz0 hz1
    clear m0 x0 x1
    go_wp2_with fail
    go_ret
    rw [HR.out, HR2.out]
    first | exact ⟨rfl, ⟨_, HST.out⟩, HN1.out, by simp only; omega⟩ | exact ⟨_, rfl, HST.out, HN1.out, by simp only; omega⟩
   ·have hch : ch = 48 ∧ (0 : Nat) = 0 ∨ ch = 49 ∧ (1 : Nat) = 1 := by
     by_cases e : ch = 48
     ·exact .inl ⟨e, rfl⟩
     ·by_cases e' : ch = 49
      ·exact .inr ⟨e', rfl⟩
      ·exact absurd ⟨e, e'⟩ hbad
    have w1 : wrap64 48 = 48 := by unfold wrap64; omega
    have w2 : wrap64 49 = 49 := by unfold wrap64; omega
    have w3 : wrap64 0 = 0 := by unfold wrap64; omega
    have w4 : wrap64 1 = 1 := by unfold wrap64; omega
    by_cases hmean : 0 ≤ d.mean
    ·have HR2 := Lib.hid (show RR = (N1, 14) by rw [← hlay, layS_cons_twice HD.out (by rcases hch with h | h; exact .inl h.1; exact .inr h.1) hmean])
     clear hlay
     rcases hch with ⟨hc, _⟩ | ⟨hc, _⟩
     ·have hcn : ch.toNat = 48 := by rw [hc]; rfl
      clear hc hbad x0 x1
      go_wp2_with fail
      go_ret
      rw [HR.out, HR2.out]
      first | exact ⟨rfl, ⟨_, HST.out⟩, HN1.out, by simp only; omega⟩ | exact ⟨_, rfl, HST.out, HN1.out, by simp only; omega⟩
     ·have hcn : ch.toNat = 49 := by rw [hc]; rfl
      clear hc hbad x0 x1
      go_wp2_with fail
      go_ret
      rw [HR.out, HR2.out]
      first | exact ⟨rfl, ⟨_, HST.out⟩, HN1.out, by simp only; omega⟩ | exact ⟨_, rfl, HST.out, HN1.out, by simp only; omega⟩
    ·have hmean' : d.mean < 0 := by omega
     rcases hch with ⟨hc, _⟩ | ⟨hc, _⟩
     ·have hcn : ch.toNat = 48 := by rw [hc]; rfl
      by_cases hnx : d.nx 0 = 0
      ·have hlay2 := hlay
       rw [layS_cons_new HD.out (.inl ⟨hc, rfl⟩) hmean hnx] at hlay2
       have HL2 := Lib.hid hlay2; clear hlay hlay2
       have hnk := HN1.out.more HD.out 0
       have hx00 : (d.nx 0 : Int) = 0 := by omega
       clear hc hbad x1
       rw [hx00] at x0
       go_wp2_with (at_builtin; apply stop)
       have hA := HST.out.alloc (.cells #[.int .i64 0, .int .i64 0, .int .i64 (-1)] 245)
       have hA1 : St w0 _ (own 245 3 (.slice (some ⟨wr.heap.size, 0, none⟩) 1 1) 1 (ndV nd0) * _) := hA.own_blk (Nat.le_refl _) (by unfold maxLen; omega) rfl rfl
       refine on (wpList_append_sep T rfl _ _ rfl rfl (hA1.right.perm (star_left_comm _ _ _)) rfl hA1.reads (by intro u hu; simp [ndV, nd0] at hu; rcases hu with rfl | rfl | rfl <;> rfl) ?_ ?_ ?_)
       ·unfold maxLen; omega
       ·omega
       intro v5 w5 h5 _
       rw [← flatN_snoc] at h5
       obtain ⟨a5, c5, rfl⟩ := h5.reads.sub
       have h5 := h5.perm (star_left_comm _ _ _)
       have f5 := h5.free 0
       have e5 := h5.cell 0 rfl
       have h6 := h5.set 0 (.slice a5 (N1.length + 1 : Nat) c5)
       have H6 := Lib.hid h6; clear h6 h5 hA hA1 c0 m0 x0
       go_upto_region 14 with (fail)
       generalize w5.setCell ⟨B, 0, none⟩ (.slice a5 (N1.length + 1 : Nat) c5) = W6 at *
       have h7 : St w0 W6 (blk B (.cells #[.slice a5 (N1.length + 1 : Nat) c5, vm, vw] 254) * (own 245 3 (.slice a5 (N1.length + 1 : Nat) c5) (N1.length + 1) (flatN (N1 ++ [nd0])) * _)) := H6.out
       clear H6
       obtain ⟨g5, rfl⟩ := own_at h7.right (by omega)
       have hd2 : (N1 ++ [nd0])[a]? = some d := by rw [List.getElem?_append_left (by omega)]; exact HD.out
       have c0 := h7.cell 0 rfl
       have hneg : ¬ g5 = B := h7.own_ne
       have hneg' : ¬ B = g5 := fun e => hneg e.symm
       have x0 := h7.right.own_cellS (flatN_next hd2 (c := 0) (by omega))
       have y0 := h7.right.own_free (a * 3 + 0)
       rw [hx00] at x0
       have h8 := (h7.perm (star_left_comm _ _ _)).own_setS (a * 3 + 0) (.int .i64 (N1.length : Int))
       rw [flatN_setNext hd2 (by omega)] at h8
       have h8 := h8.perm (star_left_comm _ _ _)
       have HST8 := Lib.hid h8; clear h8 h7
       have HNK := Lib.hid hnk; clear hnk
       have HD2 := Lib.hid hd2; clear hd2
       have hs2 : IntKind.i64.wrap ((N1.length : Int) + 1 - 1) = N1.length := by rw [IntWalk.i64_in _ (by omega)]; omega
       have hpos : (0 : Int) ≤ a := by omega
       have ha2 : (a : Int) < (N1.length : Int) + 1 := by omega
       try rw [Nat.add_zero] at x0
       try rw [Nat.add_zero] at y0
       go_region
       go_wp2_with fail
       refine ⟨⟨k + 1, (N1 ++ [nd0]).set a (d.put 0 N1.length), N1.length, .slice (some ⟨g5, 0, none⟩) (N1.length + 1 : Nat) c5, by omega, by go_num, rfl, HNK.out, by rw [List.length_set, List.length_append, List.length_singleton]; omega, by rw [List.length_set, List.length_append, List.length_singleton]; omega, HL2.out, ?_⟩, by simp [intOf]; omega⟩
       rw [List.length_set, List.length_append, List.length_singleton]
       exact HST8.out.drew
      ·have hlay2 := hlay
       rw [layS_cons_old HD.out (.inl ⟨hc, rfl⟩) hmean hnx] at hlay2
       have HL2 := Lib.hid hlay2; clear hlay hlay2
       have hlt := HN1.out.nx HD.out 0
       generalize d.nx 0 = nx at *
       have hnx1 : ¬ (nx : Int) = 0 := by omega
       clear hc hbad x1
       go_wp2_with fail
       exact ⟨⟨k + 1, N1, nx, _, by omega, by go_num, rfl, HN1.out, hlt, by omega, HL2.out, HST.out⟩, by simp [intOf]; omega⟩
     ·have hcn : ch.toNat = 49 := by rw [hc]; rfl
      by_cases hnx : d.nx 1 = 0
      ·have hlay2 := hlay
       rw [layS_cons_new HD.out (.inr ⟨hc, rfl⟩) hmean hnx] at hlay2
       have HL2 := Lib.hid hlay2; clear hlay hlay2
       have hnk := HN1.out.more HD.out 1
       have hx10 : (d.nx 1 : Int) = 0 := by omega
       clear hc hbad x0
       rw [hx10] at x1
       go_wp2_with (at_builtin; apply stop)
       have hA := HST.out.alloc (.cells #[.int .i64 0, .int .i64 0, .int .i64 (-1)] 245)
       have hA1 : St w0 _ (own 245 3 (.slice (some ⟨wr.heap.size, 0, none⟩) 1 1) 1 (ndV nd0) * _) := hA.own_blk (Nat.le_refl _) (by unfold maxLen; omega) rfl rfl
       refine on (wpList_append_sep T rfl _ _ rfl rfl (hA1.right.perm (star_left_comm _ _ _)) rfl hA1.reads (by intro u hu; simp [ndV, nd0] at hu; rcases hu with rfl | rfl | rfl <;> rfl) ?_ ?_ ?_)
       ·unfold maxLen; omega
       ·omega
       intro v5 w5 h5 _
       rw [← flatN_snoc] at h5
       obtain ⟨a5, c5, rfl⟩ := h5.reads.sub
       have h5 := h5.perm (star_left_comm _ _ _)
       have f5 := h5.free 0
       have e5 := h5.cell 0 rfl
       have h6 := h5.set 0 (.slice a5 (N1.length + 1 : Nat) c5)
       have H6 := Lib.hid h6; clear h6 h5 hA hA1 c0 m0 x1
       go_upto_region 14 with (fail)
       generalize w5.setCell ⟨B, 0, none⟩ (.slice a5 (N1.length + 1 : Nat) c5) = W6 at *
       have h7 : St w0 W6 (blk B (.cells #[.slice a5 (N1.length + 1 : Nat) c5, vm, vw] 254) * (own 245 3 (.slice a5 (N1.length + 1 : Nat) c5) (N1.length + 1) (flatN (N1 ++ [nd0])) * _)) := H6.out
       clear H6
       obtain ⟨g5, rfl⟩ := own_at h7.right (by omega)
       have hd2 : (N1 ++ [nd0])[a]? = some d := by rw [List.getElem?_append_left (by omega)]; exact HD.out
       have c0 := h7.cell 0 rfl
       have hneg : ¬ g5 = B := h7.own_ne
       have hneg' : ¬ B = g5 := fun e => hneg e.symm
       have x1 := h7.right.own_cellS (flatN_next hd2 (c := 1) (by omega))
       have y1 := h7.right.own_free (a * 3 + 1)
       rw [hx10] at x1
       have h8 := (h7.perm (star_left_comm _ _ _)).own_setS (a * 3 + 1) (.int .i64 (N1.length : Int))
       rw [flatN_setNext hd2 (by omega)] at h8
       have h8 := h8.perm (star_left_comm _ _ _)
       have HST8 := Lib.hid h8; clear h8 h7
       have HNK := Lib.hid hnk; clear hnk
       have HD2 := Lib.hid hd2; clear hd2
       have hs2 : IntKind.i64.wrap ((N1.length : Int) + 1 - 1) = N1.length := by rw [IntWalk.i64_in _ (by omega)]; omega
       have hpos : (0 : Int) ≤ a := by omega
       have ha2 : (a : Int) < (N1.length : Int) + 1 := by omega
       try rw [Nat.add_zero] at x1
       try rw [Nat.add_zero] at y1
       go_region
       go_wp2_with fail
       refine ⟨⟨k + 1, (N1 ++ [nd0]).set a (d.put 1 N1.length), N1.length, .slice (some ⟨g5, 0, none⟩) (N1.length + 1 : Nat) c5, by omega, by go_num, rfl, HNK.out, by rw [List.length_set, List.length_append, List.length_singleton]; omega, by rw [List.length_set, List.length_append, List.length_singleton]; omega, HL2.out, ?_⟩, by simp [intOf]; omega⟩
       rw [List.length_set, List.length_append, List.length_singleton]
       exact HST8.out.drew
      ·have hlay2 := hlay
       rw [layS_cons_old HD.out (.inr ⟨hc, rfl⟩) hmean hnx] at hlay2
       have HL2 := Lib.hid hlay2; clear hlay hlay2
       have hlt := HN1.out.nx HD.out 1
       generalize d.nx 1 = nx at *
       have hnx1 : ¬ (nx : Int) = 0 := by omega
       clear hc hbad x0
       go_wp2_with fail
       exact ⟨⟨k + 1, N1, nx, _, by omega, by go_num, rfl, HN1.out, hlt, by omega, HL2.out, HST.out⟩, by simp [intOf]; omega⟩
  ·obtain rfl : k = s.length := by omega
   rw [List.drop_length] at hlay
   have hk1 : ¬ (s.length : Int) < s.length := by omega
   by_cases hmean : 0 ≤ d.mean
   ·have HR2 := Lib.hid (show RR = (N1, 14) by rw [← hlay, layS_nil_bad HD.out (.inl hmean)])
    clear hlay x0 x1
    go_wp2_with fail
    go_ret
    rw [HR.out, HR2.out]
    first | exact ⟨rfl, ⟨_, HST.out⟩, HN1.out, by simp only; omega⟩ | exact ⟨_, rfl, HST.out, HN1.out, by simp only; omega⟩
   ·have hmean' : d.mean < 0 := by omega
    have hx0 : d.nx 0 = d.n0 := rfl
    have hx1 : d.nx 1 = d.n1 := rfl
    rw [hx0] at x0
    rw [hx1] at x1
    clear hx0 hx1
    by_cases hz : d.n0 = 0 ∧ d.n1 = 0
    ·have HR2 := Lib.hid (show RR = (N1.set a { d with mean := mean }, 0) by rw [← hlay, layS_nil_ok HD.out hmean hz.1 hz.2])
     have hnm := HN1.out.mean HD.out mean
     have f0 := HST.out.right.own_free (a * 3 + 2)
     have h6 := (HST.out.perm (star_left_comm _ _ _)).own_setS (a * 3 + 2) (.int .i64 mean)
     rw [flatN_setMean HD.out] at h6
     have h6 := h6.perm (star_left_comm _ _ _)
     have H6 := Lib.hid h6; clear h6 hlay
     rw [hz.1] at x0
     rw [hz.2] at x1
     have heq : (Op.equalIn 10000 131 (.agg #[.int .i64 0, .int .i64 0]) (.agg #[.int .i64 0, .int .i64 0])).run Tryz.prog wr = .ok true wr := eq_two (p := 0) (q := 0) (by omega) (by omega) wr
     go_wp2_with fail
     go_ret
     rw [HR.out, HR2.out]
     rw [List.length_set] at *
     refine ⟨rfl, ⟨_, H6.out⟩, hnm, ?_⟩
     omega
    ·have HR2 := Lib.hid (show RR = (N1, 14) by rw [← hlay, layS_nil_bad HD.out (.inr (by omega))])
     clear hlay
     have hb0 := HN1.out.nx HD.out 0
     have hb1 := HN1.out.nx HD.out 1
     rw [show d.nx 0 = d.n0 from rfl] at hb0
     rw [show d.nx 1 = d.n1 from rfl] at hb1
     have heq : (Op.equalIn 10000 131 (.agg #[.int .i64 d.n0, .int .i64 d.n1]) (.agg #[.int .i64 0, .int .i64 0])).run Tryz.prog wr = .ok false wr := by
      rw [eq_two (by omega) (by omega), decide_eq_false hz]
     generalize d.n0 = p0 at *
     generalize d.n1 = p1 at *
     clear hz
     go_wp2_with fail
     go_ret
     rw [HR.out, HR2.out]
     first | exact ⟨rfl, ⟨_, HST.out⟩, HN1.out, by simp only; omega⟩ | exact ⟨_, rfl, HST.out, HN1.out, by simp only; omega⟩
end Go.Proofs.YtboflbdniogcdaaGreatDoor
namespace Go.Proofs.YtboflbdniogcdaaGreatDoor
open Go.RowKit Go.Mz
set_option linter.unusedVariables false
set_option linter.unusedSimpArgs false
set_option maxRecDepth 100000
def bookM (B : Nat) (N : List Nd) (ms : List Int) (ws : List (List UInt8)) : SProp := sEx fun x : Value × Value × Value =>
 blk B (.cells #[x.1, x.2.1, x.2.2] 254) * (own 245 3 x.1 N.length (flatN N) * (own 196 1 x.2.1 ms.length (ms.map iv) * own 9 1 x.2.2 ws.length (ws.map svB)))
set_option maxHeartbeats 40000000 in
theorem new_anyM {w0 w : World} {F : SProp} (h : St w0 w F) (ws : List (List UInt8)) (ms : List Int) (hlen : ms.length = ws.length) (hl : ws.length ≤ 900) (hsz : ∀ (i : Nat) (t : List UInt8), ws[i]? = some t → t.length ≤ 1000) {vw vm : Value}
  (hvw : Stb w0 F (fun w => Reads w 1 vw ws.length (ws.map svB))) (hvm : Stb w0 F (fun w => Reads w 1 vm ms.length (ms.map iv))) {N : List Nd} {er : Nat} (hR : layAll [nd0] 0 ws = (N, er)) :
  Calls Tryz.prog 140 #[vw, vm] w fun e w' => (er = 0 → ∃ B, e = .returned (.tuple #[.pointer (some ⟨B, 0, none⟩), .int .i64 0]) ∧ St w0 w' (bookM B N ms ws * F) ∧ NOk N) ∧
   (er ≠ 0 → e = .returned (.tuple #[.pointer none, .int .i64 er]) ∧ St w0 w' F) := by
 obtain ⟨aw, cw, rfl⟩ := (hvw w h).sub
 obtain ⟨am, cm, rfl⟩ := (hvm w h).sub
 have HVW := Lib.hid hvw; clear hvw
 have HVM := Lib.hid hvm; clear hvm
 have HSZ := Lib.hid hsz; clear hsz
 have HR := Lib.hid hR; clear hR
 have hA := h.alloc (.cells #[.int .i64 0, .int .i64 0, .int .i64 (-1)] 245)
 have hA1 : St w0 _ (own 245 3 (.slice (some ⟨w.heap.size, 0, none⟩) 1 1) 1 (flatN [nd0]) * _) := hA.own_blk (Nat.le_refl _) (by unfold maxLen; omega) rfl rfl
 have H1 := Lib.hid hA1; clear hA hA1 h
 have hln : ((ws.length : Int) != ms.length) = false := by rw [hlen]; simp
 have hml : ms.length ≤ 900 := by omega
 have HLEN := Lib.hid hlen; clear hlen
 go_enter Tryz.func140, Tryz.ntmps140
 go_wp2_with fail
 generalize hbn : w.heap.size = bn at *
 have C1 := clone_anyM H1.out ms (by omega) (v := .slice am ms.length cm) (fun w h => HVM.out w h.right)
 have HC1 := Lib.hid C1; clear C1
 refine HC1.out.mono ?_
 rintro e w2 ⟨v2, rfl, h2⟩
 obtain ⟨a2, c2, rfl⟩ := h2.reads.sub
 have H2 := Lib.hid h2; clear h2 HC1
 go_wp2_with fail
 refine (clone_anyS H2.out ws (by omega) (fun w h => HVW.out w h.right.right)).mono ?_
 rintro e w3 ⟨v3, rfl, h3⟩
 obtain ⟨a3, c3, rfl⟩ := h3.reads.sub
 have h4 := h3.alloc (.cells #[.slice (some ⟨bn, 0, none⟩) 1 1, .slice a2 ms.length c2, .slice a3 ws.length c3] 254)
 have H4 := Lib.hid h4; clear h4 h3
 go_wp2_with fail
 generalize hB : w3.heap.size = B at *
 have h5 := H4.out.perm (show _ = blk B (.cells #[.slice (some ⟨bn, 0, none⟩) 1 1, .slice a2 ms.length c2, .slice a3 ws.length c3] 254) * (own 245 3 (.slice (some ⟨bn, 0, none⟩) 1 1) 1 (flatN [nd0]) * (own 196 1 (.slice a2 ms.length c2) ms.length (ms.map iv) * (own 9 1 (.slice a3 ws.length c3) ws.length (ws.map svB) * F))) by ac_rfl)
 have H5 := Lib.hid h5; clear h5
 clear H4 H2 H1 hbn hB
 go_loopw [25] (fun vi wr => ∃ (k : Nat) (N1 : List Nd) (vn1 : Value), k ≤ ws.length ∧ vi = .int .i64 k ∧ NOk N1 ∧ N1.length ≤ 1 + 1000 * k ∧ layAll N1 k (ws.drop k) = (N, er) ∧
  St w0 wr (blk B (.cells #[vn1, .slice a2 ms.length c2, .slice a3 ws.length c3] 254) * (own 245 3 vn1 N1.length (flatN N1) * (own 196 1 (.slice a2 ms.length c2) ms.length (ms.map iv) * (own 9 1 (.slice a3 ws.length c3) ws.length (ws.map svB) * F))))) (fun vi _ => ws.length - (intOf vi).toNat)
 case atStart => exact ⟨0, [nd0], _, by omega, rfl, NOk.one, by simp, HR.out, H5.out⟩
 case round =>
  clear H5 HR
  obtain ⟨k, N1, vn1, hk, rfl, hN1, hlN, hlay, hst⟩ := hrel
  by_cases hkn : k < ws.length
  ·obtain ⟨g, off, rfl, hc⟩ := (HVW.out wr hst.right.right.right.right).at_ hkn
   have hx := List.getElem?_eq_getElem hkn
   have hdrop : ws.drop k = ws[k] :: ws.drop (k + 1) := List.drop_eq_getElem_cons hkn
   have hs1 := HSZ.out k _ hx
   generalize ws[k] = t at *
   have hc' : (ws.map svB)[k]? = some (.string ⟨t.toArray⟩) := by simp [hx, svB]
   rw [hc'] at hc
   rw [hdrop, layAll] at hlay
   clear hc' hx hdrop
   have HLAY := Lib.hid hlay; clear hlay
   have C := Lib.hid (lay_anyM hst hN1 (by omega) t (by omega) k (by omega))
   have HST := Lib.hid hst; clear hst
   generalize ByteArray.mk t.toArray = tb at *
   have hk1 : (k : Int) < ws.length := by omega
   go_wp2_with fail
   refine C.out.mono ?_
   rintro e w5 ⟨vn', rfl, h5, hN', hl'⟩
   generalize lay N1 t k = LL at *
   obtain ⟨N', er'⟩ := LL
   simp only at h5 hN' hl' HLAY
   by_cases her : er' = 0
   ·subst her
    have hlay := HLAY.out
    rw [if_pos rfl] at hlay
    have H5 := Lib.hid h5; clear h5
    have HL := Lib.hid hlay; clear hlay
    go_wp2_with fail
    exact ⟨⟨k + 1, N', vn', by omega, by go_num, hN', by omega, HL.out, H5.out⟩, by simp [intOf]; omega⟩
   ·have hlay := HLAY.out
    rw [if_neg her] at hlay
    have hlay2 : N = N' ∧ er = er' := by
     cases hlay; exact ⟨rfl, rfl⟩
    have HLL := Lib.hid hlay2; clear hlay hlay2 HLAY
    have H5 := Lib.hid h5; clear h5
    have he1 : ¬ (er' : Int) = 0 := by omega
    go_wp2_with fail
    go_ret2
    refine ⟨fun e0 => absurd (HLL.out.2 ▸ e0) her, fun _ => ⟨by rw [HLL.out.2]; rfl, H5.out.right.right.right.right⟩⟩
  ·obtain rfl : k = ws.length := by omega
   rw [List.drop_length, layAll] at hlay
   have hlay2 : N = N1 ∧ er = 0 := by
    cases hlay; exact ⟨rfl, rfl⟩
   obtain ⟨rfl, rfl⟩ := hlay2
   have HST := Lib.hid hst; clear hst hlay
   go_wp2_with fail
   go_ret2
   have hfin : St w0 wr (bookM B N ms ws * F) := St.mk_ex_l (vn1, .slice a2 ms.length c2, .slice a3 ws.length c3) (HST.out.perm (by ac_rfl))
   refine ⟨B, ?_, hfin⟩
   rfl
end Go.Proofs.YtboflbdniogcdaaGreatDoor
namespace Go.Proofs.YtboflbdniogcdaaGreatDoor
open Go.RowKit Go.Mz
set_option linter.unusedVariables false
set_option linter.unusedSimpArgs false
set_option maxRecDepth 100000
def wAt (ws : List (List UInt8)) (i : Int) : List UInt8 := if 0 ≤ i ∧ i < ws.length then ws.getD i.toNat [] else []
def wordR (ws : List (List UInt8)) (i : Int) : Value := if 0 ≤ i ∧ i < ws.length then .tuple #[svB (ws.getD i.toNat []), .int .i64 0] else .tuple #[.string ⟨#[]⟩, .int .i64 12]
theorem bookI_words {w0 w : World} {F : SProp} {B : Nat} {N : List Nd} {ms : List Int} {ws : List (List UInt8)} (h : St w0 w (bookI B N ms ws * F)) :
  ∃ aw cw, w.cell? ⟨B, 2, none⟩ = some (.slice aw ws.length cw) ∧ Reads w 1 (.slice aw ws.length cw) ws.length (ws.map svB) := by
 obtain ⟨⟨vn, vm, vw⟩, h⟩ := h.ex_l
 simp only at h
 have h' := h.perm (show _ = own 9 1 vw ws.length (ws.map svB) * (blk B (.cells #[vn, vm, vw] 250) * (own 245 3 vn N.length (flatN N) * (own 3 1 vm ms.length (ms.map iv) * F))) by ac_rfl)
 obtain ⟨aw, cw, rfl⟩ := h'.reads.sub
 exact ⟨aw, cw, h'.right.cell 2 rfl, h'.reads⟩
theorem hlen_anyI {w0 w : World} {F : SProp} {B : Nat} {N : List Nd} {ms : List Int} {ws : List (List UInt8)} (h : St w0 w (bookI B N ms ws * F)) :
  Calls Tryz.prog 217 #[.pointer (some ⟨B, 0, none⟩)] w fun e w' => e = .returned (.int .i64 ws.length) ∧ w' = w := by
 obtain ⟨aw, cw, c2, hr⟩ := bookI_words h
 clear h hr
 go_enter Tryz.func217, Tryz.ntmps217
 go_wp2_with fail
 go_ret
 exact ⟨rfl, rfl⟩
theorem hword_anyI {w0 w : World} {F : SProp} {B : Nat} {N : List Nd} {ms : List Int} {ws : List (List UInt8)} (h : St w0 w (bookI B N ms ws * F)) (i : Int) :
  Calls Tryz.prog 205 #[.pointer (some ⟨B, 0, none⟩), .int .i64 i] w fun e w' => e = .returned (wordR ws i) ∧ w' = w := by
 obtain ⟨aw, cw, c2, hr⟩ := bookI_words h
 have HL := Lib.hid (hlen_anyI h)
 by_cases hi : i < 0
 ·have HR := Lib.hid (show wordR ws i = .tuple #[.string ⟨#[]⟩, .int .i64 12] by rw [wordR, if_neg (by omega)])
  clear h hr
  go_enter Tryz.func205, Tryz.ntmps205
  go_wp2_with fail
  go_ret2
  exact ⟨by rw [HR.out]; rfl, rfl⟩
 ·obtain ⟨k, rfl⟩ : ∃ k : Nat, i = k := ⟨i.toNat, by omega⟩
  by_cases hk : k < ws.length
  ·obtain ⟨g, o, rfl, e⟩ := hr.at_ hk
   have hx := List.getElem?_eq_getElem hk
   have HR := Lib.hid (show wordR ws k = .tuple #[svB ws[k], .int .i64 0] by rw [wordR, if_pos (by omega), Int.toNat_natCast, List.getD_eq_getElem?_getD, hx]; rfl)
   rw [List.getElem?_map, hx] at e
   generalize ws[k] = t at *
   simp only [Option.map_some, svB] at e
   have hk2 : (k : Int) < ws.length := by omega
   clear h hr hx
   go_enter Tryz.func205, Tryz.ntmps205
   go_wp2_with fail
   refine HL.out.mono ?_
   rintro e w' ⟨rfl, rfl⟩
   go_wp2_with fail
   go_ret2
   exact ⟨by rw [HR.out]; rfl, rfl⟩
  ·have HR := Lib.hid (show wordR ws k = .tuple #[.string ⟨#[]⟩, .int .i64 12] by rw [wordR, if_neg (by omega)])
   have hk2 : (ws.length : Int) ≤ k := by omega
   clear h hr
   go_enter Tryz.func205, Tryz.ntmps205
   go_wp2_with fail
   refine HL.out.mono ?_
   rintro e w' ⟨rfl, rfl⟩
   go_wp2_with fail
   go_ret2
   exact ⟨by rw [HR.out]; rfl, rfl⟩
theorem hwrite_anyI {w0 w : World} {F : SProp} {B W : Nat} {N : List Nd} {ms : List Int} {ws : List (List UInt8)} {l : List Nat} {low : Bool} (h : St w0 w (bookI B N ms ws * (wrt W l low * F))) (i : Int)
  (hd : digB (wAt ws i) = true) (hl : (wAt ws i).length ≤ 1000000) (hm : l.length ≤ 10000000000000) :
  Calls Tryz.prog 181 #[.pointer (some ⟨B, 0, none⟩), .pointer (some ⟨W, 0, none⟩), .int .i64 i] w fun e w' => e = .returned (.int .i64 (if wAt ws i = [] then 12 else 0)) ∧ St w0 w' (bookI B N ms ws * (wrt W (l ++ unTx (wAt ws i)) low * F)) := by
 have HW := Lib.hid (hword_anyI h i)
 have H := Lib.hid h
 have hC := fun (hne : wAt ws i ≠ []) => word_ok (h.perm (star_left_comm _ _ _)) (wAt ws i) (by omega) hd (by omega)
 by_cases hi : 0 ≤ i ∧ i < ws.length
 ·have e1 : wordR ws i = .tuple #[svB (wAt ws i), .int .i64 0] := by rw [wordR, wAt, if_pos hi, if_pos hi]
  rw [e1] at HW
  clear e1
  generalize wAt ws i = t at *
  have HC := Lib.hid hC; clear hC h
  by_cases ht : t = []
  ·subst ht
   go_enter Tryz.func181, Tryz.ntmps181
   go_wp2_with fail
   refine HW.out.mono ?_
   rintro e w' ⟨rfl, rfl⟩
   unfold svB
   go_wp2_with fail
   go_ret
   refine ⟨rfl, ?_⟩
   simpa [unTx] using H.out
  ·have hne : ¬ (ByteArray.mk t.toArray).toList = [] := by rw [ByteArray.toList_eq]; exact ht
   have hne2 : (ByteArray.mk t.toArray).toList.isEmpty = false := by
    cases hq : (ByteArray.mk t.toArray).toList with
    | nil => exact absurd hq hne
    | cons _ _ => rfl
   have C := Lib.hid (HC.out ht); clear HC
   have HT := Lib.hid ht; clear ht
   unfold svB at HW
   generalize ByteArray.mk t.toArray = tb at *
   go_enter Tryz.func181, Tryz.ntmps181
   go_wp2_with fail
   refine HW.out.mono ?_
   rintro e w' ⟨rfl, rfl⟩
   go_wp2_with fail
   refine C.out.mono ?_
   rintro e w2 ⟨rfl, h2⟩
   have H2 := Lib.hid h2; clear h2
   go_wp2_with fail
   go_ret
   refine ⟨rfl, H2.out.perm (star_left_comm _ _ _)⟩
 ·have e1 : wordR ws i = .tuple #[.string ⟨#[]⟩, .int .i64 12] := by rw [wordR, if_neg hi]
  have e2 : wAt ws i = [] := by rw [wAt, if_neg hi]
  rw [e1] at HW
  rw [e2]
  clear hC h hd hl hi
  go_enter Tryz.func181, Tryz.ntmps181
  go_wp2_with fail
  refine HW.out.mono ?_
  rintro e w' ⟨rfl, rfl⟩
  go_wp2_with fail
  go_ret
  refine ⟨rfl, ?_⟩
  simpa [unTx] using H.out
end Go.Proofs.YtboflbdniogcdaaGreatDoor
namespace Go.Proofs.YtboflbdniogcdaaGreatDoor
open Go.RowKit Go.Mz
set_option linter.unusedVariables false
set_option linter.unusedSimpArgs false
set_option maxRecDepth 100000
theorem bookM_words {w0 w : World} {F : SProp} {B : Nat} {N : List Nd} {ms : List Int} {ws : List (List UInt8)} (h : St w0 w (bookM B N ms ws * F)) :
  ∃ aw cw, w.cell? ⟨B, 2, none⟩ = some (.slice aw ws.length cw) ∧ Reads w 1 (.slice aw ws.length cw) ws.length (ws.map svB) := by
 obtain ⟨⟨vn, vm, vw⟩, h⟩ := h.ex_l
 simp only at h
 have h' := h.perm (show _ = own 9 1 vw ws.length (ws.map svB) * (blk B (.cells #[vn, vm, vw] 254) * (own 245 3 vn N.length (flatN N) * (own 196 1 vm ms.length (ms.map iv) * F))) by ac_rfl)
 obtain ⟨aw, cw, rfl⟩ := h'.reads.sub
 exact ⟨aw, cw, h'.right.cell 2 rfl, h'.reads⟩
theorem hlen_anyM {w0 w : World} {F : SProp} {B : Nat} {N : List Nd} {ms : List Int} {ws : List (List UInt8)} (h : St w0 w (bookM B N ms ws * F)) :
  Calls Tryz.prog 218 #[.pointer (some ⟨B, 0, none⟩)] w fun e w' => e = .returned (.int .i64 ws.length) ∧ w' = w := by
 obtain ⟨aw, cw, c2, hr⟩ := bookM_words h
 clear h hr
 go_enter Tryz.func218, Tryz.ntmps218
 go_wp2_with fail
 go_ret
 exact ⟨rfl, rfl⟩
theorem hword_anyM {w0 w : World} {F : SProp} {B : Nat} {N : List Nd} {ms : List Int} {ws : List (List UInt8)} (h : St w0 w (bookM B N ms ws * F)) (i : Int) :
  Calls Tryz.prog 206 #[.pointer (some ⟨B, 0, none⟩), .int .i64 i] w fun e w' => e = .returned (wordR ws i) ∧ w' = w := by
 obtain ⟨aw, cw, c2, hr⟩ := bookM_words h
 have HL := Lib.hid (hlen_anyM h)
 by_cases hi : i < 0
 ·have HR := Lib.hid (show wordR ws i = .tuple #[.string ⟨#[]⟩, .int .i64 12] by rw [wordR, if_neg (by omega)])
  clear h hr
  go_enter Tryz.func206, Tryz.ntmps206
  go_wp2_with fail
  go_ret2
  exact ⟨by rw [HR.out]; rfl, rfl⟩
 ·obtain ⟨k, rfl⟩ : ∃ k : Nat, i = k := ⟨i.toNat, by omega⟩
  by_cases hk : k < ws.length
  ·obtain ⟨g, o, rfl, e⟩ := hr.at_ hk
   have hx := List.getElem?_eq_getElem hk
   have HR := Lib.hid (show wordR ws k = .tuple #[svB ws[k], .int .i64 0] by rw [wordR, if_pos (by omega), Int.toNat_natCast, List.getD_eq_getElem?_getD, hx]; rfl)
   rw [List.getElem?_map, hx] at e
   generalize ws[k] = t at *
   simp only [Option.map_some, svB] at e
   have hk2 : (k : Int) < ws.length := by omega
   clear h hr hx
   go_enter Tryz.func206, Tryz.ntmps206
   go_wp2_with fail
   refine HL.out.mono ?_
   rintro e w' ⟨rfl, rfl⟩
   go_wp2_with fail
   go_ret2
   exact ⟨by rw [HR.out]; rfl, rfl⟩
  ·have HR := Lib.hid (show wordR ws k = .tuple #[.string ⟨#[]⟩, .int .i64 12] by rw [wordR, if_neg (by omega)])
   have hk2 : (ws.length : Int) ≤ k := by omega
   clear h hr
   go_enter Tryz.func206, Tryz.ntmps206
   go_wp2_with fail
   refine HL.out.mono ?_
   rintro e w' ⟨rfl, rfl⟩
   go_wp2_with fail
   go_ret2
   exact ⟨by rw [HR.out]; rfl, rfl⟩
theorem hwrite_anyM {w0 w : World} {F : SProp} {B W : Nat} {N : List Nd} {ms : List Int} {ws : List (List UInt8)} {l : List Nat} {low : Bool} (h : St w0 w (bookM B N ms ws * (wrt W l low * F))) (i : Int)
  (hd : digB (wAt ws i) = true) (hl : (wAt ws i).length ≤ 1000000) (hm : l.length ≤ 10000000000000) :
  Calls Tryz.prog 182 #[.pointer (some ⟨B, 0, none⟩), .pointer (some ⟨W, 0, none⟩), .int .i64 i] w fun e w' => e = .returned (.int .i64 (if wAt ws i = [] then 12 else 0)) ∧ St w0 w' (bookM B N ms ws * (wrt W (l ++ unTx (wAt ws i)) low * F)) := by
 have HW := Lib.hid (hword_anyM h i)
 have H := Lib.hid h
 have hC := fun (hne : wAt ws i ≠ []) => word_ok (h.perm (star_left_comm _ _ _)) (wAt ws i) (by omega) hd (by omega)
 by_cases hi : 0 ≤ i ∧ i < ws.length
 ·have e1 : wordR ws i = .tuple #[svB (wAt ws i), .int .i64 0] := by rw [wordR, wAt, if_pos hi, if_pos hi]
  rw [e1] at HW
  clear e1
  generalize wAt ws i = t at *
  have HC := Lib.hid hC; clear hC h
  by_cases ht : t = []
  ·subst ht
   go_enter Tryz.func182, Tryz.ntmps182
   go_wp2_with fail
   refine HW.out.mono ?_
   rintro e w' ⟨rfl, rfl⟩
   unfold svB
   go_wp2_with fail
   go_ret
   refine ⟨rfl, ?_⟩
   simpa [unTx] using H.out
  ·have hne : ¬ (ByteArray.mk t.toArray).toList = [] := by rw [ByteArray.toList_eq]; exact ht
   have hne2 : (ByteArray.mk t.toArray).toList.isEmpty = false := by
    cases hq : (ByteArray.mk t.toArray).toList with
    | nil => exact absurd hq hne
    | cons _ _ => rfl
   have C := Lib.hid (HC.out ht); clear HC
   have HT := Lib.hid ht; clear ht
   unfold svB at HW
   generalize ByteArray.mk t.toArray = tb at *
   go_enter Tryz.func182, Tryz.ntmps182
   go_wp2_with fail
   refine HW.out.mono ?_
   rintro e w' ⟨rfl, rfl⟩
   go_wp2_with fail
   refine C.out.mono ?_
   rintro e w2 ⟨rfl, h2⟩
   have H2 := Lib.hid h2; clear h2
   go_wp2_with fail
   go_ret
   refine ⟨rfl, H2.out.perm (star_left_comm _ _ _)⟩
 ·have e1 : wordR ws i = .tuple #[.string ⟨#[]⟩, .int .i64 12] := by rw [wordR, if_neg hi]
  have e2 : wAt ws i = [] := by rw [wAt, if_neg hi]
  rw [e1] at HW
  rw [e2]
  clear hC h hd hl hi
  go_enter Tryz.func182, Tryz.ntmps182
  go_wp2_with fail
  refine HW.out.mono ?_
  rintro e w' ⟨rfl, rfl⟩
  go_wp2_with fail
  go_ret
  refine ⟨rfl, ?_⟩
  simpa [unTx] using H.out
end Go.Proofs.YtboflbdniogcdaaGreatDoor
